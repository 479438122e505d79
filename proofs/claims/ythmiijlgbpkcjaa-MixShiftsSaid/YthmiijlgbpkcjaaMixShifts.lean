/- The fourth statement of mix, on logical values. -/
import Derived.Test.YthmiijlgbpkcjaaMixIn
namespace Go.Proofs.Ythmiijlgbpkcjaa
open Go Lg

theorem u64_mod (x : Int) : IntKind.u64.wrap x = x % 18446744073709551616 := by
  simp [IntKind.wrap, IntKind.signed, IntKind.bits]

theorem places_drop (bs : List Int) (s : Int) (m : Nat) (p : Int) (hm : 1 ≤ m) : (places bs s m p).drop 1 = places bs (IntKind.u64.wrap (s + 1)) (m - 1) p := by
  obtain ⟨j, rfl⟩ : ∃ j, m = j + 1 := ⟨m - 1, by omega⟩
  simp only [places, Nat.add_sub_cancel]
  rw [List.range_succ_eq_map]
  simp only [List.map_cons, List.drop_succ_cons, List.drop_zero, List.map_map]
  refine List.map_congr_left fun i _ => ?_
  simp only [Function.comp_apply, u64_mod]
  congr 2
  omega

theorem twice {h p : Int} (hp : 1 ≤ p) : h % (2 * p) = h % p ∨ h % (2 * p) = h % p + p := by
  have e1 := Int.emod_add_mul_ediv h (2 * p)
  have r1 := Int.emod_nonneg h (show 2 * p ≠ 0 by omega)
  have r2 := Int.emod_lt_of_pos h (show 0 < 2 * p by omega)
  generalize hx : h % (2 * p) = x at e1 r1 r2 ⊢
  have key : h % p = x % p := by
    rw [← e1, show 2 * p * (h / (2 * p)) = p * (2 * (h / (2 * p))) by rw [Int.mul_comm 2 p, Int.mul_assoc], Int.add_mul_emod_self_left]
  rw [key]
  by_cases hlt : x < p
  · left; rw [Int.emod_eq_of_lt r1 hlt]
  · right
    have : x % p = x - p := by
      rw [← Int.sub_emod_right]
      exact Int.emod_eq_of_lt (by omega) (by omega)
    omega

theorem mixShifts_any (y0 : (List (Int)) × (Int) × (Int) × (Int)) (h0 : ((∀ z ∈ y0.1, (Lit.int .u8 z).wf = true) ∧ y0.1.length * 1 ≤ 140737488351232) ∧ ((Lit.int .u64 y0.2.1).wf = true) ∧ ((Lit.int .u8 y0.2.2.1).wf = true) ∧ ((Lit.int .u32 y0.2.2.2).wf = true)) :
    PC Try.prog 6 [.agg [L.sl 1 false (y0.1.map fun (z : Int) => L.v (.int .u8 z)), L.v (.int .u64 y0.2.1), L.v (.int .u8 y0.2.2.1), L.v (.int .u32 y0.2.2.2)]] (.v (.bool true)) := by
  obtain ⟨bs, s, k, n⟩ := y0
  obtain ⟨⟨hbs, hlen⟩, hs, hk, hn⟩ := h0
  simp [Lit.wf, IntKind.min, IntKind.max, IntKind.signed, IntKind.bits] at hs hk hn hlen ⊢
  obtain ⟨M, hM, hM2, hM1⟩ : ∃ M : Nat, IntKind.i64.wrap (1 + (IntKind.i64.wrap k).tmod 60) = (M : Int) ∧ M ≤ 60 ∧ 1 ≤ M := by
    refine ⟨(1 + k % 60).toNat, ?_, by omega, by omega⟩
    rw [wrap_id (n := k) (by omega) (by omega), Int.tmod_eq_emod_of_nonneg (by omega), wrap_id (by omega) (by omega)]
    omega
  obtain ⟨p, hp, hp1, hp2⟩ : ∃ p : Int, IntKind.i64.wrap (1 + IntKind.i64.wrap n) = p ∧ 1 ≤ p ∧ p ≤ 4294967296 :=
    ⟨1 + n, by rw [wrap_id (n := n) (by omega) (by omega), wrap_id (by omega) (by omega)], by omega, by omega⟩
  have hM3 : IntKind.i64.wrap ((M : Int) - 1) = (M : Int) - 1 := wrap_id (by omega) (by omega)
  have hM4 : ((M : Int) - 1).toNat = M - 1 := by omega
  have hp3 : IntKind.i64.wrap (2 * p) = 2 * p := wrap_id (by omega) (by omega)
  refine pc_of_call (callAt_enter ir6 (by simp) ?_)
  simp
  refine callT_closed shown_any rfl ?_
  simp [hM, hp]
  intro h1
  have hl' : bs.length ≤ 1000000000 := by omega
  refine callT_closed (places_any false bs hl' s M p (by omega) (by omega)) rfl ?_
  simp [hM3]
  refine callT_closed (places_any false bs hl' (IntKind.u64.wrap (s + 1)) ((M : Int) - 1) p (by omega) (by omega)) rfl ?_
  simp [hM4]
  refine callT_closed (places_any false bs hl' s M 1 (by omega) (by omega)) rfl ?_
  simp [hp3]
  refine callT_closed (places_any false bs hl' s M (2 * p) (by omega) (by omega)) rfl ?_
  simp [hM1]
  have e : ((places bs s M p).map intL).tail = (places bs (IntKind.u64.wrap (s + 1)) (M - 1) p).map intL := by
    rw [← List.drop_one, ← List.map_drop, places_drop bs s M p hM1]
  rw [e]
  refine callT_plain (vec_any false false _ _ (by simp; omega)) rfl rfl ?_
  simp
  refine lwp_loop (fun i : Nat => [(7, boolL true), (8, intL M), (9, intL p), (10, .sl 1 false ((places bs s M p).map intL)), (12, .sl 1 false ((places bs s M 1).map intL)), (13, .sl 1 false ((places bs s M (2 * p)).map intL)), (14, intL i)]) (fun i => []) (fun i => M - i) (fun i => i ≤ M) 0 (by omega) ⟨[], ?_⟩ ?_
  · simp
  · intro i hi
    simp
    intro hlt
    have hr := hash_range bs (IntKind.u64.wrap (s + IntKind.u64.wrap (i : Int)))
    have g1 := places_get bs s M i p (by simpa using hlt)
    have g2 := places_get bs s M i 1 (by simpa using hlt)
    have g3 := places_get bs s M i (2 * p) (by simpa using hlt)
    rw [place_val hr.1 (by omega) (by omega)] at g1 g2 g3
    generalize hash bs (IntKind.u64.wrap (s + IntKind.u64.wrap (i : Int))) = h at g1 g2 g3 hr
    have g2' : h % 1 = 0 := by omega
    rw [g2'] at g2
    have hw : IntKind.i64.wrap (h % p + p) = h % p + p := by
      have := Int.emod_nonneg h (show p ≠ 0 by omega)
      have := Int.emod_lt_of_pos h (show 0 < p by omega)
      exact wrap_id (by omega) (by omega)
    rcases twice (h := h) hp1 with t | t
    · rw [t] at g3
      simp [hlt, g1, g2, g3]
      refine ⟨i + 1, by simp <;> omega, by simp <;> omega, [], ?_⟩
      simp
      exact wrap_id (by omega) (by omega)
    · rw [t] at g3
      have hne : ¬ p = 0 := by omega
      have hne2 : ¬ (h % p + p = h % p) := by omega
      simp [hlt, g1, g2, g3, hw, hne, hne2]
      refine ⟨i + 1, by simp <;> omega, by simp <;> omega, [], ?_⟩
      simp
      exact wrap_id (by omega) (by omega)
end Go.Proofs.Ythmiijlgbpkcjaa
