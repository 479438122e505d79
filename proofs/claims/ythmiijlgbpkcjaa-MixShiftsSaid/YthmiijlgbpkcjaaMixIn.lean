/- The second statement of mix, on logical values. -/
import Derived.Test.YthmiijlgbpkcjaaMixFn
namespace Go.Proofs.Ythmiijlgbpkcjaa
open Go Lg

theorem hash_range (bs : List Int) (s : Int) : 0 ≤ hash bs s ∧ hash bs s < 18446744073709551616 := u64_range _

theorem place_val {h n : Int} (h0 : 0 ≤ h) (hn : 1 ≤ n) (hn2 : n ≤ 9223372036854775807) : place h n = h % n := by
  have h1 : ¬ n < 1 := by omega
  simp only [place, h1, if_false]
  rw [u64_id (by omega) hn2, Int.tmod_eq_emod_of_nonneg h0]
  have := Int.emod_nonneg h (show n ≠ 0 by omega)
  have := Int.emod_lt_of_pos h (show 0 < n by omega)
  exact wrap_id (by omega) (by omega)

theorem places_take (bs : List Int) (s : Int) (k j : Nat) (n : Int) (hj : j ≤ k) : (places bs s k n).take j = places bs s j n := by
  simp [places, ← List.map_take, List.take_range, Nat.min_eq_left hj]

theorem places_get (bs : List Int) (s : Int) (k i : Nat) (n : Int) (hi : i < (places bs s k n).length) : (places bs s k n)[i] = place (hash bs (IntKind.u64.wrap (s + IntKind.u64.wrap (i : Int)))) n := by
  simp [places]

theorem mixIn_any (y0 : (List (Int)) × (Int) × (Int) × (Int)) (h0 : ((∀ z ∈ y0.1, (Lit.int .u8 z).wf = true) ∧ y0.1.length * 1 ≤ 140737488351232) ∧ ((Lit.int .u64 y0.2.1).wf = true) ∧ ((Lit.int .u8 y0.2.2.1).wf = true) ∧ ((Lit.int .i64 y0.2.2.2).wf = true)) :
    PC Try.prog 4 [.agg [L.sl 1 false (y0.1.map fun (z : Int) => L.v (.int .u8 z)), L.v (.int .u64 y0.2.1), L.v (.int .u8 y0.2.2.1), L.v (.int .i64 y0.2.2.2)]] (.v (.bool true)) := by
  obtain ⟨bs, s, k, n⟩ := y0
  obtain ⟨⟨hbs, hlen⟩, hs, hk, hn⟩ := h0
  simp [Lit.wf, IntKind.min, IntKind.max, IntKind.signed, IntKind.bits] at hs hk hn hlen ⊢
  obtain ⟨M, hM, hM2⟩ : ∃ M : Nat, (IntKind.i64.wrap k).tmod 100 = (M : Int) ∧ M < 100 := by
    refine ⟨(k % 100).toNat, ?_, by omega⟩
    rw [wrap_id (by omega) (by omega), Int.tmod_eq_emod_of_nonneg (by omega)]
    omega
  have hM3 : IntKind.i64.wrap ((M : Int) / 2) = (M : Int) / 2 := wrap_id (by omega) (by omega)
  have hM5 : 0 ≤ (M : Int) / 2 := by omega
  have hM6 : (M : Int) / 2 ≤ M := by omega
  have hM4 : ((M : Int) / 2).toNat = M / 2 := by omega
  refine pc_of_call (callAt_enter ir4 (by simp) ?_)
  simp
  refine callT_closed shown_any rfl ?_
  simp [hM]
  intro h1
  have hl' : bs.length ≤ 1000000000 := by omega
  refine callT_closed (places_any false bs hl' s M n (by omega) (by omega)) rfl ?_
  simp [hM3]
  refine callT_closed (places_any false bs hl' s ((M : Int) / 2) n (by omega) (by omega)) rfl ?_
  simp [hM3, hM4, hM5, hM6]
  rw [← List.map_take, places_take _ _ _ _ _ (by omega)]
  refine callT_plain (vec_any false false _ _ (by simp; omega)) rfl rfl ?_
  simp
  refine callT_closed (places_any false bs hl' s M n (by omega) (by omega)) rfl ?_
  simp
  refine callT_plain (vec_any false false _ _ (by simp; omega)) rfl rfl ?_
  simp
  refine lwp_loop (fun i : Nat => [(3, .sl 1 false (bs.map u8L)), (4, u64L s), (6, intL n), (7, boolL true), (8, intL M), (9, .sl 1 false ((places bs s M n).map intL)), (11, intL i)]) (fun i => []) (fun i => M - i) (fun i => i ≤ M) 0 (by omega) ⟨[], ?_⟩ ?_
  · simp
  · intro i hi
    simp
    intro hlt
    have hr := hash_range bs (IntKind.u64.wrap (s + IntKind.u64.wrap (i : Int)))
    have hg := places_get bs s M i n (by simpa using hlt)
    have hpl : (if n < 1 then place (hash bs (IntKind.u64.wrap (s + IntKind.u64.wrap (i : Int)))) n = 0 else 0 ≤ place (hash bs (IntKind.u64.wrap (s + IntKind.u64.wrap (i : Int)))) n ∧ place (hash bs (IntKind.u64.wrap (s + IntKind.u64.wrap (i : Int)))) n < n) := by
      split
      · rename_i h; simp [place, h]
      · rw [place_val hr.1 (by omega) (by omega)]
        exact ⟨Int.emod_nonneg _ (by omega), Int.emod_lt_of_pos _ (by omega)⟩
    generalize hv : place (hash bs (IntKind.u64.wrap (s + IntKind.u64.wrap (i : Int)))) n = v at hg hpl
    by_cases hn1 : n < 1
    · rw [if_pos hn1] at hpl
      have hn2 : ¬ 1 ≤ n := by omega
      simp [hlt, hg, hpl, hn1, hn2]
      refine bcallT_plain (hash_any false bs hl' _) rfl rfl ?_
      simp
      refine bcallT_plain (place_any 10 (.inl rfl) _ n (by omega)) rfl rfl ?_
      simp [hv, hpl]
      refine ⟨i + 1, by simp <;> omega, by simp <;> omega, [], ?_⟩
      simp
      exact wrap_id (by omega) (by omega)
    · rw [if_neg hn1] at hpl
      have hn2 : 1 ≤ n := by omega
      have hv1 : ¬ v < 0 := by omega
      have hv2 : ¬ n ≤ v := by omega
      simp [hlt, hg, hv1, hv2, hn1, hn2]
      refine bcallT_plain (hash_any false bs hl' _) rfl rfl ?_
      simp
      refine bcallT_plain (place_any 10 (.inl rfl) _ n (by omega)) rfl rfl ?_
      simp [hv]
      refine ⟨i + 1, by simp <;> omega, by simp <;> omega, [], ?_⟩
      simp
      exact wrap_id (by omega) (by omega)
end Go.Proofs.Ythmiijlgbpkcjaa
