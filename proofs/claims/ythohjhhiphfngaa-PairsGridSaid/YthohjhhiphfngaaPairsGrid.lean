/- GRID: all pairs of so many numbers are taken, in order, and no more than the cap. -/
import Derived.Test.YthohjhhiphfngaaPairsFn2
namespace Go.Proofs.Ythohjhhiphfngaa
open Go Lg

def ga (f : Int) (i : Nat) : Int := IntKind.u32.wrap (f + IntKind.u32.wrap (i : Int))
def gb (f : Int) (j : Nat) : Int := IntKind.u32.wrap (f - IntKind.u32.wrap (j : Int))
def gk (f : Int) (K t : Nat) : List Int := pk (ga f (t / K)) (gb f (t % K))
def gks (f : Int) (K n : Nat) : List (List Int) := (List.range n).map (gk f K)

theorem ga_u32 (f : Int) (i : Nat) : U32 (ga f i) := by simp [ga, U32, IntKind.wrap, IntKind.bits, IntKind.signed]; omega
theorem gb_u32 (f : Int) (i : Nat) : U32 (gb f i) := by simp [gb, U32, IntKind.wrap, IntKind.bits, IntKind.signed]; omega
theorem ga_inj {f : Int} {i j : Nat} (hi : i < 1000) (hj : j < 1000) (h : ga f i = ga f j) : i = j := by
  simp [ga, IntKind.wrap, IntKind.bits, IntKind.signed] at h; omega
theorem gb_inj {f : Int} {i j : Nat} (hi : i < 1000) (hj : j < 1000) (h : gb f i = gb f j) : i = j := by
  simp [gb, IntKind.wrap, IntKind.bits, IntKind.signed] at h; omega
theorem gk_inj {f : Int} {K t t' : Nat} (ht : t < 1000) (ht' : t' < 1000) (h : gk f K t = gk f K t') : t = t' := by
  rw [gk, gk, pk_inj (ga_u32 _ _) (gb_u32 _ _) (ga_u32 _ _) (gb_u32 _ _)] at h
  have l1 := Nat.div_le_self t K
  have l2 := Nat.div_le_self t' K
  have l3 := Nat.mod_le t K
  have l4 := Nat.mod_le t' K
  have h1 := ga_inj (by omega) (by omega) h.1
  have h2 := gb_inj (by omega) (by omega) h.2
  have e1 := Nat.div_add_mod t K
  have e2 := Nat.div_add_mod t' K
  rw [h1, h2] at e1
  omega
theorem gks_length {f : Int} {K n : Nat} : (gks f K n).length = n := by simp [gks]
theorem gks_succ {f : Int} {K n : Nat} : gks f K (n + 1) = gks f K n ++ [gk f K n] := by simp [gks, List.range_succ]
theorem gk_new {f : Int} {K t n : Nat} (ht : t < 1000) (hn : n ≤ t) (hn2 : n < 1000) : gk f K t ∉ gks f K n := by
  simp only [gks, List.mem_map, List.mem_range]
  rintro ⟨j, hj, e⟩
  have := gk_inj (by omega) ht e
  omega
theorem gk_at {f : Int} {K i j : Nat} (hj : j < K) : pk (ga f i) (gb f j) = gk f K (i * K + j) := by
  have h1 : (i * K + j) / K = i := by rw [Nat.mul_comm, Nat.mul_add_div (by omega), Nat.div_eq_of_lt hj]; rfl
  have h2 : (i * K + j) % K = j := by rw [Nat.mul_comm, Nat.mul_add_mod, Nat.mod_eq_of_lt hj]
  rw [gk, h1, h2]

theorem wrap_idz {n : Int} (h0 : -9223372036854775808 ≤ n) (h1 : n ≤ 9223372036854775807) : IntKind.i64.wrap n = n := by
  simp [IntKind.wrap, IntKind.bits, IntKind.signed]
  omega

theorem pairsGrid_any (y0 : Int) (h0 : (Lit.int .u8 y0).wf = true) (y1 : Int) (h1 : (Lit.int .u32 y1).wf = true) (y2 : Int) (h2 : (Lit.int .u8 y2).wf = true) : PC Try.prog 4 [L.v (.int .u8 y0), L.v (.int .u32 y1), L.v (.int .u8 y2)] (.v (.bool true)) := by
  simp [Lit.wf, IntKind.min, IntKind.max, IntKind.signed, IntKind.bits] at h0 h1 h2
  obtain ⟨K, hK, hK2⟩ : ∃ K : Nat, (IntKind.i64.wrap y0).tmod 13 = (K : Int) ∧ K ≤ 12 := by
    refine ⟨(y0 % 13).toNat, ?_, by omega⟩
    rw [wrap_id (by omega) (by omega), Int.tmod_eq_emod_of_nonneg (by omega)]
    omega
  have hKK : K * K ≤ 144 := by have := Nat.mul_le_mul hK2 hK2; omega
  obtain ⟨ρ, hρ, hρ1, hρ2⟩ : ∃ ρ : Int, IntKind.i64.wrap (IntKind.i64.wrap ((K : Int) * (K : Int)) - (IntKind.i64.wrap y2).tmod 9) = ρ ∧ -8 ≤ ρ ∧ ρ ≤ ((K * K : Nat) : Int) := by
    have e : (K : Int) * (K : Int) = ((K * K : Nat) : Int) := by simp
    rw [e]
    generalize hKKg : K * K = KK at *
    have e1 : IntKind.i64.wrap y2 = y2 := wrap_id (by omega) (by omega)
    have e2 : IntKind.i64.wrap (KK : Int) = KK := wrap_id (by omega) (by omega)
    have e3 : y2.tmod 9 = y2 % 9 := Int.tmod_eq_emod_of_nonneg (by omega)
    have e4 : IntKind.i64.wrap ((KK : Int) - y2 % 9) = (KK : Int) - y2 % 9 := wrap_idz (by omega) (by omega)
    refine ⟨(KK : Int) - y2 % 9, ?_, by omega, by omega⟩
    rw [e1, e2, e3, e4]
  refine pc_of_call (callAt_enter ir4 (by simp) ?_)
  simp
  refine callT_closed shown_any rfl ?_
  simp [hK, hρ]
  refine ⟨fun hneg => ?_, fun hpos => ?_⟩
  · obtain ⟨s0, t0, hnew⟩ := new_any 0 (by omega) (by omega)
    refine callT_closed hnew rfl ?_
    simp
    have hg0 : gks y1 K 0 = [] := by simp [gks]
    refine lwp_loop (fun x : Nat × List Int => [(1, u32L y1), (7, boolL true), (8, intL K), (9, intL 0), (10, .ptr 0 0), (11, intL 0), (12, intL x.1)]) (fun x => [some (cells3 0 false false [] x.2)]) (fun x => K - x.1) (fun x => x.1 ≤ K ∧ Tab [] x.2) (0, s0) ⟨by simp, t0⟩ ⟨[0], ?_⟩ ?_
    · simp
    · rintro ⟨i, s⟩ ⟨hi, ht⟩
      simp at hi ht ⊢
      refine ⟨fun hlt => ?_, fun hge => ?_⟩
      · have hiK : i * K ≤ 144 := by have := Nat.mul_le_mul (show i ≤ 12 by omega) (show K ≤ 12 by omega); omega
        refine lwp_loop (fun x : Nat × List Int => [(1, u32L y1), (7, boolL true), (8, intL K), (9, intL 0), (10, .ptr 0 0), (11, intL 0), (12, intL i), (13, intL x.1)]) (fun x => [some (cells3 0 false false [] x.2)]) (fun x => K - x.1) (fun x => x.1 ≤ K ∧ Tab [] x.2) (0, s) ⟨by simp, ht⟩ ⟨[0], ?_⟩ ?_
        · simp
        · rintro ⟨j, s'⟩ ⟨hj, ht'⟩
          simp at hj ht' ⊢
          refine ⟨fun hjK => ?_, fun hjge => ?_⟩
          · obtain ⟨s2, t2, hin⟩ := ins_any 0 ht' (ga y1 i) (gb y1 j) (by simp)
            have hw1 : IntKind.i64.wrap ((i : Int) * (K : Int)) = ((i * K : Nat) : Int) := by
              have e : (i : Int) * K = ((i * K : Nat) : Int) := by simp
              rw [e, wrap_id (by omega) (by omega)]
            have hw2 : IntKind.i64.wrap (((i * K : Nat) : Int) + (j : Int)) = ((i * K + j : Nat) : Int) := by rw [wrap_id (by omega) (by omega)]; omega
            have e1 : insK 0 [] (pk (ga y1 i) (gb y1 j)) = [] := by simp [insK]
            have e2 : insI 0 [] (pk (ga y1 i) (gb y1 j)) = 0 := by simp [insI]
            have e3 : insN 0 [] (pk (ga y1 i) (gb y1 j)) = false := by simp [insN]
            have e4 : insE 0 [] (pk (ga y1 i) (gb y1 j)) = 7 := by simp [insE]
            rw [e1] at t2
            rw [e1, e2, e3, e4] at hin
            refine callT_closed hin rfl ?_
            have hneg : ¬ ((i * K + j : Nat) : Int) < 0 := by omega
            generalize hik : i * K = ik at *
            have hneg' : ¬ (ik : Int) + (j : Int) < 0 := by omega
            have hpos' : (0 : Int) ≤ (ik : Int) + (j : Int) := by omega
            have hw3 : IntKind.i64.wrap ((ik : Int) + (j : Int)) = (ik : Int) + (j : Int) := wrap_id (by omega) (by omega)
            simp [hw1, hw3, hneg', hpos']
            refine ⟨(j + 1, s2), ⟨by omega, t2⟩, by simp <;> omega, [0], ?_⟩
            simp
            exact wrap_id (by omega) (by omega)
          · refine ⟨(i + 1, s'), ⟨by omega, ht'⟩, by simp <;> omega, [0], ?_⟩
            simp
            exact wrap_id (by omega) (by omega)
      · refine lwp_loop (fun m : Nat => [(1, u32L y1), (7, boolL true), (8, intL K), (9, intL 0), (10, .ptr 0 0), (11, intL 0), (19, intL m)]) (fun m => [some (cells3 0 false false [] s)]) (fun m => 0) (fun m => m = 0) 0 rfl ⟨[0], ?_⟩ ?_
        · simp
        · intro m hm
          subst hm
          simp
          refine callT_plain (many_any 0 [] s) rfl rfl ?_
          simp
  · obtain ⟨R, rfl⟩ : ∃ R : Nat, ρ = (R : Int) := ⟨ρ.toNat, by omega⟩
    have hRK : R ≤ K * K := by omega
    obtain ⟨s0, t0, hnew⟩ := new_any (R : Int) (by omega) (by omega)
    refine callT_closed hnew rfl ?_
    simp
    refine lwp_loop (fun x : Nat × List Int => [(1, u32L y1), (7, boolL true), (8, intL K), (9, intL (R : Int)), (10, .ptr 0 0), (11, intL 0), (12, intL x.1)]) (fun x => [some (cells3 (R : Int) false false (gks y1 K (min (x.1 * K) R)) x.2)]) (fun x => K - x.1) (fun x => x.1 ≤ K ∧ Tab (gks y1 K (min (x.1 * K) R)) x.2) (0, s0) ⟨by simp, by simpa [gks] using t0⟩ ⟨[0], ?_⟩ ?_
    · simp [gks]
    · rintro ⟨i, s⟩ ⟨hi, ht⟩
      simp at hi ht ⊢
      refine ⟨fun hlt => ?_, fun hge => ?_⟩
      · have hiK : i * K ≤ 144 := by have := Nat.mul_le_mul (show i ≤ 12 by omega) (show K ≤ 12 by omega); omega
        have hKK : i * K + K ≤ K * K := by have := Nat.mul_le_mul_right K (show i + 1 ≤ K by omega); rw [Nat.succ_mul] at this; exact this
        have hKK2 : K * K ≤ 144 := by have := Nat.mul_le_mul (show K ≤ 12 by omega) (show K ≤ 12 by omega); omega
        refine lwp_loop (fun x : Nat × List Int => [(1, u32L y1), (7, boolL true), (8, intL K), (9, intL (R : Int)), (10, .ptr 0 0), (11, intL 0), (12, intL i), (13, intL x.1)]) (fun x => [some (cells3 (R : Int) false false (gks y1 K (min (i * K + x.1) R)) x.2)]) (fun x => K - x.1) (fun x => x.1 ≤ K ∧ Tab (gks y1 K (min (i * K + x.1) R)) x.2) (0, s) ⟨by simp, by simpa using ht⟩ ⟨[0], ?_⟩ ?_
        · simp
        · rintro ⟨j, s'⟩ ⟨hj, ht'⟩
          simp at hj ht' ⊢
          refine ⟨fun hjK => ?_, fun hjge => ?_⟩
          · have hlen : (gks y1 K (min (i * K + j) R)).length = min (i * K + j) R := gks_length
            obtain ⟨s2, t2, hin⟩ := ins_any (R : Int) ht' (ga y1 i) (gb y1 j) (by omega)
            have hgk : pk (ga y1 i) (gb y1 j) = gk y1 K (i * K + j) := gk_at hjK
            have hnew' : gk y1 K (i * K + j) ∉ gks y1 K (min (i * K + j) R) := gk_new (by omega) (by omega) (by omega)
            rw [hgk] at t2 hin
            have hw1 : IntKind.i64.wrap ((i : Int) * (K : Int)) = ((i * K : Nat) : Int) := by
              have e : (i : Int) * K = ((i * K : Nat) : Int) := by simp
              rw [e, wrap_id (by omega) (by omega)]
            generalize hik : i * K = ik at *
            have hw3 : IntKind.i64.wrap ((ik : Int) + (j : Int)) = (ik : Int) + (j : Int) := wrap_id (by omega) (by omega)
            by_cases hroom : ik + j < R
            · have hm1 : min (ik + j) R = ik + j := by omega
              have hm2 : min (ik + (j + 1)) R = ik + j + 1 := by omega
              rw [hm1] at t2 hin hnew' hlen ht'
              have hc : ¬ (R : Int) ≤ ((ik + j : Nat) : Int) := by omega
              have hc' : ((ik + j : Nat) : Int) < (R : Int) := by omega
              have e1 : insK (R : Int) (gks y1 K (ik + j)) (gk y1 K (ik + j)) = gks y1 K (ik + j + 1) := by
                rw [gks_succ]; unfold insK; rw [hlen, if_neg (by rintro (h | h); exact hnew' h; exact hc h)]
              have e2 : insI (R : Int) (gks y1 K (ik + j)) (gk y1 K (ik + j)) = ((ik + j : Nat) : Int) := by unfold insI; rw [hlen, if_neg hnew', if_neg hc]
              have e3 : insN (R : Int) (gks y1 K (ik + j)) (gk y1 K (ik + j)) = true := by unfold insN; rw [hlen]; simp only [hnew', hc', not_false_eq_true, and_self, decide_true]
              have e4 : insE (R : Int) (gks y1 K (ik + j)) (gk y1 K (ik + j)) = 0 := by unfold insE; rw [hlen, if_neg hnew', if_neg hc]
              rw [e1] at t2
              rw [e1, e2, e3, e4] at hin
              rw [hm1]
              refine callT_closed hin rfl ?_
              have hr1 : (ik : Int) + (j : Int) < (R : Int) := by omega
              simp [hw1, hw3, hr1]
              refine ⟨(j + 1, s2), ⟨by omega, by rw [hm2]; exact t2⟩, by simp <;> omega, [0], ?_⟩
              simp [hm2]
              exact wrap_id (by omega) (by omega)
            · have hm1 : min (ik + j) R = R := by omega
              have hm2 : min (ik + (j + 1)) R = R := by omega
              rw [hm1] at t2 hin hnew' hlen ht'
              have e1 : insK (R : Int) (gks y1 K R) (gk y1 K (ik + j)) = gks y1 K R := by unfold insK; rw [hlen, if_pos (.inr (by omega))]
              have e2 : insI (R : Int) (gks y1 K R) (gk y1 K (ik + j)) = 0 := by unfold insI; rw [hlen, if_neg hnew', if_pos (by omega)]
              have e3 : insN (R : Int) (gks y1 K R) (gk y1 K (ik + j)) = false := by unfold insN; rw [hlen]; simp
              have e4 : insE (R : Int) (gks y1 K R) (gk y1 K (ik + j)) = 7 := by unfold insE; rw [hlen, if_neg hnew', if_pos (by omega)]
              rw [e1] at t2
              rw [e1, e2, e3, e4] at hin
              rw [hm1]
              refine callT_closed hin rfl ?_
              have hr1 : ¬ (ik : Int) + (j : Int) < (R : Int) := by omega
              have hr2 : (R : Int) ≤ (ik : Int) + (j : Int) := by omega
              simp [hw1, hw3, hr1, hr2]
              refine ⟨(j + 1, s2), ⟨by omega, by rw [hm2]; exact t2⟩, by simp <;> omega, [0], ?_⟩
              simp [hm2]
              exact wrap_id (by omega) (by omega)
          · have hjK : j = K := by omega
            subst hjK
            have hmul : (i + 1) * j = i * j + j := Nat.succ_mul i j
            refine ⟨(i + 1, s'), ⟨by omega, by rw [hmul]; exact ht'⟩, by simp <;> omega, [0], ?_⟩
            simp [hmul]
            exact wrap_id (by omega) (by omega)
      · have hiK : i = K := by omega
        subst hiK
        have hmin : min (i * i) R = R := by omega
        rw [hmin] at ht ⊢
        have hlen : (gks y1 i R).length = R := gks_length
        refine lwp_loop (fun m : Nat => [(1, u32L y1), (7, boolL true), (8, intL i), (9, intL (R : Int)), (10, .ptr 0 0), (11, intL 0), (19, intL m)]) (fun m => [some (cells3 (R : Int) false false (gks y1 i R) s)]) (fun m => R - m) (fun m => m ≤ R) 0 (by omega) ⟨[0], ?_⟩ ?_
        · simp
        · intro m hm
          simp
          refine ⟨fun hlt => ?_, fun hge => ?_⟩
          · have hi0 : i ≠ 0 := by
              intro e; subst e; simp at hmin; omega
            have hi0' : ¬ (i : Int) = 0 := by omega
            have hp := pair_any (cap := (R : Int)) (gks y1 i R) s m (by omega) (by simpa [hlen] using (by omega : m < R)) (ga_u32 y1 (m / i)) (gb_u32 y1 (m % i)) (by simp [gks, gk])
            refine callT_plain hp rfl rfl ?_
            have hwq : ∀ q : Nat, q ≤ m → IntKind.i64.wrap (q : Int) = (q : Int) := fun q hq => wrap_id (by omega) (by omega)
            have hq1 : IntKind.i64.wrap ((m : Int).tdiv (i : Int)) = ((m / i : Nat) : Int) := by
              have hle : m / i ≤ m := Nat.div_le_self m i
              rw [Int.tdiv_eq_ediv_of_nonneg (by omega), show (m : Int) / (i : Int) = ((m / i : Nat) : Int) by simp, hwq _ hle]
            have hq2 : (m : Int).tmod (i : Int) = ((m % i : Nat) : Int) := by
              rw [Int.tmod_eq_emod_of_nonneg (by omega)]; simp
            have hq1' : IntKind.i64.wrap ((m : Int) / (i : Int)) = ((m / i : Nat) : Int) := by
              have hle : m / i ≤ m := Nat.div_le_self m i
              rw [show (m : Int) / (i : Int) = ((m / i : Nat) : Int) by simp, hwq _ hle]
            have hq2' : (m : Int) % (i : Int) = ((m % i : Nat) : Int) := by simp
            generalize hda : m / i = da at *
            generalize hdb : m % i = db at *
            simp [hq1, hq2, hq1', hq2', hi0, hi0', ga, gb]
            refine ⟨m + 1, by omega, by simp <;> omega, [0], ?_⟩
            simp
            exact wrap_id (by omega) (by omega)
          · refine callT_plain (many_any (R : Int) (gks y1 i R) s) rfl rfl ?_
            simp [hlen]

end Go.Proofs.Ythohjhhiphfngaa
