/- MANY: so many different keys as the cap are taken. -/
import Derived.Test.YtjaokhpjdikflaaTableShown
namespace Go.Proofs.Ytjaokhpjdikflaa
open Go Lg

/-- The bytes of a number. -/
def kn (st : Int) (i : Nat) : Int := IntKind.u32.wrap (IntKind.u32.wrap (i : Int) * IntKind.u32.wrap (IntKind.u32.wrap (2 * st) + 1))
def kb (st : Int) (i : Nat) : List Int := [IntKind.u8.wrap (kn st i), IntKind.u8.wrap (shrI .u32 (kn st i) 8), IntKind.u8.wrap (shrI .u32 (kn st i) 16), IntKind.u8.wrap (shrI .u32 (kn st i) 24)]

def kk (st : Int) (n : Nat) : List (List Int) := (List.range n).map (kb st)

theorem odd_dvd {o : Int} (ho : o % 2 = 1) : ∀ (n : Nat) (x : Int), (2 : Int) ^ n ∣ x * o → (2 : Int) ^ n ∣ x
  | 0, x, _ => by simp
  | n + 1, x, ⟨c, hc⟩ => by
    have e : x * o = 2 * (2 ^ n * c) := by rw [hc, Int.pow_succ, Int.mul_comm (2 ^ n) 2, Int.mul_assoc]
    have h2 : (x * o) % 2 = 0 := by rw [e]; omega
    rw [Int.mul_emod, ho] at h2
    obtain ⟨y, rfl⟩ : ∃ y, x = 2 * y := ⟨x / 2, by omega⟩
    have h3 : y * o = 2 ^ n * c := by
      rw [Int.mul_assoc] at e; omega
    obtain ⟨d, rfl⟩ := odd_dvd ho n y ⟨c, h3⟩
    exact ⟨d, by rw [Int.pow_succ, Int.mul_comm (2 ^ n) 2, Int.mul_assoc]⟩

theorem kn_range (st : Int) (i : Nat) : 0 ≤ kn st i ∧ kn st i < 4294967296 := by
  unfold kn
  generalize (IntKind.u32.wrap (i : Int) * IntKind.u32.wrap (IntKind.u32.wrap (2 * st) + 1)) = a
  simp [IntKind.wrap, IntKind.bits, IntKind.signed]
  omega

theorem kn_inj {st : Int} {i j : Nat} (hi : i < 1000) (hj : j < 1000) (h : kn st i = kn st j) : i = j := by
  simp [kn, IntKind.wrap, IntKind.bits, IntKind.signed] at h
  generalize ho : ((2 * st + 1) % 4294967296) = o at h
  have ho2 : o % 2 = 1 := by omega
  have hi' : (i : Int) % 4294967296 = i := by omega
  have hj' : (j : Int) % 4294967296 = j := by omega
  rw [hi', hj'] at h
  have h1 : (4294967296 : Int) ∣ ((i : Int) - j) * o := by
    rw [Int.sub_mul]
    exact Int.dvd_of_emod_eq_zero (Int.emod_eq_emod_iff_emod_sub_eq_zero.1 h)
  have h2 := odd_dvd ho2 32 _ h1
  omega

theorem kb_inj {st : Int} {i j : Nat} (hi : i < 1000) (hj : j < 1000) (h : kb st i = kb st j) : i = j := by
  have ri := kn_range st i
  have rj := kn_range st j
  refine kn_inj hi hj (st := st) ?_
  simp [kb, shrI, IntKind.wrap, IntKind.bits, IntKind.signed, Int.fdiv_eq_ediv_of_nonneg] at h
  omega

theorem kb_byte {st : Int} {i : Nat} : ∀ z ∈ kb st i, isByte z := by
  intro z hz
  simp [kb, IntKind.wrap, IntKind.bits, IntKind.signed] at hz
  unfold isByte
  omega

theorem kk_length {st : Int} {n : Nat} : (kk st n).length = n := by simp [kk]
theorem kk_succ {st : Int} {n : Nat} : kk st (n + 1) = kk st n ++ [kb st n] := by simp [kk, List.range_succ]
theorem kk_new {st : Int} {n : Nat} (hn : n < 1000) : kb st n ∉ kk st n := by
  simp [kk]
  intro j hj e
  have := kb_inj (by omega) hn e
  omega

theorem tableMany_any (y0 : Int) (h0 : (Lit.int .u16 y0).wf = true) (y1 : Int) (h1 : (Lit.int .u32 y1).wf = true) : PC Try.prog 3 [L.v (.int .u16 y0), L.v (.int .u32 y1)] (.v (.bool true)) := by
  simp [Lit.wf, IntKind.min, IntKind.max, IntKind.signed, IntKind.bits] at h0 h1
  obtain ⟨N, hN, hN2⟩ : ∃ N : Nat, (IntKind.i64.wrap y0).tmod 301 = (N : Int) ∧ N < 301 := by
    refine ⟨(y0 % 301).toNat, ?_, by omega⟩
    rw [wrap_id (by omega) (by omega), Int.tmod_eq_emod_of_nonneg (by omega)]
    omega
  obtain ⟨s0, t0, -, hnew⟩ := new_any N (by omega) (by omega)
  refine pc_of_call (callAt_enter ir3 (by simp) ?_)
  simp
  refine callT_closed shown_any rfl ?_
  simp [hN]
  refine callT_closed hnew rfl ?_
  simp
  refine lwp_loop (fun x : Nat × List Int => [(1, .v (.int .u32 y1)), (5, boolL true), (6, intL N), (7, .ptr 0 0), (9, intL x.1)]) (fun x => [some (cells3 N false false (kk y1 (min x.1 N)) x.2)]) (fun x => N + 1 - x.1) (fun x => x.1 ≤ N + 1 ∧ Tab (kk y1 (min x.1 N)) x.2) (0, s0) ⟨by simp, by simpa [kk] using t0⟩ ⟨[0], ?_⟩ ?_
  · simp [kk]
  · rintro ⟨i, s⟩ ⟨hi, ht⟩
    simp at hi ht ⊢
    refine ⟨fun hle => ?_, fun hgt => ?_⟩
    · have hlen : (kk y1 (min i N)).length = min i N := kk_length
      obtain ⟨s', t', hin⟩ := ins_any N ht (kb y1 i) kb_byte (by simp [kb]) (by omega)
      have hin := hin true
      have hm : min i N = i := by omega
      rw [hm] at t' hin hlen ⊢
      by_cases hlt : i < N
      · have hm' : min (i + 1) N = i + 1 := by omega
        have hc : ¬ (N : Int) ≤ i := by omega
        have hc' : (i : Int) < N := by omega
        have e1 : insK N (kk y1 i) (kb y1 i) = kk y1 (i + 1) := by
          rw [kk_succ]; simp [insK, kk_new (st := y1) (show i < 1000 by omega), hlen, hc]
        have e2 : insI N (kk y1 i) (kb y1 i) = i := by simp [insI, kk_new (st := y1) (show i < 1000 by omega), hlen, hc]
        have e3 : insN N (kk y1 i) (kb y1 i) = true := by simp [insN, kk_new (st := y1) (show i < 1000 by omega), hlen, hc']
        have e4 : insE N (kk y1 i) (kb y1 i) = 0 := by simp [insE, kk_new (st := y1) (show i < 1000 by omega), hlen, hc]
        rw [e1] at t'
        rw [e1, e2, e3, e4] at hin
        refine callT_freeze [1] hin rfl ?_
        simp [hlt, hc']
        refine ⟨(i + 1, s'), ⟨by omega, by rw [hm']; exact t'⟩, by simp <;> omega, [0], ?_⟩
        simp [hm']
        exact wrap_id (by omega) (by omega)
      · have hiN : i = N := by omega
        subst hiN
        have e1 : insK i (kk y1 i) (kb y1 i) = kk y1 i := by simp [insK, hlen]
        have e2 : insI i (kk y1 i) (kb y1 i) = 0 := by simp [insI, kk_new (st := y1) (show i < 1000 by omega), hlen]
        have e3 : insN i (kk y1 i) (kb y1 i) = false := by simp [insN, hlen]
        have e4 : insE i (kk y1 i) (kb y1 i) = 7 := by simp [insE, kk_new (st := y1) (show i < 1000 by omega), hlen]
        rw [e1] at t'
        rw [e1, e2, e3, e4] at hin
        refine callT_freeze [1] hin rfl ?_
        simp
        refine ⟨(i + 1, s'), ⟨by omega, by rw [show min (i + 1) i = i by omega]; exact t'⟩, by simp <;> omega, [0], ?_⟩
        simp [show min (i + 1) i = i by omega]
        exact wrap_id (by omega) (by omega)
    · refine callT_plain (many_tab ir10 N false false _ s) rfl rfl ?_
      have hm : min i N = N := by omega
      simp [hm, kk_length]

end Go.Proofs.Ytjaokhpjdikflaa
