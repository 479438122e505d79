/- The bounds of a range are in it, one beyond isn't; a range of 65536 values may be, one more may not. -/
import Derived.Test.YtfdcjcepokekdaaSchemaTells
namespace Go.Proofs.Ytfdcjcepokekdaa
open Go Lg

theorem in1 {c c' : Bool} {lo hi : Int} (v : List Int) (hv : v.length ≤ 2) : PC Try.prog 22 [.sl 2 c [fldL (lo, hi)], .sl 1 c' (v.map fun z => intL z)] (intL (inV [(lo, hi)] v)) := arg1 (arg2 (in_any (s := [(lo, hi)]) v (by simp) (by omega)))
theorem inV1 {lo hi n : Int} : inV [(lo, hi)] [n] = if lo ≤ n ∧ n ≤ hi then 0 else 5 := by
  rw [inV, if_pos (show [n].length = [(lo, hi)].length from rfl)]
  simp [inP]
theorem in1_nil {c : Bool} {lo hi : Int} : PC Try.prog 22 [.sl 2 c [fldL (lo, hi)], nilL] (intL 1) := by
  have h := in1 (c := c) (c' := false) (lo := lo) (hi := hi) [] (by simp)
  rw [show inV [(lo, hi)] [] = 1 from rfl] at h
  exact PC.sub h (.cons (.refl _) (.cons (.nil _ _) .nil)) (.refl _)
theorem right1 {c : Bool} {lo hi : Int} : PC Try.prog 11 [.sl 2 c [fldL (lo, hi)]] (boolL (decide (mayP (lo, hi)))) := by
  have h := right_any [(lo, hi)] (by simp)
  rw [show rightS [(lo, hi)] = decide (mayP (lo, hi)) by simp [rightS]] at h
  exact arg1 h

theorem schemaBounds_any (y0 : Int) (h0 : (Lit.int .i32 y0).wf = true) (y1 : Int) (h1 : (Lit.int .u32 y1).wf = true) : PC Try.prog 7 [L.v (.int .i32 y0), L.v (.int .u32 y1)] (.v (.bool true)) := by
  obtain ⟨a1, a2⟩ := i32_wf h0
  obtain ⟨b1, b2⟩ := u32_wf h1
  obtain ⟨k, hk⟩ : ∃ k, k = (IntKind.i64.wrap y1).tmod 65600 := ⟨_, rfl⟩
  have hk1 : 0 ≤ k ∧ k < 65600 := by
    rw [hk, show IntKind.i64.wrap y1 = y1 from wrap_id (by omega) (by omega), Int.tmod_eq_emod_of_nonneg b1]
    omega
  have c1 : IntKind.i64.wrap y0 = y0 := IntWalk.i64_in _ ⟨by omega, by omega⟩
  obtain ⟨hi, hhi⟩ : ∃ hi, hi = y0 + k := ⟨_, rfl⟩
  have c2 : IntKind.i64.wrap (y0 + k) = hi := by rw [hhi]; exact IntWalk.i64_in _ ⟨by omega, by omega⟩
  have c3 : IntKind.i64.wrap (y0 - 1) = y0 - 1 := IntWalk.i64_in _ ⟨by omega, by omega⟩
  have c4 : IntKind.i64.wrap (hi + 1) = hi + 1 := IntWalk.i64_in _ ⟨by omega, by omega⟩
  have hmay : mayP (y0, hi) ↔ (-1073741824 ≤ y0 ∧ hi ≤ 1073741824) ∧ k ≤ 65535 := by
    unfold mayP
    constructor
    · rintro ⟨h1, h2, h3, h4⟩; simp only at *; omega
    · rintro ⟨⟨h1, h2⟩, h3⟩; simp only; omega
  refine pc_of_call (callAt_enter ir7 (by simp) ?_)
  simp
  refine callT_closed shown_any (by simp) ?_
  by_cases g1 : -1073741824 ≤ y0
  rotate_left
  · have hd : decide (mayP (y0, hi)) = false := by simp [hmay, g1]
    simp [← hk, c1, c2, g1]
    refine callT_plain (right1 (c := true) (lo := y0) (hi := hi)) rfl (by simp [reso, mapO, live, chunk]) ?_
    simp [hd]
  by_cases g2 : hi ≤ 1073741824
  rotate_left
  · have hd : decide (mayP (y0, hi)) = false := by simp [hmay, g2]
    simp [← hk, c1, c2, g1, g2]
    refine callT_plain (right1 (c := true) (lo := y0) (hi := hi)) rfl (by simp [reso, mapO, live, chunk]) ?_
    simp [hd]
  by_cases g3 : k ≤ 65535
  rotate_left
  · have hd : decide (mayP (y0, hi)) = false := by simp [hmay, g3]
    simp [← hk, c1, c2, g1, g2, g3]
    refine callT_plain (right1 (c := true) (lo := y0) (hi := hi)) rfl (by simp [reso, mapO, live, chunk]) ?_
    simp [hd]
  have hd : decide (mayP (y0, hi)) = true := by simp [hmay, g1, g2, g3]
  simp [← hk, c1, c2, g1, g2, g3]
  refine callT_plain (right1 (c := true) (lo := y0) (hi := hi)) rfl (by simp [reso, mapO, live, chunk]) ?_
  simp [hd]
  refine callT_plain (in1 (c := true) (c' := true) (lo := y0) (hi := hi) [y0] (by simp)) rfl (by simp [reso, mapO, live, chunk]) ?_
  simp [inV1, show y0 ≤ hi by omega, c3, c4]
  refine callT_plain (in1 (c := true) (c' := true) (lo := y0) (hi := hi) [hi] (by simp)) rfl (by simp [reso, mapO, live, chunk]) ?_
  simp [inV1, show y0 ≤ hi by omega, c3, c4]
  refine callT_plain (in1 (c := true) (c' := true) (lo := y0) (hi := hi) [y0 - 1] (by simp)) rfl (by simp [reso, mapO, live, chunk]) ?_
  simp [inV1, show ¬ y0 ≤ y0 - 1 by omega, c3, c4]
  refine callT_plain (in1 (c := true) (c' := true) (lo := y0) (hi := hi) [hi + 1] (by simp)) rfl (by simp [reso, mapO, live, chunk]) ?_
  simp [inV1, show ¬ hi + 1 ≤ hi by omega, c3, c4]
  refine callT_plain (in1_nil (c := true) (lo := y0) (hi := hi)) rfl (by simp [reso, mapO, live, chunk]) ?_
  simp
  refine callT_plain (in1 (c := true) (c' := true) (lo := y0) (hi := hi) [y0, y0] (by simp)) rfl (by simp [reso, mapO, live, chunk]) ?_
  simp [show inV [(y0, hi)] [y0, y0] = 1 from rfl]

end Go.Proofs.Ytfdcjcepokekdaa
