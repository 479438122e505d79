/- The document's examples. -/
import Derived.Test.YtfdcjcepokekdaaSchemaFn
namespace Go.Proofs.Ytfdcjcepokekdaa
open Go Lg

theorem subC {e : Nat} {c : Bool} {xs : List L} : Sub (.sl e c xs) (.sl e false xs) := by
  cases c
  · exact .refl _
  · exact .clip _ _
theorem arg1 {f e : Nat} {c : Bool} {xs ls : List L} {r : L} (h : PC Try.prog f (.sl e false xs :: ls) r) : PC Try.prog f (.sl e c xs :: ls) r := PC.sub h (.cons subC (SubAll.refl _)) (.refl _)
theorem arg2 {f e : Nat} {c : Bool} {x : L} {xs ls : List L} {r : L} (h : PC Try.prog f (x :: .sl e false xs :: ls) r) : PC Try.prog f (x :: .sl e c xs :: ls) r := PC.sub h (.cons (.refl _) (.cons subC (SubAll.refl _))) (.refl _)

theorem by1 {x : Int} (h : isByte x) : ∀ z ∈ [x], isByte z := fun z hz => by simp at hz; rw [hz]; exact h

def s0 : List (Int × Int) := [(0, 5), (-1, 1)]
def s1 : List (Int × Int) := [(4, 4)]
theorem may0 : ∀ z ∈ s0, mayP z := by decide +kernel
theorem may1 : ∀ z ∈ s1, mayP z := by decide +kernel
abbrev s0L (c : Bool) : L := .sl 2 c [fldL (0, 5), fldL (-1, 1)]
abbrev s1L (c : Bool) : L := .sl 2 c [fldL (4, 4)]

theorem sh1 {c c' : Bool} : PC Try.prog 12 [s0L c, .sl 1 c' [intL 5, intL 0]] (.tup [bytL [168], intL 0]) := by
  have h := enc_any (s := s0) [5, 0] (by decide) may0 (by decide)
  rw [show encV s0 [5, 0] = ([168], 0) by decide +kernel] at h
  exact arg1 (arg2 h)
theorem sh2 {c : Bool} : PC Try.prog 14 [s0L c, bytL [168]] (.tup [vecL [5, 0], intL 0]) := by
  have h := dec_any (s := s0) [168] (by1 ⟨by omega, by omega⟩) (by decide) (by decide) may0 (by decide)
  rw [show decV s0 [168] = ([5, 0], 0) by decide +kernel] at h
  exact arg1 h
theorem sh3 {c c' : Bool} : PC Try.prog 14 [s0L c, .sl 1 c' [u8L 255]] (.tup [vecL [], intL 2]) := by
  have h := dec_any (s := s0) [255] (by1 ⟨by omega, by omega⟩) (by decide) (by decide) may0 (by decide)
  rw [show decV s0 [255] = ([], 2) by decide +kernel] at h
  exact arg1 (arg2 h)
theorem sh4 {c c' : Bool} : PC Try.prog 12 [s0L c, .sl 1 c' [intL 6, intL 0]] (.tup [bytL [], intL 5]) := by
  have h := enc_any (s := s0) [6, 0] (by decide) may0 (by decide)
  rw [show encV s0 [6, 0] = ([], 5) by decide +kernel] at h
  exact arg1 (arg2 h)
theorem sh5 {c c' : Bool} : PC Try.prog 12 [s0L c, .sl 1 c' [intL 1]] (.tup [bytL [], intL 1]) := by
  have h := enc_any (s := s0) [1] (by decide) may0 (by decide)
  rw [show encV s0 [1] = ([], 1) by decide +kernel] at h
  exact arg1 (arg2 h)
theorem sh6 {c c' : Bool} : PC Try.prog 12 [s1L c, .sl 1 c' [intL 4]] (.tup [bytL [0], intL 0]) := by
  have h := enc_any (s := s1) [4] (by decide) may1 (by decide)
  rw [show encV s1 [4] = ([0], 0) by decide +kernel] at h
  exact arg1 (arg2 h)
theorem sh7 {c' : Bool} : PC Try.prog 24 [vecL [5, 0], .sl 1 c' [intL 5, intL 0]] (boolL true) := by
  have h := vecA_any [5, 0] [5, 0] (by decide)
  exact arg2 h
theorem sh8 {c : Bool} : PC Try.prog 18 [s0L c] (intL 5) := by
  have h := bits_any (s := s0) (by decide) may0
  rw [show bitsS s0 = 5 by decide +kernel] at h
  exact arg1 h
theorem sh9 {c : Bool} : PC Try.prog 20 [s0L c] (intL 1) := by
  have h := bytes_any (s := s0) (by decide) may0
  rw [show bytesS s0 = 1 by decide +kernel] at h
  exact arg1 h
theorem sh10 : PC Try.prog 16 [fldL (0, 5)] (intL 3) := by
  have h := wide_any (z := (0, 5)) (by decide +kernel)
  rwa [show widF (0, 5) = 3 by decide +kernel] at h
theorem sh11 {c : Bool} : PC Try.prog 22 [s0L c, vecL [5, 0]] (intL 0) := by
  have h := in_any (s := s0) [5, 0] (by decide) (by decide)
  rw [show inV s0 [5, 0] = 0 by decide +kernel] at h
  exact arg1 h
theorem sh12 {c : Bool} : PC Try.prog 11 [s0L c] (boolL true) := by
  have h := right_any s0 (by decide)
  rw [show rightS s0 = true by decide +kernel] at h
  exact arg1 h
theorem sh13 : PC Try.prog 11 [.v (.slice none 0 0)] (boolL false) := by
  have h := right_any [] (by decide)
  rw [show rightS [] = false by decide +kernel] at h
  exact PC.sub h (.cons (.nil _ _) .nil) (.refl _)

theorem shown_any : PC Try.prog 9 [] (boolL true) := by
  refine pc_of_call (callAt_enter ir9 (by simp) ?_)
  simp
  refine callT_let [0, 1] (sh1 (c := true) (c' := true)) (by simp [frz, live, chunk]) (by simp) ?_
  simp [frzE, frzH, frzRow, frz, chunk]
  refine callT_closed (sh2 (c := true)) (by simp) ?_
  simp
  refine callT_let [2] (sh3 (c := true) (c' := true)) (by simp [frz, live, chunk]) (by simp) ?_
  simp [frzE, frzH, frzRow, frz, chunk]
  refine callT_let [3] (sh4 (c := true) (c' := true)) (by simp [frz, live, chunk]) (by simp) ?_
  simp [frzE, frzH, frzRow, frz, chunk]
  refine callT_let [4] (sh5 (c := true) (c' := true)) (by simp [frz, live, chunk]) (by simp) ?_
  simp [frzE, frzH, frzRow, frz, chunk]
  refine callT_let [5, 6] (sh6 (c := true) (c' := true)) (by simp [frz, live, chunk]) (by simp) ?_
  simp [frzE, frzH, frzRow, frz, chunk]
  refine callT_let [7] (sh7 (c' := true)) (by simp [frz, live, chunk]) (by simp) ?_
  simp [frzE, frzH, frzRow, frz, chunk]
  refine callT_closed (sh8 (c := true)) (by simp) ?_
  simp
  refine callT_closed (sh9 (c := true)) (by simp) ?_
  simp
  refine callT_closed sh10 (by simp) ?_
  simp
  refine callT_closed (sh11 (c := true)) (by simp) ?_
  simp
  refine callT_closed (sh12 (c := true)) (by simp) ?_
  simp
  refine callT_closed sh13 (by simp) ?_
  simp

end Go.Proofs.Ytfdcjcepokekdaa
