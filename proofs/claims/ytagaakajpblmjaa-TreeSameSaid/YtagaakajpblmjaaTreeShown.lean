/- The document's example. -/
import Derived.Test.YtagaakajpblmjaaTreeSt
namespace Go.Proofs.Ytagaakajpblmjaa
open Go Lg
theorem by1 {f : Nat} {x r : L} {xs ys ls : List L} {e e' : Nat} {c c' : Bool} (h : PC Try.prog f (x :: .sl e false xs :: .sl e' false ys :: ls) r) : PC Try.prog f (x :: .sl e c xs :: .sl e' c' ys :: ls) r :=
  PC.sub h (.cons (.refl _) (.cons subCl (.cons subCl (SubAll.refl _)))) (.refl _)
theorem by2 {f : Nat} {r : L} {xs ls : List L} {e : Nat} {c : Bool} (h : PC Try.prog f (.sl e false xs :: ls) r) : PC Try.prog f (.sl e c xs :: ls) r :=
  PC.sub h (.cons subCl (SubAll.refl _)) (.refl _)
def s3 : List (Int × Int) := [(0, 3), (0, 3), (0, 5)]
theorem may3 : ∀ z ∈ s3, mayP z := by decide +kernel
theorem ok3 : TOk s3 (tst0 s3) := tst0_ok may3 (by decide) (by decide)
abbrev s3L (c : Bool) : L := .sl 2 c [fldL (0, 3), fldL (0, 3), fldL (0, 5)]
theorem i1 : ∃ y, TOk s3 y ∧ y.V = [[1, 2, 3]] ∧ y.F = [(false, false)] ∧ ∀ c c', PC Try.prog 13 [(tst0 s3).L s3 2, s3L c, .sl 1 c' [intL 1, intL 2, intL 3]] (.tup [y.L s3 2, boolL true, intL 0]) := by
  obtain ⟨y, h1, h2, h3, h4⟩ := insT (cap := 2) ok3 (v := [1, 2, 3]) (by decide) (by decide)
  rw [show insC s3 2 (tst0 s3).V [1, 2, 3] = true by decide +kernel] at h3 h4
  rw [show insCE s3 2 (tst0 s3).V [1, 2, 3] = 0 by decide +kernel] at h4
  rw [show insCV s3 2 (tst0 s3).V [1, 2, 3] = [[1, 2, 3]] by decide +kernel] at h2
  exact ⟨y, h1, h2, h3, fun c c' => by1 h4⟩
theorem i2 {x : TSt} (hx : TOk s3 x) (hV : x.V = [[1, 2, 3]]) (hF : x.F = [(false, false)]) : ∃ y, TOk s3 y ∧ y.V = [[1, 2, 3], [1, 2, 4]] ∧ y.F = [(false, false), (false, false)] ∧ ∀ c c', PC Try.prog 13 [x.L s3 2, s3L c, .sl 1 c' [intL 1, intL 2, intL 4]] (.tup [y.L s3 2, boolL true, intL 0]) := by
  obtain ⟨y, h1, h2, h3, h4⟩ := insT (cap := 2) hx (v := [1, 2, 4]) (by decide) (by rw [hV]; decide)
  rw [hV] at h2 h3 h4
  rw [show insC s3 2 [[1, 2, 3]] [1, 2, 4] = true by decide +kernel] at h3 h4
  rw [show insCE s3 2 [[1, 2, 3]] [1, 2, 4] = 0 by decide +kernel] at h4
  rw [show insCV s3 2 [[1, 2, 3]] [1, 2, 4] = [[1, 2, 3], [1, 2, 4]] by decide +kernel] at h2
  rw [hF] at h3
  exact ⟨y, h1, h2, h3, fun c c' => by1 h4⟩
theorem i3 {x : TSt} (hx : TOk s3 x) (hV : x.V = [[1, 2, 3], [1, 2, 4]]) : ∃ y : TSt, ∀ c c', PC Try.prog 13 [x.L s3 2, s3L c, .sl 1 c' [intL 0, intL 0, intL 0]] (.tup [y.L s3 2, boolL false, intL 7]) := by
  obtain ⟨y, h1, h2, h3, h4⟩ := insT (cap := 2) hx (v := [0, 0, 0]) (by decide) (by rw [hV]; decide)
  rw [hV] at h4
  rw [show insC s3 2 [[1, 2, 3], [1, 2, 4]] [0, 0, 0] = false by decide +kernel, show insCE s3 2 [[1, 2, 3], [1, 2, 4]] [0, 0, 0] = 7 by decide +kernel] at h4
  exact ⟨y, fun c c' => by1 h4⟩
theorem i4 {x : TSt} (hx : TOk s3 x) (hV : x.V = [[1, 2, 3], [1, 2, 4]]) (hF : x.F = [(false, false), (false, false)]) : ∃ y, TOk s3 y ∧ y.V = [[1, 2, 3], [1, 2, 4]] ∧ y.F = [(false, false), (false, true)] ∧ ∀ c c', PC Try.prog 15 [x.L s3 2, s3L c, .sl 1 c' [intL 1, intL 2, intL 4], intL 1] (.tup [y.L s3 2, intL 0]) := by
  obtain ⟨h1, h2⟩ := setT (cap := 2) hx (v := [1, 2, 4]) (by decide) 1
  rw [hV, show atE s3 [[1, 2, 3], [1, 2, 4]] [1, 2, 4] 1 = 0 by decide +kernel] at h2
  refine ⟨_, h1, hV, ?_, fun c c' => by1 h2⟩
  simp only [TSt.setF, hV, hF]
  decide +kernel
theorem j1 {x : TSt} (hx : TOk s3 x) (hV : x.V = [[1, 2, 3], [1, 2, 4]]) (hF : x.F = [(false, false), (false, true)]) (c c' : Bool) : PC Try.prog 17 [x.L s3 2, s3L c, .sl 1 c' [intL 1, intL 2, intL 4], intL 1] (.tup [boolL true, intL 0]) := by
  have h := getT (cap := 2) hx (v := [1, 2, 4]) (by decide) 1
  rw [hV, hF, show atE s3 [[1, 2, 3], [1, 2, 4]] [1, 2, 4] 1 = 0 by decide +kernel, show getFl s3 [[1, 2, 3], [1, 2, 4]] [(false, false), (false, true)] [1, 2, 4] 1 = true by decide +kernel] at h
  exact by1 h
theorem j2 {x : TSt} (hx : TOk s3 x) (hV : x.V = [[1, 2, 3], [1, 2, 4]]) (hF : x.F = [(false, false), (false, true)]) (c c' : Bool) : PC Try.prog 17 [x.L s3 2, s3L c, .sl 1 c' [intL 1, intL 2, intL 3], intL 1] (.tup [boolL false, intL 0]) := by
  have h := getT (cap := 2) hx (v := [1, 2, 3]) (by decide) 1
  rw [hV, hF, show atE s3 [[1, 2, 3], [1, 2, 4]] [1, 2, 3] 1 = 0 by decide +kernel, show getFl s3 [[1, 2, 3], [1, 2, 4]] [(false, false), (false, true)] [1, 2, 3] 1 = false by decide +kernel] at h
  exact by1 h
theorem j3 {x : TSt} (hx : TOk s3 x) (hV : x.V = [[1, 2, 3], [1, 2, 4]]) (c c' : Bool) : PC Try.prog 19 [x.L s3 2, s3L c, .sl 1 c' [intL 1, intL 2, intL 3]] (.tup [boolL true, intL 0]) := by
  have h := memberT (cap := 2) hx (v := [1, 2, 3]) (by decide)
  rw [hV, show memB s3 [[1, 2, 3], [1, 2, 4]] [1, 2, 3] = true by decide +kernel, show inV s3 [1, 2, 3] = 0 by decide +kernel] at h
  exact by1 h
theorem j4 {x : TSt} (hx : TOk s3 x) (hV : x.V = [[1, 2, 3], [1, 2, 4]]) (c c' : Bool) : PC Try.prog 19 [x.L s3 2, s3L c, .sl 1 c' [intL 1, intL 2, intL 6]] (.tup [boolL false, intL 5]) := by
  have h := memberT (cap := 2) hx (v := [1, 2, 6]) (by decide)
  rw [hV, show memB s3 [[1, 2, 3], [1, 2, 4]] [1, 2, 6] = false by decide +kernel, show inV s3 [1, 2, 6] = 5 by decide +kernel] at h
  exact by1 h
theorem j5 {x : TSt} (hx : TOk s3 x) (hV : x.V = [[1, 2, 3], [1, 2, 4]]) (c c' : Bool) : PC Try.prog 19 [x.L s3 2, s3L c, .sl 1 c' [intL 1]] (.tup [boolL false, intL 1]) := by
  have h := memberT (cap := 2) hx (v := [1]) (by decide)
  rw [hV, show memB s3 [[1, 2, 3], [1, 2, 4]] [1] = false by decide +kernel, show inV s3 [1] = 1 by decide +kernel] at h
  exact by1 h
theorem j6 {x : TSt} (hx : TOk s3 x) (hV : x.V = [[1, 2, 3], [1, 2, 4]]) (hF : x.F = [(false, false), (false, true)]) (c c' : Bool) : PC Try.prog 17 [x.L s3 2, s3L c, .sl 1 c' [intL 0, intL 0, intL 0], intL 0] (.tup [boolL false, intL 10]) := by
  have h := getT (cap := 2) hx (v := [0, 0, 0]) (by decide) 0
  rw [hV, hF, show atE s3 [[1, 2, 3], [1, 2, 4]] [0, 0, 0] 0 = 10 by decide +kernel, show getFl s3 [[1, 2, 3], [1, 2, 4]] [(false, false), (false, true)] [0, 0, 0] 0 = false by decide +kernel] at h
  exact by1 h
theorem j7 {x : TSt} (hx : TOk s3 x) (hV : x.V = [[1, 2, 3], [1, 2, 4]]) : PC Try.prog 21 [x.L s3 2] (intL 2) := by
  have h := manyT (s := s3) (cap := 2) hx
  rw [hV] at h
  simp only [List.length_cons, List.length_nil] at h
  exact h
theorem szs3 : szsV s3 [[1, 2, 3], [1, 2, 4]] = [2, 1] := by
  unfold szsV
  rw [if_neg (by decide)]
  show szs _ 0 3 = _
  rw [szs_node (by decide), show hf 3 = 2 from rfl, show 3 - 2 = 1 from rfl, szs_node (m := 2) (by decide), show hf 2 = 1 from rfl, show 2 - 1 = 1 from rfl, szs_small (m := 1) (by decide), szs_small (m := 1) (by decide)]
  decide +kernel
theorem j8 {x : TSt} (hx : TOk s3 x) (hV : x.V = [[1, 2, 3], [1, 2, 4]]) : PC Try.prog 23 [x.L s3 2] (vecL [2, 1]) := by
  have h := sizesTx (cap := 2) hx
  rw [hV, szs3] at h
  exact h
theorem j9 (c' : Bool) : PC Try.prog 22 [vecL [2, 1], .sl 1 c' [intL 2, intL 1]] (boolL true) := by
  have h := vecA_any [2, 1] [2, 1] (by decide)
  exact PC.sub h (.cons (.refl _) (.cons subCl .nil)) (.refl _)
theorem j10 (c : Bool) : PC Try.prog 11 [s3L c, intL 2] (.tup [(tst0 s3).L s3 2, intL 0]) := by2 (newT (s := s3) (by decide) 2 (by decide) (by decide))
theorem j11 (c : Bool) : PC Try.prog 11 [s3L c, intL (-1)] (.tup [.agg [nilL, nilL], intL 1]) := by2 (new_bad_any (s := s3) (-1) (by omega))
set_option maxRecDepth 20000 in
theorem shown_any : PC Try.prog 8 [] (boolL true) := by
  refine pc_of_call (callAt_enter ir8 (by simp) ?_)
  simp
  refine callT_let [0] (j10 true) (by simp [frz, live, chunk]) (by simp) ?_
  obtain ⟨x0, hx0⟩ : ∃ x0, x0 = tst0 s3 := ⟨_, rfl⟩
  obtain ⟨x1, h1, V1, F1, c1⟩ := i1
  obtain ⟨x2, h2, V2, F2, c2⟩ := i2 h1 V1 F1
  obtain ⟨x3, c3⟩ := i3 h2 V2
  obtain ⟨x4, h4, V4, F4, c4⟩ := i4 h2 V2 F2
  rw [← hx0] at c1 ⊢
  simp [frzE, frzH, frzRow, frz, chunk]
  refine callT_let [2] (c1 true true) (by simp [frz, live, chunk]) (by simp) ?_
  simp [frzE, frzH, frzRow, frz, chunk]
  refine callT_let [4] (c2 true true) (by simp [frz, live, chunk]) (by simp) ?_
  simp [frzE, frzH, frzRow, frz, chunk]
  refine callT_let [6] (c3 true true) (by simp [frz, live, chunk]) (by simp) ?_
  simp [frzE, frzH, frzRow, frz, chunk]
  refine callT_let [8] (c4 true true) (by simp [frz, live, chunk]) (by simp) ?_
  simp [frzE, frzH, frzRow, frz, chunk]
  refine callT_let [10] (j1 h4 V4 F4 true true) (by simp [frz, live, chunk]) (by simp) ?_
  simp [frzE, frzH, frzRow, frz, chunk]
  refine callT_let [11] (j2 h4 V4 F4 true true) (by simp [frz, live, chunk]) (by simp) ?_
  simp [frzE, frzH, frzRow, frz, chunk]
  refine callT_let [12] (j3 h4 V4 true true) (by simp [frz, live, chunk]) (by simp) ?_
  simp [frzE, frzH, frzRow, frz, chunk]
  refine callT_let [13] (j4 h4 V4 true true) (by simp [frz, live, chunk]) (by simp) ?_
  simp [frzE, frzH, frzRow, frz, chunk]
  refine callT_let [14] (j5 h4 V4 true true) (by simp [frz, live, chunk]) (by simp) ?_
  simp [frzE, frzH, frzRow, frz, chunk]
  refine callT_let [15] (j6 h4 V4 F4 true true) (by simp [frz, live, chunk]) (by simp) ?_
  simp [frzE, frzH, frzRow, frz, chunk]
  refine callT_closed (j11 true) (by simp) ?_
  simp
  refine callT_closed (j7 h4 V4) (by simp) ?_
  simp
  refine callT_closed (j8 h4 V4) (by simp) ?_
  simp
  refine callT_let [17] (j9 true) (by simp [frz, live, chunk]) (by simp) ?_
  simp [frzE, frzH, frzRow, frz, chunk]
end Go.Proofs.Ytagaakajpblmjaa
