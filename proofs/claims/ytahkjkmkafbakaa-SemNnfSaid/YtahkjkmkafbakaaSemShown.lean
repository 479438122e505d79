/- The document's example. -/
import Derived.Test.YtahkjkmkafbakaaSemFn
namespace Go.Proofs.Ytahkjkmkafbakaa
open Go Lg

def w0 : Word := ⟨[[0], [1]], 1⟩
def w0L : L := .agg [.sl 1 true [.sl 1 true [intL 0], .sl 1 true [intL 1]], intL 1]
theorem w0_ok : w0.Ok := ⟨by simp [w0], fun r hr => by simp [w0] at hr; rcases hr with rfl | rfl <;> simp⟩
theorem w0_sub : Sub w0L w0.L := by
  refine Sub.aggL (.cons (.trans (.clip _ _) (.els rfl (fun j => ?_) ?_)) (.cons (.refl _) .nil))
  · match j with
    | 0 => exact .clip _ _
    | 1 => exact .clip _ _
    | j + 2 => exact .refl _
  · simp [w0]

theorem eqT_ok (n : Int) (h : (Lit.int .i64 n).wf = true) : (eqT n).Ok := by
  refine .mk (by decide) (by decide) (by decide) (by simp) fun t ht => ?_
  simp at ht
  rcases ht with rfl | rfl
  · exact .mk (by decide) (by decide) (by decide) (by simp) (by simp)
  · exact .mk (by decide) h (by decide) (by simp) (by simp)
theorem oneT_ok {op : Int} {t : T} (h : (Lit.int .i64 op).wf = true) (ht : t.Ok) : (T.mk op 0 0 [t]).Ok :=
  .mk h (by decide) (by decide) (by simp) fun u hu => by simp at hu; subst hu; exact ht

def xA : T := .mk 20 0 0 [eqT 1]
def xB : T := .mk 21 0 0 [.mk 22 0 0 [eqT 1]]
def xC : T := .mk 22 0 0 [.mk 21 0 0 [eqT 0]]
theorem xA_all : PC Try.prog 15 [xA.toL, w0L] (.sl 1 true [boolL true, boolL true]) :=
  (all_any (w := w0) (t := xA) (vars := 1) w0_ok (by decide) (by decide) (oneT_ok (by decide) (eqT_ok 1 (by decide))) (by decide) (by decide) (by decide)).sub (.cons (.refl _) (.cons w0_sub .nil)) (by
    have e : rowsB w0.v.length (xA.sat w0) = [true, true] := by decide
    unfold rowL; rw [e]; exact .refl _)
theorem xB_holds : PC Try.prog 17 [xB.toL, w0L] (boolL true) :=
  (holds_any (w := w0) (t := xB) (vars := 1) w0_ok (by decide) (by decide) (oneT_ok (by decide) (oneT_ok (by decide) (eqT_ok 1 (by decide)))) (by decide) (by decide) (by decide)).sub (.cons (.refl _) (.cons w0_sub .nil)) (by rw [show xB.sat w0 0 = true by decide]; exact .refl _)
theorem xC_holds : PC Try.prog 17 [xC.toL, w0L] (boolL false) :=
  (holds_any (w := w0) (t := xC) (vars := 1) w0_ok (by decide) (by decide) (oneT_ok (by decide) (oneT_ok (by decide) (eqT_ok 0 (by decide)))) (by decide) (by decide) (by decide)).sub (.cons (.refl _) (.cons w0_sub .nil)) (by rw [show xC.sat w0 0 = false by decide]; exact .refl _)
theorem wn_right : PC Try.prog 12 [.agg [.v (.slice none 0 0), intL 0]] (boolL false) := (rightS_any ⟨[], 0⟩).sub (.cons (.aggL (.cons (.nil _ _) (.cons (.refl _) .nil))) .nil) (.refl _)
theorem w2_sub : Sub (.agg [.sl 1 true [.sl 1 true [intL 0], .sl 1 true [intL 1]], intL 2]) (Word.L ⟨[[0], [1]], 2⟩) := by
  refine Sub.aggL (.cons (.trans (.clip _ _) (.els rfl (fun j => ?_) ?_)) (.cons (.refl _) .nil))
  · match j with
    | 0 => exact .clip _ _
    | 1 => exact .clip _ _
    | j + 2 => exact .refl _
  · simp
theorem w2_right : PC Try.prog 12 [.agg [.sl 1 true [.sl 1 true [intL 0], .sl 1 true [intL 1]], intL 2]] (boolL false) := (rightS_any ⟨[[0], [1]], 2⟩).sub (.cons w2_sub .nil) (.refl _)
theorem w0_right : PC Try.prog 12 [w0L] (boolL true) := (rightS_any w0).sub (.cons w0_sub .nil) (.refl _)

set_option maxRecDepth 100000 in
theorem shown_any : PC Try.prog 9 [] (boolL true) := by
  refine pc_of_call (callAt_enter ir9 (by simp) ?_)
  simp
  refine bcallT_closed (eq_any (n := 1)) (by simp) ?_
  simp
  refine bcallT_closed (one33_any (op := 20) (t := eqT 1)) (by simp [mapO, reso_toL]) ?_
  simp
  refine callT_thaw [0, 1, 2] xA_all (by simp [mapO, reso_toL, xA, w0L]) ?_
  simp
  refine bcallT_closed (eq_any (n := 1)) (by simp) ?_
  simp
  refine bcallT_closed (one33_any (op := 22) (t := eqT 1)) (by simp [mapO, reso_toL]) ?_
  simp
  refine bcallT_closed (one33_any (op := 21) (t := .mk 22 0 0 [eqT 1])) (by simp [mapO, reso_toL]) ?_
  simp
  refine callT_plain xB_holds rfl (by simp [mapO, reso_toL, xB, w0L]) ?_
  simp
  refine bcallT_closed (eq_any (n := 0)) (by simp) ?_
  simp
  refine bcallT_closed (one33_any (op := 21) (t := eqT 0)) (by simp [mapO, reso_toL]) ?_
  simp
  refine bcallT_closed (one33_any (op := 22) (t := .mk 21 0 0 [eqT 0])) (by simp [mapO, reso_toL]) ?_
  simp
  refine callT_plain xC_holds rfl (by simp [mapO, reso_toL, xC, w0L]) ?_
  simp
  refine callT_plain w0_right rfl (by simp [w0L]) ?_
  simp
  refine callT_plain wn_right rfl (by simp) ?_
  simp
  refine callT_plain w2_right rfl (by simp) ?_
  simp

end Go.Proofs.Ytahkjkmkafbakaa
