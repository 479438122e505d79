/- The document's example. -/
import Derived.Test.YtjdliinnbkfljaaDegenFn
namespace Go.Proofs.Ytjdliinnbkfljaa
open Go Lg

def tt : T := .mk 13 0 0 []
theorem tt_ok : tt.Ok := .mk (by decide) (by decide) (by decide) (by simp) (by simp)
def shA : Aut := ⟨[[], [tt]], [[1], [0]], [0], [[0], [1]]⟩
theorem shA_ok : OfOk shA := by
  refine ⟨⟨by simp [shA], ?_, by simp [shA], by simp [shA], by simp [shA], by simp [shA], by simp [shA]⟩, by decide, by simp [shA], by simp [shA], by simp [shA], by simp [shA]⟩
  intro l hl
  simp [shA] at hl
  rcases hl with rfl | rfl
  · simp
  · simp; exact tt_ok
theorem shA_of : degenOf shA = ⟨[[], [], [tt], [tt]], [[3], [3], [0], [0]], [0], [[0]]⟩ := by rfl
theorem shA_sub : Sub (.agg [.sl 1 true [.v (.slice none 0 0), .sl 4 true [.agg [intL 13, intL 0, intL 0, .v (.slice none 0 0)]]], .sl 1 true [.sl 1 true [intL 1], .sl 1 true [intL 0]], .sl 1 true [intL 0], .sl 1 true [.sl 1 true [intL 0], .sl 1 true [intL 1]]]) shA.L := by
  refine Sub.aggL (.cons (.trans (.clip _ _) (.els rfl (fun j => ?_) ?_)) (.cons (.trans (.clip _ _) (.els rfl (fun j => ?_) ?_)) (.cons (.clip _ _) (.cons (.trans (.clip _ _) (.els rfl (fun j => ?_) ?_)) .nil))))
  · match j with
    | 0 => exact .nil _ _
    | 1 => exact sub_trees (xs := [[intL 13, intL 0, intL 0, .v (.slice none 0 0)]]) (ts := [tt]) rfl (fun i h => by
        match i with
        | 0 => exact sub_leaf)
    | j + 2 => exact .refl _
  · simp [shA]
  · match j with
    | 0 => exact .clip _ _
    | 1 => exact .clip _ _
    | j + 2 => exact .refl _
  · simp [shA]
  · match j with
    | 0 => exact .clip _ _
    | 1 => exact .clip _ _
    | j + 2 => exact .refl _
  · simp [shA]

set_option maxRecDepth 100000 in
theorem shown_any : PC Try.prog 8 [] (boolL true) := by
  have hof := (of_any shA_ok).sub (.cons shA_sub .nil) (.refl _)
  rw [shA_of] at hof
  have v33 := vec_any (c := false) (c' := true) [3] [3] (by simp)
  have v00 := vec_any (c := false) (c' := true) [0] [0] (by simp)
  simp at v33 v00
  refine pc_of_call (callAt_enter ir8 (by simp) ?_)
  simp
  refine callT_freeze [0, 1, 2, 3, 4, 5, 6, 7, 8] hof ?_ ?_
  · simp [tt, T.toL, T.toLs]
  · simp [Aut.L, Aut.cells]
    refine callT_plain v33 rfl (by simp) ?_
    simp
    refine callT_plain v33 rfl (by simp) ?_
    simp
    refine callT_plain v00 rfl (by simp) ?_
    simp
    refine callT_plain v00 rfl (by simp) ?_
    simp
    refine callT_plain v00 rfl (by simp) ?_
    simp
    refine callT_plain v00 rfl (by simp) ?_
    simp

end Go.Proofs.Ytjdliinnbkfljaa
