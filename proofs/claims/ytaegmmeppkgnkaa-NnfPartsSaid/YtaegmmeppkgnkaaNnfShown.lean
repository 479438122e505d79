/- The document's example. -/
import Derived.Test.YtaegmmeppkgnkaaNnfFn
namespace Go.Proofs.Ytaegmmeppkgnkaa
open Go Lg

def gA : T := .mk 7 0 0 [.mk 2 0 0 [], .mk 1 1 0 []]
def gG : T := .mk 22 0 0 [gA]
theorem gA_ok : gA.Ok := by
  refine .mk (by decide) (by decide) (by decide) (by simp) fun t ht => ?_
  simp at ht
  rcases ht with rfl | rfl
  · exact .mk (by decide) (by decide) (by decide) (by simp) (by simp)
  · exact .mk (by decide) (by decide) (by decide) (by simp) (by simp)
theorem gG_fm : Fm 3 gG := ⟨.mk (by decide) (by decide) (by decide) (by simp) fun t ht => by simp at ht; subst ht; exact gA_ok, by decide, by decide, by decide⟩

def aC : List L := [intL 7, intL 0, intL 0, .sl 4 true ([[intL 2, intL 0, intL 0, .v (.slice none 0 0)], [intL 1, intL 1, intL 0, .v (.slice none 0 0)]].map L.agg)]
def aL : L := .agg aC
def gL : L := .agg [intL 22, intL 0, intL 0, .sl 4 true ([aC].map L.agg)]
theorem aC_sub : SubAll aC gA.toL.cells := sub_node (ts := [.mk 2 0 0 [], .mk 1 1 0 []]) rfl fun i h => by
  match i with
  | 0 => exact sub_leaf
  | 1 => exact sub_leaf
theorem aL_sub : Sub aL gA.toL := sub_tree aC_sub
theorem gL_sub : Sub gL gG.toL := sub_tree (sub_node (ts := [gA]) rfl fun i h => by
  match i with
  | 0 => exact aC_sub)

def gX : T := .mk 23 0 0 [.mk 13 0 0 [], .mk 15 0 0 [gA]]
def gY : T := .mk 24 0 0 [.mk 14 0 0 [], gA]
theorem gX_eq : gG.made true = (gX, 0) := by decide
theorem gY_eq : gG.made false = (gY, 0) := by decide
theorem not_gG : PC Try.prog 11 [gL] (.tup [gX.toL, intL 0]) := by
  have := (not_any gG_fm).sub (.cons gL_sub .nil) (.refl _)
  rwa [gX_eq] at this
theorem of_gG : PC Try.prog 9 [gL] (.tup [gY.toL, intL 0]) := by
  have := (of_any gG_fm).sub (.cons gL_sub .nil) (.refl _)
  rwa [gY_eq] at this
theorem gX_fm : Fm 3 gX := by
  have := turnR_fm gG gG_fm true
  rwa [show gG.turnR true = gX by decide] at this
theorem same_a : PC Try.prog 21 [gA.toL, aL] (boolL true) := by
  have := (same_any gA_ok gA_ok).sub (.cons (.refl _) (.cons aL_sub .nil)) (.refl _)
  rwa [same_self] at this
theorem lit_a : PC Try.prog 13 [aL] (boolL true) := by
  have := (lit_any gA gA_ok).sub (.cons aL_sub .nil) (.refl _)
  rwa [show gA.lit = true by decide] at this
theorem lit_g : PC Try.prog 13 [gL] (boolL false) := by
  have := (lit_any gG gG_fm.ok).sub (.cons gL_sub .nil) (.refl _)
  rwa [show gG.lit = false by decide] at this
theorem right_x : PC Try.prog 17 [gX.toL] (boolL true) := by
  have := right_any gX_fm.ok
  rwa [show gX.rightB = true by decide] at this
theorem right_g : PC Try.prog 17 [gL] (boolL false) := by
  have := (right_any gG_fm.ok).sub (.cons gL_sub .nil) (.refl _)
  rwa [show gG.rightB = false by decide] at this
theorem size_x : PC Try.prog 15 [gX.toL] (intL 3) := by
  have := size_any gX_fm.ok
  rwa [show gX.psize = 3 by decide] at this
theorem size_a : PC Try.prog 15 [aL] (intL 1) := by
  have := (size_any gA_ok).sub (.cons aL_sub .nil) (.refl _)
  rwa [show gA.psize = 1 by decide] at this

set_option maxRecDepth 100000 in
set_option maxHeartbeats 4000000 in
theorem shown_any : PC Try.prog 7 [] (boolL true) := by
  refine pc_of_call (callAt_enter ir7 (by simp) ?_)
  simp
  refine callT_thaw [0, 2] not_gG (by simp [mapO, reso, gL, aC, chunk, List.range, List.range.loop]) ?_
  simp
  refine callT_closed of_gG (by simp [mapO, reso, gL, aL, aC, gX, gA, toL_mk]) ?_
  simp [gX, gY, gA, toL_mk]
  refine callT_plain same_a rfl (by simp [mapO, reso, gL, aL, aC, gX, gA, toL_mk]) ?_
  simp
  refine callT_plain same_a rfl (by simp [mapO, reso, gL, aL, aC, gX, gA, toL_mk]) ?_
  simp
  refine callT_plain lit_a rfl (by simp [mapO, reso, gL, aL, aC, gX, gA, toL_mk]) ?_
  simp
  refine callT_plain lit_g rfl (by simp [mapO, reso, gL, aL, aC, gX, gA, toL_mk]) ?_
  simp
  refine callT_plain right_x rfl (by simp [mapO, reso, gL, aL, aC, gX, gA, toL_mk]) ?_
  simp
  refine callT_plain right_g rfl (by simp [mapO, reso, gL, aL, aC, gX, gA, toL_mk]) ?_
  simp
  refine callT_plain size_x rfl (by simp [mapO, reso, gL, aL, aC, gX, gA, toL_mk]) ?_
  simp
  refine callT_plain size_a rfl (by simp [mapO, reso, gL, aL, aC, gX, gA, toL_mk]) ?_
  simp

end Go.Proofs.Ytaegmmeppkgnkaa
