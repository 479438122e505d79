/- The document's example. -/
import Derived.Test.YtjoffkghcjfbeaaTabFn
import Derived.Test.YtjoffkghcjfbeaaTabIr
namespace Go.Proofs.Ytjoffkghcjfbeaa
open Go Lg
def isT (n : Int) : T := .mk 7 0 0 [.mk 2 n 0 [], .mk 1 1 0 []]
theorem is_any {n : Int} : PC Try.prog 27 [intL n] (isT n).toL := by
 refine pc_of_call' (callAt_enter ir27 (by simp) ?_)
 simp
 have hs := sub_tree (sub_node (op := 7) (n := 0) (pl := 0) (xs := [[intL 2, intL n, intL 0, .v (.slice none 0 0)], [intL 1, intL 1, intL 0, .v (.slice none 0 0)]]) (ts := [.mk 2 n 0 [], .mk 1 1 0 []]) rfl fun i h => by
  match i with
  | 0 => exact sub_leaf
  | 1 => exact sub_leaf)
 exact hs
theorem isT_ok (n : Int) (h : (Lit.int .i64 n).wf = true) : (isT n).Ok := by
 refine .mk (by decide) (by decide) (by decide) (by simp) fun t ht => ?_
 simp at ht
 rcases ht with rfl | rfl
 ·exact .mk (by decide) h (by decide) (by simp) (by simp)
 ·exact .mk (by decide) (by decide) (by decide) (by simp) (by simp)
def uT : T := .mk 23 0 0 [isT 0, isT 1]
def tT : T := .mk 13 0 0 []
theorem uT_ok : uT.Ok := .mk (by decide) (by decide) (by decide) (by simp) fun t ht => by
 simp at ht
 rcases ht with rfl | rfl
 ·exact isT_ok 0 (by decide)
 ·exact isT_ok 1 (by decide)
theorem uT_frm : Frm uT := ⟨⟨uT_ok, by decide, by decide, by decide⟩, by decide, by decide⟩
theorem tT_frm : Frm tT := ⟨⟨.mk (by decide) (by decide) (by decide) (by simp) (by simp), by decide, by decide, by decide⟩, by decide, by decide⟩
def wX : Word := ⟨[[1, 0], [1, 0]], 1⟩
def wY : Word := ⟨[[1, 0], [0, 1]], 0⟩
theorem wX_ok : wX.Ok := ⟨by simp [wX], fun r hr => by simp [wX] at hr; subst hr; simp⟩
theorem wY_ok : wY.Ok := ⟨by simp [wY], fun r hr => by simp [wY] at hr; rcases hr with rfl | rfl <;> simp⟩
theorem rows_sub {a b c d : Int} : Sub (.sl 1 true [.sl 1 true [intL a, intL b], .sl 1 true [intL c, intL d]]) (.sl 1 false ([[a, b], [c, d]].map intsL)) := by
 refine .trans (.clip _ _) (.els rfl (fun j => ?_) ?_)
 ·match j with
  | 0 => exact .clip _ _
  | 1 => exact .clip _ _
  | j + 2 => exact .refl _
 ·simp
def wXL : L := .agg [.sl 1 true [.sl 1 true [intL 1, intL 0], .sl 1 true [intL 1, intL 0]], intL 1]
def wYL : L := .agg [.sl 1 true [.sl 1 true [intL 1, intL 0], .sl 1 true [intL 0, intL 1]], intL 0]
theorem wX_sub : Sub wXL wX.L := .aggL (.cons rows_sub (.cons (.refl _) .nil))
theorem wY_sub : Sub wYL wY.L := .aggL (.cons rows_sub (.cons (.refl _) .nil))
theorem tk_any {t : T} (h : Frm t) {w : Word} (hw : w.Ok) (hr : w.right = true) (hl : w.v.length ≤ 500) {wl : L} (hs : Sub wl w.L) {b : Bool} (hb : t.sat w 0 = b) : PC Try.prog 17 [(ofF t).L, wl] (boolL b) := by
 have := (takesP_any (h.takesOk hw hr hl) h.may).sub (.cons (.refl _) (.cons hs .nil)) (.refl _)
 rwa [h.takes hr, hb] at this
def nA : Aut := ⟨[], [], [0], []⟩
theorem nA_right : PC Try.prog 13 [.agg [.v (.slice none 0 0), .v (.slice none 0 0), .sl 1 true [intL 0], .v (.slice none 0 0)]] (boolL false) := by
 have := (rightP_any (a := nA) ⟨by simp [nA], by simp [nA], by simp [nA], by simp [nA], by simp [nA], by simp [nA], by simp [nA]⟩ (by simp [nA]) (by simp [nA])).sub (.cons (.aggL (.cons (.nil _ _) (.cons (.nil _ _) (.cons (.clip _ _) (.cons (.nil _ _) .nil))))) .nil) (.refl _)
 rwa [show nA.right = false by decide] at this
def fA : Aut := ⟨[[isT 0]], [[]], [], []⟩
theorem fA_fits (n : Int) {b : Bool} (hb : fA.fits 0 [n] = b) : PC Try.prog 15 [.agg [.sl 1 true [.sl 4 true [(isT 0).toL]], .sl 1 true [.v (.slice none 0 0)], .v (.slice none 0 0), .v (.slice none 0 0)], intL 0, .sl 1 true [intL n]] (boolL b) := by
 have h := fitP_any (a := fA) ⟨by simp [fA], fun l hl => by simp [fA] at hl; subst hl; exact ⟨by simp, fun t ht => by simp at ht; subst ht; exact isT_ok 0 (by decide)⟩, by simp [fA], by simp [fA], by simp [fA], by simp [fA], by simp [fA]⟩ (by decide) (vars := 3) (by decide) (q := 0) (by decide) (c := true) (v := [n]) (by simp)
 rw [hb] at h
 refine h.sub (.cons (.aggL (.cons ?_ (.cons ?_ (.cons (.nil _ _) (.cons (.nil _ _) .nil))))) (.cons (.refl _) (.cons (.refl _) .nil))) (.refl _)
 ·refine .trans (.clip _ _) (.els rfl (fun j => ?_) ?_)
  ·match j with
   | 0 => exact .clip _ _
   | j + 1 => exact .refl _
  ·simp
 ·refine .trans (.clip _ _) (.els rfl (fun j => ?_) ?_)
  ·match j with
   | 0 => exact .nil _ _
   | j + 1 => exact .refl _
  ·simp
def uTL : L := .agg [intL 23, intL 0, intL 0, .sl 4 true [(isT 0).toL, (isT 1).toL]]
theorem uT_of : PC Try.prog 22 [uTL] (ofF uT).L := (tabOf_any uT_frm).sub (.cons (by
 have := sub_tree (sub_node (op := 23) (n := 0) (pl := 0) (xs := [(isT 0).toL.cells, (isT 1).toL.cells]) (ts := [isT 0, isT 1]) rfl fun i h => by
  match i with
  | 0 => exact Lg.sub_self (isT 0)
  | 1 => exact Lg.sub_self (isT 1))
 exact this) .nil) (.refl _)
theorem tT_of : PC Try.prog 22 [.agg [intL 13, intL 0, intL 0, .v (.slice none 0 0)]] (ofF tT).L := (tabOf_any tT_frm).sub (.cons (sub_tree sub_leaf) .nil) (.refl _)
theorem hcl (n : Int) : (∀ x, x ∈ (isT n).toL.cells → closed x = true) = True := eq_true fun x hx => List.all_eq_true.1 (all_closed_toL (isT n)) x hx
set_option maxRecDepth 100000 in
theorem shown_any : PC Try.prog 9 [] (boolL true) := by
 have hu := uT_of
 have ht := tT_of
 have t1 := tk_any tT_frm wX_ok (by decide) (by decide) wX_sub (b := true) (by decide)
 have t2 := tk_any tT_frm wY_ok (by decide) (by decide) wY_sub (b := true) (by decide)
 have u1 := tk_any uT_frm wX_ok (by decide) (by decide) wX_sub (b := false) (by decide)
 have u2 := tk_any uT_frm wY_ok (by decide) (by decide) wY_sub (b := true) (by decide)
 have ur := rightP_any uT_frm.ok (by have := (uT_frm.takesOk wX_ok (by decide) (by decide)).next; have := (of_small uT_frm.parts (subs_self _)).1; omega) (by have := (of_small uT_frm.parts (subs_self _)).2.2.2.2.1; omega)
 rw [uT_frm.right18] at ur
 generalize ofF uT = A at hu u1 u2 ur
 generalize ofF tT = B at ht t1 t2
 refine pc_of_call (callAt_enter ir9 (by simp) ?_)
 simp
 refine callT_closed (is_any (n := 0)) (by simp) ?_
 simp
 refine callT_closed (is_any (n := 1)) (by simp) ?_
 simp [setCells8, setCells8_len]
 refine callT_freeze [0] hu (by simp [uTL, toL_cells_length, toL_agg, chunk, hcl]) ?_
 simp [Aut.L, Aut.cells]
 refine callT_closed ht (by simp) ?_
 simp [Aut.L, Aut.cells]
 refine callT_thaw [3, 4, 5] t1 (by simp [wXL, Aut.L, Aut.cells]) ?_
 simp
 refine callT_thaw [7, 8, 9] t2 (by simp [wYL, Aut.L, Aut.cells]) ?_
 simp
 refine callT_closed u1 (by simp [wXL, Aut.L, Aut.cells]) ?_
 simp
 refine callT_closed u2 (by simp [wYL, Aut.L, Aut.cells]) ?_
 simp
 refine callT_closed ur (by simp [Aut.L, Aut.cells]) ?_
 simp
 refine callT_plain nA_right rfl (by simp) ?_
 simp
 refine callT_closed (is_any (n := 0)) (by simp) ?_
 simp [setCells_toL, toL_cells_length]
 refine callT_plain (fA_fits 1 (b := true) (by decide)) rfl (by simp [toL_agg, toL_cells_length, hcl]) ?_
 simp
 refine callT_closed (is_any (n := 0)) (by simp) ?_
 simp [setCells_toL, toL_cells_length]
 refine callT_plain (fA_fits 0 (b := false) (by decide)) rfl (by simp [toL_agg, toL_cells_length, hcl]) ?_
 simp
end Go.Proofs.Ytjoffkghcjfbeaa

