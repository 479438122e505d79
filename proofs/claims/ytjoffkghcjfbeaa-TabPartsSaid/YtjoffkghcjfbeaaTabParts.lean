/- PARTS: of both of two formulas, and of either. -/
import Derived.Test.YtjoffkghcjfbeaaTabTakes
namespace Go.Proofs.Ytjoffkghcjfbeaa
open Go Lg
theorem two_frm {op : Int} (ho : op = 16 ∨ op = 17) {a b : T} (ha : Frm a) (hb : Frm b) (h : a.subs.length + b.subs.length ≤ 8) : Frm (.mk op 0 0 [a, b]) := by
 have hf : Fm 3 (.mk op 0 0 [a, b]) := Fm.two (by omega) ha.fm hb.fm
 refine ⟨hf, ?_, ?_⟩
 ·rw [T.rightB_mk]
  have : rightOp op = true := by rcases ho with rfl | rfl <;> decide
  simp [this, ha.right, hb.right]
 ·rw [T.subs_mk]
  split
  ·simp
  ·simp; omega
theorem two_sub {op : Int} {a b : T} : Sub (.agg [intL op, intL 0, intL 0, .sl 4 true [a.toL, b.toL]]) (T.mk op 0 0 [a, b]).toL := by
 have := sub_tree (sub_node (op := op) (n := 0) (pl := 0) (xs := [a.toL.cells, b.toL.cells]) (ts := [a, b]) rfl fun i h => by
  match i with
  | 0 => exact Lg.sub_self a
  | 1 => exact Lg.sub_self b)
 simpa [toL_agg] using this
theorem hclT (t : T) : (∀ x, x ∈ t.toL.cells → closed x = true) = True := eq_true fun x hx => List.all_eq_true.1 (all_closed_toL t) x hx
set_option maxRecDepth 100000 in
set_option maxHeartbeats 8000000 in
theorem parts_walk {t u : T} {w : Word} (ht : t.Ok) (hu : u.Ok) (hw : w.Ok) : PC Try.prog 8 [t.toL, u.toL, w.L] (boolL true) := by
 refine pc_of_call (callAt_enter ir8 (by simp) ?_)
 simp [topOK_toL, Word.L, Word.cells]
 refine callT_closed shown_any rfl ?_
 simp [toL_cells_length, toL_take, toL_agg]
 refine callT_plain (formula_any ht 3) rfl (by simp [mapO, reso_toL]) ?_
 cases hf : t.formula 3
 ·simp
 simp [toL_cells_length, toL_take, toL_agg]
 refine callT_plain (formula_any hu 3) rfl (by simp [mapO, reso_toL]) ?_
 cases hg : u.formula 3
 ·simp
 simp [toL_cells_length, toL_take, toL_agg]
 refine callT_plain (rightT_any ht) rfl (by simp [mapO, reso_toL]) ?_
 cases hr : t.rightB
 ·simp
 simp [toL_cells_length, toL_take, toL_agg]
 refine callT_plain (rightT_any hu) rfl (by simp [mapO, reso_toL]) ?_
 cases hs : u.rightB
 ·simp
 simp [toL_cells_length, toL_take, toL_agg]
 refine callT_plain (size_any ht) rfl (by simp [mapO, reso_toL]) ?_
 by_cases hn : t.psize ≤ 4
 ·have hn' : ¬ 4 < t.psize := by omega
  simp [hn', toL_cells_length, toL_take, toL_agg]
  refine callT_plain (size_any hu) rfl (by simp [mapO, reso_toL]) ?_
  by_cases hm : u.psize ≤ 4
  ·have hm' : ¬ 4 < u.psize := by omega
   simp [hm']
   refine callT_plain (right17_any w) rfl (by simp [Word.L, Word.cells]) ?_
   cases hwr : w.right
   ·simp
   simp [Word.L, Word.cells]
   intro hl
   have Fa := frm_of ht hf hr (by omega)
   have Fb := frm_of hu hg hs (by omega)
   have ha4 : t.subs.length ≤ 4 := by
    have := (psize_subs t Fa.shp 44 (by omega) (few_dp (T.formula_facts hf).1)).1
    omega
   have hb4 : u.subs.length ≤ 4 := by
    have := (psize_subs u Fb.shp 44 (by omega) (few_dp (T.formula_facts hg).1)).1
    omega
   have Fx := two_frm (op := 16) (by omega) Fa Fb (by omega)
   have Fy := two_frm (op := 17) (by omega) Fa Fb (by omega)
   have ta := takesR_any (Fa.takesOk hw hwr (by omega))
   have tb := takesR_any (Fb.takesOk hw hwr (by omega))
   have tx := takesR_any (Fx.takesOk hw hwr (by omega))
   have ty := takesR_any (Fy.takesOk hw hwr (by omega))
   have sx : (T.mk 16 0 0 [t, u]).sat w 0 = (t.sat w 0 && u.sat w 0) := by rw [Fm.sat_two (by omega) Fa.fm Fb.fm]; rfl
   have sy : (T.mk 17 0 0 [t, u]).sat w 0 = (t.sat w 0 || u.sat w 0) := by rw [Fm.sat_two (by omega) Fa.fm Fb.fm]; rfl
   rw [Fa.takes hwr] at ta
   rw [Fb.takes hwr] at tb
   rw [Fx.takes hwr, sx] at tx
   rw [Fy.takes hwr, sy] at ty
   have ra := right18_any Fa.ok
   have rb := right18_any Fb.ok
   have rx := right18_any Fx.ok
   have ry := right18_any Fy.ok
   rw [Fa.right18] at ra
   rw [Fb.right18] at rb
   rw [Fx.right18] at rx
   rw [Fy.right18] at ry
   have oa := tabOf_any Fa
   have ob := tabOf_any Fb
   have ox := (tabOf_any Fx).sub (.cons two_sub .nil) (.refl _)
   have oy := (tabOf_any Fy).sub (.cons two_sub .nil) (.refl _)
   generalize ofF t = A at oa ta ra
   generalize ofF u = B at ob tb rb
   generalize ofF (T.mk 16 0 0 [t, u]) = C at ox tx rx
   generalize ofF (T.mk 17 0 0 [t, u]) = D at oy ty ry
   generalize t.sat w 0 = a at ta tx ty
   generalize u.sat w 0 = b at tb tx ty
   refine callT_closed oa (by simp [mapO, reso_toL]) ?_
   simp [Aut.L, Aut.cells, toL_cells_length, toL_take, toL_agg]
   refine callT_closed ob (by simp [mapO, reso_toL]) ?_
   simp [Aut.L, Aut.cells, toL_cells_length, toL_take, toL_agg, setCells8, setCells8_len]
   refine callT_freeze [5] ox (by simp [toL_cells_length, toL_agg, chunk, hclT]) ?_
   simp [Aut.L, Aut.cells, toL_cells_length, toL_take, toL_agg, setCells8, setCells8_len]
   refine callT_freeze [7] oy (by simp [toL_cells_length, toL_agg, chunk, hclT]) ?_
   simp [Aut.L, Aut.cells]
   refine callT_closed ra (by simp [Aut.L, Aut.cells]) ?_
   simp
   refine callT_closed rb (by simp [Aut.L, Aut.cells]) ?_
   simp
   refine callT_closed rx (by simp [Aut.L, Aut.cells]) ?_
   simp
   refine callT_closed ry (by simp [Aut.L, Aut.cells]) ?_
   simp
   refine callT_closed ta (by simp [Aut.L, Aut.cells, Word.L, Word.cells]) ?_
   simp
   refine callT_closed tb (by simp [Aut.L, Aut.cells, Word.L, Word.cells]) ?_
   simp
   refine callT_closed tx (by simp [Aut.L, Aut.cells, Word.L, Word.cells]) ?_
   cases a
   ·cases b
    ·simp
     refine callT_closed ty (by simp [Aut.L, Aut.cells, Word.L, Word.cells]) ?_
     simp
    ·simp
     refine callT_closed ty (by simp [Aut.L, Aut.cells, Word.L, Word.cells]) ?_
     simp
   ·cases b
    ·simp
     refine callT_closed ty (by simp [Aut.L, Aut.cells, Word.L, Word.cells]) ?_
     simp
    ·simp
     refine callT_closed ty (by simp [Aut.L, Aut.cells, Word.L, Word.cells]) ?_
     simp
  ·have hm' : 4 < u.psize := by omega
   simp [hm']
 ·have hn' : 4 < t.psize := by omega
  simp [hn']
theorem tabParts_any (y0 : T) (h0 : T.Ok y0) (y1 : T) (h1 : T.Ok y1) (y2 : (List (List (Int))) × (Int)) (h2 : WordOk y2) : PC Try.prog 8 [y0.toL, y1.toL, .agg [L.sl 1 false (y2.1.map fun (z : List (Int)) => L.sl 1 false (z.map fun (z : Int) => L.v (.int .i64 z))), L.v (.int .i64 y2.2)]] (.v (.bool true)) := parts_walk h0 h1 (wordOf_ok h2)
end Go.Proofs.Ytjoffkghcjfbeaa

