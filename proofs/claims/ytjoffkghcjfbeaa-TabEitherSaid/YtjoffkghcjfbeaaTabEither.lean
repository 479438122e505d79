/- EITHER: of a formula and of its negation, made right, the automata take each word, one of them alone. -/
import Derived.Test.YtjoffkghcjfbeaaTabTakes
namespace Go.Proofs.Ytjoffkghcjfbeaa
open Go Lg
theorem subs_fsize : ∀ t : T, Shp t → (t.subs.length : Int) = t.fsize := by
 intro t
 refine T.ind (M := fun t => Shp t → (t.subs.length : Int) = t.fsize) ?_ t
 intro op n pl l ih h
 cases hl : (T.mk op n pl l).lit
 ·obtain ⟨hk, hs⟩ := h.kids hl
  rw [T.fsize_mk, if_neg (by rw [hl]; decide), subs_of hl]
  have hk : ∀ x ∈ l, Shp x := hk
  rcases hs with ⟨ho, x, hx⟩ | ⟨ho, x, y, hx⟩
  ·have hx : l = [x] := hx
   have ho : op = 20 := ho
   subst hx ho
   have i1 := ih x (List.mem_singleton_self x) (hk x (List.mem_singleton_self x))
   simp [T.l, sizeStep]
   omega
  ·have hx : l = [x, y] := hx
   have ho : op = 16 ∨ op = 17 ∨ op = 23 ∨ op = 24 := ho
   subst hx
   have i1 := ih x (by simp) (hk x (by simp))
   have i2 := ih y (by simp) (hk y (by simp))
   rcases ho with rfl | rfl | rfl | rfl <;> simp [T.l, sizeStep] <;> omega
 ·rw [T.fsize_mk, if_pos hl, subs_lit hl]; rfl
theorem frm_turn {t : T} (ht : t.Ok) (hf : t.formula 3 = true) (b : Bool) (hs : t.fsize ≤ 8) : Frm (t.turnR b) := by
 have fa := Fm.of ht hf
 have fb := turnR_fm t fa b
 obtain ⟨-, h2, h3, -⟩ := turnR_right t fa b
 have := subs_fsize (t.turnR b) ⟨fb.ok, h2, fb.may⟩
 exact ⟨fb, h2, by omega⟩
set_option maxRecDepth 100000 in
set_option maxHeartbeats 8000000 in
theorem either_walk {t : T} {w : Word} (ht : t.Ok) (hw : w.Ok) : PC Try.prog 5 [t.toL, w.L] (boolL true) := by
 refine pc_of_call (callAt_enter ir5 (by simp) ?_)
 simp [topOK_toL, Word.L, Word.cells]
 refine callT_closed shown_any rfl ?_
 simp [toL_cells_length, toL_take, toL_agg]
 refine callT_plain (formula_any ht 3) rfl (by simp [mapO, reso_toL]) ?_
 cases hf : t.formula 3
 ·simp
 simp
 refine callT_plain (right17_any w) rfl (by simp [Word.L, Word.cells]) ?_
 cases hwr : w.right
 ·simp
 simp [Word.L, Word.cells]
 intro hl
 have fa := Fm.of ht hf
 have hdp := few_dp (T.formula_facts hf).1
 have p1 := of_any fa (by omega)
 have p2 := not_any fa (by omega)
 rw [made_eq fa (by omega)] at p1 p2
 by_cases hs : t.fsize ≤ 24
 ·rw [if_pos hs] at p1 p2
  have fb := turnR_fm t fa false
  obtain ⟨b1, b2, b3, b4⟩ := turnR_right t fa false
  have s1 := (turnR_self _ fb b2).2 (by omega)
  rw [b3] at s1
  have z1 := size_any fb.ok
  rw [s1] at z1
  refine callT_closed p1 (by simp [mapO, reso_toL]) ?_
  simp [toL_cells_length, toL_take, toL_agg, setCells_toL]
  refine callT_closed p2 (by simp [mapO, reso_toL]) ?_
  simp [toL_cells_length, toL_take, toL_agg, setCells_toL]
  refine callT_plain z1 rfl (by simp [mapO, reso_toL]) ?_
  simp [toL_cells_length, toL_take, toL_agg]
  intro hs8
  have Fa := frm_turn ht hf false hs8
  have Fb := frm_turn ht hf true hs8
  have ta := takesP_any (Fa.takesOk hw hwr (by omega)) Fa.may
  have tb := takesP_any (Fb.takesOk hw hwr (by omega)) Fb.may
  rw [Fa.takes hwr, turnR_sat t fa false] at ta
  rw [Fb.takes hwr, turnR_sat t fa true] at tb
  have oa := tabOf_any Fa
  have ob := tabOf_any Fb
  generalize ofF (t.turnR false) = A at oa ta
  generalize ofF (t.turnR true) = B at ob tb
  simp [satB] at ta tb
  generalize t.sat w 0 = b at ta tb
  refine bcallT_closed oa (by simp [mapO, reso_toL]) ?_
  simp [Aut.L, Aut.cells]
  refine bcallT_plain ta rfl (by simp [Aut.L, Aut.cells, Word.L, Word.cells]) ?_
  simp [toL_cells_length, toL_take, toL_agg]
  refine bcallT_closed ob (by simp [mapO, reso_toL]) ?_
  simp [Aut.L, Aut.cells]
  refine callT_plain tb rfl (by simp [Aut.L, Aut.cells, Word.L, Word.cells]) ?_
  simp
 ·rw [if_neg hs] at p1 p2
  refine callT_closed p1 (by simp [mapO, reso_toL]) ?_
  simp [toL_cells_length, toL_take, toL_agg, setCells_toL]
  refine callT_closed p2 (by simp [mapO, reso_toL]) ?_
  simp [toL_cells_length, toL_take, toL_agg, setCells_toL]
theorem tabEither_any (y0 : T) (h0 : T.Ok y0) (y1 : (List (List (Int))) × (Int)) (h1 : WordOk y1) : PC Try.prog 5 [y0.toL, .agg [L.sl 1 false (y1.1.map fun (z : List (Int)) => L.sl 1 false (z.map fun (z : Int) => L.v (.int .i64 z))), L.v (.int .i64 y1.2)]] (.v (.bool true)) := either_walk h0 (wordOf_ok h1)
end Go.Proofs.Ytjoffkghcjfbeaa

