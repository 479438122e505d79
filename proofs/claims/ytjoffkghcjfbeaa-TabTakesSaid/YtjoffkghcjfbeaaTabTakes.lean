/- TAKES: a formula's automaton takes a word just if the formula holds of it. -/
import Derived.Test.YtjoffkghcjfbeaaTabShown
namespace Go.Proofs.Ytjoffkghcjfbeaa
open Go Lg
theorem frm_of {t : T} (ht : t.Ok) (hf : t.formula 3 = true) (hr : t.rightB = true) (hs : t.psize ≤ 9) : Frm t := by
 have fa := Fm.of ht hf
 have hd := few_dp (T.formula_facts hf).1
 have := (psize_subs t ⟨ht, hr, fa.may⟩ 44 (by omega) (by omega)).1
 exact ⟨fa, hr, by omega⟩
set_option maxRecDepth 100000 in
set_option maxHeartbeats 4000000 in
theorem takes_walk {t : T} {w : Word} (ht : t.Ok) (hw : w.Ok) : PC Try.prog 4 [t.toL, w.L] (boolL true) := by
 refine pc_of_call (callAt_enter ir4 (by simp) ?_)
 simp [topOK_toL, Word.L, Word.cells]
 refine callT_closed shown_any rfl ?_
 simp [toL_cells_length, toL_take, toL_agg]
 refine callT_plain (formula_any ht 3) rfl (by simp [mapO, reso_toL]) ?_
 cases hf : t.formula 3
 ·simp
 simp [toL_cells_length, toL_take, toL_agg]
 refine callT_plain (rightT_any ht) rfl (by simp [mapO, reso_toL]) ?_
 cases hr : t.rightB
 ·simp
 simp [toL_cells_length, toL_take, toL_agg]
 refine callT_plain (size_any ht) rfl (by simp [mapO, reso_toL]) ?_
 by_cases hs : t.psize ≤ 9
 ·have hs' : ¬ 9 < t.psize := by omega
  simp [hs']
  refine callT_plain (right17_any w) rfl (by simp [Word.L, Word.cells]) ?_
  cases hwr : w.right
  ·simp
  simp [Word.L, Word.cells]
  intro hl
  have F := frm_of ht hf hr hs
  have tk := takesR_any (F.takesOk hw hwr (by omega))
  rw [F.takes hwr] at tk
  have hh := holds_any hw hwr (by omega) F.fm
  have rr := right18_any F.ok
  rw [F.right18] at rr
  have hof := tabOf_any F
  generalize ofF t = A at tk rr hof
  generalize t.sat w 0 = b at tk hh
  refine callT_closed hof (by simp [mapO, reso_toL]) ?_
  simp [Aut.L, Aut.cells]
  refine callT_closed rr (by simp [Aut.L, Aut.cells]) ?_
  simp [toL_cells_length, toL_take, toL_agg]
  refine bcallT_plain tk rfl (by simp [Aut.L, Aut.cells, Word.L, Word.cells]) ?_
  simp
  refine callT_plain hh rfl (by simp [mapO, reso_toL, Word.L, Word.cells]) ?_
  simp
 ·have hs' : 9 < t.psize := by omega
  simp [hs']
theorem tabTakes_any (y0 : T) (h0 : T.Ok y0) (y1 : (List (List (Int))) × (Int)) (h1 : WordOk y1) : PC Try.prog 4 [y0.toL, .agg [L.sl 1 false (y1.1.map fun (z : List (Int)) => L.sl 1 false (z.map fun (z : Int) => L.v (.int .i64 z))), L.v (.int .i64 y1.2)]] (.v (.bool true)) := takes_walk h0 (wordOf_ok h1)
end Go.Proofs.Ytjoffkghcjfbeaa

