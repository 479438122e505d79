/- TELLS: which words are right, where a formula holds, and whether it does from the first state on, are as the document says. -/
import Derived.Test.YtahkjkmkafbakaaSemShown
namespace Go.Proofs.Ytahkjkmkafbakaa
open Go Lg

theorem semTells_any (y0 : T) (h0 : T.Ok y0) (y1 : (List (List (Int))) × (Int)) (h1 : ((∀ z ∈ y1.1, (∀ zz ∈ z, (Lit.int .i64 zz).wf = true) ∧ z.length * 8 ≤ 140737488351232) ∧ y1.1.length * 24 ≤ 140737488351232) ∧ ((Lit.int .i64 y1.2).wf = true)) : PC Try.prog 3 [y0.toL, .agg [L.sl 1 false (y1.1.map fun (z : List (Int)) => L.sl 1 false (z.map fun (z : Int) => L.v (.int .i64 z))), L.v (.int .i64 y1.2)]] (.v (.bool true)) := by
  show PC Try.prog 3 [y0.toL, (wordOf y1).L] (boolL true)
  have hw := wordOf_ok h1
  generalize wordOf y1 = w at hw
  refine pc_of_call (callAt_enter ir3 (by simp) ?_)
  simp [Word.L, Word.cells, topOK_toL]
  refine callT_closed shown_any rfl ?_
  simp
  by_cases hlen : 20 < w.v.length
  · have k1 : (20 : Int) < w.v.length := by omega
    have k2 : ¬ (w.v.length : Int) ≤ 20 := by omega
    simp [k1, k2]
  · have k1 : ¬ (20 : Int) < w.v.length := by omega
    have k2 : (w.v.length : Int) ≤ 20 := by omega
    simp [k1, k2]
    refine callT_plain (few_any hw) rfl (by simp [Word.L, Word.cells]) ?_
    cases (w.v.all fun r => decide (r.length ≤ 10))
    · simp
    · simp
      refine callT_plain (rightR_any w) rfl (by simp [Word.L, Word.cells]) ?_
      simp
      refine callT_plain (rightS_any w) rfl (by simp [Word.L, Word.cells]) ?_
      cases hr : w.right
      · simp
      · simp [toL_cells_length, toL_take, toL_agg]
        refine callT_plain (formula_any h0 3) rfl (by simp [mapO, reso_toL]) ?_
        cases hf : y0.formula 3
        · simp
        · obtain ⟨-, hm, hg, h1'⟩ := T.formula_facts hf
          simp [toL_cells_length, toL_take, toL_agg]
          refine bcallT_closed (all_any hw hr (by omega) h0 hm hg h1') (by simp [mapO, reso_toL, Word.L, Word.cells]) ?_
          simp [toL_cells_length, toL_take, toL_agg]
          refine callT_closed (allR_any hw hr (by omega) h0 hm hg h1') (by simp [mapO, reso_toL, Word.L, Word.cells]) ?_
          simp
          refine callT_closed (same_any (n := w.v.length) (by omega) (c := true) (c' := true) (a := y0.sat w) (b := y0.sat w)) (by simp) ?_
          simp [toL_cells_length, toL_take, toL_agg]
          refine bcallT_closed (holds_any hw hr (by omega) h0 hm hg h1') (by simp [mapO, reso_toL, Word.L, Word.cells]) ?_
          simp [toL_cells_length, toL_take, toL_agg]
          refine callT_closed (holdsR_any hw hr (by omega) h0 hm hg h1') (by simp [mapO, reso_toL, Word.L, Word.cells]) ?_
          simp

end Go.Proofs.Ytahkjkmkafbakaa
