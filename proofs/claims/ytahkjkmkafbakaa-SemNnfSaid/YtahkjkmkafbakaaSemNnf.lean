/- NNF: a formula that is made right means what the formula means, its negation the opposite. -/
import Derived.Test.YtahkjkmkafbakaaSemIrN
import Derived.Test.YtahkjkmkafbakaaSemLoops
import Derived.Test.YtahkjkmkafbakaaSemIr8
namespace Go.Proofs.Ytahkjkmkafbakaa
open Go Lg

set_option maxRecDepth 100000 in
set_option maxHeartbeats 4000000 in
theorem nnf_walk {t : T} (ht : t.Ok) {w : Word} (hw : w.Ok) : PC Try.prog 8 [t.toL, w.L] (boolL true) := by
  refine pc_of_call (callAt_enter ir8 (by simp) ?_)
  simp [topOK_toL, Word.L, Word.cells]
  refine callT_closed shown_any rfl ?_
  simp [toL_cells_length, toL_take, toL_agg]
  refine callT_plain (formula_any ht 3) rfl (by simp [mapO, reso_toL]) ?_
  cases hf : t.formula 3
  · simp
  · simp
    refine callT_plain (rightR_any w) rfl (by simp [Word.L, Word.cells]) ?_
    cases hr : w.right
    · simp
    · simp
      by_cases h12 : 12 < w.v.length
      · have k3 : (12 : Int) < w.v.length := by omega
        have k4 : ¬ (w.v.length : Int) ≤ 12 := by omega
        simp [k3, k4]
      · have k3 : ¬ (12 : Int) < w.v.length := by omega
        have k4 : (w.v.length : Int) ≤ 12 := by omega
        simp [k3, k4, toL_cells_length, toL_take, toL_agg]
        refine callT_plain (size_any ht) rfl (by simp [mapO, reso_toL]) ?_
        by_cases h40 : 40 < t.psize
        · have k5 : ¬ t.psize ≤ 40 := by omega
          simp [h40, k5]
        · have k5 : t.psize ≤ 40 := by omega
          have fa := Fm.of ht hf
          have hdp := few_dp (T.formula_facts hf).1
          have p1 := of_any fa
          have p2 := not_of_any fa
          rw [made_eq fa (by omega)] at p1 p2
          simp [h40, k5, toL_cells_length, toL_take, toL_agg]
          by_cases hs : t.fsize ≤ 24
          · rw [if_pos hs] at p1 p2
            have fb := turnR_fm t fa false
            have fc := turnR_fm t fa true
            have hn : w.v.length ≤ 1000000 := by omega
            have rx := all_fm hw hr hn fa
            have ry := all_fm hw hr hn fb
            have rz := all_fm hw hr hn fc
            rw [turnR_sat t fa] at ry rz
            refine callT_closed p1 (by simp [mapO, reso_toL]) ?_
            simp [toL_cells_length, toL_take, toL_agg]
            refine callT_closed p2 (by simp [mapO, reso_toL]) ?_
            simp [toL_cells_length, toL_take, toL_agg, setCells_toL]
            refine callT_closed rx (by simp [mapO, reso_toL, Word.L, Word.cells]) ?_
            simp [toL_cells_length, toL_take, toL_agg]
            refine callT_closed ry (by simp [mapO, reso_toL, Word.L, Word.cells]) ?_
            simp [toL_cells_length, toL_take, toL_agg]
            refine callT_closed rz (by simp [mapO, reso_toL, Word.L, Word.cells]) ?_
            generalize t.sat w = A at *
            simp
            refine lwp_loop (fun i : Nat => [(3, .ptr 1 0), (5, boolL true), (10, rowL true w.v.length A), (11, rowL true w.v.length (satB false A)), (12, rowL true w.v.length (satB true A)), (13, intL i)]) (fun _ => [some t.toL.cells, some w.cells]) (fun i => w.v.length - i) (fun i => i ≤ w.v.length) 0 (by omega) ⟨[0, 1], ?_⟩ ?_
            · simp [Word.cells, below_cells, ren_cells]
            · intro i hi
              by_cases hlt : i < w.v.length
              · have hnw : IntKind.i64.wrap ((i : Int) + 1) = ((i + 1 : Nat) : Int) := by rw [wrap_id (by omega) (by omega)]; rfl
                have q1 : satB false A i = A i := rfl
                have q2 : satB true A i = !A i := rfl
                cases hA : A i
                all_goals
                  rw [hA] at q1 q2
                  simp [Word.cells, hlt, rowsB_getE, hA, q1, q2, hnw]
                  refine ⟨i + 1, by omega, by show w.v.length - (i + 1) < w.v.length - i; omega, [0, 1], ?_⟩
                  simp [Word.cells, below_cells, ren_cells]
              · simp [Word.cells, hlt]
          · rw [if_neg hs] at p1 p2
            refine callT_closed p1 (by simp [mapO, reso_toL]) ?_
            simp [toL_cells_length, toL_take, toL_agg]
            refine callT_closed p2 (by simp [mapO, reso_toL]) ?_
            simp [toL_cells_length, toL_take, toL_agg, setCells_toL]

theorem semNnf_any (y0 : T) (h0 : T.Ok y0) (y1 : (List (List (Int))) × (Int)) (h1 : ((∀ z ∈ y1.1, (∀ zz ∈ z, (Lit.int .i64 zz).wf = true) ∧ z.length * 8 ≤ 140737488351232) ∧ y1.1.length * 24 ≤ 140737488351232) ∧ ((Lit.int .i64 y1.2).wf = true)) : PC Try.prog 8 [y0.toL, .agg [L.sl 1 false (y1.1.map fun (z : List (Int)) => L.sl 1 false (z.map fun (z : Int) => L.v (.int .i64 z))), L.v (.int .i64 y1.2)]] (.v (.bool true)) :=
  nnf_walk h0 (wordOf_ok h1)

end Go.Proofs.Ytahkjkmkafbakaa
