/- UNROLLS: a word's round written once more, or turned by one state: the same holds, state by state. -/
import Derived.Test.YtahkjkmkafbakaaSemIr4
import Derived.Test.YtahkjkmkafbakaaSemLoops
namespace Go.Proofs.Ytahkjkmkafbakaa
open Go Lg

theorem frz_ints {H : Heap} {fz : List Nat} {t : T} : t.toL.cells.map (frz H fz) = t.toL.cells := by cases t; simp [toL_mk]
theorem frz_word {H : Heap} {fz : List Nat} {w : Word} : w.cells.map (frz H fz) = w.cells := by simp [Word.cells]

set_option maxRecDepth 100000 in
set_option maxHeartbeats 4000000 in
theorem unrolls_walk {a : T} (ha : a.Ok) {w : Word} (hw : w.Ok) : PC Try.prog 4 [a.toL, w.L] (boolL true) := by
  refine pc_of_call (callAt_enterS ir4n (by simp) ?_)
  simp [topOK_toL, Word.L, Word.cells]
  refine callT_closed shown_any rfl ?_
  simp
  by_cases h12 : 12 < w.v.length
  · have k3 : (12 : Int) < w.v.length := by omega
    have k4 : ¬ (w.v.length : Int) ≤ 12 := by omega
    simp [k3, k4]
  · have k3 : ¬ (12 : Int) < w.v.length := by omega
    have k4 : (w.v.length : Int) ≤ 12 := by omega
    simp [k3, k4]
    refine callT_plain (few_any hw) rfl (by simp [Word.L, Word.cells]) ?_
    cases (w.v.all fun r => decide (r.length ≤ 10))
    · simp
    · simp
      refine callT_plain (rightR_any w) rfl (by simp [Word.L, Word.cells]) ?_
      cases hr : w.right
      · simp
      · simp [toL_cells_length, toL_take, toL_agg]
        refine callT_plain (formula_any ha 3) rfl (by simp [mapO, reso_toL]) ?_
        cases hf : a.formula 3
        · simp
        · have fa := Fm.of ha hf
          have hn : w.v.length ≤ 1000000 := by omega
          have hpos := right_len hr
          have hloop : 0 ≤ w.loop ∧ w.loop < w.v.length := by simp [Word.right] at hr; omega
          have hn2 : w.twice.v.length = w.v.length + (w.v.length - w.loop.toNat) := by simp [Word.twice]
          have hn3 : w.turned.v.length = w.v.length + 1 := by simp [Word.turned]
          have hw2 : w.twice.Ok := ⟨by omega, fun r hr' => by
            rcases List.mem_append.1 hr' with h | h
            · exact hw.row r h
            · exact hw.row r (List.mem_of_mem_drop h)⟩
          have hw3 : w.turned.Ok := ⟨by omega, fun r hr' => by
            rcases List.mem_append.1 hr' with h | h
            · exact hw.row r h
            · rw [List.mem_singleton.1 h]
              have : w.loop.toNat < w.v.length := by omega
              simp only [List.getD, List.getElem?_eq_getElem this, Option.getD_some]
              exact hw.row _ (List.getElem_mem this)⟩
          have rx := all_fm hw hr hn fa
          have ry := all_fm hw2 (twice_right hr) (by omega) fa
          have rz := all_fm hw3 (turned_right hr) (by omega) fa
          have qb : ∀ i, i < w.twice.v.length → a.sat w.twice i = a.sat w (if i < w.v.length then i else w.loop.toNat + i - w.v.length) := fun i hi => sat_twice hr a hi
          have qc : ∀ i, i < w.turned.v.length → a.sat w.turned i = a.sat w (if i < w.v.length then i else w.loop.toNat) := fun i hi => sat_turned hr a hi
          generalize a.sat w = A at *
          generalize a.sat w.twice = B at *
          generalize a.sat w.turned = C at *
          simp
          refine unroll5 hw (by omega) hr (by simp) (by simp) (by simp) (by simp) below_cells (fun _ => ren_cells) (fun _ _ => frz_ints) ?_
          simp
          refine unroll6 hw (by omega) hr (by simp) (by simp) (by simp) (by simp) (by simp) below_cells (fun _ => ren_cells) (fun _ _ => frz_ints) (by simp [Word.cells]) (fun _ => by simp [Word.cells]) (fun _ _ => frz_word) ?_
          simp [Word.cells, toL_cells_length, toL_take, toL_agg]
          refine callT_closed rx (by simp [mapO, reso_toL, Word.L, Word.cells]) ?_
          simp [toL_cells_length, toL_take, toL_agg]
          refine callT_closed ry (by simp [mapO, reso_toL, Word.L, Word.cells]) ?_
          simp [toL_cells_length, toL_take, toL_agg]
          refine callT_closed rz (by simp [mapO, reso_toL, Word.L, Word.cells]) ?_
          have hw1 : IntKind.i64.wrap ((w.v.length : Int) + 1) = ((w.v.length + 1 : Nat) : Int) := by rw [wrap_id (by omega) (by omega)]; rfl
          simp [hw1, hn3]
          refine lwp_loop (fun i : Nat => [(3, .ptr 1 0), (5, boolL true), (6, intL w.v.length), (9, rowL true w.v.length A), (10, rowL true w.twice.v.length B), (11, rowL true (w.v.length + 1) C), (12, intL i)]) (fun _ => [some a.toL.cells, some w.cells]) (fun i => w.twice.v.length - i) (fun i => i ≤ w.twice.v.length) 0 (by omega) ⟨[0, 1], ?_⟩ ?_
          · simp [Word.cells, below_cells, ren_cells, hn3]
          · intro i hi
            by_cases hlt : i < w.twice.v.length
            · have hnw : IntKind.i64.wrap ((i : Int) + 1) = ((i + 1 : Nat) : Int) := by rw [wrap_id (by omega) (by omega)]; rfl
              have hqb := qb i hlt
              by_cases hin : i < w.v.length
              · have hqc := qc i (by omega)
                rw [if_pos hin] at hqb hqc
                have e1 : ¬ w.v.length ≤ i := by omega
                have e2 : i ≤ w.v.length := by omega
                have e3 : i < w.v.length + 1 := by omega
                cases hA : A i
                all_goals
                  rw [hA] at hqb hqc
                  simp [Word.cells, hlt, hin, e1, e2, e3, rowsB_getE, hA, hqb, hqc, hnw]
                  refine ⟨i + 1, by omega, by show w.twice.v.length - (i + 1) < w.twice.v.length - i; omega, [0, 1], ?_⟩
                  simp [Word.cells, below_cells, ren_cells]
              · rw [if_neg hin] at hqb
                have e1 : w.v.length ≤ i := by omega
                have hk1 : IntKind.i64.wrap (w.loop + (i : Int)) = w.loop + i := wrap_id (by omega) (by omega)
                have hk2 : IntKind.i64.wrap (w.loop + (i : Int) - (w.v.length : Int)) = ((w.loop.toNat + i - w.v.length : Nat) : Int) := by rw [wrap_id (by omega) (by omega)]; omega
                have hk3 : w.loop.toNat + i - w.v.length < w.v.length := by omega
                by_cases hie : i = w.v.length
                · have hqc := qc i (by omega)
                  rw [if_neg hin] at hqc
                  have e3 : w.loop.toNat + i - w.v.length = w.loop.toNat := by omega
                  rw [← e3] at hqc
                  have e2 : i ≤ w.v.length := by omega
                  have e4 : i < w.v.length + 1 := by omega
                  clear e3
                  generalize w.loop.toNat + i - w.v.length = k at *
                  cases hA : A k
                  all_goals
                    rw [hA] at hqb hqc
                    simp [Word.cells, hlt, e1, e2, e4, rowsB_getE, hA, hqb, hqc, hnw, hk1, hk2, hk3]
                    refine ⟨i + 1, by omega, by show w.twice.v.length - (i + 1) < w.twice.v.length - i; omega, [0, 1], ?_⟩
                    simp [Word.cells, below_cells, ren_cells]
                · have e2 : ¬ i ≤ w.v.length := by omega
                  generalize w.loop.toNat + i - w.v.length = k at *
                  cases hA : A k
                  all_goals
                    rw [hA] at hqb
                    simp [Word.cells, hlt, e1, e2, rowsB_getE, hA, hqb, hnw, hk1, hk2, hk3]
                    refine ⟨i + 1, by omega, by show w.twice.v.length - (i + 1) < w.twice.v.length - i; omega, [0, 1], ?_⟩
                    simp [Word.cells, below_cells, ren_cells]
            · simp [hlt]

theorem semUnrolls_any (y0 : T) (h0 : T.Ok y0) (y1 : (List (List (Int))) × (Int)) (h1 : ((∀ z ∈ y1.1, (∀ zz ∈ z, (Lit.int .i64 zz).wf = true) ∧ z.length * 8 ≤ 140737488351232) ∧ y1.1.length * 24 ≤ 140737488351232) ∧ ((Lit.int .i64 y1.2).wf = true)) : PC Try.prog 4 [y0.toL, .agg [L.sl 1 false (y1.1.map fun (z : List (Int)) => L.sl 1 false (z.map fun (z : Int) => L.v (.int .i64 z))), L.v (.int .i64 y1.2)]] (.v (.bool true)) :=
  unrolls_walk h0 (wordOf_ok h1)

end Go.Proofs.Ytahkjkmkafbakaa
