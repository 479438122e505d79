/- RIGHT: what is made is right; what is right already is as it was. -/
import Derived.Test.YtaegmmeppkgnkaaNnfShown
namespace Go.Proofs.Ytaegmmeppkgnkaa
open Go Lg

set_option maxRecDepth 100000 in
set_option maxHeartbeats 4000000 in
theorem right_walk {t : T} (ht : t.Ok) : PC Try.prog 4 [t.toL] (boolL true) := by
  refine pc_of_call (callAt_enter ir4 (by simp) ?_)
  simp [topOK_toL]
  refine callT_closed shown_any rfl ?_
  simp [toL_cells_length, toL_take, toL_agg]
  refine callT_plain (formula_any ht 3) rfl (by simp [mapO, reso_toL]) ?_
  cases hf : t.formula 3
  · simp
  · have fa := Fm.of ht hf
    have hdp := few_dp (T.formula_facts hf).1
    have p1 := of_any fa
    have p2 := not_any fa
    rw [made_eq fa (by omega)] at p1 p2
    simp [toL_cells_length, toL_take, toL_agg]
    by_cases hs : t.fsize ≤ 24
    · rw [if_pos hs] at p1 p2
      have fb := turnR_fm t fa false
      have fc := turnR_fm t fa true
      obtain ⟨b1, b2, b3, b4⟩ := turnR_right t fa false
      obtain ⟨c1, c2, c3, c4⟩ := turnR_right t fa true
      obtain ⟨d1, d2⟩ := turnR_self _ fb b2
      obtain ⟨-, e2⟩ := turnR_self _ fc c2
      have s1 := d2 (by omega)
      have s2 := e2 (by omega)
      rw [b3] at s1
      rw [c3] at s2
      have p3 := of_any fb
      rw [made_eq fb (by omega), if_pos (by omega), d1] at p3
      have r1 := right_any fb.ok
      have r2 := right_any fc.ok
      have z1 := size_any fb.ok
      have z2 := size_any fc.ok
      rw [b2] at r1
      rw [c2] at r2
      rw [s1] at z1
      rw [s2] at z2
      have q := same_any fb.ok fb.ok
      rw [same_self] at q
      have y1 := typed_any fb
      have y2 := typed_any fc
      have k1 : ¬ 24 < t.fsize := by omega
      generalize t.turnR false = X at *
      generalize t.turnR true = Y at *
      refine callT_closed p1 (by simp [mapO, reso_toL]) ?_
      simp [toL_cells_length, toL_take, toL_agg]
      refine callT_closed p2 (by simp [mapO, reso_toL]) ?_
      simp [toL_cells_length, toL_take, toL_agg, setCells_toL]
      refine callT_plain r1 rfl (by simp [mapO, reso_toL]) ?_
      simp [toL_cells_length, toL_take, toL_agg]
      refine callT_plain r2 rfl (by simp [mapO, reso_toL]) ?_
      simp [toL_cells_length, toL_take, toL_agg]
      refine bcallT_plain z1 rfl (by simp [mapO, reso_toL]) ?_
      simp [toL_cells_length, toL_take, toL_agg]
      refine callT_plain z2 rfl (by simp [mapO, reso_toL]) ?_
      simp [toL_cells_length, toL_take, toL_agg]
      refine callT_plain z1 rfl (by simp [mapO, reso_toL]) ?_
      simp [toL_cells_length, toL_take, toL_agg, k1, hs]
      refine callT_plain y1 rfl (by simp [mapO, reso_toL]) ?_
      simp [toL_cells_length, toL_take, toL_agg]
      refine callT_plain y2 rfl (by simp [mapO, reso_toL]) ?_
      simp [toL_cells_length, toL_take, toL_agg]
      refine callT_closed p3 (by simp [mapO, reso_toL]) ?_
      simp [toL_cells_length, toL_take, toL_agg, setCells_toL]
      refine callT_plain q rfl (by simp [mapO, reso_toL]) ?_
      simp
    · rw [if_neg hs] at p1 p2
      refine callT_closed p1 (by simp [mapO, reso_toL]) ?_
      simp [toL_cells_length, toL_take, toL_agg]
      refine callT_closed p2 (by simp [mapO, reso_toL]) ?_
      simp [toL_cells_length, toL_take, toL_agg, setCells_toL, T.none0, toL_mk, setCells]

theorem nnfRight_any (y0 : T) (h0 : T.Ok y0) : PC Try.prog 4 [y0.toL] (.v (.bool true)) := right_walk h0

end Go.Proofs.Ytaegmmeppkgnkaa
