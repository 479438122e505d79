/- TELLS: as the document says. -/
import Derived.Test.YtaegmmeppkgnkaaNnfRight
import Derived.Test.YtaegmmeppkgnkaaLibNnfAC
namespace Go.Proofs.Ytaegmmeppkgnkaa
open Go Lg

theorem litA_any (t : T) (hok : t.Ok) : PC Try.prog 14 [t.toL] (boolL t.lit) := lit_gen ir14 ir24 t hok
theorem ofA_any {vars : Int} {t : T} (h : Fm vars t) (hd : t.dp ≤ 1000) : PC Try.prog 10 [t.toL] (.tup [(t.made false).1.toL, intL (t.made false).2]) := ofA_gen (made := 26) (size := 33) (turn := 34) (two := 40) ir10 ir26 ir33 ir34 ir40 litA_any h hd
theorem notA_any {vars : Int} {t : T} (h : Fm vars t) (hd : t.dp ≤ 1000) : PC Try.prog 12 [t.toL] (.tup [(t.made true).1.toL, intL (t.made true).2]) := ofA_gen (made := 26) (size := 33) (turn := 34) (two := 40) ir12 ir26 ir33 ir34 ir40 litA_any h hd
theorem sizeA_any {t : T} (h : t.Ok) : PC Try.prog 16 [t.toL] (intL t.psize) := sizeR_gen ir16 litA_any t h
theorem rightA_any {t : T} (h : t.Ok) : PC Try.prog 18 [t.toL] (boolL t.rightB) := rightA_gen ir18 litA_any t h
theorem places_self {t : T} (h : t.Ok) : PC Try.prog 19 [t.toL, t.toL] (boolL true) := by
  have := places_gen ir19 t h t h
  rwa [(T.places_iff t t).2 rfl] at this
theorem none0_ok : T.none0.Ok := .mk (by decide) (by decide) (by decide) (by simp) (by simp)

set_option maxRecDepth 100000 in
set_option maxHeartbeats 4000000 in
theorem tells_walk {t : T} (ht : t.Ok) : PC Try.prog 3 [t.toL] (boolL true) := by
  refine pc_of_call (callAt_enter ir3 (by simp) ?_)
  simp [topOK_toL]
  refine callT_closed shown_any rfl ?_
  simp [toL_cells_length, toL_take, toL_agg]
  refine callT_plain (formula_any ht 3) rfl (by simp [mapO, reso_toL]) ?_
  cases hf : t.formula 3
  · simp
  · have fa := Fm.of ht hf
    have hdp := few_dp (T.formula_facts hf).1
    have p1 := of_any fa
    have p2 := ofA_any fa (by omega)
    have p3 := not_any fa
    have p4 := notA_any fa (by omega)
    have okm : ∀ b, (t.made b).1.Ok := fun b => by
      rw [made_eq fa (by omega)]
      by_cases hs : t.fsize ≤ 24
      · rw [if_pos hs]; exact (turnR_fm t fa b).ok
      · rw [if_neg hs]; exact none0_ok
    have q1 := places_self (okm false)
    have q2 := places_self (okm true)
    generalize t.made false = X at *
    generalize t.made true = Y at *
    simp [toL_cells_length, toL_take, toL_agg]
    refine callT_closed p1 (by simp [mapO, reso_toL]) ?_
    simp [toL_cells_length, toL_take, toL_agg, setCells_toL]
    refine callT_closed p2 (by simp [mapO, reso_toL]) ?_
    simp [toL_cells_length, toL_take, toL_agg, setCells_toL]
    refine callT_closed p3 (by simp [mapO, reso_toL]) ?_
    simp [toL_cells_length, toL_take, toL_agg, setCells_toL]
    refine callT_closed p4 (by simp [mapO, reso_toL]) ?_
    simp [toL_cells_length, toL_take, toL_agg, setCells_toL]
    refine bcallT_plain (lit_any t ht) rfl (by simp [mapO, reso_toL]) ?_
    simp [toL_cells_length, toL_take, toL_agg]
    refine callT_plain (litA_any t ht) rfl (by simp [mapO, reso_toL]) ?_
    simp [toL_cells_length, toL_take, toL_agg]
    refine bcallT_plain (size_any ht) rfl (by simp [mapO, reso_toL]) ?_
    simp [toL_cells_length, toL_take, toL_agg]
    refine callT_plain (sizeA_any ht) rfl (by simp [mapO, reso_toL]) ?_
    simp [toL_cells_length, toL_take, toL_agg]
    refine bcallT_plain (right_any ht) rfl (by simp [mapO, reso_toL]) ?_
    simp [toL_cells_length, toL_take, toL_agg]
    refine callT_plain (rightA_any ht) rfl (by simp [mapO, reso_toL]) ?_
    simp [toL_cells_length, toL_take, toL_agg]
    refine callT_plain q1 rfl (by simp [mapO, reso_toL]) ?_
    simp [toL_cells_length, toL_take, toL_agg]
    refine callT_plain q2 rfl (by simp [mapO, reso_toL]) ?_
    simp

theorem nnfTells_any (y0 : T) (h0 : T.Ok y0) : PC Try.prog 3 [y0.toL] (.v (.bool true)) := tells_walk h0

end Go.Proofs.Ytaegmmeppkgnkaa
