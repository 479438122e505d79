/- Soundness of the operations that touch memory. -/
import Derived.Test.YtahkjkmkafbakaaLgE
namespace Lg
open Go

section
variable {P : Program} {η : List Nat} {S : Nat → Prop} {w : World} {H : Heap} {a : Act} {E : Env}

theorem run_info {t : TypeId} {i : TypeInfo} (h : P.info? t = some i) : (typeInfo t).run P w = .ok i w := by simp [typeInfo, h]
theorem run_sz {t : TypeId} {s : Nat} (h : szOf P t = some s) : (Go.sizeOf t).run P w = .ok s w := by
  simp only [szOf, Option.map_eq_some_iff] at h
  obtain ⟨i, hi, rfl⟩ := h
  simp [Go.sizeOf, run_info hi]
theorem run_zero {t : TypeId} {i : TypeInfo} {z : Value} (h : P.info? t = some i) (hz : i.zero = some z) : (zeroValue t).run P w = .ok z w := by
  simp [zeroValue, run_info h, hz]
theorem run_agg {t : TypeId} {b : Bool} (h : isAggT P t = some b) : (isAgg t).run P w = .ok b w := by
  unfold isAggT at h
  cases hu : P.underlying t with
  | none => simp [hu] at h
  | some d =>
    simp only [hu] at h
    unfold isAgg
    simp only [Sem.run_bind, run_underlying hu, Result.andThen_ok]
    cases d <;> simp_all

/-- Cells that are read one by one. -/
theorem run_loadVar_agg {t : TypeId} {s b o : Nat} {f : Nat → Value} (hs : szOf P t = some s) (hg : isAggT P t = some true) (h : ∀ j, j < s → w.cell? ⟨b, o + j, none⟩ = some (f j)) :
    (loadVar t ⟨b, o, none⟩).run P w = .ok (.agg ((List.range s).map f).toArray) w := by
  have := run_loadCells (P := P) w ⟨b, o, none⟩ s f (fun j hj => by rw [Addr.add_lit]; exact h j hj)
  simp only [loadVar, Sem.run_bind, run_agg hg, Result.andThen_ok, if_true, run_sz hs, this, Sem.run_pure]

theorem run_loadVar_one {t : TypeId} {b o : Nat} {x : Value} (hg : isAggT P t = some false) (h : w.cell? ⟨b, o, none⟩ = some x) :
    (loadVar t ⟨b, o, none⟩).run P w = .ok x w := by
  simp only [loadVar, Sem.run_bind, run_agg hg, Result.andThen_ok, Bool.false_eq_true, if_false, run_load, h]

theorem rel_agg_range {n : Nat} {f : Nat → Value} {ls : List L} (hl : ls.length = n) (h : ∀ j, j < n → Rel S w η (f j) (ls.getD j .any)) : Rel S w η (.agg ((List.range n).map f).toArray) (.agg ls) := by
  refine .agg (by simp [hl]) fun j => ?_
  by_cases hj : j < n
  · rw [agetD_of_lt _ _ (by simp; exact hj)]; simpa using h j hj
  · rw [getD_of_ge _ _ (by omega)]; exact .any _

theorem getD_dropTake (ls : List L) (o n j : Nat) (hj : j < n) : ((ls.drop o).take n).getD j .any = ls.getD (o + j) .any := by
  simp [List.getD, List.getElem?_take, hj]

theorem load_fine {t : TypeId} {x : Value} {s : Nat} {ag : Bool} {lx l : L} (hC : Conc η S w H) (hs : szOf P t = some s) (hg : isAggT P t = some ag) (hx : Rel S w η x lx) (h : loadL s ag H lx = some l) :
    ∃ v, (Instr.loadAt t x).run P w = .ok v w ∧ Rel S w η v l := by
  unfold loadL at h
  split at h
  · obtain ⟨b, o, cs, rfl, hS, hc, hr⟩ := hx.inv_pp
    rename_i ls
    cases ag with
    | true =>
      simp at h
      obtain ⟨h1, rfl⟩ := h
      refine ⟨_, by simp only [Instr.loadAt, Instr.sureAddr, pure_bind]; exact run_loadVar_agg hs hg (f := cs) (fun j hj => hc j (by omega)), rel_agg_range (by simp; omega) fun j hj => ?_⟩
      have := hr j
      rw [← show (ls.take s).getD j .any = ls.getD j .any from by simp [List.getD, List.getElem?_take, hj]] at this
      exact this.nil
    | false =>
      simp at h
      have hlt : 0 < ls.length := by
        cases ls with
        | nil => simp at h
        | cons y ys => simp
      refine ⟨cs 0, by simp only [Instr.loadAt, Instr.sureAddr, pure_bind]; exact run_loadVar_one hg (by simpa using hc 0 hlt), ?_⟩
      have := hr 0
      rw [getD_of_lt _ _ hlt] at this
      rw [List.getElem?_eq_getElem hlt] at h
      cases h; exact this.nil
  · obtain ⟨b, rfl, hη, c0, t0, fr0, hb0⟩ := hx.inv_ptr
    rename_i k off
    split at h
    · rename_i ls hl
      obtain ⟨c, ty, fr, q1, q2, q3, q4⟩ := hC.live hb0 hη (live_iff.1 hl)
      cases ag with
      | true =>
        simp at h
        obtain ⟨h1, rfl⟩ := h
        refine ⟨_, by simp only [Instr.loadAt, Instr.sureAddr, pure_bind]; exact run_loadVar_agg hs hg (f := fun j => c.getD (off + j) undef) (fun j hj => cell_of q1 (by omega)), rel_agg_range (by simp; omega) fun j hj => ?_⟩
        rw [getD_dropTake _ _ _ _ hj]
        exact q4 _ (by omega)
      | false =>
        simp at h
        obtain ⟨hlt, h⟩ := List.getElem?_eq_some_iff.1 h
        refine ⟨_, by simp only [Instr.loadAt, Instr.sureAddr, pure_bind]; exact run_loadVar_one hg (cell_of q1 (by omega)), ?_⟩
        have := q4 off hlt
        rw [getD_of_lt _ _ hlt, h] at this
        exact this
    · simp at h
  · simp at h

theorem store_fine {t : TypeId} {x y : Value} {s : Nat} {lx ly : L} {H' : Heap} (hC : Conc η S w H) (hs : szOf P t = some s) (hx : Rel S w η x lx) (hy : Rel S w η y ly) (h : storeL s H lx ly = some H') :
    ∃ w', (Instr.storeAt t x y).run P w = .ok () w' ∧ Conc η S w' H' ∧ Le η S w η S w' := by
  unfold storeL at h
  split at h
  · rename_i k off
    obtain ⟨b, rfl, hη, c0, t0, fr0, hb0⟩ := hx.inv_ptr
    split at h
    · rename_i ls hl
      split at h
      · rename_i hcond
        obtain ⟨h1, h2, h3⟩ := hcond
        cases h
        obtain ⟨z1, z2⟩ := hy.cells h1
        have hst := hC.store hb0 hη (live_iff.1 hl) y.cells.toList ly.cells (by simp [z1]) (by omega) (off := off) (fun j hj => by
          have := z2 j
          simpa [Array.getD_eq_getD_getElem?, List.getD] using this)
        refine ⟨_, ?_, hst.1, hst.2⟩
        have hr := run_storeCells_own (P := P) hC hb0 hη (live_iff.1 hl) y.cells.toList (off := off) (by simp [z1]; omega) (hy.cells_one h1)
        simp only [Instr.storeAt, Instr.sureAddr, pure_bind, storeVar, Sem.run_bind, run_sz hs, Result.andThen_ok]
        rw [if_neg (by omega)]
        simpa using hr
      · simp at h
    · simp at h
  · simp at h

theorem fieldAt_fine {t : TypeId} {x : Value} {fs : Array Field} {f : Nat} {fl : Field} {s : Nat} {lx l : L} (hu : P.underlying t = some (.struct fs)) (hf : fs[f]? = some fl) (hs : szOf P fl.type = some s) (h0 : s ≠ 0)
    (hx : Rel S w η x lx) (h : faddrL fl.offset lx = some l) : ∃ v, (Instr.fieldAt t x f).run P w = .ok v w ∧ Rel S w η v l := by
  have hp : ∀ b o, (Instr.fieldAt t (.pointer (some ⟨b, o, none⟩)) f).run P w = .ok (.pointer (some ⟨b, o + fl.offset, none⟩)) w := fun b o => by
    simp only [Instr.fieldAt, Sem.run_bind, run_underlying hu, Result.andThen_ok, hf, Instr.sureAddr, Sem.run_pure, fieldPlace, run_sz hs, h0, if_false, Addr.add_lit]
  unfold faddrL at h
  split at h
  · obtain ⟨b, o, cs, rfl, hS, hc, hr⟩ := hx.inv_pp
    rename_i ls
    cases h
    refine ⟨_, hp b o, .pp (fun j => cs (fl.offset + j)) (fun h => hS (by simp at h; omega)) (fun j hj => ?_) (fun j => ?_)⟩
    · rw [show o + fl.offset + j = o + (fl.offset + j) by omega]; exact hc _ (by simp at hj; omega)
    · have := hr (fl.offset + j)
      rwa [show ls.getD (fl.offset + j) .any = (ls.drop fl.offset).getD j .any from by simp [List.getD]] at this
  · obtain ⟨b, rfl, hη, c0, t0, fr0, hb0⟩ := hx.inv_ptr
    cases h
    exact ⟨_, hp b _, .ptr hη hb0⟩
  · simp at h

theorem field_fine {t : TypeId} {x : Value} {fs : Array Field} {f : Nat} {fl : Field} {s : Nat} {ag : Bool} {lx l : L} (hu : P.underlying t = some (.struct fs)) (hf : fs[f]? = some fl) (hs : szOf P fl.type = some s)
    (hg : isAggT P fl.type = some ag) (hx : Rel S w η x lx) (h : fieldL fl.offset s ag lx = some l) : ∃ v, (Instr.field t x f).run P w = .ok v w ∧ Rel S w η v l := by
  unfold fieldL at h
  split at h
  · rename_i ls
    obtain ⟨cs, rfl, hz, hr⟩ := hx.inv_agg
    cases ag with
    | true =>
      simp at h
      obtain ⟨h1, rfl⟩ := h
      refine ⟨.agg (cs.extract fl.offset (fl.offset + s)), by simp only [Instr.field, Sem.run_bind, run_underlying hu, Result.andThen_ok, hf, asAgg, Sem.run_pure, part, run_agg hg, if_true, run_sz hs], .agg (by simp; omega) fun j => ?_⟩
      by_cases hj : j < s
      · rw [getD_dropTake _ _ _ _ hj]
        have := hr (fl.offset + j)
        simpa [Array.getD_eq_getD_getElem?, Array.getElem?_extract, show j < min (fl.offset + s) cs.size - fl.offset by omega, show fl.offset + j < cs.size by omega] using this
      · rw [getD_of_ge _ _ (by simp; omega)]; exact .any _
    | false =>
      simp at h
      obtain ⟨hlt, h⟩ := List.getElem?_eq_some_iff.1 h
      have hc : cs[fl.offset]? = some (cs.getD fl.offset undef) := by simp [Array.getD, show fl.offset < cs.size by omega]
      refine ⟨cs.getD fl.offset undef, by simp only [Instr.field, Sem.run_bind, run_underlying hu, Result.andThen_ok, hf, asAgg, Sem.run_pure, part, run_agg hg, Bool.false_eq_true, if_false, hc], ?_⟩
      have := hr fl.offset
      rw [getD_of_lt _ _ hlt, h] at this
      exact this
  · simp at h

end
end Lg
