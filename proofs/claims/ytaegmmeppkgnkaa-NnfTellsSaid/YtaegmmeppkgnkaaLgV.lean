/- Data by their types, opened. -/
import Derived.Test.YtaegmmeppkgnkaaLgS
namespace Lg
open Go

section
variable {P : Program}

theorem ty_int {n : Nat} {t : TypeId} {ls : List L} (h : Ty P n t ls) {k : IntKind} (hu : P.underlying t = some (.int k)) : ∃ m, ls = [.v (.int k m)] ∧ (Lit.int k m).wf = true := by
  cases n with
  | zero => exact h.elim
  | succ n => simp only [Ty, hu] at h; exact h

theorem ty_bool {n : Nat} {t : TypeId} {ls : List L} (h : Ty P n t ls) (hu : P.underlying t = some .bool) : ∃ b, ls = [.v (.bool b)] := by
  cases n with
  | zero => exact h.elim
  | succ n => simp only [Ty, hu] at h; exact h

theorem ty_boolT {n : Nat} {t : TypeId} {ls : List L} (h : Ty P n t ls) (hu : P.underlying t = some .bool) : ∃ b, ls = [.v (.bool b)] ∧ True := by
  obtain ⟨b, h⟩ := ty_bool h hu; exact ⟨b, h, trivial⟩

theorem ty_string {n : Nat} {t : TypeId} {ls : List L} (h : Ty P n t ls) (hu : P.underlying t = some .string) : ∃ s : ByteArray, ls = [.v (.string s)] ∧ s.size ≤ 140737488351232 := by
  cases n with
  | zero => exact h.elim
  | succ n => simp only [Ty, hu] at h; exact h

/-- A slice: its elements. -/
theorem ty_slice {n : Nat} {t e : TypeId} {ls : List L} (h : Ty P n t ls) (hu : P.underlying t = some (.slice e)) (hs : (isAggB P e && decide (P.cellsOf e ≤ 1)) = false) :
    ∃ m, ∃ xs : List (List L), ls = [.sl (P.cellsOf e) false (xs.map (mkL (isAggB P e)))] ∧ (∀ x ∈ xs, Ty P m e x) ∧ xs.length * P.bytesOf e ≤ 140737488351232 := by
  cases n with
  | zero => exact h.elim
  | succ n =>
    simp only [Ty, hu] at h
    rw [if_neg (by intro hc; simp [hc.1, hc.2] at hs)] at h
    exact ⟨n, h⟩

/-- A slice of numbers. -/
theorem ty_ints {n : Nat} {t e : TypeId} {ls : List L} (h : Ty P n t ls) (hu : P.underlying t = some (.slice e)) {k : IntKind} (he : P.underlying e = some (.int k)) (hc : P.cellsOf e = 1) :
    ∃ zs : List Int, ls = [.sl 1 false (zs.map fun z => .v (.int k z))] ∧ (∀ z ∈ zs, (Lit.int k z).wf = true) ∧ zs.length * P.bytesOf e ≤ 140737488351232 := by
  have hag : isAggB P e = false := by simp [isAggB, he]
  obtain ⟨m, xs, rfl, h2, h3⟩ := ty_slice h hu (by simp [hag])
  have : ∃ zs : List Int, xs = zs.map (fun z => [.v (.int k z)]) ∧ ∀ z ∈ zs, (Lit.int k z).wf = true := by
    clear h3 h
    induction xs with
    | nil => exact ⟨[], rfl, by simp⟩
    | cons x xs ih =>
      obtain ⟨zs, h1, h4⟩ := ih (fun y hy => h2 y (by simp [hy]))
      obtain ⟨z, h5, h6⟩ := ty_int (h2 x (by simp)) he
      exact ⟨z :: zs, by simp [h1, h5], by simp; exact ⟨h6, h4⟩⟩
  obtain ⟨zs, rfl, h4⟩ := this
  refine ⟨zs, ?_, h4, by simpa using h3⟩
  rw [hc]
  simp [hag, mkL]

/-- A struct: its fields. -/
theorem ty_struct {n : Nat} {t : TypeId} {ls : List L} (h : Ty P n t ls) {fs : Array Field} (hu : P.underlying t = some (.struct fs)) (ht : tiled 0 (fs.toList.map fun f => (f.offset, P.cellsOf f.type)) (P.cellsOf t) = true) {ts : List TypeId} (hts : fs.toList.map (·.type) = ts) :
    ∃ m, TyAll (Ty P m) P.cellsOf ts ls := by
  cases n with
  | zero => exact h.elim
  | succ n =>
    simp only [Ty, hu] at h
    rw [if_pos ht, hts] at h
    exact ⟨n, h⟩

/-- A list of data, opened one by one. -/
theorem list_open {α : Type} {T : List L → Prop} {xs : List (List L)} {g : α → List L} {p : α → Prop} (h : ∀ x ∈ xs, T x) (ho : ∀ x, T x → ∃ y, x = g y ∧ p y) : ∃ ys : List α, xs = ys.map g ∧ ∀ y ∈ ys, p y := by
  induction xs with
  | nil => exact ⟨[], rfl, by simp⟩
  | cons x xs ih =>
    obtain ⟨ys, h1, h2⟩ := ih fun y hy => h y (by simp [hy])
    obtain ⟨y, h3, h4⟩ := ho x (h x (by simp))
    exact ⟨y :: ys, by simp [h1, h3], by simp; exact ⟨h4, h2⟩⟩

theorem tyAll_cons {T : TypeId → List L → Prop} {sz : TypeId → Nat} {t : TypeId} {ts : List TypeId} {ls : List L} (h : TyAll T sz (t :: ts) ls) : ∃ x rest, ls = x ++ rest ∧ T t x ∧ TyAll T sz ts rest := by
  obtain ⟨x, rest, h1, -, h2, h3⟩ := h
  exact ⟨x, rest, h1, h2, h3⟩

end
end Lg
