/- Data by their types, opened: arrays. -/
import Derived.Test.YtaegmmeppkgnkaaLgV
namespace Lg
open Go

def ArrAll (T : List L → Prop) : Nat → List L → Prop
  | 0, ls => ls = []
  | k + 1, ls => ∃ x y, ls = x ++ y ∧ T x ∧ ArrAll T k y

theorem arrAll_of {T : List L → Prop} : ∀ {k : Nat} {ls : List L}, ls.length = k → (∀ i, i < k → T ((ls.drop i).take 1)) → ArrAll T k ls
  | 0, ls, h, _ => List.eq_nil_of_length_eq_zero h
  | k + 1, [], h, _ => by simp at h
  | k + 1, l :: ls, h, ht => by
    refine ⟨[l], ls, rfl, by simpa using ht 0 (by omega), arrAll_of (by simpa using h) fun i hi => ?_⟩
    simpa using ht (i + 1) (by omega)

theorem ty_array {P : Program} {n : Nat} {t e : TypeId} {ls : List L} {k : Nat} (h : Ty P n t ls) (hu : P.underlying t = some (.array k e)) (hc : P.cellsOf t = k * P.cellsOf e) (he : P.cellsOf e = 1) : ∃ m, ArrAll (Ty P m e) k ls := by
  cases n with
  | zero => exact h.elim
  | succ n =>
    simp only [Ty, hu] at h
    rw [if_pos hc] at h
    obtain ⟨h1, h2⟩ := h
    rw [hc, he, Nat.mul_one] at h1
    refine ⟨n, arrAll_of h1 fun i hi => ?_⟩
    have := h2 i hi
    rwa [he, Nat.mul_one] at this

end Lg
