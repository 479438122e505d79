/- Small functions around sem. -/
import Derived.Test.YtjoffkghcjfbeaaLibSemS
import Derived.Test.YtjoffkghcjfbeaaLibThaw
namespace Lg
open Go
def T.formula (t : T) (vars : Int) : Bool := t.few && t.may vars && decide (t.type.2.1 = 0) && decide (t.type.1 ≠ 1)
theorem T.formula_facts {t : T} {vars : Int} (h : t.formula vars = true) : t.few = true ∧ t.may vars = true ∧ t.type.2.1 = 0 ∧ t.type.1 ≠ 1 := by
 simp [T.formula] at h
 exact ⟨h.1.1.1, h.1.1.2, h.1.2, h.2⟩
end Lg

