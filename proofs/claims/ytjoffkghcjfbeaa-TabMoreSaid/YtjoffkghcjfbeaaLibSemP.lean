/- Words that go round alike; words that stay in their last state. -/
import Derived.Test.YtjoffkghcjfbeaaLibSemN
namespace Lg
open Go
def Word.turned (w : Word) : Word := ⟨w.v ++ [w.v.getD w.loop.toNat []], w.loop + 1⟩
theorem below_cells {n : Nat} {t : T} : belowL n t.toL.cells = true := by cases t; simp [toL_mk]
theorem ren_cells {f : Nat → Nat} {t : T} : renL f t.toL.cells = t.toL.cells := by cases t; simp [toL_mk, renL]
end Lg

