/- Words that go round alike; words that stay in their last state. -/
import Derived.Test.YtjoffkghcjfbeaaLibSemN
namespace Lg
open Go
def Word.twice (w : Word) : Word := ⟨w.v ++ w.v.drop w.loop.toNat, w.v.length⟩
def Word.turned (w : Word) : Word := ⟨w.v ++ [w.v.getD w.loop.toNat []], w.loop + 1⟩
theorem right_loop {w : Word} (hr : w.right = true) : w.loop.toNat < w.v.length ∧ (w.loop.toNat : Int) = w.loop := by
 simp [Word.right] at hr; omega
theorem twice_right {w : Word} (hr : w.right = true) : w.twice.right = true := by
 have := right_loop hr
 simp [Word.right, Word.twice]; omega
theorem turned_right {w : Word} (hr : w.right = true) : w.turned.right = true := by
 have := right_loop hr
 simp [Word.right, Word.turned]; omega
theorem below_cells {n : Nat} {t : T} : belowL n t.toL.cells = true := by cases t; simp [toL_mk]
theorem ren_cells {f : Nat → Nat} {t : T} : renL f t.toL.cells = t.toL.cells := by cases t; simp [toL_mk, renL]
end Lg

