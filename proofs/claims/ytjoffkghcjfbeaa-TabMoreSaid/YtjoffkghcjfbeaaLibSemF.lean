/- What the closures of sem say. -/
import Derived.Test.YtjoffkghcjfbeaaLibSemE
namespace Lg
open Go
@[simp] theorem rowsB_length {n h} : (rowsB n h).length = n := by simp [rowsB]
theorem Word.nxt_lt {w : Word} (hr : w.right = true) {i : Nat} (hi : i < w.v.length) : w.nxt i < w.v.length := by
 simp [Word.right] at hr
 unfold Word.nxt
 split <;> omega
end Lg

