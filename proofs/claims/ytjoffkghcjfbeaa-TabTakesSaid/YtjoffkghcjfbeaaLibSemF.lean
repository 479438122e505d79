/- What the closures of sem say. -/
import Derived.Test.YtjoffkghcjfbeaaLibSemE
namespace Lg
open Go
abbrev rowL (c : Bool) (n : Nat) (h : Nat → Bool) : L := .sl 1 c ((rowsB n h).map boolL)
@[simp] theorem rowsB_length {n h} : (rowsB n h).length = n := by simp [rowsB]
theorem rowsB_getE {n h i} (hi : i < (rowsB n h).length) : (rowsB n h)[i] = h i := by simp [rowsB]
theorem Word.nxt_lt {w : Word} (hr : w.right = true) {i : Nat} (hi : i < w.v.length) : w.nxt i < w.v.length := by
 simp [Word.right] at hr
 unfold Word.nxt
 split <;> omega
end Lg

