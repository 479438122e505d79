/- Which automata are right, which states fit, and which words are taken. -/
import Derived.Test.YtjoffkghcjfbeaaTabShown
namespace Go.Proofs.Ytjoffkghcjfbeaa
open Go Lg
theorem takesOk_of {a : Aut} (ha : a.Ok) {m : Int} (hm : m ≤ 1000) (hf : Few18 a m) (hr : a.right = true) {w : Word} (hw : w.Ok) (hwr : w.right = true) (hv : w.v.length ≤ 500) : TakesOk a w :=
 ⟨ha, hw, hr, hwr, by have := hf.lits; omega, hv, hf.rows, by have := hf.ends; omega⟩
end Go.Proofs.Ytjoffkghcjfbeaa

