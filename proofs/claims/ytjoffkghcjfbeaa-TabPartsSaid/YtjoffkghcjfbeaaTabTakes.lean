/- TAKES: a formula's automaton takes a word just if the formula holds of it. -/
import Derived.Test.YtjoffkghcjfbeaaTabShown
namespace Go.Proofs.Ytjoffkghcjfbeaa
open Go Lg
theorem frm_of {t : T} (ht : t.Ok) (hf : t.formula 3 = true) (hr : t.rightB = true) (hs : t.psize ≤ 9) : Frm t := by
 have fa := Fm.of ht hf
 have hd := few_dp (T.formula_facts hf).1
 have := (psize_subs t ⟨ht, hr, fa.may⟩ 44 (by omega) (by omega)).1
 exact ⟨fa, hr, by omega⟩
end Go.Proofs.Ytjoffkghcjfbeaa

