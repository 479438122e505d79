/- TAKES: a formula's automaton takes a word just if the formula holds of it. -/
import Derived.Test.YtjoffkghcjfbeaaTabShown
namespace Go.Proofs.Ytjoffkghcjfbeaa
open Go Lg
end Go.Proofs.Ytjoffkghcjfbeaa

