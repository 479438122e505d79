/- Which automata are right, which states fit, and which words are taken. -/
import Derived.Test.YtjoffkghcjfbeaaTabShown
namespace Go.Proofs.Ytjoffkghcjfbeaa
open Go Lg
end Go.Proofs.Ytjoffkghcjfbeaa

