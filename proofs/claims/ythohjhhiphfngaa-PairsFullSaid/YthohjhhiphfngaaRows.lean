/-
  No cell of these rows narrows 'for every input' (looked for: loops, veiled, ifaces, maps, wideKeys, modest, calm, conditions, laid).
  DERIVED. THE GIVEN ROWS OF THIS SEAT. 4 by the template 'for every input the law returns true; each argument reads behind the call as it read before'; 0 by the template 'total and deterministic' (their statements: YthohjhhiphfngaaTotals.lean).
  GIVEN WITH THE SEED: the statements are not yours to turn. If you find one false, say at which input.
  Laid BY PROGRAM, IN A SANDBOX (cutbox-rows.mjs): the forced cells as the released guide's own fill.sh prints them over the translation 9e740f1f318e676a… (all of the seat's roots in one cut). By AI agents, Wed Nov 11 2026. No macro, syntax, notation, axiom, sorry.
-/
import Derived.Test.YthohjhhiphfngaaChecked
import GoSem.Claim
import GoSem.ClaimJoined
import GoSem.ClaimMapViews
import Derived.JoinedTies
import Derived.KernelRfl
namespace Go.Proofs.Ythohjhhiphfngaa
/- THE CELL 'sum', in the pinned program and in every row, IS THE sha256 OF THE DUMP (.gsa) THAT YthohjhhiphfngaaProg.lean LOADS. Nothing in Lean hashes anything: it is a label: what it is worth is what the hold of that sum in a sandbox is worth. -/
noncomputable def Try.pinned : Pinned := { name := "ythohjhhiphfngaa", sum := "9e740f1f318e676a2f455f18b3f7f6c30f23a5a5062285bea3aebdd2202f2f0c", checked := Try.checked }
namespace Rows
def none {H : Type} : Left H := { results := [], args := [] }

/-- 'scrutinylaw05.PairsKeeps': WHATEVER THE INPUT: true; the input reads as it did. -/
def pairsKeepsSpec : ChangeSpec := { name := "pairsKeeps", fn := fun _ => fun
  | [d] => { results := [.lit (.bool true)], args := [d] }
  | _ => none }
def pairsKeepsRow : OpenClaim := { program := "ythohjhhiphfngaa", sum := "9e740f1f318e676a2f455f18b3f7f6c30f23a5a5062285bea3aebdd2202f2f0c", func := "scrutiny/scrutinylaw05.PairsKeeps", spec := "pairsKeeps", unfollowed := true, recurses := true, plainKeys := false, apart := false }
def PairsKeepsSaid : Prop := pairsKeepsRow.holds Try.pinned (OpenSpec.ofChange pairsKeepsSpec)

/-- ITS FALSE NEIGHBOUR: 'it returns false'. Refute it at one input. -/
def pairsKeepsWrong : ChangeSpec := { name := "pairsKeeps", fn := fun _ => fun
  | [d] => { results := [.lit (.bool false)], args := [d] }
  | _ => none }
def PairsKeepsWrongFalsely : Prop := pairsKeepsRow.holds Try.pinned (OpenSpec.ofChange pairsKeepsWrong)

/-- 'scrutinylaw05.PairsGrid': WHATEVER THE INPUT: true; the input reads as it did. -/
def pairsGridSpec : ChangeSpec := { name := "pairsGrid", fn := fun _ => fun
  | [d1, d2, d3] => { results := [.lit (.bool true)], args := [d1, d2, d3] }
  | _ => none }
def pairsGridRow : OpenClaim := { program := "ythohjhhiphfngaa", sum := "9e740f1f318e676a2f455f18b3f7f6c30f23a5a5062285bea3aebdd2202f2f0c", func := "scrutiny/scrutinylaw05.PairsGrid", spec := "pairsGrid", unfollowed := true, recurses := true, plainKeys := false, apart := false }
def PairsGridSaid : Prop := pairsGridRow.holds Try.pinned (OpenSpec.ofChange pairsGridSpec)

/-- ITS FALSE NEIGHBOUR: 'it returns false'. Refute it at one input. -/
def pairsGridWrong : ChangeSpec := { name := "pairsGrid", fn := fun _ => fun
  | [d1, d2, d3] => { results := [.lit (.bool false)], args := [d1, d2, d3] }
  | _ => none }
def PairsGridWrongFalsely : Prop := pairsGridRow.holds Try.pinned (OpenSpec.ofChange pairsGridWrong)

/-- 'scrutinylaw05.PairsFull': WHATEVER THE INPUT: true; the input reads as it did. -/
def pairsFullSpec : ChangeSpec := { name := "pairsFull", fn := fun _ => fun
  | [d1, d2] => { results := [.lit (.bool true)], args := [d1, d2] }
  | _ => none }
def pairsFullRow : OpenClaim := { program := "ythohjhhiphfngaa", sum := "9e740f1f318e676a2f455f18b3f7f6c30f23a5a5062285bea3aebdd2202f2f0c", func := "scrutiny/scrutinylaw05.PairsFull", spec := "pairsFull", unfollowed := true, recurses := true, plainKeys := false, apart := false }
def PairsFullSaid : Prop := pairsFullRow.holds Try.pinned (OpenSpec.ofChange pairsFullSpec)

/-- ITS FALSE NEIGHBOUR: 'it returns false'. Refute it at one input. -/
def pairsFullWrong : ChangeSpec := { name := "pairsFull", fn := fun _ => fun
  | [d1, d2] => { results := [.lit (.bool false)], args := [d1, d2] }
  | _ => none }
def PairsFullWrongFalsely : Prop := pairsFullRow.holds Try.pinned (OpenSpec.ofChange pairsFullWrong)

/-- 'scrutinylaw05.PairsOld': WHATEVER THE INPUT: true; the input reads as it did. -/
def pairsOldSpec : ChangeSpec := { name := "pairsOld", fn := fun _ => fun
  | [d1, d2, d3] => { results := [.lit (.bool true)], args := [d1, d2, d3] }
  | _ => none }
def pairsOldRow : OpenClaim := { program := "ythohjhhiphfngaa", sum := "9e740f1f318e676a2f455f18b3f7f6c30f23a5a5062285bea3aebdd2202f2f0c", func := "scrutiny/scrutinylaw05.PairsOld", spec := "pairsOld", unfollowed := true, recurses := true, plainKeys := false, apart := false }
def PairsOldSaid : Prop := pairsOldRow.holds Try.pinned (OpenSpec.ofChange pairsOldSpec)

/-- ITS FALSE NEIGHBOUR: 'it returns false'. Refute it at one input. -/
def pairsOldWrong : ChangeSpec := { name := "pairsOld", fn := fun _ => fun
  | [d1, d2, d3] => { results := [.lit (.bool false)], args := [d1, d2, d3] }
  | _ => none }
def PairsOldWrongFalsely : Prop := pairsOldRow.holds Try.pinned (OpenSpec.ofChange pairsOldWrong)

/- THE SECOND FORM. 'bulk': how many values and letters a reading holds, each counted each time it is reached (what is shared counts as often as it is met; a slice's spare places count too). A statement '..UptoSaid' is the law's where the arguments, and the package variables that the reading takes, are together of bulk at most 1048576: NARROWER than '..Said'. Prove '..Said' where nothing that the law and all that it calls make is longer than what came in: it says more and counts as full. Else prove '..UptoSaid'. A law counts once. -/
mutual
def uptoBulk {H : Type} : DataW H → Nat
  | .lit (.string bytes) => bytes.length + 1
  | .lit _ => 1
  | .nil => 1
  | .ptr d => uptoBulk d + 1
  | .slice elems spare => uptoBulkAll elems + uptoBulkAll spare + 1
  | .agg parts => uptoBulkAll parts + 1
  | .iface _ d => uptoBulk d + 1
  | .map entries => uptoBulkEntries entries + 1
  | .held _ => 1
def uptoBulkAll {H : Type} : List (DataW H) → Nat
  | [] => 0
  | d :: r => uptoBulk d + uptoBulkAll r
def uptoBulkEntries {H : Type} : List (Lit × DataW H) → Nat
  | [] => 0
  | x :: r => uptoBulkEntry x + uptoBulkEntries r
def uptoBulkEntry {H : Type} : Lit × DataW H → Nat
  | (.string bytes, d) => bytes.length + uptoBulk d + 1
  | (_, d) => uptoBulk d + 1
 end
def uptoSmall : (H : Type) → List (DataW H) → Bool := fun _ ds => decide (uptoBulkAll ds ≤ 1048576)
def OpenSpec.upto (s : _root_.Go.ChangeSpec) : _root_.Go.OpenSpec := { _root_.Go.OpenSpec.ofChange s with cond := some uptoSmall }

/-- 'scrutinylaw05.PairsKeeps', WHERE WHAT IT READS IS OF BULK AT MOST 1048576: true; the input reads as it did. -/
def pairsKeepsUptoRow : OpenClaim := { program := "ythohjhhiphfngaa", sum := "9e740f1f318e676a2f455f18b3f7f6c30f23a5a5062285bea3aebdd2202f2f0c", func := "scrutiny/scrutinylaw05.PairsKeeps", spec := "pairsKeeps", unfollowed := true, recurses := true, plainKeys := false, apart := false, narrowed := true }
def PairsKeepsUptoSaid : Prop := pairsKeepsUptoRow.holds Try.pinned (OpenSpec.upto pairsKeepsSpec)

/-- 'scrutinylaw05.PairsGrid', WHERE WHAT IT READS IS OF BULK AT MOST 1048576: true; the input reads as it did. -/
def pairsGridUptoRow : OpenClaim := { program := "ythohjhhiphfngaa", sum := "9e740f1f318e676a2f455f18b3f7f6c30f23a5a5062285bea3aebdd2202f2f0c", func := "scrutiny/scrutinylaw05.PairsGrid", spec := "pairsGrid", unfollowed := true, recurses := true, plainKeys := false, apart := false, narrowed := true }
def PairsGridUptoSaid : Prop := pairsGridUptoRow.holds Try.pinned (OpenSpec.upto pairsGridSpec)

/-- 'scrutinylaw05.PairsFull', WHERE WHAT IT READS IS OF BULK AT MOST 1048576: true; the input reads as it did. -/
def pairsFullUptoRow : OpenClaim := { program := "ythohjhhiphfngaa", sum := "9e740f1f318e676a2f455f18b3f7f6c30f23a5a5062285bea3aebdd2202f2f0c", func := "scrutiny/scrutinylaw05.PairsFull", spec := "pairsFull", unfollowed := true, recurses := true, plainKeys := false, apart := false, narrowed := true }
def PairsFullUptoSaid : Prop := pairsFullUptoRow.holds Try.pinned (OpenSpec.upto pairsFullSpec)

/-- 'scrutinylaw05.PairsOld', WHERE WHAT IT READS IS OF BULK AT MOST 1048576: true; the input reads as it did. -/
def pairsOldUptoRow : OpenClaim := { program := "ythohjhhiphfngaa", sum := "9e740f1f318e676a2f455f18b3f7f6c30f23a5a5062285bea3aebdd2202f2f0c", func := "scrutiny/scrutinylaw05.PairsOld", spec := "pairsOld", unfollowed := true, recurses := true, plainKeys := false, apart := false, narrowed := true }
def PairsOldUptoSaid : Prop := pairsOldUptoRow.holds Try.pinned (OpenSpec.upto pairsOldSpec)

end Rows
end Go.Proofs.Ythohjhhiphfngaa
