/-
  No cell of these rows narrows 'for every input' (looked for: loops, veiled, ifaces, maps, wideKeys, modest, calm, conditions, laid).
  DERIVED. THE GIVEN ROWS OF THIS SEAT. 3 by the template 'for every input the law returns true; each argument reads behind the call as it read before'; 0 by the template 'total and deterministic' (their statements: YtadpjaolnkliiaaTotals.lean).
  GIVEN WITH THE SEED: the statements are not yours to turn. If you find one false, say at which input.
  Laid BY PROGRAM, IN A SANDBOX (cutbox-rows.mjs): the forced cells as the released guide's own fill.sh prints them over the translation 937aa43559fd2fa9… (all of the seat's roots in one cut). By AI agents, Wed Nov 11 2026. No macro, syntax, notation, axiom, sorry.
-/
import Derived.Test.YtadpjaolnkliiaaChecked
import GoSem.Claim
import GoSem.ClaimJoined
import GoSem.ClaimMapViews
import Derived.JoinedTies
import Derived.KernelRfl
namespace Go.Proofs.Ytadpjaolnkliiaa
/- THE CELL 'sum', in the pinned program and in every row, IS THE sha256 OF THE DUMP (.gsa) THAT YtadpjaolnkliiaaProg.lean LOADS. Nothing in Lean hashes anything: it is a label: what it is worth is what the hold of that sum in a sandbox is worth. -/
noncomputable def Try.pinned : Pinned := { name := "ytadpjaolnkliiaa", sum := "937aa43559fd2fa9c1e55e72cf468162cc386c31a41829344efe5700c81e86f3", checked := Try.checked }
namespace Rows
def none {H : Type} : Left H := { results := [], args := [] }

/-- 'scrutinylaw06.FlatFlags': WHATEVER THE INPUT: true; the input reads as it did. -/
def flatFlagsSpec : ChangeSpec := { name := "flatFlags", fn := fun _ => fun
  | [d] => { results := [.lit (.bool true)], args := [d] }
  | _ => none }
def flatFlagsRow : OpenClaim := { program := "ytadpjaolnkliiaa", sum := "937aa43559fd2fa9c1e55e72cf468162cc386c31a41829344efe5700c81e86f3", func := "scrutiny/scrutinylaw06.FlatFlags", spec := "flatFlags", unfollowed := true, recurses := true, apart := false }
def FlatFlagsSaid : Prop := flatFlagsRow.holds Try.pinned (OpenSpec.ofChange flatFlagsSpec)

/-- ITS FALSE NEIGHBOUR: 'it returns false'. Refute it at one input. -/
def flatFlagsWrong : ChangeSpec := { name := "flatFlags", fn := fun _ => fun
  | [d] => { results := [.lit (.bool false)], args := [d] }
  | _ => none }
def FlatFlagsWrongFalsely : Prop := flatFlagsRow.holds Try.pinned (OpenSpec.ofChange flatFlagsWrong)

/-- 'scrutinylaw06.FlatFull': WHATEVER THE INPUT: true; the input reads as it did. -/
def flatFullSpec : ChangeSpec := { name := "flatFull", fn := fun _ => fun
  | [d1, d2] => { results := [.lit (.bool true)], args := [d1, d2] }
  | _ => none }
def flatFullRow : OpenClaim := { program := "ytadpjaolnkliiaa", sum := "937aa43559fd2fa9c1e55e72cf468162cc386c31a41829344efe5700c81e86f3", func := "scrutiny/scrutinylaw06.FlatFull", spec := "flatFull", unfollowed := true, recurses := true, apart := false }
def FlatFullSaid : Prop := flatFullRow.holds Try.pinned (OpenSpec.ofChange flatFullSpec)

/-- ITS FALSE NEIGHBOUR: 'it returns false'. Refute it at one input. -/
def flatFullWrong : ChangeSpec := { name := "flatFull", fn := fun _ => fun
  | [d1, d2] => { results := [.lit (.bool false)], args := [d1, d2] }
  | _ => none }
def FlatFullWrongFalsely : Prop := flatFullRow.holds Try.pinned (OpenSpec.ofChange flatFullWrong)

/-- 'scrutinylaw06.FlatOld': WHATEVER THE INPUT: true; the input reads as it did. -/
def flatOldSpec : ChangeSpec := { name := "flatOld", fn := fun _ => fun
  | [d1, d2, d3] => { results := [.lit (.bool true)], args := [d1, d2, d3] }
  | _ => none }
def flatOldRow : OpenClaim := { program := "ytadpjaolnkliiaa", sum := "937aa43559fd2fa9c1e55e72cf468162cc386c31a41829344efe5700c81e86f3", func := "scrutiny/scrutinylaw06.FlatOld", spec := "flatOld", unfollowed := true, recurses := true, apart := false }
def FlatOldSaid : Prop := flatOldRow.holds Try.pinned (OpenSpec.ofChange flatOldSpec)

/-- ITS FALSE NEIGHBOUR: 'it returns false'. Refute it at one input. -/
def flatOldWrong : ChangeSpec := { name := "flatOld", fn := fun _ => fun
  | [d1, d2, d3] => { results := [.lit (.bool false)], args := [d1, d2, d3] }
  | _ => none }
def FlatOldWrongFalsely : Prop := flatOldRow.holds Try.pinned (OpenSpec.ofChange flatOldWrong)

/- THE SECOND FORM. 'bulk': how many values and letters a reading holds, each counted each time it is reached (what is shared counts as often as it is met; a slice's spare places count too). A statement '..UptoSaid' is the law's where the arguments, and the package variables that the reading takes, are together of bulk at most 1048576: NARROWER than '..Said'. Prove '..Said' where nothing that the law and all that it calls make is longer than what came in: it says more and counts as full. Else prove '..UptoSaid'. A law counts once. -/
mutual
def uptoBulk {H : Type} : DataW H → Nat
  | .lit (.string bytes) => bytes.length + 1
  | .lit _ => 1
  | .nil => 1
  | .ptr d => uptoBulk d + 1
  | .slice elems spare => uptoBulkAll elems + uptoBulkAll spare + 1
  | .agg parts => uptoBulkAll parts + 1
  | .iface _ d => uptoBulk d + 1
  | .map entries => uptoBulkEntries entries + 1
  | .held _ => 1
def uptoBulkAll {H : Type} : List (DataW H) → Nat
  | [] => 0
  | d :: r => uptoBulk d + uptoBulkAll r
def uptoBulkEntries {H : Type} : List (Lit × DataW H) → Nat
  | [] => 0
  | x :: r => uptoBulkEntry x + uptoBulkEntries r
def uptoBulkEntry {H : Type} : Lit × DataW H → Nat
  | (.string bytes, d) => bytes.length + uptoBulk d + 1
  | (_, d) => uptoBulk d + 1
 end
def uptoSmall : (H : Type) → List (DataW H) → Bool := fun _ ds => decide (uptoBulkAll ds ≤ 1048576)
def OpenSpec.upto (s : _root_.Go.ChangeSpec) : _root_.Go.OpenSpec := { _root_.Go.OpenSpec.ofChange s with cond := some uptoSmall }

/-- 'scrutinylaw06.FlatFlags', WHERE WHAT IT READS IS OF BULK AT MOST 1048576: true; the input reads as it did. -/
def flatFlagsUptoRow : OpenClaim := { program := "ytadpjaolnkliiaa", sum := "937aa43559fd2fa9c1e55e72cf468162cc386c31a41829344efe5700c81e86f3", func := "scrutiny/scrutinylaw06.FlatFlags", spec := "flatFlags", unfollowed := true, recurses := true, apart := false, narrowed := true }
def FlatFlagsUptoSaid : Prop := flatFlagsUptoRow.holds Try.pinned (OpenSpec.upto flatFlagsSpec)

/-- 'scrutinylaw06.FlatFull', WHERE WHAT IT READS IS OF BULK AT MOST 1048576: true; the input reads as it did. -/
def flatFullUptoRow : OpenClaim := { program := "ytadpjaolnkliiaa", sum := "937aa43559fd2fa9c1e55e72cf468162cc386c31a41829344efe5700c81e86f3", func := "scrutiny/scrutinylaw06.FlatFull", spec := "flatFull", unfollowed := true, recurses := true, apart := false, narrowed := true }
def FlatFullUptoSaid : Prop := flatFullUptoRow.holds Try.pinned (OpenSpec.upto flatFullSpec)

/-- 'scrutinylaw06.FlatOld', WHERE WHAT IT READS IS OF BULK AT MOST 1048576: true; the input reads as it did. -/
def flatOldUptoRow : OpenClaim := { program := "ytadpjaolnkliiaa", sum := "937aa43559fd2fa9c1e55e72cf468162cc386c31a41829344efe5700c81e86f3", func := "scrutiny/scrutinylaw06.FlatOld", spec := "flatOld", unfollowed := true, recurses := true, apart := false, narrowed := true }
def FlatOldUptoSaid : Prop := flatOldUptoRow.holds Try.pinned (OpenSpec.upto flatOldSpec)

end Rows
end Go.Proofs.Ytadpjaolnkliiaa
