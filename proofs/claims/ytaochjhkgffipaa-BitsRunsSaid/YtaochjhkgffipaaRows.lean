/-
  No cell of these rows narrows 'for every input' (looked for: loops, veiled, ifaces, maps, wideKeys, modest, calm, conditions, laid).
  DERIVED. THE GIVEN ROWS OF THIS SEAT. 7 by the template 'for every input the law returns true; each argument reads behind the call as it read before'; 0 by the template 'total and deterministic' (their statements: YtaochjhkgffipaaTotals.lean).
  GIVEN WITH THE SEED: the statements are not yours to turn. If you find one false, say at which input.
  Laid BY PROGRAM, IN A SANDBOX (cutbox-rows.mjs): the forced cells as the released guide's own fill.sh prints them over the translation b8c297146ac8710d… (all of the seat's roots in one cut). By AI agents, Wed Nov 11 2026. No macro, syntax, notation, axiom, sorry.
-/
import Derived.Test.YtaochjhkgffipaaChecked
import GoSem.Claim
import GoSem.ClaimJoined
import GoSem.ClaimMapViews
import Derived.JoinedTies
import Derived.KernelRfl
namespace Go.Proofs.Ytaochjhkgffipaa
/- THE CELL 'sum', in the pinned program and in every row, IS THE sha256 OF THE DUMP (.gsa) THAT YtaochjhkgffipaaProg.lean LOADS. Nothing in Lean hashes anything: it is a label: what it is worth is what the hold of that sum in a sandbox is worth. -/
noncomputable def Try.pinned : Pinned := { name := "ytaochjhkgffipaa", sum := "b8c297146ac8710d91bb8a2a4931c4c560c7e4920ad3e67d4f5a390e02ca5d17", checked := Try.checked }
namespace Rows
def none {H : Type} : Left H := { results := [], args := [] }

/-- 'scrutinylaw01.BitsTells': WHATEVER THE INPUT: true; the input reads as it did. -/
def bitsTellsSpec : ChangeSpec := { name := "bitsTells", fn := fun _ => fun
  | [d] => { results := [.lit (.bool true)], args := [d] }
  | _ => none }
def bitsTellsRow : OpenClaim := { program := "ytaochjhkgffipaa", sum := "b8c297146ac8710d91bb8a2a4931c4c560c7e4920ad3e67d4f5a390e02ca5d17", func := "scrutiny/scrutinylaw01.BitsTells", spec := "bitsTells", unfollowed := true, recurses := true, apart := false }
def BitsTellsSaid : Prop := bitsTellsRow.holds Try.pinned (OpenSpec.ofChange bitsTellsSpec)

/-- ITS FALSE NEIGHBOUR: 'it returns false'. Refute it at one input. -/
def bitsTellsWrong : ChangeSpec := { name := "bitsTells", fn := fun _ => fun
  | [d] => { results := [.lit (.bool false)], args := [d] }
  | _ => none }
def BitsTellsWrongFalsely : Prop := bitsTellsRow.holds Try.pinned (OpenSpec.ofChange bitsTellsWrong)

/-- 'scrutinylaw01.BitsBack': WHATEVER THE INPUT: true; the input reads as it did. -/
def bitsBackSpec : ChangeSpec := { name := "bitsBack", fn := fun _ => fun
  | [d] => { results := [.lit (.bool true)], args := [d] }
  | _ => none }
def bitsBackRow : OpenClaim := { program := "ytaochjhkgffipaa", sum := "b8c297146ac8710d91bb8a2a4931c4c560c7e4920ad3e67d4f5a390e02ca5d17", func := "scrutiny/scrutinylaw01.BitsBack", spec := "bitsBack", unfollowed := true, recurses := true, apart := false }
def BitsBackSaid : Prop := bitsBackRow.holds Try.pinned (OpenSpec.ofChange bitsBackSpec)

/-- ITS FALSE NEIGHBOUR: 'it returns false'. Refute it at one input. -/
def bitsBackWrong : ChangeSpec := { name := "bitsBack", fn := fun _ => fun
  | [d] => { results := [.lit (.bool false)], args := [d] }
  | _ => none }
def BitsBackWrongFalsely : Prop := bitsBackRow.holds Try.pinned (OpenSpec.ofChange bitsBackWrong)

/-- 'scrutinylaw01.BitsJoin': WHATEVER THE INPUT: true; the input reads as it did. -/
def bitsJoinSpec : ChangeSpec := { name := "bitsJoin", fn := fun _ => fun
  | [d] => { results := [.lit (.bool true)], args := [d] }
  | _ => none }
def bitsJoinRow : OpenClaim := { program := "ytaochjhkgffipaa", sum := "b8c297146ac8710d91bb8a2a4931c4c560c7e4920ad3e67d4f5a390e02ca5d17", func := "scrutiny/scrutinylaw01.BitsJoin", spec := "bitsJoin", unfollowed := true, recurses := true, apart := false }
def BitsJoinSaid : Prop := bitsJoinRow.holds Try.pinned (OpenSpec.ofChange bitsJoinSpec)

/-- ITS FALSE NEIGHBOUR: 'it returns false'. Refute it at one input. -/
def bitsJoinWrong : ChangeSpec := { name := "bitsJoin", fn := fun _ => fun
  | [d] => { results := [.lit (.bool false)], args := [d] }
  | _ => none }
def BitsJoinWrongFalsely : Prop := bitsJoinRow.holds Try.pinned (OpenSpec.ofChange bitsJoinWrong)

/-- 'scrutinylaw01.BitsParts': WHATEVER THE INPUT: true; the input reads as it did. -/
def bitsPartsSpec : ChangeSpec := { name := "bitsParts", fn := fun _ => fun
  | [d1, d2, d3] => { results := [.lit (.bool true)], args := [d1, d2, d3] }
  | _ => none }
def bitsPartsRow : OpenClaim := { program := "ytaochjhkgffipaa", sum := "b8c297146ac8710d91bb8a2a4931c4c560c7e4920ad3e67d4f5a390e02ca5d17", func := "scrutiny/scrutinylaw01.BitsParts", spec := "bitsParts", unfollowed := true, recurses := true, apart := false }
def BitsPartsSaid : Prop := bitsPartsRow.holds Try.pinned (OpenSpec.ofChange bitsPartsSpec)

/-- ITS FALSE NEIGHBOUR: 'it returns false'. Refute it at one input. -/
def bitsPartsWrong : ChangeSpec := { name := "bitsParts", fn := fun _ => fun
  | [d1, d2, d3] => { results := [.lit (.bool false)], args := [d1, d2, d3] }
  | _ => none }
def BitsPartsWrongFalsely : Prop := bitsPartsRow.holds Try.pinned (OpenSpec.ofChange bitsPartsWrong)

/-- 'scrutinylaw01.BitsOrder': WHATEVER THE INPUT: true; the input reads as it did. -/
def bitsOrderSpec : ChangeSpec := { name := "bitsOrder", fn := fun _ => fun
  | [d1, d2, d3] => { results := [.lit (.bool true)], args := [d1, d2, d3] }
  | _ => none }
def bitsOrderRow : OpenClaim := { program := "ytaochjhkgffipaa", sum := "b8c297146ac8710d91bb8a2a4931c4c560c7e4920ad3e67d4f5a390e02ca5d17", func := "scrutiny/scrutinylaw01.BitsOrder", spec := "bitsOrder", unfollowed := true, recurses := true, apart := false }
def BitsOrderSaid : Prop := bitsOrderRow.holds Try.pinned (OpenSpec.ofChange bitsOrderSpec)

/-- ITS FALSE NEIGHBOUR: 'it returns false'. Refute it at one input. -/
def bitsOrderWrong : ChangeSpec := { name := "bitsOrder", fn := fun _ => fun
  | [d1, d2, d3] => { results := [.lit (.bool false)], args := [d1, d2, d3] }
  | _ => none }
def BitsOrderWrongFalsely : Prop := bitsOrderRow.holds Try.pinned (OpenSpec.ofChange bitsOrderWrong)

/-- 'scrutinylaw01.BitsRuns': WHATEVER THE INPUT: true; the input reads as it did. -/
def bitsRunsSpec : ChangeSpec := { name := "bitsRuns", fn := fun _ => fun
  | [d1, d2] => { results := [.lit (.bool true)], args := [d1, d2] }
  | _ => none }
def bitsRunsRow : OpenClaim := { program := "ytaochjhkgffipaa", sum := "b8c297146ac8710d91bb8a2a4931c4c560c7e4920ad3e67d4f5a390e02ca5d17", func := "scrutiny/scrutinylaw01.BitsRuns", spec := "bitsRuns", unfollowed := true, recurses := true, apart := false }
def BitsRunsSaid : Prop := bitsRunsRow.holds Try.pinned (OpenSpec.ofChange bitsRunsSpec)

/-- ITS FALSE NEIGHBOUR: 'it returns false'. Refute it at one input. -/
def bitsRunsWrong : ChangeSpec := { name := "bitsRuns", fn := fun _ => fun
  | [d1, d2] => { results := [.lit (.bool false)], args := [d1, d2] }
  | _ => none }
def BitsRunsWrongFalsely : Prop := bitsRunsRow.holds Try.pinned (OpenSpec.ofChange bitsRunsWrong)

/-- 'scrutinylaw01.BitsWide': WHATEVER THE INPUT: true; the input reads as it did. -/
def bitsWideSpec : ChangeSpec := { name := "bitsWide", fn := fun _ => fun
  | [d] => { results := [.lit (.bool true)], args := [d] }
  | _ => none }
def bitsWideRow : OpenClaim := { program := "ytaochjhkgffipaa", sum := "b8c297146ac8710d91bb8a2a4931c4c560c7e4920ad3e67d4f5a390e02ca5d17", func := "scrutiny/scrutinylaw01.BitsWide", spec := "bitsWide", unfollowed := true, recurses := true, apart := false }
def BitsWideSaid : Prop := bitsWideRow.holds Try.pinned (OpenSpec.ofChange bitsWideSpec)

/-- ITS FALSE NEIGHBOUR: 'it returns false'. Refute it at one input. -/
def bitsWideWrong : ChangeSpec := { name := "bitsWide", fn := fun _ => fun
  | [d] => { results := [.lit (.bool false)], args := [d] }
  | _ => none }
def BitsWideWrongFalsely : Prop := bitsWideRow.holds Try.pinned (OpenSpec.ofChange bitsWideWrong)

/- THE SECOND FORM. 'bulk': how many values and letters a reading holds, each counted each time it is reached (what is shared counts as often as it is met; a slice's spare places count too). A statement '..UptoSaid' is the law's where the arguments, and the package variables that the reading takes, are together of bulk at most 1048576: NARROWER than '..Said'. Prove '..Said' where nothing that the law and all that it calls make is longer than what came in: it says more and counts as full. Else prove '..UptoSaid'. A law counts once. -/
mutual
def uptoBulk {H : Type} : DataW H → Nat
  | .lit (.string bytes) => bytes.length + 1
  | .lit _ => 1
  | .nil => 1
  | .ptr d => uptoBulk d + 1
  | .slice elems spare => uptoBulkAll elems + uptoBulkAll spare + 1
  | .agg parts => uptoBulkAll parts + 1
  | .iface _ d => uptoBulk d + 1
  | .map entries => uptoBulkEntries entries + 1
  | .held _ => 1
def uptoBulkAll {H : Type} : List (DataW H) → Nat
  | [] => 0
  | d :: r => uptoBulk d + uptoBulkAll r
def uptoBulkEntries {H : Type} : List (Lit × DataW H) → Nat
  | [] => 0
  | x :: r => uptoBulkEntry x + uptoBulkEntries r
def uptoBulkEntry {H : Type} : Lit × DataW H → Nat
  | (.string bytes, d) => bytes.length + uptoBulk d + 1
  | (_, d) => uptoBulk d + 1
 end
def uptoSmall : (H : Type) → List (DataW H) → Bool := fun _ ds => decide (uptoBulkAll ds ≤ 1048576)
def OpenSpec.upto (s : _root_.Go.ChangeSpec) : _root_.Go.OpenSpec := { _root_.Go.OpenSpec.ofChange s with cond := some uptoSmall }

/-- 'scrutinylaw01.BitsTells', WHERE WHAT IT READS IS OF BULK AT MOST 1048576: true; the input reads as it did. -/
def bitsTellsUptoRow : OpenClaim := { program := "ytaochjhkgffipaa", sum := "b8c297146ac8710d91bb8a2a4931c4c560c7e4920ad3e67d4f5a390e02ca5d17", func := "scrutiny/scrutinylaw01.BitsTells", spec := "bitsTells", unfollowed := true, recurses := true, apart := false, narrowed := true }
def BitsTellsUptoSaid : Prop := bitsTellsUptoRow.holds Try.pinned (OpenSpec.upto bitsTellsSpec)

/-- 'scrutinylaw01.BitsBack', WHERE WHAT IT READS IS OF BULK AT MOST 1048576: true; the input reads as it did. -/
def bitsBackUptoRow : OpenClaim := { program := "ytaochjhkgffipaa", sum := "b8c297146ac8710d91bb8a2a4931c4c560c7e4920ad3e67d4f5a390e02ca5d17", func := "scrutiny/scrutinylaw01.BitsBack", spec := "bitsBack", unfollowed := true, recurses := true, apart := false, narrowed := true }
def BitsBackUptoSaid : Prop := bitsBackUptoRow.holds Try.pinned (OpenSpec.upto bitsBackSpec)

/-- 'scrutinylaw01.BitsJoin', WHERE WHAT IT READS IS OF BULK AT MOST 1048576: true; the input reads as it did. -/
def bitsJoinUptoRow : OpenClaim := { program := "ytaochjhkgffipaa", sum := "b8c297146ac8710d91bb8a2a4931c4c560c7e4920ad3e67d4f5a390e02ca5d17", func := "scrutiny/scrutinylaw01.BitsJoin", spec := "bitsJoin", unfollowed := true, recurses := true, apart := false, narrowed := true }
def BitsJoinUptoSaid : Prop := bitsJoinUptoRow.holds Try.pinned (OpenSpec.upto bitsJoinSpec)

/-- 'scrutinylaw01.BitsParts', WHERE WHAT IT READS IS OF BULK AT MOST 1048576: true; the input reads as it did. -/
def bitsPartsUptoRow : OpenClaim := { program := "ytaochjhkgffipaa", sum := "b8c297146ac8710d91bb8a2a4931c4c560c7e4920ad3e67d4f5a390e02ca5d17", func := "scrutiny/scrutinylaw01.BitsParts", spec := "bitsParts", unfollowed := true, recurses := true, apart := false, narrowed := true }
def BitsPartsUptoSaid : Prop := bitsPartsUptoRow.holds Try.pinned (OpenSpec.upto bitsPartsSpec)

/-- 'scrutinylaw01.BitsOrder', WHERE WHAT IT READS IS OF BULK AT MOST 1048576: true; the input reads as it did. -/
def bitsOrderUptoRow : OpenClaim := { program := "ytaochjhkgffipaa", sum := "b8c297146ac8710d91bb8a2a4931c4c560c7e4920ad3e67d4f5a390e02ca5d17", func := "scrutiny/scrutinylaw01.BitsOrder", spec := "bitsOrder", unfollowed := true, recurses := true, apart := false, narrowed := true }
def BitsOrderUptoSaid : Prop := bitsOrderUptoRow.holds Try.pinned (OpenSpec.upto bitsOrderSpec)

/-- 'scrutinylaw01.BitsRuns', WHERE WHAT IT READS IS OF BULK AT MOST 1048576: true; the input reads as it did. -/
def bitsRunsUptoRow : OpenClaim := { program := "ytaochjhkgffipaa", sum := "b8c297146ac8710d91bb8a2a4931c4c560c7e4920ad3e67d4f5a390e02ca5d17", func := "scrutiny/scrutinylaw01.BitsRuns", spec := "bitsRuns", unfollowed := true, recurses := true, apart := false, narrowed := true }
def BitsRunsUptoSaid : Prop := bitsRunsUptoRow.holds Try.pinned (OpenSpec.upto bitsRunsSpec)

/-- 'scrutinylaw01.BitsWide', WHERE WHAT IT READS IS OF BULK AT MOST 1048576: true; the input reads as it did. -/
def bitsWideUptoRow : OpenClaim := { program := "ytaochjhkgffipaa", sum := "b8c297146ac8710d91bb8a2a4931c4c560c7e4920ad3e67d4f5a390e02ca5d17", func := "scrutiny/scrutinylaw01.BitsWide", spec := "bitsWide", unfollowed := true, recurses := true, apart := false, narrowed := true }
def BitsWideUptoSaid : Prop := bitsWideUptoRow.holds Try.pinned (OpenSpec.upto bitsWideSpec)

end Rows
end Go.Proofs.Ytaochjhkgffipaa
