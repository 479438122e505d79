/-
  No cell of these rows narrows 'for every input' (looked for: loops, veiled, ifaces, maps, wideKeys, modest, calm, conditions, laid).
  DERIVED. THE GIVEN ROWS OF THIS SEAT. 5 by the template 'for every input the law returns true; each argument reads behind the call as it read before'; 0 by the template 'total and deterministic' (their statements: YtagaakajpblmjaaTotals.lean).
  GIVEN WITH THE SEED: the statements are not yours to turn. If you find one false, say at which input.
  Laid BY PROGRAM, IN A SANDBOX (cutbox-rows.mjs): the forced cells as the released guide's own fill.sh prints them over the translation 91d1511acedb2bbc… (all of the seat's roots in one cut). By AI agents, Wed Nov 11 2026. No macro, syntax, notation, axiom, sorry.
-/
import Derived.Test.YtagaakajpblmjaaChecked
import GoSem.Claim
import GoSem.ClaimJoined
import GoSem.ClaimMapViews
import Derived.JoinedTies
import Derived.KernelRfl
namespace Go.Proofs.Ytagaakajpblmjaa
/- THE CELL 'sum', in the pinned program and in every row, IS THE sha256 OF THE DUMP (.gsa) THAT YtagaakajpblmjaaProg.lean LOADS. Nothing in Lean hashes anything: it is a label: what it is worth is what the hold of that sum in a sandbox is worth. -/
noncomputable def Try.pinned : Pinned := { name := "ytagaakajpblmjaa", sum := "91d1511acedb2bbc75bd943003bd7c7f3b73be93d29798fd66a2467f66efe743", checked := Try.checked }
namespace Rows
def none {H : Type} : Left H := { results := [], args := [] }

/-- 'scrutinylaw08.TreeTells': WHATEVER THE INPUT: true; the input reads as it did. -/
def treeTellsSpec : ChangeSpec := { name := "treeTells", fn := fun _ => fun
  | [d1, d2, d3] => { results := [.lit (.bool true)], args := [d1, d2, d3] }
  | _ => none }
def treeTellsRow : OpenClaim := { program := "ytagaakajpblmjaa", sum := "91d1511acedb2bbc75bd943003bd7c7f3b73be93d29798fd66a2467f66efe743", func := "scrutiny/scrutinylaw08.TreeTells", spec := "treeTells", unfollowed := true, recurses := true, apart := false }
def TreeTellsSaid : Prop := treeTellsRow.holds Try.pinned (OpenSpec.ofChange treeTellsSpec)

/-- ITS FALSE NEIGHBOUR: 'it returns false'. Refute it at one input. -/
def treeTellsWrong : ChangeSpec := { name := "treeTells", fn := fun _ => fun
  | [d1, d2, d3] => { results := [.lit (.bool false)], args := [d1, d2, d3] }
  | _ => none }
def TreeTellsWrongFalsely : Prop := treeTellsRow.holds Try.pinned (OpenSpec.ofChange treeTellsWrong)

/-- 'scrutinylaw08.TreeSizes': WHATEVER THE INPUT: true; the input reads as it did. -/
def treeSizesSpec : ChangeSpec := { name := "treeSizes", fn := fun _ => fun
  | [d1, d2, d3] => { results := [.lit (.bool true)], args := [d1, d2, d3] }
  | _ => none }
def treeSizesRow : OpenClaim := { program := "ytagaakajpblmjaa", sum := "91d1511acedb2bbc75bd943003bd7c7f3b73be93d29798fd66a2467f66efe743", func := "scrutiny/scrutinylaw08.TreeSizes", spec := "treeSizes", unfollowed := true, recurses := true, apart := false }
def TreeSizesSaid : Prop := treeSizesRow.holds Try.pinned (OpenSpec.ofChange treeSizesSpec)

/-- ITS FALSE NEIGHBOUR: 'it returns false'. Refute it at one input. -/
def treeSizesWrong : ChangeSpec := { name := "treeSizes", fn := fun _ => fun
  | [d1, d2, d3] => { results := [.lit (.bool false)], args := [d1, d2, d3] }
  | _ => none }
def TreeSizesWrongFalsely : Prop := treeSizesRow.holds Try.pinned (OpenSpec.ofChange treeSizesWrong)

/-- 'scrutinylaw08.TreeOld': WHATEVER THE INPUT: true; the input reads as it did. -/
def treeOldSpec : ChangeSpec := { name := "treeOld", fn := fun _ => fun
  | [d] => { results := [.lit (.bool true)], args := [d] }
  | _ => none }
def treeOldRow : OpenClaim := { program := "ytagaakajpblmjaa", sum := "91d1511acedb2bbc75bd943003bd7c7f3b73be93d29798fd66a2467f66efe743", func := "scrutiny/scrutinylaw08.TreeOld", spec := "treeOld", unfollowed := true, recurses := true, apart := false }
def TreeOldSaid : Prop := treeOldRow.holds Try.pinned (OpenSpec.ofChange treeOldSpec)

/-- ITS FALSE NEIGHBOUR: 'it returns false'. Refute it at one input. -/
def treeOldWrong : ChangeSpec := { name := "treeOld", fn := fun _ => fun
  | [d] => { results := [.lit (.bool false)], args := [d] }
  | _ => none }
def TreeOldWrongFalsely : Prop := treeOldRow.holds Try.pinned (OpenSpec.ofChange treeOldWrong)

/-- 'scrutinylaw08.TreeGrid': WHATEVER THE INPUT: true; the input reads as it did. -/
def treeGridSpec : ChangeSpec := { name := "treeGrid", fn := fun _ => fun
  | [d1, d2] => { results := [.lit (.bool true)], args := [d1, d2] }
  | _ => none }
def treeGridRow : OpenClaim := { program := "ytagaakajpblmjaa", sum := "91d1511acedb2bbc75bd943003bd7c7f3b73be93d29798fd66a2467f66efe743", func := "scrutiny/scrutinylaw08.TreeGrid", spec := "treeGrid", unfollowed := true, recurses := true, apart := false }
def TreeGridSaid : Prop := treeGridRow.holds Try.pinned (OpenSpec.ofChange treeGridSpec)

/-- ITS FALSE NEIGHBOUR: 'it returns false'. Refute it at one input. -/
def treeGridWrong : ChangeSpec := { name := "treeGrid", fn := fun _ => fun
  | [d1, d2] => { results := [.lit (.bool false)], args := [d1, d2] }
  | _ => none }
def TreeGridWrongFalsely : Prop := treeGridRow.holds Try.pinned (OpenSpec.ofChange treeGridWrong)

/-- 'scrutinylaw08.TreeSame': WHATEVER THE INPUT: true; the input reads as it did. -/
def treeSameSpec : ChangeSpec := { name := "treeSame", fn := fun _ => fun
  | [d1, d2, d3] => { results := [.lit (.bool true)], args := [d1, d2, d3] }
  | _ => none }
def treeSameRow : OpenClaim := { program := "ytagaakajpblmjaa", sum := "91d1511acedb2bbc75bd943003bd7c7f3b73be93d29798fd66a2467f66efe743", func := "scrutiny/scrutinylaw08.TreeSame", spec := "treeSame", unfollowed := true, recurses := true, apart := false }
def TreeSameSaid : Prop := treeSameRow.holds Try.pinned (OpenSpec.ofChange treeSameSpec)

/-- ITS FALSE NEIGHBOUR: 'it returns false'. Refute it at one input. -/
def treeSameWrong : ChangeSpec := { name := "treeSame", fn := fun _ => fun
  | [d1, d2, d3] => { results := [.lit (.bool false)], args := [d1, d2, d3] }
  | _ => none }
def TreeSameWrongFalsely : Prop := treeSameRow.holds Try.pinned (OpenSpec.ofChange treeSameWrong)

/- THE SECOND FORM. 'bulk': how many values and letters a reading holds, each counted each time it is reached (what is shared counts as often as it is met; a slice's spare places count too). A statement '..UptoSaid' is the law's where the arguments, and the package variables that the reading takes, are together of bulk at most 1048576: NARROWER than '..Said'. Prove '..Said' where nothing that the law and all that it calls make is longer than what came in: it says more and counts as full. Else prove '..UptoSaid'. A law counts once. -/
mutual
def uptoBulk {H : Type} : DataW H → Nat
  | .lit (.string bytes) => bytes.length + 1
  | .lit _ => 1
  | .nil => 1
  | .ptr d => uptoBulk d + 1
  | .slice elems spare => uptoBulkAll elems + uptoBulkAll spare + 1
  | .agg parts => uptoBulkAll parts + 1
  | .iface _ d => uptoBulk d + 1
  | .map entries => uptoBulkEntries entries + 1
  | .held _ => 1
def uptoBulkAll {H : Type} : List (DataW H) → Nat
  | [] => 0
  | d :: r => uptoBulk d + uptoBulkAll r
def uptoBulkEntries {H : Type} : List (Lit × DataW H) → Nat
  | [] => 0
  | x :: r => uptoBulkEntry x + uptoBulkEntries r
def uptoBulkEntry {H : Type} : Lit × DataW H → Nat
  | (.string bytes, d) => bytes.length + uptoBulk d + 1
  | (_, d) => uptoBulk d + 1
 end
def uptoSmall : (H : Type) → List (DataW H) → Bool := fun _ ds => decide (uptoBulkAll ds ≤ 1048576)
def OpenSpec.upto (s : _root_.Go.ChangeSpec) : _root_.Go.OpenSpec := { _root_.Go.OpenSpec.ofChange s with cond := some uptoSmall }

/-- 'scrutinylaw08.TreeTells', WHERE WHAT IT READS IS OF BULK AT MOST 1048576: true; the input reads as it did. -/
def treeTellsUptoRow : OpenClaim := { program := "ytagaakajpblmjaa", sum := "91d1511acedb2bbc75bd943003bd7c7f3b73be93d29798fd66a2467f66efe743", func := "scrutiny/scrutinylaw08.TreeTells", spec := "treeTells", unfollowed := true, recurses := true, apart := false, narrowed := true }
def TreeTellsUptoSaid : Prop := treeTellsUptoRow.holds Try.pinned (OpenSpec.upto treeTellsSpec)

/-- 'scrutinylaw08.TreeSizes', WHERE WHAT IT READS IS OF BULK AT MOST 1048576: true; the input reads as it did. -/
def treeSizesUptoRow : OpenClaim := { program := "ytagaakajpblmjaa", sum := "91d1511acedb2bbc75bd943003bd7c7f3b73be93d29798fd66a2467f66efe743", func := "scrutiny/scrutinylaw08.TreeSizes", spec := "treeSizes", unfollowed := true, recurses := true, apart := false, narrowed := true }
def TreeSizesUptoSaid : Prop := treeSizesUptoRow.holds Try.pinned (OpenSpec.upto treeSizesSpec)

/-- 'scrutinylaw08.TreeOld', WHERE WHAT IT READS IS OF BULK AT MOST 1048576: true; the input reads as it did. -/
def treeOldUptoRow : OpenClaim := { program := "ytagaakajpblmjaa", sum := "91d1511acedb2bbc75bd943003bd7c7f3b73be93d29798fd66a2467f66efe743", func := "scrutiny/scrutinylaw08.TreeOld", spec := "treeOld", unfollowed := true, recurses := true, apart := false, narrowed := true }
def TreeOldUptoSaid : Prop := treeOldUptoRow.holds Try.pinned (OpenSpec.upto treeOldSpec)

/-- 'scrutinylaw08.TreeGrid', WHERE WHAT IT READS IS OF BULK AT MOST 1048576: true; the input reads as it did. -/
def treeGridUptoRow : OpenClaim := { program := "ytagaakajpblmjaa", sum := "91d1511acedb2bbc75bd943003bd7c7f3b73be93d29798fd66a2467f66efe743", func := "scrutiny/scrutinylaw08.TreeGrid", spec := "treeGrid", unfollowed := true, recurses := true, apart := false, narrowed := true }
def TreeGridUptoSaid : Prop := treeGridUptoRow.holds Try.pinned (OpenSpec.upto treeGridSpec)

/-- 'scrutinylaw08.TreeSame', WHERE WHAT IT READS IS OF BULK AT MOST 1048576: true; the input reads as it did. -/
def treeSameUptoRow : OpenClaim := { program := "ytagaakajpblmjaa", sum := "91d1511acedb2bbc75bd943003bd7c7f3b73be93d29798fd66a2467f66efe743", func := "scrutiny/scrutinylaw08.TreeSame", spec := "treeSame", unfollowed := true, recurses := true, apart := false, narrowed := true }
def TreeSameUptoSaid : Prop := treeSameUptoRow.holds Try.pinned (OpenSpec.upto treeSameSpec)

end Rows
end Go.Proofs.Ytagaakajpblmjaa
