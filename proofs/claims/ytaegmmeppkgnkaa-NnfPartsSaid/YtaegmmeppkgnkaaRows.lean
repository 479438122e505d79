/-
  NARROWER THAN 'FOR EVERY INPUT', by the rows' own cells (each row's printed sentence says how): NnfTells: loops · NnfRight: loops · NnfParts: loops.
  DERIVED. THE GIVEN ROWS OF THIS SEAT. 4 by the template 'for every input the law returns true; each argument reads behind the call as it read before'; 0 by the template 'total and deterministic' (their statements: YtaegmmeppkgnkaaTotals.lean).
  GIVEN WITH THE SEED: the statements are not yours to turn. If you find one false, say at which input.
  Laid BY PROGRAM, IN A SANDBOX (cutbox-rows.mjs): the forced cells as the released guide's own fill.sh prints them over the translation 01cb45d8f3735e44… (all of the seat's roots in one cut). By AI agents, Wed Nov 11 2026. No macro, syntax, notation, axiom, sorry.
-/
import Derived.Test.YtaegmmeppkgnkaaChecked
import GoSem.Claim
import GoSem.ClaimJoined
import GoSem.ClaimMapViews
import Derived.JoinedTies
import Derived.KernelRfl
namespace Go.Proofs.Ytaegmmeppkgnkaa
/- THE CELL 'sum', in the pinned program and in every row, IS THE sha256 OF THE DUMP (.gsa) THAT YtaegmmeppkgnkaaProg.lean LOADS. Nothing in Lean hashes anything: it is a label: what it is worth is what the hold of that sum in a sandbox is worth. -/
noncomputable def Try.pinned : Pinned := { name := "ytaegmmeppkgnkaa", sum := "01cb45d8f3735e44a4dcc12afa3d8d3f2c11f430d130b7d52364873d98e37b1c", checked := Try.checked }
namespace Rows
def none {H : Type} : Left H := { results := [], args := [] }

/-- 'scrutinylaw16.NnfTells': WHATEVER THE INPUT: true; the input reads as it did. -/
def nnfTellsSpec : ChangeSpec := { name := "nnfTells", fn := fun _ => fun
  | [d] => { results := [.lit (.bool true)], args := [d] }
  | _ => none }
def nnfTellsRow : OpenClaim := { program := "ytaegmmeppkgnkaa", sum := "01cb45d8f3735e44a4dcc12afa3d8d3f2c11f430d130b7d52364873d98e37b1c", func := "scrutiny/scrutinylaw16.NnfTells", spec := "nnfTells", unfollowed := true, recurses := true, loops := true, apart := false }
def NnfTellsSaid : Prop := nnfTellsRow.holds Try.pinned (OpenSpec.ofChange nnfTellsSpec)

/-- ITS FALSE NEIGHBOUR: 'it returns false'. Refute it at one input. -/
def nnfTellsWrong : ChangeSpec := { name := "nnfTells", fn := fun _ => fun
  | [d] => { results := [.lit (.bool false)], args := [d] }
  | _ => none }
def NnfTellsWrongFalsely : Prop := nnfTellsRow.holds Try.pinned (OpenSpec.ofChange nnfTellsWrong)

/-- 'scrutinylaw16.NnfRight': WHATEVER THE INPUT: true; the input reads as it did. -/
def nnfRightSpec : ChangeSpec := { name := "nnfRight", fn := fun _ => fun
  | [d] => { results := [.lit (.bool true)], args := [d] }
  | _ => none }
def nnfRightRow : OpenClaim := { program := "ytaegmmeppkgnkaa", sum := "01cb45d8f3735e44a4dcc12afa3d8d3f2c11f430d130b7d52364873d98e37b1c", func := "scrutiny/scrutinylaw16.NnfRight", spec := "nnfRight", unfollowed := true, recurses := true, loops := true, apart := false }
def NnfRightSaid : Prop := nnfRightRow.holds Try.pinned (OpenSpec.ofChange nnfRightSpec)

/-- ITS FALSE NEIGHBOUR: 'it returns false'. Refute it at one input. -/
def nnfRightWrong : ChangeSpec := { name := "nnfRight", fn := fun _ => fun
  | [d] => { results := [.lit (.bool false)], args := [d] }
  | _ => none }
def NnfRightWrongFalsely : Prop := nnfRightRow.holds Try.pinned (OpenSpec.ofChange nnfRightWrong)

/-- 'scrutinylaw16.NnfParts': WHATEVER THE INPUT: true; the input reads as it did. -/
def nnfPartsSpec : ChangeSpec := { name := "nnfParts", fn := fun _ => fun
  | [d1, d2, d3] => { results := [.lit (.bool true)], args := [d1, d2, d3] }
  | _ => none }
def nnfPartsRow : OpenClaim := { program := "ytaegmmeppkgnkaa", sum := "01cb45d8f3735e44a4dcc12afa3d8d3f2c11f430d130b7d52364873d98e37b1c", func := "scrutiny/scrutinylaw16.NnfParts", spec := "nnfParts", unfollowed := true, recurses := true, loops := true, apart := false }
def NnfPartsSaid : Prop := nnfPartsRow.holds Try.pinned (OpenSpec.ofChange nnfPartsSpec)

/-- ITS FALSE NEIGHBOUR: 'it returns false'. Refute it at one input. -/
def nnfPartsWrong : ChangeSpec := { name := "nnfParts", fn := fun _ => fun
  | [d1, d2, d3] => { results := [.lit (.bool false)], args := [d1, d2, d3] }
  | _ => none }
def NnfPartsWrongFalsely : Prop := nnfPartsRow.holds Try.pinned (OpenSpec.ofChange nnfPartsWrong)

/-- 'scrutinylaw16.NnfBig': WHATEVER THE INPUT: true; the input reads as it did. -/
def nnfBigSpec : ChangeSpec := { name := "nnfBig", fn := fun _ => fun
  | [d] => { results := [.lit (.bool true)], args := [d] }
  | _ => none }
def nnfBigRow : OpenClaim := { program := "ytaegmmeppkgnkaa", sum := "01cb45d8f3735e44a4dcc12afa3d8d3f2c11f430d130b7d52364873d98e37b1c", func := "scrutiny/scrutinylaw16.NnfBig", spec := "nnfBig", unfollowed := true, recurses := true, apart := false }
def NnfBigSaid : Prop := nnfBigRow.holds Try.pinned (OpenSpec.ofChange nnfBigSpec)

/-- ITS FALSE NEIGHBOUR: 'it returns false'. Refute it at one input. -/
def nnfBigWrong : ChangeSpec := { name := "nnfBig", fn := fun _ => fun
  | [d] => { results := [.lit (.bool false)], args := [d] }
  | _ => none }
def NnfBigWrongFalsely : Prop := nnfBigRow.holds Try.pinned (OpenSpec.ofChange nnfBigWrong)

/- THE SECOND FORM. 'bulk': how many values and letters a reading holds, each counted each time it is reached (what is shared counts as often as it is met; a slice's spare places count too). A statement '..UptoSaid' is the law's where the arguments, and the package variables that the reading takes, are together of bulk at most 1048576: NARROWER than '..Said'. Prove '..Said' where nothing that the law and all that it calls make is longer than what came in: it says more and counts as full. Else prove '..UptoSaid'. A law counts once. -/
mutual
def uptoBulk {H : Type} : DataW H → Nat
  | .lit (.string bytes) => bytes.length + 1
  | .lit _ => 1
  | .nil => 1
  | .ptr d => uptoBulk d + 1
  | .slice elems spare => uptoBulkAll elems + uptoBulkAll spare + 1
  | .agg parts => uptoBulkAll parts + 1
  | .iface _ d => uptoBulk d + 1
  | .map entries => uptoBulkEntries entries + 1
  | .held _ => 1
def uptoBulkAll {H : Type} : List (DataW H) → Nat
  | [] => 0
  | d :: r => uptoBulk d + uptoBulkAll r
def uptoBulkEntries {H : Type} : List (Lit × DataW H) → Nat
  | [] => 0
  | x :: r => uptoBulkEntry x + uptoBulkEntries r
def uptoBulkEntry {H : Type} : Lit × DataW H → Nat
  | (.string bytes, d) => bytes.length + uptoBulk d + 1
  | (_, d) => uptoBulk d + 1
 end
def uptoSmall : (H : Type) → List (DataW H) → Bool := fun _ ds => decide (uptoBulkAll ds ≤ 1048576)
def OpenSpec.upto (s : _root_.Go.ChangeSpec) : _root_.Go.OpenSpec := { _root_.Go.OpenSpec.ofChange s with cond := some uptoSmall }

/-- 'scrutinylaw16.NnfTells', WHERE WHAT IT READS IS OF BULK AT MOST 1048576: true; the input reads as it did. -/
def nnfTellsUptoRow : OpenClaim := { program := "ytaegmmeppkgnkaa", sum := "01cb45d8f3735e44a4dcc12afa3d8d3f2c11f430d130b7d52364873d98e37b1c", func := "scrutiny/scrutinylaw16.NnfTells", spec := "nnfTells", unfollowed := true, recurses := true, loops := true, apart := false, narrowed := true }
def NnfTellsUptoSaid : Prop := nnfTellsUptoRow.holds Try.pinned (OpenSpec.upto nnfTellsSpec)

/-- 'scrutinylaw16.NnfRight', WHERE WHAT IT READS IS OF BULK AT MOST 1048576: true; the input reads as it did. -/
def nnfRightUptoRow : OpenClaim := { program := "ytaegmmeppkgnkaa", sum := "01cb45d8f3735e44a4dcc12afa3d8d3f2c11f430d130b7d52364873d98e37b1c", func := "scrutiny/scrutinylaw16.NnfRight", spec := "nnfRight", unfollowed := true, recurses := true, loops := true, apart := false, narrowed := true }
def NnfRightUptoSaid : Prop := nnfRightUptoRow.holds Try.pinned (OpenSpec.upto nnfRightSpec)

/-- 'scrutinylaw16.NnfParts', WHERE WHAT IT READS IS OF BULK AT MOST 1048576: true; the input reads as it did. -/
def nnfPartsUptoRow : OpenClaim := { program := "ytaegmmeppkgnkaa", sum := "01cb45d8f3735e44a4dcc12afa3d8d3f2c11f430d130b7d52364873d98e37b1c", func := "scrutiny/scrutinylaw16.NnfParts", spec := "nnfParts", unfollowed := true, recurses := true, loops := true, apart := false, narrowed := true }
def NnfPartsUptoSaid : Prop := nnfPartsUptoRow.holds Try.pinned (OpenSpec.upto nnfPartsSpec)

/-- 'scrutinylaw16.NnfBig', WHERE WHAT IT READS IS OF BULK AT MOST 1048576: true; the input reads as it did. -/
def nnfBigUptoRow : OpenClaim := { program := "ytaegmmeppkgnkaa", sum := "01cb45d8f3735e44a4dcc12afa3d8d3f2c11f430d130b7d52364873d98e37b1c", func := "scrutiny/scrutinylaw16.NnfBig", spec := "nnfBig", unfollowed := true, recurses := true, apart := false, narrowed := true }
def NnfBigUptoSaid : Prop := nnfBigUptoRow.holds Try.pinned (OpenSpec.upto nnfBigSpec)

end Rows
end Go.Proofs.Ytaegmmeppkgnkaa
