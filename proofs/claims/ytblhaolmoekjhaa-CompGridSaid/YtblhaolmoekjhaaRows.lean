/-
  No cell of these rows narrows 'for every input' (looked for: loops, veiled, ifaces, maps, wideKeys, modest, calm, conditions, laid).
  DERIVED. THE GIVEN ROWS OF THIS SEAT. 4 by the template 'for every input the law returns true; each argument reads behind the call as it read before'; 0 by the template 'total and deterministic' (their statements: YtblhaolmoekjhaaTotals.lean).
  GIVEN WITH THE SEED: the statements are not yours to turn. If you find one false, say at which input.
  Laid BY PROGRAM, IN A SANDBOX (cutbox-rows.mjs): the forced cells as the released guide's own fill.sh prints them over the translation 3914c8c3a7d9106c… (all of the seat's roots in one cut). By AI agents, Wed Nov 11 2026. No macro, syntax, notation, axiom, sorry.
-/
import Derived.Test.YtblhaolmoekjhaaChecked
import GoSem.Claim
import GoSem.ClaimJoined
import GoSem.ClaimMapViews
import Derived.JoinedTies
import Derived.KernelRfl
namespace Go.Proofs.Ytblhaolmoekjhaa
/- THE CELL 'sum', in the pinned program and in every row, IS THE sha256 OF THE DUMP (.gsa) THAT YtblhaolmoekjhaaProg.lean LOADS. Nothing in Lean hashes anything: it is a label: what it is worth is what the hold of that sum in a sandbox is worth. -/
noncomputable def Try.pinned : Pinned := { name := "ytblhaolmoekjhaa", sum := "3914c8c3a7d9106c114b8b3b2d9f899565c34db1594520ffce5399bfc8d49534", checked := Try.checked }
namespace Rows
def none {H : Type} : Left H := { results := [], args := [] }

/-- 'scrutinylaw07.CompTells': WHATEVER THE INPUT: true; the input reads as it did. -/
def compTellsSpec : ChangeSpec := { name := "compTells", fn := fun _ => fun
  | [d1, d2, d3] => { results := [.lit (.bool true)], args := [d1, d2, d3] }
  | _ => none }
def compTellsRow : OpenClaim := { program := "ytblhaolmoekjhaa", sum := "3914c8c3a7d9106c114b8b3b2d9f899565c34db1594520ffce5399bfc8d49534", func := "scrutiny/scrutinylaw07.CompTells", spec := "compTells", unfollowed := true, recurses := true, apart := false }
def CompTellsSaid : Prop := compTellsRow.holds Try.pinned (OpenSpec.ofChange compTellsSpec)

/-- ITS FALSE NEIGHBOUR: 'it returns false'. Refute it at one input. -/
def compTellsWrong : ChangeSpec := { name := "compTells", fn := fun _ => fun
  | [d1, d2, d3] => { results := [.lit (.bool false)], args := [d1, d2, d3] }
  | _ => none }
def CompTellsWrongFalsely : Prop := compTellsRow.holds Try.pinned (OpenSpec.ofChange compTellsWrong)

/-- 'scrutinylaw07.CompParts': WHATEVER THE INPUT: true; the input reads as it did. -/
def compPartsSpec : ChangeSpec := { name := "compParts", fn := fun _ => fun
  | [d1, d2, d3] => { results := [.lit (.bool true)], args := [d1, d2, d3] }
  | _ => none }
def compPartsRow : OpenClaim := { program := "ytblhaolmoekjhaa", sum := "3914c8c3a7d9106c114b8b3b2d9f899565c34db1594520ffce5399bfc8d49534", func := "scrutiny/scrutinylaw07.CompParts", spec := "compParts", unfollowed := true, recurses := true, apart := false }
def CompPartsSaid : Prop := compPartsRow.holds Try.pinned (OpenSpec.ofChange compPartsSpec)

/-- ITS FALSE NEIGHBOUR: 'it returns false'. Refute it at one input. -/
def compPartsWrong : ChangeSpec := { name := "compParts", fn := fun _ => fun
  | [d1, d2, d3] => { results := [.lit (.bool false)], args := [d1, d2, d3] }
  | _ => none }
def CompPartsWrongFalsely : Prop := compPartsRow.holds Try.pinned (OpenSpec.ofChange compPartsWrong)

/-- 'scrutinylaw07.CompOld': WHATEVER THE INPUT: true; the input reads as it did. -/
def compOldSpec : ChangeSpec := { name := "compOld", fn := fun _ => fun
  | [d] => { results := [.lit (.bool true)], args := [d] }
  | _ => none }
def compOldRow : OpenClaim := { program := "ytblhaolmoekjhaa", sum := "3914c8c3a7d9106c114b8b3b2d9f899565c34db1594520ffce5399bfc8d49534", func := "scrutiny/scrutinylaw07.CompOld", spec := "compOld", unfollowed := true, recurses := true, apart := false }
def CompOldSaid : Prop := compOldRow.holds Try.pinned (OpenSpec.ofChange compOldSpec)

/-- ITS FALSE NEIGHBOUR: 'it returns false'. Refute it at one input. -/
def compOldWrong : ChangeSpec := { name := "compOld", fn := fun _ => fun
  | [d] => { results := [.lit (.bool false)], args := [d] }
  | _ => none }
def CompOldWrongFalsely : Prop := compOldRow.holds Try.pinned (OpenSpec.ofChange compOldWrong)

/-- 'scrutinylaw07.CompGrid': WHATEVER THE INPUT: true; the input reads as it did. -/
def compGridSpec : ChangeSpec := { name := "compGrid", fn := fun _ => fun
  | [d1, d2] => { results := [.lit (.bool true)], args := [d1, d2] }
  | _ => none }
def compGridRow : OpenClaim := { program := "ytblhaolmoekjhaa", sum := "3914c8c3a7d9106c114b8b3b2d9f899565c34db1594520ffce5399bfc8d49534", func := "scrutiny/scrutinylaw07.CompGrid", spec := "compGrid", unfollowed := true, recurses := true, apart := false }
def CompGridSaid : Prop := compGridRow.holds Try.pinned (OpenSpec.ofChange compGridSpec)

/-- ITS FALSE NEIGHBOUR: 'it returns false'. Refute it at one input. -/
def compGridWrong : ChangeSpec := { name := "compGrid", fn := fun _ => fun
  | [d1, d2] => { results := [.lit (.bool false)], args := [d1, d2] }
  | _ => none }
def CompGridWrongFalsely : Prop := compGridRow.holds Try.pinned (OpenSpec.ofChange compGridWrong)

/- THE SECOND FORM. 'bulk': how many values and letters a reading holds, each counted each time it is reached (what is shared counts as often as it is met; a slice's spare places count too). A statement '..UptoSaid' is the law's where the arguments, and the package variables that the reading takes, are together of bulk at most 1048576: NARROWER than '..Said'. Prove '..Said' where nothing that the law and all that it calls make is longer than what came in: it says more and counts as full. Else prove '..UptoSaid'. A law counts once. -/
mutual
def uptoBulk {H : Type} : DataW H → Nat
  | .lit (.string bytes) => bytes.length + 1
  | .lit _ => 1
  | .nil => 1
  | .ptr d => uptoBulk d + 1
  | .slice elems spare => uptoBulkAll elems + uptoBulkAll spare + 1
  | .agg parts => uptoBulkAll parts + 1
  | .iface _ d => uptoBulk d + 1
  | .map entries => uptoBulkEntries entries + 1
  | .held _ => 1
def uptoBulkAll {H : Type} : List (DataW H) → Nat
  | [] => 0
  | d :: r => uptoBulk d + uptoBulkAll r
def uptoBulkEntries {H : Type} : List (Lit × DataW H) → Nat
  | [] => 0
  | x :: r => uptoBulkEntry x + uptoBulkEntries r
def uptoBulkEntry {H : Type} : Lit × DataW H → Nat
  | (.string bytes, d) => bytes.length + uptoBulk d + 1
  | (_, d) => uptoBulk d + 1
 end
def uptoSmall : (H : Type) → List (DataW H) → Bool := fun _ ds => decide (uptoBulkAll ds ≤ 1048576)
def OpenSpec.upto (s : _root_.Go.ChangeSpec) : _root_.Go.OpenSpec := { _root_.Go.OpenSpec.ofChange s with cond := some uptoSmall }

/-- 'scrutinylaw07.CompTells', WHERE WHAT IT READS IS OF BULK AT MOST 1048576: true; the input reads as it did. -/
def compTellsUptoRow : OpenClaim := { program := "ytblhaolmoekjhaa", sum := "3914c8c3a7d9106c114b8b3b2d9f899565c34db1594520ffce5399bfc8d49534", func := "scrutiny/scrutinylaw07.CompTells", spec := "compTells", unfollowed := true, recurses := true, apart := false, narrowed := true }
def CompTellsUptoSaid : Prop := compTellsUptoRow.holds Try.pinned (OpenSpec.upto compTellsSpec)

/-- 'scrutinylaw07.CompParts', WHERE WHAT IT READS IS OF BULK AT MOST 1048576: true; the input reads as it did. -/
def compPartsUptoRow : OpenClaim := { program := "ytblhaolmoekjhaa", sum := "3914c8c3a7d9106c114b8b3b2d9f899565c34db1594520ffce5399bfc8d49534", func := "scrutiny/scrutinylaw07.CompParts", spec := "compParts", unfollowed := true, recurses := true, apart := false, narrowed := true }
def CompPartsUptoSaid : Prop := compPartsUptoRow.holds Try.pinned (OpenSpec.upto compPartsSpec)

/-- 'scrutinylaw07.CompOld', WHERE WHAT IT READS IS OF BULK AT MOST 1048576: true; the input reads as it did. -/
def compOldUptoRow : OpenClaim := { program := "ytblhaolmoekjhaa", sum := "3914c8c3a7d9106c114b8b3b2d9f899565c34db1594520ffce5399bfc8d49534", func := "scrutiny/scrutinylaw07.CompOld", spec := "compOld", unfollowed := true, recurses := true, apart := false, narrowed := true }
def CompOldUptoSaid : Prop := compOldUptoRow.holds Try.pinned (OpenSpec.upto compOldSpec)

/-- 'scrutinylaw07.CompGrid', WHERE WHAT IT READS IS OF BULK AT MOST 1048576: true; the input reads as it did. -/
def compGridUptoRow : OpenClaim := { program := "ytblhaolmoekjhaa", sum := "3914c8c3a7d9106c114b8b3b2d9f899565c34db1594520ffce5399bfc8d49534", func := "scrutiny/scrutinylaw07.CompGrid", spec := "compGrid", unfollowed := true, recurses := true, apart := false, narrowed := true }
def CompGridUptoSaid : Prop := compGridUptoRow.holds Try.pinned (OpenSpec.upto compGridSpec)

end Rows
end Go.Proofs.Ytblhaolmoekjhaa
