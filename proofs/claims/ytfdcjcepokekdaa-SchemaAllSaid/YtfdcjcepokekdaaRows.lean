/-
  No cell of these rows narrows 'for every input' (looked for: loops, veiled, ifaces, maps, wideKeys, modest, calm, conditions, laid).
  DERIVED. THE GIVEN ROWS OF THIS SEAT. 6 by the template 'for every input the law returns true; each argument reads behind the call as it read before'; 0 by the template 'total and deterministic' (their statements: YtfdcjcepokekdaaTotals.lean).
  GIVEN WITH THE SEED: the statements are not yours to turn. If you find one false, say at which input.
  Laid BY PROGRAM, IN A SANDBOX (cutbox-rows.mjs): the forced cells as the released guide's own fill.sh prints them over the translation 4e7ac9c7c8d0bfc5… (all of the seat's roots in one cut). By AI agents, Wed Nov 11 2026. No macro, syntax, notation, axiom, sorry.
-/
import Derived.Test.YtfdcjcepokekdaaChecked
import GoSem.Claim
import GoSem.ClaimJoined
import GoSem.ClaimMapViews
import Derived.JoinedTies
import Derived.KernelRfl
namespace Go.Proofs.Ytfdcjcepokekdaa
/- THE CELL 'sum', in the pinned program and in every row, IS THE sha256 OF THE DUMP (.gsa) THAT YtfdcjcepokekdaaProg.lean LOADS. Nothing in Lean hashes anything: it is a label: what it is worth is what the hold of that sum in a sandbox is worth. -/
noncomputable def Try.pinned : Pinned := { name := "ytfdcjcepokekdaa", sum := "4e7ac9c7c8d0bfc58bbc5846e3f772784d1b0bab696a9935c802976b75613431", checked := Try.checked }
namespace Rows
def none {H : Type} : Left H := { results := [], args := [] }

/-- 'scrutinylaw02.SchemaTells': WHATEVER THE INPUT: true; the input reads as it did. -/
def schemaTellsSpec : ChangeSpec := { name := "schemaTells", fn := fun _ => fun
  | [d1, d2, d3] => { results := [.lit (.bool true)], args := [d1, d2, d3] }
  | _ => none }
def schemaTellsRow : OpenClaim := { program := "ytfdcjcepokekdaa", sum := "4e7ac9c7c8d0bfc58bbc5846e3f772784d1b0bab696a9935c802976b75613431", func := "scrutiny/scrutinylaw02.SchemaTells", spec := "schemaTells", unfollowed := true, recurses := true, apart := false }
def SchemaTellsSaid : Prop := schemaTellsRow.holds Try.pinned (OpenSpec.ofChange schemaTellsSpec)

/-- ITS FALSE NEIGHBOUR: 'it returns false'. Refute it at one input. -/
def schemaTellsWrong : ChangeSpec := { name := "schemaTells", fn := fun _ => fun
  | [d1, d2, d3] => { results := [.lit (.bool false)], args := [d1, d2, d3] }
  | _ => none }
def SchemaTellsWrongFalsely : Prop := schemaTellsRow.holds Try.pinned (OpenSpec.ofChange schemaTellsWrong)

/-- 'scrutinylaw02.SchemaBack': WHATEVER THE INPUT: true; the input reads as it did. -/
def schemaBackSpec : ChangeSpec := { name := "schemaBack", fn := fun _ => fun
  | [d1, d2, d3] => { results := [.lit (.bool true)], args := [d1, d2, d3] }
  | _ => none }
def schemaBackRow : OpenClaim := { program := "ytfdcjcepokekdaa", sum := "4e7ac9c7c8d0bfc58bbc5846e3f772784d1b0bab696a9935c802976b75613431", func := "scrutiny/scrutinylaw02.SchemaBack", spec := "schemaBack", unfollowed := true, recurses := true, apart := false }
def SchemaBackSaid : Prop := schemaBackRow.holds Try.pinned (OpenSpec.ofChange schemaBackSpec)

/-- ITS FALSE NEIGHBOUR: 'it returns false'. Refute it at one input. -/
def schemaBackWrong : ChangeSpec := { name := "schemaBack", fn := fun _ => fun
  | [d1, d2, d3] => { results := [.lit (.bool false)], args := [d1, d2, d3] }
  | _ => none }
def SchemaBackWrongFalsely : Prop := schemaBackRow.holds Try.pinned (OpenSpec.ofChange schemaBackWrong)

/-- 'scrutinylaw02.SchemaAlike': WHATEVER THE INPUT: true; the input reads as it did. -/
def schemaAlikeSpec : ChangeSpec := { name := "schemaAlike", fn := fun _ => fun
  | [d1, d2, d3] => { results := [.lit (.bool true)], args := [d1, d2, d3] }
  | _ => none }
def schemaAlikeRow : OpenClaim := { program := "ytfdcjcepokekdaa", sum := "4e7ac9c7c8d0bfc58bbc5846e3f772784d1b0bab696a9935c802976b75613431", func := "scrutiny/scrutinylaw02.SchemaAlike", spec := "schemaAlike", unfollowed := true, recurses := true, apart := false }
def SchemaAlikeSaid : Prop := schemaAlikeRow.holds Try.pinned (OpenSpec.ofChange schemaAlikeSpec)

/-- ITS FALSE NEIGHBOUR: 'it returns false'. Refute it at one input. -/
def schemaAlikeWrong : ChangeSpec := { name := "schemaAlike", fn := fun _ => fun
  | [d1, d2, d3] => { results := [.lit (.bool false)], args := [d1, d2, d3] }
  | _ => none }
def SchemaAlikeWrongFalsely : Prop := schemaAlikeRow.holds Try.pinned (OpenSpec.ofChange schemaAlikeWrong)

/-- 'scrutinylaw02.SchemaAll': WHATEVER THE INPUT: true; the input reads as it did. -/
def schemaAllSpec : ChangeSpec := { name := "schemaAll", fn := fun _ => fun
  | [d1, d2] => { results := [.lit (.bool true)], args := [d1, d2] }
  | _ => none }
def schemaAllRow : OpenClaim := { program := "ytfdcjcepokekdaa", sum := "4e7ac9c7c8d0bfc58bbc5846e3f772784d1b0bab696a9935c802976b75613431", func := "scrutiny/scrutinylaw02.SchemaAll", spec := "schemaAll", unfollowed := true, recurses := true, apart := false }
def SchemaAllSaid : Prop := schemaAllRow.holds Try.pinned (OpenSpec.ofChange schemaAllSpec)

/-- ITS FALSE NEIGHBOUR: 'it returns false'. Refute it at one input. -/
def schemaAllWrong : ChangeSpec := { name := "schemaAll", fn := fun _ => fun
  | [d1, d2] => { results := [.lit (.bool false)], args := [d1, d2] }
  | _ => none }
def SchemaAllWrongFalsely : Prop := schemaAllRow.holds Try.pinned (OpenSpec.ofChange schemaAllWrong)

/-- 'scrutinylaw02.SchemaBounds': WHATEVER THE INPUT: true; the input reads as it did. -/
def schemaBoundsSpec : ChangeSpec := { name := "schemaBounds", fn := fun _ => fun
  | [d1, d2] => { results := [.lit (.bool true)], args := [d1, d2] }
  | _ => none }
def schemaBoundsRow : OpenClaim := { program := "ytfdcjcepokekdaa", sum := "4e7ac9c7c8d0bfc58bbc5846e3f772784d1b0bab696a9935c802976b75613431", func := "scrutiny/scrutinylaw02.SchemaBounds", spec := "schemaBounds", unfollowed := true, recurses := true, apart := false }
def SchemaBoundsSaid : Prop := schemaBoundsRow.holds Try.pinned (OpenSpec.ofChange schemaBoundsSpec)

/-- ITS FALSE NEIGHBOUR: 'it returns false'. Refute it at one input. -/
def schemaBoundsWrong : ChangeSpec := { name := "schemaBounds", fn := fun _ => fun
  | [d1, d2] => { results := [.lit (.bool false)], args := [d1, d2] }
  | _ => none }
def SchemaBoundsWrongFalsely : Prop := schemaBoundsRow.holds Try.pinned (OpenSpec.ofChange schemaBoundsWrong)

/-- 'scrutinylaw02.SchemaJoins': WHATEVER THE INPUT: true; the input reads as it did. -/
def schemaJoinsSpec : ChangeSpec := { name := "schemaJoins", fn := fun _ => fun
  | [d] => { results := [.lit (.bool true)], args := [d] }
  | _ => none }
def schemaJoinsRow : OpenClaim := { program := "ytfdcjcepokekdaa", sum := "4e7ac9c7c8d0bfc58bbc5846e3f772784d1b0bab696a9935c802976b75613431", func := "scrutiny/scrutinylaw02.SchemaJoins", spec := "schemaJoins", unfollowed := true, recurses := true, apart := false }
def SchemaJoinsSaid : Prop := schemaJoinsRow.holds Try.pinned (OpenSpec.ofChange schemaJoinsSpec)

/-- ITS FALSE NEIGHBOUR: 'it returns false'. Refute it at one input. -/
def schemaJoinsWrong : ChangeSpec := { name := "schemaJoins", fn := fun _ => fun
  | [d] => { results := [.lit (.bool false)], args := [d] }
  | _ => none }
def SchemaJoinsWrongFalsely : Prop := schemaJoinsRow.holds Try.pinned (OpenSpec.ofChange schemaJoinsWrong)

/- THE SECOND FORM. 'bulk': how many values and letters a reading holds, each counted each time it is reached (what is shared counts as often as it is met; a slice's spare places count too). A statement '..UptoSaid' is the law's where the arguments, and the package variables that the reading takes, are together of bulk at most 1048576: NARROWER than '..Said'. Prove '..Said' where nothing that the law and all that it calls make is longer than what came in: it says more and counts as full. Else prove '..UptoSaid'. A law counts once. -/
mutual
def uptoBulk {H : Type} : DataW H → Nat
  | .lit (.string bytes) => bytes.length + 1
  | .lit _ => 1
  | .nil => 1
  | .ptr d => uptoBulk d + 1
  | .slice elems spare => uptoBulkAll elems + uptoBulkAll spare + 1
  | .agg parts => uptoBulkAll parts + 1
  | .iface _ d => uptoBulk d + 1
  | .map entries => uptoBulkEntries entries + 1
  | .held _ => 1
def uptoBulkAll {H : Type} : List (DataW H) → Nat
  | [] => 0
  | d :: r => uptoBulk d + uptoBulkAll r
def uptoBulkEntries {H : Type} : List (Lit × DataW H) → Nat
  | [] => 0
  | x :: r => uptoBulkEntry x + uptoBulkEntries r
def uptoBulkEntry {H : Type} : Lit × DataW H → Nat
  | (.string bytes, d) => bytes.length + uptoBulk d + 1
  | (_, d) => uptoBulk d + 1
 end
def uptoSmall : (H : Type) → List (DataW H) → Bool := fun _ ds => decide (uptoBulkAll ds ≤ 1048576)
def OpenSpec.upto (s : _root_.Go.ChangeSpec) : _root_.Go.OpenSpec := { _root_.Go.OpenSpec.ofChange s with cond := some uptoSmall }

/-- 'scrutinylaw02.SchemaTells', WHERE WHAT IT READS IS OF BULK AT MOST 1048576: true; the input reads as it did. -/
def schemaTellsUptoRow : OpenClaim := { program := "ytfdcjcepokekdaa", sum := "4e7ac9c7c8d0bfc58bbc5846e3f772784d1b0bab696a9935c802976b75613431", func := "scrutiny/scrutinylaw02.SchemaTells", spec := "schemaTells", unfollowed := true, recurses := true, apart := false, narrowed := true }
def SchemaTellsUptoSaid : Prop := schemaTellsUptoRow.holds Try.pinned (OpenSpec.upto schemaTellsSpec)

/-- 'scrutinylaw02.SchemaBack', WHERE WHAT IT READS IS OF BULK AT MOST 1048576: true; the input reads as it did. -/
def schemaBackUptoRow : OpenClaim := { program := "ytfdcjcepokekdaa", sum := "4e7ac9c7c8d0bfc58bbc5846e3f772784d1b0bab696a9935c802976b75613431", func := "scrutiny/scrutinylaw02.SchemaBack", spec := "schemaBack", unfollowed := true, recurses := true, apart := false, narrowed := true }
def SchemaBackUptoSaid : Prop := schemaBackUptoRow.holds Try.pinned (OpenSpec.upto schemaBackSpec)

/-- 'scrutinylaw02.SchemaAlike', WHERE WHAT IT READS IS OF BULK AT MOST 1048576: true; the input reads as it did. -/
def schemaAlikeUptoRow : OpenClaim := { program := "ytfdcjcepokekdaa", sum := "4e7ac9c7c8d0bfc58bbc5846e3f772784d1b0bab696a9935c802976b75613431", func := "scrutiny/scrutinylaw02.SchemaAlike", spec := "schemaAlike", unfollowed := true, recurses := true, apart := false, narrowed := true }
def SchemaAlikeUptoSaid : Prop := schemaAlikeUptoRow.holds Try.pinned (OpenSpec.upto schemaAlikeSpec)

/-- 'scrutinylaw02.SchemaAll', WHERE WHAT IT READS IS OF BULK AT MOST 1048576: true; the input reads as it did. -/
def schemaAllUptoRow : OpenClaim := { program := "ytfdcjcepokekdaa", sum := "4e7ac9c7c8d0bfc58bbc5846e3f772784d1b0bab696a9935c802976b75613431", func := "scrutiny/scrutinylaw02.SchemaAll", spec := "schemaAll", unfollowed := true, recurses := true, apart := false, narrowed := true }
def SchemaAllUptoSaid : Prop := schemaAllUptoRow.holds Try.pinned (OpenSpec.upto schemaAllSpec)

/-- 'scrutinylaw02.SchemaBounds', WHERE WHAT IT READS IS OF BULK AT MOST 1048576: true; the input reads as it did. -/
def schemaBoundsUptoRow : OpenClaim := { program := "ytfdcjcepokekdaa", sum := "4e7ac9c7c8d0bfc58bbc5846e3f772784d1b0bab696a9935c802976b75613431", func := "scrutiny/scrutinylaw02.SchemaBounds", spec := "schemaBounds", unfollowed := true, recurses := true, apart := false, narrowed := true }
def SchemaBoundsUptoSaid : Prop := schemaBoundsUptoRow.holds Try.pinned (OpenSpec.upto schemaBoundsSpec)

/-- 'scrutinylaw02.SchemaJoins', WHERE WHAT IT READS IS OF BULK AT MOST 1048576: true; the input reads as it did. -/
def schemaJoinsUptoRow : OpenClaim := { program := "ytfdcjcepokekdaa", sum := "4e7ac9c7c8d0bfc58bbc5846e3f772784d1b0bab696a9935c802976b75613431", func := "scrutiny/scrutinylaw02.SchemaJoins", spec := "schemaJoins", unfollowed := true, recurses := true, apart := false, narrowed := true }
def SchemaJoinsUptoSaid : Prop := schemaJoinsUptoRow.holds Try.pinned (OpenSpec.upto schemaJoinsSpec)

end Rows
end Go.Proofs.Ytfdcjcepokekdaa
