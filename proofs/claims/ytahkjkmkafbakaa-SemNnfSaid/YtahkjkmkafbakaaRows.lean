/-
  NARROWER THAN 'FOR EVERY INPUT', by the rows' own cells (each row's printed sentence says how): SemTells: loops · SemUnrolls: loops · SemLaws: loops · SemLoops: loops · SemSpreads: loops · SemNnf: loops.
  DERIVED. THE GIVEN ROWS OF THIS SEAT. 6 by the template 'for every input the law returns true; each argument reads behind the call as it read before'; 0 by the template 'total and deterministic' (their statements: YtahkjkmkafbakaaTotals.lean).
  GIVEN WITH THE SEED: the statements are not yours to turn. If you find one false, say at which input.
  Laid BY PROGRAM, IN A SANDBOX (cutbox-rows.mjs): the forced cells as the released guide's own fill.sh prints them over the translation 6a9dabbd718040bf… (all of the seat's roots in one cut). By AI agents, Wed Nov 11 2026. No macro, syntax, notation, axiom, sorry.
-/
import Derived.Test.YtahkjkmkafbakaaChecked
import GoSem.Claim
import GoSem.ClaimJoined
import GoSem.ClaimMapViews
import Derived.JoinedTies
import Derived.KernelRfl
namespace Go.Proofs.Ytahkjkmkafbakaa
/- THE CELL 'sum', in the pinned program and in every row, IS THE sha256 OF THE DUMP (.gsa) THAT YtahkjkmkafbakaaProg.lean LOADS. Nothing in Lean hashes anything: it is a label: what it is worth is what the hold of that sum in a sandbox is worth. -/
noncomputable def Try.pinned : Pinned := { name := "ytahkjkmkafbakaa", sum := "6a9dabbd718040bf477ee234edf728590a252bf0106281664d29ddb37c8af7f5", checked := Try.checked }
namespace Rows
def none {H : Type} : Left H := { results := [], args := [] }

/-- 'scrutinylaw17.SemTells': WHATEVER THE INPUT: true; the input reads as it did. -/
def semTellsSpec : ChangeSpec := { name := "semTells", fn := fun _ => fun
  | [d1, d2] => { results := [.lit (.bool true)], args := [d1, d2] }
  | _ => none }
def semTellsRow : OpenClaim := { program := "ytahkjkmkafbakaa", sum := "6a9dabbd718040bf477ee234edf728590a252bf0106281664d29ddb37c8af7f5", func := "scrutiny/scrutinylaw17.SemTells", spec := "semTells", unfollowed := true, recurses := true, loops := true, apart := false }
def SemTellsSaid : Prop := semTellsRow.holds Try.pinned (OpenSpec.ofChange semTellsSpec)

/-- ITS FALSE NEIGHBOUR: 'it returns false'. Refute it at one input. -/
def semTellsWrong : ChangeSpec := { name := "semTells", fn := fun _ => fun
  | [d1, d2] => { results := [.lit (.bool false)], args := [d1, d2] }
  | _ => none }
def SemTellsWrongFalsely : Prop := semTellsRow.holds Try.pinned (OpenSpec.ofChange semTellsWrong)

/-- 'scrutinylaw17.SemUnrolls': WHATEVER THE INPUT: true; the input reads as it did. -/
def semUnrollsSpec : ChangeSpec := { name := "semUnrolls", fn := fun _ => fun
  | [d1, d2] => { results := [.lit (.bool true)], args := [d1, d2] }
  | _ => none }
def semUnrollsRow : OpenClaim := { program := "ytahkjkmkafbakaa", sum := "6a9dabbd718040bf477ee234edf728590a252bf0106281664d29ddb37c8af7f5", func := "scrutiny/scrutinylaw17.SemUnrolls", spec := "semUnrolls", unfollowed := true, recurses := true, loops := true, apart := false }
def SemUnrollsSaid : Prop := semUnrollsRow.holds Try.pinned (OpenSpec.ofChange semUnrollsSpec)

/-- ITS FALSE NEIGHBOUR: 'it returns false'. Refute it at one input. -/
def semUnrollsWrong : ChangeSpec := { name := "semUnrolls", fn := fun _ => fun
  | [d1, d2] => { results := [.lit (.bool false)], args := [d1, d2] }
  | _ => none }
def SemUnrollsWrongFalsely : Prop := semUnrollsRow.holds Try.pinned (OpenSpec.ofChange semUnrollsWrong)

/-- 'scrutinylaw17.SemLaws': WHATEVER THE INPUT: true; the input reads as it did. -/
def semLawsSpec : ChangeSpec := { name := "semLaws", fn := fun _ => fun
  | [d1, d2, d3] => { results := [.lit (.bool true)], args := [d1, d2, d3] }
  | _ => none }
def semLawsRow : OpenClaim := { program := "ytahkjkmkafbakaa", sum := "6a9dabbd718040bf477ee234edf728590a252bf0106281664d29ddb37c8af7f5", func := "scrutiny/scrutinylaw17.SemLaws", spec := "semLaws", unfollowed := true, recurses := true, loops := true, apart := false }
def SemLawsSaid : Prop := semLawsRow.holds Try.pinned (OpenSpec.ofChange semLawsSpec)

/-- ITS FALSE NEIGHBOUR: 'it returns false'. Refute it at one input. -/
def semLawsWrong : ChangeSpec := { name := "semLaws", fn := fun _ => fun
  | [d1, d2, d3] => { results := [.lit (.bool false)], args := [d1, d2, d3] }
  | _ => none }
def SemLawsWrongFalsely : Prop := semLawsRow.holds Try.pinned (OpenSpec.ofChange semLawsWrong)

/-- 'scrutinylaw17.SemLoops': WHATEVER THE INPUT: true; the input reads as it did. -/
def semLoopsSpec : ChangeSpec := { name := "semLoops", fn := fun _ => fun
  | [d1, d2] => { results := [.lit (.bool true)], args := [d1, d2] }
  | _ => none }
def semLoopsRow : OpenClaim := { program := "ytahkjkmkafbakaa", sum := "6a9dabbd718040bf477ee234edf728590a252bf0106281664d29ddb37c8af7f5", func := "scrutiny/scrutinylaw17.SemLoops", spec := "semLoops", unfollowed := true, recurses := true, loops := true, apart := false }
def SemLoopsSaid : Prop := semLoopsRow.holds Try.pinned (OpenSpec.ofChange semLoopsSpec)

/-- ITS FALSE NEIGHBOUR: 'it returns false'. Refute it at one input. -/
def semLoopsWrong : ChangeSpec := { name := "semLoops", fn := fun _ => fun
  | [d1, d2] => { results := [.lit (.bool false)], args := [d1, d2] }
  | _ => none }
def SemLoopsWrongFalsely : Prop := semLoopsRow.holds Try.pinned (OpenSpec.ofChange semLoopsWrong)

/-- 'scrutinylaw17.SemSpreads': WHATEVER THE INPUT: true; the input reads as it did. -/
def semSpreadsSpec : ChangeSpec := { name := "semSpreads", fn := fun _ => fun
  | [d] => { results := [.lit (.bool true)], args := [d] }
  | _ => none }
def semSpreadsRow : OpenClaim := { program := "ytahkjkmkafbakaa", sum := "6a9dabbd718040bf477ee234edf728590a252bf0106281664d29ddb37c8af7f5", func := "scrutiny/scrutinylaw17.SemSpreads", spec := "semSpreads", unfollowed := true, recurses := true, loops := true, apart := false }
def SemSpreadsSaid : Prop := semSpreadsRow.holds Try.pinned (OpenSpec.ofChange semSpreadsSpec)

/-- ITS FALSE NEIGHBOUR: 'it returns false'. Refute it at one input. -/
def semSpreadsWrong : ChangeSpec := { name := "semSpreads", fn := fun _ => fun
  | [d] => { results := [.lit (.bool false)], args := [d] }
  | _ => none }
def SemSpreadsWrongFalsely : Prop := semSpreadsRow.holds Try.pinned (OpenSpec.ofChange semSpreadsWrong)

/-- 'scrutinylaw17.SemNnf': WHATEVER THE INPUT: true; the input reads as it did. -/
def semNnfSpec : ChangeSpec := { name := "semNnf", fn := fun _ => fun
  | [d1, d2] => { results := [.lit (.bool true)], args := [d1, d2] }
  | _ => none }
def semNnfRow : OpenClaim := { program := "ytahkjkmkafbakaa", sum := "6a9dabbd718040bf477ee234edf728590a252bf0106281664d29ddb37c8af7f5", func := "scrutiny/scrutinylaw17.SemNnf", spec := "semNnf", unfollowed := true, recurses := true, loops := true, apart := false }
def SemNnfSaid : Prop := semNnfRow.holds Try.pinned (OpenSpec.ofChange semNnfSpec)

/-- ITS FALSE NEIGHBOUR: 'it returns false'. Refute it at one input. -/
def semNnfWrong : ChangeSpec := { name := "semNnf", fn := fun _ => fun
  | [d1, d2] => { results := [.lit (.bool false)], args := [d1, d2] }
  | _ => none }
def SemNnfWrongFalsely : Prop := semNnfRow.holds Try.pinned (OpenSpec.ofChange semNnfWrong)

/- THE SECOND FORM. 'bulk': how many values and letters a reading holds, each counted each time it is reached (what is shared counts as often as it is met; a slice's spare places count too). A statement '..UptoSaid' is the law's where the arguments, and the package variables that the reading takes, are together of bulk at most 1048576: NARROWER than '..Said'. Prove '..Said' where nothing that the law and all that it calls make is longer than what came in: it says more and counts as full. Else prove '..UptoSaid'. A law counts once. -/
mutual
def uptoBulk {H : Type} : DataW H → Nat
  | .lit (.string bytes) => bytes.length + 1
  | .lit _ => 1
  | .nil => 1
  | .ptr d => uptoBulk d + 1
  | .slice elems spare => uptoBulkAll elems + uptoBulkAll spare + 1
  | .agg parts => uptoBulkAll parts + 1
  | .iface _ d => uptoBulk d + 1
  | .map entries => uptoBulkEntries entries + 1
  | .held _ => 1
def uptoBulkAll {H : Type} : List (DataW H) → Nat
  | [] => 0
  | d :: r => uptoBulk d + uptoBulkAll r
def uptoBulkEntries {H : Type} : List (Lit × DataW H) → Nat
  | [] => 0
  | x :: r => uptoBulkEntry x + uptoBulkEntries r
def uptoBulkEntry {H : Type} : Lit × DataW H → Nat
  | (.string bytes, d) => bytes.length + uptoBulk d + 1
  | (_, d) => uptoBulk d + 1
 end
def uptoSmall : (H : Type) → List (DataW H) → Bool := fun _ ds => decide (uptoBulkAll ds ≤ 1048576)
def OpenSpec.upto (s : _root_.Go.ChangeSpec) : _root_.Go.OpenSpec := { _root_.Go.OpenSpec.ofChange s with cond := some uptoSmall }

/-- 'scrutinylaw17.SemTells', WHERE WHAT IT READS IS OF BULK AT MOST 1048576: true; the input reads as it did. -/
def semTellsUptoRow : OpenClaim := { program := "ytahkjkmkafbakaa", sum := "6a9dabbd718040bf477ee234edf728590a252bf0106281664d29ddb37c8af7f5", func := "scrutiny/scrutinylaw17.SemTells", spec := "semTells", unfollowed := true, recurses := true, loops := true, apart := false, narrowed := true }
def SemTellsUptoSaid : Prop := semTellsUptoRow.holds Try.pinned (OpenSpec.upto semTellsSpec)

/-- 'scrutinylaw17.SemUnrolls', WHERE WHAT IT READS IS OF BULK AT MOST 1048576: true; the input reads as it did. -/
def semUnrollsUptoRow : OpenClaim := { program := "ytahkjkmkafbakaa", sum := "6a9dabbd718040bf477ee234edf728590a252bf0106281664d29ddb37c8af7f5", func := "scrutiny/scrutinylaw17.SemUnrolls", spec := "semUnrolls", unfollowed := true, recurses := true, loops := true, apart := false, narrowed := true }
def SemUnrollsUptoSaid : Prop := semUnrollsUptoRow.holds Try.pinned (OpenSpec.upto semUnrollsSpec)

/-- 'scrutinylaw17.SemLaws', WHERE WHAT IT READS IS OF BULK AT MOST 1048576: true; the input reads as it did. -/
def semLawsUptoRow : OpenClaim := { program := "ytahkjkmkafbakaa", sum := "6a9dabbd718040bf477ee234edf728590a252bf0106281664d29ddb37c8af7f5", func := "scrutiny/scrutinylaw17.SemLaws", spec := "semLaws", unfollowed := true, recurses := true, loops := true, apart := false, narrowed := true }
def SemLawsUptoSaid : Prop := semLawsUptoRow.holds Try.pinned (OpenSpec.upto semLawsSpec)

/-- 'scrutinylaw17.SemLoops', WHERE WHAT IT READS IS OF BULK AT MOST 1048576: true; the input reads as it did. -/
def semLoopsUptoRow : OpenClaim := { program := "ytahkjkmkafbakaa", sum := "6a9dabbd718040bf477ee234edf728590a252bf0106281664d29ddb37c8af7f5", func := "scrutiny/scrutinylaw17.SemLoops", spec := "semLoops", unfollowed := true, recurses := true, loops := true, apart := false, narrowed := true }
def SemLoopsUptoSaid : Prop := semLoopsUptoRow.holds Try.pinned (OpenSpec.upto semLoopsSpec)

/-- 'scrutinylaw17.SemSpreads', WHERE WHAT IT READS IS OF BULK AT MOST 1048576: true; the input reads as it did. -/
def semSpreadsUptoRow : OpenClaim := { program := "ytahkjkmkafbakaa", sum := "6a9dabbd718040bf477ee234edf728590a252bf0106281664d29ddb37c8af7f5", func := "scrutiny/scrutinylaw17.SemSpreads", spec := "semSpreads", unfollowed := true, recurses := true, loops := true, apart := false, narrowed := true }
def SemSpreadsUptoSaid : Prop := semSpreadsUptoRow.holds Try.pinned (OpenSpec.upto semSpreadsSpec)

/-- 'scrutinylaw17.SemNnf', WHERE WHAT IT READS IS OF BULK AT MOST 1048576: true; the input reads as it did. -/
def semNnfUptoRow : OpenClaim := { program := "ytahkjkmkafbakaa", sum := "6a9dabbd718040bf477ee234edf728590a252bf0106281664d29ddb37c8af7f5", func := "scrutiny/scrutinylaw17.SemNnf", spec := "semNnf", unfollowed := true, recurses := true, loops := true, apart := false, narrowed := true }
def SemNnfUptoSaid : Prop := semNnfUptoRow.holds Try.pinned (OpenSpec.upto semNnfSpec)

end Rows
end Go.Proofs.Ytahkjkmkafbakaa
