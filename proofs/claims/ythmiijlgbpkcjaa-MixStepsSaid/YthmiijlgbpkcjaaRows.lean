/-
  No cell of these rows narrows 'for every input' (looked for: loops, veiled, ifaces, maps, wideKeys, modest, calm, conditions, laid).
  DERIVED. THE GIVEN ROWS OF THIS SEAT. 4 by the template 'for every input the law returns true; each argument reads behind the call as it read before'; 0 by the template 'total and deterministic' (their statements: YthmiijlgbpkcjaaTotals.lean).
  GIVEN WITH THE SEED: the statements are not yours to turn. If you find one false, say at which input.
  Laid BY PROGRAM, IN A SANDBOX (cutbox-rows.mjs): the forced cells as the released guide's own fill.sh prints them over the translation df6c2501f39c6f93… (all of the seat's roots in one cut). By AI agents, Wed Nov 11 2026. No macro, syntax, notation, axiom, sorry.
-/
import Derived.Test.YthmiijlgbpkcjaaChecked
import GoSem.Claim
import GoSem.ClaimJoined
import GoSem.ClaimMapViews
import Derived.JoinedTies
import Derived.KernelRfl
namespace Go.Proofs.Ythmiijlgbpkcjaa
/- THE CELL 'sum', in the pinned program and in every row, IS THE sha256 OF THE DUMP (.gsa) THAT YthmiijlgbpkcjaaProg.lean LOADS. Nothing in Lean hashes anything: it is a label: what it is worth is what the hold of that sum in a sandbox is worth. -/
noncomputable def Try.pinned : Pinned := { name := "ythmiijlgbpkcjaa", sum := "df6c2501f39c6f931391bfb1ffa881bc33a90c1bfcc3294b2b79f09c24cdef5d", checked := Try.checked }
namespace Rows
def none {H : Type} : Left H := { results := [], args := [] }

/-- 'scrutinylaw03.MixTells': WHATEVER THE INPUT: true; the input reads as it did. -/
def mixTellsSpec : ChangeSpec := { name := "mixTells", fn := fun _ => fun
  | [d] => { results := [.lit (.bool true)], args := [d] }
  | _ => none }
def mixTellsRow : OpenClaim := { program := "ythmiijlgbpkcjaa", sum := "df6c2501f39c6f931391bfb1ffa881bc33a90c1bfcc3294b2b79f09c24cdef5d", func := "scrutiny/scrutinylaw03.MixTells", spec := "mixTells", unfollowed := true, recurses := true, apart := false }
def MixTellsSaid : Prop := mixTellsRow.holds Try.pinned (OpenSpec.ofChange mixTellsSpec)

/-- ITS FALSE NEIGHBOUR: 'it returns false'. Refute it at one input. -/
def mixTellsWrong : ChangeSpec := { name := "mixTells", fn := fun _ => fun
  | [d] => { results := [.lit (.bool false)], args := [d] }
  | _ => none }
def MixTellsWrongFalsely : Prop := mixTellsRow.holds Try.pinned (OpenSpec.ofChange mixTellsWrong)

/-- 'scrutinylaw03.MixIn': WHATEVER THE INPUT: true; the input reads as it did. -/
def mixInSpec : ChangeSpec := { name := "mixIn", fn := fun _ => fun
  | [d] => { results := [.lit (.bool true)], args := [d] }
  | _ => none }
def mixInRow : OpenClaim := { program := "ythmiijlgbpkcjaa", sum := "df6c2501f39c6f931391bfb1ffa881bc33a90c1bfcc3294b2b79f09c24cdef5d", func := "scrutiny/scrutinylaw03.MixIn", spec := "mixIn", unfollowed := true, recurses := true, apart := false }
def MixInSaid : Prop := mixInRow.holds Try.pinned (OpenSpec.ofChange mixInSpec)

/-- ITS FALSE NEIGHBOUR: 'it returns false'. Refute it at one input. -/
def mixInWrong : ChangeSpec := { name := "mixIn", fn := fun _ => fun
  | [d] => { results := [.lit (.bool false)], args := [d] }
  | _ => none }
def MixInWrongFalsely : Prop := mixInRow.holds Try.pinned (OpenSpec.ofChange mixInWrong)

/-- 'scrutinylaw03.MixSteps': WHATEVER THE INPUT: true; the input reads as it did. -/
def mixStepsSpec : ChangeSpec := { name := "mixSteps", fn := fun _ => fun
  | [d] => { results := [.lit (.bool true)], args := [d] }
  | _ => none }
def mixStepsRow : OpenClaim := { program := "ythmiijlgbpkcjaa", sum := "df6c2501f39c6f931391bfb1ffa881bc33a90c1bfcc3294b2b79f09c24cdef5d", func := "scrutiny/scrutinylaw03.MixSteps", spec := "mixSteps", unfollowed := true, recurses := true, apart := false }
def MixStepsSaid : Prop := mixStepsRow.holds Try.pinned (OpenSpec.ofChange mixStepsSpec)

/-- ITS FALSE NEIGHBOUR: 'it returns false'. Refute it at one input. -/
def mixStepsWrong : ChangeSpec := { name := "mixSteps", fn := fun _ => fun
  | [d] => { results := [.lit (.bool false)], args := [d] }
  | _ => none }
def MixStepsWrongFalsely : Prop := mixStepsRow.holds Try.pinned (OpenSpec.ofChange mixStepsWrong)

/-- 'scrutinylaw03.MixShifts': WHATEVER THE INPUT: true; the input reads as it did. -/
def mixShiftsSpec : ChangeSpec := { name := "mixShifts", fn := fun _ => fun
  | [d] => { results := [.lit (.bool true)], args := [d] }
  | _ => none }
def mixShiftsRow : OpenClaim := { program := "ythmiijlgbpkcjaa", sum := "df6c2501f39c6f931391bfb1ffa881bc33a90c1bfcc3294b2b79f09c24cdef5d", func := "scrutiny/scrutinylaw03.MixShifts", spec := "mixShifts", unfollowed := true, recurses := true, apart := false }
def MixShiftsSaid : Prop := mixShiftsRow.holds Try.pinned (OpenSpec.ofChange mixShiftsSpec)

/-- ITS FALSE NEIGHBOUR: 'it returns false'. Refute it at one input. -/
def mixShiftsWrong : ChangeSpec := { name := "mixShifts", fn := fun _ => fun
  | [d] => { results := [.lit (.bool false)], args := [d] }
  | _ => none }
def MixShiftsWrongFalsely : Prop := mixShiftsRow.holds Try.pinned (OpenSpec.ofChange mixShiftsWrong)

/- THE SECOND FORM. 'bulk': how many values and letters a reading holds, each counted each time it is reached (what is shared counts as often as it is met; a slice's spare places count too). A statement '..UptoSaid' is the law's where the arguments, and the package variables that the reading takes, are together of bulk at most 1048576: NARROWER than '..Said'. Prove '..Said' where nothing that the law and all that it calls make is longer than what came in: it says more and counts as full. Else prove '..UptoSaid'. A law counts once. -/
mutual
def uptoBulk {H : Type} : DataW H → Nat
  | .lit (.string bytes) => bytes.length + 1
  | .lit _ => 1
  | .nil => 1
  | .ptr d => uptoBulk d + 1
  | .slice elems spare => uptoBulkAll elems + uptoBulkAll spare + 1
  | .agg parts => uptoBulkAll parts + 1
  | .iface _ d => uptoBulk d + 1
  | .map entries => uptoBulkEntries entries + 1
  | .held _ => 1
def uptoBulkAll {H : Type} : List (DataW H) → Nat
  | [] => 0
  | d :: r => uptoBulk d + uptoBulkAll r
def uptoBulkEntries {H : Type} : List (Lit × DataW H) → Nat
  | [] => 0
  | x :: r => uptoBulkEntry x + uptoBulkEntries r
def uptoBulkEntry {H : Type} : Lit × DataW H → Nat
  | (.string bytes, d) => bytes.length + uptoBulk d + 1
  | (_, d) => uptoBulk d + 1
 end
def uptoSmall : (H : Type) → List (DataW H) → Bool := fun _ ds => decide (uptoBulkAll ds ≤ 1048576)
def OpenSpec.upto (s : _root_.Go.ChangeSpec) : _root_.Go.OpenSpec := { _root_.Go.OpenSpec.ofChange s with cond := some uptoSmall }

/-- 'scrutinylaw03.MixTells', WHERE WHAT IT READS IS OF BULK AT MOST 1048576: true; the input reads as it did. -/
def mixTellsUptoRow : OpenClaim := { program := "ythmiijlgbpkcjaa", sum := "df6c2501f39c6f931391bfb1ffa881bc33a90c1bfcc3294b2b79f09c24cdef5d", func := "scrutiny/scrutinylaw03.MixTells", spec := "mixTells", unfollowed := true, recurses := true, apart := false, narrowed := true }
def MixTellsUptoSaid : Prop := mixTellsUptoRow.holds Try.pinned (OpenSpec.upto mixTellsSpec)

/-- 'scrutinylaw03.MixIn', WHERE WHAT IT READS IS OF BULK AT MOST 1048576: true; the input reads as it did. -/
def mixInUptoRow : OpenClaim := { program := "ythmiijlgbpkcjaa", sum := "df6c2501f39c6f931391bfb1ffa881bc33a90c1bfcc3294b2b79f09c24cdef5d", func := "scrutiny/scrutinylaw03.MixIn", spec := "mixIn", unfollowed := true, recurses := true, apart := false, narrowed := true }
def MixInUptoSaid : Prop := mixInUptoRow.holds Try.pinned (OpenSpec.upto mixInSpec)

/-- 'scrutinylaw03.MixSteps', WHERE WHAT IT READS IS OF BULK AT MOST 1048576: true; the input reads as it did. -/
def mixStepsUptoRow : OpenClaim := { program := "ythmiijlgbpkcjaa", sum := "df6c2501f39c6f931391bfb1ffa881bc33a90c1bfcc3294b2b79f09c24cdef5d", func := "scrutiny/scrutinylaw03.MixSteps", spec := "mixSteps", unfollowed := true, recurses := true, apart := false, narrowed := true }
def MixStepsUptoSaid : Prop := mixStepsUptoRow.holds Try.pinned (OpenSpec.upto mixStepsSpec)

/-- 'scrutinylaw03.MixShifts', WHERE WHAT IT READS IS OF BULK AT MOST 1048576: true; the input reads as it did. -/
def mixShiftsUptoRow : OpenClaim := { program := "ythmiijlgbpkcjaa", sum := "df6c2501f39c6f931391bfb1ffa881bc33a90c1bfcc3294b2b79f09c24cdef5d", func := "scrutiny/scrutinylaw03.MixShifts", spec := "mixShifts", unfollowed := true, recurses := true, apart := false, narrowed := true }
def MixShiftsUptoSaid : Prop := mixShiftsUptoRow.holds Try.pinned (OpenSpec.upto mixShiftsSpec)

end Rows
end Go.Proofs.Ythmiijlgbpkcjaa
