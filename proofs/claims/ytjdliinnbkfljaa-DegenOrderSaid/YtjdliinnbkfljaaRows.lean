/-
  NARROWER THAN 'FOR EVERY INPUT', by the rows' own cells (each row's printed sentence says how): DegenTells: loops · DegenTakes: loops · DegenTwice: loops · DegenOrder: loops · DegenMeets: loops.
  DERIVED. THE GIVEN ROWS OF THIS SEAT. 5 by the template 'for every input the law returns true; each argument reads behind the call as it read before'; 0 by the template 'total and deterministic' (their statements: YtjdliinnbkfljaaTotals.lean).
  GIVEN WITH THE SEED: the statements are not yours to turn. If you find one false, say at which input.
  Laid BY PROGRAM, IN A SANDBOX (cutbox-rows.mjs): the forced cells as the released guide's own fill.sh prints them over the translation 786c912d0f732f2b… (all of the seat's roots in one cut). By AI agents, Wed Nov 11 2026. No macro, syntax, notation, axiom, sorry.
-/
import Derived.Test.YtjdliinnbkfljaaChecked
import GoSem.Claim
import GoSem.ClaimJoined
import GoSem.ClaimMapViews
import Derived.JoinedTies
import Derived.KernelRfl
namespace Go.Proofs.Ytjdliinnbkfljaa
/- THE CELL 'sum', in the pinned program and in every row, IS THE sha256 OF THE DUMP (.gsa) THAT YtjdliinnbkfljaaProg.lean LOADS. Nothing in Lean hashes anything: it is a label: what it is worth is what the hold of that sum in a sandbox is worth. -/
noncomputable def Try.pinned : Pinned := { name := "ytjdliinnbkfljaa", sum := "786c912d0f732f2b51984c9c5a09d4057c26d52c633df153fe15efef38e9035d", checked := Try.checked }
namespace Rows
def none {H : Type} : Left H := { results := [], args := [] }

/-- 'scrutinylaw19.DegenTells': WHATEVER THE INPUT: true; the input reads as it did. -/
def degenTellsSpec : ChangeSpec := { name := "degenTells", fn := fun _ => fun
  | [d] => { results := [.lit (.bool true)], args := [d] }
  | _ => none }
def degenTellsRow : OpenClaim := { program := "ytjdliinnbkfljaa", sum := "786c912d0f732f2b51984c9c5a09d4057c26d52c633df153fe15efef38e9035d", func := "scrutiny/scrutinylaw19.DegenTells", spec := "degenTells", unfollowed := true, recurses := true, loops := true, apart := false }
def DegenTellsSaid : Prop := degenTellsRow.holds Try.pinned (OpenSpec.ofChange degenTellsSpec)

/-- ITS FALSE NEIGHBOUR: 'it returns false'. Refute it at one input. -/
def degenTellsWrong : ChangeSpec := { name := "degenTells", fn := fun _ => fun
  | [d] => { results := [.lit (.bool false)], args := [d] }
  | _ => none }
def DegenTellsWrongFalsely : Prop := degenTellsRow.holds Try.pinned (OpenSpec.ofChange degenTellsWrong)

/-- 'scrutinylaw19.DegenTakes': WHATEVER THE INPUT: true; the input reads as it did. -/
def degenTakesSpec : ChangeSpec := { name := "degenTakes", fn := fun _ => fun
  | [d1, d2] => { results := [.lit (.bool true)], args := [d1, d2] }
  | _ => none }
def degenTakesRow : OpenClaim := { program := "ytjdliinnbkfljaa", sum := "786c912d0f732f2b51984c9c5a09d4057c26d52c633df153fe15efef38e9035d", func := "scrutiny/scrutinylaw19.DegenTakes", spec := "degenTakes", unfollowed := true, recurses := true, loops := true, apart := false }
def DegenTakesSaid : Prop := degenTakesRow.holds Try.pinned (OpenSpec.ofChange degenTakesSpec)

/-- ITS FALSE NEIGHBOUR: 'it returns false'. Refute it at one input. -/
def degenTakesWrong : ChangeSpec := { name := "degenTakes", fn := fun _ => fun
  | [d1, d2] => { results := [.lit (.bool false)], args := [d1, d2] }
  | _ => none }
def DegenTakesWrongFalsely : Prop := degenTakesRow.holds Try.pinned (OpenSpec.ofChange degenTakesWrong)

/-- 'scrutinylaw19.DegenTwice': WHATEVER THE INPUT: true; the input reads as it did. -/
def degenTwiceSpec : ChangeSpec := { name := "degenTwice", fn := fun _ => fun
  | [d1, d2] => { results := [.lit (.bool true)], args := [d1, d2] }
  | _ => none }
def degenTwiceRow : OpenClaim := { program := "ytjdliinnbkfljaa", sum := "786c912d0f732f2b51984c9c5a09d4057c26d52c633df153fe15efef38e9035d", func := "scrutiny/scrutinylaw19.DegenTwice", spec := "degenTwice", unfollowed := true, recurses := true, loops := true, apart := false }
def DegenTwiceSaid : Prop := degenTwiceRow.holds Try.pinned (OpenSpec.ofChange degenTwiceSpec)

/-- ITS FALSE NEIGHBOUR: 'it returns false'. Refute it at one input. -/
def degenTwiceWrong : ChangeSpec := { name := "degenTwice", fn := fun _ => fun
  | [d1, d2] => { results := [.lit (.bool false)], args := [d1, d2] }
  | _ => none }
def DegenTwiceWrongFalsely : Prop := degenTwiceRow.holds Try.pinned (OpenSpec.ofChange degenTwiceWrong)

/-- 'scrutinylaw19.DegenOrder': WHATEVER THE INPUT: true; the input reads as it did. -/
def degenOrderSpec : ChangeSpec := { name := "degenOrder", fn := fun _ => fun
  | [d] => { results := [.lit (.bool true)], args := [d] }
  | _ => none }
def degenOrderRow : OpenClaim := { program := "ytjdliinnbkfljaa", sum := "786c912d0f732f2b51984c9c5a09d4057c26d52c633df153fe15efef38e9035d", func := "scrutiny/scrutinylaw19.DegenOrder", spec := "degenOrder", unfollowed := true, recurses := true, loops := true, apart := false }
def DegenOrderSaid : Prop := degenOrderRow.holds Try.pinned (OpenSpec.ofChange degenOrderSpec)

/-- ITS FALSE NEIGHBOUR: 'it returns false'. Refute it at one input. -/
def degenOrderWrong : ChangeSpec := { name := "degenOrder", fn := fun _ => fun
  | [d] => { results := [.lit (.bool false)], args := [d] }
  | _ => none }
def DegenOrderWrongFalsely : Prop := degenOrderRow.holds Try.pinned (OpenSpec.ofChange degenOrderWrong)

/-- 'scrutinylaw19.DegenMeets': WHATEVER THE INPUT: true; the input reads as it did. -/
def degenMeetsSpec : ChangeSpec := { name := "degenMeets", fn := fun _ => fun
  | [d] => { results := [.lit (.bool true)], args := [d] }
  | _ => none }
def degenMeetsRow : OpenClaim := { program := "ytjdliinnbkfljaa", sum := "786c912d0f732f2b51984c9c5a09d4057c26d52c633df153fe15efef38e9035d", func := "scrutiny/scrutinylaw19.DegenMeets", spec := "degenMeets", unfollowed := true, recurses := true, loops := true, apart := false }
def DegenMeetsSaid : Prop := degenMeetsRow.holds Try.pinned (OpenSpec.ofChange degenMeetsSpec)

/-- ITS FALSE NEIGHBOUR: 'it returns false'. Refute it at one input. -/
def degenMeetsWrong : ChangeSpec := { name := "degenMeets", fn := fun _ => fun
  | [d] => { results := [.lit (.bool false)], args := [d] }
  | _ => none }
def DegenMeetsWrongFalsely : Prop := degenMeetsRow.holds Try.pinned (OpenSpec.ofChange degenMeetsWrong)

/- THE SECOND FORM. 'bulk': how many values and letters a reading holds, each counted each time it is reached (what is shared counts as often as it is met; a slice's spare places count too). A statement '..UptoSaid' is the law's where the arguments, and the package variables that the reading takes, are together of bulk at most 1048576: NARROWER than '..Said'. Prove '..Said' where nothing that the law and all that it calls make is longer than what came in: it says more and counts as full. Else prove '..UptoSaid'. A law counts once. -/
mutual
def uptoBulk {H : Type} : DataW H → Nat
  | .lit (.string bytes) => bytes.length + 1
  | .lit _ => 1
  | .nil => 1
  | .ptr d => uptoBulk d + 1
  | .slice elems spare => uptoBulkAll elems + uptoBulkAll spare + 1
  | .agg parts => uptoBulkAll parts + 1
  | .iface _ d => uptoBulk d + 1
  | .map entries => uptoBulkEntries entries + 1
  | .held _ => 1
def uptoBulkAll {H : Type} : List (DataW H) → Nat
  | [] => 0
  | d :: r => uptoBulk d + uptoBulkAll r
def uptoBulkEntries {H : Type} : List (Lit × DataW H) → Nat
  | [] => 0
  | x :: r => uptoBulkEntry x + uptoBulkEntries r
def uptoBulkEntry {H : Type} : Lit × DataW H → Nat
  | (.string bytes, d) => bytes.length + uptoBulk d + 1
  | (_, d) => uptoBulk d + 1
 end
def uptoSmall : (H : Type) → List (DataW H) → Bool := fun _ ds => decide (uptoBulkAll ds ≤ 1048576)
def OpenSpec.upto (s : _root_.Go.ChangeSpec) : _root_.Go.OpenSpec := { _root_.Go.OpenSpec.ofChange s with cond := some uptoSmall }

/-- 'scrutinylaw19.DegenTells', WHERE WHAT IT READS IS OF BULK AT MOST 1048576: true; the input reads as it did. -/
def degenTellsUptoRow : OpenClaim := { program := "ytjdliinnbkfljaa", sum := "786c912d0f732f2b51984c9c5a09d4057c26d52c633df153fe15efef38e9035d", func := "scrutiny/scrutinylaw19.DegenTells", spec := "degenTells", unfollowed := true, recurses := true, loops := true, apart := false, narrowed := true }
def DegenTellsUptoSaid : Prop := degenTellsUptoRow.holds Try.pinned (OpenSpec.upto degenTellsSpec)

/-- 'scrutinylaw19.DegenTakes', WHERE WHAT IT READS IS OF BULK AT MOST 1048576: true; the input reads as it did. -/
def degenTakesUptoRow : OpenClaim := { program := "ytjdliinnbkfljaa", sum := "786c912d0f732f2b51984c9c5a09d4057c26d52c633df153fe15efef38e9035d", func := "scrutiny/scrutinylaw19.DegenTakes", spec := "degenTakes", unfollowed := true, recurses := true, loops := true, apart := false, narrowed := true }
def DegenTakesUptoSaid : Prop := degenTakesUptoRow.holds Try.pinned (OpenSpec.upto degenTakesSpec)

/-- 'scrutinylaw19.DegenTwice', WHERE WHAT IT READS IS OF BULK AT MOST 1048576: true; the input reads as it did. -/
def degenTwiceUptoRow : OpenClaim := { program := "ytjdliinnbkfljaa", sum := "786c912d0f732f2b51984c9c5a09d4057c26d52c633df153fe15efef38e9035d", func := "scrutiny/scrutinylaw19.DegenTwice", spec := "degenTwice", unfollowed := true, recurses := true, loops := true, apart := false, narrowed := true }
def DegenTwiceUptoSaid : Prop := degenTwiceUptoRow.holds Try.pinned (OpenSpec.upto degenTwiceSpec)

/-- 'scrutinylaw19.DegenOrder', WHERE WHAT IT READS IS OF BULK AT MOST 1048576: true; the input reads as it did. -/
def degenOrderUptoRow : OpenClaim := { program := "ytjdliinnbkfljaa", sum := "786c912d0f732f2b51984c9c5a09d4057c26d52c633df153fe15efef38e9035d", func := "scrutiny/scrutinylaw19.DegenOrder", spec := "degenOrder", unfollowed := true, recurses := true, loops := true, apart := false, narrowed := true }
def DegenOrderUptoSaid : Prop := degenOrderUptoRow.holds Try.pinned (OpenSpec.upto degenOrderSpec)

/-- 'scrutinylaw19.DegenMeets', WHERE WHAT IT READS IS OF BULK AT MOST 1048576: true; the input reads as it did. -/
def degenMeetsUptoRow : OpenClaim := { program := "ytjdliinnbkfljaa", sum := "786c912d0f732f2b51984c9c5a09d4057c26d52c633df153fe15efef38e9035d", func := "scrutiny/scrutinylaw19.DegenMeets", spec := "degenMeets", unfollowed := true, recurses := true, loops := true, apart := false, narrowed := true }
def DegenMeetsUptoSaid : Prop := degenMeetsUptoRow.holds Try.pinned (OpenSpec.upto degenMeetsSpec)

end Rows
end Go.Proofs.Ytjdliinnbkfljaa
