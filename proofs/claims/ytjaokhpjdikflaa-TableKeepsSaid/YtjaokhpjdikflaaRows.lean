/-
  No cell of these rows narrows 'for every input' (looked for: loops, veiled, ifaces, maps, wideKeys, modest, calm, conditions, laid).
  DERIVED. THE GIVEN ROWS OF THIS SEAT. 4 by the template 'for every input the law returns true; each argument reads behind the call as it read before'; 0 by the template 'total and deterministic' (their statements: YtjaokhpjdikflaaTotals.lean).
  GIVEN WITH THE SEED: the statements are not yours to turn. If you find one false, say at which input.
  Laid BY PROGRAM, IN A SANDBOX (cutbox-rows.mjs): the forced cells as the released guide's own fill.sh prints them over the translation 7c104198af96ff54… (all of the seat's roots in one cut). By AI agents, Wed Nov 11 2026. No macro, syntax, notation, axiom, sorry.
-/
import Derived.Test.YtjaokhpjdikflaaChecked
import GoSem.Claim
import GoSem.ClaimJoined
import GoSem.ClaimMapViews
import Derived.JoinedTies
import Derived.KernelRfl
namespace Go.Proofs.Ytjaokhpjdikflaa
/- THE CELL 'sum', in the pinned program and in every row, IS THE sha256 OF THE DUMP (.gsa) THAT YtjaokhpjdikflaaProg.lean LOADS. Nothing in Lean hashes anything: it is a label: what it is worth is what the hold of that sum in a sandbox is worth. -/
noncomputable def Try.pinned : Pinned := { name := "ytjaokhpjdikflaa", sum := "7c104198af96ff546fad8bc4bb623017bbd384126d33770284a29f1d680ef406", checked := Try.checked }
namespace Rows
def none {H : Type} : Left H := { results := [], args := [] }

/-- 'scrutinylaw04.TableMany': WHATEVER THE INPUT: true; the input reads as it did. -/
def tableManySpec : ChangeSpec := { name := "tableMany", fn := fun _ => fun
  | [d1, d2] => { results := [.lit (.bool true)], args := [d1, d2] }
  | _ => none }
def tableManyRow : OpenClaim := { program := "ytjaokhpjdikflaa", sum := "7c104198af96ff546fad8bc4bb623017bbd384126d33770284a29f1d680ef406", func := "scrutiny/scrutinylaw04.TableMany", spec := "tableMany", unfollowed := true, recurses := true, apart := false }
def TableManySaid : Prop := tableManyRow.holds Try.pinned (OpenSpec.ofChange tableManySpec)

/-- ITS FALSE NEIGHBOUR: 'it returns false'. Refute it at one input. -/
def tableManyWrong : ChangeSpec := { name := "tableMany", fn := fun _ => fun
  | [d1, d2] => { results := [.lit (.bool false)], args := [d1, d2] }
  | _ => none }
def TableManyWrongFalsely : Prop := tableManyRow.holds Try.pinned (OpenSpec.ofChange tableManyWrong)

/-- 'scrutinylaw04.TableKeeps': WHATEVER THE INPUT: true; the input reads as it did. -/
def tableKeepsSpec : ChangeSpec := { name := "tableKeeps", fn := fun _ => fun
  | [d1, d2] => { results := [.lit (.bool true)], args := [d1, d2] }
  | _ => none }
def tableKeepsRow : OpenClaim := { program := "ytjaokhpjdikflaa", sum := "7c104198af96ff546fad8bc4bb623017bbd384126d33770284a29f1d680ef406", func := "scrutiny/scrutinylaw04.TableKeeps", spec := "tableKeeps", unfollowed := true, recurses := true, apart := false }
def TableKeepsSaid : Prop := tableKeepsRow.holds Try.pinned (OpenSpec.ofChange tableKeepsSpec)

/-- ITS FALSE NEIGHBOUR: 'it returns false'. Refute it at one input. -/
def tableKeepsWrong : ChangeSpec := { name := "tableKeeps", fn := fun _ => fun
  | [d1, d2] => { results := [.lit (.bool false)], args := [d1, d2] }
  | _ => none }
def TableKeepsWrongFalsely : Prop := tableKeepsRow.holds Try.pinned (OpenSpec.ofChange tableKeepsWrong)

/-- 'scrutinylaw04.TableOld': WHATEVER THE INPUT: true; the input reads as it did. -/
def tableOldSpec : ChangeSpec := { name := "tableOld", fn := fun _ => fun
  | [d1, d2, d3] => { results := [.lit (.bool true)], args := [d1, d2, d3] }
  | _ => none }
def tableOldRow : OpenClaim := { program := "ytjaokhpjdikflaa", sum := "7c104198af96ff546fad8bc4bb623017bbd384126d33770284a29f1d680ef406", func := "scrutiny/scrutinylaw04.TableOld", spec := "tableOld", unfollowed := true, recurses := true, apart := false }
def TableOldSaid : Prop := tableOldRow.holds Try.pinned (OpenSpec.ofChange tableOldSpec)

/-- ITS FALSE NEIGHBOUR: 'it returns false'. Refute it at one input. -/
def tableOldWrong : ChangeSpec := { name := "tableOld", fn := fun _ => fun
  | [d1, d2, d3] => { results := [.lit (.bool false)], args := [d1, d2, d3] }
  | _ => none }
def TableOldWrongFalsely : Prop := tableOldRow.holds Try.pinned (OpenSpec.ofChange tableOldWrong)

/-- 'scrutinylaw04.TableOrders': WHATEVER THE INPUT: true; the input reads as it did. -/
def tableOrdersSpec : ChangeSpec := { name := "tableOrders", fn := fun _ => fun
  | [d1, d2] => { results := [.lit (.bool true)], args := [d1, d2] }
  | _ => none }
def tableOrdersRow : OpenClaim := { program := "ytjaokhpjdikflaa", sum := "7c104198af96ff546fad8bc4bb623017bbd384126d33770284a29f1d680ef406", func := "scrutiny/scrutinylaw04.TableOrders", spec := "tableOrders", unfollowed := true, recurses := true, apart := false }
def TableOrdersSaid : Prop := tableOrdersRow.holds Try.pinned (OpenSpec.ofChange tableOrdersSpec)

/-- ITS FALSE NEIGHBOUR: 'it returns false'. Refute it at one input. -/
def tableOrdersWrong : ChangeSpec := { name := "tableOrders", fn := fun _ => fun
  | [d1, d2] => { results := [.lit (.bool false)], args := [d1, d2] }
  | _ => none }
def TableOrdersWrongFalsely : Prop := tableOrdersRow.holds Try.pinned (OpenSpec.ofChange tableOrdersWrong)

/- THE SECOND FORM. 'bulk': how many values and letters a reading holds, each counted each time it is reached (what is shared counts as often as it is met; a slice's spare places count too). A statement '..UptoSaid' is the law's where the arguments, and the package variables that the reading takes, are together of bulk at most 1048576: NARROWER than '..Said'. Prove '..Said' where nothing that the law and all that it calls make is longer than what came in: it says more and counts as full. Else prove '..UptoSaid'. A law counts once. -/
mutual
def uptoBulk {H : Type} : DataW H → Nat
  | .lit (.string bytes) => bytes.length + 1
  | .lit _ => 1
  | .nil => 1
  | .ptr d => uptoBulk d + 1
  | .slice elems spare => uptoBulkAll elems + uptoBulkAll spare + 1
  | .agg parts => uptoBulkAll parts + 1
  | .iface _ d => uptoBulk d + 1
  | .map entries => uptoBulkEntries entries + 1
  | .held _ => 1
def uptoBulkAll {H : Type} : List (DataW H) → Nat
  | [] => 0
  | d :: r => uptoBulk d + uptoBulkAll r
def uptoBulkEntries {H : Type} : List (Lit × DataW H) → Nat
  | [] => 0
  | x :: r => uptoBulkEntry x + uptoBulkEntries r
def uptoBulkEntry {H : Type} : Lit × DataW H → Nat
  | (.string bytes, d) => bytes.length + uptoBulk d + 1
  | (_, d) => uptoBulk d + 1
 end
def uptoSmall : (H : Type) → List (DataW H) → Bool := fun _ ds => decide (uptoBulkAll ds ≤ 1048576)
def OpenSpec.upto (s : _root_.Go.ChangeSpec) : _root_.Go.OpenSpec := { _root_.Go.OpenSpec.ofChange s with cond := some uptoSmall }

/-- 'scrutinylaw04.TableMany', WHERE WHAT IT READS IS OF BULK AT MOST 1048576: true; the input reads as it did. -/
def tableManyUptoRow : OpenClaim := { program := "ytjaokhpjdikflaa", sum := "7c104198af96ff546fad8bc4bb623017bbd384126d33770284a29f1d680ef406", func := "scrutiny/scrutinylaw04.TableMany", spec := "tableMany", unfollowed := true, recurses := true, apart := false, narrowed := true }
def TableManyUptoSaid : Prop := tableManyUptoRow.holds Try.pinned (OpenSpec.upto tableManySpec)

/-- 'scrutinylaw04.TableKeeps', WHERE WHAT IT READS IS OF BULK AT MOST 1048576: true; the input reads as it did. -/
def tableKeepsUptoRow : OpenClaim := { program := "ytjaokhpjdikflaa", sum := "7c104198af96ff546fad8bc4bb623017bbd384126d33770284a29f1d680ef406", func := "scrutiny/scrutinylaw04.TableKeeps", spec := "tableKeeps", unfollowed := true, recurses := true, apart := false, narrowed := true }
def TableKeepsUptoSaid : Prop := tableKeepsUptoRow.holds Try.pinned (OpenSpec.upto tableKeepsSpec)

/-- 'scrutinylaw04.TableOld', WHERE WHAT IT READS IS OF BULK AT MOST 1048576: true; the input reads as it did. -/
def tableOldUptoRow : OpenClaim := { program := "ytjaokhpjdikflaa", sum := "7c104198af96ff546fad8bc4bb623017bbd384126d33770284a29f1d680ef406", func := "scrutiny/scrutinylaw04.TableOld", spec := "tableOld", unfollowed := true, recurses := true, apart := false, narrowed := true }
def TableOldUptoSaid : Prop := tableOldUptoRow.holds Try.pinned (OpenSpec.upto tableOldSpec)

/-- 'scrutinylaw04.TableOrders', WHERE WHAT IT READS IS OF BULK AT MOST 1048576: true; the input reads as it did. -/
def tableOrdersUptoRow : OpenClaim := { program := "ytjaokhpjdikflaa", sum := "7c104198af96ff546fad8bc4bb623017bbd384126d33770284a29f1d680ef406", func := "scrutiny/scrutinylaw04.TableOrders", spec := "tableOrders", unfollowed := true, recurses := true, apart := false, narrowed := true }
def TableOrdersUptoSaid : Prop := tableOrdersUptoRow.holds Try.pinned (OpenSpec.upto tableOrdersSpec)

end Rows
end Go.Proofs.Ytjaokhpjdikflaa
