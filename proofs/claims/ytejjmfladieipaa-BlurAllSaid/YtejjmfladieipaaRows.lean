/-
  No cell of these rows narrows 'for every input' (looked for: loops, veiled, ifaces, maps, wideKeys, modest, calm, conditions, laid).
  DERIVED. THE GIVEN ROWS OF THIS SEAT. 4 by the template 'for every input the law returns true; each argument reads behind the call as it read before'; 0 by the template 'total and deterministic' (their statements: YtejjmfladieipaaTotals.lean).
  GIVEN WITH THE SEED: the statements are not yours to turn. If you find one false, say at which input.
  Laid BY PROGRAM, IN A SANDBOX (cutbox-rows.mjs): the forced cells as the released guide's own fill.sh prints them over the translation 7b30a1857ace3437… (all of the seat's roots in one cut). By AI agents, Wed Nov 11 2026. No macro, syntax, notation, axiom, sorry.
-/
import Derived.Test.YtejjmfladieipaaChecked
import GoSem.Claim
import GoSem.ClaimJoined
import GoSem.ClaimMapViews
import Derived.JoinedTies
import Derived.KernelRfl
namespace Go.Proofs.Ytejjmfladieipaa
/- THE CELL 'sum', in the pinned program and in every row, IS THE sha256 OF THE DUMP (.gsa) THAT YtejjmfladieipaaProg.lean LOADS. Nothing in Lean hashes anything: it is a label: what it is worth is what the hold of that sum in a sandbox is worth. -/
noncomputable def Try.pinned : Pinned := { name := "ytejjmfladieipaa", sum := "7b30a1857ace3437ddbb17da8c03cc8ecb1535ce04b8b1c6cbb3ede8bf772701", checked := Try.checked }
namespace Rows
def none {H : Type} : Left H := { results := [], args := [] }

/-- 'scrutinylaw10.BlurTells': WHATEVER THE INPUT: true; the input reads as it did. -/
def blurTellsSpec : ChangeSpec := { name := "blurTells", fn := fun _ => fun
  | [d] => { results := [.lit (.bool true)], args := [d] }
  | _ => none }
def blurTellsRow : OpenClaim := { program := "ytejjmfladieipaa", sum := "7b30a1857ace3437ddbb17da8c03cc8ecb1535ce04b8b1c6cbb3ede8bf772701", func := "scrutiny/scrutinylaw10.BlurTells", spec := "blurTells", unfollowed := true, recurses := true, apart := false }
def BlurTellsSaid : Prop := blurTellsRow.holds Try.pinned (OpenSpec.ofChange blurTellsSpec)

/-- ITS FALSE NEIGHBOUR: 'it returns false'. Refute it at one input. -/
def blurTellsWrong : ChangeSpec := { name := "blurTells", fn := fun _ => fun
  | [d] => { results := [.lit (.bool false)], args := [d] }
  | _ => none }
def BlurTellsWrongFalsely : Prop := blurTellsRow.holds Try.pinned (OpenSpec.ofChange blurTellsWrong)

/-- 'scrutinylaw10.BlurNever': WHATEVER THE INPUT: true; the input reads as it did. -/
def blurNeverSpec : ChangeSpec := { name := "blurNever", fn := fun _ => fun
  | [d] => { results := [.lit (.bool true)], args := [d] }
  | _ => none }
def blurNeverRow : OpenClaim := { program := "ytejjmfladieipaa", sum := "7b30a1857ace3437ddbb17da8c03cc8ecb1535ce04b8b1c6cbb3ede8bf772701", func := "scrutiny/scrutinylaw10.BlurNever", spec := "blurNever", unfollowed := true, recurses := true, apart := false }
def BlurNeverSaid : Prop := blurNeverRow.holds Try.pinned (OpenSpec.ofChange blurNeverSpec)

/-- ITS FALSE NEIGHBOUR: 'it returns false'. Refute it at one input. -/
def blurNeverWrong : ChangeSpec := { name := "blurNever", fn := fun _ => fun
  | [d] => { results := [.lit (.bool false)], args := [d] }
  | _ => none }
def BlurNeverWrongFalsely : Prop := blurNeverRow.holds Try.pinned (OpenSpec.ofChange blurNeverWrong)

/-- 'scrutinylaw10.BlurOld': WHATEVER THE INPUT: true; the input reads as it did. -/
def blurOldSpec : ChangeSpec := { name := "blurOld", fn := fun _ => fun
  | [d] => { results := [.lit (.bool true)], args := [d] }
  | _ => none }
def blurOldRow : OpenClaim := { program := "ytejjmfladieipaa", sum := "7b30a1857ace3437ddbb17da8c03cc8ecb1535ce04b8b1c6cbb3ede8bf772701", func := "scrutiny/scrutinylaw10.BlurOld", spec := "blurOld", unfollowed := true, recurses := true, apart := false }
def BlurOldSaid : Prop := blurOldRow.holds Try.pinned (OpenSpec.ofChange blurOldSpec)

/-- ITS FALSE NEIGHBOUR: 'it returns false'. Refute it at one input. -/
def blurOldWrong : ChangeSpec := { name := "blurOld", fn := fun _ => fun
  | [d] => { results := [.lit (.bool false)], args := [d] }
  | _ => none }
def BlurOldWrongFalsely : Prop := blurOldRow.holds Try.pinned (OpenSpec.ofChange blurOldWrong)

/-- 'scrutinylaw10.BlurAll': WHATEVER THE INPUT: true; the input reads as it did. -/
def blurAllSpec : ChangeSpec := { name := "blurAll", fn := fun _ => fun
  | [d] => { results := [.lit (.bool true)], args := [d] }
  | _ => none }
def blurAllRow : OpenClaim := { program := "ytejjmfladieipaa", sum := "7b30a1857ace3437ddbb17da8c03cc8ecb1535ce04b8b1c6cbb3ede8bf772701", func := "scrutiny/scrutinylaw10.BlurAll", spec := "blurAll", unfollowed := true, recurses := true, apart := false }
def BlurAllSaid : Prop := blurAllRow.holds Try.pinned (OpenSpec.ofChange blurAllSpec)

/-- ITS FALSE NEIGHBOUR: 'it returns false'. Refute it at one input. -/
def blurAllWrong : ChangeSpec := { name := "blurAll", fn := fun _ => fun
  | [d] => { results := [.lit (.bool false)], args := [d] }
  | _ => none }
def BlurAllWrongFalsely : Prop := blurAllRow.holds Try.pinned (OpenSpec.ofChange blurAllWrong)

/- THE SECOND FORM. 'bulk': how many values and letters a reading holds, each counted each time it is reached (what is shared counts as often as it is met; a slice's spare places count too). A statement '..UptoSaid' is the law's where the arguments, and the package variables that the reading takes, are together of bulk at most 1048576: NARROWER than '..Said'. Prove '..Said' where nothing that the law and all that it calls make is longer than what came in: it says more and counts as full. Else prove '..UptoSaid'. A law counts once. -/
mutual
def uptoBulk {H : Type} : DataW H → Nat
  | .lit (.string bytes) => bytes.length + 1
  | .lit _ => 1
  | .nil => 1
  | .ptr d => uptoBulk d + 1
  | .slice elems spare => uptoBulkAll elems + uptoBulkAll spare + 1
  | .agg parts => uptoBulkAll parts + 1
  | .iface _ d => uptoBulk d + 1
  | .map entries => uptoBulkEntries entries + 1
  | .held _ => 1
def uptoBulkAll {H : Type} : List (DataW H) → Nat
  | [] => 0
  | d :: r => uptoBulk d + uptoBulkAll r
def uptoBulkEntries {H : Type} : List (Lit × DataW H) → Nat
  | [] => 0
  | x :: r => uptoBulkEntry x + uptoBulkEntries r
def uptoBulkEntry {H : Type} : Lit × DataW H → Nat
  | (.string bytes, d) => bytes.length + uptoBulk d + 1
  | (_, d) => uptoBulk d + 1
 end
def uptoSmall : (H : Type) → List (DataW H) → Bool := fun _ ds => decide (uptoBulkAll ds ≤ 1048576)
def OpenSpec.upto (s : _root_.Go.ChangeSpec) : _root_.Go.OpenSpec := { _root_.Go.OpenSpec.ofChange s with cond := some uptoSmall }

/-- 'scrutinylaw10.BlurTells', WHERE WHAT IT READS IS OF BULK AT MOST 1048576: true; the input reads as it did. -/
def blurTellsUptoRow : OpenClaim := { program := "ytejjmfladieipaa", sum := "7b30a1857ace3437ddbb17da8c03cc8ecb1535ce04b8b1c6cbb3ede8bf772701", func := "scrutiny/scrutinylaw10.BlurTells", spec := "blurTells", unfollowed := true, recurses := true, apart := false, narrowed := true }
def BlurTellsUptoSaid : Prop := blurTellsUptoRow.holds Try.pinned (OpenSpec.upto blurTellsSpec)

/-- 'scrutinylaw10.BlurNever', WHERE WHAT IT READS IS OF BULK AT MOST 1048576: true; the input reads as it did. -/
def blurNeverUptoRow : OpenClaim := { program := "ytejjmfladieipaa", sum := "7b30a1857ace3437ddbb17da8c03cc8ecb1535ce04b8b1c6cbb3ede8bf772701", func := "scrutiny/scrutinylaw10.BlurNever", spec := "blurNever", unfollowed := true, recurses := true, apart := false, narrowed := true }
def BlurNeverUptoSaid : Prop := blurNeverUptoRow.holds Try.pinned (OpenSpec.upto blurNeverSpec)

/-- 'scrutinylaw10.BlurOld', WHERE WHAT IT READS IS OF BULK AT MOST 1048576: true; the input reads as it did. -/
def blurOldUptoRow : OpenClaim := { program := "ytejjmfladieipaa", sum := "7b30a1857ace3437ddbb17da8c03cc8ecb1535ce04b8b1c6cbb3ede8bf772701", func := "scrutiny/scrutinylaw10.BlurOld", spec := "blurOld", unfollowed := true, recurses := true, apart := false, narrowed := true }
def BlurOldUptoSaid : Prop := blurOldUptoRow.holds Try.pinned (OpenSpec.upto blurOldSpec)

/-- 'scrutinylaw10.BlurAll', WHERE WHAT IT READS IS OF BULK AT MOST 1048576: true; the input reads as it did. -/
def blurAllUptoRow : OpenClaim := { program := "ytejjmfladieipaa", sum := "7b30a1857ace3437ddbb17da8c03cc8ecb1535ce04b8b1c6cbb3ede8bf772701", func := "scrutiny/scrutinylaw10.BlurAll", spec := "blurAll", unfollowed := true, recurses := true, apart := false, narrowed := true }
def BlurAllUptoSaid : Prop := blurAllUptoRow.holds Try.pinned (OpenSpec.upto blurAllSpec)

end Rows
end Go.Proofs.Ytejjmfladieipaa
