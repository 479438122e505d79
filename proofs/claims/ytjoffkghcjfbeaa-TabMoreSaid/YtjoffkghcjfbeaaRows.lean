/-
  NARROWER THAN 'FOR EVERY INPUT', by the rows' own cells (each row's printed sentence says how): TabTells: loops · TabTakes: loops · TabEither: loops · TabUnrolls: loops · TabMore: loops · TabParts: loops.
  DERIVED. THE GIVEN ROWS OF THIS SEAT. 6 by the template 'for every input the law returns true; each argument reads behind the call as it read before'; 0 by the template 'total and deterministic' (their statements: YtjoffkghcjfbeaaTotals.lean).
  GIVEN WITH THE SEED: the statements are not yours to turn. If you find one false, say at which input.
  Laid BY PROGRAM, IN A SANDBOX (cutbox-rows.mjs): the forced cells as the released guide's own fill.sh prints them over the translation 95d7743bd8c8f5fc… (all of the seat's roots in one cut). By AI agents, Wed Nov 11 2026. No macro, syntax, notation, axiom, sorry.
-/
import Derived.Test.YtjoffkghcjfbeaaChecked
import GoSem.Claim
import GoSem.ClaimJoined
import GoSem.ClaimMapViews
import Derived.JoinedTies
import Derived.KernelRfl
namespace Go.Proofs.Ytjoffkghcjfbeaa
/- THE CELL 'sum', in the pinned program and in every row, IS THE sha256 OF THE DUMP (.gsa) THAT YtjoffkghcjfbeaaProg.lean LOADS. Nothing in Lean hashes anything: it is a label: what it is worth is what the hold of that sum in a sandbox is worth. -/
noncomputable def Try.pinned : Pinned := { name := "ytjoffkghcjfbeaa", sum := "95d7743bd8c8f5fcf1d582b984cfd1fc65e01219f7bd49002227f364984a029a", checked := Try.checked }
namespace Rows
def none {H : Type} : Left H := { results := [], args := [] }

/-- 'scrutinylaw18.TabTells': WHATEVER THE INPUT: true; the input reads as it did. -/
def tabTellsSpec : ChangeSpec := { name := "tabTells", fn := fun _ => fun
  | [d1, d2, d3] => { results := [.lit (.bool true)], args := [d1, d2, d3] }
  | _ => none }
def tabTellsRow : OpenClaim := { program := "ytjoffkghcjfbeaa", sum := "95d7743bd8c8f5fcf1d582b984cfd1fc65e01219f7bd49002227f364984a029a", func := "scrutiny/scrutinylaw18.TabTells", spec := "tabTells", unfollowed := true, recurses := true, loops := true, plainKeys := false, apart := false }
def TabTellsSaid : Prop := tabTellsRow.holds Try.pinned (OpenSpec.ofChange tabTellsSpec)

/-- ITS FALSE NEIGHBOUR: 'it returns false'. Refute it at one input. -/
def tabTellsWrong : ChangeSpec := { name := "tabTells", fn := fun _ => fun
  | [d1, d2, d3] => { results := [.lit (.bool false)], args := [d1, d2, d3] }
  | _ => none }
def TabTellsWrongFalsely : Prop := tabTellsRow.holds Try.pinned (OpenSpec.ofChange tabTellsWrong)

/-- 'scrutinylaw18.TabTakes': WHATEVER THE INPUT: true; the input reads as it did. -/
def tabTakesSpec : ChangeSpec := { name := "tabTakes", fn := fun _ => fun
  | [d1, d2] => { results := [.lit (.bool true)], args := [d1, d2] }
  | _ => none }
def tabTakesRow : OpenClaim := { program := "ytjoffkghcjfbeaa", sum := "95d7743bd8c8f5fcf1d582b984cfd1fc65e01219f7bd49002227f364984a029a", func := "scrutiny/scrutinylaw18.TabTakes", spec := "tabTakes", unfollowed := true, recurses := true, loops := true, plainKeys := false, apart := false }
def TabTakesSaid : Prop := tabTakesRow.holds Try.pinned (OpenSpec.ofChange tabTakesSpec)

/-- ITS FALSE NEIGHBOUR: 'it returns false'. Refute it at one input. -/
def tabTakesWrong : ChangeSpec := { name := "tabTakes", fn := fun _ => fun
  | [d1, d2] => { results := [.lit (.bool false)], args := [d1, d2] }
  | _ => none }
def TabTakesWrongFalsely : Prop := tabTakesRow.holds Try.pinned (OpenSpec.ofChange tabTakesWrong)

/-- 'scrutinylaw18.TabEither': WHATEVER THE INPUT: true; the input reads as it did. -/
def tabEitherSpec : ChangeSpec := { name := "tabEither", fn := fun _ => fun
  | [d1, d2] => { results := [.lit (.bool true)], args := [d1, d2] }
  | _ => none }
def tabEitherRow : OpenClaim := { program := "ytjoffkghcjfbeaa", sum := "95d7743bd8c8f5fcf1d582b984cfd1fc65e01219f7bd49002227f364984a029a", func := "scrutiny/scrutinylaw18.TabEither", spec := "tabEither", unfollowed := true, recurses := true, loops := true, plainKeys := false, apart := false }
def TabEitherSaid : Prop := tabEitherRow.holds Try.pinned (OpenSpec.ofChange tabEitherSpec)

/-- ITS FALSE NEIGHBOUR: 'it returns false'. Refute it at one input. -/
def tabEitherWrong : ChangeSpec := { name := "tabEither", fn := fun _ => fun
  | [d1, d2] => { results := [.lit (.bool false)], args := [d1, d2] }
  | _ => none }
def TabEitherWrongFalsely : Prop := tabEitherRow.holds Try.pinned (OpenSpec.ofChange tabEitherWrong)

/-- 'scrutinylaw18.TabUnrolls': WHATEVER THE INPUT: true; the input reads as it did. -/
def tabUnrollsSpec : ChangeSpec := { name := "tabUnrolls", fn := fun _ => fun
  | [d1, d2] => { results := [.lit (.bool true)], args := [d1, d2] }
  | _ => none }
def tabUnrollsRow : OpenClaim := { program := "ytjoffkghcjfbeaa", sum := "95d7743bd8c8f5fcf1d582b984cfd1fc65e01219f7bd49002227f364984a029a", func := "scrutiny/scrutinylaw18.TabUnrolls", spec := "tabUnrolls", unfollowed := true, recurses := true, loops := true, plainKeys := false, apart := false }
def TabUnrollsSaid : Prop := tabUnrollsRow.holds Try.pinned (OpenSpec.ofChange tabUnrollsSpec)

/-- ITS FALSE NEIGHBOUR: 'it returns false'. Refute it at one input. -/
def tabUnrollsWrong : ChangeSpec := { name := "tabUnrolls", fn := fun _ => fun
  | [d1, d2] => { results := [.lit (.bool false)], args := [d1, d2] }
  | _ => none }
def TabUnrollsWrongFalsely : Prop := tabUnrollsRow.holds Try.pinned (OpenSpec.ofChange tabUnrollsWrong)

/-- 'scrutinylaw18.TabMore': WHATEVER THE INPUT: true; the input reads as it did. -/
def tabMoreSpec : ChangeSpec := { name := "tabMore", fn := fun _ => fun
  | [d] => { results := [.lit (.bool true)], args := [d] }
  | _ => none }
def tabMoreRow : OpenClaim := { program := "ytjoffkghcjfbeaa", sum := "95d7743bd8c8f5fcf1d582b984cfd1fc65e01219f7bd49002227f364984a029a", func := "scrutiny/scrutinylaw18.TabMore", spec := "tabMore", unfollowed := true, recurses := true, loops := true, plainKeys := false, apart := false }
def TabMoreSaid : Prop := tabMoreRow.holds Try.pinned (OpenSpec.ofChange tabMoreSpec)

/-- ITS FALSE NEIGHBOUR: 'it returns false'. Refute it at one input. -/
def tabMoreWrong : ChangeSpec := { name := "tabMore", fn := fun _ => fun
  | [d] => { results := [.lit (.bool false)], args := [d] }
  | _ => none }
def TabMoreWrongFalsely : Prop := tabMoreRow.holds Try.pinned (OpenSpec.ofChange tabMoreWrong)

/-- 'scrutinylaw18.TabParts': WHATEVER THE INPUT: true; the input reads as it did. -/
def tabPartsSpec : ChangeSpec := { name := "tabParts", fn := fun _ => fun
  | [d1, d2, d3] => { results := [.lit (.bool true)], args := [d1, d2, d3] }
  | _ => none }
def tabPartsRow : OpenClaim := { program := "ytjoffkghcjfbeaa", sum := "95d7743bd8c8f5fcf1d582b984cfd1fc65e01219f7bd49002227f364984a029a", func := "scrutiny/scrutinylaw18.TabParts", spec := "tabParts", unfollowed := true, recurses := true, loops := true, plainKeys := false, apart := false }
def TabPartsSaid : Prop := tabPartsRow.holds Try.pinned (OpenSpec.ofChange tabPartsSpec)

/-- ITS FALSE NEIGHBOUR: 'it returns false'. Refute it at one input. -/
def tabPartsWrong : ChangeSpec := { name := "tabParts", fn := fun _ => fun
  | [d1, d2, d3] => { results := [.lit (.bool false)], args := [d1, d2, d3] }
  | _ => none }
def TabPartsWrongFalsely : Prop := tabPartsRow.holds Try.pinned (OpenSpec.ofChange tabPartsWrong)

/- THE SECOND FORM. 'bulk': how many values and letters a reading holds, each counted each time it is reached (what is shared counts as often as it is met; a slice's spare places count too). A statement '..UptoSaid' is the law's where the arguments, and the package variables that the reading takes, are together of bulk at most 1048576: NARROWER than '..Said'. Prove '..Said' where nothing that the law and all that it calls make is longer than what came in: it says more and counts as full. Else prove '..UptoSaid'. A law counts once. -/
mutual
def uptoBulk {H : Type} : DataW H → Nat
  | .lit (.string bytes) => bytes.length + 1
  | .lit _ => 1
  | .nil => 1
  | .ptr d => uptoBulk d + 1
  | .slice elems spare => uptoBulkAll elems + uptoBulkAll spare + 1
  | .agg parts => uptoBulkAll parts + 1
  | .iface _ d => uptoBulk d + 1
  | .map entries => uptoBulkEntries entries + 1
  | .held _ => 1
def uptoBulkAll {H : Type} : List (DataW H) → Nat
  | [] => 0
  | d :: r => uptoBulk d + uptoBulkAll r
def uptoBulkEntries {H : Type} : List (Lit × DataW H) → Nat
  | [] => 0
  | x :: r => uptoBulkEntry x + uptoBulkEntries r
def uptoBulkEntry {H : Type} : Lit × DataW H → Nat
  | (.string bytes, d) => bytes.length + uptoBulk d + 1
  | (_, d) => uptoBulk d + 1
 end
def uptoSmall : (H : Type) → List (DataW H) → Bool := fun _ ds => decide (uptoBulkAll ds ≤ 1048576)
def OpenSpec.upto (s : _root_.Go.ChangeSpec) : _root_.Go.OpenSpec := { _root_.Go.OpenSpec.ofChange s with cond := some uptoSmall }

/-- 'scrutinylaw18.TabTells', WHERE WHAT IT READS IS OF BULK AT MOST 1048576: true; the input reads as it did. -/
def tabTellsUptoRow : OpenClaim := { program := "ytjoffkghcjfbeaa", sum := "95d7743bd8c8f5fcf1d582b984cfd1fc65e01219f7bd49002227f364984a029a", func := "scrutiny/scrutinylaw18.TabTells", spec := "tabTells", unfollowed := true, recurses := true, loops := true, plainKeys := false, apart := false, narrowed := true }
def TabTellsUptoSaid : Prop := tabTellsUptoRow.holds Try.pinned (OpenSpec.upto tabTellsSpec)

/-- 'scrutinylaw18.TabTakes', WHERE WHAT IT READS IS OF BULK AT MOST 1048576: true; the input reads as it did. -/
def tabTakesUptoRow : OpenClaim := { program := "ytjoffkghcjfbeaa", sum := "95d7743bd8c8f5fcf1d582b984cfd1fc65e01219f7bd49002227f364984a029a", func := "scrutiny/scrutinylaw18.TabTakes", spec := "tabTakes", unfollowed := true, recurses := true, loops := true, plainKeys := false, apart := false, narrowed := true }
def TabTakesUptoSaid : Prop := tabTakesUptoRow.holds Try.pinned (OpenSpec.upto tabTakesSpec)

/-- 'scrutinylaw18.TabEither', WHERE WHAT IT READS IS OF BULK AT MOST 1048576: true; the input reads as it did. -/
def tabEitherUptoRow : OpenClaim := { program := "ytjoffkghcjfbeaa", sum := "95d7743bd8c8f5fcf1d582b984cfd1fc65e01219f7bd49002227f364984a029a", func := "scrutiny/scrutinylaw18.TabEither", spec := "tabEither", unfollowed := true, recurses := true, loops := true, plainKeys := false, apart := false, narrowed := true }
def TabEitherUptoSaid : Prop := tabEitherUptoRow.holds Try.pinned (OpenSpec.upto tabEitherSpec)

/-- 'scrutinylaw18.TabUnrolls', WHERE WHAT IT READS IS OF BULK AT MOST 1048576: true; the input reads as it did. -/
def tabUnrollsUptoRow : OpenClaim := { program := "ytjoffkghcjfbeaa", sum := "95d7743bd8c8f5fcf1d582b984cfd1fc65e01219f7bd49002227f364984a029a", func := "scrutiny/scrutinylaw18.TabUnrolls", spec := "tabUnrolls", unfollowed := true, recurses := true, loops := true, plainKeys := false, apart := false, narrowed := true }
def TabUnrollsUptoSaid : Prop := tabUnrollsUptoRow.holds Try.pinned (OpenSpec.upto tabUnrollsSpec)

/-- 'scrutinylaw18.TabMore', WHERE WHAT IT READS IS OF BULK AT MOST 1048576: true; the input reads as it did. -/
def tabMoreUptoRow : OpenClaim := { program := "ytjoffkghcjfbeaa", sum := "95d7743bd8c8f5fcf1d582b984cfd1fc65e01219f7bd49002227f364984a029a", func := "scrutiny/scrutinylaw18.TabMore", spec := "tabMore", unfollowed := true, recurses := true, loops := true, plainKeys := false, apart := false, narrowed := true }
def TabMoreUptoSaid : Prop := tabMoreUptoRow.holds Try.pinned (OpenSpec.upto tabMoreSpec)

/-- 'scrutinylaw18.TabParts', WHERE WHAT IT READS IS OF BULK AT MOST 1048576: true; the input reads as it did. -/
def tabPartsUptoRow : OpenClaim := { program := "ytjoffkghcjfbeaa", sum := "95d7743bd8c8f5fcf1d582b984cfd1fc65e01219f7bd49002227f364984a029a", func := "scrutiny/scrutinylaw18.TabParts", spec := "tabParts", unfollowed := true, recurses := true, loops := true, plainKeys := false, apart := false, narrowed := true }
def TabPartsUptoSaid : Prop := tabPartsUptoRow.holds Try.pinned (OpenSpec.upto tabPartsSpec)

end Rows
end Go.Proofs.Ytjoffkghcjfbeaa
