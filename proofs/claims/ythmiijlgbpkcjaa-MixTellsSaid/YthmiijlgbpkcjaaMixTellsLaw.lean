/- The first statement of mix. -/
import Derived.Test.YthmiijlgbpkcjaaRows
import Derived.WalkKit
import Derived.ProofKit
import Derived.OpenShut
import Derived.ChangeOld
import Derived.Below
import Derived.SizedLaws
import Derived.Test.YthmiijlgbpkcjaaMixTells
import Derived.Test.YthmiijlgbpkcjaaLgV
namespace Go.Proofs.Ythmiijlgbpkcjaa
namespace mixTells
open Go.ChangeShapes Go.WideShapes Go.ChangeAt Go.RowKit Lg

theorem own : ownKnob Try.prog.godebug = none := by kernel_rfl
theorem laidOut : laidOutB Try.prog = true := by kernel_rfl

set_option maxRecDepth 100000 in
theorem lifted (os : Os) (started : os.Started) (H : Type) (enc : TypeId × Value → H) :
    ReturnsInHanded {} Try.checked os 3 .any (Rows.mixTellsSpec.pre6 enc Try.prog Try.f3 Rows.mixTellsRow.domain false) (Rows.mixTellsSpec.post enc Try.prog Try.f3 false true false false) := by
  refine returnsInHanded_of_change_sized (C := Try.checked) own started (by kernel_rfl) Try.func3
    (ChangeSpec.witness6 (enc := enc) (C := Try.checked) false ⟨#[], #[.agg #[.slice none 0 0, .int .u64 0, .int .i64 0, .int .i64 0]], []⟩ 8 (by kernel_rfl) (by kernel_rfl) (by kernel_rfl) (by kernel_rfl)) ?_
  intro W base args ds gs before hval0 hW hcnd hsz hsized
  have hval : ∀ (j : Nat) t v, Try.f3.params[j]? = some t → args[j]? = some v → Value.okWide Try.prog W .any base t v := hval0
  have hW' := hW
  obtain ⟨p, q, hA0, hV, rfl, hfz, hnd⟩ := hW
  have hA : DataW.TrodAll enc Try.prog W 0 (fun _ => true) true Try.f3.params.toList args.toList ds p := hA0
  rw [Try.params3] at hA hval
  obtain ⟨v0, vs0, d0, ds0, p0, q0, hargs, rfl, rfl, h0, r0⟩ := trodAll_cons hA
  obtain ⟨rfl, rfl, rfl⟩ := trodAll_nil r0
  obtain rfl : args = #[v0] := by cases args; simp_all
  obtain ⟨rfl, rfl⟩ := trodVars_none hV
  have k0 := h0
  have lt0 : ∀ x ∈ p0, x.block < W.heap.size := by obtain ⟨m, hm⟩ := k0; exact DataW.trod_lt m _ _ _ hm
  have hw0 : ∀ x ∈ d0.weights Try.prog 25, x ≤ 140737488351232 := fun x hx => by
    have := List.all_eq_true.1 hsz x (DataW.weights_mem_each (j := 0) (t := 25) (d := d0) rfl rfl x hx)
    exact of_decide_eq_true this
  obtain ⟨n, ls, hty, hrel⟩ := open_arg (hval 0 25 v0 rfl rfl) h0 hw0
  obtain ⟨m, hall⟩ := ty_struct hty Try.underlying25 (by kernel_rfl) (ts := [22, 23, 3, 3]) rfl
  obtain ⟨x0, y0, rfl, e0, hall⟩ := tyAll_cons hall
  obtain ⟨x1, y1, rfl, e1, hall⟩ := tyAll_cons hall
  obtain ⟨x2, y2, rfl, e2, hall⟩ := tyAll_cons hall
  obtain ⟨x3, y3, rfl, e3, hall⟩ := tyAll_cons hall
  obtain rfl : y3 = [] := hall
  obtain ⟨bs, rfl, hbs, hlen⟩ := ty_ints e0 Try.underlying22 Try.underlying5 (by kernel_rfl)
  obtain ⟨s, rfl, hs⟩ := ty_int e1 Try.underlying23
  obtain ⟨k, rfl, hk⟩ := ty_int e2 Try.underlying3
  obtain ⟨n', rfl, hn⟩ := ty_int e3 Try.underlying3

  have hag : isAggB Try.prog 25 = true := by kernel_rfl
  have hby : Try.prog.bytesOf 5 = 1 := by kernel_rfl
  rw [hag] at hrel
  rw [hby] at hlen
  simp [Lit.wf, IntKind.min, IntKind.max, IntKind.signed, IntKind.bits] at hs hk hn
  refine (law_calls (tells_any bs (by omega) s k n' (by omega) (by omega)) (.one hrel)).mono fun e W' ⟨he, bel⟩ => ?_
  subst he
  exact ⟨_, rfl, _, _, _, [], _, [], hW', trodAll_mk1 (shut_bool Try.underlying4 _), (trodAll_cons_mk (Below.trod laidOut (by kernel_rfl) (of_decide_eq_true (by kernel_rfl)) k0 bel lt0) trodAll_mk0), rfl, bel.frame _, fun h => by cases h⟩

theorem over : Rows.mixTellsRow.holds Try.pinned (OpenSpec.ofChange Rows.mixTellsSpec) :=
  OpenClaim.holds_of_wide 3 Try.f3 rfl rfl rfl rfl rfl rfl rfl ⟨rfl, rfl, rfl, rfl, rfl⟩ rfl rfl rfl rfl rfl (by kernel_rfl) Try.func3 (by kernel_rfl)
    (of_decide_eq_true (by kernel_rfl)) (by unfold Func.isWrapper; first | (rw [if_pos (by decide +kernel)]; kernel_rfl) | (rw [if_neg (by decide +kernel)]; exact ⟨rfl, rfl⟩))
    (fun os started H enc _ => lifted os started H enc)

theorem proved : Rows.MixTellsSaid := over
#print axioms proved
end mixTells
end Go.Proofs.Ythmiijlgbpkcjaa
