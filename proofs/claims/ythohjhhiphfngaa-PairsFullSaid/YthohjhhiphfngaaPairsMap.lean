/- Pairs as keys of a map. -/
import Derived.Test.YthohjhhiphfngaaPairsFn2
import Derived.Test.YthohjhhiphfngaaLibMap
namespace Go.Proofs.Ythohjhhiphfngaa
open Go Lg

theorem wf_u32 {z : Int} (h : (Lit.int .u32 z).wf = true) : U32 z := by
  simp [Lit.wf, IntKind.min, IntKind.max, IntKind.signed, IntKind.bits] at h
  exact ⟨by omega, by omega⟩

def pk2 (z : Int × Int) : List Int := pk z.1 z.2

open Classical in
noncomputable def pm (k : List Int) : MK :=
  if h : ∃ z : Int × Int, U32 z.1 ∧ U32 z.2 ∧ k = pk z.1 z.2 then .p .u32 h.choose.1 h.choose.2 else .p .u32 0 0

theorem pm_pk {a b : Int} (ha : U32 a) (hb : U32 b) : pm (pk a b) = .p .u32 a b := by
  have h : ∃ z : Int × Int, U32 z.1 ∧ U32 z.2 ∧ pk a b = pk z.1 z.2 := ⟨(a, b), ha, hb, rfl⟩
  unfold pm
  rw [dif_pos h]
  obtain ⟨h1, h2, h3⟩ := h.choose_spec
  rw [pk_inj ha hb h1 h2] at h3
  rw [← h3.1, ← h3.2]

theorem pm_inj {ys : List (Int × Int)} (hu : ∀ z ∈ ys, U32 z.1 ∧ U32 z.2) {K : List (List Int)} (hK : ∀ x ∈ K, x ∈ ys.map pk2) {a b : Int} (ha : U32 a) (hb : U32 b) : ∀ x ∈ K, pm x = pm (pk a b) → x = pk a b := by
  intro x hx e
  obtain ⟨z, hz, rfl⟩ := List.mem_map.1 (hK x hx)
  obtain ⟨h1, h2⟩ := hu z hz
  rw [pk2, pm_pk h1 h2, pm_pk ha hb] at e
  simp only [MK.p.injEq, true_and] at e
  rw [pk2, e.1, e.2]

end Go.Proofs.Ythohjhhiphfngaa
