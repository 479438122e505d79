/- Words written longer: what a region whose order is open makes. -/
import Derived.Test.YtjoffkghcjfbeaaLgNX
import Derived.Test.YtjoffkghcjfbeaaLibSemG
import Derived.Test.YtjoffkghcjfbeaaLibSemP
namespace Lg
open Go
def enterNF (k : Nat) {ι : Type} (mk : ι → Env) (hp : ι → Heap) (inv : ι → Prop) (E : Env) (H : Heap) : Prop := ∃ x, inv x ∧ ∃ fz, weak k (frzE H fz E) (frzH H fz 0 H) (mk x) (hp x)
theorem lwp_drawNF {P : Program} {k : Nat} {Q : X → Env → Heap → Prop} {E : Env} {H : Heap} {pu : List O} {t : OT} {ι : Type} (mk : ι → Env) (hp : ι → Heap) (inv : ι → Prop)
  (reads : lops P pu (fun E' H' => H' = H ∧ (∀ o ∈ pu, stableO o E' H') ∧ lot P (fun E2 H2 => ∀ o ∈ pu, stableO o E2 H2) t (enterNF k mk hp inv) E' H') E H)
  (next : ∀ x, inv x → Q .normal (mk x) (hp x)) : lwp P k (.drawN pu t) Q E H :=
 lops_mono (fun _ _ ⟨h1, h2, h3⟩ => ⟨h1, h2, fun E2 H2 => ∃ x, inv x ∧ E2 = mk x ∧ H2 = hp x,
  lot_mono (fun _ _ ⟨x, hx, fz, hw⟩ => .inr ⟨_, _, .inr (.inl ⟨fz, hw⟩), x, hx, rfl, rfl⟩) h3, fun _ _ ⟨x, hx, e1, e2⟩ => by subst e1; subst e2; exact next x hx⟩) reads
end Lg

