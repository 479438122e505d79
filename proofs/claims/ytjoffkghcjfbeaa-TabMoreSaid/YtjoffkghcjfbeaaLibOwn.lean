/- A call that writes one own row of plain cells. -/
import Derived.Test.YtjoffkghcjfbeaaLibAcc
import Derived.Test.YtjoffkghcjfbeaaLgNX
namespace Lg
open Go
def stK (pu : List O) (E : Env) (H : Heap) : Prop := ∀ o ∈ pu, stableO o E H
def lotT (P : Program) (pu : List O) (t : OT) (K : Env → Heap → Prop) (E : Env) (H : Heap) : Prop := lot P (fun E2 H2 => ∀ o ∈ pu, stableO o E2 H2) t K E H
def lotK (P : Program) (pu : List O) (t : OT) (K : Env → Heap → Prop) (E : Env) (H : Heap) : Prop := stK pu E H ∧ lotT P pu t K E H
def lot0 (P : Program) (pu : List O) (t : OT) (H0 : Heap) (K : Env → Heap → Prop) (E : Env) (H : Heap) : Prop := H = H0 ∧ lotK P pu t K E H
theorem stK_nil {E H} : stK [] E H = True := by simp [stK]
theorem stK_cons {o pu E H} : stK (o :: pu) E H = (stableO o E H ∧ stK pu E H) := by simp [stK]
theorem lotT_done {P pu K E H} : lotT P pu .done K E H = K E H := eqOf rfl
theorem lotT_none {P pu K E H} : lotT P pu .none K E H = True := eqOf rfl
theorem lotT_alt {P pu o t more K E H} : lotT P pu (.alt o t more) K E H = (lops1 P o (lotK P pu t K) E H ∧ lotT P pu more K E H) := eqOf rfl
theorem lotK_eq {P pu t K E H} : lotK P pu t K E H = (stK pu E H ∧ lotT P pu t K E H) := eqOf rfl
theorem lot0_eq {P pu t H0 K E H} : lot0 P pu t H0 K E H = (H = H0 ∧ lotK P pu t K E H) := eqOf rfl
theorem lwp_drawN1' {P : Program} {k : Nat} {Q : X → Env → Heap → Prop} {E : Env} {H : Heap} {pu : List O} {t : OT} (reads : lops P pu (lot0 P pu t H (Q .normal)) E H) : lwp P k (.drawN pu t) Q E H := lwp_drawN1 reads
attribute [simp] stK_nil stK_cons lotT_done lotT_none lotT_alt lotK_eq lot0_eq stableO
def retO (o : Option L) (P : Program) (dst : Option Nat) (rest : List O) (K : Env → Heap → Prop) (E : Env) (H : Heap) : Prop := optK o fun l => lops P rest K (putE E dst l) H
def retX (P : Program) (res : List RV) (dst : Option Nat) (rest : List O) (K : Env → Heap → Prop) (E : Env) : X → Env → Heap → Prop := fnPost res fun l H' => lops P rest K (putE E dst l) H'
theorem retO_some {l P dst rest K E H} : retO (some l) P dst rest K E H = lops P rest K (putE E dst l) H := by simp [retO, optK]
theorem retX_ret {P a s ag dst rest K E E1 H1} : retX P [.c a s ag] dst rest K E .ret E1 H1 = retO (loadL s ag H1 (lk E1 a)) P dst rest K E H1 := by
 unfold retX retO
 rw [fnPost_ret]
 show optK (resL E1 H1 [.c a s ag]) (fun ls => lops P rest K (putE E dst (res1 ls)) H1) = _
 rw [show resL E1 H1 [.c a s ag] = (loadL s ag H1 (lk E1 a)).bind fun l => some [l] from rfl]
 generalize loadL s ag H1 (lk E1 a) = o
 cases o <;> simp [res1, optK]
attribute [simp] retO_some retX_ret
end Lg

