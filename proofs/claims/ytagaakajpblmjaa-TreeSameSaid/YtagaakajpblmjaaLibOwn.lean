/- A call that writes one own row of plain cells. -/
import Derived.Test.YtagaakajpblmjaaLibAcc
import Derived.Test.YtagaakajpblmjaaLgNX
namespace Lg
open Go
def argOwn (k : Nat) (H : Heap) : L → Option L
  | .ptr h off => if h = k then some (.ptr 0 off) else none
  | l => reso (pickRows true [] 0 H) 4 l
def ownK (R : L → List L → Prop) (l : L) (H' : Heap) : Prop := ∃ r0 r c', R r c' ∧ c'.all closed = true ∧ H'[0]? = some (some c') ∧ reso (H'.set 0 none) 4 l = some r0 ∧ Sub r0 r
theorem callAt_own {P : Program} {f : FuncId} {ls ls' : List L} {H : Heap} {K : L → Heap → Prop} {R : L → List L → Prop} (k : Nat) {c0 : List L} (hk : H[k]? = some (some c0)) (hc0 : c0.all closed = true)
    (hr : mapO (argOwn k H) ls = some ls') (h : callAt P f ls' [some c0] (ownK R)) (hK : ∀ r c', R r c' → K r (H.set k (some c'))) : callAt P f ls H K := by
  refine ⟨h.1, fun η S w vs hC hv => ?_⟩
  have hklt : k < H.length := (List.getElem?_eq_some_iff.1 hk).1
  obtain ⟨β, hβ⟩ : ∃ β, η[k]? = some β := ⟨_, List.getElem?_eq_getElem (by rw [hC.len]; exact hklt)⟩
  have hβm : β ∈ η := List.mem_of_getElem? hβ
  obtain ⟨a1, a2⟩ := hC.apart k β c0 hβ hk
  have cl : ∀ {S' : Nat → Prop} {w' : World} {η1 η2 : List Nat} {cs : List L} {g : Nat → Value}, cs.all closed = true → (∀ j, j < cs.length → Rel S' w' η1 (g j) (cs.getD j .any)) → ∀ j, j < cs.length → Rel S' w' η2 (g j) (cs.getD j .any) := fun {S' w' η1 η2 cs g} hcl hg j hj => by
    have := hg j hj
    refine (this.closed ?_).nil
    rw [getD_of_lt _ _ hj]
    exact List.all_eq_true.1 hcl _ (List.getElem_mem _)
  have hC1 : Conc [β] S w [some c0] := by
    refine ⟨rfl, fun b hb => by rw [List.mem_singleton.1 hb]; exact hC.lt β hβm, hC.Slt, fun h b ls e1 e2 => ?_, fun h b ls e1 e2 => ?_⟩
    · have hh : h = 0 := by
        rcases h with _ | h
        · rfl
        · simp at e1
      subst hh
      simp only [List.getElem?_cons_zero, Option.some.injEq] at e1 e2
      subst e1; subst e2
      exact ⟨a1, fun h' ls' f1 _ => by rcases h' with _ | h'; rfl; simp at f1⟩
    · have hh : h = 0 := by
        rcases h with _ | h
        · rfl
        · simp at e1
      subst hh
      simp only [List.getElem?_cons_zero, Option.some.injEq] at e1 e2
      subst e1; subst e2
      rcases hC.liveAt k β c0 hβ hk with ⟨c, t, fr, q1, q2, q3, q4⟩ | ⟨kk, es, rfl, hm⟩ | ⟨rc, st, pd, ks, ts, rfl, hm⟩
      · exact .inl ⟨c, t, fr, q1, q2, q3, cl hc0 q4⟩
      · exact .inr (.inl ⟨kk, es, rfl, hm⟩)
      · simp [closed] at hc0
  have hCd := hC.pick true []
  have hv' : RelAll [β] S w vs ls' := by
    obtain ⟨h1, h2⟩ := hv
    have one : ∀ (x : Value) (l l' : L), Rel S w η x l → argOwn k H l = some l' → Rel S w [β] x l' := fun x l l' hx hl => by
      cases l with
      | ptr h off =>
        simp only [argOwn] at hl
        split at hl
        · rename_i e; subst e
          simp only [Option.some.injEq] at hl
          subst hl
          obtain ⟨b, rfl, q1, c, t, fr, q2⟩ := hx.inv_ptr
          rw [hβ] at q1; cases q1
          exact .ptr rfl q2
        · simp at hl
      | _ => exact (reso_live hCd (S' := S) (fun b hb => by
          rcases hb with hb | ⟨h, ls, -, e⟩
          · exact hb
          · have := (pickRows_get e).2; simp at this) 4 x _ l' hx hl).nil
    obtain ⟨e1, e2⟩ := mapO_some hr
    refine ⟨by omega, fun j => ?_⟩
    by_cases hj : j < ls.length
    · exact one _ _ _ (h2 j) (e2 j hj)
    · rw [getD_of_ge _ _ (by omega)]; exact .any _
  refine (h.2 [β] S w vs hC1 hv').mono ?_
  rintro ex w' ⟨v, l, H', η', S', rfl, ⟨r0, r, c', hRr, hcl, h0, hre, hsub⟩, h1, h2, h3⟩
  obtain ⟨ζ, rfl, hζ⟩ := h3.pre
  have hβ' : ([β] ++ ζ)[0]? = some β := rfl
  obtain ⟨b1, b2⟩ := h2.apart 0 β c' hβ' h0
  have setGet : ∀ {h : Nat} {ls}, (H'.set 0 none)[h]? = some (some ls) → h ≠ 0 ∧ H'[h]? = some (some ls) := fun {h ls} e => by
    rcases h with _ | h
    · rw [List.getElem?_set] at e
      split at e <;> simp_all
    · exact ⟨by omega, by rw [List.getElem?_set_ne (by omega)] at e; exact e⟩
  have hCs : Conc ([β] ++ ζ) S' w' (H'.set 0 none) := by
    refine ⟨by simpa using h2.len, h2.lt, h2.Slt, fun h b ls e1 e2 => ?_, fun h b ls e1 e2 => h2.liveAt h b ls e1 (setGet e2).2⟩
    obtain ⟨p1, p2⟩ := h2.apart h b ls e1 (setGet e2).2
    exact ⟨p1, fun h' ls' f1 f2 => p2 h' ls' f1 (setGet f2).2⟩
  have hr1 := reso_live hCs (S' := fun b => S' b ∨ ∃ (h : Nat) (ls : List L), ([β] ++ ζ)[h]? = some b ∧ (H'.set 0 none)[h]? = some (some ls)) (fun b hb => hb) 4 v l r0 h1 hre
  have notβ : ¬ (S' β ∨ ∃ (h : Nat) (ls : List L), ([β] ++ ζ)[h]? = some β ∧ (H'.set 0 none)[h]? = some (some ls)) := by
    rintro (hs | ⟨h, ls, e1, e2⟩)
    · exact b1 hs
    · obtain ⟨q1, q2⟩ := setGet e2
      exact q1 (b2 h ls e1 q2)
  have hnew : ∀ b, (S' b ∨ ∃ (h : Nat) (ls : List L), ([β] ++ ζ)[h]? = some b ∧ (H'.set 0 none)[h]? = some (some ls)) → S b ∨ w.heap.size ≤ b := fun b hb => by
    have hne : b ≠ β := fun e => notβ (e ▸ hb)
    rcases hb with hb | ⟨h, ls, e1, e2⟩
    · rcases h3.new b hb with h | h | h
      · exact .inl h
      · exact absurd (List.mem_singleton.1 h) hne
      · exact .inr h
    · rcases List.mem_append.1 (List.mem_of_getElem? e1) with h | h
      · exact absurd (List.mem_singleton.1 h) hne
      · rcases hζ b h with h | h
        · exact absurd (List.mem_singleton.1 h) hne
        · exact .inr h
  have up : ∀ {η x l}, Rel S w η x l → Rel (fun b => S' b ∨ ∃ (h : Nat) (ls : List L), ([β] ++ ζ)[h]? = some b ∧ (H'.set 0 none)[h]? = some (some ls)) w' η x l := fun hx => hx.mono (fun b hb => .inl (h3.sub b hb)) h3.keep h3.shape (fun _ _ h => h)
  refine ⟨v, r, H.set k (some c'), η, _, rfl, hK r c' hRr, (hr1.sub hsub).nil, ⟨by simpa using hC.len, fun b hb => Nat.lt_of_lt_of_le (hC.lt b hb) h3.size, fun b hb => ?_, fun h b ls e1 e2 => ?_, fun h b ls e1 e2 => ?_⟩,
    ⟨⟨[], by simp, by simp⟩, fun b hb => .inl (h3.sub b hb), h3.keep, h3.shape, h3.size, fun b hb hne => h3.frame b hb (fun h => hne (by rw [List.mem_singleton.1 h]; exact hβm)), fun b hb => ?_, h3.os, h3.tape, h3.output⟩⟩
  · rcases hb with hb | ⟨h, ls, e1, -⟩
    · exact h2.Slt b hb
    · exact h2.lt b (List.mem_of_getElem? e1)
  · -- apart
    have hgetH : ∀ {h' : Nat} {ls'}, (H.set k (some c'))[h']? = some (some ls') → ∃ ls0, H[h']? = some (some ls0) := fun {h' ls'} e => by
      by_cases he : h' = k
      · subst he; exact ⟨_, hk⟩
      · rw [List.getElem?_set_ne (by omega)] at e; exact ⟨_, e⟩
    obtain ⟨ls0, g0⟩ := hgetH e2
    obtain ⟨p1, p2⟩ := hC.apart h b ls0 e1 g0
    refine ⟨fun hs => ?_, fun h' ls' f1 f2 => by obtain ⟨ls1, g1⟩ := hgetH f2; exact p2 h' ls1 f1 g1⟩
    rcases hnew b hs with hs | hs
    · exact p1 hs
    · have := hC.lt b (List.mem_of_getElem? e1); omega
  · by_cases he : h = k
    · subst he
      rw [hβ] at e1; cases e1
      rw [List.getElem?_set_self hklt] at e2
      cases e2
      rcases h2.liveAt 0 β c' hβ' h0 with ⟨c, t, fr, q1, q2, q3, q4⟩ | ⟨kk, es, rfl, hm⟩ | ⟨rc, st, pd, ks, ts, rfl, hm⟩
      · refine .inl ⟨c, t, fr, q1, q2, q3, fun j hj => ?_⟩
        have := cl (η2 := []) hcl q4 j hj
        exact (this.mono (fun _ h => .inl h) (fun _ _ => rfl) (fun _ c _ fr h => ⟨c, fr, h, rfl⟩) (fun _ _ h => h)).nil
      · simp [closed] at hcl
      · simp [closed] at hcl
    · rw [List.getElem?_set_ne (by omega)] at e2
      have hne : b ≠ β := fun e => by subst e; exact he (a2 h ls e1 e2)
      have hw : w'.heap[b]? = w.heap[b]? := h3.frame b (hC.lt b (List.mem_of_getElem? e1)) (fun h => hne (List.mem_singleton.1 h))
      rcases hC.liveAt h b ls e1 e2 with ⟨c, t, fr, q1, q2, q3, q4⟩ | ⟨kk, es, rfl, ms, clock, m1, m2⟩ | ⟨rc, st, pd, ks, ts, rfl, hm⟩
      · exact .inl ⟨c, t, fr, hw.trans q1, q2, q3, fun j hj => up (q4 j hj)⟩
      · exact .inr (.inl ⟨kk, es, rfl, ms, clock, hw.trans m1, m2⟩)
      · exact .inr (.inr ⟨rc, st, pd, ks, ts, rfl, hm.mono hw fun _ _ h => up h⟩)
  · rcases hnew b hb with h | h
    · exact .inl h
    · exact .inr (.inr h)
theorem callT_own {z : Bool} {P : Program} {E : Env} {f : FuncId} {ls ls' : List L} {H : Heap} {dst rest} {K : Env → Heap → Prop} {R : L → List L → Prop} (k : Nat) {c0 : List L} (hk : H[k]? = some (some c0)) (hc0 : c0.all closed = true)
    (hr : mapO (argOwn k H) ls = some ls') (h : callAt P f ls' [some c0] (ownK R)) (hK : ∀ r c', R r c' → lops P rest K (putE E dst r) (H.set k (some c'))) : callT (z := z) P f ls H dst rest K E :=
  callT_of (callAt_own k hk hc0 hr h hK)
def stK (pu : List O) (E : Env) (H : Heap) : Prop := ∀ o ∈ pu, stableO o E H
def lotT (P : Program) (pu : List O) (t : OT) (K : Env → Heap → Prop) (E : Env) (H : Heap) : Prop := lot P (fun E2 H2 => ∀ o ∈ pu, stableO o E2 H2) t K E H
def lotK (P : Program) (pu : List O) (t : OT) (K : Env → Heap → Prop) (E : Env) (H : Heap) : Prop := stK pu E H ∧ lotT P pu t K E H
def lot0 (P : Program) (pu : List O) (t : OT) (H0 : Heap) (K : Env → Heap → Prop) (E : Env) (H : Heap) : Prop := H = H0 ∧ lotK P pu t K E H
theorem stK_nil {E H} : stK [] E H = True := by simp [stK]
theorem stK_cons {o pu E H} : stK (o :: pu) E H = (stableO o E H ∧ stK pu E H) := by simp [stK]
theorem lotT_done {P pu K E H} : lotT P pu .done K E H = K E H := eqOf rfl
theorem lotT_none {P pu K E H} : lotT P pu .none K E H = True := eqOf rfl
theorem lotT_alt {P pu o t more K E H} : lotT P pu (.alt o t more) K E H = (lops1 P o (lotK P pu t K) E H ∧ lotT P pu more K E H) := eqOf rfl
theorem lotK_eq {P pu t K E H} : lotK P pu t K E H = (stK pu E H ∧ lotT P pu t K E H) := eqOf rfl
theorem lot0_eq {P pu t H0 K E H} : lot0 P pu t H0 K E H = (H = H0 ∧ lotK P pu t K E H) := eqOf rfl
theorem stable_eq {dst op g d E H} (h : dst = some d) : stableO ⟨dst, op, g⟩ E H = (lopO op E H = some (lk E d, H)) := by subst h; exact eqOf rfl
theorem lwp_drawN1' {P : Program} {k : Nat} {Q : X → Env → Heap → Prop} {E : Env} {H : Heap} {pu : List O} {t : OT} (reads : lops P pu (lot0 P pu t H (Q .normal)) E H) : lwp P k (.drawN pu t) Q E H := lwp_drawN1 reads
attribute [simp] stK_nil stK_cons lotT_done lotT_none lotT_alt lotK_eq lot0_eq stableO
def retO (o : Option L) (P : Program) (dst : Option Nat) (rest : List O) (K : Env → Heap → Prop) (E : Env) (H : Heap) : Prop := optK o fun l => lops P rest K (putE E dst l) H
def retX (P : Program) (res : List RV) (dst : Option Nat) (rest : List O) (K : Env → Heap → Prop) (E : Env) : X → Env → Heap → Prop := fnPost res fun l H' => lops P rest K (putE E dst l) H'
theorem retO_some {l P dst rest K E H} : retO (some l) P dst rest K E H = lops P rest K (putE E dst l) H := by simp [retO, optK]
theorem retX_ret {P a s ag dst rest K E E1 H1} : retX P [.c a s ag] dst rest K E .ret E1 H1 = retO (loadL s ag H1 (lk E1 a)) P dst rest K E H1 := by
  unfold retX retO
  rw [fnPost_ret]
  show optK (resL E1 H1 [.c a s ag]) (fun ls => lops P rest K (putE E dst (res1 ls)) H1) = _
  rw [show resL E1 H1 [.c a s ag] = (loadL s ag H1 (lk E1 a)).bind fun l => some [l] from rfl]
  generalize loadL s ag H1 (lk E1 a) = o
  cases o <;> simp [res1, optK]
theorem callT_enterS {z : Bool} {P : Program} {sel : Nat → Bool} {f : Nat} {F : FnIR} (hF : compFS sel P f = some F) {ls : List L} {H : Heap} {dst rest} {K : Env → Heap → Prop} {E : Env} (hn : ls.length ≤ F.n)
    (h : lwp P H.length F.body (retX P F.res dst rest K E) (params 0 ls) H) : callT (z := z) P f ls H dst rest K E := callT_of (callAt_enterS hF hn h)
theorem callT_enter {z : Bool} {P : Program} {f : Nat} {F : FnIR} (hF : compF P f = some F) {ls : List L} {H : Heap} {dst rest} {K : Env → Heap → Prop} {E : Env} (hn : ls.length ≤ F.n)
    (h : lwp P H.length F.body (retX P F.res dst rest K E) (params 0 ls) H) : callT (z := z) P f ls H dst rest K E := callT_of (callAt_enter hF hn h)
attribute [simp] retO_some retX_ret
end Lg
