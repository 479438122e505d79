/- A call after which the rows that it read are lists in the rows that hold them. -/
import Derived.Test.YtjoffkghcjfbeaaLibAcc
namespace Lg
open Go
def thaw (H0 : Heap) (c : L) : L := (reso H0 4 c).getD c
def thawRows (ks : List Nat) (H : Heap) : Heap := (pickRows false ks 0 H).map fun r => r.map fun ls => ls.map (thaw (pickRows true ks 0 H))
theorem thawRows_get {ks : List Nat} {H : Heap} {h : Nat} {c : List L} (e : (thawRows ks H)[h]? = some (some c)) : ∃ c0, (pickRows false ks 0 H)[h]? = some (some c0) ∧ c = c0.map (thaw (pickRows true ks 0 H)) := by
 unfold thawRows at e
 rw [List.getElem?_map] at e
 cases hp : (pickRows false ks 0 H)[h]? with
 | none => simp [hp] at e
 | some r =>
  cases r with
  | none => simp [hp] at e
  | some c0 => simp [hp] at e; exact ⟨c0, rfl, e.symm⟩
theorem callAt_thaw {P : Program} {f : FuncId} {ls ls' : List L} {r : L} {H : Heap} {K : L → Heap → Prop} (ks : List Nat) (h : PC P f ls' r) (hr : mapO (reso (pickRows true ks 0 H) 4) ls = some ls') (hk : K r (thawRows ks H)) : callAt P f ls H K := by
 refine ⟨h.1, fun η S w vs hC hv => ?_⟩
 have hCd := hC.pick true ks
 let S₁ : Nat → Prop := fun b => S b ∨ ∃ (h : Nat) (ls : List L), η[h]? = some b ∧ (pickRows true ks 0 H)[h]? = some (some ls)
 have hS₁ : ∀ b, S₁ b → b < w.heap.size := fun b hb => by
  rcases hb with hb | ⟨h, ls, e, -⟩
  ·exact hC.Slt b hb
  ·exact hC.lt b (List.mem_of_getElem? e)
 have hv' : RelAll [] S₁ w vs ls' := by
  obtain ⟨h1, h2⟩ := hv
  obtain ⟨e1, e2⟩ := rel_mapO hr h2 (fun x l l' => reso_live hCd (fun b hb => hb) 4 x l l')
  exact ⟨by omega, e2⟩
 refine (h.2 S₁ w vs hS₁ hv').mono ?_
 rintro e w' ⟨v, S', rfl, h1, h2, h3⟩
 have hsame : ∀ b : Nat, b < w.heap.size → w'.heap[b]? = w.heap[b]? := fun b hb => h2.frame b hb (by simp)
 have hnew : ∀ b, S' b → S₁ b ∨ w.heap.size ≤ b := fun b hb => by
  rcases h2.new b hb with h | h | h
  ·exact .inl h
  ·simp at h
  ·exact .inr h
 have hsub : ∀ b, S b → S' b := fun b hb => h2.sub b (.inl hb)
 have lt_of : ∀ (b : Nat) o, w.heap[b]? = some o → b < w.heap.size := fun b o ho => by
  rcases Nat.lt_or_ge b w.heap.size with h | h
  ·exact h
  ·simp [Array.getElem?_eq_none h] at ho
 refine ⟨v, r, _, η, S', rfl, hk, h1.nil, ⟨by simp [thawRows, pickRows_length]; exact hC.len, fun b hb => Nat.lt_of_lt_of_le (hC.lt b hb) h2.size, h3, fun h b ls e1 e2 => ?_, fun h b ls e1 e2 => ?_⟩, ⟨⟨[], by simp, by simp⟩, hsub, fun b hb => hsame b (hC.Slt b hb), h2.shape, h2.size, fun b hb _ => hsame b hb, fun b hb => ?_, h2.os, h2.tape, h2.output⟩⟩
 ·obtain ⟨c0, e2, -⟩ := thawRows_get e2
  obtain ⟨q1, q2⟩ := pickRows_get e2
  obtain ⟨p1, p2⟩ := hC.apart h b _ e1 q1
  refine ⟨fun hs => ?_, fun h' ls' f1 f2 => by
   obtain ⟨c1, f2, -⟩ := thawRows_get f2
   exact p2 h' _ f1 (pickRows_get f2).1⟩
  rcases hnew b hs with hs | hs
  ·rcases hs with hs | ⟨h', ls', f1, f2⟩
   ·exact p1 hs
   ·obtain ⟨g1, g2⟩ := pickRows_get f2
    have := p2 h' ls' f1 g1
    subst this
    cases hk : ks.contains (0 + h') <;> simp_all
  ·have := hC.lt b (List.mem_of_getElem? e1); omega
 ·obtain ⟨c0, e3, rfl⟩ := thawRows_get e2
  obtain ⟨q1, q2⟩ := pickRows_get e3
  obtain ⟨o0, g1⟩ := (hC.liveAt h b _ e1 q1).some
  have hw := hsame b (lt_of b _ g1)
  have up : ∀ {η x l}, Rel S w η x l → Rel S' w' η x l := fun hr => hr.mono hsub (fun b hb => hsame b (hC.Slt b hb)) h2.shape (fun _ _ h => h)
  rcases hC.liveAt h b _ e1 q1 with ⟨c, t, fr, r1, r2, r3, r4⟩ | ⟨kk, es, rfl, ms, clock, m1, m2⟩ | ⟨rc, st, pd, kz, ts, rfl, hm⟩ | ⟨kk, es, sn, rfl, m, g1, g2, g3⟩
  rotate_right
  ·have : ([L.it kk es sn]).map (thaw (pickRows true ks 0 H)) = [L.it kk es sn] := by simp [thaw, reso]
   rw [this]
   exact .inr (.inr (.inr ⟨kk, es, sn, rfl, m, hw.trans g1, up g2, g3⟩))
  ·refine .inl ⟨c, t, fr, hw.trans r1, by simpa using r2, r3, fun j hj => ?_⟩
   simp only [List.length_map] at hj
   have hj0 := r4 j hj
   rw [show (c0.map (thaw (pickRows true ks 0 H))).getD j .any = thaw (pickRows true ks 0 H) (c0.getD j .any) by simp [List.getD, hj]]
   unfold thaw
   cases hre : reso (pickRows true ks 0 H) 4 (c0.getD j .any) with
   | none => exact up hj0
   | some l' =>
    have := reso_live hCd (S' := S₁) (fun b hb => hb) 4 _ _ l' hj0 hre
    exact (this.mono h2.sub (fun b hb => hsame b (hS₁ b hb)) h2.shape (fun _ _ h => h)).nil
  ·have : ([L.mp kk es]).map (thaw (pickRows true ks 0 H)) = [L.mp kk es] := by simp [thaw, reso]
   rw [this]
   exact .inr (.inl ⟨kk, es, rfl, ms, clock, hw.trans m1, m2⟩)
  ·have : ([L.lp rc st pd kz ts]).map (thaw (pickRows true ks 0 H)) = [L.lp rc st pd kz ts] := by simp [thaw, reso]
   rw [this]
   exact .inr (.inr (.inl ⟨rc, st, pd, kz, ts, rfl, hm.mono hw fun _ _ h => up h⟩))
 ·rcases hnew b hb with hb | hb
  ·rcases hb with hb | ⟨h, ls, e, -⟩
   ·exact .inl hb
   ·exact .inr (.inl (List.mem_of_getElem? e))
  ·exact .inr (.inr hb)
theorem callT_thaw {z : Bool} {P : Program} {H : Heap} {E : Env} {f : FuncId} {ls ls' : List L} {r : L} {dst rest K} (ks : List Nat) (h : PC P f ls' r) (hr : mapO (reso (pickRows true ks 0 H) 4) ls = some ls') (hk : lops P rest K (putE E dst r) (thawRows ks H)) : callT (z := z) P f ls H dst rest K E := callT_of (callAt_thaw ks h hr hk)
attribute [simp] thawRows thaw
end Lg

