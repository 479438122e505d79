/- Rows that grow behind other rows: a state that keeps the first rows as they are. -/
import Derived.Test.YtjoffkghcjfbeaaLgNX
namespace Lg
open Go
theorem ren_id {n : Nat} {f : Nat → Nat} (hf : ∀ i, i < n → f i = i) (l : L) : below n l = true → ren f l = l := by
 refine L.rec (motive_1 := fun l => below n l = true → ren f l = l) (motive_2 := fun ls => belowL n ls = true → renL f ls = ls)
  ?_ ?_ ?_ ?_ ?_ ?_ ?_ ?_ ?_ ?_ ?_ ?_ ?_ ?_ ?_ ?_ ?_ ?_ ?_ l
 all_goals try (intros; rfl)
 ·intro cs ih h; simp only [ren]; rw [ih (by simpa [below] using h)]
 ·intro cs ih h; simp only [ren]; rw [ih (by simpa [below] using h)]
 ·intro e h off m c hb; simp only [ren]; rw [hf h (by simpa [below] using hb)]
 ·intro h off hb; simp only [ren]; rw [hf h (by simpa [below] using hb)]
 ·intro g a b iha ihb h
  simp only [below, Bool.and_eq_true] at h
  simp only [ren]; rw [iha h.1, ihb h.2]
 ·intro h hb; simp only [ren]; rw [hf h (by simpa [below] using hb)]
 ·intro h hb; simp only [ren]; rw [hf h (by simpa [below] using hb)]
 ·intro rc st pd ks ts ih h; simp only [ren]; rw [ih (by simpa [below] using h)]
 ·intro h hb; simp only [ren]; rw [hf h (by simpa [below] using hb)]
 ·intro c cs ihc ihcs h
  simp only [belowL, Bool.and_eq_true] at h
  simp only [renL]; rw [ihc h.1, ihcs h.2]
theorem renL_id {n : Nat} {f : Nat → Nat} (hf : ∀ i, i < n → f i = i) : ∀ ls : List L, belowL n ls = true → renL f ls = ls
 | [], _ => rfl
 | l :: ls, h => by
  simp only [belowL, Bool.and_eq_true] at h
  simp only [renL]; rw [ren_id hf l h.1, renL_id hf ls h.2]
theorem below_mono {n m : Nat} (hnm : n ≤ m) (l : L) : below n l = true → below m l = true := by
 refine L.rec (motive_1 := fun l => below n l = true → below m l = true) (motive_2 := fun ls => belowL n ls = true → belowL m ls = true)
  ?_ ?_ ?_ ?_ ?_ ?_ ?_ ?_ ?_ ?_ ?_ ?_ ?_ ?_ ?_ ?_ ?_ ?_ ?_ l
 all_goals try (intros; rfl)
 ·intro cs ih h; simp only [below] at h ⊢; exact ih h
 ·intro cs ih h; simp only [below] at h ⊢; exact ih h
 ·intro e h off k c hb; simp only [below, decide_eq_true_eq] at hb ⊢; omega
 ·intro h off hb; simp only [below, decide_eq_true_eq] at hb ⊢; omega
 ·intro g a b iha ihb h
  simp only [below, Bool.and_eq_true] at h ⊢
  exact ⟨iha h.1, ihb h.2⟩
 ·intro h hb; simp only [below, decide_eq_true_eq] at hb ⊢; omega
 ·intro h hb; simp only [below, decide_eq_true_eq] at hb ⊢; omega
 ·intro rc st pd ks ts ih h; simp only [below] at h ⊢; exact ih h
 ·intro h hb; simp only [below, decide_eq_true_eq] at hb ⊢; omega
 ·intro c cs ihc ihcs h
  simp only [belowL, Bool.and_eq_true] at h ⊢
  exact ⟨ihc h.1, ihcs h.2⟩
theorem belowL_mono {n m : Nat} (hnm : n ≤ m) : ∀ ls : List L, belowL n ls = true → belowL m ls = true
 | [], _ => rfl
 | l :: ls, h => by
  simp only [belowL, Bool.and_eq_true] at h ⊢
  exact ⟨below_mono hnm l h.1, belowL_mono hnm ls h.2⟩
def shut (n : Nat) : Heap → Prop
 | [] => True
 | none :: H => shut n H
 | some ls :: H => belowL n ls = true ∧ shut n H
theorem rowsOK_self {H : Heap} {f : Nat → Nat} {n : Nat} {b : Nat} (hf : ∀ i, i < b → f i = i) (hb : b ≤ n) {ss : List Nat} {cs : Heap} (h : rowsOK H f n ss cs) {H0 : Heap} : ∀ {i : Nat}, (∀ j, j < H0.length → H[i + j]? = H0[j]?) → shut b H0 → rowsOK H f n ((List.range' i H0.length) ++ ss) (H0 ++ cs) := by
 induction H0 with
 | nil => intro i _ _; simpa using h
 | cons r H0 ih =>
  intro i hget hs
  have h0 := hget 0 (by simp)
  simp only [Nat.add_zero, List.getElem?_cons_zero] at h0
  have hlt : i < H.length := by
   by_cases h' : i < H.length
   ·exact h'
   ·rw [List.getElem?_eq_none (by omega)] at h0; simp at h0
  have hnext : ∀ j, j < H0.length → H[i + 1 + j]? = H0[j]? := fun j hj => by
   have := hget (j + 1) (by simp; omega)
   rw [show i + 1 + j = i + (j + 1) by omega, this]; simp
  simp only [List.length_cons, List.range'_succ, List.cons_append, rowsOK]
  refine ⟨⟨hlt, ?_⟩, ?_⟩
  ·cases r with
   | none => trivial
   | some ls =>
    simp only [shut] at hs
    exact ⟨by rw [h0, renL_id hf ls hs.1], belowL_mono hb ls hs.1⟩
  ·refine ih hnext ?_
   cases r with
   | none => exact hs
   | some ls => exact hs.2
theorem weak_app {k : Nat} {E E' : Env} {H0 R R' : Heap} (τ : List Nat) (hk : k ≤ H0.length) (hs : shut H0.length H0) (hn : τ.Nodup) (hτ : ∀ t ∈ τ, H0.length ≤ t)
  (h : ∀ f : Nat → Nat, (∀ i, i < H0.length → f i = i) → (∀ j, j < τ.length → f (H0.length + j) = τ.getD j 0) → rowsOK (H0 ++ R) f (H0.length + R'.length) τ R' ∧
   ∀ p ∈ E', below (H0.length + R'.length) p.2 = true ∧ (p.2 = .any ∨ lk E p.1 = ren f p.2)) : weak k E (H0 ++ R) E' (H0 ++ R') := by
 have hf1 : ∀ i, i < H0.length → (List.range H0.length ++ τ).getD i 0 = i := fun i hi => by
  simp [List.getD, List.getElem?_append_left, hi]
 have hf2 : ∀ j, j < τ.length → (List.range H0.length ++ τ).getD (H0.length + j) 0 = τ.getD j 0 := fun j hj => by
  simp [List.getD, List.getElem?_append_right]
 obtain ⟨h1, h2⟩ := h (fun i => (List.range H0.length ++ τ).getD i 0) hf1 hf2
 refine ⟨List.range H0.length ++ τ, ?_, ?_, ?_, ?_⟩
 ·rw [List.take_append_of_le_length (by simpa using hk), List.take_range, Nat.min_eq_left hk]
 ·rw [List.nodup_append]
  exact ⟨List.nodup_range, hn, fun a ha b hb e => by
   subst e
   have := List.mem_range.1 ha
   have := hτ a hb
   omega⟩
 ·have := rowsOK_self (n := H0.length + R'.length) hf1 (by omega) h1 (H0 := H0) (i := 0) (fun j hj => by rw [Nat.zero_add, List.getElem?_append_left hj]) hs
  rw [← List.range_eq_range'] at this
  rw [List.length_append]
  exact this
 ·rw [List.length_append]; exact h2
theorem weak_env {k : Nat} {E E' : Env} {H : Heap} (hk : k ≤ H.length) (hs : shut H.length H) (h : ∀ p ∈ E', below H.length p.2 = true ∧ (p.2 = .any ∨ lk E p.1 = p.2)) : weak k E H E' H := by
 have := weak_app (k := k) (E := E) (E' := E') (H0 := H) (R := []) (R' := []) [] hk hs .nil (by simp) (fun f hf _ => ⟨trivial, fun p hp => by
  obtain ⟨h1, h2⟩ := h p hp
  refine ⟨by simpa using h1, ?_⟩
  rw [ren_id hf p.2 h1]; exact h2⟩)
 simpa using this
def accE (e b : Nat) (xs : List L) : L := if xs = [] then .v (.slice none 0 0) else .view e b 0 xs.length false
def accH (xs : List L) : Heap := if xs = [] then [] else [some xs]
@[simp] theorem accE_nil {e b : Nat} : accE e b [] = .v (.slice none 0 0) := rfl
@[simp] theorem accH_nil : accH [] = [] := rfl
theorem accE_ne {e b : Nat} {xs : List L} (h : xs ≠ []) : accE e b xs = .view e b 0 xs.length false := if_neg h
theorem accH_ne {xs : List L} (h : xs ≠ []) : accH xs = [some xs] := if_neg h
theorem app_get {H0 X : Heap} {m : Nat} : (H0 ++ X)[H0.length + m]? = X[m]? := by rw [List.getElem?_append_right (by omega), Nat.add_sub_cancel_left]
theorem app_get0 {H0 X : Heap} : (H0 ++ X)[H0.length]? = X[0]? := by rw [List.getElem?_append_right (by omega), Nat.sub_self]
theorem app_set {H0 X : Heap} {m : Nat} {r : Option (List L)} : (H0 ++ X).set (H0.length + m) r = H0 ++ X.set m r := by rw [List.set_append_right _ _ (by omega), Nat.add_sub_cancel_left]
theorem app_set0 {H0 X : Heap} {r : Option (List L)} : (H0 ++ X).set H0.length r = H0 ++ X.set 0 r := by rw [List.set_append_right _ _ (by omega), Nat.sub_self]
attribute [simp] app_get app_get0 app_set app_set0
attribute [simp] shut
end Lg

