/- Until and release, turn by turn. -/
import Derived.Test.YtjoffkghcjfbeaaLibSemG
import Derived.Test.YtjoffkghcjfbeaaLibSeal
namespace Lg
open Go
def unt (w : Word) (a b : Nat → Bool) : Nat → Nat → Bool
 | 0, _ => false
 | m + 1, i => b i || (a i && unt w a b m (w.nxt i))
theorem unt_mono {w : Word} {a b : Nat → Bool} : ∀ {m i : Nat}, unt w a b m i = true → unt w a b (m + 1) i = true
 | 0, _, h => by simp [unt] at h
 | m + 1, i, h => by
  rw [unt]
  rw [unt] at h
  cases hb : b i
  ·cases ha : a i
   ·simp [hb, ha] at h
   ·simp [hb, ha] at h ⊢
    exact unt_mono h
  ·simp
theorem unt_next {w : Word} (hr : w.right = true) {a b : Nat → Bool} {m m' : Nat} (h : ∀ i, i < w.v.length → unt w a b m i = unt w a b m' i) : ∀ i, i < w.v.length → unt w a b (m + 1) i = unt w a b (m' + 1) i := fun i hi => by
 rw [unt, unt, h _ (Word.nxt_lt hr hi)]
theorem countP_lt' {α : Type} {p q : α → Bool} : ∀ {l : List α}, (∀ x ∈ l, p x = true → q x = true) → (∃ x ∈ l, p x = false ∧ q x = true) → l.countP p < l.countP q
 | [], _, ⟨x, hx, _⟩ => by simp at hx
 | y :: l, h, ⟨x, hx, h1, h2⟩ => by
  have hle : l.countP p ≤ l.countP q := List.countP_mono_left fun x hx => h x (by simp [hx])
  rw [List.countP_cons, List.countP_cons]
  rcases List.mem_cons.1 hx with rfl | hx
  ·simp [h1, h2]; omega
  ·have ih := countP_lt' (l := l) (fun x hx => h x (by simp [hx])) ⟨x, hx, h1, h2⟩
   have := h y (by simp)
   cases hp : p y
   ·simp []; split <;> omega
   ·simp [this hp]; omega
theorem unt_fix {w : Word} (hr : w.right = true) (a b : Nat → Bool) : ∀ i, i < w.v.length → unt w a b w.v.length i = unt w a b (w.v.length + 1) i := by
 have key : ∀ m, (∃ j, j < m ∧ ∀ i, i < w.v.length → unt w a b j i = unt w a b (j + 1) i) ∨ m ≤ (List.range w.v.length).countP (unt w a b m) := by
  intro m
  induction m with
  | zero => exact .inr (Nat.zero_le _)
  | succ m ih =>
   rcases ih with ⟨j, h1, h2⟩ | ih
   ·exact .inl ⟨j, by omega, h2⟩
   ·by_cases hf : ∀ i, i < w.v.length → unt w a b m i = unt w a b (m + 1) i
    ·exact .inl ⟨m, by omega, hf⟩
    ·refine .inr ?_
     have : ∃ i, i < w.v.length ∧ unt w a b m i ≠ unt w a b (m + 1) i := by
      refine Classical.byContradiction fun hn => hf fun i hi => Classical.byContradiction fun h => hn ⟨i, hi, h⟩
     obtain ⟨i, hi, hne⟩ := this
     have hfi : unt w a b m i = false ∧ unt w a b (m + 1) i = true := by
      cases h1 : unt w a b m i
      ·cases h2 : unt w a b (m + 1) i
       ·exact absurd (h1.trans h2.symm) hne
       ·exact ⟨rfl, rfl⟩
      ·exact absurd (h1.trans (unt_mono h1).symm) hne
     have := countP_lt' (l := List.range w.v.length) (p := unt w a b m) (q := unt w a b (m + 1)) (fun x _ h => unt_mono h) ⟨i, List.mem_range.2 hi, hfi.1, hfi.2⟩
     omega
 rcases key (w.v.length + 1) with ⟨j, hj, hfix⟩ | h
 ·have stay : ∀ k, ∀ i, i < w.v.length → unt w a b (j + k) i = unt w a b (j + k + 1) i := fun k => by
   induction k with
   | zero => exact hfix
   | succ k ih => exact unt_next hr ih
  have := stay (w.v.length - j)
  rwa [Nat.add_sub_cancel' (by omega)] at this
 ·have : (List.range w.v.length).countP (unt w a b (w.v.length + 1)) ≤ w.v.length := by
   have := List.countP_le_length (l := List.range w.v.length) (p := unt w a b (w.v.length + 1))
   simpa using this
  omega
def untW (w : Word) (a b : Nat → Bool) (i : Nat) : Bool := unt w a b w.v.length i
def relW (w : Word) (a b : Nat → Bool) (i : Nat) : Bool := !unt w (fun i => !a i) (fun i => !b i) w.v.length i
end Lg

