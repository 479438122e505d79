/- What the program's turned formulas are: plain laws. -/
import Derived.Test.YtjoffkghcjfbeaaLibNnf
import Derived.Test.YtjoffkghcjfbeaaLibSemN
namespace Lg
open Go
theorem Fm.shape {vars op n pl : Int} {l : List T} (h : Fm vars (.mk op n pl l)) (hl : (T.mk op n pl l).lit = false) : (Lit.int .i64 pl).wf = true ∧ n = 0 ∧ (∀ t ∈ l, Fm vars t) ∧
  ((∃ x, l = [x] ∧ (op = 15 ∨ op = 20 ∨ op = 21 ∨ op = 22)) ∨ (∃ x y, l = [x, y] ∧ (op = 16 ∨ op = 17 ∨ op = 18 ∨ op = 19 ∨ op = 23 ∨ op = 24))) := by
 obtain ⟨hok, hm, hg, h1⟩ := h
 obtain ⟨h15, h24, hw, hk⟩ := time_kids hm hg h1 hl
 have hop : op = 15 ∨ op = 16 ∨ op = 17 ∨ op = 18 ∨ op = 19 ∨ op = 20 ∨ op = 21 ∨ op = 22 ∨ op = 23 ∨ op = 24 := by omega
 have one : wants op = 1 → ∃ x, l = [x] := fun h => by
  rw [h] at hw
  match l, hw with
  | [x], _ => exact ⟨x, rfl⟩
  | [], hw => simp at hw
  | _ :: _ :: l, hw => simp at hw; omega
 have two : wants op = 2 → ∃ x y, l = [x, y] := fun h => by
  rw [h] at hw
  match l, hw with
  | [x, y], _ => exact ⟨x, y, rfl⟩
  | [], hw => simp at hw
  | [_], hw => simp at hw
  | _ :: _ :: _ :: l, hw => simp at hw; omega
 have hn : n = 0 := by
  rw [T.may_mk, Bool.and_eq_true, decide_eq_true_eq] at hm
  have := hm.1.2.2.2
  omega
 refine ⟨by cases hok with | mk _ _ h3 _ _ => exact h3, hn, fun t ht => ⟨hok.kid t ht, (hk t ht).1, (hk t ht).2.1, (hk t ht).2.2⟩, ?_⟩
 rcases hop with rfl | rfl | rfl | rfl | rfl | rfl | rfl | rfl | rfl | rfl
 ·obtain ⟨x, rfl⟩ := one rfl; exact .inl ⟨x, rfl, by omega⟩
 ·obtain ⟨x, y, rfl⟩ := two rfl; exact .inr ⟨x, y, rfl, by omega⟩
 ·obtain ⟨x, y, rfl⟩ := two rfl; exact .inr ⟨x, y, rfl, by omega⟩
 ·obtain ⟨x, y, rfl⟩ := two rfl; exact .inr ⟨x, y, rfl, by omega⟩
 ·obtain ⟨x, y, rfl⟩ := two rfl; exact .inr ⟨x, y, rfl, by omega⟩
 ·obtain ⟨x, rfl⟩ := one rfl; exact .inl ⟨x, rfl, by omega⟩
 ·obtain ⟨x, rfl⟩ := one rfl; exact .inl ⟨x, rfl, by omega⟩
 ·obtain ⟨x, rfl⟩ := one rfl; exact .inl ⟨x, rfl, by omega⟩
 ·obtain ⟨x, y, rfl⟩ := two rfl; exact .inr ⟨x, y, rfl, by omega⟩
 ·obtain ⟨x, y, rfl⟩ := two rfl; exact .inr ⟨x, y, rfl, by omega⟩
end Lg

