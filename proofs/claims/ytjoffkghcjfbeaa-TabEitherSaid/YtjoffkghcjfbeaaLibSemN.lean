/- Formulas made of formulas: where they hold. -/
import Derived.Test.YtjoffkghcjfbeaaLibSemL
namespace Lg
open Go
structure Fm (vars : Int) (t : T) : Prop where
 ok : t.Ok
 may : t.may vars = true
 good : t.type.2.1 = 0
 notint : t.type.1 ≠ 1
theorem Fm.of {vars : Int} {t : T} (hok : t.Ok) (h : t.formula vars = true) : Fm vars t := by
 obtain ⟨-, h1, h2, h3⟩ := T.formula_facts h
 exact ⟨hok, h1, h2, h3⟩
theorem Fm.cases {vars : Int} {t : T} (h : Fm vars t) : t.type = (2, 0, 0) ∨ t.type = (3, 0, 0) := by
 rcases t.type_cases with e | e | e | e
 ·exact absurd h.good e
 ·exact absurd (by rw [e]) h.notint
 ·exact .inl e
 ·exact .inr e
theorem Fm.bit {vars : Int} {t : T} (h : Fm vars t) (hl : t.lit = true) (v : List Int) : t.eval v = 0 ∨ t.eval v = 1 := by
 have : t.type.1 = 2 := by simp [T.lit] at hl; exact hl.2
 exact (evalQ_eval t h.may h.good (by rw [this]; omega)).2 this
theorem sat_lit_at {w : Word} {t : T} (hl : t.lit = true) (i : Nat) : t.sat w i = decide (t.eval (w.v.getD i []) = 1) := by rw [T.sat_lit hl]
theorem Fm.type_node {vars op n pl : Int} {l : List T} (h15 : 15 ≤ op) (hl : ∀ t ∈ l, Fm vars t) : (T.mk op n pl l).type = if op ≤ 19 ∧ ∀ t ∈ l, t.lit = true then (2, 0, 0) else (3, 0, 0) := by
 rw [T.type_mk, typeStep_good fun t ht => (hl t ht).good]
 have e2 : decide (∀ t ∈ l, t.type.1 = 2) = decide (∀ t ∈ l, t.lit = true) := by
  rw [decide_eq_decide]
  refine forall_congr' fun t => imp_congr_right fun ht => ?_
  rcases (hl t ht).cases with e | e <;> simp [T.lit, e]
 have e3 : decide (∀ t ∈ l, t.type.1 ≠ 1) = true := decide_eq_true fun t ht => (hl t ht).notint
 rw [e2, e3]
 unfold typeEnd
 have f1 : ¬ op ≤ 6 := by omega
 have f2 : ¬ op ≤ 12 := by omega
 have f3 : ¬ op = 13 := by omega
 have f4 : ¬ op = 14 := by omega
 by_cases hc : op ≤ 19 ∧ ∀ t ∈ l, t.lit = true
 ·rw [if_neg (by simp [f1]), if_pos (.inr (.inr (.inr ⟨h15, hc.1, decide_eq_true hc.2⟩))), if_pos hc]
 ·rw [if_neg (by simp [f1]), if_neg (by
   rintro (h | h | h | h)
   ·exact f2 h.2.1
   ·exact f3 h
   ·exact f4 h
   ·exact hc ⟨h.2.1, of_decide_eq_true h.2.2⟩), if_pos ⟨h15, rfl⟩, if_neg hc]
theorem untW_step {w : Word} (hr : w.right = true) {a b : Nat → Bool} {i : Nat} (hi : i < w.v.length) : untW w a b i = (b i || (a i && untW w a b (w.nxt i))) := by
 unfold untW
 rw [unt_fix hr a b i hi, unt]
theorem relW_step {w : Word} (hr : w.right = true) {a b : Nat → Bool} {i : Nat} (hi : i < w.v.length) : relW w a b i = (b i && (a i || relW w a b (w.nxt i))) := by
 unfold relW
 have := untW_step hr (a := fun i => !a i) (b := fun i => !b i) hi
 unfold untW at this
 rw [this]
 cases b i <;> cases a i <;> simp
end Lg

