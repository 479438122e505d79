/- Formulas made of formulas: where they hold. -/
import Derived.Test.YtjoffkghcjfbeaaLibSemL
namespace Lg
open Go
structure Fm (vars : Int) (t : T) : Prop where
 ok : t.Ok
 may : t.may vars = true
 good : t.type.2.1 = 0
 notint : t.type.1 ≠ 1
theorem Fm.of {vars : Int} {t : T} (hok : t.Ok) (h : t.formula vars = true) : Fm vars t := by
 obtain ⟨-, h1, h2, h3⟩ := T.formula_facts h
 exact ⟨hok, h1, h2, h3⟩
theorem Fm.cases {vars : Int} {t : T} (h : Fm vars t) : t.type = (2, 0, 0) ∨ t.type = (3, 0, 0) := by
 rcases t.type_cases with e | e | e | e
 ·exact absurd h.good e
 ·exact absurd (by rw [e]) h.notint
 ·exact .inl e
 ·exact .inr e
theorem Fm.bit {vars : Int} {t : T} (h : Fm vars t) (hl : t.lit = true) (v : List Int) : t.eval v = 0 ∨ t.eval v = 1 := by
 have : t.type.1 = 2 := by simp [T.lit] at hl; exact hl.2
 exact (evalQ_eval t h.may h.good (by rw [this]; omega)).2 this
theorem untW_step {w : Word} (hr : w.right = true) {a b : Nat → Bool} {i : Nat} (hi : i < w.v.length) : untW w a b i = (b i || (a i && untW w a b (w.nxt i))) := by
 unfold untW
 rw [unt_fix hr a b i hi, unt]
theorem relW_step {w : Word} (hr : w.right = true) {a b : Nat → Bool} {i : Nat} (hi : i < w.v.length) : relW w a b i = (b i && (a i || relW w a b (w.nxt i))) := by
 unfold relW
 have := untW_step hr (a := fun i => !a i) (b := fun i => !b i) hi
 unfold untW at this
 rw [this]
 cases b i <;> cases a i <;> simp
end Lg

