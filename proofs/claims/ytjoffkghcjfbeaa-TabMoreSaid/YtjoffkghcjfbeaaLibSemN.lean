/- Formulas made of formulas: where they hold. -/
import Derived.Test.YtjoffkghcjfbeaaLibSemL
namespace Lg
open Go
structure Fm (vars : Int) (t : T) : Prop where
 ok : t.Ok
 may : t.may vars = true
 good : t.type.2.1 = 0
 notint : t.type.1 ≠ 1
theorem Fm.of {vars : Int} {t : T} (hok : t.Ok) (h : t.formula vars = true) : Fm vars t := by
 obtain ⟨-, h1, h2, h3⟩ := T.formula_facts h
 exact ⟨hok, h1, h2, h3⟩
theorem Fm.cases {vars : Int} {t : T} (h : Fm vars t) : t.type = (2, 0, 0) ∨ t.type = (3, 0, 0) := by
 rcases t.type_cases with e | e | e | e
 ·exact absurd h.good e
 ·exact absurd (by rw [e]) h.notint
 ·exact .inl e
 ·exact .inr e
theorem Fm.bit {vars : Int} {t : T} (h : Fm vars t) (hl : t.lit = true) (v : List Int) : t.eval v = 0 ∨ t.eval v = 1 := by
 have : t.type.1 = 2 := by simp [T.lit] at hl; exact hl.2
 exact (evalQ_eval t h.may h.good (by rw [this]; omega)).2 this
theorem Fm.type_node {vars op n pl : Int} {l : List T} (h15 : 15 ≤ op) (hl : ∀ t ∈ l, Fm vars t) : (T.mk op n pl l).type = if op ≤ 19 ∧ ∀ t ∈ l, t.lit = true then (2, 0, 0) else (3, 0, 0) := by
 rw [T.type_mk, typeStep_good fun t ht => (hl t ht).good]
 have e2 : decide (∀ t ∈ l, t.type.1 = 2) = decide (∀ t ∈ l, t.lit = true) := by
  rw [decide_eq_decide]
  refine forall_congr' fun t => imp_congr_right fun ht => ?_
  rcases (hl t ht).cases with e | e <;> simp [T.lit, e]
 have e3 : decide (∀ t ∈ l, t.type.1 ≠ 1) = true := decide_eq_true fun t ht => (hl t ht).notint
 rw [e2, e3]
 unfold typeEnd
 have f1 : ¬ op ≤ 6 := by omega
 have f2 : ¬ op ≤ 12 := by omega
 have f3 : ¬ op = 13 := by omega
 have f4 : ¬ op = 14 := by omega
 by_cases hc : op ≤ 19 ∧ ∀ t ∈ l, t.lit = true
 ·rw [if_neg (by simp [f1]), if_pos (.inr (.inr (.inr ⟨h15, hc.1, decide_eq_true hc.2⟩))), if_pos hc]
 ·rw [if_neg (by simp [f1]), if_neg (by
   rintro (h | h | h | h)
   ·exact f2 h.2.1
   ·exact f3 h
   ·exact f4 h
   ·exact hc ⟨h.2.1, of_decide_eq_true h.2.2⟩), if_pos ⟨h15, rfl⟩, if_neg hc]
theorem Fm.node {vars op : Int} {l : List T} (h15 : 15 ≤ op) (h24 : op ≤ 24) (hn : (l.length : Int) = wants op) (hl : ∀ t ∈ l, Fm vars t) : Fm vars (.mk op 0 0 l) := by
  have ht := Fm.type_node (n := 0) (pl := 0) h15 hl
  have hw : wants op ≤ 2 := by unfold wants; repeat' split
                               all_goals omega
  refine ⟨.mk ?_ (by decide) (by decide) (by omega) fun t ht => (hl t ht).ok, ?_, ?_, ?_⟩
  · have : op = 15 ∨ op = 16 ∨ op = 17 ∨ op = 18 ∨ op = 19 ∨ op = 20 ∨ op = 21 ∨ op = 22 ∨ op = 23 ∨ op = 24 := by omega
    rcases this with rfl | rfl | rfl | rfl | rfl | rfl | rfl | rfl | rfl | rfl <;> decide
  · rw [T.may_mk, Bool.and_eq_true, decide_eq_true_eq]
    refine ⟨⟨⟨by omega, h24, hn⟩, by omega, by omega, by omega⟩, List.all_eq_true.2 fun t ht => (hl t ht).may⟩
  · rw [ht]; split <;> rfl
  · rw [ht]; split <;> simp
theorem Fm.two {vars op : Int} {a b : T} (ho : (16 ≤ op ∧ op ≤ 19) ∨ op = 23 ∨ op = 24) (ha : Fm vars a) (hb : Fm vars b) : Fm vars (.mk op 0 0 [a, b]) :=
 Fm.node (by omega) (by omega) (by
  have : op = 16 ∨ op = 17 ∨ op = 18 ∨ op = 19 ∨ op = 23 ∨ op = 24 := by omega
  rcases this with rfl | rfl | rfl | rfl | rfl | rfl <;> simp [wants]) fun t ht => by
  simp at ht
  rcases ht with rfl | rfl
  ·exact ha
  ·exact hb
theorem untW_step {w : Word} (hr : w.right = true) {a b : Nat → Bool} {i : Nat} (hi : i < w.v.length) : untW w a b i = (b i || (a i && untW w a b (w.nxt i))) := by
 unfold untW
 rw [unt_fix hr a b i hi, unt]
theorem relW_step {w : Word} (hr : w.right = true) {a b : Nat → Bool} {i : Nat} (hi : i < w.v.length) : relW w a b i = (b i && (a i || relW w a b (w.nxt i))) := by
 unfold relW
 have := untW_step hr (a := fun i => !a i) (b := fun i => !b i) hi
 unfold untW at this
 rw [this]
 cases b i <;> cases a i <;> simp
end Lg

