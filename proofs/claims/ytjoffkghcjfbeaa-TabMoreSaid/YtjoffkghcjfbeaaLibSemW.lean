/- The program's value of a tree that is typed is the answer's. -/
import Derived.Test.YtjoffkghcjfbeaaLibSemV
namespace Lg
open Go
theorem typeStep_kids {op pl : Int} {l : List T} (h : (typeStep op pl (l.map T.type)).2.1 = 0) : ∀ t ∈ l, t.type.2.1 = 0 := by
 unfold typeStep at h
 split at h
 ·rename_i r hr
  have := List.find?_some hr
  simp at this
  exact absurd h this
 ·rename_i hn
  intro t ht
  have := List.find?_eq_none.1 hn t.type (List.mem_map.2 ⟨t, ht, rfl⟩)
  simpa using this
theorem type_kids {op n pl : Int} {l : List T} (h : (T.mk op n pl l).type.2.1 = 0) : ∀ t ∈ l, t.type.2.1 = 0 := by
 rw [T.type_mk] at h; exact typeStep_kids h
theorem type_end_eq {op n pl : Int} {l : List T} (h : (T.mk op n pl l).type.2.1 = 0) : (T.mk op n pl l).type = typeEnd op pl (decide (∀ t ∈ l, t.type.1 = 1)) (decide (∀ t ∈ l, t.type.1 = 2)) (decide (∀ t ∈ l, t.type.1 ≠ 1)) := by
 have := type_kids h
 rw [T.type_mk] at h ⊢
 exact typeStep_good this
theorem may_kids {op n pl vars : Int} {l : List T} (h : (T.mk op n pl l).may vars = true) : (∀ t ∈ l, t.may vars = true) ∧ 1 ≤ op ∧ op ≤ 24 ∧ (l.length : Int) = wants op := by
 rw [T.may_mk, Bool.and_eq_true, decide_eq_true_eq] at h
 exact ⟨fun t ht => List.all_eq_true.1 h.2 t ht, h.1.1.1, h.1.1.2.1, h.1.1.2.2⟩
theorem evalQ_eval {vars : Int} {v : List Int} (t : T) : t.may vars = true → t.type.2.1 = 0 → t.type.1 ≠ 3 → t.evalQ v = t.eval v ∧ (t.type.1 = 2 → t.eval v = 0 ∨ t.eval v = 1) := by
 refine T.ind (M := fun t => t.may vars = true → t.type.2.1 = 0 → t.type.1 ≠ 3 → t.evalQ v = t.eval v ∧ (t.type.1 = 2 → t.eval v = 0 ∨ t.eval v = 1)) ?_ t
 intro op n pl l ih hm hg h3
 obtain ⟨km, ho1, ho2, hw⟩ := may_kids hm
 have kg := type_kids hg
 have he := type_end_eq hg
 rw [he] at h3 hg ⊢
 have kid : (∀ t ∈ l, t.type.1 ≠ 3) → (∀ j : Nat, (l[j]?.map (·.evalQ v)).getD 0 = (l[j]?.map (·.eval v)).getD 0) := fun h j => by
  by_cases hj : j < l.length
  ·have hmem := List.getElem_mem hj
   simp [hj, (ih _ hmem (km _ hmem) (kg _ hmem) (h _ hmem)).1]
  ·simp [List.getElem?_eq_none (Nat.le_of_not_lt hj)]
 have bit : (∀ t ∈ l, t.type.1 = 2) → (∀ j : Nat, (l[j]?.map (·.eval v)).getD 0 = 0 ∨ (l[j]?.map (·.eval v)).getD 0 = 1) := fun h j => by
  by_cases hj : j < l.length
  ·have hmem := List.getElem_mem hj
   have := (ih _ hmem (km _ hmem) (kg _ hmem) (by rw [h _ hmem]; omega)).2 (h _ hmem)
   simpa [hj] using this
  ·simp [List.getElem?_eq_none (Nat.le_of_not_lt hj)]
 rw [T.evalQ_mk, T.eval_mk]
 have w1 : w64 1 = 1 := wrap_id (by omega) (by omega)
 have w0 : w64 0 = 0 := wrap_id (by omega) (by omega)
 clear he
 obtain ⟨A, hA⟩ : ∃ A, A = decide (∀ t ∈ l, t.type.1 = 1) := ⟨_, rfl⟩
 obtain ⟨B, hB⟩ : ∃ B, B = decide (∀ t ∈ l, t.type.1 = 2) := ⟨_, rfl⟩
 obtain ⟨C, hC⟩ : ∃ C, C = decide (∀ t ∈ l, t.type.1 ≠ 1) := ⟨_, rfl⟩
 rw [← hA, ← hB, ← hC] at h3 hg ⊢
 unfold typeEnd at h3 hg ⊢
 by_cases h15 : op < 15
 ·cases A with
  | true =>
   have hi := of_decide_eq_true hA.symm
   have hk := kid fun t ht => by rw [hi t ht]; omega
   rw [hk 0, hk 1]
   clear hk kid bit hA hB hC hi ih km kg hm hw
   generalize (l[0]?.map (·.eval v)).getD 0 = a
   generalize (l[1]?.map (·.eval v)).getD 0 = b
   have hop : op = 1 ∨ op = 2 ∨ op = 3 ∨ op = 4 ∨ op = 5 ∨ op = 6 ∨ op = 7 ∨ op = 8 ∨ op = 9 ∨ op = 10 ∨ op = 11 ∨ op = 12 ∨ op = 13 ∨ op = 14 := by omega
   have ht : ∀ b, tru b = 0 ∨ tru b = 1 := fun b => by cases b <;> simp [tru]
   rcases hop with rfl | rfl | rfl | rfl | rfl | rfl | rfl | rfl | rfl | rfl | rfl | rfl | rfl | rfl <;> simp [evalE, evalR, ht]
  | false =>
   have hop : op = 13 ∨ op = 14 := by
    refine Classical.byContradiction fun hn => ?_
    have f1 : ¬ (15 ≤ op) := by omega
    have f2 : ¬ op = 13 := fun h => hn (.inl h)
    have f3 : ¬ op = 14 := fun h => hn (.inr h)
    simp [f1, f2, f3] at hg
   have hl : l = [] := by
    have : wants op = 0 := by rcases hop with rfl | rfl <;> simp [wants]
    exact List.eq_nil_of_length_eq_zero (by omega)
   subst hl
   simp at hA
 ·have f1 : ¬ op ≤ 6 := by omega
  have f2 : ¬ op ≤ 12 := by omega
  have f3 : ¬ op = 13 := by omega
  have f4 : ¬ op = 14 := by omega
  have f5 : 15 ≤ op := by omega
  by_cases h19 : op ≤ 19
  ·cases B with
   | true =>
    have hb := of_decide_eq_true hB.symm
    have hk := kid fun t ht => by rw [hb t ht]; omega
    rw [hk 0, hk 1]
    have b0 := bit hb 0
    have b1 := bit hb 1
    generalize (l[0]?.map (·.eval v)).getD 0 = a at b0
    generalize (l[1]?.map (·.eval v)).getD 0 = b at b1
    clear hk kid bit hA hB hC hb ih km kg hm hw
    have hop : op = 15 ∨ op = 16 ∨ op = 17 ∨ op = 18 ∨ op = 19 := by omega
    rcases hop with rfl | rfl | rfl | rfl | rfl <;> rcases b0 with rfl | rfl <;> rcases b1 with rfl | rfl <;> simp [evalE, evalR, tru, w0, w1]
   | false =>
    exfalso
    cases C <;> simp [f1, f2, f3, f4, f5] at h3 hg
  ·exfalso
   cases C <;> simp [f1, f2, f3, f4, f5, h19] at h3 hg
theorem evalP_gen {P : Program} {f tr : Nat} (ir : compF P f = some (irEvalP f tr)) (itr : compF P tr = some irTruth) {c : Bool} {v : List Int} (hv : v.length ≤ 17592186044416) {t : T} (hok : t.Ok) {vars : Int} (hm : t.may vars = true) (hg : t.type.2.1 = 0) (h3 : t.type.1 ≠ 3) : PC P f [t.toL, .sl 1 c (v.map intL)] (intL (t.eval v)) := by
 rw [← (evalQ_eval (v := v) t hm hg h3).1]
 exact evalE_gen ir itr hv t hok
end Lg

