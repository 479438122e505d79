/- The automaton with one set: what is true of it. -/
import Derived.Test.YtjdliinnbkfljaaLibDegen
namespace Lg
open Go

theorem OfOk.setMem {a : Aut} (h : OfOk a) {i : Nat} : ∀ s ∈ a.sets.getD i [], 0 ≤ s ∧ s < (a.lits.length : Int) := by
  intro s hs
  by_cases hi : i < a.sets.length
  · rw [show a.sets.getD i [] = a.sets[i] by simp [List.getD, hi]] at hs
    have hm : a.sets[i] ∈ a.sets := List.getElem_mem hi
    generalize a.sets[i] = r at hm hs
    unfold Aut.sets at hm
    split at hm
    · simp only [List.mem_singleton] at hm
      subst hm
      simp only [List.mem_map, List.mem_range] at hs
      obtain ⟨q, hq, rfl⟩ := hs
      omega
    · have hr := h.right
      simp only [Aut.right, Bool.and_eq_true] at hr
      have := List.all_eq_true.1 hr.2 r hm
      have := List.all_eq_true.1 this s hs
      simpa using this
  · rw [show a.sets.getD i [] = [] by simp [List.getD, List.getElem?_eq_none (Nat.le_of_not_lt hi)]] at hs
    simp at hs

theorem to_lt {a : Aut} (h : OfOk a) {q i : Nat} (hi : i < a.k) : a.to q i < a.k := by
  unfold Aut.to
  split
  · exact Nat.mod_lt _ h.k.1
  · exact hi

theorem degRow_mem {a : Aut} (h : OfOk a) {x : Nat} : ∀ s ∈ degRow a x, ∃ p : Nat, (p : Int) ∈ a.next.getD (x / a.k) [] ∧ p < a.lits.length ∧ s = ((p * a.k + a.to (x / a.k) (x % a.k) : Nat) : Int) := by
  intro s hs
  unfold degRow at hs
  obtain ⟨p, hp, rfl⟩ := List.mem_map.1 hs
  have hn : x / a.k < a.next.length := by
    by_cases hn : x / a.k < a.next.length
    · exact hn
    · rw [show a.next.getD (x / a.k) [] = [] by simp [List.getD, List.getElem?_eq_none (Nat.le_of_not_lt hn)]] at hp; simp at hp
  have e : a.next.getD (x / a.k) [] = a.next[x / a.k] := by simp [List.getD, hn]
  rw [e] at hp
  obtain ⟨h1, h2⟩ := h.row hn p hp
  obtain ⟨m, rfl⟩ : ∃ m : Nat, p = (m : Int) := ⟨p.toNat, by omega⟩
  exact ⟨m, by rw [e]; exact hp, by omega, by simp⟩

theorem degRow_length {a : Aut} {x : Nat} : (degRow a x).length = (a.next.getD (x / a.k) []).length := by simp [degRow]

theorem deg_lits {a : Aut} : (degenOf a).lits.length = a.lits.length * a.k := by simp [degenOf]
theorem deg_next {a : Aut} : (degenOf a).next.length = a.lits.length * a.k := by simp [degenOf]
theorem deg_lit {a : Aut} {x : Nat} (hx : x < a.lits.length * a.k) : (degenOf a).lits.getD x [] = a.lits.getD (x / a.k) [] := by
  simp only [degenOf, List.getD, List.getElem?_map, List.getElem?_range hx, Option.map_some, Option.getD_some]; rfl
theorem deg_row {a : Aut} {x : Nat} (hx : x < a.lits.length * a.k) : (degenOf a).next.getD x [] = degRow a x := by
  simp only [degenOf, List.getD, List.getElem?_map, List.getElem?_range hx, Option.map_some, Option.getD_some]

theorem mem_degAcc {a : Aut} {m : Nat} {s : Int} : s ∈ degAcc a m ↔ ∃ q : Nat, q < m ∧ (q : Int) ∈ a.sets.getD 0 [] ∧ s = ((q * a.k : Nat) : Int) := by
  unfold degAcc
  simp only [List.mem_map, List.mem_filter, List.mem_range, decide_eq_true_eq]
  constructor
  · rintro ⟨q, ⟨h1, h2⟩, rfl⟩; exact ⟨q, h1, h2, rfl⟩
  · rintro ⟨q, h1, h2, rfl⟩; exact ⟨q, ⟨h1, h2⟩, rfl⟩

theorem degenOf_ok {a : Aut} (h : OfOk a) : (degenOf a).Ok := by
  have hk := h.k
  have hf := h.few
  have hx : a.lits.length * a.k ≤ 1000000 := by have := Nat.mul_le_mul hf hk.2; omega
  refine ⟨by rw [deg_lits]; omega, fun l hl => ?_, by rw [deg_next]; omega, fun r hr => ?_, by simp [degenOf]; have := h.init; omega, by simp [degenOf], fun r hr => ?_⟩
  · simp only [degenOf, List.mem_map, List.mem_range] at hl
    obtain ⟨x, -, rfl⟩ := hl
    unfold degLit
    by_cases hq : x / a.k < a.lits.length
    · rw [show a.lits.getD (x / a.k) [] = a.lits[x / a.k] by simp [List.getD, hq]]
      exact h.ok.lit _ (List.getElem_mem hq)
    · rw [show a.lits.getD (x / a.k) [] = [] by simp [List.getD, List.getElem?_eq_none (Nat.le_of_not_lt hq)]]
      simp
  · simp only [degenOf, List.mem_map, List.mem_range] at hr
    obtain ⟨x, -, rfl⟩ := hr
    rw [degRow_length]
    by_cases hq : x / a.k < a.next.length
    · rw [show a.next.getD (x / a.k) [] = a.next[x / a.k] by simp [List.getD, hq]]
      have := h.rows _ (List.getElem_mem hq); omega
    · rw [show a.next.getD (x / a.k) [] = [] by simp [List.getD, List.getElem?_eq_none (Nat.le_of_not_lt hq)]]
      simp
  · simp only [degenOf, List.mem_singleton] at hr
    subst hr
    have := degAcc_length (a := a) (m := a.lits.length)
    omega

theorem statesB_iff {xs : List Int} {n : Nat} : statesB xs n = true ↔ ∀ s ∈ xs, 0 ≤ s ∧ s < (n : Int) := by
  unfold statesB; rw [List.all_eq_true]; simp

theorem degenOf_right {a : Aut} (h : OfOk a) : (degenOf a).right = true := by
  have hk := h.k
  have hr := h.right
  simp only [Aut.right, Bool.and_eq_true, decide_eq_true_eq] at hr ⊢
  refine ⟨⟨⟨?_, by rw [deg_next, deg_lits]⟩, ?_⟩, ?_⟩
  · rw [statesB_iff, deg_lits]
    intro s hs
    simp only [degenOf, List.mem_map] at hs
    obtain ⟨v, hv, rfl⟩ := hs
    obtain ⟨v1, v2⟩ := h.init' v hv
    refine ⟨Int.mul_nonneg v1 (by omega), ?_⟩
    have := Int.mul_lt_mul_of_pos_right v2 (show (0 : Int) < a.k by omega)
    simpa using this
  · rw [List.all_eq_true]
    intro x hx
    simp only [List.mem_range, deg_lits] at hx
    have hq : x / a.k < a.lits.length := (Nat.div_lt_iff_lt_mul (by omega)).2 hx
    simp only [rowOk, Bool.and_eq_true]
    rw [deg_row hx, deg_lit hx, statesB_iff, deg_lits]
    refine ⟨fun s hs => ?_, ?_⟩
    · obtain ⟨p, -, hp, rfl⟩ := degRow_mem h s hs
      have ht := to_lt h (q := x / a.k) (Nat.mod_lt x (show 0 < a.k by omega))
      have : p * a.k + a.k ≤ a.lits.length * a.k := by rw [← Nat.succ_mul]; exact Nat.mul_le_mul_right _ hp
      omega
    · have := List.all_eq_true.1 hr.1.2 (x / a.k) (by simpa using hq)
      simp only [rowOk, Bool.and_eq_true] at this
      exact this.2
  · simp only [degenOf, List.all_cons, List.all_nil, Bool.and_true]
    rw [statesB_iff]
    intro s hs
    obtain ⟨q, hq, -, rfl⟩ := mem_degAcc.1 hs
    have : q * a.k < a.lits.length * a.k := Nat.mul_lt_mul_of_pos_right hq (by omega)
    simp only [List.length_map, List.length_range]
    omega

end Lg
