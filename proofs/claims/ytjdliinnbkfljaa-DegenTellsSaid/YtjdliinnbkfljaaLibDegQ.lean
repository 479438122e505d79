/- The automaton with one set, made once more, is itself. -/
import Derived.Test.YtjdliinnbkfljaaLibDegP
namespace Lg
open Go

theorem degAcc_self {a : Aut} (h : OfOk a) : (List.range (a.lits.length * a.k)).filter (fun q : Nat => decide ((q : Int) ∈ degAcc a a.lits.length)) = ((List.range a.lits.length).filter fun q : Nat => decide ((q : Int) ∈ a.sets.getD 0 [])).map (· * a.k) := by
  have hK := h.k.1
  have h1 : ((List.range (a.lits.length * a.k)).filter (fun q : Nat => decide ((q : Int) ∈ degAcc a a.lits.length))).Pairwise (· < ·) := List.Pairwise.filter _ List.pairwise_lt_range
  have h2 : (((List.range a.lits.length).filter fun q : Nat => decide ((q : Int) ∈ a.sets.getD 0 [])).map (· * a.k)).Pairwise (· < ·) := by
    rw [List.pairwise_map]
    exact (List.Pairwise.filter _ List.pairwise_lt_range).imp fun hlt => Nat.mul_lt_mul_of_pos_right hlt hK
  have n1 : ((List.range (a.lits.length * a.k)).filter (fun q : Nat => decide ((q : Int) ∈ degAcc a a.lits.length))).Nodup := h1.imp fun hlt => Nat.ne_of_lt hlt
  have n2 : (((List.range a.lits.length).filter fun q : Nat => decide ((q : Int) ∈ a.sets.getD 0 [])).map (· * a.k)).Nodup := h2.imp fun hlt => Nat.ne_of_lt hlt
  refine List.Perm.eq_of_pairwise (le := (· < ·)) (fun x y _ _ h1 h2 => absurd h1 (by omega)) h1 h2 ((List.perm_ext_iff_of_nodup n1 n2).2 fun x => ?_)
  simp only [List.mem_filter, List.mem_range, decide_eq_true_eq, List.mem_map]
  constructor
  · rintro ⟨hx, hm⟩
    obtain ⟨q, hq, hs, he⟩ := mem_degAcc.1 hm
    exact ⟨q, ⟨hq, hs⟩, by exact_mod_cast he.symm⟩
  · rintro ⟨q, ⟨hq, hs⟩, rfl⟩
    exact ⟨Nat.mul_lt_mul_of_pos_right hq hK, mem_degAcc.2 ⟨q, hq, hs, rfl⟩⟩

theorem deg_k {a : Aut} : (degenOf a).k = 1 := by simp [Aut.k, Aut.sets, degenOf]
theorem deg_sets {a : Aut} : (degenOf a).sets.getD 0 [] = degAcc a a.lits.length := by simp [Aut.sets, degenOf]

/-- With one set alone the numbers of the states stay. -/
theorem to_one {b : Aut} (hk : b.k = 1) {q i : Nat} (hi : i = 0) : b.to q i = 0 := by
  unfold Aut.to; rw [hk]; split <;> omega

theorem degRow_one {b : Aut} (hk : b.k = 1) {x : Nat} : degRow b x = b.next.getD x [] := by
  unfold degRow
  rw [hk, Nat.div_one, Nat.mod_one, to_one hk rfl]
  simp
theorem degLit_one {b : Aut} (hk : b.k = 1) {x : Nat} : degLit b x = b.lits.getD x [] := by
  unfold degLit
  rw [hk, Nat.div_one]

theorem map_getD_self {α : Type} {l : List α} {d : α} {n : Nat} (h : n = l.length) : (List.range n).map (fun x => l.getD x d) = l := by
  subst h
  refine List.ext_getElem (by simp) fun i h1 h2 => ?_
  simp [List.getD, h2]

theorem degen_one {b : Aut} (hk : b.k = 1) (hn : b.next.length = b.lits.length) : (degenOf b).lits = b.lits ∧ (degenOf b).next = b.next ∧ (degenOf b).init = b.init := by
  have e1 : degLit b = fun x => b.lits.getD x [] := funext fun x => degLit_one hk
  have e2 : degRow b = fun x => b.next.getD x [] := funext fun x => degRow_one hk
  refine ⟨?_, ?_, ?_⟩
  · simp only [degenOf, hk, Nat.mul_one, e1]; exact map_getD_self rfl
  · simp only [degenOf, hk, Nat.mul_one, e2]; exact map_getD_self hn.symm
  · simp only [degenOf, hk]; simp

theorem degen_twice {a : Aut} (h : OfOk a) : degenOf (degenOf a) = degenOf a := by
  obtain ⟨h1, h2, h3⟩ := degen_one (b := degenOf a) deg_k (by rw [deg_next, deg_lits])
  have h4 : (degenOf (degenOf a)).acc = (degenOf a).acc := by
    show [degAcc (degenOf a) (degenOf a).lits.length] = [degAcc a a.lits.length]
    congr 1
    conv => lhs; unfold degAcc
    rw [deg_k, deg_sets, deg_lits, degAcc_self h]
    simp [degAcc]
  generalize degenOf (degenOf a) = b at h1 h2 h3 h4
  generalize degenOf a = c at h1 h2 h3 h4
  cases b; cases c
  simp only at h1 h2 h3 h4
  subst h1 h2 h3 h4
  rfl

/-- The one made is itself fit to be made once more. -/
theorem degen_ofOk {a : Aut} (h : OfOk a) (hn : a.lits.length * a.k ≤ 1000) : OfOk (degenOf a) := by
  refine ⟨degenOf_ok h, degenOf_right h, by rw [deg_lits]; exact hn, by simp [degenOf], fun r hr => ?_, ?_⟩
  · simp only [degenOf, List.mem_map, List.mem_range] at hr
    obtain ⟨x, -, rfl⟩ := hr
    rw [degRow_length]
    by_cases hq : x / a.k < a.next.length
    · rw [show a.next.getD (x / a.k) [] = a.next[x / a.k] by simp [List.getD, hq]]
      exact h.rows _ (List.getElem_mem hq)
    · rw [show a.next.getD (x / a.k) [] = [] by simp [List.getD, List.getElem?_eq_none (Nat.le_of_not_lt hq)]]
      simp
  · simp only [degenOf, List.length_map]; exact h.init

end Lg
