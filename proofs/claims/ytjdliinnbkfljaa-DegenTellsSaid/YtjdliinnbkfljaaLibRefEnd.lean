/- The automaton with one set, as the answer's text makes it: its beginnings, and what is given. -/
import Derived.Test.YtjdliinnbkfljaaLibRefOf
namespace Lg
open Go

theorem ref_b4_E {P : Program} {se isn : Nat} {a : Aut} (h : OfOk a) {x : Nat} {LL NN : List L} (hLL : ∀ m, belowL m LL = true) (hNN : ∀ m, belowL m NN = true) (rLL : ∀ f, renL f LL = LL) (rNN : ∀ f, renL f NN = NN)
    {Q : X → Env → Heap → Prop} {E : Env} (h1 : lk E 1 = .ptr 0 0) (h2 : lk E 2 = .ptr 1 0) (h4 : lk E 4 = intL a.k) (h5 : lk E 5 = .ptr 3 0) (h13 : lk E 13 = intL 0)
    (hQ : ∀ E', lk E' 2 = .ptr 1 0 → lk E' 5 = .ptr 3 0 → Q .normal E' ([some a.cells, some [nilV, nilV, nilV, nilV], some [nilV], some [.view 1 4 0 x false, .view 1 5 0 x false, accE 1 6 (inits a a.k a.init.length), .view 1 2 0 1 true], some LL, some NN] ++ accH (inits a a.k a.init.length))) :
    lwp P 0 (irRefOfb4 se isn) (X.inBlock 4 Q) E [some a.cells, some [nilV, nilV, nilV, nilV], some [nilV], some [.view 1 4 0 x false, .view 1 5 0 x false, nilV, .view 1 2 0 1 true], some LL, some NN] := by
  have bini : ∀ k j m, belowL m (inits a k j) = true := fun k j m => belowL_inits
  have rini : ∀ k j f, renL f (inits a k j) = inits a k j := fun k j f => renL_inits
  obtain ⟨k, hk⟩ : ∃ k, k = a.k := ⟨_, rfl⟩
  have hkk := h.k
  have hfew := h.few
  have hini := h.init
  rw [← hk] at h4 hQ hkk
  simp only [irRefOfb4]
  refine lwp_loop (fun j : Nat => [(1, .ptr 0 0), (2, .ptr 1 0), (4, intL k), (5, .ptr 3 0), (13, intL j)])
    (fun j => [some a.cells, some [nilV, nilV, nilV, nilV], some [nilV], some [.view 1 4 0 x false, .view 1 5 0 x false, accE 1 6 (inits a k j), .view 1 2 0 1 true], some LL, some NN] ++ accH (inits a k j)) (fun j => a.init.length - j) (fun j => j ≤ a.init.length) 0 (by simp) ⟨[0, 1, 2, 3, 4, 5], ?_⟩ ?_
  · simp [h1, h2, h4, h5, h13, inits, Aut.cells, hLL, hNN, rLL, rNN]
  · intro j hj
    by_cases hlt : j < a.init.length
    · obtain ⟨s1, s2⟩ := h.init' _ (List.getElem_mem hlt)
      have hpk : 0 ≤ a.init[j] * (k : Int) ∧ a.init[j] * (k : Int) ≤ 1000000 := by
        refine ⟨Int.mul_nonneg s1 (by omega), ?_⟩
        have := Int.mul_le_mul (show a.init[j] ≤ 1000 by omega) (show (k : Int) ≤ 1000 by omega) (by omega) (by omega)
        omega
      have hw1 : IntKind.i64.wrap (a.init[j] * (k : Int)) = a.init[j] * (k : Int) := wrap_id (by omega) (by omega)
      have hw3 : IntKind.i64.wrap ((j : Int) + 1) = ((j + 1 : Nat) : Int) := wrap_id (by omega) (by omega)
      have hsucc := inits_succ (k := k) hlt
      have hne : inits a k (j + 1) ≠ [] := by rw [hsucc]; simp
      have hlen := inits_length (a := a) (k := k) hj
      by_cases hj0 : j = 0
      · subst hj0
        have e0 : inits a k 0 = [] := rfl
        simp only [e0] at hsucc ⊢
        simp [hlt, Aut.cells, hw1]
        refine ⟨1, by omega, by simp <;> omega, [0, 1, 2, 3, 4, 5, 7], ?_⟩
        have hww : IntKind.i64.wrap 1 = 1 := by decide
        simp [accE, accH, hsucc, hww, Aut.cells, hLL, hNN, rLL, rNN]
      · have hne0 : inits a k j ≠ [] := by intro e; rw [e] at hlen; simp at hlen; omega
        simp only [accE_ne hne0, accH_ne hne0, hlen]
        simp [hlt, Aut.cells, hw1, hlen]
        refine ⟨by omega, j + 1, by omega, by simp <;> omega, [0, 1, 2, 3, 4, 5, 8], ?_⟩
        simp [accE, accH, hsucc, hw3, Aut.cells, hLL, hNN, rLL, rNN, hlen, bini, rini]
    · have hjn : j = a.init.length := by omega
      subst hjn
      simp [Aut.cells]
      refine hQ _ ?_ ?_ <;> simp

theorem ref_b4_A {P : Program} {se isn : Nat} {a : Aut} (h : OfOk a) {x m : Nat} {LL NN AC : List L} (hLL : ∀ m, belowL m LL = true) (hNN : ∀ m, belowL m NN = true) (hAC : ∀ m, belowL m AC = true) (rLL : ∀ f, renL f LL = LL) (rNN : ∀ f, renL f NN = NN) (rAC : ∀ f, renL f AC = AC)
    {Q : X → Env → Heap → Prop} {E : Env} (h1 : lk E 1 = .ptr 0 0) (h2 : lk E 2 = .ptr 1 0) (h4 : lk E 4 = intL a.k) (h5 : lk E 5 = .ptr 3 0) (h13 : lk E 13 = intL 0)
    (hQ : ∀ E', lk E' 2 = .ptr 1 0 → lk E' 5 = .ptr 3 0 → Q .normal E' ([some a.cells, some [nilV, nilV, nilV, nilV], some [.view 1 6 0 m false], some [.view 1 4 0 x false, .view 1 5 0 x false, accE 1 7 (inits a a.k a.init.length), .view 1 2 0 1 true], some LL, some NN, some AC] ++ accH (inits a a.k a.init.length))) :
    lwp P 0 (irRefOfb4 se isn) (X.inBlock 4 Q) E [some a.cells, some [nilV, nilV, nilV, nilV], some [.view 1 6 0 m false], some [.view 1 4 0 x false, .view 1 5 0 x false, nilV, .view 1 2 0 1 true], some LL, some NN, some AC] := by
  have bini : ∀ k j m, belowL m (inits a k j) = true := fun k j m => belowL_inits
  have rini : ∀ k j f, renL f (inits a k j) = inits a k j := fun k j f => renL_inits
  obtain ⟨k, hk⟩ : ∃ k, k = a.k := ⟨_, rfl⟩
  have hkk := h.k
  have hfew := h.few
  have hini := h.init
  rw [← hk] at h4 hQ hkk
  simp only [irRefOfb4]
  refine lwp_loop (fun j : Nat => [(1, .ptr 0 0), (2, .ptr 1 0), (4, intL k), (5, .ptr 3 0), (13, intL j)])
    (fun j => [some a.cells, some [nilV, nilV, nilV, nilV], some [.view 1 6 0 m false], some [.view 1 4 0 x false, .view 1 5 0 x false, accE 1 7 (inits a k j), .view 1 2 0 1 true], some LL, some NN, some AC] ++ accH (inits a k j)) (fun j => a.init.length - j) (fun j => j ≤ a.init.length) 0 (by simp) ⟨[0, 1, 2, 3, 4, 5, 6], ?_⟩ ?_
  · simp [h1, h2, h4, h5, h13, inits, Aut.cells, hLL, hNN, rLL, rNN, hAC, rAC]
  · intro j hj
    by_cases hlt : j < a.init.length
    · obtain ⟨s1, s2⟩ := h.init' _ (List.getElem_mem hlt)
      have hpk : 0 ≤ a.init[j] * (k : Int) ∧ a.init[j] * (k : Int) ≤ 1000000 := by
        refine ⟨Int.mul_nonneg s1 (by omega), ?_⟩
        have := Int.mul_le_mul (show a.init[j] ≤ 1000 by omega) (show (k : Int) ≤ 1000 by omega) (by omega) (by omega)
        omega
      have hw1 : IntKind.i64.wrap (a.init[j] * (k : Int)) = a.init[j] * (k : Int) := wrap_id (by omega) (by omega)
      have hw3 : IntKind.i64.wrap ((j : Int) + 1) = ((j + 1 : Nat) : Int) := wrap_id (by omega) (by omega)
      have hsucc := inits_succ (k := k) hlt
      have hne : inits a k (j + 1) ≠ [] := by rw [hsucc]; simp
      have hlen := inits_length (a := a) (k := k) hj
      by_cases hj0 : j = 0
      · subst hj0
        have e0 : inits a k 0 = [] := rfl
        simp only [e0] at hsucc ⊢
        simp [hlt, Aut.cells, hw1]
        refine ⟨1, by omega, by simp <;> omega, [0, 1, 2, 3, 4, 5, 6, 8], ?_⟩
        have hww : IntKind.i64.wrap 1 = 1 := by decide
        simp [accE, accH, hsucc, hww, Aut.cells, hLL, hNN, rLL, rNN, hAC, rAC]
      · have hne0 : inits a k j ≠ [] := by intro e; rw [e] at hlen; simp at hlen; omega
        simp only [accE_ne hne0, accH_ne hne0, hlen]
        simp [hlt, Aut.cells, hw1, hlen]
        refine ⟨by omega, j + 1, by omega, by simp <;> omega, [0, 1, 2, 3, 4, 5, 6, 9], ?_⟩
        simp [accE, accH, hsucc, hw3, Aut.cells, hLL, hNN, rLL, rNN, hAC, rAC, hlen, bini, rini]
    · have hjn : j = a.init.length := by omega
      subst hjn
      simp [Aut.cells]
      refine hQ _ ?_ ?_ <;> simp

end Lg
