/- The automaton with one set, as the answer's text makes it: the whole of it. -/
import Derived.Test.YtjdliinnbkfljaaLibRef
import Derived.Test.YtjdliinnbkfljaaLibDegQ
namespace Lg
open Go

/-- The numbers of the new set, as far as they have come. -/
def refAcc (a : Aut) (x : Nat) : List Int := ((List.range x).filter fun y => decide (y % a.k = 0 ∧ ((y / a.k : Nat) : Int) ∈ a.sets.getD 0 [])).map fun y : Nat => (y : Int)
theorem refAcc_succ {a : Aut} {x : Nat} : refAcc a (x + 1) = refAcc a x ++ if x % a.k = 0 ∧ ((x / a.k : Nat) : Int) ∈ a.sets.getD 0 [] then [(x : Int)] else [] := by
  unfold refAcc
  rw [List.range_succ, List.filter_append, List.map_append]
  congr 1
  by_cases h : x % a.k = 0 ∧ ((x / a.k : Nat) : Int) ∈ a.sets.getD 0 []
  · rw [if_pos h, List.filter_cons_of_pos (by simpa using h)]; rfl
  · rw [if_neg h, List.filter_cons_of_neg (by simpa using h)]; rfl
theorem refAcc_length {a : Aut} {x : Nat} : (refAcc a x).length ≤ x := by
  unfold refAcc
  rw [List.length_map]
  exact Nat.le_trans (List.length_filter_le _ _) (by simp)

theorem refAcc_all {a : Aut} (h : OfOk a) : refAcc a (a.lits.length * a.k) = degAcc a a.lits.length := by
  have hK := h.k.1
  have e := degAcc_self h
  have e1 : refAcc a (a.lits.length * a.k) = ((List.range (a.lits.length * a.k)).filter (fun q : Nat => decide ((q : Int) ∈ degAcc a a.lits.length))).map fun y : Nat => (y : Int) := by
    unfold refAcc
    congr 1
    refine List.filter_congr fun y hy => ?_
    have hy' := List.mem_range.1 hy
    rw [decide_eq_decide, mem_degAcc]
    constructor
    · rintro ⟨h1, h2⟩
      refine ⟨y / a.k, (Nat.div_lt_iff_lt_mul hK).2 hy', h2, ?_⟩
      have := Nat.div_add_mod y a.k
      rw [h1, Nat.mul_comm] at this
      omega
    · rintro ⟨q, h1, h2, h3⟩
      have h3' : y = q * a.k := by exact_mod_cast h3
      subst h3'
      exact ⟨Nat.mul_mod_left q a.k, by rw [Nat.mul_div_cancel q hK]; exact h2⟩
  rw [e1, e, List.map_map]
  rfl

abbrev accI (a : Aut) (x : Nat) : List L := (refAcc a x).map intL
def refH (a : Aut) (x : Nat) : Heap := [some a.cells, some [nilV, nilV, nilV, nilV]] ++ (if x = 0 then [some [nilV], some [nilV, nilV, nilV, .view 1 2 0 1 true]] else
  [some [accE 1 6 (accI a x)], some [.view 1 4 0 x false, .view 1 5 0 x false, nilV, .view 1 2 0 1 true], some ((degLits a x).map treesL), some ((degRows a x).map cellR)] ++ accH (accI a x))


set_option maxHeartbeats 4000000 in
theorem ref_loop {P : Program} {se isn : Nat} (iis : compF P isn = some irIn) {a : Aut} (h : OfOk a) {Q : X → Env → Heap → Prop} {E : Env} (hE : ∀ p ∈ refB a 0, lk E p.1 = p.2)
    (hQ : ∀ E', (∀ p ∈ refB a (a.lits.length * a.k), lk E' p.1 = p.2) → Q .normal E' (refH a (a.lits.length * a.k))) : lwp P 0 (irRefOfb0 se isn) (X.inBlock 0 Q) E [some a.cells, some [nilV, nilV, nilV, nilV], some [nilV], some [nilV, nilV, nilV, .view 1 2 0 1 true]] := by
  simp only [refB, List.mem_cons, List.not_mem_nil, or_false, forall_eq_or_imp, forall_eq] at hE
  obtain ⟨g1, g2, g3, g4, g5, g6⟩ := hE
  obtain ⟨k, hk⟩ : ∃ k, k = a.k := ⟨_, rfl⟩
  have hkk := h.k
  have hfew := h.few
  have hnx := h.next
  rw [← hk] at hkk hQ
  have hsl : 0 < a.sets.length := by have : a.k = a.sets.length := rfl; omega
  have e0 : a.sets.getD 0 [] = a.sets[0] := by simp [List.getD, hsl]
  obtain ⟨N, hN⟩ : ∃ N, N = a.lits.length * k := ⟨_, rfl⟩
  have hNl : N ≤ 1000000 := by rw [hN]; have := Nat.mul_le_mul hfew hkk.2; omega
  have hwN : IntKind.i64.wrap ((k : Int) * (a.lits.length : Int)) = (N : Int) := by
    rw [show (k : Int) * (a.lits.length : Int) = (N : Int) by rw [hN, Nat.mul_comm]; simp]
    exact wrap_id (by omega) (by omega)
  rw [← hN] at hQ
  simp only [irRefOfb0]
  refine lwp_loopF (fun x : Nat => refB a x) (fun x => refH a x) (fun x => N - x) (fun x => x ≤ N) 0 (by simp) [] ?_ ?_
  · refine ⟨[0, 1, 2, 3], ?_⟩
    simp [refB, refH, setsW, Aut.cells, g1, g2, g3, g4, g5, g6]
  · intro x hxN
    by_cases hlt : x < N
    · have hlt' : (x : Int) < (N : Int) := by omega
      obtain ⟨q, hqe⟩ : ∃ q, q = x / k := ⟨_, rfl⟩
      obtain ⟨i, hie⟩ : ∃ i, i = x % k := ⟨_, rfl⟩
      have hq : q < a.lits.length := by rw [hqe]; exact (Nat.div_lt_iff_lt_mul (by omega)).2 (by omega)
      have hqn : q < a.next.length := by omega
      have hik : i < k := by rw [hie]; exact Nat.mod_lt _ (by omega)
      have htok : a.to q i < k := by rw [hk] at hik ⊢; exact to_lt h hik
      have hmod : (x : Int).tmod (k : Int) = (i : Int) := by rw [hie, Int.tmod_eq_emod_of_nonneg (by omega)]; simp
      have hmod' : (x : Int) % (k : Int) = (i : Int) := by rw [hie]; simp
      have hkz : ¬ (k : Int) = 0 := by omega
      have hkz' : ¬ k = 0 := by omega
      have hw3 : IntKind.i64.wrap ((x : Int) + 1) = ((x + 1 : Nat) : Int) := wrap_id (by omega) (by omega)
      have hrow : degRow a x = a.next[q].map fun p => p * (k : Int) + (a.to q i : Int) := by
        unfold degRow; rw [← hk, ← hqe, ← hie]; simp [List.getD, hqn]
      have hlit : degLit a x = a.lits[q] := by
        unfold degLit; rw [← hk, ← hqe]; simp [List.getD, hq]
      have hs1 := degLits_succ (a := a) (x := x)
      have hs2 := degRows_succ (a := a) (x := x)
      have hs3 := refAcc_succ (a := a) (x := x)
      rw [e0, ← hk, ← hqe, ← hie] at hs3
      have hcon := in_gen iis (c := false) a.sets[0] (h.set hsl) (q : Int)
      have hal := refAcc_length (a := a) (x := x)
      obtain ⟨rA, hrA⟩ : ∃ rA, rA = refAcc a x := ⟨_, rfl⟩
      rw [← hrA] at hs3 hal
      have hp1 : refH a (x + 1) = [some a.cells, some [nilV, nilV, nilV, nilV], some [accE 1 6 (accI a (x + 1))], some [.view 1 4 0 (x + 1) false, .view 1 5 0 (x + 1) false, nilV, .view 1 2 0 1 true], some ((degLits a (x + 1)).map treesL), some ((degRows a (x + 1)).map cellR)] ++ accH (accI a (x + 1)) := by
        unfold refH; rw [if_neg (by omega)]; rfl
      -- CASES
      by_cases hx0 : x = 0
      · have hd0 : degLits a x = [] := by rw [hx0]; rfl
        have hd1 : degRows a x = [] := by rw [hx0]; rfl
        have hA : rA = [] := by rw [hrA, hx0]; rfl
        subst hA
        have hp : refH a x = [some a.cells, some [nilV, nilV, nilV, nilV], some [nilV], some [nilV, nilV, nilV, .view 1 2 0 1 true]] := by simp [refH, hx0]
        rw [hp]
        simp [refB, Aut.cells, ← hk, hwN, hlt']
        refine ref_b1 iis h (x := x) (by rw [← hk]; omega) (by simp [refB, ← hk]) fun E1 b b7 b8 => ?_
        simp only [refB, List.mem_cons, List.not_mem_nil, or_false, forall_eq_or_imp, forall_eq] at b
        obtain ⟨b1, b2, b3, b4, b5, b6⟩ := b
        rw [← hk, ← hqe] at b7 b8
        rw [← hie] at b8
        simp only [irRefOfT]
        simp
        refine ref_l h hqn (t := a.to q i) (x := x) (by omega) (H0 := [some a.cells, some [nilV, nilV, nilV, nilV], some [nilV], some [nilV, nilV, nilV, .view 1 2 0 1 true]]) (by simp) (by simp) (by simp [Aut.cells]) (by simp [refB, b1, b2, b3, b4, b5, b6]) (by simp [b7]) (by simp [b8]) (by simp) (by simp) fun E2 c c7 c8 c10 => ?_
        simp only [refB, List.mem_cons, List.not_mem_nil, or_false, forall_eq_or_imp, forall_eq] at c
        obtain ⟨c1, c2, c3, c4, c5, c6⟩ := c
        rw [← hk] at c4 c10 ⊢
        rw [← hrow] at c10 ⊢
        simp only [irRefOfU]
        by_cases hr : degRow a x = []
        · rw [hr] at c10 ⊢
          simp [accE, accH] at c10 ⊢
          have hcr : cellR (degRow a x) = .v (.slice none 0 0) := by rw [hr]; rfl
          simp [c1, c3, c5, c7, c10, hq, Aut.cells, setsW, hsl]
          refine callT_plain hcon rfl (by simp) ?_
          by_cases hi0 : i = 0
          · have hi0i : (i : Int) = 0 := by omega
            by_cases hin : (q : Int) ∈ a.sets[0]
            · rw [if_pos ⟨hi0, hin⟩] at hs3
              simp [hi0, hin, c4, c5, c6, hmod, hkz']
              first | refine ⟨x + 1, by omega, by simp <;> omega, [], ?_⟩ | refine ⟨by omega, x + 1, by omega, by simp <;> omega, [], ?_⟩ | refine ⟨by omega, by omega, x + 1, by omega, by simp <;> omega, [], ?_⟩ | refine ⟨⟨by omega, by omega⟩, x + 1, by omega, by simp <;> omega, [], ?_⟩
              show weak 0 _ _ [(1, .ptr 0 0), (2, .ptr 1 0), (3, setsW a), (4, intL k), (5, .ptr 3 0), (6, intL (x + 1 : Nat))] (refH a (x + 1))
              rw [hp1, hs1, hs2, hlit, accI, hs3]
              refine ⟨[0, 1, 2, 3, 5, 7, 9], ?_⟩
              simp [setsW, accE, accH, c1, c2, c3, c4, c5, hw3, Aut.cells, hcr, hd0, hd1]
              exact hx0
            · rw [if_neg (fun e => hin e.2), List.append_nil] at hs3
              simp [hi0, hin, c4, c6, hmod, hkz']
              first | refine ⟨x + 1, by omega, by simp <;> omega, [], ?_⟩ | refine ⟨by omega, x + 1, by omega, by simp <;> omega, [], ?_⟩ | refine ⟨by omega, by omega, x + 1, by omega, by simp <;> omega, [], ?_⟩ | refine ⟨⟨by omega, by omega⟩, x + 1, by omega, by simp <;> omega, [], ?_⟩
              show weak 0 _ _ [(1, .ptr 0 0), (2, .ptr 1 0), (3, setsW a), (4, intL k), (5, .ptr 3 0), (6, intL (x + 1 : Nat))] (refH a (x + 1))
              rw [hp1, hs1, hs2, hlit, accI, hs3]
              refine ⟨[0, 1, 2, 3, 5, 7], ?_⟩
              simp [setsW, accE, accH, c1, c2, c3, c4, c5, hw3, Aut.cells, hcr, hd0, hd1]
              exact hx0
          · have hi0i : ¬ (i : Int) = 0 := by omega
            rw [if_neg (fun e => hi0 e.1), List.append_nil] at hs3
            simp [hi0, c4, c6, hmod, hkz']
            first | refine ⟨x + 1, by omega, by simp <;> omega, [], ?_⟩ | refine ⟨by omega, x + 1, by omega, by simp <;> omega, [], ?_⟩ | refine ⟨by omega, by omega, x + 1, by omega, by simp <;> omega, [], ?_⟩ | refine ⟨⟨by omega, by omega⟩, x + 1, by omega, by simp <;> omega, [], ?_⟩
            show weak 0 _ _ [(1, .ptr 0 0), (2, .ptr 1 0), (3, setsW a), (4, intL k), (5, .ptr 3 0), (6, intL (x + 1 : Nat))] (refH a (x + 1))
            rw [hp1, hs1, hs2, hlit, accI, hs3]
            refine ⟨[0, 1, 2, 3, 5, 7], ?_⟩
            simp [setsW, accE, accH, c1, c2, c3, c4, c5, hw3, Aut.cells, hcr, hd0, hd1]
            exact hx0
        · have hr' : (degRow a x).map intL ≠ [] := by simpa using hr
          simp only [accE_ne hr', accH_ne hr'] at c10 ⊢
          have hcr : cellR (degRow a x) = .sl 1 false ((degRow a x).map intL) := cellR_ne hr
          simp at c10 ⊢
          simp [c1, c3, c5, c7, c10, hq, Aut.cells, setsW, hsl]
          refine callT_plain hcon rfl (by simp) ?_
          by_cases hi0 : i = 0
          · have hi0i : (i : Int) = 0 := by omega
            by_cases hin : (q : Int) ∈ a.sets[0]
            · rw [if_pos ⟨hi0, hin⟩] at hs3
              simp [hi0, hin, c4, c5, c6, hmod, hkz']
              first | refine ⟨x + 1, by omega, by simp <;> omega, [4], ?_⟩ | refine ⟨by omega, x + 1, by omega, by simp <;> omega, [4], ?_⟩ | refine ⟨by omega, by omega, x + 1, by omega, by simp <;> omega, [4], ?_⟩ | refine ⟨⟨by omega, by omega⟩, x + 1, by omega, by simp <;> omega, [4], ?_⟩
              show weak 0 _ _ [(1, .ptr 0 0), (2, .ptr 1 0), (3, setsW a), (4, intL k), (5, .ptr 3 0), (6, intL (x + 1 : Nat))] (refH a (x + 1))
              rw [hp1, hs1, hs2, hlit, accI, hs3]
              refine ⟨[0, 1, 2, 3, 6, 8, 10], ?_⟩
              simp [setsW, accE, accH, c1, c2, c3, c4, c5, hw3, Aut.cells, hcr, hd0, hd1]
              exact hx0
            · rw [if_neg (fun e => hin e.2), List.append_nil] at hs3
              simp [hi0, hin, c4, c6, hmod, hkz']
              first | refine ⟨x + 1, by omega, by simp <;> omega, [4], ?_⟩ | refine ⟨by omega, x + 1, by omega, by simp <;> omega, [4], ?_⟩ | refine ⟨by omega, by omega, x + 1, by omega, by simp <;> omega, [4], ?_⟩ | refine ⟨⟨by omega, by omega⟩, x + 1, by omega, by simp <;> omega, [4], ?_⟩
              show weak 0 _ _ [(1, .ptr 0 0), (2, .ptr 1 0), (3, setsW a), (4, intL k), (5, .ptr 3 0), (6, intL (x + 1 : Nat))] (refH a (x + 1))
              rw [hp1, hs1, hs2, hlit, accI, hs3]
              refine ⟨[0, 1, 2, 3, 6, 8], ?_⟩
              simp [setsW, accE, accH, c1, c2, c3, c4, c5, hw3, Aut.cells, hcr, hd0, hd1]
              exact hx0
          · have hi0i : ¬ (i : Int) = 0 := by omega
            rw [if_neg (fun e => hi0 e.1), List.append_nil] at hs3
            simp [hi0, c4, c6, hmod, hkz']
            first | refine ⟨x + 1, by omega, by simp <;> omega, [4], ?_⟩ | refine ⟨by omega, x + 1, by omega, by simp <;> omega, [4], ?_⟩ | refine ⟨by omega, by omega, x + 1, by omega, by simp <;> omega, [4], ?_⟩ | refine ⟨⟨by omega, by omega⟩, x + 1, by omega, by simp <;> omega, [4], ?_⟩
            show weak 0 _ _ [(1, .ptr 0 0), (2, .ptr 1 0), (3, setsW a), (4, intL k), (5, .ptr 3 0), (6, intL (x + 1 : Nat))] (refH a (x + 1))
            rw [hp1, hs1, hs2, hlit, accI, hs3]
            refine ⟨[0, 1, 2, 3, 6, 8], ?_⟩
            simp [setsW, accE, accH, c1, c2, c3, c4, c5, hw3, Aut.cells, hcr, hd0, hd1]
            exact hx0
      · by_cases hA : rA = []
        · subst hA
          have hp : refH a x = [some a.cells, some [nilV, nilV, nilV, nilV], some [nilV], some [.view 1 4 0 x false, .view 1 5 0 x false, nilV, .view 1 2 0 1 true], some ((degLits a x).map treesL), some ((degRows a x).map cellR)] := by simp [refH, accE, accH, accI, ← hrA, hx0]
          rw [hp]
          simp [refB, Aut.cells, ← hk, hwN, hlt']
          refine ref_b1 iis h (x := x) (by rw [← hk]; omega) (by simp [refB, ← hk]) fun E1 b b7 b8 => ?_
          simp only [refB, List.mem_cons, List.not_mem_nil, or_false, forall_eq_or_imp, forall_eq] at b
          obtain ⟨b1, b2, b3, b4, b5, b6⟩ := b
          rw [← hk, ← hqe] at b7 b8
          rw [← hie] at b8
          simp only [irRefOfT]
          simp
          refine ref_l h hqn (t := a.to q i) (x := x) (by omega) (H0 := [some a.cells, some [nilV, nilV, nilV, nilV], some [nilV], some [.view 1 4 0 x false, .view 1 5 0 x false, nilV, .view 1 2 0 1 true], some ((degLits a x).map treesL), some ((degRows a x).map cellR)]) (by simp) (by simp) (by simp [Aut.cells]) (by simp [refB, b1, b2, b3, b4, b5, b6]) (by simp [b7]) (by simp [b8]) (by simp) (by simp) fun E2 c c7 c8 c10 => ?_
          simp only [refB, List.mem_cons, List.not_mem_nil, or_false, forall_eq_or_imp, forall_eq] at c
          obtain ⟨c1, c2, c3, c4, c5, c6⟩ := c
          rw [← hk] at c4 c10 ⊢
          rw [← hrow] at c10 ⊢
          simp only [irRefOfU]
          by_cases hr : degRow a x = []
          · rw [hr] at c10 ⊢
            simp [accE, accH] at c10 ⊢
            have hcr : cellR (degRow a x) = .v (.slice none 0 0) := by rw [hr]; rfl
            simp [c1, c3, c5, c7, c10, hq, Aut.cells, setsW, hsl]
            try refine ⟨by omega, ?_⟩
            try simp [c1, c2, c3, c4, c5, c6, c7, c8, c10, hq, Aut.cells, setsW, hsl]
            refine callT_plain hcon rfl (by simp) ?_
            by_cases hi0 : i = 0
            · have hi0i : (i : Int) = 0 := by omega
              by_cases hin : (q : Int) ∈ a.sets[0]
              · rw [if_pos ⟨hi0, hin⟩] at hs3
                simp [hi0, hin, c4, c5, c6, hmod, hkz']
                first | refine ⟨x + 1, by omega, by simp <;> omega, [], ?_⟩ | refine ⟨by omega, x + 1, by omega, by simp <;> omega, [], ?_⟩ | refine ⟨by omega, by omega, x + 1, by omega, by simp <;> omega, [], ?_⟩ | refine ⟨⟨by omega, by omega⟩, x + 1, by omega, by simp <;> omega, [], ?_⟩
                show weak 0 _ _ [(1, .ptr 0 0), (2, .ptr 1 0), (3, setsW a), (4, intL k), (5, .ptr 3 0), (6, intL (x + 1 : Nat))] (refH a (x + 1))
                rw [hp1, hs1, hs2, hlit, accI, hs3]
                refine ⟨[0, 1, 2, 3, 7, 9, 11], ?_⟩
                simp [setsW, accE, accH, c1, c2, c3, c4, c5, hw3, Aut.cells, hcr]
              · rw [if_neg (fun e => hin e.2), List.append_nil] at hs3
                simp [hi0, hin, c4, c6, hmod, hkz']
                first | refine ⟨x + 1, by omega, by simp <;> omega, [], ?_⟩ | refine ⟨by omega, x + 1, by omega, by simp <;> omega, [], ?_⟩ | refine ⟨by omega, by omega, x + 1, by omega, by simp <;> omega, [], ?_⟩ | refine ⟨⟨by omega, by omega⟩, x + 1, by omega, by simp <;> omega, [], ?_⟩
                show weak 0 _ _ [(1, .ptr 0 0), (2, .ptr 1 0), (3, setsW a), (4, intL k), (5, .ptr 3 0), (6, intL (x + 1 : Nat))] (refH a (x + 1))
                rw [hp1, hs1, hs2, hlit, accI, hs3]
                refine ⟨[0, 1, 2, 3, 7, 9], ?_⟩
                simp [setsW, accE, accH, c1, c2, c3, c4, c5, hw3, Aut.cells, hcr]
            · have hi0i : ¬ (i : Int) = 0 := by omega
              rw [if_neg (fun e => hi0 e.1), List.append_nil] at hs3
              simp [hi0, c4, c6, hmod, hkz']
              first | refine ⟨x + 1, by omega, by simp <;> omega, [], ?_⟩ | refine ⟨by omega, x + 1, by omega, by simp <;> omega, [], ?_⟩ | refine ⟨by omega, by omega, x + 1, by omega, by simp <;> omega, [], ?_⟩ | refine ⟨⟨by omega, by omega⟩, x + 1, by omega, by simp <;> omega, [], ?_⟩
              show weak 0 _ _ [(1, .ptr 0 0), (2, .ptr 1 0), (3, setsW a), (4, intL k), (5, .ptr 3 0), (6, intL (x + 1 : Nat))] (refH a (x + 1))
              rw [hp1, hs1, hs2, hlit, accI, hs3]
              refine ⟨[0, 1, 2, 3, 7, 9], ?_⟩
              simp [setsW, accE, accH, c1, c2, c3, c4, c5, hw3, Aut.cells, hcr]
          · have hr' : (degRow a x).map intL ≠ [] := by simpa using hr
            simp only [accE_ne hr', accH_ne hr'] at c10 ⊢
            have hcr : cellR (degRow a x) = .sl 1 false ((degRow a x).map intL) := cellR_ne hr
            simp at c10 ⊢
            simp [c1, c3, c5, c7, c10, hq, Aut.cells, setsW, hsl]
            try refine ⟨by omega, ?_⟩
            try simp [c1, c2, c3, c4, c5, c6, c7, c8, c10, hq, Aut.cells, setsW, hsl]
            refine callT_plain hcon rfl (by simp) ?_
            by_cases hi0 : i = 0
            · have hi0i : (i : Int) = 0 := by omega
              by_cases hin : (q : Int) ∈ a.sets[0]
              · rw [if_pos ⟨hi0, hin⟩] at hs3
                simp [hi0, hin, c4, c5, c6, hmod, hkz']
                first | refine ⟨x + 1, by omega, by simp <;> omega, [6], ?_⟩ | refine ⟨by omega, x + 1, by omega, by simp <;> omega, [6], ?_⟩ | refine ⟨by omega, by omega, x + 1, by omega, by simp <;> omega, [6], ?_⟩ | refine ⟨⟨by omega, by omega⟩, x + 1, by omega, by simp <;> omega, [6], ?_⟩
                show weak 0 _ _ [(1, .ptr 0 0), (2, .ptr 1 0), (3, setsW a), (4, intL k), (5, .ptr 3 0), (6, intL (x + 1 : Nat))] (refH a (x + 1))
                rw [hp1, hs1, hs2, hlit, accI, hs3]
                refine ⟨[0, 1, 2, 3, 8, 10, 12], ?_⟩
                simp [setsW, accE, accH, c1, c2, c3, c4, c5, hw3, Aut.cells, hcr]
              · rw [if_neg (fun e => hin e.2), List.append_nil] at hs3
                simp [hi0, hin, c4, c6, hmod, hkz']
                first | refine ⟨x + 1, by omega, by simp <;> omega, [6], ?_⟩ | refine ⟨by omega, x + 1, by omega, by simp <;> omega, [6], ?_⟩ | refine ⟨by omega, by omega, x + 1, by omega, by simp <;> omega, [6], ?_⟩ | refine ⟨⟨by omega, by omega⟩, x + 1, by omega, by simp <;> omega, [6], ?_⟩
                show weak 0 _ _ [(1, .ptr 0 0), (2, .ptr 1 0), (3, setsW a), (4, intL k), (5, .ptr 3 0), (6, intL (x + 1 : Nat))] (refH a (x + 1))
                rw [hp1, hs1, hs2, hlit, accI, hs3]
                refine ⟨[0, 1, 2, 3, 8, 10], ?_⟩
                simp [setsW, accE, accH, c1, c2, c3, c4, c5, hw3, Aut.cells, hcr]
            · have hi0i : ¬ (i : Int) = 0 := by omega
              rw [if_neg (fun e => hi0 e.1), List.append_nil] at hs3
              simp [hi0, c4, c6, hmod, hkz']
              first | refine ⟨x + 1, by omega, by simp <;> omega, [6], ?_⟩ | refine ⟨by omega, x + 1, by omega, by simp <;> omega, [6], ?_⟩ | refine ⟨by omega, by omega, x + 1, by omega, by simp <;> omega, [6], ?_⟩ | refine ⟨⟨by omega, by omega⟩, x + 1, by omega, by simp <;> omega, [6], ?_⟩
              show weak 0 _ _ [(1, .ptr 0 0), (2, .ptr 1 0), (3, setsW a), (4, intL k), (5, .ptr 3 0), (6, intL (x + 1 : Nat))] (refH a (x + 1))
              rw [hp1, hs1, hs2, hlit, accI, hs3]
              refine ⟨[0, 1, 2, 3, 8, 10], ?_⟩
              simp [setsW, accE, accH, c1, c2, c3, c4, c5, hw3, Aut.cells, hcr]
        · skip
          have hp : refH a x = [some a.cells, some [nilV, nilV, nilV, nilV], some [.view 1 6 0 rA.length false], some [.view 1 4 0 x false, .view 1 5 0 x false, nilV, .view 1 2 0 1 true], some ((degLits a x).map treesL), some ((degRows a x).map cellR), some (rA.map intL)] := by simp [refH, accE, accH, accI, ← hrA, hx0, hA]
          rw [hp]
          simp [refB, Aut.cells, ← hk, hwN, hlt']
          refine ref_b1 iis h (x := x) (by rw [← hk]; omega) (by simp [refB, ← hk]) fun E1 b b7 b8 => ?_
          simp only [refB, List.mem_cons, List.not_mem_nil, or_false, forall_eq_or_imp, forall_eq] at b
          obtain ⟨b1, b2, b3, b4, b5, b6⟩ := b
          rw [← hk, ← hqe] at b7 b8
          rw [← hie] at b8
          simp only [irRefOfT]
          simp
          refine ref_l h hqn (t := a.to q i) (x := x) (by omega) (H0 := [some a.cells, some [nilV, nilV, nilV, nilV], some [.view 1 6 0 rA.length false], some [.view 1 4 0 x false, .view 1 5 0 x false, nilV, .view 1 2 0 1 true], some ((degLits a x).map treesL), some ((degRows a x).map cellR), some (rA.map intL)]) (by simp) (by simp) (by simp [Aut.cells]) (by simp [refB, b1, b2, b3, b4, b5, b6]) (by simp [b7]) (by simp [b8]) (by simp) (by simp) fun E2 c c7 c8 c10 => ?_
          simp only [refB, List.mem_cons, List.not_mem_nil, or_false, forall_eq_or_imp, forall_eq] at c
          obtain ⟨c1, c2, c3, c4, c5, c6⟩ := c
          rw [← hk] at c4 c10 ⊢
          rw [← hrow] at c10 ⊢
          simp only [irRefOfU]
          by_cases hr : degRow a x = []
          · rw [hr] at c10 ⊢
            simp [accE, accH] at c10 ⊢
            have hcr : cellR (degRow a x) = .v (.slice none 0 0) := by rw [hr]; rfl
            simp [c1, c3, c5, c7, c10, hq, Aut.cells, setsW, hsl]
            try refine ⟨by omega, ?_⟩
            try simp [c1, c2, c3, c4, c5, c6, c7, c8, c10, hq, Aut.cells, setsW, hsl]
            refine callT_plain hcon rfl (by simp) ?_
            by_cases hi0 : i = 0
            · have hi0i : (i : Int) = 0 := by omega
              by_cases hin : (q : Int) ∈ a.sets[0]
              · rw [if_pos ⟨hi0, hin⟩] at hs3
                simp [hi0, hin, c4, c5, c6, hmod, hkz']
                first | refine ⟨x + 1, by omega, by simp <;> omega, [], ?_⟩ | refine ⟨by omega, x + 1, by omega, by simp <;> omega, [], ?_⟩ | refine ⟨by omega, by omega, x + 1, by omega, by simp <;> omega, [], ?_⟩ | refine ⟨⟨by omega, by omega⟩, x + 1, by omega, by simp <;> omega, [], ?_⟩
                show weak 0 _ _ [(1, .ptr 0 0), (2, .ptr 1 0), (3, setsW a), (4, intL k), (5, .ptr 3 0), (6, intL (x + 1 : Nat))] (refH a (x + 1))
                rw [hp1, hs1, hs2, hlit, accI, hs3]
                refine ⟨[0, 1, 2, 3, 8, 10, 12], ?_⟩
                simp [setsW, accE, accH, c1, c2, c3, c4, c5, hw3, Aut.cells, hcr, hA]
              · rw [if_neg (fun e => hin e.2), List.append_nil] at hs3
                simp [hi0, hin, c4, c6, hmod, hkz']
                first | refine ⟨x + 1, by omega, by simp <;> omega, [], ?_⟩ | refine ⟨by omega, x + 1, by omega, by simp <;> omega, [], ?_⟩ | refine ⟨by omega, by omega, x + 1, by omega, by simp <;> omega, [], ?_⟩ | refine ⟨⟨by omega, by omega⟩, x + 1, by omega, by simp <;> omega, [], ?_⟩
                show weak 0 _ _ [(1, .ptr 0 0), (2, .ptr 1 0), (3, setsW a), (4, intL k), (5, .ptr 3 0), (6, intL (x + 1 : Nat))] (refH a (x + 1))
                rw [hp1, hs1, hs2, hlit, accI, hs3]
                refine ⟨[0, 1, 2, 3, 8, 10, 6], ?_⟩
                simp [setsW, accE, accH, c1, c2, c3, c4, c5, hw3, Aut.cells, hcr, hA]
            · have hi0i : ¬ (i : Int) = 0 := by omega
              rw [if_neg (fun e => hi0 e.1), List.append_nil] at hs3
              simp [hi0, c4, c6, hmod, hkz']
              first | refine ⟨x + 1, by omega, by simp <;> omega, [], ?_⟩ | refine ⟨by omega, x + 1, by omega, by simp <;> omega, [], ?_⟩ | refine ⟨by omega, by omega, x + 1, by omega, by simp <;> omega, [], ?_⟩ | refine ⟨⟨by omega, by omega⟩, x + 1, by omega, by simp <;> omega, [], ?_⟩
              show weak 0 _ _ [(1, .ptr 0 0), (2, .ptr 1 0), (3, setsW a), (4, intL k), (5, .ptr 3 0), (6, intL (x + 1 : Nat))] (refH a (x + 1))
              rw [hp1, hs1, hs2, hlit, accI, hs3]
              refine ⟨[0, 1, 2, 3, 8, 10, 6], ?_⟩
              simp [setsW, accE, accH, c1, c2, c3, c4, c5, hw3, Aut.cells, hcr, hA]
          · have hr' : (degRow a x).map intL ≠ [] := by simpa using hr
            simp only [accE_ne hr', accH_ne hr'] at c10 ⊢
            have hcr : cellR (degRow a x) = .sl 1 false ((degRow a x).map intL) := cellR_ne hr
            simp at c10 ⊢
            simp [c1, c3, c5, c7, c10, hq, Aut.cells, setsW, hsl]
            try refine ⟨by omega, ?_⟩
            try simp [c1, c2, c3, c4, c5, c6, c7, c8, c10, hq, Aut.cells, setsW, hsl]
            refine callT_plain hcon rfl (by simp) ?_
            by_cases hi0 : i = 0
            · have hi0i : (i : Int) = 0 := by omega
              by_cases hin : (q : Int) ∈ a.sets[0]
              · rw [if_pos ⟨hi0, hin⟩] at hs3
                simp [hi0, hin, c4, c5, c6, hmod, hkz']
                first | refine ⟨x + 1, by omega, by simp <;> omega, [7], ?_⟩ | refine ⟨by omega, x + 1, by omega, by simp <;> omega, [7], ?_⟩ | refine ⟨by omega, by omega, x + 1, by omega, by simp <;> omega, [7], ?_⟩ | refine ⟨⟨by omega, by omega⟩, x + 1, by omega, by simp <;> omega, [7], ?_⟩
                show weak 0 _ _ [(1, .ptr 0 0), (2, .ptr 1 0), (3, setsW a), (4, intL k), (5, .ptr 3 0), (6, intL (x + 1 : Nat))] (refH a (x + 1))
                rw [hp1, hs1, hs2, hlit, accI, hs3]
                refine ⟨[0, 1, 2, 3, 9, 11, 13], ?_⟩
                simp [setsW, accE, accH, c1, c2, c3, c4, c5, hw3, Aut.cells, hcr, hA]
              · rw [if_neg (fun e => hin e.2), List.append_nil] at hs3
                simp [hi0, hin, c4, c6, hmod, hkz']
                first | refine ⟨x + 1, by omega, by simp <;> omega, [7], ?_⟩ | refine ⟨by omega, x + 1, by omega, by simp <;> omega, [7], ?_⟩ | refine ⟨by omega, by omega, x + 1, by omega, by simp <;> omega, [7], ?_⟩ | refine ⟨⟨by omega, by omega⟩, x + 1, by omega, by simp <;> omega, [7], ?_⟩
                show weak 0 _ _ [(1, .ptr 0 0), (2, .ptr 1 0), (3, setsW a), (4, intL k), (5, .ptr 3 0), (6, intL (x + 1 : Nat))] (refH a (x + 1))
                rw [hp1, hs1, hs2, hlit, accI, hs3]
                refine ⟨[0, 1, 2, 3, 9, 11, 6], ?_⟩
                simp [setsW, accE, accH, c1, c2, c3, c4, c5, hw3, Aut.cells, hcr, hA]
            · have hi0i : ¬ (i : Int) = 0 := by omega
              rw [if_neg (fun e => hi0 e.1), List.append_nil] at hs3
              simp [hi0, c4, c6, hmod, hkz']
              first | refine ⟨x + 1, by omega, by simp <;> omega, [7], ?_⟩ | refine ⟨by omega, x + 1, by omega, by simp <;> omega, [7], ?_⟩ | refine ⟨by omega, by omega, x + 1, by omega, by simp <;> omega, [7], ?_⟩ | refine ⟨⟨by omega, by omega⟩, x + 1, by omega, by simp <;> omega, [7], ?_⟩
              show weak 0 _ _ [(1, .ptr 0 0), (2, .ptr 1 0), (3, setsW a), (4, intL k), (5, .ptr 3 0), (6, intL (x + 1 : Nat))] (refH a (x + 1))
              rw [hp1, hs1, hs2, hlit, accI, hs3]
              refine ⟨[0, 1, 2, 3, 9, 11, 6], ?_⟩
              simp [setsW, accE, accH, c1, c2, c3, c4, c5, hw3, Aut.cells, hcr, hA]
      -- END
    · have hxe : x = N := by omega
      subst hxe
      have hp : (refH a x)[0]? = some (some a.cells) := by unfold refH; rfl
      simp [refB, ← hk, hwN, hp, Aut.cells]
      refine hQ _ ?_
      simp [refB, setsW, ← hk]

end Lg
