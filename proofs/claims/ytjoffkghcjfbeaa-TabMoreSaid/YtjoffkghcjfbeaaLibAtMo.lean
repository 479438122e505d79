/- What an automaton takes grows with its edges and beginnings, and falls with its literals and sets. -/
import Derived.Test.YtjoffkghcjfbeaaLibAtPT
namespace Lg
open Go
structure Grows (a b : Aut) : Prop where
 lits : b.lits.length = a.lits.length
 fits : ∀ q v, a.fits q v = true → b.fits q v = true
 next : ∀ q, ∀ s ∈ a.next.getD q [], s ∈ b.next.getD q []
 init : ∀ s ∈ a.init, s ∈ b.init
 sets : ∀ k, k < (setsOf b).length → ∃ k', k' < (setsOf a).length ∧ ∀ s : Nat, s < a.lits.length → (s : Int) ∈ (setsOf a).getD k' [] → (s : Int) ∈ (setsOf b).getD k []
section
variable {a b : Aut} {w : Word}
theorem takes_grows (ho : AutOk a w) (ho' : AutOk b w) (h : Grows a b) (ht : a.takes w = true) : b.takes w = true := by
 rw [takes_iff] at ht ⊢
 obtain ⟨q, hq, Z, hZ, hz⟩ := ht
 have hN : nN b w = nN a w := by unfold nN; rw [h.lits]
 have hZl : ∀ j, Z j → j < nN a w := fun j hj => (onsOn.1 (hZ j hj).1).1
 have hnx : ∀ j x, j < nN a w → x ∈ nxf (takesG a w) j → x ∈ nxf (takesG b w) j := fun j x hj hx => by
  obtain ⟨s, hs, rfl⟩ := (nxf_mem ho hj).1 hx
  rw [nxf_mem ho' (by rw [hN]; exact hj), h.lits]
  exact ⟨s, h.next _ _ hs, rfl⟩
 refine ⟨q, h.init q hq, Z, fun j hj => ?_, hz⟩
 have hjN := hZl j hj
 refine ⟨onsOn.2 ⟨by rw [hN]; exact hjN, ?_⟩, fun k hk => ?_⟩
 ·have := (onsOn.1 (hZ j hj).1).2
  unfold nodeOn at this ⊢
  rw [h.lits]
  exact h.fits _ _ this
 ·rw [sets_length] at hk
  obtain ⟨k', hk', hs⟩ := h.sets k hk
  have hr := (hZ j hj).2 k' (by rw [sets_length]; exact hk')
  have key : ∀ j, Rch (nxf (takesG a w)) Z (Sk (takesG a w) k') j → Z j → Rch (nxf (takesG b w)) Z (Sk (takesG b w) k) j := by
   intro j hr
   induction hr with
   | one h1 h2 h3 =>
    intro hj
    have hl := hZl _ h2
    refine .one (hnx _ _ (hZl _ hj) h1) h2 ((sk_iff ho' hk (by rw [hN]; exact hl)).2 ?_)
    have := (sk_iff ho hk' hl).1 h3
    simp only [inS, plOf, h.lits] at this ⊢
    exact hs _ (nN_div hl).2.1 this
   | more h1 h2 _ ih =>
    intro hj
    exact .more (hnx _ _ (hZl _ hj) h1) h2 (ih h2)
  exact key j hr hj
structure RightP (a : Aut) : Prop where
 init : ∀ s ∈ a.init, 0 ≤ s ∧ s < (a.lits.length : Int)
 len : a.next.length = a.lits.length
 next : ∀ r ∈ a.next, ∀ s ∈ r, 0 ≤ s ∧ s < (a.lits.length : Int)
 lit : ∀ l ∈ a.lits, ∀ t ∈ l, t.lit = true
 acc : ∀ r ∈ a.acc, ∀ s ∈ r, 0 ≤ s ∧ s < (a.lits.length : Int)
theorem statesB_iff {xs : List Int} {n : Nat} : statesB xs n = true ↔ ∀ s ∈ xs, 0 ≤ s ∧ s < (n : Int) := by simp [statesB]
theorem right_iff : a.right = true ↔ RightP a := by
 simp only [Aut.right, Bool.and_eq_true, decide_eq_true_eq]
 constructor
 ·rintro ⟨⟨⟨h1, h2⟩, h3⟩, h4⟩
  have h3' : ∀ q, q < a.lits.length → rowOk a q = true := fun q hq => List.all_eq_true.1 h3 q (by simpa using hq)
  refine ⟨statesB_iff.1 h1, h2, fun r hr => ?_, fun l hl => ?_, fun r hr => statesB_iff.1 (List.all_eq_true.1 h4 r hr)⟩
  ·obtain ⟨q, hq, rfl⟩ := List.getElem_of_mem hr
   have := h3' q (by omega)
   simp only [rowOk, Bool.and_eq_true] at this
   have h := statesB_iff.1 this.1
   simpa [List.getD, hq] using h
  ·obtain ⟨q, hq, rfl⟩ := List.getElem_of_mem hl
   have := h3' q hq
   simp only [rowOk, Bool.and_eq_true] at this
   have h := List.all_eq_true.1 this.2
   simpa [List.getD, hq] using h
 ·rintro ⟨h1, h2, h3, h4, h5⟩
  refine ⟨⟨⟨statesB_iff.2 h1, h2⟩, List.all_eq_true.2 fun q hq => ?_⟩, List.all_eq_true.2 fun r hr => statesB_iff.2 (h5 r hr)⟩
  have hq' : q < a.lits.length := by simpa using hq
  simp only [rowOk, Bool.and_eq_true]
  refine ⟨statesB_iff.2 ?_, List.all_eq_true.2 ?_⟩
  ·have := h3 _ (List.getElem_mem (show q < a.next.length by omega))
   simpa [List.getD, show q < a.next.length by omega] using this
  ·have := h4 _ (List.getElem_mem hq')
   simpa [List.getD, hq'] using this
def Aut.edge (a : Aut) (x y : Nat) : Aut := { a with next := a.next.set x (a.next.getD x [] ++ [(y : Int)]) }
def Aut.begin (a : Aut) (y : Nat) : Aut := { a with init := a.init ++ [(y : Int)] }
def Aut.ask (a : Aut) (x : Nat) (t : T) : Aut := { a with lits := a.lits.set x (a.lits.getD x [] ++ [t]) }
def Aut.meet (a : Aut) (x y : Nat) : Aut := { a with acc := a.acc ++ [[(x : Int), (y : Int)]] }
variable {x y : Nat} {t : T}
theorem edge_right (h : a.right = true) (hx : x < a.lits.length) (hy : y < a.lits.length) : (a.edge x y).right = true := by
 rw [right_iff] at h ⊢
 have hx' : x < a.next.length := by have := h.len; omega
 refine ⟨h.init, by simpa [Aut.edge] using h.len, fun r hr => ?_, h.lit, h.acc⟩
 rcases List.mem_or_eq_of_mem_set hr with hr | rfl
 ·exact h.next r hr
 ·intro s hs
  rcases List.mem_append.1 hs with hs | hs
  ·refine h.next _ (List.getElem_mem hx') s ?_
   simpa [List.getD, hx'] using hs
  ·simp at hs; subst hs
   show (0 : Int) ≤ y ∧ (y : Int) < (a.lits.length : Int)
   omega
theorem begin_right (h : a.right = true) (hy : y < a.lits.length) : (a.begin y).right = true := by
 rw [right_iff] at h ⊢
 refine ⟨fun s hs => ?_, h.len, h.next, h.lit, h.acc⟩
 rcases List.mem_append.1 hs with hs | hs
 ·exact h.init s hs
 ·simp at hs; subst hs
  show (0 : Int) ≤ y ∧ (y : Int) < (a.lits.length : Int)
  omega
theorem meet_right (h : a.right = true) (hx : x < a.lits.length) (hy : y < a.lits.length) : (a.meet x y).right = true := by
 rw [right_iff] at h ⊢
 refine ⟨h.init, h.len, h.next, h.lit, fun r hr => ?_⟩
 rcases List.mem_append.1 hr with hr | hr
 ·exact h.acc r hr
 ·simp at hr; subst hr
  intro s hs
  simp at hs
  show (0 : Int) ≤ s ∧ s < (a.lits.length : Int)
  rcases hs with rfl | rfl <;> omega
theorem ask_right (h : a.right = true) (hx : x < a.lits.length) (ht : t.lit = true) : (a.ask x t).right = true := by
 rw [right_iff] at h ⊢
 have e : (a.ask x t).lits.length = a.lits.length := by simp [Aut.ask]
 refine ⟨by rw [e]; exact h.init, by rw [e]; exact h.len, by rw [e]; exact h.next, fun l hl => ?_, by rw [e]; exact h.acc⟩
 rcases List.mem_or_eq_of_mem_set hl with hl | rfl
 ·exact h.lit l hl
 ·intro u hu
  rcases List.mem_append.1 hu with hu | hu
  ·refine h.lit _ (List.getElem_mem hx) u ?_
   simpa [List.getD, hx] using hu
  ·simp at hu; subst hu; exact ht
theorem getD_set {α : Type} {l : List α} {x q : Nat} {v d : α} : (l.set x v).getD q d = if x = q ∧ x < l.length then v else l.getD q d := by
 simp only [List.getD, List.getElem?_set]
 by_cases h : x = q
 ·subst h
  by_cases h2 : x < l.length
  ·simp [h2]
  ·simp [h2]
 ·simp [h]
theorem edge_grows : Grows a (a.edge x y) := by
 refine ⟨rfl, fun q v h => h, fun q s hs => ?_, fun s hs => hs, fun k hk => ⟨k, hk, fun s _ h => h⟩⟩
 show s ∈ (a.next.set x (a.next.getD x [] ++ [(y : Int)])).getD q []
 rw [getD_set]
 split
 ·rename_i h
  obtain ⟨rfl, -⟩ := h
  exact List.mem_append_left _ hs
 ·exact hs
theorem begin_grows : Grows a (a.begin y) :=
 ⟨rfl, fun q v h => h, fun q s hs => hs, fun s hs => List.mem_append_left _ hs, fun k hk => ⟨k, hk, fun s _ h => h⟩⟩
theorem ask_grows : Grows (a.ask x t) a := by
 have e : (a.ask x t).lits.length = a.lits.length := by simp [Aut.ask]
 have es : setsOf (a.ask x t) = setsOf a := by unfold setsOf; rw [e]; rfl
 refine ⟨e.symm, fun q v h => ?_, fun q s hs => hs, fun s hs => hs, fun k hk => ⟨k, by rw [es]; exact hk, fun s _ h => by rw [es] at h; exact h⟩⟩
 unfold Aut.fits at h ⊢
 change (((a.lits.set x (a.lits.getD x [] ++ [t])).getD q []).all fun u => decide (u.eval v = 1)) = true at h
 rw [getD_set] at h
 split at h
 ·rename_i hh
  obtain ⟨rfl, -⟩ := hh
  simp only [List.all_append, Bool.and_eq_true] at h
  exact h.1
 ·exact h
theorem meet_grows : Grows (a.meet x y) a := by
 have es : setsOf (a.meet x y) = a.acc ++ [[(x : Int), (y : Int)]] := by unfold setsOf; rw [if_neg (by simp [Aut.meet])]; rfl
 refine ⟨rfl, fun q v h => h, fun q s hs => hs, fun s hs => hs, fun k hk => ?_⟩
 rw [es]
 by_cases hacc : a.acc = []
 ·refine ⟨0, by simp [hacc], fun s hs _ => ?_⟩
  unfold setsOf at hk ⊢
  rw [if_pos hacc] at hk ⊢
  simp at hk
  subst hk
  simp only [List.getD_cons_zero, List.mem_map, List.mem_range]
  exact ⟨s, hs, rfl⟩
 ·unfold setsOf at hk ⊢
  rw [if_neg hacc] at hk ⊢
  refine ⟨k, by simp; omega, fun s _ h => ?_⟩
  rw [List.getD, List.getElem?_append_left hk] at h
  exact h
theorem edge_ok (h : a.Ok) (hx : x < a.next.length) (hl : a.next[x].length < 4000) : (a.edge x y).Ok := by
 refine ⟨h.lits, h.lit, by simpa [Aut.edge] using h.next, fun r hr => ?_, h.init, h.acc, h.set⟩
 rcases List.mem_or_eq_of_mem_set hr with hr | rfl
 ·exact h.row r hr
 ·simp [List.getD, hx]; omega
theorem begin_ok (h : a.Ok) (hl : a.init.length < 4000) : (a.begin y).Ok := ⟨h.lits, h.lit, h.next, h.row, by simp [Aut.begin]; omega, h.acc, h.set⟩
theorem meet_ok (h : a.Ok) (hl : a.acc.length < 4000) : (a.meet x y).Ok := by
 refine ⟨h.lits, h.lit, h.next, h.row, h.init, by simp [Aut.meet]; omega, fun r hr => ?_⟩
 rcases List.mem_append.1 hr with hr | hr
 ·exact h.set r hr
 ·simp at hr; subst hr; simp
theorem ask_ok (h : a.Ok) (ht : t.Ok) (hx : x < a.lits.length) (hl : a.lits[x].length < 4000) : (a.ask x t).Ok := by
 refine ⟨by simpa [Aut.ask] using h.lits, fun l hl' => ?_, h.next, h.row, h.init, h.acc, h.set⟩
 rcases List.mem_or_eq_of_mem_set hl' with hl' | rfl
 ·exact h.lit l hl'
 ·have h0 := h.lit _ (List.getElem_mem hx)
  have e : a.lits.getD x [] = a.lits[x] := by simp [List.getD, hx]
  rw [e]
  refine ⟨by simp; omega, fun u hu => ?_⟩
  rcases List.mem_append.1 hu with hu | hu
  ·exact h0.2 u hu
  ·simp at hu; subst hu; exact ht
theorem ask_may {v : Int} (h : a.may v = true) (hx : x < a.lits.length) (ht : t.may v = true) : (a.ask x t).may v = true := by
 unfold Aut.may at h ⊢
 rw [List.all_eq_true] at h ⊢
 intro l hl
 rcases List.mem_or_eq_of_mem_set hl with hl | rfl
 ·exact h l hl
 ·have e : a.lits.getD x [] = a.lits[x] := by simp [List.getD, hx]
  rw [e, List.all_append, Bool.and_eq_true]
  exact ⟨h _ (List.getElem_mem hx), by simpa using ht⟩
end
end Lg

