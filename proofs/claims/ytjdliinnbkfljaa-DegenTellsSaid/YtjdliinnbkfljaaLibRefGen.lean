/- The automaton with one set, as the answer's text makes it: what it gives. -/
import Derived.Test.YtjdliinnbkfljaaLibRefEnd
namespace Lg
open Go

theorem sub_cellR {r : List Int} : Sub (cellR r) (intsL r) := by
  unfold cellR
  split
  · rename_i h; subst h; exact .nil _ _
  · exact .refl _
theorem sub_cellRs {a : Aut} {x : Nat} : Sub (.sl 1 false ((degRows a x).map cellR)) (.sl 1 false ((degRows a x).map intsL)) := Sub.map (fun r _ => sub_cellR) (fun r _ => rfl)
theorem sub_accR {r : List Int} : Sub (.sl 1 true [cellR r]) (.sl 1 false [intsL r]) := by
  refine .trans (.clip _ _) (.els rfl (fun j => ?_) (by simp [L.cells]))
  cases j with
  | zero => exact sub_cellR
  | succ j => exact .refl _

theorem ref_gen {P : Program} {f se isn : Nat} (ir : compF P f = some (irRefOf se isn)) (ise : compF P se = some irSets) (iis : compF P isn = some irIn) {a : Aut} (h : OfOk a) : PC P f [a.L] (degenOf a).L := by
  have hfew := h.few
  have hkk := h.k
  have hsets := sets_gen ise hfew
  refine pc_of_call' (callAt_enter ir (by simp [irRefOf]) ?_)
  simp only [irRefOf]
  simp [Aut.L, Aut.cells]
  by_cases hn : a.lits.length = 0
  · have hi0 : a.init = [] := by
      cases hi : a.init with
      | nil => rfl
      | cons v l => have := h.init' v (by rw [hi]; simp); omega
    have hl0 : a.lits = [] := List.length_eq_zero_iff.1 hn
    have hnx : a.next = [] := List.length_eq_zero_iff.1 (by have := h.next; omega)
    obtain ⟨K, c, cs, hsR, hlen⟩ : ∃ (K : Nat) (c : Bool) (cs : List L), setsR a = .sl 1 c cs ∧ cs.length = K := by
      unfold setsR
      split
      · exact ⟨_, _, _, rfl, rfl⟩
      · exact ⟨_, _, _, rfl, rfl⟩
    have e : degenOf a = ⟨[], [], [], [[]]⟩ := by unfold degenOf; rw [show degAcc a a.lits.length = [] by rw [hn]; rfl, hi0, hn, Nat.zero_mul]; rfl
    refine callT_closed hsets (by simp [Aut.L, Aut.cells]) ?_
    rw [hsR]
    simp [hl0, hlen]
    simp only [irRefOfb0]
    refine lwp_loop (fun _ : Unit => [(1, .ptr 0 0), (2, .ptr 1 0), (4, intL K), (5, .ptr 3 0), (6, intL 0)]) (fun _ => [some a.cells, some [nilV, nilV, nilV, nilV], some [nilV], some [nilV, nilV, nilV, .view 1 2 0 1 true]]) (fun _ => 0) (fun _ => True) () trivial ⟨[0, 1, 2, 3], ?_⟩ ?_
    · simp [Aut.cells, hl0, hi0, hnx]
    · intro _ _
      have hw0 : IntKind.i64.wrap 0 = 0 := by decide
      simp [Aut.cells, hl0, hw0]
      simp only [irRefOfb4]
      refine lwp_loop (fun _ : Unit => [(1, .ptr 0 0), (2, .ptr 1 0), (5, .ptr 3 0), (13, intL 0)]) (fun _ => [some a.cells, some [nilV, nilV, nilV, nilV], some [nilV], some [nilV, nilV, nilV, .view 1 2 0 1 true]]) (fun _ => 0) (fun _ => True) () trivial ⟨[0, 1, 2, 3], ?_⟩ ?_
      · simp [Aut.cells, hl0, hi0, hnx]
      · intro _ _
        simp [Aut.cells, hi0]
        rw [e]
        exact Sub.aggL (.cons (.nil _ _) (.cons (.nil _ _) (.cons (.nil _ _) (.cons (sub_accR (r := [])) .nil))))
  · rw [setsR_eq hn] at hsets
    have hx : a.lits.length * a.k ≠ 0 := by
      have := Nat.mul_pos (show 0 < a.lits.length by omega) (show 0 < a.k by omega)
      omega
    have hall := refAcc_all h
    refine callT_closed hsets (by simp [Aut.L, Aut.cells]) ?_
    simp [setsW]
    refine ref_loop iis h (by simp [refB, setsW, Aut.k]) fun E1 b => ?_
    simp only [refB, List.mem_cons, List.not_mem_nil, or_false, forall_eq_or_imp, forall_eq] at b
    obtain ⟨b1, b2, b3, b4, b5, b6⟩ := b
    have hex : degenOf a = ⟨degLits a (a.lits.length * a.k), degRows a (a.lits.length * a.k), a.init.map (· * (a.k : Int)), [degAcc a a.lits.length]⟩ := rfl
    have hinl : inits a a.k a.init.length = (a.init.map (· * (a.k : Int))).map intL := by unfold inits; rw [List.take_length]
    have hilen := inits_length (a := a) (k := a.k) (Nat.le_refl a.init.length)
    have hcl : (inits a a.k a.init.length).all closed = true := by rw [hinl, List.all_eq_true]; intro y hy; obtain ⟨v, -, rfl⟩ := List.mem_map.1 hy; rfl
    by_cases hacc : degAcc a a.lits.length = []
    · have hp : refH a (a.lits.length * a.k) = [some a.cells, some [nilV, nilV, nilV, nilV], some [nilV], some [.view 1 4 0 (a.lits.length * a.k) false, .view 1 5 0 (a.lits.length * a.k) false, nilV, .view 1 2 0 1 true], some ((degLits a (a.lits.length * a.k)).map treesL), some ((degRows a (a.lits.length * a.k)).map cellR)] := by
        unfold refH; rw [if_neg hx, accI, hall, hacc]; rfl
      rw [hp, hex]
      generalize a.lits.length * a.k = x
      simp
      refine ref_b4_E h (fun m => by rw [belowL_map]; simp) (fun m => by rw [belowL_map]; simp) (fun f => by rw [renL_map]; simp) (fun f => by rw [renL_map]; simp) (by simp [b1]) (by simp [b2]) (by simp [b4]) (by simp [b5]) (by simp) fun E2 c2 c5 => ?_
      by_cases hi0 : inits a a.k a.init.length = []
      · rw [hi0]
        simp [accE, accH, c2, c5]
        have hini : a.init.map (· * (a.k : Int)) = [] := by rw [hinl] at hi0; simpa using hi0
        rw [hacc]
        exact Sub.aggL (.cons (.refl _) (.cons sub_cellRs (.cons (by rw [hini]; exact .nil _ _) (.cons (sub_accR (r := [])) .nil))))
      · rw [accE_ne hi0, accH_ne hi0]
        simp [c2, c5, hilen, hcl]
        rw [hacc]
        exact Sub.aggL (.cons (.refl _) (.cons sub_cellRs (.cons (by rw [hinl]; exact .refl _) (.cons (sub_accR (r := [])) .nil))))
    · have hne : (degAcc a a.lits.length).map intL ≠ [] := by simpa using hacc
      have hp : refH a (a.lits.length * a.k) = [some a.cells, some [nilV, nilV, nilV, nilV], some [.view 1 6 0 (degAcc a a.lits.length).length false], some [.view 1 4 0 (a.lits.length * a.k) false, .view 1 5 0 (a.lits.length * a.k) false, nilV, .view 1 2 0 1 true], some ((degLits a (a.lits.length * a.k)).map treesL), some ((degRows a (a.lits.length * a.k)).map cellR), some ((degAcc a a.lits.length).map intL)] := by
        unfold refH; rw [if_neg hx, accI, hall, accE_ne hne, accH_ne hne, List.length_map]; rfl
      have hsr : Sub (.sl 1 true [.sl 1 false ((degAcc a a.lits.length).map intL)]) (.sl 1 false [intsL (degAcc a a.lits.length)]) := by
        have := sub_accR (r := degAcc a a.lits.length)
        rwa [cellR_ne hacc] at this
      rw [hp, hex]
      generalize a.lits.length * a.k = x
      generalize degAcc a a.lits.length = A at hsr
      simp
      refine ref_b4_A h (fun m => by rw [belowL_map]; simp) (fun m => by rw [belowL_map]; simp) (fun m => by rw [belowL_map]; simp) (fun f => by rw [renL_map]; simp) (fun f => by rw [renL_map]; simp) (fun f => by rw [renL_map]; simp) (by simp [b1]) (by simp [b2]) (by simp [b4]) (by simp [b5]) (by simp) fun E2 c2 c5 => ?_
      by_cases hi0 : inits a a.k a.init.length = []
      · rw [hi0]
        simp [accE, accH, c2, c5]
        have hini : a.init.map (· * (a.k : Int)) = [] := by rw [hinl] at hi0; simpa using hi0
        exact Sub.aggL (.cons (.refl _) (.cons sub_cellRs (.cons (by rw [hini]; exact .nil _ _) (.cons hsr .nil))))
      · rw [accE_ne hi0, accH_ne hi0]
        simp [c2, c5, hilen, hcl]
        exact Sub.aggL (.cons (.refl _) (.cons sub_cellRs (.cons (by rw [hinl]; exact .refl _) (.cons hsr .nil))))

end Lg
