/- The answer's store of vectors: what each function does. -/
import Derived.Test.YtagaakajpblmjaaLibRefSD
namespace Lg
open Go
abbrev flag2L (p : Bool × Bool) : L := .agg [boolL p.1, boolL p.2]
abbrev refC (s : List (Int × Int)) (cap : Int) (V : List (List Int)) (F : List (Bool × Bool)) : List L := [fldsL s, intL cap, .sl 1 false (V.map vecL), .sl 2 false (F.map flag2L)]
variable {s : List (Int × Int)} {V : List (List Int)} {cap : Int}
theorem unew_bad {P : Program} {f : Nat} (ir : compF P f = some irUNew) (s : List (Int × Int)) (most : Int) (h : most < 0 ∨ 1048576 < most) : PC P f [fldsL s, intL most] (.tup [.agg [nilL, intL 0, nilL, nilL], intL 1]) := by
  refine pc_of_call (callAt_enter ir (by simp [irUNew]) ?_)
  by_cases h0 : most < 0
  · simp [irUNew, h0]
  · have h1 : 1048576 < most := by omega
    simp [irUNew, h0, h1]
theorem unew_gen {P : Program} {f : Nat} (ir : compF P f = some irUNew) (s : List (Int × Int)) (most : Int) (h0 : 0 ≤ most) (h1 : most ≤ 1048576) : PC P f [fldsL s, intL most] (.tup [.agg (refC s most [] []), intL 0]) := by
  refine pc_of_call' (callAt_enter ir (by simp [irUNew]) ?_)
  have h2 : ¬ most < 0 := by omega
  have h3 : ¬ 1048576 < most := by omega
  simp [irUNew, h2, h3]
  exact .tupL (.cons (.aggL (.cons (.refl _) (.cons (.refl _) (.cons (.nil _ _) (.cons (.nil _ _) .nil))))) (.cons (.refl _) .nil))
theorem uplace_gen {P : Program} {f vec : Nat} (ir : compF P f = some (irUPlace vec)) (hvec : ∀ v w : List Int, v.length ≤ 1000000 → PC P vec [vecL v, vecL w] (boolL (decide (v = w)))) (s : List (Int × Int)) (cap : Int) (V : List (List Int)) (F : List (Bool × Bool)) (hl : V.length ≤ 1000000) (hV : ∀ v ∈ V, v.length ≤ 1000000) (v : List Int) :
    PC P f [.agg (refC s cap V F), vecL v] (intL (findV V v)) := by
  refine pc_of_call (callAt_enter ir (by simp [irUPlace]) ?_)
  simp [irUPlace]
  refine lwp_loop (fun i : Nat => [(1, vecL v), (2, .ptr 0 0), (5, intL i)]) (fun _ => [some (refC s cap V F)]) (fun i => V.length - i) (fun i => i ≤ V.length ∧ v ∉ V.take i) 0 (by simp) ⟨[0], by simp⟩ ?_
  rintro i ⟨hi, hn⟩
  by_cases h : i < V.length
  · obtain ⟨w, hw⟩ : ∃ w, V[i]? = some w := ⟨_, List.getElem?_eq_getElem h⟩
    have hg : V[i] = w := by simpa [h] using hw
    simp [h, hg]
    refine callT_closed (hvec w v (hV w (List.mem_of_getElem? hw))) (by simp) ?_
    by_cases e : w = v
    · have hm : v ∈ V := by rw [← e]; exact List.mem_of_getElem? hw
      have hx : idx V v = i := by
        have h1 : V = V.take i ++ V.drop i := (List.take_append_drop i V).symm
        unfold idx
        have hlt : V.findIdx (fun k => decide (k = v)) ≤ i := by
          apply Classical.byContradiction
          intro hgt
          have := List.not_of_lt_findIdx (p := fun k => decide (k = v)) (xs := V) (i := i) (by omega)
          rw [hg, e] at this
          simp at this
        have hge : ¬ V.findIdx (fun k => decide (k = v)) < i := fun hlt => by
          have hlen : V.findIdx (fun k => decide (k = v)) < V.length := by omega
          have := List.findIdx_getElem (w := hlen)
          have hv : V[V.findIdx (fun k => decide (k = v))] = v := of_decide_eq_true this
          refine hn ?_
          rw [← hv]
          exact List.mem_take_iff_getElem.2 ⟨_, by omega, rfl⟩
        omega
      simp [e, findV, hm, hx]
    · simp [e, suc64 (show i ≤ 281474976710656 by omega)]
      refine ⟨i + 1, ⟨by omega, ?_⟩, by simp only; omega, [0], by simp⟩
      rw [List.take_succ_eq_append_getElem h, hg]
      intro hm
      rcases List.mem_append.1 hm with hm | hm
      · exact hn hm
      · simp at hm; exact e hm.symm
  · have e : i = V.length := by omega
    subst e
    rw [List.take_length] at hn
    simp [findV, hn]
structure UFns (P : Program) (inn pl : Nat) where
  vec : Nat
  irpl : compF P pl = some (irUPlace vec)
  hvec : ∀ v w : List Int, v.length ≤ 1000000 → PC P vec [vecL v, vecL w] (boolL (decide (v = w)))
  hinn : ∀ (s : List (Int × Int)) (v : List Int), s.length ≤ 1000000 → v.length ≤ 1000000 → PC P inn [fldsL s, vecL v] (intL (inV s v))
theorem vecs_len (hV : VecsOk s V) : V.length ≤ 1000000 ∧ ∀ v ∈ V, v.length ≤ 1000000 := ⟨by have := hV.few; omega, fun v hv => by
  have := (inV_zero.1 (hV.inn v hv)).1
  have := hV.short
  omega⟩
section
variable {P : Program} {f inn pl : Nat} (U : UFns P inn pl) (hV : VecsOk s V) (cap : Int) (F : List (Bool × Bool)) {v : List Int} (hvl : v.length ≤ 1000000)
include U hV hvl
theorem umember_gen (ir : compF P f = some (irUMember inn pl)) : PC P f [.agg (refC s cap V F), vecL v] (.tup [boolL (memB s V v), intL (inV s v)]) := by
  obtain ⟨l1, l2⟩ := vecs_len hV
  have hsh := hV.short
  refine pc_of_call (callAt_enter ir (by simp [irUMember]) ?_)
  simp [irUMember]
  refine callT_closed (U.hinn s v (by omega) hvl) (by simp) ?_
  by_cases h0 : inV s v = 0
  · simp [h0]
    refine callT_closed (uplace_gen U.irpl U.hvec s cap V F l1 l2 v) (by simp) ?_
    by_cases h1 : v ∈ V
    · simp [h0, h1, findV, memB]
    · simp [h0, h1, findV, memB]
  · simp [h0, memB]
theorem uat_gen (ir : compF P f = some (irUAt inn pl)) (flag : Int) : PC P f [.agg (refC s cap V F), vecL v, intL flag] (.tup [intL (atI s V v flag), intL (atE s V v flag)]) := by
  obtain ⟨l1, l2⟩ := vecs_len hV
  have hsh := hV.short
  refine pc_of_call (callAt_enter ir (by simp [irUAt]) ?_)
  simp [irUAt]
  refine callT_closed (U.hinn s v (by omega) hvl) (by simp) ?_
  by_cases h0 : inV s v = 0
  rotate_left
  · simp [h0, atI, atE]
  by_cases h2 : flag < 0
  · simp [h0, h2, atI, atE]
  by_cases h3 : 1 < flag
  · simp [h0, h2, h3, atI, atE]
  simp [h0, h2, h3]
  refine callT_closed (uplace_gen U.irpl U.hvec s cap V F l1 l2 v) (by simp) ?_
  by_cases h1 : v ∈ V
  · simp [h0, h1, h2, h3, findV, atI, atE]
  · simp [h0, h1, h2, h3, findV, atI, atE]
end
section
variable {P : Program} {f at' inn pl : Nat} (U : UFns P inn pl) (ira : compF P at' = some (irUAt inn pl)) (hV : VecsOk s V) (cap : Int) (F : List (Bool × Bool)) (hF : F.length = V.length) {v : List Int} (hvl : v.length ≤ 1000000) (flag : Int)
include U ira hV hvl hF
theorem uget_gen (ir : compF P f = some (irUGet at')) : PC P f [.agg (refC s cap V F), vecL v, intL flag] (.tup [boolL (getFl s V F v flag), intL (atE s V v flag)]) := by
  refine pc_of_call (callAt_enter ir (by simp [irUGet]) ?_)
  simp [irUGet]
  refine callT_closed (uat_gen U hV cap F hvl ira flag) (by simp) ?_
  by_cases h : atE s V v flag = 0
  · obtain ⟨h1, h2, h3⟩ := atE_zero h
    have hi : idx V v < F.length := by rw [hF]; exact idx_lt h2
    obtain ⟨p, hp⟩ : ∃ p, F[idx V v]? = some p := ⟨_, List.getElem?_eq_getElem hi⟩
    have hpD : F.getD (idx V v) (false, false) = p := by simp [List.getD, hp]
    rcases h3 with rfl | rfl
    · simp [h, atI, getFl, hp, getP]
    · simp [h, atI, getFl, hp, getP]
  · simp [h, getFl]
end
end Lg
