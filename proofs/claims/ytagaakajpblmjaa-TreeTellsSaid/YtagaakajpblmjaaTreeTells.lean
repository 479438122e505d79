/- A store behind acts, one by one, is as a set of vectors with two flags each. -/
import Derived.Test.YtagaakajpblmjaaTreeIr3
import Derived.Test.YtagaakajpblmjaaTreeRef
namespace Go.Proofs.Ytagaakajpblmjaa
open Go Lg
abbrev actL (z : Int × List Int × Int) : L := .agg [L.v (.int .u8 z.1), L.sl 1 false (z.2.1.map fun (z : Int) => L.v (.int .i64 z)), L.v (.int .i64 z.2.2)]
def fewA (l : List (Int × List Int × Int)) (most : Int) : Bool := decide ((l.length : Int) ≤ most ∧ ∀ a ∈ l, a.2.1.length ≤ 40)
def shortA (l : List (Int × List Int × Int)) : Prop := ∀ a ∈ l, a.2.1.length ≤ 40
theorem few_any (l : List (Int × List Int × Int)) (hl : l.length ≤ 281474976710656) (most : Int) : PC Try.prog 10 [.sl 3 false (l.map actL), intL most] (boolL (fewA l most)) := by
  refine pc_of_call (callAt_enter ir10 (by simp) ?_)
  simp
  by_cases h0 : (l.length : Int) ≤ most
  rotate_left
  · have h1 : most < (l.length : Int) := by omega
    simp [h1, fewA, h0]
  have h1 : ¬ most < (l.length : Int) := by omega
  simp [h1, h0]
  refine lwp_loop (fun i : Nat => [(0, .sl 3 false (l.map actL)), (5, intL i)]) (fun _ => []) (fun i => l.length - i) (fun i => i ≤ l.length ∧ shortA (l.take i)) 0 (by simp [shortA]) ⟨[], by simp⟩ ?_
  rintro i ⟨hi, hk⟩
  by_cases h : i < l.length
  · obtain ⟨a, ha⟩ : ∃ a, l[i]? = some a := ⟨_, List.getElem?_eq_getElem h⟩
    have hg : l[i] = a := by simpa [h] using ha
    simp [h, hg]
    obtain ⟨k, v, fl⟩ := a
    by_cases h40 : v.length ≤ 40
    · have h41 : ¬ (40 : Int) < (v.length : Int) := by omega
      have h42 : (v.length : Int) ≤ 40 := by omega
      simp [h41, h42, suc64 (show i ≤ 281474976710656 by omega)]
      refine ⟨i + 1, ⟨by omega, ?_⟩, by simp only; omega, [], by simp⟩
      intro x hx
      rw [List.take_succ_eq_append_getElem h, hg, List.mem_append, List.mem_singleton] at hx
      rcases hx with hx | rfl
      · exact hk x hx
      · exact h40
    · have h41 : (40 : Int) < (v.length : Int) := by omega
      have : fewA l most = false := by
        unfold fewA
        rw [decide_eq_false_iff_not]
        exact fun h => h40 (h.2 (k, v, fl) (List.mem_of_getElem? ha))
      simp [h41, show ¬ (v.length : Int) ≤ 40 by omega, this]
  · have e : i = l.length := by omega
    subst e
    rw [List.take_length] at hk
    have : fewA l most = true := by
      unfold fewA
      rw [decide_eq_true_iff]
      exact ⟨h0, hk⟩
    simp [this]
theorem treeTells_any (y0 : List ((Int) × (Int))) (h0 : (∀ z ∈ y0, ((Lit.int .i64 z.1).wf = true) ∧ ((Lit.int .i64 z.2).wf = true)) ∧ y0.length * 16 ≤ 140737488351232) (y1 : Int) (h1 : (Lit.int .i64 y1).wf = true) (y2 : List ((Int) × (List (Int)) × (Int))) (h2 : (∀ z ∈ y2, ((Lit.int .u8 z.1).wf = true) ∧ ((∀ zz ∈ z.2.1, (Lit.int .i64 zz).wf = true) ∧ z.2.1.length * 8 ≤ 140737488351232) ∧ ((Lit.int .i64 z.2.2).wf = true)) ∧ y2.length * 40 ≤ 140737488351232) : PC Try.prog 3 [L.sl 2 false (y0.map fun (z : (Int) × (Int)) => .agg [L.v (.int .i64 z.1), L.v (.int .i64 z.2)]), L.v (.int .i64 y1), L.sl 3 false (y2.map fun (z : (Int) × (List (Int)) × (Int)) => .agg [L.v (.int .u8 z.1), L.sl 1 false (z.2.1.map fun (z : Int) => L.v (.int .i64 z)), L.v (.int .i64 z.2.2)])] (.v (.bool true)) := by
  obtain ⟨s, hs⟩ : ∃ s, s = y0 := ⟨_, rfl⟩
  obtain ⟨l, hl⟩ : ∃ l, l = y2 := ⟨_, rfl⟩
  obtain ⟨hb, hl0⟩ := h2
  rw [← hl] at hb hl0
  rw [← hs, ← hl]
  have hfew := few_any l (by omega) 50
  refine pc_of_call (callAt_enter ir3 (by simp) ?_)
  simp
  refine callT_closed shown_any (by simp) ?_
  simp
  refine callT_closed (rightA_any s) (by simp) ?_
  simp
  cases hr : rightS s
  · simp
  obtain ⟨r1, r2, r3⟩ := right_iff.1 hr
  simp
  refine callT_closed hfew (by simp) ?_
  cases hfw : fewA l 50
  · simp
  obtain ⟨f1, f2⟩ : (l.length : Int) ≤ 50 ∧ ∀ a ∈ l, a.2.1.length ≤ 40 := of_decide_eq_true hfw
  simp
  have hs0 : s ≠ [] := fun e => by rw [e] at r1; simp at r1
  by_cases hbad : y1 < 0 ∨ 1048576 < y1
  · refine callT_closed (new_bad_any (s := s) y1 hbad) (by simp) ?_
    simp
    refine callT_closed (unew_bad_any (s := s) y1 hbad) (by simp) ?_
    simp
  have m0 : 0 ≤ y1 := by omega
  have m1 : y1 ≤ 1048576 := by omega
  refine callT_closed (newT (s := s) (by omega) y1 m0 m1) (by simp) ?_
  obtain ⟨x0, hx0⟩ : ∃ x0, x0 = tst0 s := ⟨_, rfl⟩
  have ok0 : TOk s x0 := by rw [hx0]; exact tst0_ok r3 hs0 (by omega)
  have V0 : x0.V = [] := by rw [hx0]; rfl
  have F0 : x0.F = [] := by rw [hx0]; rfl
  rw [← hx0]
  simp
  have hun := unew_any (s := s) y1 m0 m1
  rw [← V0, ← F0] at hun
  refine callT_closed hun (by simp) ?_
  simp
  refine lwp_loop (fun q : Nat × TSt => [(0, fldsL s), (2, .sl 3 false (l.map actL)), (7, boolL true), (8, .ptr 0 0), (10, .ptr 1 0), (12, intL q.1)]) (fun q => [some ([tabsL y1 q.2.T, bytL (q.2.F.map flB)]), some (refC s y1 q.2.V q.2.F)]) (fun q => l.length - q.1) (fun q => q.1 ≤ l.length ∧ TOk s q.2 ∧ q.2.V.length ≤ q.1) (0, x0) ⟨by omega, ok0, by simp [V0]⟩ ⟨[0, 1], by simp⟩ ?_
  rintro ⟨i, x⟩ ⟨hi, hx, hVl⟩
  simp only at hi hx hVl
  by_cases h : i < l.length
  · obtain ⟨⟨k, v, fl⟩, hv⟩ : ∃ v, l[i]? = some v := ⟨_, List.getElem?_eq_getElem h⟩
    have hg : l[i] = (k, v, fl) := by simpa [h] using hv
    have hm := List.mem_of_getElem? hv
    have hvl := f2 _ hm
    have hkb := fl_wf (hb _ hm).1
    simp only at hvl hkb
    have hk3 : k.tmod 3 = 0 ∨ k.tmod 3 = 1 ∨ k.tmod 3 = 2 := by rw [Int.tmod_eq_emod_of_nonneg (by omega)]; omega
    have w0 : IntKind.u8.wrap (k.tmod 3) = k.tmod 3 := by
      rcases hk3 with e | e | e <;> rw [e] <;> decide
    have hfl := hx.fl
    have hs2 : s.length ≤ 1000000 := by omega
    rcases hk3 with e | e | e
    · rw [e] at w0
      simp [h, hg, e, w0]
      obtain ⟨y, hy, yV, yF, hcall⟩ := insT (cap := y1) hx (v := v) (by omega) (by omega)
      refine callT_closed hcall (by simp) ?_
      simp
      have hu := uins_any hx.vec y1 hx.fl (v := v) (by omega)
      rw [← yV, ← yF] at hu
      refine callT_closed hu (by simp) ?_
      simp
      refine callT_closed (memberT (cap := y1) hy (v := v) (by omega)) (by simp) ?_
      simp
      refine callT_closed (umember_any hy.vec y1 (F := (y).F) (v := v) (by omega)) (by simp) ?_
      simp
      refine bcallT_closed (manyT (cap := y1) hy) (by simp) ?_
      simp [suc64 (show i ≤ 281474976710656 by omega)]
      refine ⟨(i + 1, y), ⟨by simp only; omega, hy, ?_⟩, by simp only; omega, [0, 1], by simp⟩
      have hle : (insCV s y1 x.V v).length ≤ x.V.length + 1 := by unfold insCV; split <;> simp
      rw [← yV] at hle
      simp only
      omega
    · rw [e] at w0
      simp [h, hg, e, w0]
      obtain ⟨hz, hcall⟩ := setT (cap := y1) hx (v := v) (by omega) fl
      have hu := uset_any hx.vec y1 hx.fl (v := v) (by omega) fl
      obtain ⟨z, ez⟩ : ∃ z, z = x.setF s v fl := ⟨_, rfl⟩
      have zV : z.V = x.V := by rw [ez]; rfl
      have zF : z.F = setFl s x.V x.F v fl := by rw [ez]; rfl
      rw [← ez] at hz hcall
      rw [← zF, ← zV] at hu
      refine callT_closed hcall (by simp) ?_
      simp
      rw [zV] at hu
      refine callT_closed hu (by simp) ?_
      simp
      rw [← zV]
      refine callT_closed (memberT (cap := y1) hz (v := v) (by omega)) (by simp) ?_
      simp
      refine callT_closed (umember_any hz.vec y1 (F := (z).F) (v := v) (by omega)) (by simp) ?_
      simp
      refine bcallT_closed (manyT (cap := y1) hz) (by simp) ?_
      simp [suc64 (show i ≤ 281474976710656 by omega)]
      exact ⟨(i + 1, z), ⟨by simp only; omega, hz, by rw [zV]; simp only; omega⟩, by simp only; omega, [0, 1], by simp⟩
    · rw [e] at w0
      simp [h, hg, e, w0]
      refine callT_closed (getT (cap := y1) hx (v := v) (by omega) fl) (by simp) ?_
      simp
      refine callT_closed (uget_any hx.vec y1 hx.fl (v := v) (by omega) fl) (by simp) ?_
      simp
      refine callT_closed (memberT (cap := y1) hx (v := v) (by omega)) (by simp) ?_
      simp
      refine callT_closed (umember_any hx.vec y1 (F := (x).F) (v := v) (by omega)) (by simp) ?_
      simp
      refine bcallT_closed (manyT (cap := y1) hx) (by simp) ?_
      simp [suc64 (show i ≤ 281474976710656 by omega)]
      exact ⟨(i + 1, x), ⟨by simp only; omega, hx, by simp only; omega⟩, by simp only; omega, [0, 1], by simp⟩
  · have e : i = l.length := by omega
    subst e
    simp
end Go.Proofs.Ytagaakajpblmjaa
