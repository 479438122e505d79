/- A store that was stays as it was, whatever is inserted later, and whichever flags are set. -/
import Derived.Test.YtagaakajpblmjaaTreeIr5
import Derived.Test.YtagaakajpblmjaaTreeShown
namespace Go.Proofs.Ytagaakajpblmjaa
open Go Lg
def allF (F : List (Bool × Bool)) : Prop := ∀ p ∈ F, p = (false, false)
theorem allF_get {F : List (Bool × Bool)} (h : allF F) (i : Nat) : F.getD i (false, false) = (false, false) := by
  by_cases hi : i < F.length
  · rw [List.getD_eq_getElem?_getD, List.getElem?_eq_getElem hi]
    exact h _ (List.getElem_mem hi)
  · rw [List.getD_eq_getElem?_getD, List.getElem?_eq_none (by omega)]
    rfl
theorem insCV_len {s : List (Int × Int)} {cap : Int} {V : List (List Int)} {v : List Int} : (insCV s cap V v).length ≤ V.length + 1 := by
  unfold insCV
  split <;> simp
theorem allF_ins {F : List (Bool × Bool)} {b : Bool} (h : allF F) : allF (if b = true then F ++ [(false, false)] else F) := by
  cases b
  · simpa using h
  · intro p hp
    simp at hp
    rcases hp with hp | hp
    · exact h p hp
    · exact hp
theorem insCE_in {s : List (Int × Int)} {cap : Int} {V : List (List Int)} {v : List Int} (h : (V.length : Int) < cap) : insCE s cap V v = inV s v := by
  unfold insCE
  by_cases h0 : inV s v = 0
  · rw [if_pos h0, if_neg (show ¬ cap ≤ (V.length : Int) by omega), h0]
    simp
  · rw [if_neg h0]
theorem mem_insCV {s : List (Int × Int)} {cap : Int} {V : List (List Int)} {v : List Int} (h : (V.length : Int) < cap) (h0 : inV s v = 0) : v ∈ insCV s cap V v := by
  unfold insCV insC
  by_cases hv : v ∈ V
  · simp [hv]
  · simp [hv, h, h0]
theorem insC_in {s : List (Int × Int)} {cap : Int} {V : List (List Int)} {v : List Int} (h : (V.length : Int) < cap) (h0 : inV s v = 0) : insC s cap V v = !memB s V v := by
  unfold insC memB
  by_cases hv : v ∈ V <;> simp [hv, h, h0]
theorem atE_in {s : List (Int × Int)} {V : List (List Int)} {v : List Int} {f : Int} (h0 : inV s v = 0) (hv : v ∈ V) (hf : f = 0 ∨ f = 1) : atE s V v f = 0 := by
  unfold atE
  rw [if_pos h0, if_neg (by omega), if_pos hv]
theorem atE_out {s : List (Int × Int)} {V : List (List Int)} {v : List Int} {f : Int} (h0 : inV s v ≠ 0) : atE s V v f = inV s v := by
  unfold atE
  rw [if_neg h0]
theorem getFl_none {s : List (Int × Int)} {V : List (List Int)} {F : List (Bool × Bool)} {v : List Int} {f : Int} (hF : allF F) : getFl s V F v f = false := by
  unfold getFl
  rw [allF_get hF]
  unfold getP
  split
  · split <;> rfl
  · rfl
theorem getFl_set {s : List (Int × Int)} {V : List (List Int)} {F : List (Bool × Bool)} {v : List Int} {f : Int} (hF : allF F) (hl : F.length = V.length) (h0 : inV s v = 0) (hv : v ∈ V) (hf : f = 0 ∨ f = 1) : getFl s V (setFl s V F v f) v f = true ∧ getFl s V (setFl s V F v f) v (1 - f) = false := by
  have hi : idx V v < F.length := by rw [hl]; exact idx_lt hv
  unfold getFl setFl
  rw [atE_in h0 hv hf, atE_in h0 hv (show 1 - f = 0 ∨ 1 - f = 1 by omega), allF_get hF]
  simp only [if_true]
  have e : (F.set (idx V v) (setP (false, false) f)).getD (idx V v) (false, false) = setP (false, false) f := by simp [List.getD, hi]
  rw [e]
  rcases hf with rfl | rfl <;> decide
theorem treeOld_any (y0 : (List ((Int) × (Int))) × (List (List (Int))) × (List (Int)) × (Int)) (h0 : ((∀ z ∈ y0.1, ((Lit.int .i64 z.1).wf = true) ∧ ((Lit.int .i64 z.2).wf = true)) ∧ y0.1.length * 16 ≤ 140737488351232) ∧ ((∀ z ∈ y0.2.1, (∀ zz ∈ z, (Lit.int .i64 zz).wf = true) ∧ z.length * 8 ≤ 140737488351232) ∧ y0.2.1.length * 24 ≤ 140737488351232) ∧ ((∀ z ∈ y0.2.2.1, (Lit.int .i64 z).wf = true) ∧ y0.2.2.1.length * 8 ≤ 140737488351232) ∧ ((Lit.int .u8 y0.2.2.2).wf = true)) : PC Try.prog 5 [.agg [L.sl 2 false (y0.1.map fun (z : (Int) × (Int)) => .agg [L.v (.int .i64 z.1), L.v (.int .i64 z.2)]), L.sl 1 false (y0.2.1.map fun (z : List (Int)) => L.sl 1 false (z.map fun (z : Int) => L.v (.int .i64 z))), L.sl 1 false (y0.2.2.1.map fun (z : Int) => L.v (.int .i64 z)), L.v (.int .u8 y0.2.2.2)]] (.v (.bool true)) := by
  obtain ⟨s, l, a, fl⟩ := y0
  obtain ⟨hs0, hl0, ha0, hf0⟩ := h0
  simp only at *
  refine pc_of_call (callAt_enter ir5 (by simp) ?_)
  simp
  refine callT_closed shown_any (by simp) ?_
  simp
  refine callT_closed (rightA_any s) (by simp) ?_
  simp
  cases hr : rightS s
  · simp
  obtain ⟨r1, r2, r3⟩ := right_iff.1 hr
  simp
  intro hll hal
  have hs0 : s ≠ [] := fun e => by rw [e] at r1; simp at r1
  refine callT_closed (newT (s := s) (by omega) 100 (by omega) (by omega)) (by simp) ?_
  obtain ⟨x0, hx0⟩ : ∃ x0, x0 = tst0 s := ⟨_, rfl⟩
  have ok0 : TOk s x0 := by rw [hx0]; exact tst0_ok r3 hs0 (by omega)
  have V0 : x0.V = [] := by rw [hx0]; rfl
  have F0 : x0.F = [] := by rw [hx0]; rfl
  rw [← hx0]
  simp
  refine lwp_loop (fun q : Nat × TSt => [(3, fldsL s), (4, .sl 1 false (l.map fun z => vecL z)), (5, vecL a), (6, L.v (.int .u8 fl)), (7, boolL true), (8, .ptr 0 0), (10, intL q.1)]) (fun q => [some ([tabsL 100 q.2.T, bytL (q.2.F.map flB)])]) (fun q => l.length - q.1) (fun q => q.1 ≤ l.length ∧ TOk s q.2 ∧ q.2.V.length ≤ q.1 ∧ allF q.2.F) (0, x0) ⟨by omega, ok0, by simp [V0], by rw [F0]; intro p hp; simp at hp⟩ ⟨[1], by simp⟩ ?_
  rintro ⟨i, x⟩ ⟨hi, hx, hVl, hF⟩
  simp only at hi hx hVl hF
  by_cases h : i < l.length
  · obtain ⟨v, hv⟩ : ∃ v, l[i]? = some v := ⟨_, List.getElem?_eq_getElem h⟩
    have hg : l[i] = v := by simpa [h] using hv
    simp [h, hg]
    intro hvl
    obtain ⟨y, hy, yV, yF, hcall⟩ := insT (cap := 100) hx (v := v) (by omega) (by omega)
    refine bcallT_closed hcall (by simp) ?_
    simp [suc64 (show i ≤ 281474976710656 by omega)]
    refine ⟨(i + 1, y), ⟨by simp only; omega, hy, ?_, ?_⟩, by simp only; omega, [0], by simp⟩
    · have := insCV_len (s := s) (cap := 100) (V := x.V) (v := v)
      rw [yV]; simp only; omega
    · rw [yF]; exact allF_ins hF
  · have e : i = l.length := by omega
    subst e
    simp
    refine callT_closed (memberT (cap := 100) hx (v := a) (by omega)) (by simp) ?_
    simp
    refine callT_closed (manyT (cap := 100) hx) (by simp) ?_
    simp
    refine callT_closed (sizesTx (cap := 100) hx) (by simp) ?_
    simp
    obtain ⟨y, hy, yV, yF, hcall⟩ := insT (cap := 100) hx (v := a) (by omega) (by omega)
    have hlt : ((x.V.length : Nat) : Int) < 100 := by omega
    rw [insCE_in hlt] at hcall
    refine callT_closed hcall (by simp) ?_
    have hyF : allF y.F := by rw [yF]; exact allF_ins hF
    obtain ⟨f0, hf0'⟩ : ∃ f0, f0 = (IntKind.i64.wrap fl).tmod 2 := ⟨_, rfl⟩
    have hfb := fl_wf hf0
    have hf1 : f0 = 0 ∨ f0 = 1 := by
      rw [hf0', wrap_id (by omega) (by omega), Int.tmod_eq_emod_of_nonneg (by omega)]
      omega
    have w1 : IntKind.i64.wrap (1 - f0) = 1 - f0 := wrap_id (by omega) (by omega)
    have hg1 := getT (cap := 100) hy (v := a) (by omega) f0
    have hg2 := setT (cap := 100) hy (v := a) (by omega) f0
    have hg3 := getT (cap := 100) hg2.1 (v := a) (by omega) f0
    have hg4 := getT (cap := 100) hg2.1 (v := a) (by omega) (1 - f0)
    have hm2 := memberT (cap := 100) hx (v := a) (by omega)
    have hb1 : getFl s y.V y.F a f0 = false := getFl_none hyF
    rw [hb1] at hg1
    obtain ⟨z, hz⟩ : ∃ z, z = y.setF s a f0 := ⟨_, rfl⟩
    have zV : z.V = y.V := by rw [hz]; rfl
    have zF : z.F = setFl s y.V y.F a f0 := by rw [hz]; rfl
    rw [← hz] at hg2 hg3 hg4
    rw [zV, zF] at hg3 hg4
    by_cases hin : inV s a = 0
    · have hmem : a ∈ y.V := by rw [yV]; exact mem_insCV hlt hin
      obtain ⟨hs1, hs2⟩ := getFl_set hyF hy.fl hin hmem hf1
      rw [atE_in hin hmem hf1] at hg1 hg2 hg3
      rw [atE_in hin hmem (show 1 - f0 = 0 ∨ 1 - f0 = 1 by omega)] at hg4
      rw [hs1] at hg3
      rw [hs2] at hg4
      have hic := insC_in (s := s) (V := x.V) (v := a) hlt hin
      obtain ⟨was, hwas⟩ : ∃ was, was = memB s x.V a := ⟨_, rfl⟩
      rw [← hwas] at hic hm2 ⊢
      rw [hin] at hm2
      simp [hin, hic, ← hf0']
      refine callT_closed hg2.2 (by simp) ?_
      simp
      refine callT_closed hg1 (by simp) ?_
      simp
      refine callT_closed hg3 (by simp) ?_
      simp [w1]
      refine callT_closed hg4 (by simp) ?_
      simp
      refine callT_closed hm2 (by simp) ?_
      simp
      refine callT_closed (manyT (cap := 100) hx) (by simp) ?_
      simp
      refine callT_closed (sizesTx (cap := 100) hx) (by simp) ?_
      simp
      refine callT_closed (vecA_any (szsV s x.V) (szsV s x.V) (by have := szsV_len (V := x.V) hs0; omega)) (by simp) ?_
      simp
    · rw [atE_out hin] at hg1 hg2 hg3 hg4
      simp [hin, ← hf0']
      refine callT_closed hg2.2 (by simp) ?_
      simp
      refine callT_closed hg1 (by simp) ?_
      simp
      refine callT_closed hg3 (by simp) ?_
      simp [w1]
      refine callT_closed hg4 (by simp) ?_
      simp
      refine callT_closed hm2 (by simp) ?_
      simp [hin]
end Go.Proofs.Ytagaakajpblmjaa
