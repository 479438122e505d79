/- The tree store does as the collapsed store does, whatever is inserted and whichever flags are set. -/
import Derived.Test.YtagaakajpblmjaaTreeIr7
import Derived.Test.YtagaakajpblmjaaTreeAct
import Derived.Test.YtagaakajpblmjaaTreeCmp
namespace Go.Proofs.Ytagaakajpblmjaa
open Go Lg
theorem insCV_le {s : List (Int × Int)} {cap : Int} {V : List (List Int)} {v : List Int} : (insCV s cap V v).length ≤ V.length + 1 := by
  unfold insCV
  split <;> simp
theorem treeSame_any (y0 : List ((Int) × (Int))) (h0 : (∀ z ∈ y0, ((Lit.int .i64 z.1).wf = true) ∧ ((Lit.int .i64 z.2).wf = true)) ∧ y0.length * 16 ≤ 140737488351232) (y1 : Int) (h1 : (Lit.int .i64 y1).wf = true) (y2 : List ((Int) × (List (Int)) × (Int))) (h2 : (∀ z ∈ y2, ((Lit.int .u8 z.1).wf = true) ∧ ((∀ zz ∈ z.2.1, (Lit.int .i64 zz).wf = true) ∧ z.2.1.length * 8 ≤ 140737488351232) ∧ ((Lit.int .i64 z.2.2).wf = true)) ∧ y2.length * 40 ≤ 140737488351232) : PC Try.prog 7 [L.sl 2 false (y0.map fun (z : (Int) × (Int)) => .agg [L.v (.int .i64 z.1), L.v (.int .i64 z.2)]), L.v (.int .i64 y1), L.sl 3 false (y2.map fun (z : (Int) × (List (Int)) × (Int)) => .agg [L.v (.int .u8 z.1), L.sl 1 false (z.2.1.map fun (z : Int) => L.v (.int .i64 z)), L.v (.int .i64 z.2.2)])] (.v (.bool true)) := by
  obtain ⟨s, hs⟩ : ∃ s, s = y0 := ⟨_, rfl⟩
  obtain ⟨l, hl⟩ : ∃ l, l = y2 := ⟨_, rfl⟩
  obtain ⟨hb, hl0⟩ := h2
  rw [← hl] at hb hl0
  rw [← hs, ← hl]
  have hfew := few_any l (by omega) 50
  refine pc_of_call (callAt_enter ir7 (by simp) ?_)
  simp
  refine callT_closed shown_any (by simp) ?_
  simp
  refine callT_closed (rightA_any s) (by simp) ?_
  simp
  cases hr : rightS s
  · simp
  obtain ⟨r1, r2, r3⟩ := right_iff.1 hr
  simp
  refine callT_closed hfew (by simp) ?_
  cases hfw : fewA l 50
  · simp
  obtain ⟨f1, f2⟩ : (l.length : Int) ≤ 50 ∧ ∀ a ∈ l, a.2.1.length ≤ 40 := of_decide_eq_true hfw
  simp
  have hs0 : s ≠ [] := fun e => by rw [e] at r1; simp at r1
  by_cases hbad : y1 < 0 ∨ 1048576 < y1
  · refine callT_closed (new_bad_any (s := s) y1 hbad) (by simp) ?_
    simp
    refine callT_closed (newC_bad (s := s) y1 hbad) (by simp) ?_
    simp
  have m0 : 0 ≤ y1 := by omega
  have m1 : y1 ≤ 1048576 := by omega
  refine callT_closed (newT (s := s) (by omega) y1 m0 m1) (by simp) ?_
  obtain ⟨x0, hx0⟩ : ∃ x0, x0 = tst0 s := ⟨_, rfl⟩
  have ok0 : TOk s x0 := by rw [hx0]; exact tst0_ok r3 hs0 (by omega)
  have V0 : x0.V = [] := by rw [hx0]; rfl
  have F0 : x0.F = [] := by rw [hx0]; rfl
  rw [← hx0]
  simp
  refine callT_closed (newC (s := s) (by omega) y1 m0 m1) (by simp) ?_
  obtain ⟨c0, hc0⟩ : ∃ c0, c0 = cst0 s := ⟨_, rfl⟩
  have okc : COk s c0 := by rw [hc0]; exact cst0_ok r3 hs0 (by omega)
  have cV0 : c0.V = [] := by rw [hc0]; rfl
  have cF0 : c0.F = [] := by rw [hc0]; rfl
  rw [← hc0]
  simp
  refine lwp_loop (fun q : Nat × TSt × CSt => [(0, fldsL s), (2, .sl 3 false (l.map actL)), (7, boolL true), (8, .ptr 0 0), (10, .ptr 1 0), (12, intL q.1)]) (fun q => [some ([tabsL y1 q.2.1.T, bytL (q.2.1.F.map flB)]), some (cmpC y1 q.2.2.T (rowsK s q.2.2.V) q.2.2.S (q.2.2.F.map flB))]) (fun q => l.length - q.1) (fun q => q.1 ≤ l.length ∧ TOk s q.2.1 ∧ COk s q.2.2 ∧ q.2.2.V = q.2.1.V ∧ q.2.2.F = q.2.1.F ∧ q.2.1.V.length ≤ q.1) (0, x0, c0) ⟨by omega, ok0, okc, by simp [V0, cV0], by simp [F0, cF0], by simp [V0]⟩ ⟨[0, 1], by simp⟩ ?_
  rintro ⟨i, x, c⟩ ⟨hi, hx, hc, hcV, hcF, hVl⟩
  simp only at hi hx hc hcV hcF hVl
  by_cases h : i < l.length
  · obtain ⟨⟨k, v, fl⟩, hv⟩ : ∃ v, l[i]? = some v := ⟨_, List.getElem?_eq_getElem h⟩
    have hg : l[i] = (k, v, fl) := by simpa [h] using hv
    have hm := List.mem_of_getElem? hv
    have hvl := f2 _ hm
    have hkb := fl_wf (hb _ hm).1
    simp only at hvl hkb
    have w2 : IntKind.u8.wrap (k.tmod 2) = k.tmod 2 := by
      have : k.tmod 2 = 0 ∨ k.tmod 2 = 1 := by rw [Int.tmod_eq_emod_of_nonneg (by omega)]; omega
      rcases this with e | e <;> rw [e] <;> decide
    have w3 : IntKind.u8.wrap (k.tmod 3) = k.tmod 3 := by
      have : k.tmod 3 = 0 ∨ k.tmod 3 = 1 ∨ k.tmod 3 = 2 := by rw [Int.tmod_eq_emod_of_nonneg (by omega)]; omega
      rcases this with e | e | e <;> rw [e] <;> decide
    obtain ⟨y, hy, yV, yF, hcall⟩ := insT (cap := y1) hx (v := v) (by omega) (by omega)
    obtain ⟨d, hd, dV, dF, hcallC⟩ := insC_any (cap := y1) hc (v := v) (by omega) (by rw [hcV]; omega)
    rw [hcV] at dV dF hcallC
    rw [hcF] at dF
    rw [← yV] at dV
    rw [← yF] at dF
    have hle : y.V.length ≤ x.V.length + 1 := by rw [yV]; exact insCV_le
    by_cases e2 : k.tmod 2 = 0
    · by_cases e3 : k.tmod 3 = 0
      · simp [h, hg]
        refine callT_closed hcall (by simp) ?_
        simp
        refine callT_closed hcallC (by simp) ?_
        simp [w2, e2]
        obtain ⟨hz, hz1⟩ := setT (cap := y1) hy (v := v) (by omega) fl
        obtain ⟨hu, hu1⟩ := setC (cap := y1) hd (v := v) (by omega) fl
        rw [dV] at hu1
        obtain ⟨z, ez⟩ : ∃ z, z = y.setF s v fl := ⟨_, rfl⟩
        obtain ⟨u, eu⟩ : ∃ u, u = d.setF s v fl := ⟨_, rfl⟩
        have zV : z.V = y.V := by rw [ez]; rfl
        have uV : u.V = z.V := by rw [eu, zV, ← dV]; rfl
        have uF : u.F = z.F := by rw [eu, ez]; simp only [CSt.setF, TSt.setF, dV, dF]
        rw [← ez] at hz hz1
        rw [← eu] at hu hu1
        refine callT_closed hz1 (by simp) ?_
        simp
        refine callT_closed hu1 (by simp) ?_
        simp [w3, e3]
        have g1 := getT (cap := y1) hz (v := v) (by omega) 0
        have g2 := getC (cap := y1) hu (v := v) (by omega) 0
        have n1 := manyT (cap := y1) hz
        have n2 := manyC (s := s) (cap := y1) u
        rw [uV, uF] at g2
        rw [uV] at n2
        refine callT_closed g1 (by simp) ?_
        simp
        refine callT_closed g2 (by simp) ?_
        simp
        refine bcallT_closed n1 (by simp) ?_
        simp
        refine callT_closed n2 (by simp) ?_
        simp [suc64 (show i ≤ 281474976710656 by omega)]
        exact ⟨(i + 1, z, u), ⟨by simp only; omega, hz, hu, uV, uF, by simp only; rw [zV]; omega⟩, by simp only; omega, [0, 1], by simp⟩
      · simp [h, hg]
        refine callT_closed hcall (by simp) ?_
        simp
        refine callT_closed hcallC (by simp) ?_
        simp [w2, e2]
        obtain ⟨hz, hz1⟩ := setT (cap := y1) hy (v := v) (by omega) fl
        obtain ⟨hu, hu1⟩ := setC (cap := y1) hd (v := v) (by omega) fl
        rw [dV] at hu1
        obtain ⟨z, ez⟩ : ∃ z, z = y.setF s v fl := ⟨_, rfl⟩
        obtain ⟨u, eu⟩ : ∃ u, u = d.setF s v fl := ⟨_, rfl⟩
        have zV : z.V = y.V := by rw [ez]; rfl
        have uV : u.V = z.V := by rw [eu, zV, ← dV]; rfl
        have uF : u.F = z.F := by rw [eu, ez]; simp only [CSt.setF, TSt.setF, dV, dF]
        rw [← ez] at hz hz1
        rw [← eu] at hu hu1
        refine callT_closed hz1 (by simp) ?_
        simp
        refine callT_closed hu1 (by simp) ?_
        simp [w3, e3]
        have g1 := getT (cap := y1) hy (v := v) (by omega) 0
        have g2 := getC (cap := y1) hd (v := v) (by omega) 0
        have n1 := manyT (cap := y1) hy
        have n2 := manyC (s := s) (cap := y1) d
        rw [dV, dF] at g2
        rw [dV] at n2
        refine callT_closed g1 (by simp) ?_
        simp
        refine callT_closed g2 (by simp) ?_
        simp
        refine bcallT_closed n1 (by simp) ?_
        simp
        refine callT_closed n2 (by simp) ?_
        simp [suc64 (show i ≤ 281474976710656 by omega)]
        exact ⟨(i + 1, y, d), ⟨by simp only; omega, hy, hd, dV, dF, by simp only; omega⟩, by simp only; omega, [0, 1], by simp⟩
    · by_cases e3 : k.tmod 3 = 0
      · simp [h, hg]
        refine callT_closed hcall (by simp) ?_
        simp
        refine callT_closed hcallC (by simp) ?_
        simp [w2, e2]
        obtain ⟨hz, hz1⟩ := setT (cap := y1) hx (v := v) (by omega) fl
        obtain ⟨hu, hu1⟩ := setC (cap := y1) hc (v := v) (by omega) fl
        rw [hcV] at hu1
        obtain ⟨z, ez⟩ : ∃ z, z = x.setF s v fl := ⟨_, rfl⟩
        obtain ⟨u, eu⟩ : ∃ u, u = c.setF s v fl := ⟨_, rfl⟩
        have zV : z.V = x.V := by rw [ez]; rfl
        have uV : u.V = z.V := by rw [eu, zV, ← hcV]; rfl
        have uF : u.F = z.F := by rw [eu, ez]; simp only [CSt.setF, TSt.setF, hcV, hcF]
        rw [← ez] at hz hz1
        rw [← eu] at hu hu1
        refine callT_closed hz1 (by simp) ?_
        simp
        refine callT_closed hu1 (by simp) ?_
        simp [w3, e3]
        have g1 := getT (cap := y1) hz (v := v) (by omega) 0
        have g2 := getC (cap := y1) hu (v := v) (by omega) 0
        have n1 := manyT (cap := y1) hz
        have n2 := manyC (s := s) (cap := y1) u
        rw [uV, uF] at g2
        rw [uV] at n2
        refine callT_closed g1 (by simp) ?_
        simp
        refine callT_closed g2 (by simp) ?_
        simp
        refine bcallT_closed n1 (by simp) ?_
        simp
        refine callT_closed n2 (by simp) ?_
        simp [suc64 (show i ≤ 281474976710656 by omega)]
        exact ⟨(i + 1, z, u), ⟨by simp only; omega, hz, hu, uV, uF, by simp only; rw [zV]; omega⟩, by simp only; omega, [0, 1], by simp⟩
      · simp [h, hg]
        refine callT_closed hcall (by simp) ?_
        simp
        refine callT_closed hcallC (by simp) ?_
        simp [w2, e2]
        obtain ⟨hz, hz1⟩ := setT (cap := y1) hx (v := v) (by omega) fl
        obtain ⟨hu, hu1⟩ := setC (cap := y1) hc (v := v) (by omega) fl
        rw [hcV] at hu1
        obtain ⟨z, ez⟩ : ∃ z, z = x.setF s v fl := ⟨_, rfl⟩
        obtain ⟨u, eu⟩ : ∃ u, u = c.setF s v fl := ⟨_, rfl⟩
        have zV : z.V = x.V := by rw [ez]; rfl
        have uV : u.V = z.V := by rw [eu, zV, ← hcV]; rfl
        have uF : u.F = z.F := by rw [eu, ez]; simp only [CSt.setF, TSt.setF, hcV, hcF]
        rw [← ez] at hz hz1
        rw [← eu] at hu hu1
        refine callT_closed hz1 (by simp) ?_
        simp
        refine callT_closed hu1 (by simp) ?_
        simp [w3, e3]
        have g1 := getT (cap := y1) hx (v := v) (by omega) 0
        have g2 := getC (cap := y1) hc (v := v) (by omega) 0
        have n1 := manyT (cap := y1) hx
        have n2 := manyC (s := s) (cap := y1) c
        rw [hcV, hcF] at g2
        rw [hcV] at n2
        refine callT_closed g1 (by simp) ?_
        simp
        refine callT_closed g2 (by simp) ?_
        simp
        refine bcallT_closed n1 (by simp) ?_
        simp
        refine callT_closed n2 (by simp) ?_
        simp [suc64 (show i ≤ 281474976710656 by omega)]
        exact ⟨(i + 1, x, c), ⟨by simp only; omega, hx, hc, hcV, hcF, by simp only; omega⟩, by simp only; omega, [0, 1], by simp⟩
  · have e : i = l.length := by omega
    subst e
    simp
end Go.Proofs.Ytagaakajpblmjaa
