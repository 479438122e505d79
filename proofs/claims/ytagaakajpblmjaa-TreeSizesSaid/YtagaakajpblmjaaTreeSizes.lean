/- The sizes that the store names are those of the plain store, whatever was put in before. -/
import Derived.Test.YtagaakajpblmjaaTreeIr4
import Derived.Test.YtagaakajpblmjaaTreeShown
import Derived.Test.YtagaakajpblmjaaTreeRef
import Derived.Test.YtagaakajpblmjaaTreeRefS
namespace Go.Proofs.Ytagaakajpblmjaa
open Go Lg
theorem treeSizes_any (y0 : List ((Int) × (Int))) (h0 : (∀ z ∈ y0, ((Lit.int .i64 z.1).wf = true) ∧ ((Lit.int .i64 z.2).wf = true)) ∧ y0.length * 16 ≤ 140737488351232) (y1 : Int) (h1 : (Lit.int .u8 y1).wf = true) (y2 : List (List (Int))) (h2 : (∀ z ∈ y2, (∀ zz ∈ z, (Lit.int .i64 zz).wf = true) ∧ z.length * 8 ≤ 140737488351232) ∧ y2.length * 24 ≤ 140737488351232) : PC Try.prog 4 [L.sl 2 false (y0.map fun (z : (Int) × (Int)) => .agg [L.v (.int .i64 z.1), L.v (.int .i64 z.2)]), L.v (.int .u8 y1), L.sl 1 false (y2.map fun (z : List (Int)) => L.sl 1 false (z.map fun (z : Int) => L.v (.int .i64 z)))] (.v (.bool true)) := by
  obtain ⟨s, hs⟩ : ∃ s, s = y0 := ⟨_, rfl⟩
  obtain ⟨l, hl⟩ : ∃ l, l = y2 := ⟨_, rfl⟩
  rw [← hs, ← hl]
  have a1 := fl_wf h1
  obtain ⟨k, hk⟩ : ∃ k : Int, k = y1.tmod 31 := ⟨_, rfl⟩
  have hk2 : 0 ≤ k ∧ k < 31 := by rw [Int.tmod_eq_emod_of_nonneg (by omega)] at hk; omega
  have w1 : IntKind.i64.wrap y1 = y1 := wrap_id (by omega) (by omega)
  have w2 : IntKind.i64.wrap (y1.tmod 31) = k := by rw [← hk]; exact wrap_id (by omega) (by omega)
  have w3 : IntKind.i64.wrap k = k := wrap_id (by omega) (by omega)
  refine pc_of_call (callAt_enter ir4 (by simp) ?_)
  simp
  refine callT_closed shown_any (by simp) ?_
  simp
  refine callT_closed (rightA_any s) (by simp) ?_
  simp
  cases hr : rightS s
  · simp
  obtain ⟨r1, r2, r3⟩ := right_iff.1 hr
  simp
  by_cases hll : 40 < (l.length : Int)
  · simp [hll]
    intro hle
    omega
  have hll2 : (l.length : Int) ≤ 40 := by omega
  have hs0 : s ≠ [] := fun e => by rw [e] at r1; simp at r1
  simp [hll, hll2, w1, w2, ← hk, w3]
  refine callT_closed (newT (s := s) (by omega) k (by omega) (by omega)) (by simp) ?_
  obtain ⟨x0, hx0⟩ : ∃ x0, x0 = tst0 s := ⟨_, rfl⟩
  have ok0 : TOk s x0 := by rw [hx0]; exact tst0_ok r3 hs0 (by omega)
  have V0 : x0.V = [] := by rw [hx0]; rfl
  have F0 : x0.F = [] := by rw [hx0]; rfl
  rw [← hx0]
  simp
  have hun := unew_any (s := s) k (by omega) (by omega)
  rw [← V0, ← F0] at hun
  refine callT_closed hun (by simp) ?_
  simp
  refine lwp_loop (fun q : Nat × TSt => [(0, fldsL s), (2, .sl 1 false (l.map vecL)), (7, boolL true), (9, .ptr 0 0), (10, intL 0), (11, .ptr 1 0), (13, intL q.1)]) (fun q => [some ([tabsL k q.2.T, bytL (q.2.F.map flB)]), some (refC s k q.2.V q.2.F)]) (fun q => l.length - q.1) (fun q => q.1 ≤ l.length ∧ TOk s q.2 ∧ q.2.V.length ≤ q.1) (0, x0) ⟨by omega, ok0, by simp [V0]⟩ ⟨[0, 1], by simp⟩ ?_
  rintro ⟨i, x⟩ ⟨hi, hx, hVl⟩
  simp only at hi hx hVl
  by_cases h : i < l.length
  · obtain ⟨v, hv⟩ : ∃ v, l[i]? = some v := ⟨_, List.getElem?_eq_getElem h⟩
    have hg : l[i] = v := by simpa [h] using hv
    by_cases h40 : 40 < (v.length : Int)
    · simp [h, hg, h40]
    have h41 : (v.length : Int) ≤ 40 := by omega
    obtain ⟨y, hy, yV, yF, hcall⟩ := insT (cap := k) hx (v := v) (by omega) (by omega)
    simp [h, hg, h40, h41]
    refine bcallT_closed hcall (by simp) ?_
    have hle : (insCV s k x.V v).length ≤ x.V.length + 1 := by unfold insCV; split <;> simp
    rw [← yV] at hle
    cases hc : insC s k x.V v
    · have eV : y.V = x.V := by rw [yV, insCV, hc]; simp
      have eF : y.F = x.F := by rw [yF, hc]; simp
      simp [hc]
      have hup := usz_any hx.vec k x.F
      rw [← eV, ← eF] at hup
      rw [← eV, ← eF]
      refine bcallT_closed (sizesTx (cap := k) hy) (by simp) ?_
      simp
      refine callT_closed hup (by simp) ?_
      simp
      refine callT_closed (vecA_any (szsV s y.V) (szsV s y.V) (by have := szsV_len (V := y.V) hs0; omega)) (by simp) ?_
      simp [suc64 (show i ≤ 281474976710656 by omega)]
      exact ⟨(i + 1, y), ⟨by simp only; omega, hy, by simp only; omega⟩, by simp only; omega, [0, 1], by simp⟩
    · simp [hc]
      have hu := uins_any hx.vec k hx.fl (v := v) (by omega)
      rw [← yV, ← yF, hc] at hu
      obtain ⟨b1, b2, b3⟩ : inV s v = 0 ∧ v ∉ x.V ∧ (x.V.length : Int) < k := of_decide_eq_true hc
      have hce : insCE s k x.V v = 0 := by
        unfold insCE
        rw [if_pos b1, if_neg b2, if_neg (by omega)]
      rw [hce] at hu
      have hup := usz_any hy.vec k y.F
      simp [h, hg]
      refine bcallT_closed hu (by simp) ?_
      simp [hce]
      refine bcallT_closed (sizesTx (cap := k) hy) (by simp) ?_
      simp
      refine callT_closed hup (by simp) ?_
      simp
      refine callT_closed (vecA_any (szsV s y.V) (szsV s y.V) (by have := szsV_len (V := y.V) hs0; omega)) (by simp) ?_
      simp [suc64 (show i ≤ 281474976710656 by omega)]
      exact ⟨(i + 1, y), ⟨by simp only; omega, hy, by simp only; omega⟩, by simp only; omega, [0, 1], by simp⟩
  · have e : i = l.length := by omega
    subst e
    simp
    refine bcallT_closed (manyT (cap := k) hx) (by simp) ?_
    simp
end Go.Proofs.Ytagaakajpblmjaa
