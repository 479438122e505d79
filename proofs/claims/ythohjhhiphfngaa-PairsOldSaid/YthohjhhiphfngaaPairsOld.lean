/- OLD: a table of pairs that was stays as it was. -/
import Derived.Test.YthohjhhiphfngaaPairsFn2
namespace Go.Proofs.Ythohjhhiphfngaa
open Go Lg

theorem wf_u32 {z : Int} (h : (Lit.int .u32 z).wf = true) : U32 z := by
  simp [Lit.wf, IntKind.min, IntKind.max, IntKind.signed, IntKind.bits] at h
  exact ⟨by omega, by omega⟩

def pk2 (z : Int × Int) : List Int := pk z.1 z.2

set_option maxRecDepth 100000 in
theorem pairsOld_any (y0 : List (Int × Int)) (h0 : (∀ z ∈ y0, (Lit.int .u32 z.1).wf = true ∧ (Lit.int .u32 z.2).wf = true) ∧ y0.length * 8 ≤ 140737488351232) (y1 : Int × Int) (h1 : (Lit.int .u32 y1.1).wf = true ∧ (Lit.int .u32 y1.2).wf = true) (y2 : Int × Int) (h2 : (Lit.int .u32 y2.1).wf = true ∧ (Lit.int .u32 y2.2).wf = true) :
    PC Try.prog 6 [L.sl 2 false (y0.map fun (z : Int × Int) => .agg [L.v (.int .u32 z.1), L.v (.int .u32 z.2)]), .agg [L.v (.int .u32 y1.1), L.v (.int .u32 y1.2)], .agg [L.v (.int .u32 y2.1), L.v (.int .u32 y2.2)]] (.v (.bool true)) := by
  obtain ⟨hb0, hl0⟩ := h0
  obtain ⟨a, a'⟩ := y1
  obtain ⟨b, b'⟩ := y2
  have ua := wf_u32 h1.1
  have ua' := wf_u32 h1.2
  have ub := wf_u32 h2.1
  have ub' := wf_u32 h2.2
  refine pc_of_call (callAt_enter ir6 (by simp) ?_)
  simp
  refine callT_closed shown_any rfl ?_
  simp
  by_cases hf : y0.length ≤ 40
  · obtain ⟨s0, t0, hnew⟩ := new_any 100 (by omega) (by omega)
    have hf' : ¬ (40 : Int) < (y0.length : Int) := by omega
    simp [hf, hf']
    intro hfi
    refine callT_closed hnew rfl ?_
    simp
    generalize hy : y0.map pk2 = ys
    have hyl : ys.length = y0.length := by subst hy; simp
    refine lwp_loop (fun x : Nat × List Int => [(0, .sl 2 false (y0.map fun (z : Int × Int) => .agg [u32L z.1, u32L z.2])), (4, .ptr 0 0), (5, .ptr 1 0), (7, boolL true), (8, .ptr 2 0), (9, intL 0), (10, intL x.1)]) (fun x => [some [u32L a, u32L a'], some [u32L b, u32L b'], some (cells3 100 false false (dd (ys.take x.1)) x.2)]) (fun x => y0.length - x.1) (fun x => x.1 ≤ y0.length ∧ Tab (dd (ys.take x.1)) x.2) (0, s0) ⟨by simp, by simpa using t0⟩ ⟨[0, 1, 2], ?_⟩ ?_
    · simp
    · rintro ⟨i, s⟩ ⟨hi, ht⟩
      have hdl := dd_len ys i (by omega)
      simp at ht hi ⊢
      refine ⟨fun hlt => ?_, fun hge => ?_⟩
      · simp [hlt]
        have hc : ((dd (ys.take i)).length : Int) < 100 := by omega
        obtain ⟨s', t', hin⟩ := ins_any 100 ht y0[i].1 y0[i].2 (by omega)
        have hlt' : i < ys.length := by omega
        have hyi : ys[i] = pk y0[i].1 y0[i].2 := by subst hy; simp [pk2]
        rw [← hyi, ← dd_ins hlt' hc, insE_ok hc] at hin
        rw [← hyi, ← dd_ins hlt' hc] at t'
        refine bcallT_closed hin rfl ?_
        simp
        refine ⟨(i + 1, s'), ⟨by simp; omega, t'⟩, by simp <;> omega, [0, 1, 2], ?_⟩
        simp
        exact wrap_id (by omega) (by omega)
      · have hil : i = y0.length := by omega
        subst hil
        rw [← hyl, List.take_length] at ht hdl
        simp only [← hyl, List.take_length]
        generalize hK : dd ys = K at ht hdl ⊢
        have hc : (K.length : Int) < 100 := by omega
        obtain ⟨sa, ta, ia⟩ := ins_any 100 ht a a' (by omega)
        obtain ⟨sb, tb, ib⟩ := ins_any 100 ht b b' (by omega)
        refine callT_plain (many_any 100 K s) rfl rfl ?_
        simp
        refine callT_plain (find_any 100 ht a a') rfl rfl ?_
        simp
        refine callT_closed ia rfl ?_
        simp
        refine callT_closed ib rfl ?_
        simp
        refine callT_plain (find_any 100 ht a a') rfl rfl ?_
        simp
        refine callT_plain (pair_bad 100 K s K.length (by omega)) rfl rfl ?_
        simp
        refine callT_plain (find_any 100 ta a a') rfl rfl ?_
        simp
        refine callT_plain (find_any 100 tb a a') rfl rfl ?_
        simp
        have hab : pk a a' = pk b b' ↔ a = b ∧ a' = b' := pk_inj ua ua' ub ub'
        generalize hA : pk a a' = A at *
        generalize hB : pk b b' = B at *
        have m1 : A ∈ insK 100 K A := (mem_insK hc).2 (.inr rfl)
        have m2 : A ∈ insK 100 K B ↔ A ∈ K ∨ A = B := mem_insK hc
        have n1 := insN_old (key := A) hc
        have n2 := insN_old (key := B) hc
        have e1 := insE_ok (key := A) hc
        have e2 := insE_ok (key := B) hc
        have hc' : ¬ (100 : Int) ≤ (K.length : Int) := by omega
        have hg := many_any 100 K s
        have p1 : A ∈ K → idx (insK 100 K A) A = idx K A := fun h => by simp [insK, h]
        have p2 : A ∉ K → idx (insK 100 K A) A = K.length := fun h => by simp [insK, h, hc', idx_new h]
        by_cases hk1 : A ∈ K <;> by_cases hk2 : B ∈ K
        all_goals
          simp [hk1, hk2, m1, m2, n1, n2, e1, e2]
          refine callT_plain hg rfl rfl ?_
          simp [hk1, hk2, m1, m2, n1, n2, e1, e2, p1, p2, insI, hc', hab]
  · have hf' : (40 : Int) < (y0.length : Int) := by omega
    simp [hf']
    intro h
    omega

end Go.Proofs.Ythohjhhiphfngaa
