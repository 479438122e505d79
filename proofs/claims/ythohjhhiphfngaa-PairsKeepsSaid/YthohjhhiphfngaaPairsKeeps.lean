/- KEEPS: each pair that was inserted is found where it was told. -/
import Derived.Test.YthohjhhiphfngaaPairsMap
namespace Go.Proofs.Ythohjhhiphfngaa
open Go Lg

set_option maxRecDepth 100000 in
theorem pairsKeeps_any (y0 : List ((Int) × (Int))) (h0 : (∀ z ∈ y0, ((Lit.int .u32 z.1).wf = true) ∧ ((Lit.int .u32 z.2).wf = true)) ∧ y0.length * 8 ≤ 140737488351232) : PC Try.prog 3 [L.sl 2 false (y0.map fun (z : (Int) × (Int)) => .agg [L.v (.int .u32 z.1), L.v (.int .u32 z.2)])] (.v (.bool true)) := by
  obtain ⟨hb0, hl0⟩ := h0
  have hu : ∀ z ∈ y0, U32 z.1 ∧ U32 z.2 := fun z hz => ⟨wf_u32 (hb0 z hz).1, wf_u32 (hb0 z hz).2⟩
  refine pc_of_call (callAt_enter ir3 (by simp) ?_)
  simp
  refine callT_closed shown_any rfl ?_
  simp
  by_cases hf : y0.length ≤ 60
  · obtain ⟨s0, t0, hnew⟩ := new_any 100 (by omega) (by omega)
    have hf' : ¬ (60 : Int) < (y0.length : Int) := by omega
    simp [hf, hf']
    intro hfi
    refine callT_closed hnew rfl ?_
    simp
    generalize hy : y0.map pk2 = ys
    have hyl : ys.length = y0.length := by subst hy; simp
    refine lwp_loop (fun x : Nat × List Int => [(0, .sl 2 false (y0.map fun (z : Int × Int) => .agg [u32L z.1, u32L z.2])), (3, boolL true), (4, .ptr 0 0), (5, intL 0), (6, .mref 1), (7, intL x.1)]) (fun x => [some (cells3 100 false false (dd (ys.take x.1)) x.2), some [.mp (.p .u32) (idxM pm (dd (ys.take x.1)))]]) (fun x => y0.length - x.1) (fun x => x.1 ≤ y0.length ∧ Tab (dd (ys.take x.1)) x.2) (0, s0) ⟨by simp, by simpa using t0⟩ ⟨[0, 1], ?_⟩ ?_
    · simp [idxM, idxFrom]
    · rintro ⟨i, s⟩ ⟨hi, ht⟩
      have hdl := dd_len ys i (by omega)
      simp at ht hi ⊢
      refine ⟨fun hlt => ?_, fun hge => ?_⟩
      · simp [hlt]
        have hc : ((dd (ys.take i)).length : Int) < 100 := by omega
        obtain ⟨ua, ub⟩ := hu _ (List.getElem_mem hlt)
        obtain ⟨s', t', hin⟩ := ins_any 100 ht y0[i].1 y0[i].2 (by omega)
        have hlt' : i < ys.length := by omega
        have hyi : ys[i] = pk y0[i].1 y0[i].2 := by subst hy; simp [pk2]
        have hnext := dd_ins hlt' hc
        have hinj := pm_inj (ys := y0) hu (K := dd (ys.take i)) (fun x hx => by rw [hy]; exact List.mem_of_mem_take (dd_sub hx)) ua ub
        have hlook := look_idxM hinj
        have hput := put_idxM hinj
        have hagain := again_idxM hinj
        rw [pm_pk ua ub] at hlook hput hagain
        rw [hyi] at hnext
        rw [← hnext] at t'
        rw [insE_ok hc, insN_old hc] at hin
        generalize hA : pk y0[i].1 y0[i].2 = A at *
        generalize hK : dd (ys.take i) = K at *
        have hc' : ¬ (100 : Int) ≤ (K.length : Int) := by omega
        by_cases hk : A ∈ K
        · have e1 : insK 100 K A = K := by simp [insK, hk]
          have e2 : insI 100 K A = idx K A := by simp [insI, hk]
          rw [e1] at hnext
          rw [e1, e2] at hin
          simp [hk] at hin
          simp [hlook, hk]
          refine bcallT_closed hin rfl ?_
          simp [hlt, hagain hk]
          refine ⟨(i + 1, s'), ⟨by simp; omega, t'⟩, by simp <;> omega, [0, 1], ?_⟩
          simp [hnext]
          exact wrap_id (by omega) (by omega)
        · have e1 : insK 100 K A = K ++ [A] := by simp [insK, hk, hc']
          have e2 : insI 100 K A = K.length := by simp [insI, hk, hc']
          rw [e1] at hnext
          rw [e1, e2] at hin
          simp [hk] at hin
          simp [hlook, hk]
          refine bcallT_closed hin rfl ?_
          simp [hlt, hput hk, idxM_length]
          refine ⟨(i + 1, s'), ⟨by simp; omega, t'⟩, by simp <;> omega, [0, 1], ?_⟩
          simp [hnext]
          exact wrap_id (by omega) (by omega)
      · have hil : i = y0.length := by omega
        subst hil
        rw [← hyl, List.take_length] at ht hdl
        simp only [← hyl, List.take_length]
        have hsub : ∀ x ∈ dd ys, x ∈ y0.map pk2 := fun x hx => by rw [hy]; exact dd_sub hx
        have hmem : ∀ j (hj : j < y0.length), pk y0[j].1 y0[j].2 ∈ dd ys := fun j hj => by
          have hj' : j < ys.length := by omega
          have hyj : ys[j] = pk y0[j].1 y0[j].2 := by subst hy; simp [pk2]
          rw [← hyj]
          exact (dd_pre (show j + 1 ≤ ys.length by omega)).subset (dd_mem hj')
        generalize hK : dd ys = K at *
        refine lwp_loop (fun j : Nat => [(0, .sl 2 false (y0.map fun (z : Int × Int) => .agg [u32L z.1, u32L z.2])), (3, boolL true), (4, .ptr 0 0), (5, intL 0), (6, .mref 1), (14, intL j)]) (fun j => [some (cells3 100 false false K s), some [.mp (.p .u32) (idxM pm K)]]) (fun j => y0.length - j) (fun j => j ≤ y0.length) 0 (by omega) ⟨[0, 1], ?_⟩ ?_
        · simp
        · intro j hj
          simp at hj ⊢
          refine ⟨fun hlt => ?_, fun hge => ?_⟩
          · have hlt2 : j < y0.length := by omega
            obtain ⟨ua, ub⟩ := hu _ (List.getElem_mem hlt2)
            have hk := hmem j hlt2
            have hlk := idx_lt hk
            have hfind := find_any 100 ht y0[j].1 y0[j].2
            have hfind2 := find_any 100 ht y0[j].2 y0[j].1
            rw [if_pos hk, decide_eq_true hk] at hfind
            have hpair := pair_any 100 K s (idx K (pk y0[j].1 y0[j].2)) (by omega) (by simpa using hlk) ua ub (by simp only [Int.toNat_natCast]; exact idx_get hlk)
            have hlook := look_idxM (pm_inj (ys := y0) hu hsub ua ub)
            have hlook2 := look_idxM (pm_inj (ys := y0) hu hsub ub ua)
            rw [pm_pk ua ub, if_pos hk] at hlook
            rw [pm_pk ub ua] at hlook2
            simp [hlt2]
            refine callT_plain hfind rfl rfl ?_
            simp
            refine callT_plain hpair rfl rfl ?_
            by_cases hk2 : pk y0[j].2 y0[j].1 ∈ K
            · rw [if_pos hk2, decide_eq_true hk2] at hfind2
              simp [hlt2, hlook2, hk2]
              refine callT_plain hfind2 rfl rfl ?_
              simp [hlt2, hlook]
              refine ⟨j + 1, by omega, by simp <;> omega, [0, 1], ?_⟩
              simp
              exact wrap_id (by omega) (by omega)
            · rw [if_neg hk2, decide_eq_false hk2] at hfind2
              simp [hlt2, hlook2, hk2]
              refine callT_plain hfind2 rfl rfl ?_
              simp [hlt2, hlook]
              refine ⟨j + 1, by omega, by simp <;> omega, [0, 1], ?_⟩
              simp
              exact wrap_id (by omega) (by omega)
          · refine callT_plain (many_any 100 K s) rfl rfl ?_
            simp [idxM_length]
  · have hf' : (60 : Int) < (y0.length : Int) := by omega
    simp [hf']
    intro h
    omega

end Go.Proofs.Ythohjhhiphfngaa
