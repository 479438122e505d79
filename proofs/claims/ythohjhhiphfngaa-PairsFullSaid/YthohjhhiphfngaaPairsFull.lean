/- FULL: a table that is full takes no new pair. -/
import Derived.Test.YthohjhhiphfngaaPairsMap
namespace Go.Proofs.Ythohjhhiphfngaa
open Go Lg

set_option maxRecDepth 100000 in
theorem pairsFull_any (y0 : Int) (h0 : (Lit.int .u8 y0).wf = true) (y1 : List ((Int) × (Int))) (h1 : (∀ z ∈ y1, ((Lit.int .u32 z.1).wf = true) ∧ ((Lit.int .u32 z.2).wf = true)) ∧ y1.length * 8 ≤ 140737488351232) : PC Try.prog 5 [L.v (.int .u8 y0), L.sl 2 false (y1.map fun (z : (Int) × (Int)) => .agg [L.v (.int .u32 z.1), L.v (.int .u32 z.2)])] (.v (.bool true)) := by
  simp [Lit.wf, IntKind.min, IntKind.max, IntKind.signed, IntKind.bits] at h0
  obtain ⟨hb1, hl1⟩ := h1
  have hu : ∀ z ∈ y1, U32 z.1 ∧ U32 z.2 := fun z hz => ⟨wf_u32 (hb1 z hz).1, wf_u32 (hb1 z hz).2⟩
  obtain ⟨N, hN, hN2⟩ : ∃ N : Nat, (IntKind.i64.wrap y0).tmod 21 = (N : Int) ∧ N < 21 := by
    refine ⟨(y0 % 21).toNat, ?_, by omega⟩
    rw [wrap_id (by omega) (by omega), Int.tmod_eq_emod_of_nonneg (by omega)]
    omega
  refine pc_of_call (callAt_enter ir5 (by simp) ?_)
  simp
  refine callT_closed shown_any rfl ?_
  simp
  by_cases hf : y1.length ≤ 40
  · obtain ⟨s0, t0, hnew⟩ := new_any N (by omega) (by omega)
    have hf' : ¬ (40 : Int) < (y1.length : Int) := by omega
    simp [hf, hf', hN]
    intro hfi
    refine callT_closed hnew rfl ?_
    simp
    generalize hy : y1.map pk2 = ys
    have hyl : ys.length = y1.length := by subst hy; simp
    refine lwp_loop (fun x : Nat × List Int => [(1, .sl 2 false (y1.map fun (z : Int × Int) => .agg [u32L z.1, u32L z.2])), (5, boolL true), (6, intL N), (7, .ptr 0 0), (9, .mref 1), (10, intL x.1)]) (fun x => [some (cells3 N false false (kf N (ys.take x.1)) x.2), some [.mp (.p .u32) (idxM pm (kf N (ys.take x.1)))]]) (fun x => y1.length - x.1) (fun x => x.1 ≤ y1.length ∧ Tab (kf N (ys.take x.1)) x.2) (0, s0) ⟨by simp, by simpa using t0⟩ ⟨[0, 1], ?_⟩ ?_
    · simp [idxM, idxFrom]
    · rintro ⟨i, s⟩ ⟨hi, ht⟩
      obtain ⟨hl1, hl2⟩ := kf_len (cap := (N : Int)) (by omega) (ys.take i)
      simp at ht hi ⊢
      intro hlt
      · simp [hlt]
        obtain ⟨ua, ub⟩ := hu _ (List.getElem_mem hlt)
        have hl3 : (kf N (ys.take i)).length ≤ 40 := by rw [List.length_take] at hl2; omega
        obtain ⟨s', t', hin⟩ := ins_any N ht y1[i].1 y1[i].2 (by omega)
        have hlt' : i < ys.length := by omega
        have hyi : ys[i] = pk y1[i].1 y1[i].2 := by subst hy; simp [pk2]
        have hnext := kf_take (cap := (N : Int)) hlt'
        rw [hyi] at hnext
        have hinj := pm_inj (ys := y1) hu (K := kf N (ys.take i)) (fun x hx => by rw [hy]; exact List.mem_of_mem_take (kf_sub hx)) ua ub
        have hinj2 := pm_inj (ys := y1) hu (K := kf N (ys.take (i + 1))) (fun x hx => by rw [hy]; exact List.mem_of_mem_take (kf_sub hx)) ua ub
        have hlook := look_idxM hinj
        have hlook2 := look_idxM hinj2
        have hput := put_idxM hinj
        rw [pm_pk ua ub] at hlook hput hlook2
        rw [← hnext] at t' hin
        have hfind := find_any N t' y1[i].1 y1[i].2
        have hmany := many_any N (kf N (ys.take (i + 1))) s'
        generalize hA : pk y1[i].1 y1[i].2 = A at *
        generalize hK : kf (N : Int) (ys.take i) = K at *
        by_cases hk : A ∈ K
        · have e1 : insK N K A = K := by simp [insK, hk]
          have e2 : insI N K A = idx K A := by simp [insI, hk]
          have e3 : insN N K A = false := by simp [insN, hk]
          have e4 : insE N K A = 0 := by simp [insE, hk]
          rw [e1] at hnext
          rw [hnext, e2, e3, e4] at hin
          rw [hnext] at hfind hmany t'
          rw [if_pos hk, decide_eq_true hk] at hfind
          simp [hlook, hk]
          refine bcallT_closed hin rfl ?_
          simp [hlt]
          refine callT_plain hfind rfl rfl ?_
          simp [hlt, hlook, hk]
          refine callT_plain hmany rfl rfl ?_
          simp [idxM_length]
          refine ⟨(i + 1, s'), ⟨by simp; omega, by simpa [hnext] using t'⟩, by simp <;> omega, [0, 1], ?_⟩
          simp [hnext]
          exact wrap_id (by omega) (by omega)
        · simp [hlook, hk]
          refine bcallT_closed hin rfl ?_
          by_cases hc : K.length < N
          · have hc1 : ¬ (N : Int) ≤ (K.length : Int) := by omega
            have hc2 : (K.length : Int) < (N : Int) := by omega
            have hc3 : ¬ N ≤ K.length := by omega
            have e1 : insK N K A = K ++ [A] := by simp [insK, hk, hc3]
            have e2 : insI N K A = K.length := by simp [insI, hk, hc3]
            have e3 : insN N K A = true := by simp [insN, hk, hc]
            have e4 : insE N K A = 0 := by simp [insE, hk, hc3]
            rw [e1] at hnext
            rw [hnext] at hfind hmany t' hlook2
            have hin' : A ∈ K ++ [A] := by simp
            rw [if_pos hin', decide_eq_true hin'] at hfind
            rw [if_pos hin'] at hlook2
            simp [hlt, hnext, e2, e3, e4, idxM_length, hc, hc1, hc2, hc3, hput hk]
            refine callT_plain hfind rfl (by simp) ?_
            simp [hlt, hlook2]
            refine callT_plain hmany rfl (by simp) ?_
            simp [idxM_length]
            refine ⟨(i + 1, s'), ⟨by simp; omega, by simpa [hnext] using t'⟩, by simp <;> omega, [0, 1], ?_⟩
            simp [hnext]
            exact wrap_id (by omega) (by omega)
          · have hc1 : (N : Int) ≤ (K.length : Int) := by omega
            have hc2 : ¬ (K.length : Int) < (N : Int) := by omega
            have hc3 : N ≤ K.length := by omega
            have e1 : insK N K A = K := by simp [insK, hc3]
            have e2 : insI N K A = 0 := by simp [insI, hk, hc3]
            have e3 : insN N K A = false := by simp [insN, hc]
            have e4 : insE N K A = 7 := by simp [insE, hk, hc3]
            rw [e1] at hnext
            rw [hnext] at hfind hmany t'
            rw [if_neg hk, decide_eq_false hk] at hfind
            simp [hlt, hnext, e2, e3, e4, idxM_length, hc, hc1, hc2, hc3]
            refine callT_plain hfind rfl rfl ?_
            simp [hlt]
            refine callT_plain hmany rfl rfl ?_
            simp [idxM_length]
            refine ⟨(i + 1, s'), ⟨by simp; omega, by simpa [hnext] using t'⟩, by simp <;> omega, [0, 1], ?_⟩
            simp [hnext]
            exact wrap_id (by omega) (by omega)
  · have hf' : (40 : Int) < (y1.length : Int) := by omega
    simp [hf']
    intro h
    omega

end Go.Proofs.Ythohjhhiphfngaa
