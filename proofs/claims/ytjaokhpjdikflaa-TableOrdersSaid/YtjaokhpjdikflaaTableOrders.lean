/- Keys are told in the order in which they first came. -/
import Derived.Test.YtjaokhpjdikflaaTableShown
namespace Go.Proofs.Ytjaokhpjdikflaa
open Go Lg

theorem tableOrders_any (y0 : List (List (Int))) (h0 : (∀ z ∈ y0, (∀ zz ∈ z, (Lit.int .u8 zz).wf = true) ∧ z.length * 1 ≤ 140737488351232) ∧ y0.length * 24 ≤ 140737488351232) (y1 : Int) (h1 : (Lit.int .u8 y1).wf = true) :
    PC Try.prog 6 [L.sl 1 false (y0.map fun (z : List (Int)) => L.sl 1 false (z.map fun (z : Int) => L.v (.int .u8 z))), L.v (.int .u8 y1)] (.v (.bool true)) := by
  obtain ⟨hb0, hl0⟩ := h0
  have hbs : ∀ k ∈ y0, ∀ z ∈ k, isByte z := fun k hk => wf_byte (hb0 k hk).1
  simp [Lit.wf, IntKind.min, IntKind.max, IntKind.signed, IntKind.bits] at h1
  refine pc_of_call (callAt_enter ir6 (by simp) ?_)
  simp
  refine callT_closed shown_any rfl ?_
  simp
  refine callT_plain (few_gen ir11 false y0 60 (by omega)) rfl rfl ?_
  by_cases hf : fewK y0 60 = true
  · obtain ⟨hn, hk⟩ := few_len hf
    obtain ⟨s0, t0, -, hnew⟩ := new_any 1000 (by omega) (by omega)
    obtain ⟨M, hM, hM2⟩ : ∃ M : Nat, (IntKind.i64.wrap y1).tmod (IntKind.i64.wrap ((y0.length : Int) + 1)) = (M : Int) ∧ M ≤ y0.length := by
      rw [wrap_id (by omega) (by omega), wrap_id (by omega) (by omega), Int.tmod_eq_emod_of_nonneg (by omega)]
      have h1 := Int.emod_nonneg y1 (show ((y0.length : Int) + 1) ≠ 0 by omega)
      have h2 := Int.emod_lt_of_pos y1 (show 0 < ((y0.length : Int) + 1) by omega)
      exact ⟨(y1 % ((y0.length : Int) + 1)).toNat, by omega, by omega⟩
    have hz : IntKind.i64.wrap ((y0.length : Int) + 1) ≠ 0 := by rw [wrap_id (by omega) (by omega)]; omega
    have hlen : ∀ i, i ≤ y0.length → (dd (y0.take i)).length ≤ 60 := fun i hi => by have := dd_len y0 i hi; omega
    simp [hf]
    refine callT_closed hnew rfl ?_
    simp
    refine callT_closed hnew rfl ?_
    simp [hM, hz]
    refine lwp_loop (fun x : Nat × List Int × List Int => [(0, .sl 1 false (y0.map bytesL)), (5, boolL true), (6, .ptr 0 0), (8, .ptr 1 0), (10, intL M), (11, intL x.1)]) (fun x => [some (cells3 1000 false false (dd (y0.take x.1)) x.2.1), some (cells3 1000 false false (dd (y0.take (min x.1 M))) x.2.2)])
      (fun x => y0.length - x.1) (fun x => x.1 ≤ y0.length ∧ Tab (dd (y0.take x.1)) x.2.1 ∧ Tab (dd (y0.take (min x.1 M))) x.2.2) (0, s0, s0) ⟨by simp, by simpa using t0, by simpa using t0⟩ ⟨[0, 1], ?_⟩ ?_
    · simp
    · rintro ⟨i, s, s'⟩ ⟨hi, ht, ht'⟩
      simp at ht ht' hi ⊢
      have hl1 := hlen i hi
      have hl2 := hlen (min i M) (by omega)
      refine ⟨fun hlt => ?_, fun hge => ?_⟩
      · simp [hlt]
        have hc : ((dd (y0.take i)).length : Int) < 1000 := by omega
        have hkl : y0[i].length ≤ 1000000000 := by have := hk _ (List.getElem_mem hlt); omega
        obtain ⟨s1, t1, hin⟩ := ins_any 1000 ht y0[i] (hbs _ (List.getElem_mem hlt)) hkl (by omega)
        have hin := hin false
        rw [← dd_ins hlt hc, insE_ok hc] at hin
        rw [← dd_ins hlt hc] at t1
        refine bcallT_closed hin rfl ?_
        simp
        refine ⟨fun hiM => ?_, fun hMi => ?_⟩
        · simp [hlt]
          have hm1 : min i M = i := by omega
          have hm2 : min (i + 1) M = i + 1 := by omega
          rw [hm1] at ht' ⊢
          obtain ⟨s2, t2, hin2⟩ := ins_any 1000 ht' y0[i] (hbs _ (List.getElem_mem hlt)) hkl (by omega)
          have hin2 := hin2 false
          rw [← dd_ins hlt hc, insE_ok hc] at hin2
          rw [← dd_ins hlt hc] at t2
          refine bcallT_closed hin2 rfl ?_
          simp
          refine ⟨(i + 1, s1, s2), ⟨by simp; omega, t1, by simp only [hm2]; exact t2⟩, by simp <;> omega, [0, 1], ?_⟩
          simp [hm2]
          exact wrap_id (by omega) (by omega)
        · have hm1 : min i M = M := by omega
          have hm2 : min (i + 1) M = M := by omega
          rw [hm1] at ht' ⊢
          refine ⟨(i + 1, s1, s'), ⟨by simp; omega, t1, by simp only [hm2]; exact ht'⟩, by simp <;> omega, [0, 1], ?_⟩
          simp [hm2]
          exact wrap_id (by omega) (by omega)
      · have hil : i = y0.length := by omega
        subst hil
        have hm1 : min y0.length M = M := by omega
        rw [hm1] at ht' hl2 ⊢
        rw [List.take_length] at ht hl1
        have hpre := dd_pre (l := y0) (i := M) hM2
        simp only [List.take_length]
        refine callT_closed (keys_any 1000 (dd y0) s (by omega)) rfl ?_
        simp
        refine callT_closed (keys_any 1000 (dd (y0.take M)) s' (by omega)) rfl ?_
        have hle := hpre.length_le
        have htk : (dd y0).take (dd (y0.take M)).length = dd (y0.take M) := (List.prefix_iff_eq_take.1 hpre).symm
        have hgt : ¬ (dd y0).length < (dd (y0.take M)).length := by omega
        simp [hle, hgt]
        rw [← List.map_take, htk]
        refine callT_plain (rows_gen ir15 false false _ _ ht'.hkeys ht'.hkeys (by omega)) rfl rfl ?_
        simp
        refine callT_plain (many_tab ir10 1000 false false _ s) rfl rfl ?_
        simp
        refine lwp_loop (fun i : Nat => [(0, .sl 1 false (y0.map bytesL)), (5, boolL true), (6, .ptr 0 0), (20, .sl 1 false ((dd y0).map bytesL)), (22, intL (dd (y0.take i)).length), (23, intL i)]) (fun _ => [some (cells3 1000 false false (dd y0) s)])
          (fun i => y0.length - i) (fun i => i ≤ y0.length) 0 (by omega) ⟨[0], ?_⟩ ?_
        · simp
        · intro i hi
          simp
          refine ⟨fun hlt => ?_, fun hge => ?_⟩
          · simp [hlt]
            have hmem := dd_mem hlt
            have hpi := dd_pre (l := y0) (i := i + 1) (by omega)
            have hpi0 := dd_pre (l := y0) (i := i) (by omega)
            have hin : y0[i] ∈ dd y0 := hpi.subset hmem
            have hkb := hbs _ (List.getElem_mem hlt)
            have hkl : y0[i].length ≤ 200 := hk _ (List.getElem_mem hlt)
            have hf := find_any 1000 ht y0[i] hkb (by omega) false
            rw [if_pos hin, show decide (y0[i] ∈ dd y0) = true by simpa using hin] at hf
            have hxlt := idx_lt hin
            have hxget := idx_get hxlt
            have hkey := key_tab ir13 ir18 1000 false false (dd y0) s (idx (dd y0) y0[i]) (by omega) (by simpa using hxlt) (by simp [hxget]; omega)
            have hlen1 := hlen (i + 1) (by omega)
            have hlen0 := hlen i (by omega)
            have hsucc := dd_take hlt
            have hcase : idx (dd y0) y0[i] = (dd (y0.take i)).length ∧ (dd (y0.take (i + 1))).length = (dd (y0.take i)).length + 1 ∨ idx (dd y0) y0[i] < (dd (y0.take i)).length ∧ dd (y0.take (i + 1)) = dd (y0.take i) := by
              rw [idx_prefix hpi hmem]
              by_cases hm : y0[i] ∈ dd (y0.take i)
              · rw [if_pos hm] at hsucc
                rw [hsucc]
                exact .inr ⟨idx_lt hm, rfl⟩
              · rw [if_neg hm] at hsucc
                rw [hsucc, idx_new hm]
                exact .inl ⟨rfl, by simp⟩
            generalize hx : idx (dd y0) y0[i] = x at hf hxlt hxget hkey hcase
            refine callT_plain hf rfl rfl ?_
            simp [hxget] at hkey ⊢
            have hbi := bytes_inj hkb hkb
            rcases hcase with ⟨hc1, hc2⟩ | ⟨hc1, hc2⟩
            · subst hc1
              have n2 : ¬ ((dd (y0.take i)).length : Int) < 0 := by omega
              simp [n2]
              refine callT_closed hkey rfl ?_
              simp [hlt, hxlt, hxget]
              refine ⟨i + 1, by omega, by simp <;> omega, [0], ?_⟩
              simp [hc2]
              exact ⟨wrap_id (by omega) (by omega), wrap_id (by omega) (by omega)⟩
            · have n1 : ¬ (dd (y0.take i)).length < x := by omega
              have n2 : ¬ (x : Int) < 0 := by omega
              have n3 : ¬ (x : Int) = ((dd (y0.take i)).length : Int) := by omega
              have n4 : ¬ x = (dd (y0.take i)).length := by omega
              have n5 : x ≤ (dd (y0.take i)).length := by omega
              simp [n1, n2, n3, n4, n5]
              refine callT_closed hkey rfl ?_
              simp [hlt, hxlt, hxget]
              refine ⟨i + 1, by omega, by simp <;> omega, [0], ?_⟩
              simp [hc2]
              exact wrap_id (by omega) (by omega)
          · have hil : i = y0.length := by omega
            subst hil
            simp
  · simp [hf]

end Go.Proofs.Ytjaokhpjdikflaa
