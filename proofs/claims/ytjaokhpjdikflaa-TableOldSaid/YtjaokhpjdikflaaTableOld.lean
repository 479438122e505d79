/- OLD: a table that was stays as it was. -/
import Derived.Test.YtjaokhpjdikflaaTableShown
namespace Go.Proofs.Ytjaokhpjdikflaa
open Go Lg

theorem tableOld_any (y0 : List (List (Int))) (h0 : (∀ z ∈ y0, (∀ zz ∈ z, (Lit.int .u8 zz).wf = true) ∧ z.length * 1 ≤ 140737488351232) ∧ y0.length * 24 ≤ 140737488351232) (y1 : List (Int)) (h1 : (∀ z ∈ y1, (Lit.int .u8 z).wf = true) ∧ y1.length * 1 ≤ 140737488351232) (y2 : List (Int)) (h2 : (∀ z ∈ y2, (Lit.int .u8 z).wf = true) ∧ y2.length * 1 ≤ 140737488351232) :
    PC Try.prog 5 [L.sl 1 false (y0.map fun (z : List (Int)) => L.sl 1 false (z.map fun (z : Int) => L.v (.int .u8 z))), L.sl 1 false (y1.map fun (z : Int) => L.v (.int .u8 z)), L.sl 1 false (y2.map fun (z : Int) => L.v (.int .u8 z))] (.v (.bool true)) := by
  obtain ⟨hb0, hl0⟩ := h0
  obtain ⟨hb1, hl1⟩ := h1
  obtain ⟨hb2, hl2⟩ := h2
  have hb1 := wf_byte hb1
  have hb2 := wf_byte hb2
  have hbs : ∀ k ∈ y0, ∀ z ∈ k, isByte z := fun k hk => wf_byte (hb0 k hk).1
  refine pc_of_call (callAt_enter ir5 (by simp) ?_)
  simp
  refine callT_closed shown_any rfl ?_
  simp
  refine callT_plain (few_gen ir11 false y0 40 (by omega)) rfl rfl ?_
  by_cases hf : fewK y0 40 = true
  · obtain ⟨hn, hk⟩ := few_len hf
    obtain ⟨s0, t0, -, hnew⟩ := new_any 100 (by omega) (by omega)
    simp [hf]
    intro h200 h200b
    refine callT_closed hnew rfl ?_
    simp
    refine lwp_loop (fun x : Nat × List Int => [(0, .sl 1 false (y0.map bytesL)), (1, .sl 1 false (y1.map u8L)), (2, .sl 1 false (y2.map u8L)), (7, boolL true), (8, .ptr 0 0), (10, intL x.1)]) (fun x => [some (cells3 100 false false (dd (y0.take x.1)) x.2)]) (fun x => y0.length - x.1) (fun x => x.1 ≤ y0.length ∧ Tab (dd (y0.take x.1)) x.2) (0, s0) ⟨by simp, by simpa using t0⟩ ⟨[0], ?_⟩ ?_
    · simp
    · rintro ⟨i, s⟩ ⟨hi, ht⟩
      have hdl := dd_len y0 i hi
      simp at ht ⊢
      refine ⟨fun hlt => ?_, fun hge => ?_⟩
      · simp [hlt]
        have hc : ((dd (y0.take i)).length : Int) < 100 := by omega
        obtain ⟨s', t', hin⟩ := ins_any 100 ht y0[i] (hbs _ (List.getElem_mem hlt)) (by have := hk _ (List.getElem_mem hlt); omega) (by omega)
        have hin := hin false
        rw [← dd_ins hlt hc, insE_ok hc] at hin
        rw [← dd_ins hlt hc] at t'
        refine bcallT_closed hin rfl ?_
        simp
        refine ⟨(i + 1, s'), ⟨by simp; omega, t'⟩, by simp <;> omega, [0], ?_⟩
        simp
        exact wrap_id (by omega) (by omega)
      · have hil : i = y0.length := by simp at hi; omega
        subst hil
        rw [List.take_length] at ht hdl
        simp only [List.take_length]
        generalize hK : dd y0 = K at ht hdl ⊢
        have hc : (K.length : Int) < 100 := by omega
        obtain ⟨sa, ta, ia⟩ := ins_any 100 ht y1 hb1 (by omega) (by omega)
        obtain ⟨sb, tb, ib⟩ := ins_any 100 ht y2 hb2 (by omega) (by omega)
        have ia := ia false
        have ib := ib false
        have ka := keys_any 100 K s (by omega)
        refine callT_closed ka rfl ?_
        simp
        refine callT_closed ia rfl ?_
        simp
        refine callT_closed ib rfl ?_
        simp
        refine callT_plain (find_any 100 ht y1 hb1 (by omega) false) rfl rfl ?_
        simp
        refine callT_plain (find_any 100 tb y1 hb1 (by omega) false) rfl rfl ?_
        simp
        refine callT_plain (find_any 100 ta y1 hb1 (by omega) false) rfl rfl ?_
        simp
        refine callT_closed ka rfl ?_
        simp
        have hKb : ∀ k ∈ K, ∀ z ∈ k, isByte z := ht.hkeys
        refine callT_plain (rows_gen ir15 false false K K hKb hKb (by omega)) rfl rfl ?_
        have m1 : y1 ∈ insK 100 K y1 := (mem_insK hc).2 (.inr rfl)
        have m2 : y1 ∈ insK 100 K y2 ↔ y1 ∈ K ∨ y1 = y2 := mem_insK hc
        have n1 := insN_old (key := y1) hc
        have n2 := insN_old (key := y2) hc
        have l1 : (insK 100 K y1).length = K.length + (decide (y1 ∉ K)).toNat := by rw [insK_length, n1]
        have l2 : (insK 100 K y2).length = K.length + (decide (y2 ∉ K)).toNat := by rw [insK_length, n2]
        have w1 : ∀ b : Bool, IntKind.i64.wrap ((K.length : Int) + (b.toNat : Int)) = K.length + b.toNat := fun b => wrap_id (by omega) (by have := b.toNat_le; omega)
        have hbi : (y1.map (fun z => UInt8.ofNat z.toNat) = y2.map (fun z => UInt8.ofNat z.toNat)) ↔ y1 = y2 := bytes_inj hb1 hb2
        have hw0 : IntKind.i64.wrap (K.length : Int) = K.length := wrap_id (by omega) (by omega)
        have hw1 : IntKind.i64.wrap ((K.length : Int) + 1) = K.length + 1 := wrap_id (by omega) (by omega)
        have g1 := many_tab ir10 100 false false (insK 100 K y1) sa
        have g2 := many_tab ir10 100 false false (insK 100 K y2) sb
        rw [l1] at g1
        rw [l2] at g2
        by_cases hk1 : y1 ∈ K <;> by_cases hk2 : y2 ∈ K
        all_goals
          simp [hk1, hk2, m1, m2, n1, n2, hbi]
          refine callT_plain g1 rfl rfl ?_
          simp
          refine callT_plain (flag_any _) rfl rfl ?_
          simp [hk1, hw0, hw1]
          refine callT_plain g2 rfl rfl ?_
          simp
          refine callT_plain (flag_any _) rfl rfl ?_
          simp [hk2, hw0, hw1]
  · simp [hf]

end Go.Proofs.Ytjaokhpjdikflaa
