/- OLD: a store that was stays as it was, whatever is inserted, and which flags are set, later. -/
import Derived.Test.YtadpjaolnkliiaaFlatShown
namespace Go.Proofs.Ytadpjaolnkliiaa
open Go Lg

theorem flatOld_any (y0 : List ((Int) × (List (Int)) × (Int))) (h0 : (∀ z ∈ y0, ((Lit.int .u8 z.1).wf = true) ∧ ((∀ zz ∈ z.2.1, (Lit.int .u8 zz).wf = true) ∧ z.2.1.length * 1 ≤ 140737488351232) ∧ ((Lit.int .i64 z.2.2).wf = true)) ∧ y0.length * 40 ≤ 140737488351232) (y1 : List (Int)) (h1 : (∀ z ∈ y1, (Lit.int .u8 z).wf = true) ∧ y1.length * 1 ≤ 140737488351232) (y2 : Int) (h2 : (Lit.int .u8 y2).wf = true) :
    PC Try.prog 5 [L.sl 3 false (y0.map fun (z : (Int) × (List (Int)) × (Int)) => .agg [L.v (.int .u8 z.1), L.sl 1 false (z.2.1.map fun (z : Int) => L.v (.int .u8 z)), L.v (.int .i64 z.2.2)]), L.sl 1 false (y1.map fun (z : Int) => L.v (.int .u8 z)), L.v (.int .u8 y2)] (.v (.bool true)) := by
  obtain ⟨hz, hll⟩ := h0
  obtain ⟨hb1, -⟩ := h1
  have hb1 := wf_byte hb1
  have hbs : ∀ z ∈ y0, ∀ x ∈ z.2.1, isByte x := fun z hzm => wf_byte (hz z hzm).2.1.1
  clear hz
  simp [Lit.wf, IntKind.min, IntKind.max, IntKind.signed, IntKind.bits] at h2
  obtain ⟨F, hF, hF2⟩ : ∃ F : Int, (IntKind.i64.wrap y2).tmod 2 = F ∧ (F = 0 ∨ F = 1) := by
    refine ⟨y2 % 2, ?_, by omega⟩
    rw [wrap_id (by omega) (by omega), Int.tmod_eq_emod_of_nonneg (by omega)]
  refine pc_of_call (callAt_enter ir5 (by simp) ?_)
  simp
  refine callT_closed shown_any rfl ?_
  simp
  refine callT_plain (few_any y0 30 (by omega)) rfl rfl ?_
  by_cases hf : fewA y0 30 = true
  · obtain ⟨hn, hks⟩ := fewA_len hf
    obtain ⟨s0, t0, hnew⟩ := new_any 100 (by omega) (by omega)
    simp [hf]
    intro h200
    refine callT_closed hnew rfl ?_
    simp
    obtain ⟨ks, hksd⟩ : ∃ ks : List (List Int), ks = y0.map (·.2.1) := ⟨_, rfl⟩
    have hkl : ks.length = y0.length := by rw [hksd]; simp
    refine lwp_loop (fun x : Nat × List Int => [(0, .sl 3 false (y0.map actL)), (1, .sl 1 false (y1.map u8L)), (2, .v (.int .u8 y2)), (7, boolL true), (8, .ptr 0 0), (10, intL x.1)])
      (fun x => [some [intL 100, .sl 1 false ((dd (ks.take x.1)).map bytesL), .sl 1 false (x.2.map intL), .sl 1 false ((List.replicate (dd (ks.take x.1)).length (0 : Int)).map u8L)]]) (fun x => y0.length - x.1) (fun x => x.1 ≤ y0.length ∧ Tab (dd (ks.take x.1)) x.2) (0, s0) ⟨by simp, by simpa using t0⟩ ⟨[0], ?_⟩ ?_
    · simp
    · rintro ⟨i, s⟩ ⟨hi, ht⟩
      have hi' : i ≤ y0.length := hi
      have hdl := dd_len ks i (by omega)
      simp only at ht
      generalize hfl : List.replicate (dd (ks.take i)).length (0 : Int) = fl
      have hfll : fl.length ≤ 1000 := by rw [← hfl]; simp; omega
      simp [hfl]
      refine ⟨fun hlt => ?_, fun hge => ?_⟩
      · simp [hlt]
        obtain ⟨z, hzz⟩ : ∃ z, y0[i] = z := ⟨_, rfl⟩
        have hzm : z ∈ y0 := hzz ▸ List.getElem_mem hlt
        have hki : ks[i]'(by omega) = z.2.1 := by simp [hksd, hzz]
        have hc : ((dd (ks.take i)).length : Int) < 100 := by omega
        obtain ⟨s', t', hin⟩ := ins_any 100 ht fl (by omega) z.2.1 (hbs z hzm) (by have := hks z hzm; omega) (by omega)
        have hin := hin false
        have hdi := dd_ins (cap := 100) (show i < ks.length by omega) hc
        rw [hki] at hdi
        have hfl2 : (if insN 100 (dd (ks.take i)) z.2.1 = true then fl ++ [0] else fl) = List.replicate (dd (ks.take (i + 1))).length (0 : Int) := by
          rw [hdi, insK_length, ← hfl]
          cases insN 100 (dd (ks.take i)) z.2.1
          · simp
          · simp [List.replicate_succ']
        rw [← hdi, hfl2, insE_ok hc] at hin
        rw [← hdi] at t'
        simp only [hzz]
        refine bcallT_closed hin rfl ?_
        simp
        refine ⟨(i + 1, s'), ⟨by simp; omega, t'⟩, by simp <;> omega, [0], ?_⟩
        simp
        exact wrap_id (by omega) (by omega)
      · have hil : i = ks.length := by omega
        subst hil
        rw [List.take_length] at ht hdl hfl
        simp only [List.take_length]
        generalize hK : dd ks = K at ht hdl hfl ⊢
        have hc : (K.length : Int) < 100 := by omega
        have hn0 := insN_old (key := y1) hc
        obtain ⟨sa, ta, ia⟩ := ins_any 100 ht fl (by omega) y1 hb1 (by omega) (by omega)
        have ia := ia false
        have m1 : y1 ∈ insK 100 K y1 := (mem_insK hc).2 (.inr rfl)
        have hlk := insK_length (cap := 100) (keys := K) (key := y1)
        have hfl2 : (if insN 100 K y1 = true then fl ++ [0] else fl) = List.replicate (insK 100 K y1).length (0 : Int) := by
          rw [hlk, ← hfl]
          cases insN 100 K y1
          · simp
          · simp [List.replicate_succ']
        rw [hfl2, insE_ok hc, hn0] at ia
        have hxl : idx (insK 100 K y1) y1 < (List.replicate (insK 100 K y1).length (0 : Int)).length := by simp; exact idx_lt m1
        have st := set_any 100 ta (List.replicate (insK 100 K y1).length 0) y1 (by simp; have := (insN 100 K y1).toNat_le; omega) hb1 (by omega) false F hF2 m1 hxl
        have g1 := get_any 100 ta (List.replicate (insK 100 K y1).length 0) y1 hb1 (by omega) false F hF2 m1 hxl
        have hx2 : ∀ v : Int, idx (insK 100 K y1) y1 < ((List.replicate (insK 100 K y1).length (0 : Int)).set (idx (insK 100 K y1) y1) v).length := fun v => by simp; exact idx_lt m1
        have g2 := get_any 100 ta _ y1 hb1 (by omega) false F hF2 m1 (hx2 (bitsI .or .u8 ((List.replicate (insK 100 K y1).length (0 : Int))[idx (insK 100 K y1) y1]) (bitOf F)))
        have g3 := get_any 100 ta _ y1 hb1 (by omega) false (1 - F) (by omega) m1 (hx2 (bitsI .or .u8 ((List.replicate (insK 100 K y1).length (0 : Int))[idx (insK 100 K y1) y1]) (bitOf F)))
        have e0 : ∀ F : Int, F = 0 ∨ F = 1 → bitsI .and .u8 0 (bitOf F) = 0 ∧ bitsI .and .u8 (bitsI .or .u8 0 (bitOf F)) (bitOf F) ≠ 0 ∧ bitsI .and .u8 (bitsI .or .u8 0 (bitOf F)) (bitOf (1 - F)) = 0 := by
          rintro F (rfl | rfl) <;> decide
        obtain ⟨e1, e2, e3⟩ := e0 F hF2
        simp only [List.getElem_replicate, List.getElem_set_self, e1, e2, e3, ne_eq, not_true_eq_false, not_false_eq_true, decide_true, decide_false] at st g1 g2 g3
        generalize hfx : List.replicate (insK 100 K y1).length (0 : Int) = fx at *
        generalize hfy : fx.set (idx (insK 100 K y1) y1) (bitsI .or .u8 0 (bitOf F)) = fy at *
        have mem := member_any 100 ht fl y1 hb1 (by omega) false
        have mm := many_any 100 K s fl
        have hw : IntKind.i64.wrap (1 - F) = 1 - F := wrap_id (by omega) (by omega)
        refine callT_plain mem rfl rfl ?_
        simp
        refine callT_plain mm rfl rfl ?_
        simp
        refine callT_closed ia rfl ?_
        simp [hF]
        refine callT_closed st rfl ?_
        simp
        refine callT_plain g1 rfl rfl ?_
        simp
        refine callT_plain g2 rfl rfl ?_
        simp [hw]
        refine callT_plain g3 rfl rfl ?_
        simp
        refine callT_plain mem rfl rfl ?_
        simp
        refine callT_plain mm rfl rfl ?_
        simp
  · simp [hf]

end Go.Proofs.Ytadpjaolnkliiaa
