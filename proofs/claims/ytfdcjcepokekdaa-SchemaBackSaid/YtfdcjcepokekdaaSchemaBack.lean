/- What is encoded is decoded, as it was; what is decoded is encoded as those bytes; what isn't in its ranges is neither. -/
import Derived.Test.YtfdcjcepokekdaaSchemaTells
import Derived.Test.YtfdcjcepokekdaaLibSchM
namespace Go.Proofs.Ytfdcjcepokekdaa
open Go Lg

theorem schemaBack_any (y0 : List ((Int) × (Int))) (h0 : (∀ z ∈ y0, ((Lit.int .i64 z.1).wf = true) ∧ ((Lit.int .i64 z.2).wf = true)) ∧ y0.length * 16 ≤ 140737488351232) (y1 : List (Int)) (h1 : (∀ z ∈ y1, (Lit.int .i64 z).wf = true) ∧ y1.length * 8 ≤ 140737488351232) (y2 : List (Int)) (h2 : (∀ z ∈ y2, (Lit.int .u8 z).wf = true) ∧ y2.length * 1 ≤ 140737488351232) : PC Try.prog 4 [L.sl 2 false (y0.map fun (z : (Int) × (Int)) => .agg [L.v (.int .i64 z.1), L.v (.int .i64 z.2)]), L.sl 1 false (y1.map fun (z : Int) => L.v (.int .i64 z)), L.sl 1 false (y2.map fun (z : Int) => L.v (.int .u8 z))] (.v (.bool true)) := by
  have hb : ∀ z ∈ y2, isByte z := fun z hz => u8_wf (h2.1 z hz)
  refine pc_of_call (callAt_enter ir4 (by simp) ?_)
  simp
  refine callT_closed shown_any (by simp) ?_
  simp
  intro l0 l1 l2
  refine callT_closed (rightA_any y0 (by omega)) (by simp) ?_
  simp
  cases hr : rightS y0
  · simp
  obtain ⟨r1, r2, r3⟩ := rightS_iff.1 hr
  simp
  have hE := enc_any (s := y0) y1 (by omega) r3 (by omega)
  have hD := dec_any (s := y0) y2 hb r1 (by omega) r3 (by omega)
  have hI := in_any (s := y0) y1 (by omega) (by omega)
  by_cases hin : inV y0 y1 = 0
  · have hdx := dec_any (s := y0) (encB y0 y1) encB_byte r1 (by omega) r3 (by rw [encB_length (inV_zero.1 hin).1]; have := bitsS_le r3; unfold bytesS; omega)
    rw [dec_enc r3 hin] at hdx
    have hEl : (encB y0 y1).length = bytesS y0 := encB_length (inV_zero.1 hin).1
    rw [show encV y0 y1 = (encB y0 y1, 0) by rw [encV, if_pos hin]] at hE
    rw [hin] at hI
    refine callT_closed hE (by simp) ?_
    simp
    by_cases hok : (decV y0 y2).2 = 0
    · obtain ⟨d1, d2⟩ := dec_ok hok
      obtain ⟨p, hp⟩ : ∃ p, p = (decV y0 y2).1 := ⟨_, rfl⟩
      have hpl : p.length ≤ 40 := by have := (inV_zero.1 d1).1; rw [hp]; omega
      rw [← hp] at d1 d2 hD
      rw [hok] at hD
      have hE2 := enc_any (s := y0) p (by omega) r3 (by omega)
      rw [d2] at hE2
      refine callT_closed hD (by simp) ?_
      simp
      refine callT_closed hI (by simp) ?_
      simp
      refine callT_closed hE2 (by simp) ?_
      simp
      refine callT_closed hdx (by simp) ?_
      simp
      refine callT_closed (vecA_any y1 y1 (by omega)) (by simp) ?_
      simp
      refine callT_closed (bytes_any (s := y0) (by omega) r3) (by simp) ?_
      simp [hEl]
    · rw [dec_bad hok] at hD
      refine callT_closed hD (by simp) ?_
      simp
      refine callT_closed hI (by simp) ?_
      simp
      refine callT_closed hdx (by simp) ?_
      simp
      refine callT_closed (vecA_any y1 y1 (by omega)) (by simp) ?_
      simp
      refine callT_closed (bytes_any (s := y0) (by omega) r3) (by simp) ?_
      simp [hEl]
  · rw [show encV y0 y1 = ([], inV y0 y1) by rw [encV, if_neg hin]] at hE
    refine callT_closed hE (by simp) ?_
    simp
    by_cases hok : (decV y0 y2).2 = 0
    · obtain ⟨d1, d2⟩ := dec_ok hok
      obtain ⟨p, hp⟩ : ∃ p, p = (decV y0 y2).1 := ⟨_, rfl⟩
      have hpl : p.length ≤ 40 := by have := (inV_zero.1 d1).1; rw [hp]; omega
      rw [← hp] at d1 d2 hD
      rw [hok] at hD
      have hE2 := enc_any (s := y0) p (by omega) r3 (by omega)
      rw [d2] at hE2
      refine callT_closed hD (by simp) ?_
      simp
      refine callT_closed hI (by simp) ?_
      simp [hin]
      refine callT_closed hE2 (by simp) ?_
      simp [hin]
    · rw [dec_bad hok] at hD
      refine callT_closed hD (by simp) ?_
      simp
      refine callT_closed hI (by simp) ?_
      simp [hin]

end Go.Proofs.Ytfdcjcepokekdaa
