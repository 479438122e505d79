/- Which ranges are right, how wide they are, which vectors are in them, and vectors as bytes, and back, are as the document says. -/
import Derived.Test.YtfdcjcepokekdaaSchemaShown
namespace Go.Proofs.Ytfdcjcepokekdaa
open Go Lg

theorem rightS_iff {s : List (Int × Int)} : rightS s = true ↔ 1 ≤ s.length ∧ s.length ≤ 17 ∧ ∀ z ∈ s, mayP z := by simp only [rightS, decide_eq_true_eq]

theorem schemaTells_any (y0 : List ((Int) × (Int))) (h0 : (∀ z ∈ y0, ((Lit.int .i64 z.1).wf = true) ∧ ((Lit.int .i64 z.2).wf = true)) ∧ y0.length * 16 ≤ 140737488351232) (y1 : List (Int)) (h1 : (∀ z ∈ y1, (Lit.int .i64 z).wf = true) ∧ y1.length * 8 ≤ 140737488351232) (y2 : List (Int)) (h2 : (∀ z ∈ y2, (Lit.int .u8 z).wf = true) ∧ y2.length * 1 ≤ 140737488351232) : PC Try.prog 3 [L.sl 2 false (y0.map fun (z : (Int) × (Int)) => .agg [L.v (.int .i64 z.1), L.v (.int .i64 z.2)]), L.sl 1 false (y1.map fun (z : Int) => L.v (.int .i64 z)), L.sl 1 false (y2.map fun (z : Int) => L.v (.int .u8 z))] (.v (.bool true)) := by
  have hb : ∀ z ∈ y2, isByte z := fun z hz => u8_wf (h2.1 z hz)
  refine pc_of_call (callAt_enter ir3 (by simp) ?_)
  simp
  refine callT_closed shown_any (by simp) ?_
  simp
  intro l0 l1 l2
  refine callT_closed (rightA_any y0 (by omega)) (by simp) ?_
  simp
  refine callT_closed (right_any y0 (by omega)) (by simp) ?_
  simp
  cases hr : rightS y0
  · simp
  obtain ⟨r1, r2, r3⟩ := rightS_iff.1 hr
  obtain ⟨z, s, rfl⟩ : ∃ z s, y0 = z :: s := by
    cases y0 with
    | nil => simp at r1
    | cons z s => exact ⟨z, s, rfl⟩
  obtain ⟨S, hS⟩ : ∃ S, S = z :: s := ⟨_, rfl⟩
  have hz := r3 z (by simp)
  simp
  refine callT_closed (enc_any (s := z :: s) y1 (by omega) r3 (by omega)) (by simp) ?_
  simp
  refine callT_closed (encA_any (s := z :: s) y1 (by omega) r3 (by omega)) (by simp) ?_
  simp
  refine callT_closed (dec_any (s := z :: s) y2 hb r1 (by omega) r3 (by omega)) (by simp) ?_
  simp
  refine callT_closed (decA_any (s := z :: s) y2 hb r1 (by omega) r3 (by omega)) (by simp) ?_
  simp
  refine bcallT_closed (wide_any hz) (by simp) ?_
  simp
  refine callT_closed (wideA_any hz) (by simp) ?_
  simp
  refine bcallT_closed (bits_any (s := z :: s) (by omega) r3) (by simp) ?_
  simp
  refine callT_closed (bitsA_any (s := z :: s) (by omega) r3) (by simp) ?_
  simp
  refine bcallT_closed (bytes_any (s := z :: s) (by omega) r3) (by simp) ?_
  simp
  refine callT_closed (bytesA_any (s := z :: s) (by omega) r3) (by simp) ?_
  simp
  refine bcallT_closed (in_any (s := z :: s) y1 (by omega) (by omega)) (by simp) ?_
  simp
  refine callT_closed (inA_any (s := z :: s) y1 (by omega) (by omega)) (by simp) ?_
  simp
  have hv : (decV (z :: s) y2).1.length ≤ 1000000 := by
    unfold decV
    split
    · simp only [decL_length]; omega
    · simp
  refine callT_closed (vecA_any _ _ hv) (by simp) ?_
  simp

end Go.Proofs.Ytfdcjcepokekdaa
