/- Two vectors of the same ranges are encoded alike just if they are the same; the lesser one, number by number, comes first, byte by byte. -/
import Derived.Test.YtfdcjcepokekdaaSchemaTells
import Derived.Test.YtfdcjcepokekdaaLibSchM
namespace Go.Proofs.Ytfdcjcepokekdaa
open Go Lg

theorem schemaAlike_any (y0 : List ((Int) × (Int))) (h0 : (∀ z ∈ y0, ((Lit.int .i64 z.1).wf = true) ∧ ((Lit.int .i64 z.2).wf = true)) ∧ y0.length * 16 ≤ 140737488351232) (y1 : List (Int)) (h1 : (∀ z ∈ y1, (Lit.int .i64 z).wf = true) ∧ y1.length * 8 ≤ 140737488351232) (y2 : List (Int)) (h2 : (∀ z ∈ y2, (Lit.int .i64 z).wf = true) ∧ y2.length * 8 ≤ 140737488351232) : PC Try.prog 5 [L.sl 2 false (y0.map fun (z : (Int) × (Int)) => .agg [L.v (.int .i64 z.1), L.v (.int .i64 z.2)]), L.sl 1 false (y1.map fun (z : Int) => L.v (.int .i64 z)), L.sl 1 false (y2.map fun (z : Int) => L.v (.int .i64 z))] (.v (.bool true)) := by
  refine pc_of_call (callAt_enter ir5 (by simp) ?_)
  simp
  refine callT_closed shown_any (by simp) ?_
  simp
  intro l0 l1 l2
  refine callT_closed (rightA_any y0 (by omega)) (by simp) ?_
  simp
  cases hr : rightS y0
  · simp
  obtain ⟨r1, r2, r3⟩ := rightS_iff.1 hr
  simp
  have hE := enc_any (s := y0) y1 (by omega) r3 (by omega)
  have hF := enc_any (s := y0) y2 (by omega) r3 (by omega)
  refine callT_closed hE (by simp) ?_
  simp
  refine callT_closed hF (by simp) ?_
  simp
  by_cases i1 : inV y0 y1 = 0
  rotate_left
  · simp [enc_code, i1]
  by_cases i2 : inV y0 y2 = 0
  rotate_left
  · simp [enc_code, i1, i2]
  obtain ⟨v1, v2⟩ := inV_zero.1 i1
  obtain ⟨w1, w2⟩ := inV_zero.1 i2
  have hless := encB_less r3 i1 i2
  have hsame := encB_same r3 i1 i2
  have hu := u8s_inj (A := encB y0 y1) (B := encB y0 y2) encB_byte encB_byte
  unfold u8s at hless hu
  rw [hsame] at hu
  have hlen : y1.length = y2.length := by omega
  rw [show encV y0 y1 = (encB y0 y1, 0) by rw [encV, if_pos i1], show encV y0 y2 = (encB y0 y2, 0) by rw [encV, if_pos i2]]
  simp [v1, w1]
  refine lwp_loop (fun x : Nat × Bool × Bool => [(1, vecL y1), (2, vecL y2), (7, boolL true), (8, bytL (encB y0 y1)), (10, bytL (encB y0 y2)), (12, boolL x.2.1), (13, boolL x.2.2), (14, intL x.1)]) (fun _ => []) (fun x => y1.length - x.1)
    (fun x => x.1 ≤ y1.length ∧ if x.2.2 = true then x.2.1 = false ∧ y1.take x.1 = y2.take x.1 ∧ lexV y1 y2 = lexV (y1.drop x.1) (y2.drop x.1) else lexV y1 y2 = x.2.1 ∧ y1 ≠ y2) (0, false, true) (by simp) ⟨[], by simp⟩ ?_
  rintro ⟨i, less, same⟩ ⟨hi, hinv⟩
  cases same with
  | false =>
    simp only [Bool.false_eq_true, if_false] at hinv
    obtain ⟨e1, e2⟩ := hinv
    simp [binStr_less, hless, hu, e1, e2]
  | true =>
    simp only [if_true] at hinv
    obtain ⟨e0, e1, e2⟩ := hinv
    subst e0
    by_cases h : i < y1.length
    · have hw' : i < y2.length := by omega
      have hs' : i < y0.length := by omega
      have hd := lexV_drop (v := y1) (w := y2) (i := i) (List.getElem?_eq_getElem h) (List.getElem?_eq_getElem hw')
      by_cases e : y1[i] = y2[i]
      · have hnext : y1.take (i + 1) = y2.take (i + 1) := by rw [List.take_succ_eq_append_getElem h, List.take_succ_eq_append_getElem hw', e1, e]
        rw [if_pos e] at hd
        simp [h, hw', hs', e, suc64 (show i ≤ 281474976710656 by omega)]
        exact ⟨(i + 1, false, true), ⟨by omega, by simp [hnext, e2, hd]⟩, by simp only; omega, [], by simp⟩
      · have hne : y1 ≠ y2 := fun e3 => e (by subst e3; rfl)
        rw [if_neg e] at hd
        simp [h, hw', hs', e, suc64 (show i ≤ 281474976710656 by omega)]
        exact ⟨(i + 1, decide (y1[i] < y2[i]), false), ⟨by omega, by simp [e2, hd, hne]⟩, by simp only; omega, [], by simp⟩
    · have ei : i = y1.length := by omega
      have hs' : ¬ i < y0.length := by omega
      have heq : y1 = y2 := by rwa [List.take_of_length_le (by omega), List.take_of_length_le (by omega)] at e1
      have hlx : lexV y1 y2 = false := by rw [e2, List.drop_of_length_le (by omega)]; rfl
      rw [heq] at hlx hless
      subst heq
      simp [h, hs', binStr_less, hless, hlx]

end Go.Proofs.Ytfdcjcepokekdaa
