/- Bits of vectors of two schemas, one behind the other, are the bits of one vector of both, but for the bits of 0 at the end. -/
import Derived.Test.YtfdcjcepokekdaaSchemaTells
import Derived.Test.YtfdcjcepokekdaaLibSchM
namespace Go.Proofs.Ytfdcjcepokekdaa
open Go Lg

set_option maxRecDepth 20000 in
theorem schemaJoins_any (y0 : (List ((Int) × (Int))) × (List ((Int) × (Int))) × (List (Int)) × (List (Int))) (h0 : ((∀ z ∈ y0.1, ((Lit.int .i64 z.1).wf = true) ∧ ((Lit.int .i64 z.2).wf = true)) ∧ y0.1.length * 16 ≤ 140737488351232) ∧ ((∀ z ∈ y0.2.1, ((Lit.int .i64 z.1).wf = true) ∧ ((Lit.int .i64 z.2).wf = true)) ∧ y0.2.1.length * 16 ≤ 140737488351232) ∧ ((∀ z ∈ y0.2.2.1, (Lit.int .i64 z).wf = true) ∧ y0.2.2.1.length * 8 ≤ 140737488351232) ∧ ((∀ z ∈ y0.2.2.2, (Lit.int .i64 z).wf = true) ∧ y0.2.2.2.length * 8 ≤ 140737488351232)) : PC Try.prog 8 [.agg [L.sl 2 false (y0.1.map fun (z : (Int) × (Int)) => .agg [L.v (.int .i64 z.1), L.v (.int .i64 z.2)]), L.sl 2 false (y0.2.1.map fun (z : (Int) × (Int)) => .agg [L.v (.int .i64 z.1), L.v (.int .i64 z.2)]), L.sl 1 false (y0.2.2.1.map fun (z : Int) => L.v (.int .i64 z)), L.sl 1 false (y0.2.2.2.map fun (z : Int) => L.v (.int .i64 z))]] (.v (.bool true)) := by
  obtain ⟨s, t, v, w⟩ := y0
  obtain ⟨hs0, ht0, hv0, hw0⟩ := h0
  simp only at *
  refine pc_of_call (callAt_enter ir8 (by simp) ?_)
  simp
  refine callT_closed shown_any (by simp) ?_
  simp
  intro l0 l1
  refine callT_closed (rightA_any s (by omega)) (by simp) ?_
  simp
  cases hr : rightS s
  · simp
  obtain ⟨r1, r2, r3⟩ := rightS_iff.1 hr
  simp
  refine callT_closed (rightA_any t (by omega)) (by simp) ?_
  simp
  cases hq : rightS t
  · simp
  obtain ⟨q1, q2, q3⟩ := rightS_iff.1 hq
  simp
  intro l2 l3
  have hE := enc_any (s := s) v (by omega) r3 (by omega)
  have hF := enc_any (s := t) w (by omega) q3 (by omega)
  have s0 : s ≠ [] := fun e => by rw [e] at r1; simp at r1
  have t0 : t ≠ [] := fun e => by rw [e] at q1; simp at q1
  refine callT_closed hE (by simp) ?_
  simp
  refine callT_closed hF (by simp) ?_
  simp [s0, t0, sum_fld, flat_fld, cellsF_append, cellsF_length]
  refine ⟨⟨by omega, solid_fld⟩, by omega, ⟨by omega, solid_fld⟩, ⟨by omega, by omega⟩, ?_⟩
  obtain ⟨st, hst⟩ : ∃ st, st = s ++ t := ⟨_, rfl⟩
  have hstl : s.length + t.length = st.length := by rw [hst]; simp
  rw [← hst, hstl]
  have hm : ∀ z ∈ st, mayP z := fun z hz => by
    rw [hst] at hz
    rcases List.mem_append.1 hz with hz | hz
    · exact r3 z hz
    · exact q3 z hz
  have hz : ∀ {H : Heap}, live H 3 = some (cellsF st) → frz H [3] (.view 2 3 0 st.length false) = fldsL st := fun e => frz_fld rfl e rfl
  obtain ⟨vw, hvw⟩ : ∃ vw, vw = v ++ w := ⟨_, rfl⟩
  have hvwl : v.length + w.length = vw.length := by rw [hvw]; simp
  have hz2 : ∀ {H : Heap}, live H 6 = some (vw.map fun z => intL z) → frz H [6] (.view 1 6 0 vw.length false) = vecL vw := fun e => frz_vec rfl e rfl
  by_cases i1 : inV s v = 0
  rotate_left
  · refine callT_let [3] (rightA_any st (by omega)) (by rw [List.map_cons, List.map_nil, hz rfl]) (by simp) ?_
    simp [frzE, frzH, frzRow, -frz_view, hz, enc_code, i1]
  by_cases i2 : inV t w = 0
  rotate_left
  · refine callT_let [3] (rightA_any st (by omega)) (by rw [List.map_cons, List.map_nil, hz rfl]) (by simp) ?_
    simp [frzE, frzH, frzRow, -frz_view, hz, enc_code, i1, i2]
  obtain ⟨v1, v2⟩ := inV_zero.1 i1
  obtain ⟨w1, w2⟩ := inV_zero.1 i2
  have v0 : v ≠ [] := fun e => by rw [e] at v1; simp at v1; omega
  have w0 : w ≠ [] := fun e => by rw [e] at w1; simp at w1; omega
  have i3 : inV st vw = 0 := by rw [hst, hvw]; exact inV_append i1 i2
  have hG := enc_any (s := st) vw (by omega) hm (by omega)
  rw [show encV st vw = (encB st vw, 0) by rw [encV, if_pos i3]] at hG
  rw [show encV s v = (encB s v, 0) by rw [encV, if_pos i1], show encV t w = (encB t w, 0) by rw [encV, if_pos i2]]
  have happ : (List.map (fun z => intL z) v ++ List.map (fun z => intL z) w) = vw.map fun z => intL z := by rw [hvw, List.map_append]
  refine callT_let [3] (rightA_any st (by omega)) (by rw [List.map_cons, List.map_nil, hz rfl]) (by simp) ?_
  simp [frzE, frzH, frzRow, -frz_view, hz, v0, w0, hvwl]
  intro _
  refine ⟨by omega, by omega, ?_⟩
  have hl6 : ∀ {a b c d e f : Option (List L)}, live [a, b, c, d, e, f, some (List.map (fun z => L.v (Value.int IntKind.i64 z)) v ++ List.map (fun z => L.v (Value.int IntKind.i64 z)) w)] 6 = some (vw.map fun z => intL z) := by intros; rw [← happ]; rfl
  refine callT_let [6] hG (by rw [List.map_cons, List.map_cons, List.map_nil, hz2 hl6]; rfl) (by simp) ?_
  simp [frzE, frzH, frzRow, -frz_view, hz2 hl6]
  have hbs := bitsS_le r3
  have hbt := bitsS_le q3
  have hbst : bitsS st = bitsS s + bitsS t := by rw [hst, bitsS_append]
  obtain ⟨n, hn⟩ : ∃ n, n = bitsS s := ⟨_, rfl⟩
  obtain ⟨m, hmm⟩ : ∃ m, m = bitsS t := ⟨_, rfl⟩
  obtain ⟨nm, hnm⟩ : ∃ nm, nm = bitsS st := ⟨_, rfl⟩
  have hnms : nm = n + m := by rw [hnm, hn, hmm, hbst]
  have cB := bits_any (s := s) (by omega) r3
  have dB := bits_any (s := t) (by omega) q3
  have eB := bits_any (s := st) (by omega) hm
  rw [← hn] at cB hbs
  rw [← hmm] at dB hbt
  rw [← hnm] at eB
  have hsum : IntKind.i64.wrap ((n : Int) + (m : Int)) = (nm : Int) := by rw [wrap_id (by omega) (by omega), hnms]; simp
  obtain ⟨A, hA⟩ : ∃ A, A = encB s v := ⟨_, rfl⟩
  obtain ⟨B, hB⟩ : ∃ B, B = encB t w := ⟨_, rfl⟩
  obtain ⟨C, hC⟩ : ∃ C, C = encB st vw := ⟨_, rfl⟩
  have hAl : A.length = bytesS s := by rw [hA]; exact encB_length v1
  have hBl : B.length = bytesS t := by rw [hB]; exact encB_length w1
  have hCl : C.length = bytesS st := by rw [hC]; exact encB_length (inV_zero.1 i3).1
  have hA8 : n ≤ 8 * A.length := by rw [hAl, hn]; exact bits_bytes
  have hB8 : m ≤ 8 * B.length := by rw [hBl, hmm]; exact bits_bytes
  have hC8 : nm ≤ 8 * C.length := by rw [hCl, hnm]; exact bits_bytes
  have hA2 : A.length ≤ 2001 := by rw [hAl, bytesS, ← hn]; omega
  have hB2 : B.length ≤ 2001 := by rw [hBl, bytesS, ← hmm]; omega
  have hC2 : C.length ≤ 2001 := by rw [hCl, bytesS, ← hnm]; omega
  have mA : ∀ z ∈ A, isByte z := by rw [hA]; exact encB_byte
  have mB : ∀ z ∈ B, isByte z := by rw [hB]; exact encB_byte
  have mC : ∀ z ∈ C, isByte z := by rw [hC]; exact encB_byte
  rw [← hA, ← hB, ← hC]
  have w1' : IntKind.i64.wrap ((A.length : Int) * 8) = (A.length : Int) * 8 := wrap_id (by omega) (by omega)
  have w2' : IntKind.i64.wrap ((B.length : Int) * 8) = (B.length : Int) * 8 := wrap_id (by omega) (by omega)
  have w3' : IntKind.i64.wrap ((C.length : Int) * 8) = (C.length : Int) * 8 := wrap_id (by omega) (by omega)
  have x1 : IntKind.i64.wrap (8 * (A.length : Int)) = 8 * (A.length : Int) := wrap_id (by omega) (by omega)
  have x2 : IntKind.i64.wrap (8 * (B.length : Int)) = 8 * (B.length : Int) := wrap_id (by omega) (by omega)
  have x3 : IntKind.i64.wrap (8 * (C.length : Int)) = 8 * (C.length : Int) := wrap_id (by omega) (by omega)
  refine callT_closed cB (by simp) ?_
  simp
  refine callT_closed dB (by simp) ?_
  simp
  refine callT_closed eB (by simp) ?_
  simp [hsum, w1', w2', w3', x1, x2, x3, show ¬ (C.length : Int) * 8 < (nm : Int) by omega, show ¬ (A.length : Int) * 8 < (n : Int) by omega, show ¬ (B.length : Int) * 8 < (m : Int) by omega]
  refine lwp_loop (fun i : Nat => [(2, boolL false), (7, boolL true), (15, intL n), (16, intL m), (17, .ptr 0 0), (18, .ptr 1 0), (19, .ptr 2 0), (20, intL i)]) (fun _ => [some [bytL C, intL (8 * (C.length : Int))], some [bytL A, intL (8 * (A.length : Int))], some [bytL B, intL (8 * (B.length : Int))]]) (fun i => nm - i) (fun i => i ≤ nm) 0 (by simp) ⟨[7, 8, 9], by simp⟩ ?_
  intro i hi
  by_cases h : i < nm
  · have h' : (i : Int) < (nm : Int) := by omega
    have bC := bitR_gen ir25 (N := 8 * (C.length : Int)) mC (show i < 8 * C.length by omega) (by omega)
    by_cases hin : i < n
    · have bA := bitR_gen ir25 (N := 8 * (A.length : Int)) mA (show i < 8 * A.length by omega) (by omega)
      have hbit : bitB C i = bitB A i := by rw [hC, hA, hst, hvw]; exact bit_left v1 (by rw [← hn]; exact hin)
      rw [hbit] at bC
      have hin' : (i : Int) < (n : Int) := by omega
      simp [hsum, h', hin']
      refine callT_closed bA (by simp) ?_
      simp
      refine callT_closed bC (by simp) ?_
      simp [suc64 (show i ≤ 281474976710656 by omega)]
      exact ⟨i + 1, by omega, by simp only; omega, [0, 1, 2], by simp⟩
    · have bB := bitR_gen ir25 (N := 8 * (B.length : Int)) mB (show i - n < 8 * B.length by omega) (by omega)
      have hbit : bitB C i = bitB B (i - n) := by rw [hC, hB, hst, hvw, hn]; exact bit_right v1 (by rw [← hn]; omega)
      rw [hbit] at bC
      have hin' : ¬ (i : Int) < (n : Int) := by omega
      obtain ⟨k, hk⟩ : ∃ k, k = i - n := ⟨_, rfl⟩
      have hsub : IntKind.i64.wrap ((i : Int) - (n : Int)) = (k : Int) := by rw [hk, wrap_id (by omega) (by omega)]; omega
      rw [← hk] at bB bC
      simp [hsum, h', hin', hsub]
      refine callT_closed bB (by simp) ?_
      simp
      refine callT_closed bC (by simp) ?_
      simp [suc64 (show i ≤ 281474976710656 by omega)]
      exact ⟨i + 1, by omega, by simp only; omega, [0, 1, 2], by simp⟩
  · have h' : ¬ (i : Int) < (nm : Int) := by omega
    simp [hsum, h']

end Go.Proofs.Ytfdcjcepokekdaa
