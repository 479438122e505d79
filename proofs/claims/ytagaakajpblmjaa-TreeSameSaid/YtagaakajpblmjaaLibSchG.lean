/- Vectors as bytes, by their ranges: the vector of bytes. -/
import Derived.Test.YtagaakajpblmjaaLibSchF
namespace Lg
open Go
def decL (B : List Int) : List (Int × Int) → Nat → List Int
  | [], _ => []
  | z :: s, a => (z.1 + (numOf (segB B a (widF z)) : Int)) :: decL B s (a + widF z)
def decV (s : List (Int × Int)) (B : List Int) : List Int × Int := if B.length = bytesS s ∧ inV s (decL B s 0) = 0 ∧ encB s (decL B s 0) = B then (decL B s 0, 0) else ([], 2)
theorem decL_length {B : List Int} : ∀ {s : List (Int × Int)} {a : Nat}, (decL B s a).length = s.length
  | [], _ => rfl
  | _ :: s, _ => by simp [decL, decL_length (s := s)]
theorem decL_append {B : List Int} {z : Int × Int} : ∀ {s : List (Int × Int)} {a : Nat}, decL B (s ++ [z]) a = decL B s a ++ [z.1 + (numOf (segB B (a + bitsS s) (widF z)) : Int)]
  | [], a => by simp [decL, bitsS]
  | y :: s, a => by
    simp only [List.cons_append, decL, decL_append (s := s), bitsS, List.map_cons, List.sum_cons, Nat.add_assoc]
theorem decL_snoc {B : List Int} {s : List (Int × Int)} {i : Nat} {z : Int × Int} (h : s[i]? = some z) : decL B (s.take (i + 1)) 0 = decL B (s.take i) 0 ++ [z.1 + (numOf (segB B (bitsS (s.take i)) (widF z)) : Int)] := by
  rw [List.take_add_one, h]
  simp [decL_append]
theorem bits_bytes {s : List (Int × Int)} : bitsS s ≤ 8 * bytesS s := by unfold bytesS; omega
theorem bitsS_mono {s : List (Int × Int)} {i : Nat} : bitsS (s.take i) ≤ bitsS s := by
  have : bitsS s = bitsS (s.take i) + bitsS (s.drop i) := by
    unfold bitsS
    rw [← List.sum_append, ← List.map_append, List.take_append_drop]
  omega
def decO (n : Nat) (v : List Int) (i : Nat) : L := if i = 0 then nilL else if i = n then vecL v else .view 1 1 0 i false
def decH (B : List Int) (n : Nat) (v : List Int) (i : Nat) : Heap := if i = 0 ∨ i = n then [some [bytL B, intL (8 * B.length : Nat)]] else [some [bytL B, intL (8 * B.length : Nat)], some (v.map fun z => intL z)]
def decT (n : Nat) (v : List Int) (i : Nat) : L := if i = 0 then nilL else if i = n then vecL v else .view 1 0 0 i false
def decTH (n : Nat) (v : List Int) (i : Nat) : Heap := if i = 0 ∨ i = n then [] else [some (v.map fun z => intL z)]
theorem dec_gen {P : Program} {f byt b e w bw take enc eq : Nat} (ir : compF P f = some (irSDec byt e w take enc eq)) (irB : compF P byt = some (irSBytes b)) (irBt : compF P b = some (irSBits e w)) (ire : compF P e = some irSEachI) (irw : compF P w = some (irSWide bw)) (irb : compF P bw = some irBWide) (htake : TakeC P take) (ireq : compF P eq = some irEqual)
    {s : List (Int × Int)} (B : List Int) (hb : ∀ z ∈ B, isByte z) (hs1 : 1 ≤ s.length) (hs : s.length ≤ 1000) (hm : ∀ z ∈ s, mayP z) (hB : B.length ≤ 1000000)
    (henc : ∀ v, v.length ≤ 1000 → PC P enc [fldsL s, vecL v] (.tup [bytL (encV s v).1, intL (encV s v).2])) : PC P f [fldsL s, bytL B] (.tup [vecL (decV s B).1, intL (decV s B).2]) := by
  have hbS := bitsS_le hm
  refine pc_of_call' (callAt_enter ir (by simp [irSDec]) ?_)
  have hBy := bytes_gen irB irBt ire irw irb hs hm
  simp [irSDec]
  refine callT_closed hBy (by simp) ?_
  by_cases hl : B.length = bytesS s
  rotate_left
  · have hl' : ¬ (B.length : Int) = (bytesS s : Int) := by omega
    rw [show decV s B = ([], 2) by rw [decV, if_neg (fun h => hl h.1)]]
    simp [hl']
    exact sub_tup1 (.nil _ _)
  have h8 : IntKind.i64.wrap (8 * (B.length : Int)) = ((8 * B.length : Nat) : Int) := by rw [wrap_id (by omega) (by omega)]; simp
  have hB2 : B.length ≤ 2001 := by rw [hl, bytesS]; omega
  obtain ⟨N, hN⟩ : ∃ N, N = 8 * B.length := ⟨_, rfl⟩
  rw [← hN] at h8
  simp [← hl, h8]
  refine callT_closed (eachW ire irw irb hs hm) (by simp) ?_
  simp
  refine lwp_loopF (fun i : Nat => [(0, fldsL s), (1, bytL B), (4, nilL), (5, intL 0), (6, .ptr 0 0), (7, intL (bitsS (s.take i))), (8, decO s.length (decL B (s.take i) 0) i), (26, .sl 1 false (s.map fun z => intL (widF z))), (27, intL s.length), (28, intL i)]) (fun i => decH B s.length (decL B (s.take i) 0) i) (fun i => s.length - i) (fun i => i ≤ s.length) 0 (by simp) [] ⟨[0], by simp [decH, decO, bitsS, Function.comp_def, hN]⟩ ?_
  intro i hi
  by_cases h : i < s.length
  · obtain ⟨z, hz⟩ : ∃ z, s[i]? = some z := ⟨_, List.getElem?_eq_getElem h⟩
    have hg : s[i] = z := by simpa [h] using hz
    have hzm := hm z (List.mem_of_getElem? hz)
    have hw := widF_le hzm
    have hsn := bitsS_snoc hz
    have hmono := bitsS_mono (s := s) (i := i + 1)
    have hbb := bits_bytes (s := s)
    obtain ⟨a, ha⟩ : ∃ a, a = bitsS (s.take i) := ⟨_, rfl⟩
    obtain ⟨a', ha'⟩ : ∃ a', a' = bitsS (s.take (i + 1)) := ⟨_, rfl⟩
    rw [← ha, ← ha'] at hsn
    rw [← ha'] at hmono
    obtain ⟨n, hn⟩ : ∃ n, n = numOf (segB B a (widF z)) := ⟨_, rfl⟩
    have hn16 : n < 65536 := by
      have h1 := numOf_lt (segB B a (widF z))
      rw [segB_length, ← hn] at h1
      exact Nat.lt_of_lt_of_le h1 (Nat.le_trans (Nat.pow_le_pow_right (by omega) hw) (by decide))
    have htk := htake B N a (widF z) hb hN (by omega) (by omega) (by omega)
    rw [← hn] at htk
    have hdn := decL_snoc (B := B) hz
    rw [← ha, ← hn] at hdn
    obtain ⟨v, hv⟩ : ∃ v, v = decL B (s.take i) 0 := ⟨_, rfl⟩
    have hvl : v.length = i := by rw [hv, decL_length]; simp; omega
    rw [← hv] at hdn
    have hc : IntKind.i64.wrap (n : Int) = (n : Int) := wrap_id (by omega) (by omega)
    obtain ⟨m1, m2, m3, m4⟩ := hzm
    have hadd : IntKind.i64.wrap (z.1 + (n : Int)) = z.1 + (n : Int) := IntWalk.i64_in _ ⟨by omega, by omega⟩
    have hat : IntKind.i64.wrap ((a : Int) + (widF z : Int)) = (a' : Int) := by rw [hsn, wrap_id (by omega) (by omega)]; simp
    by_cases i0 : i = 0
    · have v0 : v = [] := by rw [hv, i0]; rfl
      subst i0
      have a0 : a = 0 := by rw [ha]; rfl
      rw [a0] at htk hat
      simp [h, hg, decH, decO, ← hN, show bitsS [] = 0 from rfl]
      refine callT_closed htk (by simp) ?_
      simp at hat
      simp [h, hg, hc, hadd, hat]
      by_cases hlast : 1 = s.length
      · have hdn' : decL B s 0 = [z.1 + (n : Int)] := by
          rw [v0, Nat.zero_add, hlast, List.take_length] at hdn
          exact hdn
        have ha2 : a' = bitsS s := by rw [ha', Nat.zero_add, hlast, List.take_length]
        refine ⟨1, by omega, by simp only; omega, [2], [0], ?_⟩
        simp [decH, decO, hdn', ← ha2, ← hN, i64w1, ← hlast, frzE, frzH, frzRow, frz]
      · exact ⟨1, by omega, by simp only; omega, [], [0, 2], by simp [decH, decO, hdn, v0, ← hN, ← ha', i64w1, hlast]⟩
    · simp [h, hg, decH, decO, i0, show i ≠ s.length by omega, ← hN, ← ha, ← hv]
      refine callT_closed htk (by simp) ?_
      simp [h, hg, hc, hadd, hat, hvl, suc64 (show i ≤ 281474976710656 by omega)]
      refine ⟨by omega, ?_⟩
      by_cases hlast : i + 1 = s.length
      · have hdn' : decL B s 0 = v ++ [z.1 + (n : Int)] := by
          rw [hlast, List.take_length] at hdn
          exact hdn
        have ha2 : a' = bitsS s := by rw [ha', hlast, List.take_length]
        have s0' : s ≠ [] := fun e => by rw [e] at h; simp at h
        have hvs : s.length = v.length + 1 := by omega
        refine ⟨i + 1, by omega, by simp only; omega, [3], [0], ?_⟩
        simp [decH, decO, hdn', ← ha2, ← hN, hlast, s0', hvs, frzE, frzH, frzRow, frz]
        omega
      · exact ⟨i + 1, by omega, by simp only; omega, [], [0, 3], by simp [decH, decO, hdn, ← hN, ← ha', hlast]⟩
  · have e : i = s.length := by omega
    subst e
    have s0 : s.length ≠ 0 := by omega
    have s0' : s ≠ [] := fun e => s0 (by rw [e]; rfl)
    obtain ⟨v, hv⟩ : ∃ v, v = decL B s 0 := ⟨_, rfl⟩
    have hvl : v.length = s.length := by rw [hv, decL_length]
    have hE := henc v (by omega)
    simp [decH, decO, s0, s0', ← hN, ← hv]
    refine callT_closed hE (by simp) ?_
    by_cases h0 : inV s v = 0
    rotate_left
    · rw [show decV s B = ([], 2) by rw [decV, if_neg (fun h => h0 (by rw [hv]; exact h.2.1))]]
      simp [encV, h0]
      exact sub_tup1 (.nil _ _)
    simp [encV, h0]
    refine callT_plain (equal_gen ireq false false B (encB s v) hb encB_byte) rfl (by simp) ?_
    by_cases hEq : B = encB s v
    · rw [show decV s B = (v, 0) by rw [decV, if_pos ⟨hl, by rw [← hv]; exact h0, by rw [← hv]; exact hEq.symm⟩, hv]]
      simp [← hEq, hvl]
      exact .refl _
    · rw [show decV s B = ([], 2) by rw [decV, if_neg (fun h => hEq (by rw [hv]; exact h.2.2.symm))]]
      simp [hEq]
      exact sub_tup1 (.nil _ _)
theorem tdec_gen {P : Program} {f byt b w take enc : Nat} (ir : compF P f = some (irTDec byt w take enc)) (irB : compF P byt = some (irTBytes b)) (irBt : compF P b = some (irTBits w)) (irw : compF P w = some irTWide) (htake : TakeC P take)
    {s : List (Int × Int)} (B : List Int) (hb : ∀ z ∈ B, isByte z) (hs1 : 1 ≤ s.length) (hs : s.length ≤ 1000) (hm : ∀ z ∈ s, mayP z) (hB : B.length ≤ 1000000)
    (henc : ∀ v, v.length ≤ 1000 → PC P enc [fldsL s, vecL v] (.tup [bytL (encV s v).1, intL (encV s v).2])) : PC P f [fldsL s, bytL B] (.tup [vecL (decV s B).1, intL (decV s B).2]) := by
  have hbS := bitsS_le hm
  refine pc_of_call' (callAt_enter ir (by simp [irTDec]) ?_)
  have hBy := tbytes_gen irB irBt irw hs hm
  simp [irTDec]
  refine callT_closed hBy (by simp) ?_
  by_cases hl : B.length = bytesS s
  rotate_left
  · have hl' : ¬ (B.length : Int) = (bytesS s : Int) := by omega
    rw [show decV s B = ([], 2) by rw [decV, if_neg (fun h => hl h.1)]]
    simp [hl']
    exact sub_tup1 (.nil _ _)
  have h8 : IntKind.i64.wrap (8 * (B.length : Int)) = ((8 * B.length : Nat) : Int) := by rw [wrap_id (by omega) (by omega)]; simp
  have hB2 : B.length ≤ 2001 := by rw [hl, bytesS]; omega
  obtain ⟨N, hN⟩ : ∃ N, N = 8 * B.length := ⟨_, rfl⟩
  rw [← hN] at h8
  simp [← hl]
  refine lwp_loopF (fun i : Nat => [(0, fldsL s), (1, bytL B), (4, nilL), (5, intL 0), (6, intL (bitsS (s.take i))), (7, decT s.length (decL B (s.take i) 0) i), (8, intL i)]) (fun i => decTH s.length (decL B (s.take i) 0) i) (fun i => s.length - i) (fun i => i ≤ s.length) 0 (by simp) [] ⟨[], by simp [decTH, decT, bitsS]⟩ ?_
  intro i hi
  by_cases h : i < s.length
  · obtain ⟨z, hz⟩ : ∃ z, s[i]? = some z := ⟨_, List.getElem?_eq_getElem h⟩
    have hg : s[i] = z := by simpa [h] using hz
    have hzm := hm z (List.mem_of_getElem? hz)
    have hw := widF_le hzm
    have hsn := bitsS_snoc hz
    have hmono := bitsS_mono (s := s) (i := i + 1)
    have hbb := bits_bytes (s := s)
    obtain ⟨a, ha⟩ : ∃ a, a = bitsS (s.take i) := ⟨_, rfl⟩
    obtain ⟨a', ha'⟩ : ∃ a', a' = bitsS (s.take (i + 1)) := ⟨_, rfl⟩
    rw [← ha, ← ha'] at hsn
    rw [← ha'] at hmono
    obtain ⟨n, hn⟩ : ∃ n, n = numOf (segB B a (widF z)) := ⟨_, rfl⟩
    have hn16 : n < 65536 := by
      have h1 := numOf_lt (segB B a (widF z))
      rw [segB_length, ← hn] at h1
      exact Nat.lt_of_lt_of_le h1 (Nat.le_trans (Nat.pow_le_pow_right (by omega) hw) (by decide))
    have htk := htake B N a (widF z) hb hN (by omega) (by omega) (by omega)
    rw [← hn] at htk
    have hdn := decL_snoc (B := B) hz
    rw [← ha, ← hn] at hdn
    obtain ⟨v, hv⟩ : ∃ v, v = decL B (s.take i) 0 := ⟨_, rfl⟩
    have hvl : v.length = i := by rw [hv, decL_length]; simp; omega
    rw [← hv] at hdn
    have hc : IntKind.i64.wrap (n : Int) = (n : Int) := wrap_id (by omega) (by omega)
    have htw := twide_gen irw hzm
    obtain ⟨m1, m2, m3, m4⟩ := hzm
    have hadd : IntKind.i64.wrap (z.1 + (n : Int)) = z.1 + (n : Int) := IntWalk.i64_in _ ⟨by omega, by omega⟩
    have hat : IntKind.i64.wrap ((a : Int) + (widF z : Int)) = (a' : Int) := by rw [hsn, wrap_id (by omega) (by omega)]; simp
    by_cases i0 : i = 0
    · have v0 : v = [] := by rw [hv, i0]; rfl
      subst i0
      have a0 : a = 0 := by rw [ha]; rfl
      rw [a0] at htk hat
      simp [h, hg, h8, decTH, decT, show bitsS [] = 0 from rfl]
      refine callT_closed htw (by simp) ?_
      simp
      refine callT_closed htk (by simp) ?_
      simp at hat
      simp [h, hg, hc, hadd]
      refine callT_closed htw (by simp) ?_
      simp [hat]
      by_cases hlast : 1 = s.length
      · have hdn' : decL B s 0 = [z.1 + (n : Int)] := by
          rw [v0, Nat.zero_add, hlast, List.take_length] at hdn
          exact hdn
        have ha2 : a' = bitsS s := by rw [ha', Nat.zero_add, hlast, List.take_length]
        refine ⟨1, by omega, by simp only; omega, [1], [], ?_⟩
        simp [decTH, decT, hdn', ← ha2, i64w1, ← hlast, frzE, frzH, frzRow, frz]
      · exact ⟨1, by omega, by simp only; omega, [], [1], by simp [decTH, decT, hdn, v0, ← ha', i64w1, hlast]⟩
    · simp [h, hg, h8, decTH, decT, i0, show i ≠ s.length by omega, ← ha, ← hv]
      refine callT_closed htw (by simp) ?_
      simp
      refine callT_closed htk (by simp) ?_
      simp [h, hg, hc, hadd, hvl]
      refine ⟨by omega, ?_⟩
      refine callT_closed htw (by simp) ?_
      simp [hat, suc64 (show i ≤ 281474976710656 by omega)]
      by_cases hlast : i + 1 = s.length
      · have hdn' : decL B s 0 = v ++ [z.1 + (n : Int)] := by
          rw [hlast, List.take_length] at hdn
          exact hdn
        have ha2 : a' = bitsS s := by rw [ha', hlast, List.take_length]
        have s0' : s ≠ [] := fun e => by rw [e] at h; simp at h
        have hvs : s.length = v.length + 1 := by omega
        refine ⟨i + 1, by omega, by simp only; omega, [2], [], ?_⟩
        simp [decTH, decT, hdn', ← ha2, hlast, s0', hvs, frzE, frzH, frzRow, frz]
        omega
      · exact ⟨i + 1, by omega, by simp only; omega, [], [2], by simp [decTH, decT, hdn, ← ha', hlast]⟩
  · have e : i = s.length := by omega
    subst e
    have s0 : s.length ≠ 0 := by omega
    have s0' : s ≠ [] := fun e => s0 (by rw [e]; rfl)
    obtain ⟨v, hv⟩ : ∃ v, v = decL B s 0 := ⟨_, rfl⟩
    have hvl : v.length = s.length := by rw [hv, decL_length]
    have hE := henc v (by omega)
    simp [decTH, decT, s0, s0', ← hv]
    refine callT_closed hE (by simp) ?_
    by_cases h0 : inV s v = 0
    rotate_left
    · rw [show decV s B = ([], 2) by rw [decV, if_neg (fun h => h0 (by rw [hv]; exact h.2.1))]]
      simp [encV, h0]
      exact sub_tup1 (.nil _ _)
    have hi2 := u8s_inj (A := encB s v) (B := B) encB_byte hb
    unfold u8s at hi2
    by_cases hEq : encB s v = B
    · rw [show decV s B = (v, 0) by rw [decV, if_pos ⟨hl, by rw [← hv]; exact h0, by rw [← hv]; exact hEq⟩, hv]]
      simp [encV, h0, hi2, hEq]
      exact .refl _
    · rw [show decV s B = ([], 2) by rw [decV, if_neg (fun h => hEq (by rw [hv]; exact h.2.2))]]
      simp [encV, h0, hi2, hEq]
      exact sub_tup1 (.nil _ _)
end Lg
