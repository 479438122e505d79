/- Vectors as bytes, by their ranges: a vector's bytes. -/
import Derived.Test.YtagaakajpblmjaaLibSchC
namespace Lg
open Go
theorem setCells_pad {x : L} : ∀ {ys a : List L} {m o : Nat}, ys.length ≤ m → o = a.length → setCells (a ++ List.replicate m x) o ys = a ++ ys ++ List.replicate (m - ys.length) x
  | [], a, m, o, _, _ => by simp [setCells]
  | y :: ys, a, m, o, h, ho => by
    obtain ⟨k, rfl⟩ : ∃ k, m = k + 1 := ⟨m - 1, by simp at h; omega⟩
    rw [setCells, List.set_append_right _ _ (by omega), ho, Nat.sub_self, List.replicate_succ, List.set_cons_zero, show a ++ y :: List.replicate k x = (a ++ [y]) ++ List.replicate k x by simp]
    rw [setCells_pad (x := x) (ys := ys) (a := a ++ [y]) (m := k) (by simp at h; omega) (by simp)]
    simp
def cellN (p : (Int × Int) × Int) : List Bool := numB (p.2 - p.1.1).toNat (widF p.1)
def encL (s : List (Int × Int)) (v : List Int) : List Bool := ((s.zip v).map cellN).flatten
def encB (s : List (Int × Int)) (v : List Int) : List Int := pk (encL s v) ++ List.replicate (bytesS s - (pk (encL s v)).length) 0
def encV (s : List (Int × Int)) (v : List Int) : List Int × Int := if inV s v = 0 then (encB s v, 0) else ([], inV s v)
theorem take_zip {α β : Type} {s : List α} {v : List β} {i : Nat} : (s.take i).zip (v.take i) = (s.zip v).take i := by rw [List.zip_eq_zipWith, List.zip_eq_zipWith, List.take_zipWith]
theorem encL_snoc {s : List (Int × Int)} {v : List Int} {i : Nat} {z : Int × Int} {n : Int} (h : s[i]? = some z) (k : v[i]? = some n) : encL (s.take (i + 1)) (v.take (i + 1)) = encL (s.take i) (v.take i) ++ numB (n - z.1).toNat (widF z) := by
  unfold encL
  rw [take_zip, take_zip, List.take_add_one, zip_get h k]
  simp [cellN]
theorem encL_length : ∀ {s : List (Int × Int)} {v : List Int}, v.length = s.length → (encL s v).length = bitsS s
  | [], [], _ => rfl
  | z :: s, n :: v, h => by
    have := encL_length (s := s) (v := v) (by simpa using h)
    simp only [encL, bitsS, List.zip_cons_cons, List.map_cons, List.flatten_cons, List.length_append, List.sum_cons, cellN, numB_length] at *
    omega
  | [], _ :: _, h => by simp at h
  | _ :: _, [], h => by simp at h
theorem inV_zero {s : List (Int × Int)} {v : List Int} : inV s v = 0 ↔ v.length = s.length ∧ inP s v := by
  unfold inV
  split
  · split <;> simp_all
  · simp_all
theorem encB_length {s : List (Int × Int)} {v : List Int} (h : v.length = s.length) : (encB s v).length = bytesS s := by
  simp [encB, encL_length h, bytesS]
  omega
theorem encB_byte {s : List (Int × Int)} {v : List Int} : ∀ z ∈ encB s v, isByte z := fun z hz => by
  rcases List.mem_append.1 hz with hz | hz
  · exact pk_byte z hz
  · rw [(List.mem_replicate.1 hz).2]; exact ⟨by omega, by omega⟩
def encH (e : List Bool) (i : Nat) : Heap := if i = 0 then [some [nilL, intL 0]] else [some [bytL (pk e), intL (e.length : Nat)]]
theorem nilP {P : Program} {f : Nat} {ls : List L} {r : L} (h : PC P f (pkbL [] :: ls) r) : PC P f (.agg [nilL, intL 0] :: ls) r := PC.sub h (.cons sub_agg2 (SubAll.refl _)) (.refl _)
theorem diff_u64 {z : Int × Int} {n : Int} (h : mayP z) (hn : z.1 ≤ n ∧ n ≤ z.2) : IntKind.u64.wrap (IntKind.i64.wrap (n - z.1)) = (((n - z.1).toNat : Nat) : Int) := by
  obtain ⟨h1, h2, h3, h4⟩ := h
  rw [wrap_id (by omega) (by omega)]
  simp [IntKind.wrap, IntKind.signed, IntKind.bits]
  omega
theorem enc_gen {P : Program} {f inn has e w bw put byt b : Nat} (ir : compF P f = some (irSEnc inn e w put byt)) (iri : compF P inn = some (irSIn has)) (irh : compF P has = some irSHas) (ire : compF P e = some irSEachI) (irw : compF P w = some (irSWide bw)) (irb : compF P bw = some irBWide) (irB : compF P byt = some (irSBytes b)) (irBt : compF P b = some (irSBits e w)) (hput : PutC P put) {s : List (Int × Int)} (v : List Int) (hs : s.length ≤ 1000) (hm : ∀ z ∈ s, mayP z) (hv : v.length ≤ 1000000) : PC P f [fldsL s, vecL v] (.tup [bytL (encV s v).1, intL (encV s v).2]) := by
  refine pc_of_call' (callAt_enter ir (by simp [irSEnc]) ?_)
  simp [irSEnc]
  refine callT_closed (in_gen iri irh s v (by omega) hv) (by simp) ?_
  by_cases h0 : inV s v = 0
  rotate_left
  · rw [show encV s v = ([], inV s v) by rw [encV, if_neg h0]]
    simp [h0]
    exact sub_tup1 (.nil _ _)
  obtain ⟨hlen, hin⟩ := inV_zero.1 h0
  rw [show encV s v = (encB s v, 0) by rw [encV, if_pos h0]]
  simp [h0]
  refine callT_closed (eachW ire irw irb hs hm) (by simp) ?_
  simp
  refine lwp_loop (fun i : Nat => [(0, fldsL s), (1, vecL v), (4, nilL), (5, intL 0), (7, .ptr 0 0), (18, .sl 1 false (s.map fun z => intL (widF z))), (19, intL s.length), (20, intL i)]) (fun i => encH (encL (s.take i) (v.take i)) i) (fun i => s.length - i) (fun i => i ≤ s.length) 0 (by simp) ⟨[0], by simp [encH, Function.comp_def]⟩ ?_
  intro i hi
  by_cases h : i < s.length
  · have hv' : i < v.length := by omega
    obtain ⟨z, hz⟩ : ∃ z, s[i]? = some z := ⟨_, List.getElem?_eq_getElem h⟩
    have hg : s[i] = z := by simpa [h] using hz
    obtain ⟨n, hn⟩ : ∃ n, v[i]? = some n := ⟨_, List.getElem?_eq_getElem hv'⟩
    have hgn : v[i] = n := by simpa [hv'] using hn
    have hzm := hm z (List.mem_of_getElem? hz)
    have hzn := hin _ (List.mem_of_getElem? (zip_get hz hn))
    simp only at hzn
    obtain ⟨d, hd⟩ : ∃ d, d = (n - z.1).toNat := ⟨_, rfl⟩
    have hd64 : d < 2 ^ 64 := by obtain ⟨m1, m2, m3, m4⟩ := hzm; omega
    have hdw : wid d ≤ widF z := (wid_le hd64).2 (by
      have := (wid_le (k := widF z) (n := (z.2 - z.1).toNat) (by obtain ⟨m1, m2, m3, m4⟩ := hzm; omega)).1 (Nat.le_refl _)
      omega)
    have hdu := diff_u64 hzm hzn
    rw [← hd] at hdu
    obtain ⟨a, ha⟩ : ∃ a, a = encL (s.take i) (v.take i) := ⟨_, rfl⟩
    obtain ⟨a', ha'⟩ : ∃ a', a' = encL (s.take (i + 1)) (v.take (i + 1)) := ⟨_, rfl⟩
    have hal : a.length ≤ 16 * i := by
      rw [ha, encL_length (by simp; omega)]
      have := bitsS_le (s := s.take i) (fun y hy => hm y (List.mem_of_mem_take hy))
      simp at this
      omega
    have hsn := encL_snoc hz hn
    rw [← ha, ← ha', ← hd] at hsn
    have hw := widF_le hzm
    have hp := hput a d (widF z) (by omega) hd64 (by omega) hdw
    rw [← hsn] at hp
    by_cases i0 : i = 0
    · have a0 : a = [] := by rw [ha, i0]; rfl
      rw [a0] at hp
      subst i0
      simp [h, hv', hg, hgn, hdu, encH]
      refine callT_closed (nilP hp) (by simp) ?_
      simp
      exact ⟨1, by omega, by simp only; omega, [0], by simp [← ha', i64w1]⟩
    · simp [h, hv', hg, hgn, hdu, encH, i0, ← ha]
      refine callT_closed hp (by simp) ?_
      simp [suc64 (show i ≤ 281474976710656 by omega)]
      exact ⟨i + 1, by omega, by simp only; omega, [0], by simp [← ha']⟩
  · have e : i = s.length := by omega
    subst e
    have hlE : (encL s v).length = bitsS s := encL_length hlen
    have hbS := bitsS_le hm
    obtain ⟨m, hmB⟩ : ∃ m, m = bytesS s := ⟨_, rfl⟩
    have hBy := bytes_gen irB irBt ire irw irb hs hm
    rw [← hmB] at hBy
    have hm1 : 1 ≤ m ∧ m ≤ 2001 ∧ (pk (encL s v)).length ≤ m := by rw [hmB, bytesS, pk_length, hlE]; omega
    by_cases s0 : s.length = 0
    · have es : s = [] := List.length_eq_zero_iff.1 s0
      have ev : v = [] := List.length_eq_zero_iff.1 (by omega)
      subst es ev
      simp [encH]
      refine callT_closed hBy (by simp) ?_
      have : m = 1 := by rw [hmB]; decide
      subst this
      simp
      rw [show encB [] [] = [0] by decide +kernel]
      exact sub_tup1 (.clip 1 _)
    have v0 : v ≠ [] := fun e => s0 (by rw [← hlen, e]; rfl)
    simp [encH, s0, v0, ← hlen]
    refine callT_closed hBy (by simp) ?_
    have hm2 : (m : Int) ≤ 281474976710656 := by omega
    have hm3 : (m : Int) ≤ 9223372036854775807 := by omega
    have hset : setCells (List.replicate m (L.v (Value.int IntKind.u8 0))) 0 (List.take (min (((encL s v).length + 7) / 8) m) (List.map (fun z => u8L z) (pk (encL s v)))) = (encB s v).map fun z => u8L z := by
      have hq : ((encL s v).length + 7) / 8 ≤ m := by have := hm1.2.2; rw [pk_length] at this; exact this
      rw [List.take_of_length_le (by simp; omega)]
      rw [show (List.replicate m (L.v (Value.int IntKind.u8 0))) = [] ++ List.replicate m (L.v (Value.int IntKind.u8 0)) from rfl, setCells_pad (a := []) (o := 0) (by simp; omega) rfl]
      simp [encB, ← hmB]
    have hEl : (encB s v).length = m := by rw [encB_length hlen, hmB]
    simp [hm2, hm3, hset, hEl]
    exact sub_tup1 (.clip 1 _)
def padB (B : List Int) (k : Nat) : List Int := B ++ List.replicate k 0
theorem padB_succ {B : List Int} {k : Nat} : padB B (k + 1) = padB B k ++ [0] := by rw [padB, padB, List.replicate_succ', List.append_assoc]
theorem tenc_gen {P : Program} {f inn w put byt b : Nat} (ir : compF P f = some (irTEnc inn w put byt)) (iri : compF P inn = some irTIn) (irw : compF P w = some irTWide) (irB : compF P byt = some (irTBytes b)) (irBt : compF P b = some (irTBits w)) (hput : PutC P put) {s : List (Int × Int)} (v : List Int) (hs : s.length ≤ 1000) (hm : ∀ z ∈ s, mayP z) (hv : v.length ≤ 1000000) : PC P f [fldsL s, vecL v] (.tup [bytL (encV s v).1, intL (encV s v).2]) := by
  refine pc_of_call' (callAt_enter ir (by simp [irTEnc]) ?_)
  simp [irTEnc]
  refine callT_closed (tin_gen iri s v (by omega) hv) (by simp) ?_
  by_cases h0 : inV s v = 0
  rotate_left
  · rw [show encV s v = ([], inV s v) by rw [encV, if_neg h0]]
    simp [h0]
    exact sub_tup1 (.nil _ _)
  obtain ⟨hlen, hin⟩ := inV_zero.1 h0
  rw [show encV s v = (encB s v, 0) by rw [encV, if_pos h0]]
  simp [h0]
  refine lwp_loop (fun i : Nat => [(0, fldsL s), (1, vecL v), (4, nilL), (5, intL 0), (7, .ptr 0 0), (8, intL i)]) (fun i => encH (encL (s.take i) (v.take i)) i) (fun i => s.length - i) (fun i => i ≤ s.length) 0 (by simp) ⟨[0], by simp [encH]⟩ ?_
  intro i hi
  by_cases h : i < s.length
  · have hv' : i < v.length := by omega
    obtain ⟨z, hz⟩ : ∃ z, s[i]? = some z := ⟨_, List.getElem?_eq_getElem h⟩
    have hg : s[i] = z := by simpa [h] using hz
    obtain ⟨n, hn⟩ : ∃ n, v[i]? = some n := ⟨_, List.getElem?_eq_getElem hv'⟩
    have hgn : v[i] = n := by simpa [hv'] using hn
    have hzm := hm z (List.mem_of_getElem? hz)
    have hzn := hin _ (List.mem_of_getElem? (zip_get hz hn))
    simp only at hzn
    obtain ⟨d, hd⟩ : ∃ d, d = (n - z.1).toNat := ⟨_, rfl⟩
    have hd64 : d < 2 ^ 64 := by obtain ⟨m1, m2, m3, m4⟩ := hzm; omega
    have hdw : wid d ≤ widF z := (wid_le hd64).2 (by
      have := (wid_le (k := widF z) (n := (z.2 - z.1).toNat) (by obtain ⟨m1, m2, m3, m4⟩ := hzm; omega)).1 (Nat.le_refl _)
      omega)
    have hdu := diff_u64 hzm hzn
    rw [← hd] at hdu
    obtain ⟨a, ha⟩ : ∃ a, a = encL (s.take i) (v.take i) := ⟨_, rfl⟩
    obtain ⟨a', ha'⟩ : ∃ a', a' = encL (s.take (i + 1)) (v.take (i + 1)) := ⟨_, rfl⟩
    have hal : a.length ≤ 16 * i := by
      rw [ha, encL_length (by simp; omega)]
      have := bitsS_le (s := s.take i) (fun y hy => hm y (List.mem_of_mem_take hy))
      simp at this
      omega
    have hsn := encL_snoc hz hn
    rw [← ha, ← ha', ← hd] at hsn
    have hw := widF_le hzm
    have hp := hput a d (widF z) (by omega) hd64 (by omega) hdw
    rw [← hsn] at hp
    by_cases i0 : i = 0
    · have a0 : a = [] := by rw [ha, i0]; rfl
      rw [a0] at hp
      subst i0
      simp [h, hv', hg, hgn, hdu, encH]
      refine bcallT_closed (twide_gen irw hzm) (by simp) ?_
      simp
      refine bcallT_closed (nilP hp) (by simp) ?_
      simp
      exact ⟨1, by omega, by simp only; omega, [0], by simp [← ha', i64w1]⟩
    · simp [h, hv', hg, hgn, hdu, encH, i0, ← ha]
      refine bcallT_closed (twide_gen irw hzm) (by simp) ?_
      simp
      refine bcallT_closed hp (by simp) ?_
      simp [suc64 (show i ≤ 281474976710656 by omega)]
      exact ⟨i + 1, by omega, by simp only; omega, [0], by simp [← ha']⟩
  · have e : i = s.length := by omega
    subst e
    have hlE : (encL s v).length = bitsS s := encL_length hlen
    have hbS := bitsS_le hm
    obtain ⟨m, hmB⟩ : ∃ m, m = bytesS s := ⟨_, rfl⟩
    have hBy := tbytes_gen irB irBt irw hs hm
    rw [← hmB] at hBy
    obtain ⟨a, ha⟩ : ∃ a, a = encL s v := ⟨_, rfl⟩
    rw [← ha] at hlE
    have hm2 : m ≤ 2001 := by rw [hmB, bytesS]; omega
    obtain ⟨q, hq⟩ : ∃ q, q = (a.length + 7) / 8 := ⟨_, rfl⟩
    have hq' : q = (pk a).length := by rw [pk_length, hq]
    have hqm : q ≤ m := by rw [hmB, bytesS, hq, hlE]; omega
    by_cases s0 : s.length = 0
    · have es : s = [] := List.length_eq_zero_iff.1 s0
      have ev : v = [] := List.length_eq_zero_iff.1 (by omega)
      have a0 : a = [] := by rw [ha, es]; rfl
      have q0 : q = 0 := by rw [hq, a0]; rfl
      · rw [show encH (encL (s.take s.length) (v.take s.length)) s.length = [some [nilL, intL 0]] by simp [encH, s0]]
        simp [hlen]
        refine lwp_loop (fun j : Nat => [(0, fldsL s), (4, nilL), (5, intL 0), (11, .view 1 0 0 (q + j) false)]) (fun j => [some ((padB (pk a) j).map fun z => u8L z)]) (fun j => m - (q + j)) (fun j => q + j ≤ m) 0 (by omega) ⟨[2], by simp [padB, q0, a0, pk_nil]⟩ ?_
        intro j hj
        have hlj : (padB (pk a) j).length = q + j := by simp [padB, hq]
        by_cases hlt : q + j < m
        · simp
          refine callT_closed hBy (by simp) ?_
          have hlt' : (q : Int) + (j : Int) < (m : Int) := by omega
          have hap : (padB (pk a) (j + 1)).map (fun z => u8L z) = (padB (pk a) j).map (fun z => u8L z) ++ [u8L 0] := by rw [padB_succ]; simp
          simp [hlt', hlj, show q + j + 1 ≤ 70368744177664 by omega]
          exact ⟨j + 1, by omega, by simp only; omega, [2], by simp [hap]; omega⟩
        · simp
          refine callT_closed hBy (by simp) ?_
          have hlt' : ¬ (q : Int) + (j : Int) < (m : Int) := by omega
          have hE : encB s v = padB (pk a) j := by rw [encB, ← ha, ← hmB, ← hq', padB]; congr 2; omega
          simp [hlt', hlj, hE]
          exact .refl _
    · have v0 : v ≠ [] := fun e => s0 (by rw [← hlen, e]; rfl)
      · rw [show encH (encL (s.take s.length) (v.take s.length)) s.length = [some [bytL (pk a), intL (a.length : Nat)]] by simp [encH, s0, v0, ← hlen, ← ha]]
        simp [hlen, ← hq]
        refine ⟨by omega, ?_⟩
        refine lwp_loop (fun j : Nat => [(0, fldsL s), (4, nilL), (5, intL 0), (11, .view 1 0 0 (q + j) false)]) (fun j => [some ((padB (pk a) j).map fun z => u8L z)]) (fun j => m - (q + j)) (fun j => q + j ≤ m) 0 (by omega) ⟨[2], by simp [padB, hq]⟩ ?_
        intro j hj
        have hlj : (padB (pk a) j).length = q + j := by simp [padB, hq]
        by_cases hlt : q + j < m
        · simp
          refine callT_closed hBy (by simp) ?_
          have hlt' : (q : Int) + (j : Int) < (m : Int) := by omega
          have hap : (padB (pk a) (j + 1)).map (fun z => u8L z) = (padB (pk a) j).map (fun z => u8L z) ++ [u8L 0] := by rw [padB_succ]; simp
          simp [hlt', hlj, show q + j + 1 ≤ 70368744177664 by omega]
          exact ⟨j + 1, by omega, by simp only; omega, [2], by simp [hap]; omega⟩
        · simp
          refine callT_closed hBy (by simp) ?_
          have hlt' : ¬ (q : Int) + (j : Int) < (m : Int) := by omega
          have hE : encB s v = padB (pk a) j := by rw [encB, ← ha, ← hmB, ← hq', padB]; congr 2; omega
          simp [hlt', hlj, hE]
          exact .refl _
end Lg
