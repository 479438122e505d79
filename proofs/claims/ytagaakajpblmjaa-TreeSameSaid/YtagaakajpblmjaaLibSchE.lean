/- Vectors as bytes, by their ranges: which ranges are right, how many bits and bytes they have. -/
import Derived.Test.YtagaakajpblmjaaLibSchB
namespace Lg
open Go
def rightS (s : List (Int × Int)) : Bool := decide (1 ≤ s.length ∧ s.length ≤ 17 ∧ ∀ z ∈ s, mayP z)
def bitsS (s : List (Int × Int)) : Nat := (s.map widF).sum
def bytesS (s : List (Int × Int)) : Nat := max 1 ((bitsS s + 7) / 8)
theorem bitsS_snoc {s : List (Int × Int)} {i : Nat} {z : Int × Int} (h : s[i]? = some z) : bitsS (s.take (i + 1)) = bitsS (s.take i) + widF z := by
  unfold bitsS
  rw [List.take_add_one, h]
  simp
theorem bitsS_le : ∀ {s : List (Int × Int)}, (∀ z ∈ s, mayP z) → bitsS s ≤ 16 * s.length
  | [], _ => by simp [bitsS]
  | z :: s, h => by
    have := bitsS_le (s := s) (fun y hy => h y (by simp [hy]))
    have := widF_le (h z (by simp))
    simp only [bitsS, List.map_cons, List.sum_cons, List.length_cons] at *
    omega
theorem indexB_gen {P : Program} {f : Nat} (ir : compF P f = some irIndexB) {l : List Bool} {b : Bool} (hl : l.length ≤ 1000) : PC P f [flagsL l, boolL b] (intL (if b ∈ l then (l.idxOf b : Int) else -1)) := by
  refine pc_of_call (callAt_enter ir (by simp [irIndexB]) ?_)
  simp [irIndexB]
  refine lwp_loop (fun i : Nat => [(0, flagsL l), (1, boolL b), (7, intL l.length), (8, intL i)]) (fun _ => []) (fun i => l.length - i) (fun i => i ≤ l.length ∧ b ∉ l.take i) 0 (by simp) ⟨[], by simp⟩ ?_
  rintro i ⟨hi, hni⟩
  by_cases h : i < l.length
  · by_cases e : b = l[i]
    · have hm : b ∈ l := by rw [e]; exact List.getElem_mem h
      have hix : l.idxOf b = i := by
        have e2 : l = l.take i ++ b :: l.drop (i + 1) := by rw [e]; simp
        conv => lhs; rw [e2]
        rw [List.idxOf_append, if_neg hni, List.idxOf_cons_self]
        simp; omega
      simp [h, hm, hix, ← e]
    · have e' : (b == l[i]) = false := by simpa using e
      simp [h, e', suc64 (show i ≤ 281474976710656 by omega)]
      refine ⟨i + 1, ⟨by omega, fun hx => ?_⟩, by simp only; omega, [], by simp⟩
      rw [List.take_succ_eq_append_getElem h] at hx
      rcases List.mem_append.1 hx with hx | hx
      · exact hni hx
      · simp at hx; exact e hx
  · have hge : l.length ≤ i := by omega
    rw [List.take_of_length_le hge] at hni
    simp [h, hni]
theorem containsB_gen {P : Program} {f ix : Nat} (ir : compF P f = some (irContainsB ix)) (irx : compF P ix = some irIndexB) {l : List Bool} {b : Bool} (hl : l.length ≤ 1000) : PC P f [flagsL l, boolL b] (boolL (decide (b ∈ l))) := by
  refine pc_of_call (callAt_enter ir (by simp [irContainsB]) ?_)
  simp [irContainsB]
  refine callT_closed (indexB_gen irx hl) (by simp) ?_
  by_cases h : b ∈ l <;> simp [h]
theorem right_gen {P : Program} {f e m con ix : Nat} (ir : compF P f = some (irSRight e m con)) (ire : compF P e = some irSEachB) (irm : compF P m = some irSMay) (irc : compF P con = some (irContainsB ix)) (irx : compF P ix = some irIndexB) (s : List (Int × Int)) (hs : s.length ≤ 1000000) : PC P f [fldsL s] (boolL (rightS s)) := by
  refine pc_of_call (callAt_enter ir (by simp [irSRight]) ?_)
  by_cases h1 : 1 ≤ s.length
  rotate_left
  · have h1' : ¬ (1 : Int) ≤ (s.length : Int) := by omega
    simp [irSRight, rightS, h1, h1']
  by_cases h2 : s.length ≤ 17
  rotate_left
  · have h1' : (1 : Int) ≤ (s.length : Int) := by omega
    have h2' : ¬ (s.length : Int) ≤ 17 := by omega
    simp [irSRight, rightS, h1, h1', h2, h2']
  have h1' : (1 : Int) ≤ (s.length : Int) := by omega
  have h2' : (s.length : Int) ≤ 17 := by omega
  simp [irSRight, h1', h2']
  refine callT_closed (eachB_gen ire (fun z => decide (mayP z)) (g := m) (by omega) (fun z _ => may_gen irm z)) (by simp) ?_
  simp
  refine callT_closed (containsB_gen irc irx (b := false) (by simp; omega)) (by simp) ?_
  simp [rightS, h1, h2]
  rw [Bool.eq_iff_iff]
  simp
theorem eachW {P : Program} {e w bw : Nat} (ire : compF P e = some irSEachI) (irw : compF P w = some (irSWide bw)) (irb : compF P bw = some irBWide) {s : List (Int × Int)} (hs : s.length ≤ 1000) (hm : ∀ z ∈ s, mayP z) : PC P e [fldsL s, .fn (.func w) [] []] (vecL (s.map fun z => (widF z : Int))) :=
  eachI_gen ire (fun z => (widF z : Int)) (g := w) hs (fun z hz => wide_gen irw irb (hm z hz))
theorem bits_gen {P : Program} {f e w bw : Nat} (ir : compF P f = some (irSBits e w)) (ire : compF P e = some irSEachI) (irw : compF P w = some (irSWide bw)) (irb : compF P bw = some irBWide) {s : List (Int × Int)} (hs : s.length ≤ 1000) (hm : ∀ z ∈ s, mayP z) : PC P f [fldsL s] (intL (bitsS s)) := by
  refine pc_of_call (callAt_enter ir (by simp [irSBits]) ?_)
  simp [irSBits]
  refine callT_closed (eachW ire irw irb hs hm) (by simp) ?_
  simp
  refine lwp_loop (fun i : Nat => [(0, fldsL s), (3, intL (bitsS (s.take i))), (7, .sl 1 false (s.map fun z => intL (widF z))), (8, intL s.length), (9, intL i)]) (fun _ => []) (fun i => s.length - i) (fun i => i ≤ s.length) 0 (by simp) ⟨[], by simp [bitsS, Function.comp_def]⟩ ?_
  intro i hi
  by_cases h : i < s.length
  · obtain ⟨z, hz⟩ : ∃ z, s[i]? = some z := ⟨_, List.getElem?_eq_getElem h⟩
    have hg : s[i] = z := by simpa [h] using hz
    have hzm := hm z (List.mem_of_getElem? hz)
    have hb := bitsS_le (s := s.take i) (fun y hy => hm y (List.mem_of_mem_take hy))
    simp only [List.length_take] at hb
    have hw := widF_le hzm
    have hadd : IntKind.i64.wrap ((bitsS (s.take i) : Int) + (widF z : Int)) = (bitsS (s.take (i + 1)) : Int) := by
      rw [bitsS_snoc hz, wrap_id (by omega) (by omega)]; simp
    simp [h, hg, hadd, suc64 (show i ≤ 281474976710656 by omega)]
    exact ⟨i + 1, by omega, by simp only; omega, [], by simp⟩
  · have e : i = s.length := by omega
    subst e
    simp
theorem bytes_q {n : Nat} (h : n ≤ 1000000) : IntKind.i64.wrap ((IntKind.i64.wrap ((n : Int) + 7)).tdiv 8) = (((n + 7) / 8 : Nat) : Int) := by
  rw [show IntKind.i64.wrap ((n : Int) + 7) = ((n + 7 : Nat) : Int) by rw [wrap_id (by omega) (by omega)]; simp, show (((n + 7 : Nat) : Int)).tdiv 8 = (((n + 7) / 8 : Nat) : Int) from (Int.ofNat_tdiv _ _).symm, wrap_id (by omega) (by omega)]
theorem bytes_gen {P : Program} {f b e w bw : Nat} (ir : compF P f = some (irSBytes b)) (irB : compF P b = some (irSBits e w)) (ire : compF P e = some irSEachI) (irw : compF P w = some (irSWide bw)) (irb : compF P bw = some irBWide) {s : List (Int × Int)} (hs : s.length ≤ 1000) (hm : ∀ z ∈ s, mayP z) : PC P f [fldsL s] (intL (bytesS s)) := by
  have hb := bitsS_le hm
  obtain ⟨n, hn⟩ : ∃ n, n = bitsS s := ⟨_, rfl⟩
  obtain ⟨m, hmn⟩ : ∃ m, m = (n + 7) / 8 := ⟨_, rfl⟩
  have hB := bits_gen irB ire irw irb hs hm
  have hq := bytes_q (n := n) (by omega)
  rw [← hmn] at hq
  unfold bytesS
  rw [← hn] at hB ⊢
  rw [← hmn]
  refine pc_of_call (callAt_enter ir (by simp [irSBytes]) ?_)
  simp [irSBytes]
  refine callT_closed hB (by simp) ?_
  simp [hq]
  split <;> omega
theorem tbits_gen {P : Program} {f w : Nat} (ir : compF P f = some (irTBits w)) (irw : compF P w = some irTWide) {s : List (Int × Int)} (hs : s.length ≤ 1000) (hm : ∀ z ∈ s, mayP z) : PC P f [fldsL s] (intL (bitsS s)) := by
  refine pc_of_call (callAt_enter ir (by simp [irTBits]) ?_)
  simp [irTBits]
  refine lwp_loop (fun i : Nat => [(0, fldsL s), (3, intL (bitsS (s.take i))), (4, intL i)]) (fun _ => []) (fun i => s.length - i) (fun i => i ≤ s.length) 0 (by simp) ⟨[], by simp [bitsS]⟩ ?_
  intro i hi
  by_cases h : i < s.length
  · obtain ⟨z, hz⟩ : ∃ z, s[i]? = some z := ⟨_, List.getElem?_eq_getElem h⟩
    have hg : s[i] = z := by simpa [h] using hz
    have hzm := hm z (List.mem_of_getElem? hz)
    have hb := bitsS_le (s := s.take i) (fun y hy => hm y (List.mem_of_mem_take hy))
    simp only [List.length_take] at hb
    have hw := widF_le hzm
    have hadd : IntKind.i64.wrap ((bitsS (s.take i) : Int) + (widF z : Int)) = (bitsS (s.take (i + 1)) : Int) := by
      rw [bitsS_snoc hz, wrap_id (by omega) (by omega)]; simp
    simp [h, hg]
    refine callT_closed (twide_gen irw hzm) (by simp) ?_
    simp [hadd, suc64 (show i ≤ 281474976710656 by omega)]
    exact ⟨i + 1, by omega, by simp only; omega, [], by simp⟩
  · have e : i = s.length := by omega
    subst e
    simp
theorem tbytes_gen {P : Program} {f b w : Nat} (ir : compF P f = some (irTBytes b)) (irB : compF P b = some (irTBits w)) (irw : compF P w = some irTWide) {s : List (Int × Int)} (hs : s.length ≤ 1000) (hm : ∀ z ∈ s, mayP z) : PC P f [fldsL s] (intL (bytesS s)) := by
  have hb := bitsS_le hm
  obtain ⟨n, hn⟩ : ∃ n, n = bitsS s := ⟨_, rfl⟩
  obtain ⟨m, hmn⟩ : ∃ m, m = (n + 7) / 8 := ⟨_, rfl⟩
  have hB := tbits_gen irB irw hs hm
  have hq := bytes_q (n := n) (by omega)
  rw [← hmn] at hq
  unfold bytesS
  rw [← hn] at hB ⊢
  rw [← hmn]
  refine pc_of_call (callAt_enter ir (by simp [irTBytes]) ?_)
  simp [irTBytes]
  refine callT_closed hB (by simp) ?_
  by_cases h0 : n = 0
  · have : m = 0 := by omega
    simp [h0, this]
  · simp [h0, hq]
    omega
theorem tright_gen {P : Program} {f : Nat} (ir : compF P f = some irTRight) (s : List (Int × Int)) (hs : s.length ≤ 1000000) : PC P f [fldsL s] (boolL (rightS s)) := by
  refine pc_of_call (callAt_enter ir (by simp [irTRight]) ?_)
  by_cases h1 : 1 ≤ s.length
  rotate_left
  · have h1' : (s.length : Int) < 1 := by omega
    simp [irTRight, rightS, h1, h1']
  by_cases h2 : s.length ≤ 17
  rotate_left
  · have h1' : ¬ (s.length : Int) < 1 := by omega
    have h2' : (17 : Int) < (s.length : Int) := by omega
    simp [irTRight, rightS, h1, h1', h2, h2']
  have h1' : ¬ (s.length : Int) < 1 := by omega
  have h2' : ¬ (17 : Int) < (s.length : Int) := by omega
  simp [irTRight, h1', h2']
  refine lwp_loop (fun i : Nat => [(0, fldsL s), (2, boolL false), (3, intL i)]) (fun _ => []) (fun i => s.length - i) (fun i => i ≤ s.length ∧ ∀ z ∈ s.take i, mayP z) 0 (by simp) ⟨[], by simp⟩ ?_
  rintro i ⟨hi, hall⟩
  by_cases h : i < s.length
  · obtain ⟨z, hz⟩ : ∃ z, s[i]? = some z := ⟨_, List.getElem?_eq_getElem h⟩
    have hg : s[i] = z := by simpa [h] using hz
    have hmem := List.mem_of_getElem? hz
    have bad : ¬ mayP z → rightS s = false := fun hb => by
      simp only [rightS, decide_eq_false_iff_not]
      exact fun hr => hb (hr.2.2 z hmem)
    by_cases c1 : z.2 < z.1
    · simp [h, hg, c1, bad (fun hb => by have := hb.2.2.1; omega)]
    by_cases c2 : z.1 < -1073741824
    · simp [h, hg, c1, c2, bad (fun hb => by have := hb.1; omega)]
    by_cases c3 : 1073741824 < z.2
    · simp [h, hg, c1, c2, c3, bad (fun hb => by have := hb.2.1; omega)]
    have hsub : IntKind.i64.wrap (z.2 - z.1) = z.2 - z.1 := wrap_id (by omega) (by omega)
    by_cases c4 : 65535 < z.2 - z.1
    · simp [h, hg, c1, c2, c3, hsub, c4, bad (fun hb => by have := hb.2.2.2; omega)]
    have hnext : ∀ y ∈ s.take (i + 1), mayP y := fun y hy => by
      rw [List.take_add_one, hz] at hy
      rcases List.mem_append.1 hy with hy | hy
      · exact hall y hy
      · simp at hy
        rw [hy]; exact ⟨by omega, by omega, by omega, by omega⟩
    simp [h, hg, c1, c2, c3, hsub, c4, suc64 (show i ≤ 281474976710656 by omega)]
    exact ⟨i + 1, ⟨by omega, fun _ _ hy => hnext _ hy⟩, by simp only; omega, [], by simp⟩
  · have e : i = s.length := by omega
    subst e
    rw [List.take_length] at hall
    have hr : rightS s = true := by simp only [rightS, decide_eq_true_eq]; exact ⟨h1, h2, hall⟩
    simp [hr]
end Lg
