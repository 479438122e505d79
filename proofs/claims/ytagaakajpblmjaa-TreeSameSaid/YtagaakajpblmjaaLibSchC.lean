/- Vectors as bytes, by their ranges: which vectors are in them; what putting and taking a number do. -/
import Derived.Test.YtagaakajpblmjaaLibSchE
namespace Lg
open Go
abbrev bytL (B : List Int) : L := .sl 1 false (B.map fun z => u8L z)
abbrev pkbL (l : List Bool) : L := .agg [bytL (pk l), intL (l.length : Nat)]
def PutC (P : Program) (f : Nat) : Prop := ∀ (l : List Bool) (n w : Nat), l.length ≤ 100000 → n < 2 ^ 64 → w ≤ 64 → wid n ≤ w → PC P f [pkbL l, u64L n, intL (w : Nat)] (.tup [pkbL (l ++ numB n w), intL 0])
def TakeC (P : Program) (f : Nat) : Prop := ∀ (B : List Int) (N a w : Nat), (∀ z ∈ B, isByte z) → N = 8 * B.length → B.length ≤ 100000 → w ≤ 64 → a + w ≤ N → PC P f [.agg [bytL B, intL (N : Nat)], intL (a : Nat), intL (w : Nat)] (.tup [u64L (numOf (segB B a w)), intL 0])
theorem putV_pk {l : List Bool} {n w : Nat} (h1 : w ≤ 64) (h2 : wid n ≤ w) : putV (pk l) (l.length : Nat) n (w : Nat) = (pk (l ++ numB n w), (((l ++ numB n w).length : Nat) : Int), 0) := by
  unfold putV
  rw [if_neg (by omega), if_neg (by omega)]
  simp only [Int.toNat_natCast, un_pk rfl, List.length_append, numB_length]
  simp
theorem putC_of {P : Program} {f : Nat} (h : ∀ {B : List Int} {N : Int} {n : Nat} {wide : Int}, (∀ z ∈ B, isByte z) → rightB B N → N ≤ 100000 → n < 2 ^ 64 → PC P f [.agg [.sl 1 false (B.map u8L), intL N], u64L n, intL wide] (.tup [.agg [.sl 1 false ((putV B N n wide).1.map u8L), intL (putV B N n wide).2.1], intL (putV B N n wide).2.2])) : PutC P f := by
  intro l n w hl hn hw hwid
  have := h (wide := (w : Nat)) (pk_byte (l := l)) pk_right (by omega) hn
  rwa [putV_pk hw hwid] at this
theorem takeC_of {P : Program} {f : Nat} (h : ∀ {B : List Int} {N at' wide : Int}, (∀ z ∈ B, isByte z) → (0 ≤ N ∧ N ≤ 8 * B.length) → B.length ≤ 100000 → at' ≤ 9223372036854775807 → PC P f [.agg [.sl 1 false (B.map u8L), intL N], intL at', intL wide] (.tup [u64L (takeV B N at' wide).1, intL (takeV B N at' wide).2])) : TakeC P f := by
  intro B N a w hB hN hl hw ha
  have := h (N := (N : Nat)) (at' := (a : Nat)) (wide := (w : Nat)) hB (by omega) hl (by omega)
  have e : takeV B (N : Nat) (a : Nat) (w : Nat) = ((numOf (segB B a w) : Int), 0) := by
    unfold takeV
    rw [if_neg (by omega), if_neg (by omega), Int.toNat_natCast, Int.toNat_natCast]
  rwa [e] at this
def inP (s : List (Int × Int)) (v : List Int) : Prop := ∀ p ∈ s.zip v, p.1.1 ≤ p.2 ∧ p.2 ≤ p.1.2
instance (s : List (Int × Int)) (v : List Int) : Decidable (inP s v) := inferInstanceAs (Decidable (∀ p ∈ s.zip v, _))
def inV (s : List (Int × Int)) (v : List Int) : Int := if v.length = s.length then (if inP s v then 0 else 5) else 1
theorem zip_get {α β : Type} {s : List α} {v : List β} {i : Nat} {z : α} {n : β} (h : s[i]? = some z) (k : v[i]? = some n) : (s.zip v)[i]? = some (z, n) := by
  rw [List.getElem?_zip_eq_some]; exact ⟨h, k⟩
theorem in_gen {P : Program} {f has : Nat} (ir : compF P f = some (irSIn has)) (irh : compF P has = some irSHas) (s : List (Int × Int)) (v : List Int) (hs : s.length ≤ 1000000) (hv : v.length ≤ 1000000) : PC P f [fldsL s, vecL v] (intL (inV s v)) := by
  refine pc_of_call (callAt_enter ir (by simp [irSIn]) ?_)
  by_cases hlen : v.length = s.length
  rotate_left
  · have h' : ¬ (v.length : Int) = (s.length : Int) := by omega
    simp [irSIn, inV, hlen]
    intro e
    omega
  simp [irSIn, hlen]
  refine lwp_loop (fun i : Nat => [(0, fldsL s), (4, intL 0), (12, vecL v), (13, intL s.length), (14, intL i)]) (fun _ => []) (fun i => s.length - i) (fun i => i ≤ s.length ∧ ∀ p ∈ (s.zip v).take i, p.1.1 ≤ p.2 ∧ p.2 ≤ p.1.2) 0 (by simp) ⟨[], by simp⟩ ?_
  rintro i ⟨hi, hall⟩
  by_cases h : i < s.length
  · have hv' : i < v.length := by omega
    obtain ⟨z, hz⟩ : ∃ z, s[i]? = some z := ⟨_, List.getElem?_eq_getElem h⟩
    have hg : s[i] = z := by simpa [h] using hz
    obtain ⟨n, hn⟩ : ∃ n, v[i]? = some n := ⟨_, List.getElem?_eq_getElem hv'⟩
    have hgn : v[i] = n := by simpa [hv'] using hn
    have hzip := zip_get hz hn
    simp [h, hv', hg, hgn]
    refine callT_closed (has_gen irh z n) (by simp) ?_
    by_cases hok : z.1 ≤ n ∧ n ≤ z.2
    · have hnext : ∀ p ∈ (s.zip v).take (i + 1), p.1.1 ≤ p.2 ∧ p.2 ≤ p.1.2 := fun p hp => by
        rw [List.take_add_one, hzip] at hp
        rcases List.mem_append.1 hp with hp | hp
        · exact hall p hp
        · simp at hp
          rw [hp]; exact hok
      simp [hok, suc64 (show i ≤ 281474976710656 by omega)]
      exact ⟨i + 1, ⟨by omega, fun _ _ _ hp => hnext _ hp⟩, by simp only; omega, [], by simp⟩
    · have hbad : inV s v = 5 := by
        rw [inV, if_pos hlen, if_neg]
        exact fun hp => hok (hp _ (List.mem_of_getElem? hzip))
      simp [hok, hbad]
  · have e : i = s.length := by omega
    rw [List.take_of_length_le (by simp; omega)] at hall
    have hr : inV s v = 0 := by rw [inV, if_pos hlen, if_pos (show inP s v from hall)]
    simp [h, hr]
theorem tin_gen {P : Program} {f : Nat} (ir : compF P f = some irTIn) (s : List (Int × Int)) (v : List Int) (hs : s.length ≤ 1000000) (hv : v.length ≤ 1000000) : PC P f [fldsL s, vecL v] (intL (inV s v)) := by
  refine pc_of_call (callAt_enter ir (by simp [irTIn]) ?_)
  by_cases hlen : v.length = s.length
  rotate_left
  · have h' : ¬ (v.length : Int) = (s.length : Int) := by omega
    simp [irTIn, inV, hlen]
    intro e
    omega
  simp [irTIn, hlen]
  refine lwp_loop (fun i : Nat => [(0, fldsL s), (1, vecL v), (4, intL 0), (5, intL i)]) (fun _ => []) (fun i => s.length - i) (fun i => i ≤ s.length ∧ ∀ p ∈ (s.zip v).take i, p.1.1 ≤ p.2 ∧ p.2 ≤ p.1.2) 0 (by simp) ⟨[], by simp⟩ ?_
  rintro i ⟨hi, hall⟩
  by_cases h : i < s.length
  · have hv' : i < v.length := by omega
    obtain ⟨z, hz⟩ : ∃ z, s[i]? = some z := ⟨_, List.getElem?_eq_getElem h⟩
    have hg : s[i] = z := by simpa [h] using hz
    obtain ⟨n, hn⟩ : ∃ n, v[i]? = some n := ⟨_, List.getElem?_eq_getElem hv'⟩
    have hgn : v[i] = n := by simpa [hv'] using hn
    have hzip := zip_get hz hn
    have hbad : ¬ (z.1 ≤ n ∧ n ≤ z.2) → inV s v = 5 := fun hok => by
      rw [inV, if_pos hlen, if_neg]
      exact fun hp => hok (hp _ (List.mem_of_getElem? hzip))
    by_cases c1 : n < z.1
    · simp [hlen, h, hv', hg, hgn, c1, hbad (by omega)]
    by_cases c2 : z.2 < n
    · simp [hlen, h, hv', hg, hgn, c1, c2, hbad (by omega)]
    have hnext : ∀ p ∈ (s.zip v).take (i + 1), p.1.1 ≤ p.2 ∧ p.2 ≤ p.1.2 := fun p hp => by
      rw [List.take_add_one, hzip] at hp
      rcases List.mem_append.1 hp with hp | hp
      · exact hall p hp
      · simp at hp
        rw [hp]; exact ⟨by simp only; omega, by simp only; omega⟩
    simp [hlen, h, hv', hg, hgn, c1, c2, suc64 (show i ≤ 281474976710656 by omega)]
    exact ⟨i + 1, ⟨by omega, fun _ _ _ hp => hnext _ hp⟩, by simp only; omega, [], by simp⟩
  · have e : i = s.length := by omega
    rw [List.take_of_length_le (by simp; omega)] at hall
    have hr : inV s v = 0 := by rw [inV, if_pos hlen, if_pos (show inP s v from hall)]
    simp [hlen, h, hr]
theorem tvec_gen {P : Program} {f : Nat} (ir : compF P f = some irTVec) (v w : List Int) (hv : v.length ≤ 1000000) : PC P f [vecL v, vecL w] (boolL (decide (v = w))) := by
  refine pc_of_call (callAt_enter ir (by simp [irTVec]) ?_)
  by_cases hlen : v.length = w.length
  rotate_left
  · have h' : ¬ (v.length : Int) = (w.length : Int) := by omega
    have h2 : v ≠ w := fun e => hlen (by rw [e])
    simp [irTVec, h', h2]
  simp [irTVec, hlen]
  refine lwp_loop (fun i : Nat => [(0, vecL v), (1, vecL w), (4, boolL false), (5, intL i)]) (fun _ => []) (fun i => v.length - i) (fun i => i ≤ v.length ∧ v.take i = w.take i) 0 (by simp) ⟨[], by simp⟩ ?_
  rintro i ⟨hi, hall⟩
  by_cases h : i < v.length
  · have hw' : i < w.length := by omega
    by_cases e : v[i] = w[i]
    · have hnext : v.take (i + 1) = w.take (i + 1) := by rw [List.take_succ_eq_append_getElem h, List.take_succ_eq_append_getElem hw', hall, e]
      simp [h, hw', hlen, e, suc64 (show i ≤ 281474976710656 by omega)]
      exact ⟨i + 1, ⟨by omega, hnext⟩, by simp only; omega, [], by simp⟩
    · have hne : v ≠ w := fun e2 => e (by subst e2; rfl)
      simp [h, hw', hlen, e, hne]
  · have e : v = w := by
      rw [List.take_of_length_le (by omega), List.take_of_length_le (by omega)] at hall
      exact hall
    subst e
    simp [h]
end Lg
