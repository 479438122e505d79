import Derived.Test.YtagaakajpblmjaaLibBits8
import Derived.Test.YtagaakajpblmjaaLibFrame
import Derived.Test.YtagaakajpblmjaaLibOwn
import Derived.Test.YtagaakajpblmjaaLibTb
/- Rows of bits in bytes, the highest bit of a byte first; numbers as bits. -/
namespace Lg
open Go
def bitB (B : List Int) (k : Nat) : Bool := decide ((B.getD (k / 8) 0).toNat / 2 ^ (7 - k % 8) % 2 = 1)
def pk (l : List Bool) : List Int := (List.range ((l.length + 7) / 8)).map fun i => (byteN (fun j => l.getD (8 * i + (7 - j)) false) : Int)
def un (B : List Int) (n : Nat) : List Bool := (List.range n).map (bitB B)
@[simp] theorem pk_length {l : List Bool} : (pk l).length = (l.length + 7) / 8 := by simp [pk]
@[simp] theorem un_length {B : List Int} {n : Nat} : (un B n).length = n := by simp [un]
theorem pk_nil : pk [] = [] := rfl
theorem pk_get {l : List Bool} {i : Nat} (h : i < (pk l).length) : (pk l)[i] = (byteN (fun j => l.getD (8 * i + (7 - j)) false) : Int) := by simp [pk]
theorem pk_byte {l : List Bool} : ∀ z ∈ pk l, isByte z := fun z hz => by
  simp only [pk, List.mem_map, List.mem_range] at hz
  obtain ⟨i, -, rfl⟩ := hz
  have := byteN_lt fun j => l.getD (8 * i + (7 - j)) false
  constructor <;> omega
theorem bitB_pk {l : List Bool} {k : Nat} : bitB (pk l) k = l.getD k false := by
  unfold bitB
  by_cases h : k / 8 < (pk l).length
  · rw [show (pk l).getD (k / 8) 0 = (pk l)[k / 8] by simp [List.getD, List.getElem?_eq_getElem h], pk_get]
    simp only [Int.toNat_natCast]
    simp only [byteN_bit _ (show 7 - k % 8 < 8 by omega), show 8 * (k / 8) + (7 - (7 - k % 8)) = k by omega]
    cases l.getD k false <;> simp
  · rw [show (pk l).getD (k / 8) 0 = 0 by simp [List.getD, List.getElem?_eq_none (Nat.le_of_not_lt h)]]
    simp at h
    rw [show l.getD k false = false by simp [List.getD, List.getElem?_eq_none (show l.length ≤ k by omega)]]
    simp
theorem un_get {B : List Int} {n k : Nat} (h : k < n) : (un B n).getD k false = bitB B k := by simp [un, List.getD, h]
theorem un_pk {l : List Bool} {n : Nat} (hn : n = l.length) : un (pk l) n = l := by
  subst hn
  refine List.ext_getElem (by simp) fun i h1 h2 => ?_
  have h3 : i < l.length := h2
  simp only [un, List.getElem_map, List.getElem_range, bitB_pk]
  simp [List.getD, List.getElem?_eq_getElem h3]
theorem byte_bits : ∀ n : Fin 256, byteN (fun j => decide (n.val / 2 ^ j % 2 = 1)) = n.val := by decide +kernel
def rightB (B : List Int) (N : Int) : Prop := 0 ≤ N ∧ B.length = (N.toNat + 7) / 8 ∧ ∀ k, N.toNat ≤ k → bitB B k = false
theorem pk_right {l : List Bool} : rightB (pk l) l.length := ⟨by omega, by simp, fun k hk => by rw [bitB_pk]; simp at hk; simp [List.getD, List.getElem?_eq_none hk]⟩
theorem pk_un {B : List Int} {N : Int} (hb : ∀ z ∈ B, isByte z) (h : rightB B N) : pk (un B N.toNat) = B := by
  obtain ⟨h1, h2, h3⟩ := h
  refine List.ext_getElem (by simp [h2]) fun i hi1 hi2 => ?_
  rw [pk_get]
  obtain ⟨b1, b2⟩ := hb B[i] (List.getElem_mem hi2)
  have hbit : ∀ k, (un B N.toNat).getD k false = bitB B k := fun k => by
    by_cases hk : k < N.toNat
    · exact un_get hk
    · rw [h3 k (by omega)]
      simp [List.getD, List.getElem?_eq_none (show (un B N.toNat).length ≤ k by simp; omega)]
  have := byte_bits ⟨B[i].toNat, by omega⟩
  simp only at this
  rw [show (B[i] : Int) = ((B[i].toNat : Nat) : Int) by omega, ← this]
  congr 1
  refine byteN_congr fun j hj => ?_
  rw [hbit, bitB, show (8 * i + (7 - j)) / 8 = i by omega, show 7 - (8 * i + (7 - j)) % 8 = j by omega]
  simp [List.getD, List.getElem?_eq_getElem hi2]
theorem right_same {B B' : List Int} {N : Int} (hb : ∀ z ∈ B, isByte z) (hb' : ∀ z ∈ B', isByte z) (h : rightB B N) (h' : rightB B' N) (he : un B N.toNat = un B' N.toNat) : B = B' := by
  rw [← pk_un hb h, ← pk_un hb' h', he]
theorem pk_snoc {l : List Bool} {b : Bool} : pk (l ++ [b]) = if l.length % 8 = 0 then pk l ++ [if b = true then 128 else 0] else if b = true then (pk l).set (l.length / 8) (bitsI .or .u8 ((pk l).getD (l.length / 8) 0) (shrI .u8 128 (l.length % 8 : Nat))) else pk l := by
  have sh : ∀ k : Fin 8, shrI .u8 128 (k.val : Int) = ((2 ^ (7 - k.val) : Nat) : Int) := by decide +kernel
  have get : ∀ k, k ≠ l.length → (l ++ [b]).getD k false = l.getD k false := fun k hk => by
    simp only [List.getD]
    by_cases h : k < l.length
    · rw [List.getElem?_append_left h]
    · rw [List.getElem?_eq_none (show l.length ≤ k by omega), List.getElem?_eq_none (by simp; omega)]
  have same : ∀ i, i ≠ l.length / 8 → byteN (fun j => (l ++ [b]).getD (8 * i + (7 - j)) false) = byteN (fun j => l.getD (8 * i + (7 - j)) false) := fun i hi => by
    refine byteN_congr fun j hj => get _ (by omega)
  split
  · rename_i h8
    refine List.ext_getElem (by simp; omega) fun i h1 h2 => ?_
    rw [pk_get]
    simp at h1 h2
    by_cases hi : i < (pk l).length
    · simp at hi
      rw [List.getElem_append_left (by simpa using hi), pk_get, same i (by omega)]
    · have hi' : i = (pk l).length := by simp at hi ⊢; omega
      subst hi'
      rw [List.getElem_append_right (Nat.le_refl _)]
      simp only [Nat.sub_self, List.getElem_singleton, pk_length]
      have : ∀ j, j < 8 → (l ++ [b]).getD (8 * ((l.length + 7) / 8) + (7 - j)) false = (decide (j = 7) && b) := fun j hj => by
        by_cases hj7 : j = 7
        · subst hj7
          rw [show 8 * ((l.length + 7) / 8) + (7 - 7) = l.length by omega]
          simp [List.getD]
        · rw [get _ (by omega)]
          simp [List.getD, List.getElem?_eq_none (show l.length ≤ 8 * ((l.length + 7) / 8) + (7 - j) by omega), hj7]
      rw [byteN_congr (g := fun j => decide (j = 7) && b) this]
      cases b <;> simp [byteN]
  · rename_i h8
    have hlt : l.length / 8 < (pk l).length := by simp; omega
    split
    · rename_i hb
      subst hb
      refine List.ext_getElem (by simp; omega) fun i h1 h2 => ?_
      rw [pk_get, List.getElem_set]
      simp at h1 h2
      split
      · rename_i e
        subst e
        rw [show (pk l).getD (l.length / 8) 0 = (pk l)[l.length / 8] by simp [List.getD, List.getElem?_eq_getElem hlt], pk_get, sh ⟨l.length % 8, by omega⟩, byteN_set _ (by omega)]
        congr 1
        refine byteN_congr fun j hj => ?_
        simp only
        by_cases hj2 : j = 7 - l.length % 8
        · rw [show 8 * (l.length / 8) + (7 - j) = l.length by omega]
          simp [List.getD, hj2]
        · rw [get _ (by omega)]
          simp [hj2]
      · rename_i e
        rw [pk_get, same i (fun h => e h.symm)]
    · rename_i hb
      have hb : b = false := by cases b <;> simp_all
      subst hb
      refine List.ext_getElem (by simp; omega) fun i h1 h2 => ?_
      rw [pk_get, pk_get]
      by_cases hi : i = l.length / 8
      · subst hi
        congr 1
        refine byteN_congr fun j hj => ?_
        by_cases hj2 : 8 * (l.length / 8) + (7 - j) = l.length
        · rw [hj2]; simp [List.getD]
        · exact get _ hj2
      · rw [same i hi]
theorem bit_test {B : List Int} {k : Nat} (hb : ∀ z ∈ B, isByte z) (hk : k / 8 < B.length) : (bitsI .and .u8 (B.getD (k / 8) 0) (shrI .u8 128 (k % 8 : Nat)) = 0) ↔ bitB B k = false := by
  have sh : ∀ k : Fin 8, shrI .u8 128 (k.val : Int) = ((2 ^ (7 - k.val) : Nat) : Int) := by decide +kernel
  have e : B.getD (k / 8) 0 = B[k / 8] := by simp [List.getD, List.getElem?_eq_getElem hk]
  obtain ⟨b1, b2⟩ := hb B[k / 8] (List.getElem_mem hk)
  unfold bitB
  rw [e, sh ⟨k % 8, by omega⟩]
  have := and_all ⟨B[k / 8].toNat, by omega⟩ ⟨7 - k % 8, by omega⟩
  simp only at this
  rw [show ((B[k / 8].toNat : Nat) : Int) = B[k / 8] by omega] at this
  rw [this]
  simp
theorem snocInd {α : Type} {p : List α → Prop} (h0 : p []) (h1 : ∀ l b, p l → p (l ++ [b])) (l : List α) : p l := by
  have : ∀ r : List α, p r.reverse := fun r => by
    induction r with
    | nil => exact h0
    | cons b r ih => rw [List.reverse_cons]; exact h1 _ _ ih
  simpa using this l.reverse
def numB (n wide : Nat) : List Bool := (List.range wide).map fun j => decide (n / 2 ^ (wide - 1 - j) % 2 = 1)
def numOf (l : List Bool) : Nat := l.foldl (fun n b => 2 * n + b.toNat) 0
@[simp] theorem numB_length {n wide : Nat} : (numB n wide).length = wide := by simp [numB]
theorem numOf_snoc {l : List Bool} {b : Bool} : numOf (l ++ [b]) = 2 * numOf l + b.toNat := by simp [numOf, List.foldl_append]
theorem numB_zero {n : Nat} : numB n 0 = [] := rfl
theorem numB_snoc {n wide : Nat} : numB n (wide + 1) = numB (n / 2) wide ++ [decide (n % 2 = 1)] := by
  unfold numB
  rw [List.range_succ, List.map_append]
  congr 1
  · refine List.map_congr_left fun j hj => ?_
    simp at hj
    rw [show wide + 1 - 1 - j = (wide - 1 - j) + 1 by omega, Nat.pow_succ, Nat.mul_comm, ← Nat.div_div_eq_div_mul]
  · simp
theorem numB_cons {n wide : Nat} : numB n (wide + 1) = decide (n / 2 ^ wide % 2 = 1) :: numB n wide := by
  unfold numB
  rw [List.range_succ_eq_map]
  simp only [List.map_cons, List.map_map]
  congr 1
  refine List.map_congr_left fun j hj => ?_
  simp at hj
  simp only [Function.comp]
  rw [show wide + 1 - 1 - (j + 1) = wide - 1 - j by omega]
theorem numOf_numB : ∀ {wide n : Nat}, numOf (numB n wide) = n % 2 ^ wide
  | 0, n => by simp [numB_zero, numOf, Nat.mod_one]
  | wide + 1, n => by
    rw [numB_snoc, numOf_snoc, numOf_numB, Nat.pow_succ, Nat.mul_comm (2 ^ wide) 2, Nat.mod_mul]
    have := Nat.mod_two_eq_zero_or_one n
    rcases this with h | h <;> simp [h] <;> omega
theorem numOf_lt : ∀ (l : List Bool), numOf l < 2 ^ l.length := by
  refine snocInd (by simp [numOf]) fun l b ih => ?_
  · rw [numOf_snoc]
    simp only [List.length_append, List.length_singleton, Nat.pow_succ]
    have := b.toNat_le
    omega
theorem numB_numOf : ∀ (l : List Bool), numB (numOf l) l.length = l := by
  refine snocInd rfl fun l b ih => ?_
  · rw [numOf_snoc]
    simp only [List.length_append, List.length_singleton, numB_snoc]
    rw [show (2 * numOf l + b.toNat) / 2 = numOf l by have := b.toNat_le; omega, ih]
    congr 2
    cases b <;> simp <;> omega
def widN : Nat → Nat → Nat
  | 0, _ => 0
  | f + 1, n => if n = 0 then 0 else widN f (n / 2) + 1
def wid (n : Nat) : Nat := widN 64 n
theorem widN_le : ∀ {f n k : Nat}, n < 2 ^ f → (widN f n ≤ k ↔ n < 2 ^ k)
  | 0, n, k, h => by
    have : n = 0 := by simpa using h
    subst this
    simp [widN]
    exact Nat.pos_of_ne_zero (by simp)
  | f + 1, n, k, h => by
    unfold widN
    split
    · rename_i e; subst e
      simp
      exact Nat.pos_of_ne_zero (by simp)
    · rename_i e
      cases k with
      | zero => simp; omega
      | succ k =>
        rw [Nat.add_le_add_iff_right, widN_le (by rw [Nat.pow_succ] at h; omega), Nat.pow_succ]
        omega
theorem wid_le {n k : Nat} (h : n < 2 ^ 64) : wid n ≤ k ↔ n < 2 ^ k := widN_le h
end Lg
/- Numbers of so many bits: the program's functions, shared by several packages. -/
namespace Lg
open Go
def irBAdd  : FnIR := ⟨54, [],
  (.seq (.seq (.ops [⟨some 4, .mov (.t 0), none⟩,
    ⟨some 5, .nilchk (.t 4), none⟩,
    ⟨some 6, .faddr 0 (.t 5), none⟩,
    ⟨some 7, .faddr 1 (.t 6), none⟩,
    ⟨some 8, .load 1 false (.t 7), none⟩,
    ⟨some 9, .bin .rem false (.t 8) (.c (.v (.int .i64 8))), none⟩,
    ⟨some 10, .bin .eql false (.t 9) (.c (.v (.int .i64 0))), none⟩])
  (.cond (.t 10)
    (.ops [⟨some 11, .mov (.t 0), none⟩,
      ⟨some 12, .mov (.t 0), none⟩,
      ⟨some 13, .nilchk (.t 12), none⟩,
      ⟨some 14, .faddr 0 (.t 13), none⟩,
      ⟨some 15, .faddr 0 (.t 14), none⟩,
      ⟨some 16, .load 1 false (.t 15), none⟩,
      ⟨some 17, .bslice 1 [(.v (.int .u8 0))] 1 [(0, 1, (.c (.v (.int .u8 0))))], none⟩,
      ⟨some 18, .append 1 1 [(.v (.int .u8 0))] (.t 16) (.t 17), none⟩,
      ⟨some 19, .nilchk (.t 11), none⟩,
      ⟨some 20, .faddr 0 (.t 19), none⟩,
      ⟨some 21, .faddr 0 (.t 20), none⟩,
      ⟨none, .store 1 (.t 21) (.t 18), none⟩])
    .skip))
  (.seq (.seq (.ops [⟨some 22, .mov (.t 1), none⟩])
  (.cond (.t 22)
    (.draw [[⟨some 23, .mov (.t 0), none⟩,
        ⟨some 24, .nilchk (.t 23), none⟩,
        ⟨some 25, .faddr 0 (.t 24), none⟩,
        ⟨some 26, .faddr 0 (.t 25), none⟩,
        ⟨some 27, .load 1 false (.t 26), none⟩,
        ⟨some 28, .mov (.t 0), none⟩,
        ⟨some 29, .nilchk (.t 28), none⟩,
        ⟨some 30, .faddr 0 (.t 29), none⟩,
        ⟨some 31, .faddr 1 (.t 30), none⟩,
        ⟨some 32, .load 1 false (.t 31), none⟩,
        ⟨some 33, .bin .quo false (.t 32) (.c (.v (.int .i64 8))), none⟩,
        ⟨some 34, .iaddr 1 (.t 27) (.t 33), none⟩,
        ⟨some 35, .load 1 false (.t 34), none⟩,
        ⟨some 36, .mov (.t 0), none⟩,
        ⟨some 37, .nilchk (.t 36), none⟩,
        ⟨some 38, .faddr 0 (.t 37), none⟩,
        ⟨some 39, .faddr 1 (.t 38), none⟩,
        ⟨some 40, .load 1 false (.t 39), none⟩,
        ⟨some 41, .bin .rem false (.t 40) (.c (.v (.int .i64 8))), none⟩,
        ⟨some 42, .bin .shr false (.c (.v (.int .u8 128))) (.t 41), none⟩],
      [⟨some 43, .bin .or false (.t 35) (.t 42), none⟩],
      [⟨some 44, .iaddr 1 (.t 27) (.t 33), none⟩],
      [⟨none, .store 1 (.t 44) (.t 43), none⟩]])
    .skip))
  (.ops [⟨some 45, .mov (.t 0), none⟩,
    ⟨some 46, .nilchk (.t 45), none⟩,
    ⟨some 47, .faddr 0 (.t 46), none⟩,
    ⟨some 48, .faddr 1 (.t 47), none⟩,
    ⟨some 49, .load 1 false (.t 48), none⟩,
    ⟨some 50, .bin .add false (.t 49) (.c (.v (.int .i64 1))), none⟩,
    ⟨some 51, .nilchk (.t 45), none⟩,
    ⟨some 52, .faddr 0 (.t 51), none⟩,
    ⟨some 53, .faddr 1 (.t 52), none⟩,
    ⟨none, .store 1 (.t 53) (.t 50), none⟩])))⟩
def irBWide  : FnIR := ⟨11, [.t 2],
  (.seq (.ops [⟨some 2, .mov (.c (.v (.int .i64 0))), none⟩])
  (.seq (.ops [⟨some 3, .mov (.c (.v (.int .i64 0))), none⟩])
  (.seq (.block 0 (.loop
    (.seq (.seq (.ops [⟨some 4, .mov (.t 0), none⟩,
      ⟨some 5, .bin .gtr false (.t 4) (.c (.v (.int .u64 0))), none⟩])
    (.cond (.t 5)
      .skip
      (.exit 0)))
    (.seq (.block 1 (.ops [⟨some 8, .mov (.t 3), none⟩,
      ⟨some 9, .bin .add false (.t 8) (.c (.v (.int .i64 1))), none⟩,
      ⟨some 3, .mov (.t 9), none⟩]))
    (.ops [⟨some 6, .mov (.t 0), none⟩,
      ⟨some 7, .bin .shr false (.t 6) (.c (.v (.int .u64 1))), none⟩,
      ⟨some 0, .mov (.t 7), none⟩])))))
  (.seq (.ops [⟨some 10, .mov (.t 3), none⟩,
    ⟨some 2, .mov (.t 10), none⟩])
  .ret))))⟩
def irBPut (wide of add : Nat) : FnIR := ⟨44, [.c 6 2 true, .t 7],
  (.seq (.ops [⟨some 3, .box (.t 0), none⟩,
    ⟨some 6, .alloc (.agg [(.v (.slice none 0 0)), (.v (.int .i64 0))]), none⟩,
    ⟨some 7, .mov (.c (.v (.int .i64 0))), none⟩])
  (.seq (.seq (.ops [⟨some 10, .mov (.t 2), none⟩,
    ⟨some 11, .bin .lss false (.t 10) (.c (.v (.int .i64 0))), none⟩,
    ⟨some 12, .mov (.t 11), none⟩,
    ⟨some 13, .mov (.t 2), some (12, false)⟩,
    ⟨some 14, .bin .gtr false (.t 13) (.c (.v (.int .i64 64))), some (12, false)⟩,
    ⟨some 15, .pick (.t 12) (.c (.v (.bool true))) (.t 14), none⟩])
  (.cond (.t 15)
    (.seq (.ops [⟨some 16, .load 2 true (.t 3), none⟩,
      ⟨none, .store 2 (.t 6) (.t 16), none⟩,
      ⟨some 7, .mov (.c (.v (.int .i64 1))), none⟩])
    .ret)
    .skip))
  (.seq (.seq (.ops [⟨some 17, .mov (.t 1), none⟩,
    ⟨some 18, .call wide [(.t 17)], none⟩,
    ⟨some 19, .mov (.t 2), none⟩,
    ⟨some 20, .bin .gtr false (.t 18) (.t 19), none⟩])
  (.cond (.t 20)
    (.seq (.ops [⟨some 21, .load 2 true (.t 3), none⟩,
      ⟨none, .store 2 (.t 6) (.t 21), none⟩,
      ⟨some 7, .mov (.c (.v (.int .i64 5))), none⟩])
    .ret)
    .skip))
  (.seq (.ops [⟨some 22, .load 2 true (.t 3), none⟩,
    ⟨some 23, .call of [(.t 22)], none⟩,
    ⟨some 8, .mov (.t 23), none⟩])
  (.seq (.seq (.ops [⟨some 24, .mov (.t 2), none⟩,
    ⟨some 25, .bin .sub false (.t 24) (.c (.v (.int .i64 1))), none⟩,
    ⟨some 9, .mov (.t 25), none⟩])
  (.block 0 (.loop
    (.seq (.seq (.ops [⟨some 26, .mov (.t 9), none⟩,
      ⟨some 27, .bin .geq false (.t 26) (.c (.v (.int .i64 0))), none⟩])
    (.cond (.t 27)
      .skip
      (.exit 0)))
    (.seq (.block 1 (.draw [[⟨some 30, .mov (.t 8), none⟩,
        ⟨some 31, .nilchk (.t 30), none⟩,
        ⟨some 32, .faddr 0 (.t 31), none⟩,
        ⟨some 33, .mov (.t 1), none⟩,
        ⟨some 34, .mov (.t 9), none⟩,
        ⟨some 35, .bin .shr false (.t 33) (.t 34), none⟩,
        ⟨some 36, .bin .and false (.t 35) (.c (.v (.int .u64 1))), none⟩,
        ⟨some 37, .bin .eql false (.t 36) (.c (.v (.int .u64 1))), none⟩],
      [⟨some 38, .call add [(.t 32), (.t 37)], none⟩]]))
    (.ops [⟨some 28, .mov (.t 9), none⟩,
      ⟨some 29, .bin .sub false (.t 28) (.c (.v (.int .i64 1))), none⟩,
      ⟨some 9, .mov (.t 29), none⟩]))))))
  (.seq (.ops [⟨some 39, .mov (.t 8), none⟩,
    ⟨some 40, .nilchk (.t 39), none⟩,
    ⟨some 41, .faddr 0 (.t 40), none⟩,
    ⟨some 42, .faddr 0 (.t 41), none⟩,
    ⟨some 43, .load 2 true (.t 42), none⟩,
    ⟨none, .store 2 (.t 6) (.t 43), none⟩,
    ⟨some 7, .mov (.c (.v (.int .i64 0))), none⟩])
  .ret))))))⟩
def irBEach (one : Nat) : FnIR := ⟨8, [.t 6],
  (.seq (.ops [⟨some 3, .box (.t 0), none⟩,
    ⟨some 4, .box (.t 1), none⟩,
    ⟨some 5, .box (.t 2), none⟩,
    ⟨some 6, .mov (.c (.v .nilFunc)), none⟩])
  (.seq (.ops [⟨some 7, .mkfn (.func one) [] [(.t 4), (.t 5), (.t 3)], none⟩,
    ⟨some 6, .mov (.t 7), none⟩])
  .ret))⟩
def irBEach1  : FnIR := ⟨28, [],
  (.seq (.ops [⟨some 6, .load 1 false (.t 1), none⟩,
    ⟨some 5, .mov (.t 6), none⟩])
  (.block 0 (.loop
    (.seq (.seq (.ops [⟨some 7, .mov (.t 5), none⟩,
      ⟨some 8, .load 1 false (.t 1), none⟩,
      ⟨some 9, .load 1 false (.t 2), none⟩,
      ⟨some 10, .bin .add false (.t 8) (.t 9), none⟩,
      ⟨some 11, .bin .lss false (.t 7) (.t 10), none⟩])
    (.cond (.t 11)
      .skip
      (.exit 0)))
    (.seq (.block 1 (.seq (.draw [[⟨some 14, .mov (.t 0), none⟩,
        ⟨some 15, .faddr 0 (.t 3), none⟩,
        ⟨some 16, .load 1 false (.t 15), none⟩,
        ⟨some 17, .mov (.t 5), none⟩,
        ⟨some 18, .bin .quo false (.t 17) (.c (.v (.int .i64 8))), none⟩,
        ⟨some 19, .iaddr 1 (.t 16) (.t 18), none⟩,
        ⟨some 20, .load 1 false (.t 19), none⟩,
        ⟨some 21, .mov (.t 5), none⟩,
        ⟨some 22, .bin .rem false (.t 21) (.c (.v (.int .i64 8))), none⟩,
        ⟨some 23, .bin .shr false (.c (.v (.int .u8 128))) (.t 22), none⟩,
        ⟨some 24, .bin .and false (.t 20) (.t 23), none⟩,
        ⟨some 25, .bin .neq false (.t 24) (.c (.v (.int .u8 0))), none⟩],
      [⟨some 26, .calld (.t 14) [(.t 25)], none⟩],
      [⟨some 27, .un .not (.t 26), none⟩]])
    (.cond (.t 27)
      .ret
      .skip)))
    (.ops [⟨some 12, .mov (.t 5), none⟩,
      ⟨some 13, .bin .add false (.t 12) (.c (.v (.int .i64 1))), none⟩,
      ⟨some 5, .mov (.t 13), none⟩]))))))⟩
def irBTake (each : Nat) (rc : RC) : FnIR := ⟨37, [.t 6, .t 7],
  (.seq (.ops [⟨some 3, .box (.t 0), none⟩,
    ⟨some 6, .mov (.c (.v (.int .u64 0))), none⟩,
    ⟨some 7, .mov (.c (.v (.int .i64 0))), none⟩])
  (.seq (.seq (.ops [⟨some 10, .mov (.t 2), none⟩,
    ⟨some 11, .bin .lss false (.t 10) (.c (.v (.int .i64 0))), none⟩,
    ⟨some 12, .mov (.t 11), none⟩,
    ⟨some 13, .mov (.t 2), some (12, false)⟩,
    ⟨some 14, .bin .gtr false (.t 13) (.c (.v (.int .i64 64))), some (12, false)⟩,
    ⟨some 15, .pick (.t 12) (.c (.v (.bool true))) (.t 14), none⟩])
  (.cond (.t 15)
    (.seq (.ops [⟨some 6, .mov (.c (.v (.int .u64 0))), none⟩,
      ⟨some 7, .mov (.c (.v (.int .i64 1))), none⟩])
    .ret)
    .skip))
  (.seq (.seq (.ops [⟨some 16, .mov (.t 1), none⟩,
    ⟨some 17, .bin .lss false (.t 16) (.c (.v (.int .i64 0))), none⟩,
    ⟨some 18, .mov (.t 17), none⟩,
    ⟨some 19, .mov (.t 2), some (18, false)⟩,
    ⟨some 20, .faddr 1 (.t 3), some (18, false)⟩,
    ⟨some 21, .load 1 false (.t 20), some (18, false)⟩,
    ⟨some 22, .mov (.t 1), some (18, false)⟩,
    ⟨some 23, .bin .sub false (.t 21) (.t 22), some (18, false)⟩,
    ⟨some 24, .bin .gtr false (.t 19) (.t 23), some (18, false)⟩,
    ⟨some 25, .pick (.t 18) (.c (.v (.bool true))) (.t 24), none⟩])
  (.cond (.t 25)
    (.seq (.ops [⟨some 6, .mov (.c (.v (.int .u64 0))), none⟩,
      ⟨some 7, .mov (.c (.v (.int .i64 10))), none⟩])
    .ret)
    .skip))
  (.seq (.ops [⟨some 8, .alloc (.v (.int .u64 0)), none⟩,
    ⟨none, .store 1 (.t 8) (.c (.v (.int .u64 0))), none⟩])
  (.seq (.seq (.ops [⟨some 26, .load 2 true (.t 3), none⟩,
    ⟨some 27, .mov (.t 1), none⟩,
    ⟨some 28, .mov (.t 2), none⟩,
    ⟨some 29, .call each [(.t 26), (.t 27), (.t 28)], none⟩])
  (.block 0 (.range (.t 29) [8] rc)))
  (.seq (.ops [⟨some 36, .load 1 false (.t 8), none⟩,
    ⟨some 6, .mov (.t 36), none⟩,
    ⟨some 7, .mov (.c (.v (.int .i64 0))), none⟩])
  .ret))))))⟩
def irBTakeAs  : IR := (.ops [⟨some 9, .mov (.t 30), none⟩])
def irBTakeBd  : IR := (.block 1 (.seq (.ops [⟨some 31, .load 1 false (.t 8), none⟩,
    ⟨some 32, .bin .shl false (.t 31) (.c (.v (.int .u64 1))), none⟩,
    ⟨none, .store 1 (.t 8) (.t 32), none⟩])
  (.seq (.ops [⟨some 33, .mov (.t 9), none⟩])
  (.cond (.t 33)
    (.ops [⟨some 34, .load 1 false (.t 8), none⟩,
      ⟨some 35, .bin .or false (.t 34) (.c (.v (.int .u64 1))), none⟩,
      ⟨none, .store 1 (.t 8) (.t 35), none⟩])
    .skip))))
def irBJoin (of each : Nat) (rc : RC) : FnIR := ⟨24, [.c 4 2 true],
  (.seq (.ops [⟨some 2, .box (.t 0), none⟩,
    ⟨some 3, .box (.t 1), none⟩,
    ⟨some 4, .alloc (.agg [(.v (.slice none 0 0)), (.v (.int .i64 0))]), none⟩])
  (.seq (.ops [⟨some 7, .load 2 true (.t 2), none⟩,
    ⟨some 8, .call of [(.t 7)], none⟩,
    ⟨some 5, .alloc (.v (.pointer none)), none⟩,
    ⟨none, .store 1 (.t 5) (.t 8), none⟩])
  (.seq (.seq (.ops [⟨some 9, .load 2 true (.t 3), none⟩,
    ⟨some 10, .faddr 1 (.t 3), none⟩,
    ⟨some 11, .load 1 false (.t 10), none⟩,
    ⟨some 12, .call each [(.t 9), (.c (.v (.int .i64 0))), (.t 11)], none⟩])
  (.block 0 (.range (.t 12) [5] rc)))
  (.seq (.ops [⟨some 19, .load 1 false (.t 5), none⟩,
    ⟨some 20, .nilchk (.t 19), none⟩,
    ⟨some 21, .faddr 0 (.t 20), none⟩,
    ⟨some 22, .faddr 0 (.t 21), none⟩,
    ⟨some 23, .load 2 true (.t 22), none⟩,
    ⟨none, .store 2 (.t 4) (.t 23), none⟩])
  .ret))))⟩
def irBJoinAs  : IR := (.ops [⟨some 6, .mov (.t 13), none⟩])
def irBJoinBd (add : Nat) : IR := (.block 1 (.ops [⟨some 14, .load 1 false (.t 5), none⟩,
    ⟨some 15, .nilchk (.t 14), none⟩,
    ⟨some 16, .faddr 0 (.t 15), none⟩,
    ⟨some 17, .mov (.t 6), none⟩,
    ⟨some 18, .call add [(.t 16), (.t 17)], none⟩]))
def irBRight  : FnIR := ⟨39, [.t 2],
  (.seq (.ops [⟨some 1, .box (.t 0), none⟩,
    ⟨some 2, .mov (.c (.v (.bool false))), none⟩])
  (.seq (.seq (.ops [⟨some 3, .faddr 1 (.t 1), none⟩,
    ⟨some 4, .load 1 false (.t 3), none⟩,
    ⟨some 5, .bin .lss false (.t 4) (.c (.v (.int .i64 0))), none⟩,
    ⟨some 6, .mov (.t 5), none⟩,
    ⟨some 7, .faddr 0 (.t 1), some (6, false)⟩,
    ⟨some 8, .load 1 false (.t 7), some (6, false)⟩,
    ⟨some 9, .len false (.t 8), some (6, false)⟩,
    ⟨some 10, .faddr 1 (.t 1), some (6, false)⟩,
    ⟨some 11, .load 1 false (.t 10), some (6, false)⟩,
    ⟨some 12, .bin .quo false (.t 11) (.c (.v (.int .i64 8))), some (6, false)⟩,
    ⟨some 13, .faddr 1 (.t 1), some (6, false)⟩,
    ⟨some 14, .load 1 false (.t 13), some (6, false)⟩,
    ⟨some 15, .bin .rem false (.t 14) (.c (.v (.int .i64 8))), some (6, false)⟩,
    ⟨some 16, .mm false (.t 15) [(.c (.v (.int .i64 1)))], some (6, false)⟩,
    ⟨some 17, .bin .add false (.t 12) (.t 16), some (6, false)⟩,
    ⟨some 18, .bin .neq false (.t 9) (.t 17), some (6, false)⟩,
    ⟨some 19, .pick (.t 6) (.c (.v (.bool true))) (.t 18), none⟩])
  (.cond (.t 19)
    (.seq (.ops [⟨some 2, .mov (.c (.v (.bool false))), none⟩])
    .ret)
    .skip))
  (.seq (.draw [[⟨some 20, .faddr 1 (.t 1), none⟩],
    [⟨some 21, .load 1 false (.t 20), none⟩],
    [⟨some 22, .bin .rem false (.t 21) (.c (.v (.int .i64 8))), none⟩],
    [⟨some 23, .bin .eql false (.t 22) (.c (.v (.int .i64 0))), none⟩],
    [⟨some 24, .mov (.t 23), none⟩],
    [⟨some 25, .faddr 0 (.t 1), some (24, false)⟩,
      ⟨some 26, .load 1 false (.t 25), some (24, false)⟩,
      ⟨some 27, .faddr 0 (.t 1), some (24, false)⟩,
      ⟨some 28, .load 1 false (.t 27), some (24, false)⟩,
      ⟨some 29, .len false (.t 28), some (24, false)⟩,
      ⟨some 30, .bin .sub false (.t 29) (.c (.v (.int .i64 1))), some (24, false)⟩,
      ⟨some 31, .iaddr 1 (.t 26) (.t 30), some (24, false)⟩,
      ⟨some 32, .load 1 false (.t 31), some (24, false)⟩,
      ⟨some 33, .faddr 1 (.t 1), some (24, false)⟩,
      ⟨some 34, .load 1 false (.t 33), some (24, false)⟩,
      ⟨some 35, .bin .rem false (.t 34) (.c (.v (.int .i64 8))), some (24, false)⟩],
    [⟨some 36, .bin .shl false (.t 32) (.t 35), some (24, false)⟩],
    [⟨some 37, .bin .eql false (.t 36) (.c (.v (.int .u8 0))), some (24, false)⟩],
    [⟨some 38, .pick (.t 24) (.c (.v (.bool true))) (.t 37), none⟩],
    [⟨some 2, .mov (.t 38), none⟩]])
  .ret)))⟩
def irBSame (eq : Nat) : FnIR := ⟨17, [.t 4],
  (.seq (.ops [⟨some 2, .box (.t 0), none⟩,
    ⟨some 3, .box (.t 1), none⟩,
    ⟨some 4, .mov (.c (.v (.bool false))), none⟩])
  (.seq (.ops [⟨some 5, .faddr 1 (.t 2), none⟩,
    ⟨some 6, .load 1 false (.t 5), none⟩,
    ⟨some 7, .faddr 1 (.t 3), none⟩,
    ⟨some 8, .load 1 false (.t 7), none⟩,
    ⟨some 9, .bin .eql false (.t 6) (.t 8), none⟩,
    ⟨some 10, .mov (.t 9), none⟩,
    ⟨some 11, .faddr 0 (.t 2), some (10, true)⟩,
    ⟨some 12, .load 1 false (.t 11), some (10, true)⟩,
    ⟨some 13, .faddr 0 (.t 3), some (10, true)⟩,
    ⟨some 14, .load 1 false (.t 13), some (10, true)⟩,
    ⟨some 15, .call eq [(.t 12), (.t 14)], some (10, true)⟩,
    ⟨some 16, .pick (.t 10) (.t 15) (.c (.v (.bool false))), none⟩,
    ⟨some 4, .mov (.t 16), none⟩])
  .ret))⟩
def irBOf (clone : Nat) : FnIR := ⟨12, [.t 2],
  (.seq (.ops [⟨some 1, .box (.t 0), none⟩,
    ⟨some 2, .mov (.c (.v (.pointer none))), none⟩])
  (.seq (.drawN [⟨some 3, .faddr 0 (.t 1), none⟩,
    ⟨some 4, .load 1 false (.t 3), none⟩,
    ⟨some 6, .faddr 1 (.t 1), none⟩,
    ⟨some 7, .load 1 false (.t 6), none⟩]
    (.alt ⟨some 5, .call clone [(.t 4)], none⟩ (.alt ⟨some 8, .build [(.v (.slice none 0 0)), (.v (.int .i64 0))] [(0, 1, (.t 5)), (1, 1, (.t 7))], none⟩ (.alt ⟨some 9, .build [(.v (.slice none 0 0)), (.v (.int .i64 0))] [(0, 2, (.t 8))], none⟩ (.alt ⟨some 10, .build [(.v (.slice none 0 0)), (.v (.int .i64 0))] [(0, 2, (.t 9))], none⟩ (.alt ⟨some 11, .box (.t 10), none⟩ (.alt ⟨some 2, .mov (.t 11), none⟩ .done
    .none)
    .none)
    .none)
    .none)
    .none)
    .none))
  .ret))⟩
end Lg
/- Numbers of so many bits: what the program's small functions do. -/
namespace Lg
open Go
abbrev cloneB : FnIR := irClone 1 (.v (.int .u8 0))
abbrev nilL : L := .v (.slice none 0 0)
theorem clone_own {P : Program} {f : Nat} (ir : compF P f = some cloneB) (c : Bool) (B : List Int) (hl : B.length ≤ 70368744177664) :
    callAt P f [.sl 1 c (B.map u8L)] [] fun l R => (l = nilL ∧ B = [] ∧ R = []) ∨ (l = .view 1 1 0 B.length false ∧ R = [none, some (B.map u8L)]) := by
  refine callAt_enter ir (by simp [cloneB, irClone]) ?_
  simp [cloneB, irClone]
  exact hl
theorem of_own {P : Program} {f g : Nat} {sel : Nat → Bool} (ir : compFS sel P f = some (irBOf g)) (irc : compF P g = some cloneB) (B : List Int) (N : Int) (hl : B.length ≤ 70368744177664) :
    callAt P f [.agg [.sl 1 false (B.map u8L), intL N]] [] fun l R => (l = .ptr 1 0 ∧ B = [] ∧ R = [some [.sl 1 false [], intL N], some [nilL, intL N]]) ∨
      (l = .ptr 3 0 ∧ R = [some [.sl 1 false (B.map u8L), intL N], none, some (B.map u8L), some [.view 1 2 0 B.length false, intL N]]) := by
  refine callAt_enterS ir (by simp [irBOf]) ?_
  simp [irBOf]
  refine lwp_drawN1' ?_
  simp
  refine callT_frame [] (clone_own irc false B hl) (by simp) (by simp) (by simp) (by simp) (by simp) ?_
  rintro l R (⟨rfl, rfl, rfl⟩ | ⟨rfl, rfl⟩)
  · simp [mergeH, setRows, upN]
  · simp [mergeH, setRows, upN]
theorem list_getD {α : Type} {l : List α} {i : Nat} {d : α} (h : i < l.length) : l.getD i d = l[i] := by simp [List.getD, List.getElem?_eq_getElem h]
theorem i64w0 : IntKind.i64.wrap 0 = 0 := by decide
theorem i64w1 : IntKind.i64.wrap 1 = 1 := by decide
theorem add_nil {P : Program} {f : Nat} (ir : compF P f = some irBAdd) (b : Bool) :
    callAt P f [.ptr 0 0, boolL b] [some [nilL, intL 0]] fun l R => l = .tup [] ∧ ∃ x, R = [some [.view 1 2 0 1 false, intL 1], some x, some ((pk [b]).map u8L)] ∧ belowL 3 x = true := by
  refine callAt_enter ir (by simp [irBAdd]) ?_
  simp [irBAdd, i64w0, i64w1]
  have e1 : (pk [true]).map u8L = [u8L 128] := by simp [pk, byteN, List.range_succ]
  have e0 : (pk [false]).map u8L = [u8L 0] := by simp [pk, byteN, List.range_succ]
  have h1 : bitsI .or .u8 0 (shrI .u8 128 0) = 128 := by decide +kernel
  cases b
  · simp [e0, i64w1]
  · simp [e1, i64w0, i64w1, h1]
theorem tmod8 {n : Nat} : ((n : Int)).tmod 8 = ((n % 8 : Nat) : Int) := by rw [Int.tmod_eq_emod_of_nonneg (by omega)]; omega
theorem idx8 {n : Nat} (h : n ≤ 281474976710656) : IntKind.i64.wrap ((n : Int) / 8) = ((n / 8 : Nat) : Int) := by rw [wrap_id (by omega) (by omega)]; omega
theorem rem8 {n : Nat} : IntKind.i64.wrap ((n % 8 : Nat) : Int) = ((n % 8 : Nat) : Int) := wrap_id (by omega) (by omega)
theorem suc64 {n : Nat} (h : n ≤ 281474976710656) : IntKind.i64.wrap ((n : Int) + 1) = (n : Int) + 1 := wrap_id (by omega) (by omega)
theorem add_full {P : Program} {f : Nat} (ir : compF P f = some irBAdd) (b : Bool) (c : Bool) (l : List Bool) (h8 : l.length % 8 = 0) (hl : l.length ≤ 281474976710656) {q : Nat} (hq : q = l.length / 8) :
    callAt P f [.ptr 0 0, boolL b] [some [.view 1 1 0 q c, intL l.length], some ((pk l).map u8L)] fun r R => r = .tup [] ∧
      ∃ x, R = [some [.view 1 3 0 (q + 1) false, intL (l.length + 1)], none, some x, some ((pk (l ++ [b])).map u8L)] ∧ belowL 4 x = true := by
  refine callAt_enter ir (by simp [irBAdd]) ?_
  have hlen : (l.length + 7) / 8 = q := by omega
  have hrem : ((l.length : Int)).tmod 8 = 0 := by rw [tmod8, h8]; rfl
  have hidx : IntKind.i64.wrap ((l.length : Int) / 8) = (q : Int) := by rw [hq]; exact idx8 hl
  have hget : (List.map u8L (pk l) ++ [u8L 0])[q]? = some (u8L 0) := by rw [List.getElem?_append_right (by simp; omega)]; simp [hlen]
  have hset : ∀ x, (List.map u8L (pk l) ++ [u8L 0]).set q x = List.map u8L (pk l) ++ [x] := fun x => by rw [List.set_append_right _ _ (by simp; omega)]; simp [hlen]
  have hor : bitsI .or .u8 0 (shrI .u8 128 0) = 128 := by decide +kernel
  have hb : q ≤ 70368744177663 := by omega
  simp [irBAdd, i64w0, hrem, hlen, hidx, hget, suc64 hl, hset, hor, hb]
  rw [pk_snoc, if_pos h8]
  refine ⟨fun hb => ⟨by omega, ?_⟩, fun hb => ?_⟩
  · simp [hb]
  · simp [hb]
theorem add_in {P : Program} {f : Nat} (ir : compF P f = some irBAdd) (b : Bool) (c : Bool) (l : List Bool) (h8 : l.length % 8 ≠ 0) (hl : l.length ≤ 281474976710656) {q : Nat} (hq : q = l.length / 8 + 1) :
    callAt P f [.ptr 0 0, boolL b] [some [.view 1 1 0 q c, intL l.length], some ((pk l).map u8L)] fun r R => r = .tup [] ∧
      R = [some [.view 1 1 0 q c, intL (l.length + 1)], some ((pk (l ++ [b])).map u8L)] := by
  refine callAt_enter ir (by simp [irBAdd]) ?_
  obtain ⟨p, hp⟩ : ∃ p, p = l.length / 8 := ⟨_, rfl⟩
  obtain ⟨m, hm⟩ : ∃ m, m = l.length % 8 := ⟨_, rfl⟩
  have hlen : (l.length + 7) / 8 = q := by omega
  have hrem : ((l.length : Int)).tmod 8 = (m : Int) := by rw [hm]; exact tmod8
  have hpk : p < (pk l).length := by rw [pk_length]; omega
  have hget : (List.map u8L (pk l))[p]? = some (u8L ((pk l).getD p 0)) := by simp [List.getElem?_eq_getElem hpk, List.getD]
  have hidx : IntKind.i64.wrap ((l.length : Int) / 8) = (p : Int) := by rw [hp]; exact idx8 hl
  have hm64 : IntKind.i64.wrap (m : Int) = (m : Int) := by rw [hm]; exact rem8
  have hm0 : ¬ m = 0 := by omega
  have hmap : ∀ x : Int, (List.map u8L (pk l)).set p (u8L x) = ((pk l).set p x).map u8L := fun x => by rw [List.map_set]
  simp [irBAdd, i64w0, hrem, hlen, hidx, hget, suc64 hl, hm64, hm0]
  rw [pk_snoc, if_neg h8]
  refine ⟨fun hb => ⟨by omega, by omega, ?_⟩, fun hb => by simp [hb]⟩
  rw [if_pos hb, List.map_set, ← hp, ← hm]
  rfl
def shN (n k : Nat) : Nat := n / 2 ^ k
theorem shN_zero {n : Nat} : shN n 0 = n := by simp [shN]
theorem shN_shr {n k : Nat} : shrI .u64 (shN n k : Int) 1 = (shN n (k + 1) : Int) := by
  unfold shN shrI
  rw [show (min (1 : Int).toNat IntKind.u64.bits) = 1 from rfl, Nat.pow_succ, ← Nat.div_div_eq_div_mul, Int.fdiv_eq_ediv_of_nonneg _ (by omega)]
  omega
theorem shN_pos {n k : Nat} (hn : n < 2 ^ 64) : 0 < shN n k ↔ k < wid n := by
  have h1 := wid_le (k := k) hn
  have h2 : 0 < shN n k ↔ 2 ^ k ≤ n := by unfold shN; exact Nat.div_pos_iff.trans ⟨fun h => h.2, fun h => ⟨Nat.pos_of_ne_zero (by simp), h⟩⟩
  rw [h2]
  omega
theorem shN_div2 {n k : Nat} : shN n k / 2 = shN n (k + 1) := by unfold shN; rw [Nat.div_div_eq_div_mul, ← Nat.pow_succ]
theorem widB_gen {P : Program} {f : Nat} (ir : compF P f = some irBWide) (n : Nat) (hn : n < 2 ^ 64) : PC P f [u64L n] (intL (wid n)) := by
  refine pc_of_call (callAt_enter ir (by simp [irBWide]) ?_)
  simp [irBWide]
  refine lwp_loop (fun k : Nat => [(0, u64L (shN n k)), (3, intL k)]) (fun _ => []) (fun k => 64 - k) (fun k => k ≤ wid n) 0 (by simp) ⟨[], by simp [shN_zero]⟩ ?_
  intro k hk
  have hw : wid n ≤ 64 := (wid_le hn).2 hn
  by_cases h : k < wid n
  · have h0 := (shN_pos hn).2 h
    simp [h0, shN_shr, suc64 (show k ≤ 281474976710656 by omega)]
    exact ⟨k + 1, by omega, by simp only; omega, [], by simp⟩
  · have h0 : ¬ 0 < shN n k := fun h' => h ((shN_pos hn).1 h')
    have e : wid n = k := by omega
    simp [h0, e]
abbrev eachL (one : Nat) (B : List Int) (N at' wide : Int) : L := .fn (.func one) [] [.pp [intL at'], .pp [intL wide], .pp [.sl 1 false (B.map u8L), intL N]]
theorem each_gen {P : Program} {f one : Nat} (ir : compF P f = some (irBEach one)) (B : List Int) (N at' wide : Int) : PC P f [.agg [.sl 1 false (B.map u8L), intL N], intL at', intL wide] (eachL one B N at' wide) := by
  refine pc_of_call (callAt_enter ir (by simp [irBEach]) ?_)
  simp [irBEach]
theorem weak_more {k : Nat} {H H' : Heap} {E E' : Env} (h : weak k [] H [] H') (hk : k ≤ H'.length) (hE : ∀ p ∈ E', below k p.2 = true ∧ (p.2 = .any ∨ lk E p.1 = p.2)) : weak k E H E' H' := by
  obtain ⟨σ, h1, h2, h3, -⟩ := h
  have hσ : ∀ i, i < k → σ.getD i 0 = i := fun i hi => by
    have := congrArg (fun l : List Nat => l[i]?) h1
    simp only [List.getElem?_take, hi, if_true, List.getElem?_range hi] at this
    simp [List.getD, this]
  refine ⟨σ, h1, h2, h3, fun p hp => ?_⟩
  obtain ⟨q1, q2⟩ := hE p hp
  refine ⟨below_mono hk _ q1, ?_⟩
  rw [ren_id hσ _ q1]
  exact q2
theorem each1_gen {P : Program} {one : Nat} (ir : compF P one = some irBEach1) {B : List Int} {N : Int} (hb : ∀ z ∈ B, isByte z) {at' wide : Nat} (hlen : at' + wide ≤ 8 * B.length) (hbig : 8 * B.length ≤ 281474976710656) {h : Nat} {H : Heap} (hh : h < H.length)
    {K : L → Heap → Prop} (inv : Nat → Heap → Prop) (h0 : ∃ H1, H.length ≤ H1.length ∧ weak H.length [] H [] H1 ∧ inv 0 H1)
    (round : ∀ j H', j < wide → inv j H' → callY P h [boolL (bitB B (at' + j))] H' (fun r H'' => r = boolL true ∧ ∃ H1, H.length ≤ H1.length ∧ weak H.length [] H'' [] H1 ∧ inv (j + 1) H1))
    (hK : ∀ H', inv wide H' → K (.tup []) H') : callAt P one [.yl h, .pp [intL at'], .pp [intL wide], .pp [.sl 1 false (B.map u8L), intL N]] H K := by
  refine callAt_enter ir (by simp [irBEach1]) ?_
  simp [irBEach1]
  obtain ⟨H1, k1, k2, k3⟩ := h0
  refine lwp_loop (fun x : Nat × Heap => [(0, .yl h), (1, .pp [intL at']), (2, .pp [intL wide]), (3, .pp [.sl 1 false (B.map u8L), intL N]), (5, intL (at' + x.1))]) (fun x => x.2) (fun x => wide - x.1) (fun x => x.1 ≤ wide ∧ H.length ≤ x.2.length ∧ inv x.1 x.2) (0, H1) ⟨by omega, k1, k3⟩ ?_ ?_
  · refine weak_more k2 k1 ?_
    simp [hh]
  rintro ⟨j, H'⟩ ⟨hj, hH', hi⟩
  simp only at hj hH' hi
  obtain ⟨g, hg⟩ : ∃ g, g = at' + j := ⟨_, rfl⟩
  obtain ⟨p, hp⟩ : ∃ p, p = g / 8 := ⟨_, rfl⟩
  obtain ⟨m, hm⟩ : ∃ m, m = g % 8 := ⟨_, rfl⟩
  have hg1 : (at' : Int) + (j : Int) = (g : Int) := by omega
  have hend : IntKind.i64.wrap ((at' : Int) + (wide : Int)) = (at' : Int) + (wide : Int) := wrap_id (by omega) (by omega)
  by_cases hlt : j < wide
  · have hlt' : (g : Int) < (at' : Int) + (wide : Int) := by omega
    have hidx : IntKind.i64.wrap ((g : Int) / 8) = (p : Int) := by rw [hp]; exact idx8 (by omega)
    have hrem : ((g : Int)).tmod 8 = (m : Int) := by rw [hm]; exact tmod8
    have hm64 : IntKind.i64.wrap (m : Int) = (m : Int) := by rw [hm]; exact rem8
    have hpB : p < B.length := by omega
    obtain ⟨z, hz⟩ : ∃ z, B[p]? = some z := ⟨_, List.getElem?_eq_getElem hpB⟩
    have hzD : B.getD p 0 = z := by simp [List.getD, hz]
    have hbit := bit_test (B := B) (k := g) hb (by omega)
    rw [← hp, ← hm, hzD] at hbit
    have hbit2 : (!decide (bitsI .and .u8 z (shrI .u8 128 (m : Int)) = 0)) = bitB B g := by
      cases h : bitB B g
      · simp [hbit.2 h]
      · have : ¬ bitsI .and .u8 z (shrI .u8 128 (m : Int)) = 0 := fun hx => by rw [hbit.1 hx] at h; cases h
        simp [this]
    have r := round j H' hlt hi
    rw [← hg] at r
    simp [hg1, hend, hlt', hidx, hrem, hm64, hz, hbit2]
    refine callY_mono ?_ r
    rintro l H'' ⟨rfl, H2, q1, q2, q3⟩
    have hsuc : IntKind.i64.wrap ((g : Int) + 1) = (g : Int) + 1 := suc64 (by omega)
    simp [hsuc]
    refine ⟨(j + 1, H2), ⟨by simp only; omega, q1, q3⟩, by simp only; omega, weak_more q2 q1 ?_⟩
    simp [hh]
    omega
  · have e : j = wide := by omega
    subst e
    rw [hg1] at hend
    simp [hg1, hend]
    exact hK H' hi
end Lg
/- Numbers of so many bits: numbers that are taken. -/
namespace Lg
open Go
def segB (B : List Int) (at' wide : Nat) : List Bool := (List.range wide).map fun j => bitB B (at' + j)
@[simp] theorem segB_length {B : List Int} {a n : Nat} : (segB B a n).length = n := by simp [segB]
theorem segB_zero {B : List Int} {a : Nat} : segB B a 0 = [] := rfl
theorem segB_succ {B : List Int} {a n : Nat} : segB B a (n + 1) = segB B a n ++ [bitB B (a + n)] := by simp [segB, List.range_succ]
def takeV (B : List Int) (N at' wide : Int) : Int × Int :=
  if wide < 0 ∨ 64 < wide then (0, 1) else if at' < 0 ∨ N - at' < wide then (0, 10) else ((numOf (segB B at'.toNat wide.toNat) : Int), 0)
theorem shl_bit {x : Nat} (h : x < 2 ^ 63) : shlI .u64 (x : Int) 1 = ((2 * x : Nat) : Int) := by
  unfold shlI
  rw [show (min (1 : Int).toNat IntKind.u64.bits) = 1 from rfl]
  simp [IntKind.wrap, IntKind.signed, IntKind.bits]
  omega
theorem or_bit {x : Nat} (h : x < 2 ^ 63) : bitsI .or .u64 ((2 * x : Nat) : Int) 1 = ((2 * x + 1 : Nat) : Int) := by
  unfold bitsI
  simp only
  have e : (BitVec.ofInt IntKind.u64.bits ((2 * x : Nat) : Int) ||| BitVec.ofInt IntKind.u64.bits 1 : BitVec IntKind.u64.bits) = BitVec.ofNat IntKind.u64.bits (2 * x + 1) := by
    apply BitVec.eq_of_toNat_eq
    rw [BitVec.toNat_or, BitVec.ofInt_natCast, show BitVec.ofInt IntKind.u64.bits 1 = BitVec.ofNat IntKind.u64.bits 1 from rfl]
    simp only [BitVec.toNat_ofNat]
    rw [show 2 ^ IntKind.u64.bits = 18446744073709551616 from rfl, Nat.mod_eq_of_lt (by omega), Nat.mod_eq_of_lt (by omega), Nat.mod_eq_of_lt (by omega)]
    have := Nat.two_pow_add_eq_or_of_lt (i := 1) (b := 1) (by omega) x
    rw [Nat.pow_one] at this
    exact this.symm
  rw [e]
  simp [IntKind.wrap, IntKind.signed, IntKind.bits]
  omega
theorem takeB_gen {P : Program} {f each one : Nat} {rc : RC} (ir : compF P f = some (irBTake each rc)) (ire : compF P each = some (irBEach one)) (ir1 : compF P one = some irBEach1) (hrc : RcOK (fun _ => false) P 37 rc [30] irBTakeAs irBTakeBd)
    {B : List Int} {N at' wide : Int} (hb : ∀ z ∈ B, isByte z) (hN : 0 ≤ N ∧ N ≤ 8 * B.length) (hbig : 8 * B.length ≤ 281474976710656) (ha : at' ≤ 9223372036854775807) :
    PC P f [.agg [.sl 1 false (B.map u8L), intL N], intL at', intL wide] (.tup [u64L (takeV B N at' wide).1, intL (takeV B N at' wide).2]) := by
  refine pc_of_call (callAt_enter ir (by simp [irBTake]) ?_)
  have hw : (wide < 0 ∨ 64 < wide) ∨ ¬ (wide < 0 ∨ 64 < wide) := Classical.em _
  rcases hw with hw | hw
  · have e : takeV B N at' wide = (0, 1) := by unfold takeV; rw [if_pos hw]
    rw [e]
    by_cases h0 : wide < 0
    · simp [irBTake, h0]
    · have h1 : 64 < wide := by omega
      simp [irBTake, h0, h1]
  have h0 : ¬ wide < 0 := by omega
  have h1 : ¬ 64 < wide := by omega
  by_cases ha0 : at' < 0
  · have e : takeV B N at' wide = (0, 10) := by unfold takeV; rw [if_neg hw, if_pos (.inl ha0)]
    rw [e]
    simp [irBTake, h0, h1, ha0]
  have hsub : IntKind.i64.wrap (N - at') = N - at' := IntWalk.i64_in _ ⟨by omega, by omega⟩
  by_cases hn : N - at' < wide
  · have e : takeV B N at' wide = (0, 10) := by unfold takeV; rw [if_neg hw, if_pos (.inr hn)]
    rw [e]
    simp [irBTake, h0, h1, ha0, hsub, hn]
  have e : takeV B N at' wide = ((numOf (segB B at'.toNat wide.toNat) : Int), 0) := by unfold takeV; rw [if_neg hw, if_neg (by omega)]
  rw [e]
  obtain ⟨a, rfl⟩ := Int.eq_ofNat_of_zero_le (show 0 ≤ at' by omega)
  obtain ⟨m, rfl⟩ := Int.eq_ofNat_of_zero_le (show 0 ≤ wide by omega)
  simp [irBTake, h0, h1, ha0, hsub, hn]
  refine callT_closed (each_gen ire B N a m) (by simp) ?_
  simp
  refine each1_gen ir1 hb (at' := a) (wide := m) (by omega) hbig (by simp) (fun j H' => H' = [some [L.sl 1 false (List.map u8L B), intL N], some [u64L (numOf (segB B a j))], some [.lp rc .ready none [8] [.ptr 1 0]]]) ⟨_, by simp, ?_, rfl⟩ ?_ ?_
  · exact ⟨[0, 1, 2], by simp [segB_zero, numOf]⟩
  · rintro j H' hj rfl
    refine callY_of rfl hrc rfl ?_
    simp [irBTakeAs, irBTakeBd]
    have hlt : numOf (segB B a j) < 2 ^ 63 := by
      have h1 := numOf_lt (segB B a j)
      rw [segB_length] at h1
      exact Nat.lt_of_lt_of_le h1 (Nat.pow_le_pow_right (by omega) (by omega))
    rw [shl_bit hlt, segB_succ, numOf_snoc]
    refine ⟨fun hb' => ⟨[0, 1, 2], ?_⟩, fun hb' => ⟨[0, 1, 2], ?_⟩⟩
    · rw [or_bit hlt, hb']; simp
    · rw [hb']; simp
  · rintro H' rfl
    simp
end Lg
/- Numbers of so many bits: numbers that are put. -/
namespace Lg
open Go
def putV (B : List Int) (N : Int) (n : Nat) (wide : Int) : List Int × Int × Int :=
  if wide < 0 ∨ 64 < wide then (B, N, 1) else if wide < wid n then (B, N, 5) else (pk (un B N.toNat ++ numB n wide.toNat), N + wide, 0)
theorem and1 {x : Nat} (h : x < 2 ^ 64) : bitsI .and .u64 (x : Int) 1 = ((x % 2 : Nat) : Int) := by
  unfold bitsI
  simp only
  have e : (BitVec.ofInt IntKind.u64.bits (x : Int) &&& BitVec.ofInt IntKind.u64.bits 1 : BitVec IntKind.u64.bits).toNat = x % 2 := by
    rw [BitVec.toNat_and, BitVec.ofInt_natCast, show BitVec.ofInt IntKind.u64.bits 1 = BitVec.ofNat IntKind.u64.bits 1 from rfl]
    simp only [BitVec.toNat_ofNat]
    rw [show 2 ^ IntKind.u64.bits = 18446744073709551616 from rfl, Nat.mod_eq_of_lt (by omega), Nat.mod_eq_of_lt (by omega), Nat.and_one_is_mod]
  rw [e]
  simp [IntKind.wrap, IntKind.signed, IntKind.bits]
  omega
theorem shr_nat {x i : Nat} (hi : i ≤ 64) : shrI .u64 (x : Int) (i : Int) = ((shN x i : Nat) : Int) := by
  unfold shrI shN
  rw [show (min (i : Int).toNat IntKind.u64.bits) = i by simp [IntKind.bits]; omega, show (2 : Int) ^ i = ((2 ^ i : Nat) : Int) by simp, Int.fdiv_eq_ediv_of_nonneg _ (Int.natCast_nonneg _)]
  exact (Int.natCast_ediv _ _).symm
def topB (n wide k : Nat) : List Bool := (numB n wide).take k
theorem topB_zero {n wide : Nat} : topB n wide 0 = [] := by simp [topB]
theorem topB_all {n wide : Nat} : topB n wide wide = numB n wide := by unfold topB; rw [List.take_of_length_le (by simp)]
theorem topB_succ {n wide k : Nat} (h : k < wide) : topB n wide (k + 1) = topB n wide k ++ [decide (shN n (wide - 1 - k) % 2 = 1)] := by
  unfold topB
  rw [List.take_succ_eq_append_getElem (by simpa using h)]
  simp only [numB, shN, List.getElem_map, List.getElem_range]
  rfl
theorem topB_length {n wide k : Nat} (h : k ≤ wide) : (topB n wide k).length = k := by simp [topB]; omega
def putBody (add : Nat) : IR := (.seq (.seq (.ops [⟨some 26, .mov (.t 9), none⟩,
      ⟨some 27, .bin .geq false (.t 26) (.c (.v (.int .i64 0))), none⟩])
    (.cond (.t 27)
      .skip
      (.exit 0)))
    (.seq (.block 1 (.draw [[⟨some 30, .mov (.t 8), none⟩,
        ⟨some 31, .nilchk (.t 30), none⟩,
        ⟨some 32, .faddr 0 (.t 31), none⟩,
        ⟨some 33, .mov (.t 1), none⟩,
        ⟨some 34, .mov (.t 9), none⟩,
        ⟨some 35, .bin .shr false (.t 33) (.t 34), none⟩,
        ⟨some 36, .bin .and false (.t 35) (.c (.v (.int .u64 1))), none⟩,
        ⟨some 37, .bin .eql false (.t 36) (.c (.v (.int .u64 1))), none⟩],
      [⟨some 38, .call add [(.t 32), (.t 37)], none⟩]]))
    (.ops [⟨some 28, .mov (.t 9), none⟩,
      ⟨some 29, .bin .sub false (.t 28) (.c (.v (.int .i64 1))), none⟩,
      ⟨some 9, .mov (.t 29), none⟩])))
def pbE (n m : Nat) (x : Option Nat) : Env := [(1, u64L n), (6, .ptr 0 0), (8, .ptr 1 0), (9, intL (m - 1 - (x.getD 0 : Nat)))]
def pbH (l0 : List Bool) (n m : Nat) : Option Nat → Heap
  | none => [some [nilL, intL 0], some [nilL, intL 0]]
  | some k => [some [nilL, intL 0], some [.view 1 2 0 ((l0.length + k + 7) / 8) false, intL ((l0.length + k : Nat) : Int)], some ((pk (l0 ++ topB n m k)).map u8L)]
def pbI (l0 : List Bool) (m : Nat) : Option Nat → Prop
  | none => l0 = []
  | some k => k ≤ m
theorem put_round {P : Program} {ad : Nat} (ira : compF P ad = some irBAdd) {l0 : List Bool} {n m : Nat} (hl : l0.length ≤ 281474976710000) (hn : n < 2 ^ 64) (hm : m ≤ 64) {Q : X → Env → Heap → Prop}
    (hQ : ∀ x E', pbI l0 m x → x.getD 0 = m → lk E' 8 = .ptr 1 0 → lk E' 6 = .ptr 0 0 → Q (.exit 0) E' (pbH l0 n m x)) (x : Option Nat) (hx : pbI l0 m x) :
    lwp P 0 (putBody ad) (X.then (nextT 0 (pbE n m) (pbH l0 n m) (fun x => 2 * (m - x.getD 0) + (if x = none then 1 else 0)) (pbI l0 m) x) Q) (pbE n m x) (pbH l0 n m x) := by
  by_cases hk : x.getD 0 = m
  · have h0 : ¬ ((x.getD 0 : Nat) : Int) ≤ (m : Int) - 1 := by omega
    simp [putBody, pbE, h0]
    refine hQ x _ hx hk ?_ ?_ <;> simp
  · have hk' : x.getD 0 < m := by cases x with
      | none => simp at hk ⊢; omega
      | some k => have : k ≤ m := hx; simp at hk ⊢; omega
    obtain ⟨i, hi⟩ : ∃ i : Nat, i = m - 1 - x.getD 0 := ⟨_, rfl⟩
    have hi' : (m : Int) - 1 - ((x.getD 0 : Nat) : Int) = (i : Int) := by omega
    have hsub : IntKind.i64.wrap ((i : Int) - 1) = (i : Int) - 1 := IntWalk.i64_in _ ⟨by omega, by omega⟩
    simp [putBody, pbE, hi', shr_nat (show i ≤ 64 by omega)]
    have hsh : shN n i < 2 ^ 64 := Nat.lt_of_le_of_lt (Nat.div_le_self _ _) hn
    obtain ⟨b, hb⟩ : ∃ b, b = decide (shN n i % 2 = 1) := ⟨_, rfl⟩
    have hbit : decide (bitsI .and .u64 (shN n i : Int) 1 = 1) = b := by
      rw [and1 hsh, hb]; refine decide_eq_decide.2 ?_; omega
    rw [hbit]
    cases x with
    | none =>
      have hl0 : l0 = [] := hx
      subst hl0
      simp only [pbH]
      have hb1 : b = decide (shN n (m - 1 - 0) % 2 = 1) := by rw [hb, hi]; rfl
      have htop : topB n m 1 = [b] := by rw [topB_succ (by simpa using hk'), topB_zero, hb1]; rfl
      refine callT_frame [1] (add_nil ira b) (by simp) (by simp) (by simp) (by simp) (by simp) ?_
      rintro l R ⟨rfl, y, rfl, hy⟩
      simp [mergeH, setRows, upN, hsub]
      refine ⟨some 1, (show 1 ≤ m by simp at hk'; omega), by simp at hk' ⊢; omega, [0, 1, 3], ?_⟩
      simp at hi'
      simp [pbH, pbE, htop]
      omega
    | some k =>
      have hk0 : k ≤ m := hx
      simp at hk' hi hi'
      obtain ⟨l, hl1⟩ : ∃ l, l = l0 ++ topB n m k := ⟨_, rfl⟩
      have hll : l.length = l0.length + k := by rw [hl1, List.length_append, topB_length hk0]
      have hnext : l0 ++ topB n m (k + 1) = l ++ [b] := by rw [hl1, topB_succ hk', ← hi, hb, List.append_assoc]
      obtain ⟨q, hq⟩ : ∃ q, q = (l0.length + k + 7) / 8 := ⟨_, rfl⟩
      simp only [pbH]
      rw [← hl1, ← hq, ← hll]
      by_cases h8 : l.length % 8 = 0
      · refine callT_frame [1, 2] (add_full ira b false l h8 (by omega) (q := q) (by omega)) (by simp) (by simp) (by simp) (by simp) (by simp) ?_
        rintro r R ⟨rfl, y, rfl, hy⟩
        simp [mergeH, setRows, upN, hsub]
        refine ⟨some (k + 1), hk', by simp; omega, [0, 1, 4], ?_⟩
        simp [pbH, pbE, hnext]
        omega
      · refine callT_frame [1, 2] (add_in ira b false l h8 (by omega) (q := q) (by omega)) (by simp) (by simp) (by simp) (by simp) (by simp) ?_
        rintro r R ⟨rfl, rfl⟩
        simp [mergeH, setRows, upN, hsub]
        refine ⟨some (k + 1), hk', by simp; omega, [0, 1, 2], ?_⟩
        simp [pbH, pbE, hnext]
        omega
theorem sub_agg2 {e : Nat} {c : Bool} {x : L} : Sub (.agg [nilL, x]) (.agg [.sl e c [], x]) := .agg rfl fun j => match j with
  | 0 => .nil _ _
  | 1 => .refl _
  | _ + 2 => .refl _
theorem sub_tup1 {a b x : L} (h : Sub a b) : Sub (.tup [a, x]) (.tup [b, x]) := .tup rfl fun j => match j with
  | 0 => h
  | 1 => .refl _
  | _ + 2 => .refl _
set_option maxHeartbeats 1000000 in
theorem putB_gen {P : Program} {f w o ad cl : Nat} {sel : Nat → Bool} (ir : compF P f = some (irBPut w o ad)) (irw : compF P w = some irBWide) (iro : compFS sel P o = some (irBOf cl)) (irc : compF P cl = some cloneB) (ira : compF P ad = some irBAdd)
    {B : List Int} {N : Int} {n : Nat} {wide : Int} (hb : ∀ z ∈ B, isByte z) (hR : rightB B N) (hN : N ≤ 281474976710000) (hn : n < 2 ^ 64) :
    PC P f [.agg [.sl 1 false (B.map u8L), intL N], u64L n, intL wide] (.tup [.agg [.sl 1 false ((putV B N n wide).1.map u8L), intL (putV B N n wide).2.1], intL (putV B N n wide).2.2]) := by
  have hBl : B.length = (N.toNat + 7) / 8 := hR.2.1
  have hN0 : 0 ≤ N := hR.1
  refine pc_of_call' (callAt_enter ir (by simp [irBPut]) ?_)
  have hw : (wide < 0 ∨ 64 < wide) ∨ ¬ (wide < 0 ∨ 64 < wide) := Classical.em _
  rcases hw with hw | hw
  · have e : putV B N n wide = (B, N, 1) := by unfold putV; rw [if_pos hw]
    rw [e]
    by_cases h0 : wide < 0
    · simp [irBPut, h0]
      exact .refl _
    · have h1 : 64 < wide := by omega
      simp [irBPut, h0, h1]
      exact .refl _
  have h0 : ¬ wide < 0 := by omega
  have h1 : ¬ 64 < wide := by omega
  have hwid : wid n ≤ 64 := (wid_le hn).2 hn
  by_cases hlt : wide < wid n
  · have e : putV B N n wide = (B, N, 5) := by unfold putV; rw [if_neg hw, if_pos hlt]
    rw [e]
    simp [irBPut, h0, h1]
    refine callT_plain (widB_gen irw n hn) rfl (by simp) ?_
    simp [hlt]
    exact .refl _
  have e : putV B N n wide = (pk (un B N.toNat ++ numB n wide.toNat), N + wide, 0) := by unfold putV; rw [if_neg hw, if_neg hlt]
  rw [e]
  obtain ⟨m, rfl⟩ := Int.eq_ofNat_of_zero_le (show 0 ≤ wide by omega)
  obtain ⟨N, rfl⟩ := Int.eq_ofNat_of_zero_le hN0
  simp only [Int.toNat_natCast]
  simp [irBPut, h0, h1]
  refine callT_plain (widB_gen irw n hn) rfl (by simp) ?_
  have hlt' : ¬ m < wid n := by omega
  simp [hlt']
  have hl0 : (un B N).length = N := by simp
  have hpk : pk (un B N) = B := by have := pk_un hb hR; rwa [Int.toNat_natCast] at this
  have hm1 : IntKind.i64.wrap ((m : Int) - 1) = (m : Int) - 1 := IntWalk.i64_in _ ⟨by omega, by omega⟩
  refine callT_frame [] (of_own iro irc B N (by omega)) (by simp) (by simp) (by simp) (by simp) (by simp) ?_
  rintro l R (⟨rfl, rfl, rfl⟩ | ⟨rfl, rfl⟩)
  · have hN0 : N = 0 := by simp at hBl; omega
    subst hN0
    simp [mergeH, setRows, upN, hm1]
    refine lwp_loop (pbE n m) (pbH (un [] 0) n m) (fun x => 2 * (m - x.getD 0) + (if x = none then 1 else 0)) (pbI (un [] 0) m) none rfl ⟨[1, 3], by simp [pbE, pbH]⟩ ?_
    refine fun x hx => put_round ira (by simp) hn (by omega) ?_ x hx
    intro x E' hx hk h8 h6
    cases x with
    | none =>
      simp at hk
      subst hk
      simp [pbH, h8, h6, numB_zero]
      exact sub_tup1 sub_agg2
    | some k =>
      simp at hk
      subst hk
      simp [pbH, h8, h6, topB_all]
      exact .refl _
  · simp [mergeH, setRows, upN, hm1]
    refine lwp_loop (pbE n m) (pbH (un B N) n m) (fun x => 2 * (m - x.getD 0) + (if x = none then 1 else 0)) (pbI (un B N) m) (some 0) (Nat.zero_le _) ⟨[1, 5, 4], by simp [pbE, pbH, topB_zero, hpk, hBl]⟩ ?_
    refine fun x hx => put_round ira (by simp; omega) hn (by omega) ?_ x hx
    intro x E' hx hk h8 h6
    cases x with
    | none =>
      simp at hk
      subst hk
      simp [pbH, h8, h6, numB_zero]
      have h1 : un B N = [] := hx
      have h2 : N = 0 := by rw [← hl0, h1]; rfl
      subst h2
      rw [h1]
      exact sub_tup1 sub_agg2
    | some k =>
      simp at hk
      subst hk
      simp [pbH, h8, h6, topB_all]
      exact .refl _
end Lg
/- Numbers of so many bits: bits that are joined. -/
namespace Lg
open Go
theorem segB_un {B : List Int} {n : Nat} : segB B 0 n = un B n := by simp [segB, un]
def jnA (x0 x1 x2 x3 : List L) (rc : RC) (l : List Bool) : Heap :=
  if l = [] then [some x0, some x1, some x2, some x3, some [nilL, intL 0], some [.ptr 4 0], some [.lp rc .ready none [5] [.ptr 5 0]]]
  else [some x0, some x1, some x2, some x3, some [.view 1 7 0 ((l.length + 7) / 8) false, intL l.length], some [.ptr 4 0], some [.lp rc .ready none [5] [.ptr 5 0]], some ((pk l).map u8L)]
def jrA (x0 x1 x2 x3 : List L) (rc : RC) (l : List Bool) : Heap :=
  [some x0, some x1, some x2, some x3, none, some ((pk l).map u8L), some [.view 1 5 0 ((l.length + 7) / 8) false, intL l.length], some [.ptr 6 0], some [.lp rc .ready none [5] [.ptr 7 0]]]
def jrB (x0 x1 x2 x3 : List L) (rc : RC) (l : List Bool) : Heap :=
  [some x0, some x1, some x2, some x3, none, none, some [.view 1 9 0 ((l.length + 7) / 8) false, intL l.length], some [.ptr 6 0], some [.lp rc .ready none [5] [.ptr 7 0]], some ((pk l).map u8L)]
section
variable {P : Program} {ad : Nat} {rc : RC} (ira : compF P ad = some irBAdd) (hrc : RcOK (fun _ => false) P 24 rc [13] irBJoinAs (irBJoinBd ad)) {x0 x1 x2 x3 : List L} {l : List Bool} {b : Bool} (hl : l.length ≤ 281474976710656)
include ira hrc hl
theorem join_nil (h0 : belowL 7 x0 = true) (h1 : belowL 7 x1 = true) (h2 : belowL 7 x2 = true) (h3 : belowL 7 x3 = true) :
    callY P 6 [boolL b] (jnA x0 x1 x2 x3 rc l) (fun r H'' => r = boolL true ∧ ∃ H1, 7 ≤ H1.length ∧ weak 7 [] H'' [] H1 ∧ H1 = jnA x0 x1 x2 x3 rc (l ++ [b])) := by
  have hbl : ∀ {n : Nat}, 7 ≤ n → belowL n x0 = true ∧ belowL n x1 = true ∧ belowL n x2 = true ∧ belowL n x3 = true := fun hn => ⟨belowL_mono hn _ h0, belowL_mono hn _ h1, belowL_mono hn _ h2, belowL_mono hn _ h3⟩
  obtain ⟨q, hq⟩ : ∃ q, q = (l.length + 7) / 8 := ⟨_, rfl⟩
  have e1 : ∀ k, (l ++ [b]).length + k = l.length + (k + 1) := fun k => by simp; omega
  by_cases he : l = []
  · subst he
    refine callY_of (ps := [13]) rfl hrc rfl ?_
    simp [irBJoinAs, irBJoinBd, jnA]
    refine callT_frame [4] (add_nil ira b) (by simp) (by simp) (by simp) (by simp) (by simp) ?_
    rintro r R ⟨rfl, y, rfl, hy⟩
    simp [mergeH, setRows, upN]
    refine ⟨[0, 1, 2, 3, 4, 5, 6, 8], ?_⟩
    have f7 : ∀ i, i < 7 → (fun i => ([0, 1, 2, 3, 4, 5, 6, 8] : List Nat)[i]?.getD 0) i = i := by decide
    simp [(renL_id f7 _ h0), (renL_id f7 _ h1), (renL_id f7 _ h2), (renL_id f7 _ h3), hbl]
  · refine callY_of (ps := [13]) (ks := [5]) (ts := [.ptr 5 0]) (by simp [jnA, he]) hrc rfl ?_
    simp only [jnA, he, if_false]
    rw [← hq]
    simp [irBJoinAs, irBJoinBd]
    by_cases h8 : l.length % 8 = 0
    · refine callT_frame [4, 7] (add_full ira b false l h8 hl (q := q) (by omega)) (by simp) (by simp) (by simp) (by simp) (by simp) ?_
      rintro r R ⟨rfl, y, rfl, hy⟩
      simp [mergeH, setRows, upN]
      refine ⟨[0, 1, 2, 3, 4, 5, 6, 9], ?_⟩
      have f7 : ∀ i, i < 7 → (fun i => ([0, 1, 2, 3, 4, 5, 6, 9] : List Nat)[i]?.getD 0) i = i := by decide
      simp [(renL_id f7 _ h0), (renL_id f7 _ h1), (renL_id f7 _ h2), (renL_id f7 _ h3), hbl]
      omega
    · refine callT_frame [4, 7] (add_in ira b false l h8 hl (q := q) (by omega)) (by simp) (by simp) (by simp) (by simp) (by simp) ?_
      rintro r R ⟨rfl, rfl⟩
      simp [mergeH, setRows, upN]
      refine ⟨[0, 1, 2, 3, 4, 5, 6, 7], ?_⟩
      have f7 : ∀ i, i < 7 → (fun i => ([0, 1, 2, 3, 4, 5, 6, 7] : List Nat)[i]?.getD 0) i = i := by decide
      simp [(renL_id f7 _ h0), (renL_id f7 _ h1), (renL_id f7 _ h2), (renL_id f7 _ h3), hbl]
      omega
theorem join_rowA (h0 : belowL 9 x0 = true) (h1 : belowL 9 x1 = true) (h2 : belowL 9 x2 = true) (h3 : belowL 9 x3 = true) :
    callY P 8 [boolL b] (jrA x0 x1 x2 x3 rc l) (fun r H'' => r = boolL true ∧ ∃ H1, 9 ≤ H1.length ∧ weak 9 [] H'' [] H1 ∧ (H1 = jrA x0 x1 x2 x3 rc (l ++ [b]) ∨ H1 = jrB x0 x1 x2 x3 rc (l ++ [b]))) := by
  have hbl : ∀ {n : Nat}, 9 ≤ n → belowL n x0 = true ∧ belowL n x1 = true ∧ belowL n x2 = true ∧ belowL n x3 = true := fun hn => ⟨belowL_mono hn _ h0, belowL_mono hn _ h1, belowL_mono hn _ h2, belowL_mono hn _ h3⟩
  obtain ⟨q, hq⟩ : ∃ q, q = (l.length + 7) / 8 := ⟨_, rfl⟩
  have e1 : ∀ k, (l ++ [b]).length + k = l.length + (k + 1) := fun k => by simp; omega
  refine callY_of (ps := [13]) rfl hrc rfl ?_
  simp only [jrA]
  rw [← hq]
  simp [irBJoinAs, irBJoinBd]
  by_cases h8 : l.length % 8 = 0
  · refine callT_frame [6, 5] (add_full ira b false l h8 hl (q := q) (by omega)) (by simp) (by simp) (by simp) (by simp) (by simp) ?_
    rintro r R ⟨rfl, y, rfl, hy⟩
    simp [mergeH, setRows, upN]
    refine ⟨jrB x0 x1 x2 x3 rc (l ++ [b]), by simp [jrB], ⟨[0, 1, 2, 3, 4, 5, 6, 7, 8, 10], ?_⟩, .inr (by simp [jrB])⟩
    have f7 : ∀ i, i < 9 → (fun i => ([0, 1, 2, 3, 4, 5, 6, 7, 8, 10] : List Nat)[i]?.getD 0) i = i := by decide
    simp [(renL_id f7 _ h0), (renL_id f7 _ h1), (renL_id f7 _ h2), (renL_id f7 _ h3), hbl, jrB]
    omega
  · refine callT_frame [6, 5] (add_in ira b false l h8 hl (q := q) (by omega)) (by simp) (by simp) (by simp) (by simp) (by simp) ?_
    rintro r R ⟨rfl, rfl⟩
    simp [mergeH, setRows, upN]
    refine ⟨jrA x0 x1 x2 x3 rc (l ++ [b]), by simp [jrA], ⟨[0, 1, 2, 3, 4, 5, 6, 7, 8], ?_⟩, .inl (by simp [jrA])⟩
    have f7 : ∀ i, i < 9 → (fun i => ([0, 1, 2, 3, 4, 5, 6, 7, 8] : List Nat)[i]?.getD 0) i = i := by decide
    simp [(renL_id f7 _ h0), (renL_id f7 _ h1), (renL_id f7 _ h2), (renL_id f7 _ h3), hbl, jrA]
    omega
theorem join_rowB (h0 : belowL 9 x0 = true) (h1 : belowL 9 x1 = true) (h2 : belowL 9 x2 = true) (h3 : belowL 9 x3 = true) :
    callY P 8 [boolL b] (jrB x0 x1 x2 x3 rc l) (fun r H'' => r = boolL true ∧ ∃ H1, 9 ≤ H1.length ∧ weak 9 [] H'' [] H1 ∧ (H1 = jrA x0 x1 x2 x3 rc (l ++ [b]) ∨ H1 = jrB x0 x1 x2 x3 rc (l ++ [b]))) := by
  have hbl : ∀ {n : Nat}, 9 ≤ n → belowL n x0 = true ∧ belowL n x1 = true ∧ belowL n x2 = true ∧ belowL n x3 = true := fun hn => ⟨belowL_mono hn _ h0, belowL_mono hn _ h1, belowL_mono hn _ h2, belowL_mono hn _ h3⟩
  obtain ⟨q, hq⟩ : ∃ q, q = (l.length + 7) / 8 := ⟨_, rfl⟩
  have e1 : ∀ k, (l ++ [b]).length + k = l.length + (k + 1) := fun k => by simp; omega
  refine callY_of (ps := [13]) rfl hrc rfl ?_
  simp only [jrB]
  rw [← hq]
  simp [irBJoinAs, irBJoinBd]
  by_cases h8 : l.length % 8 = 0
  · refine callT_frame [6, 9] (add_full ira b false l h8 hl (q := q) (by omega)) (by simp) (by simp) (by simp) (by simp) (by simp) ?_
    rintro r R ⟨rfl, y, rfl, hy⟩
    simp [mergeH, setRows, upN]
    refine ⟨jrB x0 x1 x2 x3 rc (l ++ [b]), by simp [jrB], ⟨[0, 1, 2, 3, 4, 5, 6, 7, 8, 11], ?_⟩, .inr (by simp [jrB])⟩
    have f7 : ∀ i, i < 9 → (fun i => ([0, 1, 2, 3, 4, 5, 6, 7, 8, 11] : List Nat)[i]?.getD 0) i = i := by decide
    simp [(renL_id f7 _ h0), (renL_id f7 _ h1), (renL_id f7 _ h2), (renL_id f7 _ h3), hbl, jrB]
    omega
  · refine callT_frame [6, 9] (add_in ira b false l h8 hl (q := q) (by omega)) (by simp) (by simp) (by simp) (by simp) (by simp) ?_
    rintro r R ⟨rfl, rfl⟩
    simp [mergeH, setRows, upN]
    refine ⟨jrB x0 x1 x2 x3 rc (l ++ [b]), by simp [jrB], ⟨[0, 1, 2, 3, 4, 5, 6, 7, 8, 9], ?_⟩, .inr (by simp [jrB])⟩
    have f7 : ∀ i, i < 9 → (fun i => ([0, 1, 2, 3, 4, 5, 6, 7, 8, 9] : List Nat)[i]?.getD 0) i = i := by decide
    simp [(renL_id f7 _ h0), (renL_id f7 _ h1), (renL_id f7 _ h2), (renL_id f7 _ h3), hbl, jrB]
    omega
end
theorem joinB_gen {P : Program} {f o ad cl each one : Nat} {sel : Nat → Bool} {rc : RC} (ir : compF P f = some (irBJoin o each rc)) (iro : compFS sel P o = some (irBOf cl)) (irc : compF P cl = some cloneB) (ira : compF P ad = some irBAdd)
    (ire : compF P each = some (irBEach one)) (ir1 : compF P one = some irBEach1) (hrc : RcOK (fun _ => false) P 24 rc [13] irBJoinAs (irBJoinBd ad))
    {A B : List Int} {N M : Int} (ha : ∀ z ∈ A, isByte z) (hb : ∀ z ∈ B, isByte z) (hR : rightB A N) (hR' : rightB B M) (hN : N ≤ 70368744177664) (hM : M ≤ 70368744177664) :
    PC P f [.agg [.sl 1 false (A.map u8L), intL N], .agg [.sl 1 false (B.map u8L), intL M]] (.agg [.sl 1 false ((pk (un A N.toNat ++ un B M.toNat)).map u8L), intL (N + M)]) := by
  have hAl : A.length = (N.toNat + 7) / 8 := hR.2.1
  have hBl : B.length = (M.toNat + 7) / 8 := hR'.2.1
  have hpk : pk (un A N.toNat) = A := pk_un ha hR
  obtain ⟨N, rfl⟩ := Int.eq_ofNat_of_zero_le hR.1
  obtain ⟨M, rfl⟩ := Int.eq_ofNat_of_zero_le hR'.1
  simp only [Int.toNat_natCast] at *
  refine pc_of_call' (callAt_enter ir (by simp [irBJoin]) ?_)
  simp [irBJoin]
  refine callT_frame [] (of_own iro irc A N (by omega)) (by simp) (by simp) (by simp) (by simp) (by simp) ?_
  rintro l R (⟨rfl, rfl, rfl⟩ | ⟨rfl, rfl⟩)
  · have hN0 : N = 0 := by simp at hAl; omega
    subst hN0
    simp [mergeH, setRows, upN]
    refine callT_closed (each_gen ire B M 0 M) (by simp) ?_
    simp
    refine each1_gen ir1 hb (at' := 0) (wide := M) (by omega) (by omega) (by simp) (fun j H' => H' = jnA [.sl 1 false [], intL 0] [.sl 1 false (B.map u8L), intL M] [nilL, intL 0] [.sl 1 false [], intL 0] rc (segB B 0 j)) ⟨_, by simp [jnA, segB_zero], ?_, rfl⟩ ?_ ?_
    · refine ⟨[0, 1, 2, 3, 4, 5, 6], ?_⟩
      simp [jnA, segB_zero]
    · rintro j H' hj rfl
      have := join_nil ira hrc (x0 := [.sl 1 false [], intL 0]) (x1 := [.sl 1 false (B.map u8L), intL M]) (x2 := [nilL, intL 0]) (x3 := [.sl 1 false [], intL 0]) (l := segB B 0 j) (b := bitB B (0 + j)) (by simp; omega) (by simp [belowL]) (by simp [belowL]) (by simp [belowL]) (by simp [belowL])
      rw [← segB_succ] at this
      exact this
    · rintro H' rfl
      rw [segB_un]
      have : un ([] : List Int) 0 = [] := rfl
      rw [this, List.nil_append]
      by_cases he : un B M = []
      · have hM0 : M = 0 := by have := congrArg List.length he; simpa using this
        subst hM0
        simp [jnA, he, pk_nil]
        exact sub_agg2
      · simp [jnA, he]
        exact .refl _
  · simp [mergeH, setRows, upN]
    refine callT_closed (each_gen ire B M 0 M) (by simp) ?_
    simp
    have hq : (N + 7) / 8 = A.length := hAl.symm
    refine each1_gen ir1 hb (at' := 0) (wide := M) (by omega) (by omega) (by simp) (fun j H' => H' = jrA [.sl 1 false (A.map u8L), intL N] [.sl 1 false (B.map u8L), intL M] [nilL, intL 0] [.sl 1 false (A.map u8L), intL N] rc (un A N ++ segB B 0 j) ∨
      H' = jrB [.sl 1 false (A.map u8L), intL N] [.sl 1 false (B.map u8L), intL M] [nilL, intL 0] [.sl 1 false (A.map u8L), intL N] rc (un A N ++ segB B 0 j)) ⟨_, by simp [jrA, segB_zero], ?_, .inl rfl⟩ ?_ ?_
    · refine ⟨[0, 1, 2, 3, 4, 5, 6, 7, 8], ?_⟩
      simp [jrA, segB_zero, hpk, hq]
    · rintro j H' hj (rfl | rfl)
      · have := join_rowA ira hrc (x0 := [.sl 1 false (A.map u8L), intL N]) (x1 := [.sl 1 false (B.map u8L), intL M]) (x2 := [nilL, intL 0]) (x3 := [.sl 1 false (A.map u8L), intL N]) (l := un A N ++ segB B 0 j) (b := bitB B (0 + j)) (by simp; omega) (by simp [belowL]) (by simp [belowL]) (by simp [belowL]) (by simp [belowL])
        rw [List.append_assoc, ← segB_succ] at this
        exact this
      · have := join_rowB ira hrc (x0 := [.sl 1 false (A.map u8L), intL N]) (x1 := [.sl 1 false (B.map u8L), intL M]) (x2 := [nilL, intL 0]) (x3 := [.sl 1 false (A.map u8L), intL N]) (l := un A N ++ segB B 0 j) (b := bitB B (0 + j)) (by simp; omega) (by simp [belowL]) (by simp [belowL]) (by simp [belowL]) (by simp [belowL])
        rw [List.append_assoc, ← segB_succ] at this
        exact this
    · rintro H' (rfl | rfl)
      · rw [segB_un]
        simp [jrA]
        exact .refl _
      · rw [segB_un]
        simp [jrB]
        exact .refl _
end Lg
/- Numbers of so many bits: the answer's functions. -/
namespace Lg
open Go
def irRRight (bit : Nat) : FnIR := ⟨50, [.t 2],
  (.seq (.ops [⟨some 1, .box (.t 0), none⟩,
    ⟨some 2, .mov (.c (.v (.bool false))), none⟩])
  (.seq (.seq (.ops [⟨some 4, .faddr 1 (.t 1), none⟩,
    ⟨some 5, .load 1 false (.t 4), none⟩,
    ⟨some 6, .bin .lss false (.t 5) (.c (.v (.int .i64 0))), none⟩,
    ⟨some 7, .mov (.t 6), none⟩,
    ⟨some 8, .faddr 0 (.t 1), some (7, false)⟩,
    ⟨some 9, .load 1 false (.t 8), some (7, false)⟩,
    ⟨some 10, .len false (.t 9), some (7, false)⟩,
    ⟨some 11, .faddr 1 (.t 1), some (7, false)⟩,
    ⟨some 12, .load 1 false (.t 11), some (7, false)⟩,
    ⟨some 13, .bin .quo false (.t 12) (.c (.v (.int .i64 8))), some (7, false)⟩,
    ⟨some 14, .bin .add false (.t 13) (.c (.v (.int .i64 1))), some (7, false)⟩,
    ⟨some 15, .bin .gtr false (.t 10) (.t 14), some (7, false)⟩,
    ⟨some 16, .pick (.t 7) (.c (.v (.bool true))) (.t 15), none⟩,
    ⟨some 17, .mov (.t 16), none⟩,
    ⟨some 18, .faddr 0 (.t 1), some (17, false)⟩,
    ⟨some 19, .load 1 false (.t 18), some (17, false)⟩,
    ⟨some 20, .len false (.t 19), some (17, false)⟩,
    ⟨some 21, .bin .mul false (.c (.v (.int .i64 8))) (.t 20), some (17, false)⟩,
    ⟨some 22, .faddr 1 (.t 1), some (17, false)⟩,
    ⟨some 23, .load 1 false (.t 22), some (17, false)⟩,
    ⟨some 24, .bin .lss false (.t 21) (.t 23), some (17, false)⟩,
    ⟨some 25, .pick (.t 17) (.c (.v (.bool true))) (.t 24), none⟩,
    ⟨some 26, .mov (.t 25), none⟩,
    ⟨some 27, .faddr 0 (.t 1), some (26, false)⟩,
    ⟨some 28, .load 1 false (.t 27), some (26, false)⟩,
    ⟨some 29, .len false (.t 28), some (26, false)⟩,
    ⟨some 30, .bin .mul false (.c (.v (.int .i64 8))) (.t 29), some (26, false)⟩,
    ⟨some 31, .faddr 1 (.t 1), some (26, false)⟩,
    ⟨some 32, .load 1 false (.t 31), some (26, false)⟩,
    ⟨some 33, .bin .add false (.t 32) (.c (.v (.int .i64 8))), some (26, false)⟩,
    ⟨some 34, .bin .geq false (.t 30) (.t 33), some (26, false)⟩,
    ⟨some 35, .pick (.t 26) (.c (.v (.bool true))) (.t 34), none⟩])
  (.cond (.t 35)
    (.seq (.ops [⟨some 2, .mov (.c (.v (.bool false))), none⟩])
    .ret)
    .skip))
  (.seq (.seq (.ops [⟨some 36, .faddr 1 (.t 1), none⟩,
    ⟨some 37, .load 1 false (.t 36), none⟩,
    ⟨some 3, .mov (.t 37), none⟩])
  (.block 0 (.loop
    (.seq (.seq (.ops [⟨some 38, .mov (.t 3), none⟩,
      ⟨some 39, .faddr 0 (.t 1), none⟩,
      ⟨some 40, .load 1 false (.t 39), none⟩,
      ⟨some 41, .len false (.t 40), none⟩,
      ⟨some 42, .bin .mul false (.c (.v (.int .i64 8))) (.t 41), none⟩,
      ⟨some 43, .bin .lss false (.t 38) (.t 42), none⟩])
    (.cond (.t 43)
      .skip
      (.exit 0)))
    (.seq (.block 1 (.seq (.ops [⟨some 46, .load 2 true (.t 1), none⟩,
      ⟨some 47, .mov (.t 3), none⟩,
      ⟨some 48, .call bit [(.t 46), (.t 47)], none⟩,
      ⟨some 49, .bin .eql false (.t 48) (.c (.v (.int .i64 1))), none⟩])
    (.cond (.t 49)
      (.seq (.ops [⟨some 2, .mov (.c (.v (.bool false))), none⟩])
      .ret)
      .skip)))
    (.ops [⟨some 44, .mov (.t 3), none⟩,
      ⟨some 45, .bin .add false (.t 44) (.c (.v (.int .i64 1))), none⟩,
      ⟨some 3, .mov (.t 45), none⟩]))))))
  (.seq (.ops [⟨some 2, .mov (.c (.v (.bool true))), none⟩])
  .ret))))⟩
def irRSame  : FnIR := ⟨19, [.t 4],
  (.seq (.ops [⟨some 2, .box (.t 0), none⟩,
    ⟨some 3, .box (.t 1), none⟩,
    ⟨some 4, .mov (.c (.v (.bool false))), none⟩])
  (.seq (.ops [⟨some 5, .faddr 1 (.t 2), none⟩,
    ⟨some 6, .load 1 false (.t 5), none⟩,
    ⟨some 7, .faddr 1 (.t 3), none⟩,
    ⟨some 8, .load 1 false (.t 7), none⟩,
    ⟨some 9, .bin .eql false (.t 6) (.t 8), none⟩,
    ⟨some 10, .mov (.t 9), none⟩,
    ⟨some 11, .faddr 0 (.t 2), some (10, true)⟩,
    ⟨some 12, .load 1 false (.t 11), some (10, true)⟩,
    ⟨some 13, .b2s (.t 12), some (10, true)⟩,
    ⟨some 14, .faddr 0 (.t 3), some (10, true)⟩,
    ⟨some 15, .load 1 false (.t 14), some (10, true)⟩,
    ⟨some 16, .b2s (.t 15), some (10, true)⟩,
    ⟨some 17, .bin .eql false (.t 13) (.t 16), some (10, true)⟩,
    ⟨some 18, .pick (.t 10) (.t 17) (.c (.v (.bool false))), none⟩,
    ⟨some 4, .mov (.t 18), none⟩])
  .ret))⟩
def irRWide  : FnIR := ⟨11, [.t 2],
  (.seq (.ops [⟨some 2, .mov (.c (.v (.int .i64 0))), none⟩])
  (.seq (.ops [⟨some 3, .mov (.c (.v (.int .i64 0))), none⟩])
  (.seq (.block 0 (.loop
    (.seq (.seq (.ops [⟨some 4, .mov (.t 0), none⟩,
      ⟨some 5, .bin .gtr false (.t 4) (.c (.v (.int .u64 0))), none⟩])
    (.cond (.t 5)
      .skip
      (.exit 0)))
    (.block 1 (.seq (.ops [⟨some 6, .mov (.t 0), none⟩,
      ⟨some 7, .bin .quo false (.t 6) (.c (.v (.int .u64 2))), none⟩,
      ⟨some 0, .mov (.t 7), none⟩])
    (.ops [⟨some 8, .mov (.t 3), none⟩,
      ⟨some 9, .bin .add false (.t 8) (.c (.v (.int .i64 1))), none⟩,
      ⟨some 3, .mov (.t 9), none⟩]))))))
  (.seq (.ops [⟨some 10, .mov (.t 3), none⟩,
    ⟨some 2, .mov (.t 10), none⟩])
  .ret))))⟩
def irRPut (wide row list : Nat) : FnIR := ⟨43, [.c 6 2 true, .t 7],
  (.seq (.ops [⟨some 3, .box (.t 0), none⟩,
    ⟨some 6, .alloc (.agg [(.v (.slice none 0 0)), (.v (.int .i64 0))]), none⟩,
    ⟨some 7, .mov (.c (.v (.int .i64 0))), none⟩])
  (.seq (.seq (.ops [⟨some 10, .mov (.t 2), none⟩,
    ⟨some 11, .bin .lss false (.t 10) (.c (.v (.int .i64 0))), none⟩,
    ⟨some 12, .mov (.t 11), none⟩,
    ⟨some 13, .mov (.t 2), some (12, false)⟩,
    ⟨some 14, .bin .gtr false (.t 13) (.c (.v (.int .i64 64))), some (12, false)⟩,
    ⟨some 15, .pick (.t 12) (.c (.v (.bool true))) (.t 14), none⟩])
  (.cond (.t 15)
    (.seq (.ops [⟨some 16, .load 2 true (.t 3), none⟩,
      ⟨none, .store 2 (.t 6) (.t 16), none⟩,
      ⟨some 7, .mov (.c (.v (.int .i64 1))), none⟩])
    .ret)
    .skip))
  (.seq (.seq (.ops [⟨some 17, .mov (.t 1), none⟩,
    ⟨some 18, .call wide [(.t 17)], none⟩,
    ⟨some 19, .mov (.t 2), none⟩,
    ⟨some 20, .bin .gtr false (.t 18) (.t 19), none⟩])
  (.cond (.t 20)
    (.seq (.ops [⟨some 21, .load 2 true (.t 3), none⟩,
      ⟨none, .store 2 (.t 6) (.t 21), none⟩,
      ⟨some 7, .mov (.c (.v (.int .i64 5))), none⟩])
    .ret)
    .skip))
  (.seq (.ops [⟨some 22, .mov (.t 2), none⟩,
    ⟨some 23, .mksl 1 8 [(.v (.int .i64 0))] (.t 22) (.t 22), none⟩,
    ⟨some 8, .mov (.t 23), none⟩])
  (.seq (.seq (.ops [⟨some 24, .mov (.t 2), none⟩,
    ⟨some 25, .bin .sub false (.t 24) (.c (.v (.int .i64 1))), none⟩,
    ⟨some 9, .mov (.t 25), none⟩])
  (.block 0 (.loop
    (.seq (.seq (.ops [⟨some 26, .mov (.t 9), none⟩,
      ⟨some 27, .bin .geq false (.t 26) (.c (.v (.int .i64 0))), none⟩])
    (.cond (.t 27)
      .skip
      (.exit 0)))
    (.seq (.block 1 (.seq (.ops [⟨some 30, .mov (.t 8), none⟩,
      ⟨some 31, .mov (.t 9), none⟩,
      ⟨some 32, .mov (.t 1), none⟩,
      ⟨some 33, .bin .rem false (.t 32) (.c (.v (.int .u64 2))), none⟩,
      ⟨some 34, .conv .i64 (.t 33), none⟩,
      ⟨some 35, .iaddr 1 (.t 30) (.t 31), none⟩,
      ⟨none, .store 1 (.t 35) (.t 34), none⟩])
    (.ops [⟨some 36, .mov (.t 1), none⟩,
      ⟨some 37, .bin .quo false (.t 36) (.c (.v (.int .u64 2))), none⟩,
      ⟨some 1, .mov (.t 37), none⟩])))
    (.ops [⟨some 28, .mov (.t 9), none⟩,
      ⟨some 29, .bin .sub false (.t 28) (.c (.v (.int .i64 1))), none⟩,
      ⟨some 9, .mov (.t 29), none⟩]))))))
  (.seq (.ops [⟨some 38, .load 2 true (.t 3), none⟩,
    ⟨some 39, .call list [(.t 38)], none⟩,
    ⟨some 40, .mov (.t 8), none⟩,
    ⟨some 41, .append 1 8 [(.v (.int .i64 0))] (.t 39) (.t 40), none⟩,
    ⟨some 42, .call row [(.t 41)], none⟩,
    ⟨none, .store 2 (.t 6) (.t 42), none⟩,
    ⟨some 7, .mov (.c (.v (.int .i64 0))), none⟩])
  .ret))))))⟩
def irRTake (bit : Nat) : FnIR := ⟨48, [.t 6, .t 7],
  (.seq (.ops [⟨some 3, .box (.t 0), none⟩,
    ⟨some 6, .mov (.c (.v (.int .u64 0))), none⟩,
    ⟨some 7, .mov (.c (.v (.int .i64 0))), none⟩])
  (.seq (.seq (.ops [⟨some 10, .mov (.t 2), none⟩,
    ⟨some 11, .bin .lss false (.t 10) (.c (.v (.int .i64 0))), none⟩,
    ⟨some 12, .mov (.t 11), none⟩,
    ⟨some 13, .mov (.t 2), some (12, false)⟩,
    ⟨some 14, .bin .gtr false (.t 13) (.c (.v (.int .i64 64))), some (12, false)⟩,
    ⟨some 15, .pick (.t 12) (.c (.v (.bool true))) (.t 14), none⟩])
  (.cond (.t 15)
    (.seq (.ops [⟨some 6, .mov (.c (.v (.int .u64 0))), none⟩,
      ⟨some 7, .mov (.c (.v (.int .i64 1))), none⟩])
    .ret)
    .skip))
  (.seq (.seq (.ops [⟨some 16, .mov (.t 1), none⟩,
    ⟨some 17, .bin .lss false (.t 16) (.c (.v (.int .i64 0))), none⟩,
    ⟨some 18, .mov (.t 17), none⟩,
    ⟨some 19, .mov (.t 1), some (18, false)⟩,
    ⟨some 20, .faddr 1 (.t 3), some (18, false)⟩,
    ⟨some 21, .load 1 false (.t 20), some (18, false)⟩,
    ⟨some 22, .bin .gtr false (.t 19) (.t 21), some (18, false)⟩,
    ⟨some 23, .pick (.t 18) (.c (.v (.bool true))) (.t 22), none⟩,
    ⟨some 24, .mov (.t 23), none⟩,
    ⟨some 25, .faddr 1 (.t 3), some (24, false)⟩,
    ⟨some 26, .load 1 false (.t 25), some (24, false)⟩,
    ⟨some 27, .mov (.t 1), some (24, false)⟩,
    ⟨some 28, .bin .sub false (.t 26) (.t 27), some (24, false)⟩,
    ⟨some 29, .mov (.t 2), some (24, false)⟩,
    ⟨some 30, .bin .lss false (.t 28) (.t 29), some (24, false)⟩,
    ⟨some 31, .pick (.t 24) (.c (.v (.bool true))) (.t 30), none⟩])
  (.cond (.t 31)
    (.seq (.ops [⟨some 6, .mov (.c (.v (.int .u64 0))), none⟩,
      ⟨some 7, .mov (.c (.v (.int .i64 10))), none⟩])
    .ret)
    .skip))
  (.seq (.ops [⟨some 8, .mov (.c (.v (.int .u64 0))), none⟩])
  (.seq (.seq (.ops [⟨some 32, .mov (.t 1), none⟩,
    ⟨some 9, .mov (.t 32), none⟩])
  (.block 0 (.loop
    (.seq (.seq (.ops [⟨some 33, .mov (.t 9), none⟩,
      ⟨some 34, .mov (.t 1), none⟩,
      ⟨some 35, .mov (.t 2), none⟩,
      ⟨some 36, .bin .add false (.t 34) (.t 35), none⟩,
      ⟨some 37, .bin .lss false (.t 33) (.t 36), none⟩])
    (.cond (.t 37)
      .skip
      (.exit 0)))
    (.seq (.block 1 (.ops [⟨some 40, .mov (.t 8), none⟩,
      ⟨some 41, .bin .mul false (.c (.v (.int .u64 2))) (.t 40), none⟩,
      ⟨some 42, .load 2 true (.t 3), none⟩,
      ⟨some 43, .mov (.t 9), none⟩,
      ⟨some 44, .call bit [(.t 42), (.t 43)], none⟩,
      ⟨some 45, .conv .u64 (.t 44), none⟩,
      ⟨some 46, .bin .add false (.t 41) (.t 45), none⟩,
      ⟨some 8, .mov (.t 46), none⟩]))
    (.ops [⟨some 38, .mov (.t 9), none⟩,
      ⟨some 39, .bin .add false (.t 38) (.c (.v (.int .i64 1))), none⟩,
      ⟨some 9, .mov (.t 39), none⟩]))))))
  (.seq (.ops [⟨some 47, .mov (.t 8), none⟩,
    ⟨some 6, .mov (.t 47), none⟩,
    ⟨some 7, .mov (.c (.v (.int .i64 0))), none⟩])
  .ret))))))⟩
def irRBit  : FnIR := ⟨25, [.t 4],
  (.seq (.ops [⟨some 2, .box (.t 0), none⟩,
    ⟨some 4, .mov (.c (.v (.int .i64 0))), none⟩])
  (.seq (.ops [⟨some 7, .faddr 0 (.t 2), none⟩,
    ⟨some 8, .load 1 false (.t 7), none⟩,
    ⟨some 9, .mov (.t 1), none⟩,
    ⟨some 10, .bin .quo false (.t 9) (.c (.v (.int .i64 8))), none⟩,
    ⟨some 11, .iaddr 1 (.t 8) (.t 10), none⟩,
    ⟨some 12, .load 1 false (.t 11), none⟩,
    ⟨some 13, .conv .i64 (.t 12), none⟩,
    ⟨some 5, .mov (.t 13), none⟩])
  (.seq (.seq (.ops [⟨some 6, .mov (.c (.v (.int .i64 0))), none⟩])
  (.block 0 (.loop
    (.seq (.seq (.ops [⟨some 14, .mov (.t 6), none⟩,
      ⟨some 15, .mov (.t 1), none⟩,
      ⟨some 16, .bin .rem false (.t 15) (.c (.v (.int .i64 8))), none⟩,
      ⟨some 17, .bin .sub false (.c (.v (.int .i64 7))) (.t 16), none⟩,
      ⟨some 18, .bin .lss false (.t 14) (.t 17), none⟩])
    (.cond (.t 18)
      .skip
      (.exit 0)))
    (.seq (.block 1 (.ops [⟨some 21, .mov (.t 5), none⟩,
      ⟨some 22, .bin .quo false (.t 21) (.c (.v (.int .i64 2))), none⟩,
      ⟨some 5, .mov (.t 22), none⟩]))
    (.ops [⟨some 19, .mov (.t 6), none⟩,
      ⟨some 20, .bin .add false (.t 19) (.c (.v (.int .i64 1))), none⟩,
      ⟨some 6, .mov (.t 20), none⟩]))))))
  (.seq (.ops [⟨some 23, .mov (.t 5), none⟩,
    ⟨some 24, .bin .rem false (.t 23) (.c (.v (.int .i64 2))), none⟩,
    ⟨some 4, .mov (.t 24), none⟩])
  .ret))))⟩
def irRRow  : FnIR := ⟨53, [.c 2 2 true],
  (.seq (.ops [⟨some 2, .alloc (.agg [(.v (.slice none 0 0)), (.v (.int .i64 0))]), none⟩])
  (.seq (.ops [⟨some 3, .alloc (.agg [(.v (.slice none 0 0)), (.v (.int .i64 0))]), none⟩])
  (.seq (.seq (.ops [⟨some 4, .mov (.c (.v (.int .i64 0))), none⟩])
  (.block 0 (.loop
    (.seq (.seq (.ops [⟨some 7, .mov (.t 4), none⟩,
      ⟨some 8, .mov (.t 0), none⟩,
      ⟨some 9, .len false (.t 8), none⟩,
      ⟨some 10, .bin .lss false (.t 7) (.t 9), none⟩])
    (.cond (.t 10)
      .skip
      (.exit 0)))
    (.seq (.block 1 (.seq (.seq (.ops [⟨some 13, .mov (.t 4), none⟩,
      ⟨some 14, .bin .rem false (.t 13) (.c (.v (.int .i64 8))), none⟩,
      ⟨some 15, .bin .eql false (.t 14) (.c (.v (.int .i64 0))), none⟩])
    (.cond (.t 15)
      (.ops [⟨some 16, .faddr 0 (.t 3), none⟩,
        ⟨some 17, .load 1 false (.t 16), none⟩,
        ⟨some 18, .bslice 1 [(.v (.int .u8 0))] 1 [(0, 1, (.c (.v (.int .u8 0))))], none⟩,
        ⟨some 19, .append 1 1 [(.v (.int .u8 0))] (.t 17) (.t 18), none⟩,
        ⟨some 20, .faddr 0 (.t 3), none⟩,
        ⟨none, .store 1 (.t 20) (.t 19), none⟩])
      .skip))
    (.seq (.ops [⟨some 5, .mov (.c (.v (.int .i64 1))), none⟩])
    (.seq (.seq (.ops [⟨some 6, .mov (.c (.v (.int .i64 0))), none⟩])
    (.block 2 (.loop
      (.seq (.seq (.ops [⟨some 21, .mov (.t 6), none⟩,
        ⟨some 22, .mov (.t 4), none⟩,
        ⟨some 23, .bin .rem false (.t 22) (.c (.v (.int .i64 8))), none⟩,
        ⟨some 24, .bin .sub false (.c (.v (.int .i64 7))) (.t 23), none⟩,
        ⟨some 25, .bin .lss false (.t 21) (.t 24), none⟩])
      (.cond (.t 25)
        .skip
        (.exit 2)))
      (.seq (.block 3 (.ops [⟨some 28, .mov (.t 5), none⟩,
        ⟨some 29, .bin .mul false (.c (.v (.int .i64 2))) (.t 28), none⟩,
        ⟨some 5, .mov (.t 29), none⟩]))
      (.ops [⟨some 26, .mov (.t 6), none⟩,
        ⟨some 27, .bin .add false (.t 26) (.c (.v (.int .i64 1))), none⟩,
        ⟨some 6, .mov (.t 27), none⟩]))))))
    (.draw [[⟨some 30, .faddr 0 (.t 3), none⟩,
        ⟨some 31, .load 1 false (.t 30), none⟩,
        ⟨some 32, .mov (.t 4), none⟩,
        ⟨some 33, .bin .quo false (.t 32) (.c (.v (.int .i64 8))), none⟩,
        ⟨some 34, .faddr 0 (.t 3), none⟩,
        ⟨some 35, .load 1 false (.t 34), none⟩,
        ⟨some 36, .mov (.t 4), none⟩,
        ⟨some 37, .bin .quo false (.t 36) (.c (.v (.int .i64 8))), none⟩,
        ⟨some 38, .iaddr 1 (.t 35) (.t 37), none⟩,
        ⟨some 39, .load 1 false (.t 38), none⟩,
        ⟨some 40, .mov (.t 0), none⟩,
        ⟨some 41, .mov (.t 4), none⟩,
        ⟨some 42, .iaddr 1 (.t 40) (.t 41), none⟩,
        ⟨some 43, .load 1 false (.t 42), none⟩,
        ⟨some 44, .mov (.t 5), none⟩,
        ⟨some 45, .bin .mul false (.t 43) (.t 44), none⟩,
        ⟨some 46, .conv .u8 (.t 45), none⟩,
        ⟨some 47, .bin .add false (.t 39) (.t 46), none⟩],
      [⟨some 48, .iaddr 1 (.t 31) (.t 33), none⟩],
      [⟨none, .store 1 (.t 48) (.t 47), none⟩]])))))
    (.ops [⟨some 11, .mov (.t 4), none⟩,
      ⟨some 12, .bin .add false (.t 11) (.c (.v (.int .i64 1))), none⟩,
      ⟨some 4, .mov (.t 12), none⟩]))))))
  (.seq (.ops [⟨some 49, .mov (.t 0), none⟩,
    ⟨some 50, .len false (.t 49), none⟩,
    ⟨some 51, .faddr 1 (.t 3), none⟩,
    ⟨none, .store 1 (.t 51) (.t 50), none⟩])
  (.seq (.ops [⟨some 52, .load 2 true (.t 3), none⟩,
    ⟨none, .store 2 (.t 2) (.t 52), none⟩])
  .ret)))))⟩
def irRList (bit : Nat) : FnIR := ⟨18, [.t 2],
  (.seq (.ops [⟨some 1, .box (.t 0), none⟩,
    ⟨some 2, .mov (.c (.v (.slice none 0 0))), none⟩])
  (.seq (.ops [⟨some 3, .mov (.c (.v (.slice none 0 0))), none⟩])
  (.seq (.seq (.ops [⟨some 4, .mov (.c (.v (.int .i64 0))), none⟩])
  (.block 0 (.loop
    (.seq (.seq (.ops [⟨some 5, .mov (.t 4), none⟩,
      ⟨some 6, .faddr 1 (.t 1), none⟩,
      ⟨some 7, .load 1 false (.t 6), none⟩,
      ⟨some 8, .bin .lss false (.t 5) (.t 7), none⟩])
    (.cond (.t 8)
      .skip
      (.exit 0)))
    (.seq (.block 1 (.ops [⟨some 11, .mov (.t 3), none⟩,
      ⟨some 12, .load 2 true (.t 1), none⟩,
      ⟨some 13, .mov (.t 4), none⟩,
      ⟨some 14, .call bit [(.t 12), (.t 13)], none⟩,
      ⟨some 15, .bslice 1 [(.v (.int .i64 0))] 1 [(0, 1, (.t 14))], none⟩,
      ⟨some 16, .append 1 8 [(.v (.int .i64 0))] (.t 11) (.t 15), none⟩,
      ⟨some 3, .mov (.t 16), none⟩]))
    (.ops [⟨some 9, .mov (.t 4), none⟩,
      ⟨some 10, .bin .add false (.t 9) (.c (.v (.int .i64 1))), none⟩,
      ⟨some 4, .mov (.t 10), none⟩]))))))
  (.seq (.ops [⟨some 17, .mov (.t 3), none⟩,
    ⟨some 2, .mov (.t 17), none⟩])
  .ret))))⟩
def irRJoin (row list : Nat) : FnIR := ⟨11, [.c 4 2 true],
  (.seq (.ops [⟨some 2, .box (.t 0), none⟩,
    ⟨some 3, .box (.t 1), none⟩,
    ⟨some 4, .alloc (.agg [(.v (.slice none 0 0)), (.v (.int .i64 0))]), none⟩])
  (.seq (.drawN [⟨some 5, .load 2 true (.t 2), none⟩,
    ⟨some 7, .load 2 true (.t 3), none⟩]
    (.alt ⟨some 6, .call list [(.t 5)], none⟩ (.alt ⟨some 8, .call list [(.t 7)], none⟩ (.alt ⟨some 9, .append 1 8 [(.v (.int .i64 0))] (.t 6) (.t 8), none⟩ (.alt ⟨some 10, .call row [(.t 9)], none⟩ (.alt ⟨none, .store 2 (.t 4) (.t 10), none⟩ .done
    .none)
    .none)
    .none)
    .none)
    .none))
  .ret))⟩
theorem shN_quo {n k : Nat} (hn : n < 2 ^ 64) : IntKind.u64.wrap ((shN n k : Int).tdiv 2) = (shN n (k + 1) : Int) := by
  have h1 : shN n k ≤ n := Nat.div_le_self _ _
  have h2 : (shN n k : Int).tdiv 2 = (shN n (k + 1) : Int) := by
    rw [← shN_div2]; exact (Int.ofNat_tdiv _ _).symm
  rw [h2]
  have h3 : shN n (k + 1) ≤ n := Nat.div_le_self _ _
  simp [IntKind.wrap, IntKind.signed, IntKind.bits]
  omega
theorem widR_gen {P : Program} {f : Nat} (ir : compF P f = some irRWide) (n : Nat) (hn : n < 2 ^ 64) : PC P f [u64L n] (intL (wid n)) := by
  refine pc_of_call (callAt_enter ir (by simp [irRWide]) ?_)
  simp [irRWide]
  refine lwp_loop (fun k : Nat => [(0, u64L (shN n k)), (3, intL k)]) (fun _ => []) (fun k => 64 - k) (fun k => k ≤ wid n) 0 (by simp) ⟨[], by simp [shN_zero]⟩ ?_
  intro k hk
  have hw : wid n ≤ 64 := (wid_le hn).2 hn
  have hq := shN_quo (k := k) hn
  by_cases h : k < wid n
  · have h0 := (shN_pos hn).2 h
    simp [h0, suc64 (show k ≤ 281474976710656 by omega)]
    refine ⟨k + 1, by omega, by simp only; omega, [], ?_⟩
    simp
    simpa using hq
  · have h0 : ¬ 0 < shN n k := fun h' => h ((shN_pos hn).1 h')
    have e : wid n = k := by omega
    simp [h0, e]
abbrev bitN (b : Bool) : Int := (b.toNat : Int)
theorem bitR_gen {P : Program} {f : Nat} (ir : compF P f = some irRBit) {B : List Int} {N : Int} (hb : ∀ z ∈ B, isByte z) {k : Nat} (hk : k < 8 * B.length) (hbig : 8 * B.length ≤ 281474976710656) :
    PC P f [.agg [.sl 1 false (B.map u8L), intL N], intL k] (intL (bitN (bitB B k))) := by
  obtain ⟨p, hp⟩ : ∃ p, p = k / 8 := ⟨_, rfl⟩
  obtain ⟨m, hm⟩ : ∃ m, m = k % 8 := ⟨_, rfl⟩
  have hidx : IntKind.i64.wrap ((k : Int) / 8) = (p : Int) := by rw [hp]; exact idx8 (by omega)
  have hrem : ((k : Int)).tmod 8 = (m : Int) := by rw [hm]; exact tmod8
  have hm64 : IntKind.i64.wrap (m : Int) = (m : Int) := by rw [hm]; exact rem8
  have h7 : IntKind.i64.wrap (7 - (m : Int)) = 7 - (m : Int) := wrap_id (by omega) (by omega)
  have hpB : p < B.length := by omega
  obtain ⟨z, hz⟩ : ∃ z, B[p]? = some z := ⟨_, List.getElem?_eq_getElem hpB⟩
  have hzb : isByte z := hb z (List.mem_of_getElem? hz)
  obtain ⟨z, rfl⟩ := Int.eq_ofNat_of_zero_le hzb.1
  have hz255 : z ≤ 255 := by have := hzb.2; omega
  have hz64 : IntKind.i64.wrap (z : Int) = (z : Int) := wrap_id (by omega) (by omega)
  refine pc_of_call (callAt_enter ir (by simp [irRBit]) ?_)
  simp [irRBit, hidx, hz, hz64]
  refine lwp_loop (fun i : Nat => [(1, intL k), (5, intL (shN z i)), (6, intL i)]) (fun _ => [some [.sl 1 false (B.map u8L), intL N]]) (fun i => 8 - i) (fun i => i ≤ 7 - m) 0 (by simp) ⟨[0], by simp [shN_zero]⟩ ?_
  intro i hi
  have hle : shN z i ≤ z := Nat.div_le_self _ _
  by_cases h : i < 7 - m
  · have h' : (i : Int) < 7 - (m : Int) := by omega
    have hq : IntKind.i64.wrap ((shN z i : Int).tdiv 2) = (shN z (i + 1) : Int) := by
      rw [← shN_div2, show (shN z i : Int).tdiv 2 = ((shN z i / 2 : Nat) : Int) from (Int.ofNat_tdiv _ _).symm]
      exact wrap_id (by omega) (by omega)
    simp at hq
    simp [hrem, hm64, h7, h', hq, suc64 (show i ≤ 281474976710656 by omega)]
    exact ⟨i + 1, by omega, by simp only; omega, [0], by simp⟩
  · have e : 7 - m = i := by omega
    have h' : ¬ (i : Int) < 7 - (m : Int) := by omega
    have hbit : bitN (bitB B k) = ((shN z i % 2 : Nat) : Int) := by
      unfold bitB shN
      rw [← hp, ← hm, e]
      have : (B.getD p 0).toNat = z := by simp [List.getD, hz]
      rw [this]
      have := Nat.mod_two_eq_zero_or_one (z / 2 ^ i)
      rcases this with h | h <;> simp [h, bitN]
    have hmod : IntKind.i64.wrap ((shN z i : Int).tmod 2) = ((shN z i % 2 : Nat) : Int) := by
      rw [Int.tmod_eq_emod_of_nonneg (by omega)]
      rw [wrap_id (by omega) (by omega)]; omega
    rw [hbit]
    simp at hmod
    simp [hrem, hm64, h7, h', hmod]
    try exact Int.tmod_eq_emod_of_nonneg (by omega)
theorem sameR_gen {P : Program} {f : Nat} (ir : compF P f = some irRSame) {A B : List Int} {N M : Int} (ha : ∀ z ∈ A, isByte z) (hb : ∀ z ∈ B, isByte z) :
    PC P f [.agg [.sl 1 false (A.map u8L), intL N], .agg [.sl 1 false (B.map u8L), intL M]] (boolL (decide (N = M ∧ A = B))) := by
  refine pc_of_call (callAt_enter ir (by simp [irRSame]) ?_)
  simp [irRSame]
  by_cases h : N = M
  · simp [h, bytes_inj ha hb]
  · simp [h]
theorem sameB_gen {P : Program} {f eq : Nat} (ir : compF P f = some (irBSame eq)) (ire : compF P eq = some irEqual) {A B : List Int} {N M : Int} (ha : ∀ z ∈ A, isByte z) (hb : ∀ z ∈ B, isByte z) :
    PC P f [.agg [.sl 1 false (A.map u8L), intL N], .agg [.sl 1 false (B.map u8L), intL M]] (boolL (decide (N = M ∧ A = B))) := by
  refine pc_of_call (callAt_enter ir (by simp [irBSame]) ?_)
  simp [irBSame]
  by_cases h : N = M
  · simp [h]
    refine callT_plain (equal_gen ire false false A B ha hb) rfl (by simp) ?_
    simp
  · simp [h]
theorem takeR_gen {P : Program} {f bit : Nat} (ir : compF P f = some (irRTake bit)) (irb : compF P bit = some irRBit)
    {B : List Int} {N at' wide : Int} (hb : ∀ z ∈ B, isByte z) (hN : 0 ≤ N ∧ N ≤ 8 * B.length) (hbig : 8 * B.length ≤ 281474976710656) (ha : at' ≤ 9223372036854775807) :
    PC P f [.agg [.sl 1 false (B.map u8L), intL N], intL at', intL wide] (.tup [u64L (takeV B N at' wide).1, intL (takeV B N at' wide).2]) := by
  refine pc_of_call (callAt_enter ir (by simp [irRTake]) ?_)
  have hw : (wide < 0 ∨ 64 < wide) ∨ ¬ (wide < 0 ∨ 64 < wide) := Classical.em _
  rcases hw with hw | hw
  · have e : takeV B N at' wide = (0, 1) := by unfold takeV; rw [if_pos hw]
    rw [e]
    by_cases h0 : wide < 0
    · simp [irRTake, h0]
    · have h1 : 64 < wide := by omega
      simp [irRTake, h0, h1]
  have h0 : ¬ wide < 0 := by omega
  have h1 : ¬ 64 < wide := by omega
  by_cases ha0 : at' < 0
  · have e : takeV B N at' wide = (0, 10) := by unfold takeV; rw [if_neg hw, if_pos (.inl ha0)]
    rw [e]
    simp [irRTake, h0, h1, ha0]
  have hsub : IntKind.i64.wrap (N - at') = N - at' := IntWalk.i64_in _ ⟨by omega, by omega⟩
  by_cases hn : N - at' < wide
  · have e : takeV B N at' wide = (0, 10) := by unfold takeV; rw [if_neg hw, if_pos (.inr hn)]
    rw [e]
    by_cases hNa : N < at'
    · simp [irRTake, h0, h1, ha0, hNa]
    · simp [irRTake, h0, h1, ha0, hNa, hsub, hn]
  have hNa : ¬ N < at' := by omega
  have e : takeV B N at' wide = ((numOf (segB B at'.toNat wide.toNat) : Int), 0) := by unfold takeV; rw [if_neg hw, if_neg (by omega)]
  rw [e]
  obtain ⟨a, rfl⟩ := Int.eq_ofNat_of_zero_le (show 0 ≤ at' by omega)
  obtain ⟨m, rfl⟩ := Int.eq_ofNat_of_zero_le (show 0 ≤ wide by omega)
  simp [irRTake, h0, h1, ha0, hNa, hsub, hn]
  refine lwp_loop (fun j : Nat => [(1, intL a), (2, intL m), (3, .ptr 0 0), (8, u64L (numOf (segB B a j))), (9, intL (a + j))]) (fun _ => [some [.sl 1 false (B.map u8L), intL N]]) (fun j => m - j) (fun j => j ≤ m) 0 (by simp) ⟨[0], by simp [segB_zero, numOf]⟩ ?_
  intro j hj
  obtain ⟨g, hg⟩ : ∃ g, g = a + j := ⟨_, rfl⟩
  have hg1 : (a : Int) + (j : Int) = (g : Int) := by omega
  have hend : IntKind.i64.wrap ((a : Int) + (m : Int)) = (a : Int) + (m : Int) := wrap_id (by omega) (by omega)
  by_cases h : j < m
  · have hlt : (g : Int) < (a : Int) + (m : Int) := by omega
    simp [hg1, hend, hlt]
    refine callT_plain (bitR_gen irb (N := N) hb (show g < 8 * B.length by omega) hbig) rfl (by simp) ?_
    have hlt2 : numOf (segB B a j) < 2 ^ 63 := by
      have h1 := numOf_lt (segB B a j)
      rw [segB_length] at h1
      exact Nat.lt_of_lt_of_le h1 (Nat.pow_le_pow_right (by omega) (by omega))
    have hmul : IntKind.u64.wrap (2 * (numOf (segB B a j) : Int)) = 2 * (numOf (segB B a j) : Int) := by
      simp [IntKind.wrap, IntKind.signed, IntKind.bits]; omega
    have hb1 : IntKind.u64.wrap (bitN (bitB B g)) = bitN (bitB B g) := by cases bitB B g <;> decide
    have hadd : IntKind.u64.wrap (2 * (numOf (segB B a j) : Int) + bitN (bitB B g)) = (numOf (segB B a (j + 1)) : Int) := by
      rw [segB_succ, numOf_snoc, ← hg]
      have := (bitB B g).toNat_le
      simp [IntKind.wrap, IntKind.signed, IntKind.bits, bitN]; omega
    have hs : IntKind.i64.wrap ((g : Int) + 1) = (g : Int) + 1 := suc64 (by omega)
    simp [hmul, hb1, hadd, hs]
    exact ⟨j + 1, by omega, by simp only; omega, [0], by simp; omega⟩
  · have e : m = j := by omega
    subst e
    rw [hg1] at hend
    simp [hg1, hend]
end Lg
/- Numbers of so many bits: the answer's rows and lists of bits. -/
namespace Lg
open Go
abbrev bitL (b : Bool) : L := intL (bitN b)
def listE (j : Nat) : L := if j = 0 then nilL else .view 1 1 0 j false
def listH (B : List Int) (N : Int) (j : Nat) : Heap := if j = 0 then [some [.sl 1 false (B.map u8L), intL N]] else [some [.sl 1 false (B.map u8L), intL N], some ((un B j).map bitL)]
theorem un_succ {B : List Int} {j : Nat} : un B (j + 1) = un B j ++ [bitB B j] := by simp [un, List.range_succ]
theorem list_own {P : Program} {f bit : Nat} (ir : compF P f = some (irRList bit)) (irb : compF P bit = some irRBit) {B : List Int} {N : Nat} (hb : ∀ z ∈ B, isByte z) (hN : N ≤ 8 * B.length) (hbig : 8 * B.length ≤ 8796093022208) :
    callAt P f [.agg [.sl 1 false (B.map u8L), intL N]] [] fun l R => l = listE N ∧ R = listH B N N := by
  refine callAt_enter ir (by simp [irRList]) ?_
  simp [irRList]
  refine lwp_loop (fun j : Nat => [(1, .ptr 0 0), (3, listE j), (4, intL j)]) (fun j => listH B N j) (fun j => N - j) (fun j => j ≤ N) 0 (by simp) ⟨[0], by simp [listE, listH]⟩ ?_
  intro j hj
  by_cases h : j < N
  · have hc := bitR_gen irb (N := (N : Int)) hb (show j < 8 * B.length by omega) (by omega)
    by_cases h0 : j = 0
    · subst h0
      simp [listE, listH, h]
      refine callT_plain hc rfl (by simp) ?_
      simp [i64w1]
      exact ⟨1, by omega, by simp only; omega, [0, 2], by simp [listE, listH, un, List.range_succ]⟩
    · simp [listE, listH, h0, h]
      refine callT_plain hc rfl (by simp) ?_
      simp [suc64 (show j ≤ 281474976710656 by omega)]
      exact ⟨by omega, j + 1, by omega, by simp only; omega, [0, 3], by simp [listE, listH, un_succ]⟩
  · have e : N = j := by omega
    subst e
    by_cases h0 : N = 0
    · subst h0; simp [listE, listH]
    · simp [listE, listH, h0]
theorem pk1 : pk [false] = [0] := by simp [pk, byteN, List.range_succ]
theorem byteN_add (f : Nat → Bool) {i : Nat} (hi : i < 8) (hf : f i = false) : byteN (fun k => f k || decide (k = i)) = byteN f + 2 ^ i := by
  have h1 := byteN_set f hi
  have h2 := or_all ⟨byteN f, byteN_lt f⟩ ⟨i, hi⟩
  simp only at h2
  rw [h1, byteN_bit f hi, hf] at h2
  have h3 : (if false.toNat = 0 then byteN f + 2 ^ i else byteN f) = byteN f + 2 ^ i := rfl
  rw [h3] at h2
  exact Int.ofNat.inj h2
theorem pk_false {l : List Bool} : pk (l ++ [false]) = if l.length % 8 = 0 then pk l ++ [0] else pk l := by
  rw [pk_snoc]; simp
theorem pk_add {l : List Bool} {b : Bool} : ∃ z : Nat, (pk (l ++ [false]))[l.length / 8]? = some (z : Int) ∧ z + b.toNat * 2 ^ (7 - l.length % 8) ≤ 255 ∧ pk (l ++ [b]) = (pk (l ++ [false])).set (l.length / 8) ((z + b.toNat * 2 ^ (7 - l.length % 8) : Nat) : Int) := by
  have hlt : l.length / 8 < (pk (l ++ [false])).length := by simp; omega
  have hz : (pk (l ++ [false]))[l.length / 8]? = some ((byteN (fun j => (l ++ [false]).getD (8 * (l.length / 8) + (7 - j)) false) : Nat) : Int) := by
    rw [List.getElem?_eq_getElem hlt, pk_get]
  have get : ∀ b k, k ≠ l.length → (l ++ [b]).getD k false = l.getD k false := fun b k hk => by
    simp only [List.getD]
    by_cases h : k < l.length
    · rw [List.getElem?_append_left h]
    · rw [List.getElem?_eq_none (show l.length ≤ k by omega), List.getElem?_eq_none (by simp; omega)]
  cases b with
  | false =>
    refine ⟨_, hz, ?_, ?_⟩
    · have := byteN_lt fun j => (l ++ [false]).getD (8 * (l.length / 8) + (7 - j)) false
      simp only [Bool.toNat_false, Nat.zero_mul, Nat.add_zero]; omega
    · simp
      refine List.ext_getElem (by simp) fun i h1 h2 => ?_
      rw [List.getElem_set]
      split
      · rename_i e; subst e
        rw [List.getElem?_eq_getElem h1] at hz
        simpa using hz
      · rfl
  | true =>
    have hadd := byteN_add (fun j => (l ++ [false]).getD (8 * (l.length / 8) + (7 - j)) false) (i := 7 - l.length % 8) (by omega) (by
      rw [show 8 * (l.length / 8) + (7 - (7 - l.length % 8)) = l.length by omega]; simp [List.getD])
    have hnew : byteN (fun j => (l ++ [true]).getD (8 * (l.length / 8) + (7 - j)) false) = byteN (fun j => (l ++ [false]).getD (8 * (l.length / 8) + (7 - j)) false) + 2 ^ (7 - l.length % 8) := by
      rw [← hadd]
      refine byteN_congr fun j hj => ?_
      by_cases hj2 : j = 7 - l.length % 8
      · rw [show 8 * (l.length / 8) + (7 - j) = l.length by omega]; simp [List.getD, hj2]
      · rw [get _ _ (by omega), get _ _ (by omega)]; simp [hj2]
    refine ⟨_, hz, ?_, ?_⟩
    · have := byteN_lt fun j => (l ++ [true]).getD (8 * (l.length / 8) + (7 - j)) false
      simp only [Bool.toNat_true, Nat.one_mul]
      omega
    · refine List.ext_getElem (by simp) fun i h1 h2 => ?_
      rw [List.getElem_set]
      split
      · rename_i e; subst e
        rw [pk_get, hnew]; simp
      · rename_i e
        rw [pk_get, pk_get]
        congr 1
        refine byteN_congr fun j hj => ?_
        simp at h1
        rw [get _ _ (by omega), get _ _ (by omega)]
def rowH (l : List Bool) : Heap := if l = [] then [some [nilL, intL 0], some [nilL, intL 0]] else [some [nilL, intL 0], some [.view 1 2 0 ((l.length + 7) / 8) false, intL 0], some ((pk l).map u8L)]
def rowIn : IR := (.seq (.seq (.ops [⟨some 21, .mov (.t 6), none⟩,
        ⟨some 22, .mov (.t 4), none⟩,
        ⟨some 23, .bin .rem false (.t 22) (.c (.v (.int .i64 8))), none⟩,
        ⟨some 24, .bin .sub false (.c (.v (.int .i64 7))) (.t 23), none⟩,
        ⟨some 25, .bin .lss false (.t 21) (.t 24), none⟩])
      (.cond (.t 25)
        .skip
        (.exit 2)))
      (.seq (.block 3 (.ops [⟨some 28, .mov (.t 5), none⟩,
        ⟨some 29, .bin .mul false (.c (.v (.int .i64 2))) (.t 28), none⟩,
        ⟨some 5, .mov (.t 29), none⟩]))
      (.ops [⟨some 26, .mov (.t 6), none⟩,
        ⟨some 27, .bin .add false (.t 26) (.c (.v (.int .i64 1))), none⟩,
        ⟨some 6, .mov (.t 27), none⟩])))
theorem row_inner {P : Program} {i m : Nat} (hm : m < 8) (hmi : ((i : Int)).tmod 8 = (m : Int)) {x0 x2 x3 : L} {H : Heap} (hx0 : below H.length x0 = true) (hx2 : below H.length x2 = true) (hx3 : below H.length x3 = true) (hs : shut H.length H) {Q : X → Env → Heap → Prop}
    (hQ : ∀ E', lk E' 0 = x0 → lk E' 2 = x2 → lk E' 3 = x3 → lk E' 4 = intL i → lk E' 5 = intL ((2 ^ (7 - m) : Nat) : Int) → Q (.exit 2) E' H) (k : Nat) (hk : k ≤ 7 - m) :
    lwp P 0 rowIn (X.then (nextT 0 (fun k : Nat => [(0, x0), (2, x2), (3, x3), (4, intL i), (5, intL ((2 ^ k : Nat) : Int)), (6, intL k)]) (fun _ => H) (fun k => 7 - m - k) (fun k => k ≤ 7 - m) k) Q)
      [(0, x0), (2, x2), (3, x3), (4, intL i), (5, intL ((2 ^ k : Nat) : Int)), (6, intL k)] H := by
  have hm64 : IntKind.i64.wrap (m : Int) = (m : Int) := wrap_id (by omega) (by omega)
  have h7 : IntKind.i64.wrap (7 - (m : Int)) = 7 - (m : Int) := wrap_id (by omega) (by omega)
  have hpow : ∀ k, k ≤ 7 → (2 ^ k : Nat) ≤ 128 := by decide
  obtain ⟨w, hw⟩ : ∃ w, w = 2 ^ k := ⟨_, rfl⟩
  rw [← hw]
  by_cases h : k < 7 - m
  · have h' : (k : Int) < 7 - (m : Int) := by omega
    have hw2 := hpow k (by omega)
    have hmul : IntKind.i64.wrap (2 * (w : Int)) = 2 * (w : Int) := wrap_id (by omega) (by omega)
    simp [rowIn, hmi, hm64, h7, h', hmul, suc64 (show k ≤ 281474976710656 by omega)]
    refine ⟨k + 1, by omega, by simp only; omega, weak_env (by omega) hs ?_⟩
    simp [hx0, hx2, hx3, hw]
    rw [Int.pow_succ, Int.mul_comm]
  · have h' : ¬ (k : Int) < 7 - (m : Int) := by omega
    have e : 7 - m = k := by omega
    rw [e, ← hw] at hQ
    simp [rowIn, hmi, hm64, h7, h']
    exact hQ _ (by simp) (by simp) (by simp) (by simp) (by simp)
theorem row_gen {P : Program} {f : Nat} (ir : compF P f = some irRRow) (c : Bool) (l : List Bool) (hl : l.length ≤ 281474976710656) : PC P f [.sl 1 c (l.map bitL)] (.agg [.sl 1 false ((pk l).map u8L), intL l.length]) := by
  refine pc_of_call' (callAt_enter ir (by simp [irRRow]) ?_)
  simp [irRRow]
  refine lwp_loop (fun i : Nat => [(0, .sl 1 c (l.map bitL)), (2, .ptr 0 0), (3, .ptr 1 0), (4, intL i)]) (fun i => rowH (l.take i)) (fun i => l.length - i) (fun i => i ≤ l.length) 0 (by simp) ⟨[0, 1], by simp [rowH]⟩ ?_
  intro i hi
  by_cases h : i < l.length
  · obtain ⟨p, hp⟩ : ∃ p, p = i / 8 := ⟨_, rfl⟩
    obtain ⟨m, hm⟩ : ∃ m, m = i % 8 := ⟨_, rfl⟩
    have hidx : IntKind.i64.wrap ((i : Int) / 8) = (p : Int) := by rw [hp]; exact idx8 (by omega)
    have hrem : ((i : Int)).tmod 8 = (m : Int) := by rw [hm]; exact tmod8
    have hm64 : IntKind.i64.wrap (m : Int) = (m : Int) := by rw [hm]; exact rem8
    have h7 : IntKind.i64.wrap (7 - (m : Int)) = 7 - (m : Int) := wrap_id (by omega) (by omega)
    obtain ⟨b, hb⟩ : ∃ b, l[i]? = some b := ⟨_, List.getElem?_eq_getElem h⟩
    have hlen : (l.take i).length = i := by simp; omega
    have htake : l.take (i + 1) = l.take i ++ [b] := by rw [List.take_add_one]; simp [hb]
    obtain ⟨z, z1, z2, z3⟩ := pk_add (l := l.take i) (b := b)
    rw [hlen, ← hp] at z1
    rw [hlen, ← hm] at z2
    rw [hlen, ← hp, ← hm] at z3
    have hrows : (List.take i l ++ [false]).length = i + 1 := by simp; omega
    have z1m : ((pk (l.take i ++ [false])).map u8L)[p]? = some (u8L z) := by rw [List.getElem?_map, z1]; rfl
    obtain ⟨w, hw⟩ : ∃ w, w = 2 ^ (7 - m) := ⟨_, rfl⟩
    have hw2 : w ≤ 128 := by rw [hw]; exact (show ∀ k, k ≤ 7 → (2 ^ k : Nat) ≤ 128 by decide) _ (by omega)
    rw [← hw] at z2 z3
    have hmulN : IntKind.i64.wrap (bitN b * (w : Int)) = ((b.toNat * w : Nat) : Int) := by
      rw [wrap_id (by cases b <;> simp [bitN]) (by cases b <;> simp [bitN] <;> omega)]; simp [bitN]
    have hconv : IntKind.u8.wrap ((b.toNat * w : Nat) : Int) = ((b.toNat * w : Nat) : Int) := by
      simp [IntKind.wrap, IntKind.signed, IntKind.bits]; have : ((b.toNat * w : Nat) : Int) ≤ 255 := by omega
      omega
    have haddN : IntKind.u8.wrap ((z : Int) + ((b.toNat * w : Nat) : Int)) = ((z + b.toNat * w : Nat) : Int) := by
      simp [IntKind.wrap, IntKind.signed, IntKind.bits]; omega
    obtain ⟨v, hv⟩ : ∃ v, v = b.toNat * w := ⟨_, rfl⟩
    rw [← hv] at z2 z3 hmulN hconv haddN
    have htk : (l.take i = []) ↔ i = 0 := by constructor
                                             · intro e; rw [← hlen, e]; rfl
                                             · intro e; rw [e]; rfl
    have hset : ∀ (X : List Int) (v : Int), (List.map u8L X).set p (u8L v) = List.map u8L (X.set p v) := fun X v => by rw [List.map_set]
    have hpb : p ≤ 70368744177663 := by omega
    have hl0 : l ≠ [] := fun e => by rw [e] at h; simp at h
    have hmin : min (i + 1) l.length = i + 1 := by omega
    simp only [rowH]
    by_cases h0 : i = 0
    · have hm0 : m = 0 := by omega
      have hp0 : p = 0 := by omega
      have e1 : (pk (l.take i ++ [false])).map u8L = [u8L 0] := by rw [h0]; simp [pk1]
      simp [htk.2 h0, h, hrem, hm0]
      refine lwp_loop (fun k : Nat => [(0, .sl 1 c (l.map bitL)), (2, .ptr 0 0), (3, .ptr 1 0), (4, intL i), (5, intL ((2 ^ k : Nat) : Int)), (6, intL k)]) (fun _ => [some [nilL, intL 0], some [.view 1 2 0 (p + 1) false, intL 0], some ((pk (l.take i ++ [false])).map u8L)]) (fun k => 7 - m - k) (fun k => k ≤ 7 - m) 0 (by omega) ⟨[0, 1, 3], by simp [e1, hp0]⟩ ?_
      refine fun k hk => row_inner (by omega) hrem (by simp) (by simp) (by simp) (by simp) ?_ k hk
      intro E' f0 f2 f3 f4 f5
      rw [← hw] at f5
      simp [f0, f2, f3, f4, f5, hidx, z1m, hb, hmulN, hconv, haddN, suc64 (show i ≤ 281474976710656 by omega)]
      refine ⟨by omega, by omega, i + 1, by omega, by simp only; omega, [0, 1, 2], ?_⟩
      simp [-List.map_set, hset, rowH, htake, z3, hl0, hmin, f0, f2, f3]
      omega
    · have hne : l.take i ≠ [] := fun e => h0 (htk.1 e)
      by_cases h8 : m = 0
      · have e1 : (pk (l.take i ++ [false])).map u8L = (pk (l.take i)).map u8L ++ [u8L 0] := by rw [pk_false, hlen, ← hm, if_pos h8]; simp
        have hq : (i + 7) / 8 = p := by omega
        simp [hne, h, hrem, h8, hlen, hq, hpb]
        refine lwp_loop (fun k : Nat => [(0, .sl 1 c (l.map bitL)), (2, .ptr 0 0), (3, .ptr 1 0), (4, intL i), (5, intL ((2 ^ k : Nat) : Int)), (6, intL k)]) (fun _ => [some [nilL, intL 0], some [.view 1 2 0 (p + 1) false, intL 0], some ((pk (l.take i ++ [false])).map u8L)]) (fun k => 7 - m - k) (fun k => k ≤ 7 - m) 0 (by omega) ⟨[0, 1, 4], by simp [e1]⟩ ?_
        refine fun k hk => row_inner (by omega) hrem (by simp) (by simp) (by simp) (by simp) ?_ k hk
        intro E' f0 f2 f3 f4 f5
        rw [← hw] at f5
        simp [f0, f2, f3, f4, f5, hidx, z1m, hb, hmulN, hconv, haddN, suc64 (show i ≤ 281474976710656 by omega)]
        refine ⟨by omega, by omega, i + 1, by omega, by simp only; omega, [0, 1, 2], ?_⟩
        simp [-List.map_set, hset, rowH, htake, z3, hl0, hmin, f0, f2, f3]
        omega
      · have e1 : (pk (l.take i ++ [false])).map u8L = (pk (l.take i)).map u8L := by rw [pk_false, hlen, ← hm, if_neg h8]
        have hq : (i + 7) / 8 = p + 1 := by omega
        simp [hne, h, hrem, h8, hlen, hq, hpb]
        refine lwp_loop (fun k : Nat => [(0, .sl 1 c (l.map bitL)), (2, .ptr 0 0), (3, .ptr 1 0), (4, intL i), (5, intL ((2 ^ k : Nat) : Int)), (6, intL k)]) (fun _ => [some [nilL, intL 0], some [.view 1 2 0 (p + 1) false, intL 0], some ((pk (l.take i ++ [false])).map u8L)]) (fun k => 7 - m - k) (fun k => k ≤ 7 - m) 0 (by omega) ⟨[0, 1, 2], by simp [e1]⟩ ?_
        refine fun k hk => row_inner (by omega) hrem (by simp) (by simp) (by simp) (by simp) ?_ k hk
        intro E' f0 f2 f3 f4 f5
        rw [← hw] at f5
        simp [f0, f2, f3, f4, f5, hidx, z1m, hb, hmulN, hconv, haddN, suc64 (show i ≤ 281474976710656 by omega)]
        refine ⟨by omega, by omega, i + 1, by omega, by simp only; omega, [0, 1, 2], ?_⟩
        simp [-List.map_set, hset, rowH, htake, z3, hl0, hmin, f0, f2, f3]
        omega
  · have e : i = l.length := by omega
    subst e
    simp only [rowH, List.take_length]
    by_cases h0 : l = []
    · subst h0
      simp [pk_nil]
      exact sub_agg2
    · simp [h0]
      exact .refl _
end Lg
/- Numbers of so many bits: the answer's put and join. -/
namespace Lg
open Go
def tailL (n m k : Nat) : List L := List.replicate (m - k) (intL 0) ++ (numB n k).map bitL
theorem tailL_zero {n m : Nat} : tailL n m 0 = List.replicate m (intL 0) := by simp [tailL, numB_zero]
theorem tailL_all {n m : Nat} : tailL n m m = (numB n m).map bitL := by simp [tailL]
@[simp] theorem tailL_length {n m k : Nat} (h : k ≤ m) : (tailL n m k).length = m := by simp [tailL]; omega
theorem tailL_succ {n m k : Nat} (h : k < m) : (tailL n m k).set (m - 1 - k) (intL ((shN n k % 2 : Nat) : Int)) = tailL n m (k + 1) := by
  unfold tailL
  rw [numB_cons, List.set_append_left _ _ (by simp; omega)]
  have e1 : List.replicate (m - k) (intL 0) = List.replicate (m - (k + 1)) (intL 0) ++ [intL 0] := by
    rw [show m - k = (m - (k + 1)) + 1 by omega, List.replicate_succ']
  rw [e1, List.set_append_right _ _ (by simp; omega)]
  have e2 : m - 1 - k - (List.replicate (m - (k + 1)) (intL 0)).length = 0 := by simp; omega
  rw [e2]
  have e3 : bitL (decide (n / 2 ^ k % 2 = 1)) = intL ((shN n k % 2 : Nat) : Int) := by
    unfold shN bitL bitN
    have := Nat.mod_two_eq_zero_or_one (n / 2 ^ k)
    rcases this with h | h <;> simp [h]
  simp only [List.map_cons, e3, List.set_cons_zero, List.append_assoc, List.cons_append, List.nil_append]
theorem belowL_rep {n m : Nat} {k : Int} : belowL n (List.replicate m (intL k)) = true := by
  induction m with
  | zero => rfl
  | succ m ih => simp [List.replicate_succ, belowL, ih]
theorem renL_rep {f : Nat → Nat} {m : Nat} {k : Int} : renL f (List.replicate m (intL k)) = List.replicate m (intL k) := by
  induction m with
  | zero => rfl
  | succ m ih => simp [List.replicate_succ, ih]
theorem tailL_ren {n m k : Nat} {f : Nat → Nat} : renL f (tailL n m k) = tailL n m k := by simp [tailL, renL_append, renL_rep]
theorem tailL_below {n m k b : Nat} : belowL b (tailL n m k) = true := by simp [tailL, belowL_append, belowL_rep]
theorem row_nil {P : Program} {f : Nat} (ir : compF P f = some irRRow) : PC P f [nilL] (.agg [.sl 1 false [], intL 0]) :=
  PC.sub (row_gen ir false [] (by simp)) (.cons (.nil _ _) .nil) (.refl _)
theorem putR_gen {P : Program} {f w ro li bit : Nat} (ir : compF P f = some (irRPut w ro li)) (irw : compF P w = some irRWide) (irr : compF P ro = some irRRow) (irl : compF P li = some (irRList bit)) (irb : compF P bit = some irRBit)
    {B : List Int} {N : Int} {n : Nat} {wide : Int} (hb : ∀ z ∈ B, isByte z) (hR : rightB B N) (hbig : 8 * B.length ≤ 8000000000000) (hn : n < 2 ^ 64) :
    PC P f [.agg [.sl 1 false (B.map u8L), intL N], u64L n, intL wide] (.tup [.agg [.sl 1 false ((putV B N n wide).1.map u8L), intL (putV B N n wide).2.1], intL (putV B N n wide).2.2]) := by
  have hBl : B.length = (N.toNat + 7) / 8 := hR.2.1
  have hN0 : 0 ≤ N := hR.1
  refine pc_of_call' (callAt_enter ir (by simp [irRPut]) ?_)
  have hw : (wide < 0 ∨ 64 < wide) ∨ ¬ (wide < 0 ∨ 64 < wide) := Classical.em _
  rcases hw with hw | hw
  · have e : putV B N n wide = (B, N, 1) := by unfold putV; rw [if_pos hw]
    rw [e]
    by_cases h0 : wide < 0
    · simp [irRPut, h0]
      exact .refl _
    · have h1 : 64 < wide := by omega
      simp [irRPut, h0, h1]
      exact .refl _
  have h0 : ¬ wide < 0 := by omega
  have h1 : ¬ 64 < wide := by omega
  have hwid : wid n ≤ 64 := (wid_le hn).2 hn
  by_cases hlt : wide < wid n
  · have e : putV B N n wide = (B, N, 5) := by unfold putV; rw [if_neg hw, if_pos hlt]
    rw [e]
    simp [irRPut, h0, h1]
    refine callT_plain (widR_gen irw n hn) rfl (by simp) ?_
    simp [hlt]
    exact .refl _
  have e : putV B N n wide = (pk (un B N.toNat ++ numB n wide.toNat), N + wide, 0) := by unfold putV; rw [if_neg hw, if_neg hlt]
  rw [e]
  obtain ⟨m, rfl⟩ := Int.eq_ofNat_of_zero_le (show 0 ≤ wide by omega)
  obtain ⟨N, rfl⟩ := Int.eq_ofNat_of_zero_le hN0
  simp only [Int.toNat_natCast] at hBl ⊢
  simp [irRPut, h0, h1]
  refine callT_plain (widR_gen irw n hn) rfl (by simp) ?_
  have hlt' : ¬ m < wid n := by omega
  have hm1 : IntKind.i64.wrap ((m : Int) - 1) = (m : Int) - 1 := IntWalk.i64_in _ ⟨by omega, by omega⟩
  have hm : m ≤ 64 := by omega
  have hmb : m ≤ 35184372088832 := by omega
  simp [hlt', hm1]
  refine ⟨⟨by omega, by omega⟩, ?_⟩
  refine lwp_loop (fun k : Nat => [(1, u64L (shN n k)), (3, .ptr 0 0), (6, .ptr 1 0), (8, .view 1 2 0 m true), (9, intL (m - 1 - k))]) (fun k => [some [.sl 1 false (B.map u8L), intL N], some [nilL, intL 0], some (tailL n m k)]) (fun k => m - k) (fun k => k ≤ m) 0 (by simp)
    ⟨[0, 1, 2], by simp [shN_zero, tailL_zero, belowL_rep, renL_rep]⟩ ?_
  intro k hk
  by_cases h : k < m
  · obtain ⟨i, hi⟩ : ∃ i : Nat, i = m - 1 - k := ⟨_, rfl⟩
    have hi' : (m : Int) - 1 - (k : Int) = (i : Int) := by omega
    have hsub : IntKind.i64.wrap ((i : Int) - 1) = (i : Int) - 1 := IntWalk.i64_in _ ⟨by omega, by omega⟩
    have hsh : shN n k < 2 ^ 64 := Nat.lt_of_le_of_lt (Nat.div_le_self _ _) hn
    obtain ⟨x, hx⟩ : ∃ x, x = shN n k % 2 := ⟨_, rfl⟩
    have hrem : IntKind.i64.wrap ((shN n k : Int).tmod 2) = (x : Int) := by
      rw [Int.tmod_eq_emod_of_nonneg (by omega), wrap_id (by omega) (by omega)]; omega
    have hq := shN_quo (k := k) hn
    simp at hq
    have hset := tailL_succ (n := n) h
    rw [← hx, ← hi] at hset
    have hlen : (tailL n m k).length = m := tailL_length hk
    have him : i < m := by omega
    simp [hi', hrem, hq, hsub, him, hlen]
    refine ⟨by omega, k + 1, by omega, by simp only; omega, [0, 1, 2], ?_⟩
    rw [hset]
    simp [tailL_ren, tailL_below]
    omega
  · have e : m = k := by omega
    subst e
    have hneg : ¬ (m : Int) ≤ (m : Int) - 1 := by omega
    simp [hneg, tailL_all]
    have hpr := row_gen irr false (un B N ++ numB n m) (by simp; omega)
    refine callT_frame [] (list_own irl irb (N := N) hb (by omega) (by omega)) (by simp) (by simp) (by simp) (by simp) (by simp) ?_
    rintro l R ⟨rfl, rfl⟩
    by_cases hN0 : N = 0
    · subst hN0
      have hu : un B 0 = [] := rfl
      rw [hu, List.nil_append] at hpr
      by_cases hm0 : m = 0
      · subst hm0
        simp [listE, listH, mergeH, setRows, upN, numB_zero, hu]
        refine callT_closed (row_nil irr) (by simp) ?_
        simp
        exact .refl _
      · simp [listE, listH, mergeH, setRows, upN, hm0, hmb, hu]
        refine ⟨by omega, ?_⟩
        refine callT_freeze [4] hpr (by simp) ?_
        simp
        exact .refl _
    · simp [listE, listH, mergeH, setRows, upN, hN0]
      refine ⟨by omega, ?_⟩
      refine callT_freeze [5] hpr (by simp) ?_
      simp
      exact .refl _
theorem joinR_gen {P : Program} {f ro li bit : Nat} {sel : Nat → Bool} (ir : compFS sel P f = some (irRJoin ro li)) (irr : compF P ro = some irRRow) (irl : compF P li = some (irRList bit)) (irb : compF P bit = some irRBit)
    {A B : List Int} {N M : Int} (ha : ∀ z ∈ A, isByte z) (hb : ∀ z ∈ B, isByte z) (hR : rightB A N) (hR' : rightB B M) (hba : 8 * A.length ≤ 4000000000000) (hbb : 8 * B.length ≤ 4000000000000) :
    PC P f [.agg [.sl 1 false (A.map u8L), intL N], .agg [.sl 1 false (B.map u8L), intL M]] (.agg [.sl 1 false ((pk (un A N.toNat ++ un B M.toNat)).map u8L), intL (N + M)]) := by
  have hAl : A.length = (N.toNat + 7) / 8 := hR.2.1
  have hBl : B.length = (M.toNat + 7) / 8 := hR'.2.1
  obtain ⟨N, rfl⟩ := Int.eq_ofNat_of_zero_le hR.1
  obtain ⟨M, rfl⟩ := Int.eq_ofNat_of_zero_le hR'.1
  simp only [Int.toNat_natCast] at *
  have hpr := row_gen irr false (un A N ++ un B M) (by simp; omega)
  refine pc_of_call' (callAt_enterS ir (by simp [irRJoin]) ?_)
  simp [irRJoin]
  refine lwp_drawN1' ?_
  simp
  refine callT_frame [] (list_own irl irb (N := N) ha (by omega) (by omega)) (by simp) (by simp) (by simp) (by simp) (by simp) ?_
  rintro l R ⟨rfl, rfl⟩
  by_cases hN : N = 0
  · subst hN
    have hu : un A 0 = [] := rfl
    simp [listE, listH, mergeH, setRows, upN]
    refine callT_frame [] (list_own irl irb (N := M) hb (by omega) (by omega)) (by simp) (by simp) (by simp) (by simp) (by simp) ?_
    rintro l R ⟨rfl, rfl⟩
    by_cases hM : M = 0
    · subst hM
      have hv : un B 0 = [] := rfl
      simp [listE, listH, mergeH, setRows, upN, hu, hv]
      refine callT_closed (row_nil irr) (by simp) ?_
      simp [pk_nil]
      exact .refl _
    · have hMb : M ≤ 8796093022208 := by omega
      simp [listE, listH, mergeH, setRows, upN, hM, hMb]
      rw [hu, List.nil_append] at hpr
      refine ⟨by omega, ?_⟩
      refine callT_freeze [6] hpr (by simp) ?_
      simp [hu]
      exact .refl _
  · simp [listE, listH, mergeH, setRows, upN, hN]
    refine callT_frame [] (list_own irl irb (N := M) hb (by omega) (by omega)) (by simp) (by simp) (by simp) (by simp) (by simp) ?_
    rintro l R ⟨rfl, rfl⟩
    by_cases hM : M = 0
    · subst hM
      have hv : un B 0 = [] := rfl
      simp [listE, listH, mergeH, setRows, upN, hv]
      rw [hv, List.append_nil] at hpr
      refine ⟨by omega, ?_⟩
      refine callT_freeze [6] hpr (by simp) ?_
      simp
      exact .refl _
    · have hMb : (N + M) * 8 ≤ 70368744177664 := by omega
      simp [listE, listH, mergeH, setRows, upN, hM, hMb]
      refine callT_freeze [7] hpr (by simp) ?_
      simp
      exact .refl _
end Lg
/- Numbers of so many bits: which bits are right. -/
namespace Lg
open Go
def rightV (B : List Int) (N : Int) : Bool := decide (0 ≤ N) && (decide (B.length = (N.toNat + 7) / 8) && ((List.range (8 * B.length - N.toNat)).all fun j => !bitB B (N.toNat + j)))
theorem bitB_out {B : List Int} {k : Nat} (h : 8 * B.length ≤ k) : bitB B k = false := by
  unfold bitB
  rw [show B.getD (k / 8) 0 = 0 by simp [List.getD, List.getElem?_eq_none (show B.length ≤ k / 8 by omega)]]
  simp
theorem rightV_iff {B : List Int} {N : Int} : rightV B N = true ↔ rightB B N := by
  unfold rightV rightB
  simp only [Bool.and_eq_true, decide_eq_true_eq, List.all_eq_true, List.mem_range, Bool.not_eq_true']
  refine and_congr_right fun h0 => and_congr_right fun h1 => ?_
  constructor
  · intro h k hk
    by_cases hb : k < 8 * B.length
    · have := h (k - N.toNat) (by omega)
      rwa [show N.toNat + (k - N.toNat) = k by omega] at this
    · exact bitB_out (by omega)
  · intro h j _
    exact h _ (by omega)
theorem rightR_gen {P : Program} {f bit : Nat} (ir : compF P f = some (irRRight bit)) (irb : compF P bit = some irRBit) {B : List Int} {N : Int} (hb : ∀ z ∈ B, isByte z) (hbig : 8 * B.length ≤ 281474976710656) (hN : N ≤ 9223372036854775807) :
    PC P f [.agg [.sl 1 false (B.map u8L), intL N]] (boolL (rightV B N)) := by
  refine pc_of_call (callAt_enter ir (by simp [irRRight]) ?_)
  by_cases h0 : N < 0
  · have e : rightV B N = false := by unfold rightV; simp [show ¬ 0 ≤ N by omega]
    rw [e]
    simp [irRRight, h0]
  obtain ⟨n, rfl⟩ := Int.eq_ofNat_of_zero_le (show 0 ≤ N by omega)
  have hq : IntKind.i64.wrap ((n : Int) / 8) = (n : Int) / 8 := wrap_id (by omega) (by omega)
  have hq1 : IntKind.i64.wrap ((n : Int) / 8 + 1) = (n : Int) / 8 + 1 := wrap_id (by omega) (by omega)
  have hm : IntKind.i64.wrap (8 * (B.length : Int)) = 8 * (B.length : Int) := wrap_id (by omega) (by omega)
  have bad : ∀ h : B.length ≠ (n + 7) / 8, rightV B (n : Int) = false := fun h => by unfold rightV; simp [h]
  by_cases h1 : (n : Int) / 8 + 1 < (B.length : Int)
  · rw [bad (by omega)]
    simp [irRRight, h0, hq, hq1, h1]
  by_cases h2 : 8 * (B.length : Int) < (n : Int)
  · rw [bad (by omega)]
    simp [irRRight, h0, hq, hq1, h1, hm, h2]
  have hn8 : IntKind.i64.wrap ((n : Int) + 8) = (n : Int) + 8 := wrap_id (by omega) (by omega)
  by_cases h3 : (n : Int) + 8 ≤ 8 * (B.length : Int)
  · rw [bad (by omega)]
    simp [irRRight, h0, hq, hq1, h1, hm, h2, hn8, h3]
  simp [irRRight, h0, hq, hq1, h1, hm, h2, hn8, h3]
  refine lwp_loop (fun j : Nat => [(1, .ptr 0 0), (3, intL (n + j))]) (fun _ => [some [.sl 1 false (B.map u8L), intL n]]) (fun j => 8 * B.length - n - j) (fun j => j ≤ 8 * B.length - n ∧ ∀ i, i < j → bitB B (n + i) = false) 0 (by simp) ⟨[0], by simp⟩ ?_
  rintro j ⟨hj, hall⟩
  obtain ⟨g, hg⟩ : ∃ g, g = n + j := ⟨_, rfl⟩
  have hg1 : (n : Int) + (j : Int) = (g : Int) := by omega
  by_cases h : g < 8 * B.length
  · have h' : (g : Int) < 8 * (B.length : Int) := by omega
    have hs : IntKind.i64.wrap ((g : Int) + 1) = (g : Int) + 1 := suc64 (by omega)
    simp [hg1, hm, h']
    refine callT_plain (bitR_gen irb (N := (n : Int)) hb h hbig) rfl (by simp) ?_
    cases hbit : bitB B g with
    | true =>
      have e : rightV B (n : Int) = false := by
        cases hv : rightV B (n : Int) with
        | false => rfl
        | true =>
          have := (rightV_iff.1 hv).2.2 g (by simp; omega)
          rw [hbit] at this; cases this
      simp [bitN, e]
    | false =>
      simp [bitN, hs]
      refine ⟨j + 1, ⟨by omega, fun i hi => ?_⟩, by simp only; omega, [0], by simp; omega⟩
      by_cases hij : i = j
      · rw [hij, ← hg]; exact hbit
      · exact hall i (by omega)
  · have h' : ¬ (g : Int) < 8 * (B.length : Int) := by omega
    have e : rightV B (n : Int) = true := by
      refine rightV_iff.2 ⟨by omega, by simp; omega, fun k hk => ?_⟩
      simp at hk
      by_cases hk2 : k < 8 * B.length
      · have := hall (k - n) (by omega)
        rwa [show n + (k - n) = k by omega] at this
      · exact bitB_out (by omega)
    simp [hg1, hm, h', e]
theorem shl_last : ∀ x : Fin 256, ∀ r : Fin 8, (shlI .u8 (x.val : Int) (r.val : Int) = 0 ↔ ∀ j : Fin 8, r.val ≤ j.val → x.val / 2 ^ (7 - j.val) % 2 = 0) := by decide +kernel
theorem rightB_gen {P : Program} {f : Nat} (ir : compF P f = some irBRight) {B : List Int} {N : Int} (hb : ∀ z ∈ B, isByte z) (hbig : 8 * B.length ≤ 281474976710656) (hN : N ≤ 9223372036854775807) :
    PC P f [.agg [.sl 1 false (B.map u8L), intL N]] (boolL (rightV B N)) := by
  refine pc_of_call (callAt_enter ir (by simp [irBRight]) ?_)
  by_cases h0 : N < 0
  · have e : rightV B N = false := by unfold rightV; simp [show ¬ 0 ≤ N by omega]
    rw [e]
    simp [irBRight, h0]
  obtain ⟨n, rfl⟩ := Int.eq_ofNat_of_zero_le (show 0 ≤ N by omega)
  have bad : ∀ h : B.length ≠ (n + 7) / 8, rightV B (n : Int) = false := fun h => by unfold rightV; simp [h]
  obtain ⟨m, hm⟩ : ∃ m, m = n % 8 := ⟨_, rfl⟩
  obtain ⟨q, hq0⟩ : ∃ q, q = n / 8 := ⟨_, rfl⟩
  have hq : IntKind.i64.wrap ((n : Int) / 8) = (q : Int) := by rw [wrap_id (by omega) (by omega)]; omega
  have hrem : ((n : Int)).tmod 8 = (m : Int) := by rw [hm]; exact tmod8
  have hm64 : IntKind.i64.wrap (m : Int) = (m : Int) := by rw [hm]; exact rem8
  by_cases hm0 : m = 0
  · subst hm0
    have hq1 : IntKind.i64.wrap (q : Int) = (q : Int) := wrap_id (by omega) (by omega)
    by_cases hl : B.length = q
    · have e : rightV B (n : Int) = true := by
        refine rightV_iff.2 ⟨by omega, by simp; omega, fun k hk => bitB_out (by simp at hk; omega)⟩
      simp [irBRight, h0, hq, hrem, hm64, hq1, hl, e]
    · have hl' : ¬ (B.length : Int) = (q : Int) := by omega
      simp [irBRight, h0, hq, hrem, hm64, hq1, hl', bad (by omega)]
  · have hmin : (if 1 < (m : Int) then (1 : Int) else (m : Int)) = 1 := by split <;> omega
    have hq1 : IntKind.i64.wrap ((q : Int) + 1) = (q : Int) + 1 := wrap_id (by omega) (by omega)
    by_cases hl : B.length = q + 1
    · have hq2 : IntKind.i64.wrap ((q : Int) + 1 - 1) = (q : Int) := by rw [wrap_id (by omega) (by omega)]; omega
      obtain ⟨z, hz⟩ : ∃ z, B[q]? = some z := ⟨_, List.getElem?_eq_getElem (by omega)⟩
      have hzb : isByte z := hb z (List.mem_of_getElem? hz)
      obtain ⟨z, rfl⟩ := Int.eq_ofNat_of_zero_le hzb.1
      have hz255 : z ≤ 255 := by have := hzb.2; omega
      have hsl := shl_last ⟨z, by omega⟩ ⟨m, by omega⟩
      simp only at hsl
      have e : rightV B (n : Int) = decide (shlI .u8 (z : Int) (m : Int) = 0) := by
        have hbit : ∀ j : Nat, j < 8 → (bitB B (8 * q + j) = false ↔ z / 2 ^ (7 - j) % 2 = 0) := fun j hj => by
          unfold bitB
          rw [show (8 * q + j) / 8 = q by omega, show (8 * q + j) % 8 = j by omega]
          simp [List.getD, hz]
        by_cases hs : shlI .u8 (z : Int) (m : Int) = 0
        · simp only [hs, decide_true]
          refine rightV_iff.2 ⟨by omega, by simp; omega, fun k hk => ?_⟩
          simp at hk
          by_cases hk2 : k < 8 * B.length
          · have := (hbit (k % 8) (by omega)).2 (hsl.1 hs ⟨k % 8, by omega⟩ (by simp only; omega))
            rwa [show 8 * q + k % 8 = k by omega] at this
          · exact bitB_out (by omega)
        · simp only [hs, decide_false]
          cases hv : rightV B (n : Int) with
          | false => rfl
          | true =>
            exfalso
            refine hs (hsl.2 fun j hj => (hbit j.val j.isLt).1 ?_)
            exact (rightV_iff.1 hv).2.2 _ (by simp; omega)
      have hqz : IntKind.i64.wrap (q : Int) = (q : Int) := wrap_id (by omega) (by omega)
      simp [irBRight, h0, hq, hrem, hm64, hmin, hq1, hl, hm0, hq2, hqz, hz, e]
      rw [(List.getElem?_eq_some_iff.1 hz).2]
    · have hl' : ¬ (B.length : Int) = (q : Int) + 1 := by omega
      simp [irBRight, h0, hq, hrem, hm64, hmin, hq1, hl', bad (by omega)]
end Lg
