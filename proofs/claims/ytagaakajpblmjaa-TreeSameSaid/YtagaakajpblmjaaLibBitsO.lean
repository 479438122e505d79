/- The order of rows of bits is that of their bytes. -/
import Derived.Test.YtagaakajpblmjaaLibBitsPV
namespace Lg
open Go
theorem numOf_append {a b : List Bool} : numOf (a ++ b) = numOf a * 2 ^ b.length + numOf b := by
  refine snocInd (p := fun b => numOf (a ++ b) = numOf a * 2 ^ b.length + numOf b) (by simp [numOf]) (fun b x ih => ?_) b
  rw [← List.append_assoc, numOf_snoc, ih, numOf_snoc]
  simp only [List.length_append, List.length_singleton, Nat.pow_succ]
  rw [Nat.mul_add, ← Nat.mul_assoc, Nat.mul_comm 2 (numOf a), Nat.mul_assoc, Nat.mul_comm 2 (2 ^ b.length), ← Nat.add_assoc]
theorem numB_mod {n k : Nat} : numB (n % 2 ^ k) k = numB n k := by
  have := numB_numOf (numB n k)
  rwa [numOf_numB, numB_length] at this
theorem numOf_inj {a b : List Bool} (h : a.length = b.length) : numOf a = numOf b ↔ a = b :=
  ⟨fun e => by rw [← numB_numOf a, ← numB_numOf b, e, h], fun e => by rw [e]⟩
theorem numB_two {h l a b : Nat} (hl : l < 2 ^ b) : numB (h * 2 ^ b + l) (a + b) = numB h a ++ numB l b := by
  refine (numOf_inj (by simp)).1 ?_
  rw [numOf_append, numOf_numB, numOf_numB, numOf_numB, numB_length, Nat.mod_eq_of_lt hl, Nat.pow_add, Nat.mul_comm (2 ^ a), Nat.mod_mul, Nat.mul_comm h]
  rw [Nat.mul_add_mod, Nat.mod_eq_of_lt hl, Nat.mul_add_div (Nat.pos_of_ne_zero (by simp)), Nat.div_eq_of_lt hl, Nat.add_zero, Nat.mul_comm (2 ^ b), Nat.add_comm]
theorem byteN_numOf {g : Nat → Bool} : numOf ((List.range 8).map g) = byteN (fun j => g (7 - j)) := by
  simp only [numOf, byteN, List.range, List.range.loop, List.map_cons, List.map_nil, List.foldl_cons, List.foldl_nil, Nat.sub_zero, Nat.reduceSub]
  omega
def pad8 (l : List Bool) : List Bool := (List.range 8).map fun i => l.getD i false
theorem pad8_take {l : List Bool} : pad8 l = l.take 8 ++ List.replicate (8 - l.length) false := by
  refine List.ext_getElem (by simp [pad8]; omega) fun i h1 h2 => ?_
  simp [pad8] at h1
  simp only [pad8, List.getElem_map, List.getElem_range]
  by_cases h : i < l.length
  · rw [List.getElem_append_left (by simp; omega)]
    simp [List.getD, List.getElem?_eq_getElem h]
  · rw [List.getElem_append_right (by simp; omega)]
    simp [List.getD, List.getElem?_eq_none (Nat.le_of_not_lt h)]
theorem pk_cons8 {l : List Bool} (h : 0 < l.length) : pk l = (numOf (pad8 l) : Int) :: pk (l.drop 8) := by
  unfold pk
  rw [show (l.length + 7) / 8 = ((l.drop 8).length + 7) / 8 + 1 by simp; omega, List.range_succ_eq_map, List.map_cons, List.map_map]
  congr 1
  · rw [pad8, byteN_numOf]
    simp
  · refine List.map_congr_left fun i _ => ?_
    simp only [Function.comp, List.getD, List.getElem?_drop]
    congr 3
    funext j
    rw [show 8 * (i + 1) + (7 - j) = 8 + (8 * i + (7 - j)) by omega]
theorem numOf_false : ∀ {n : Nat}, numOf (List.replicate n false) = 0
  | 0 => rfl
  | n + 1 => by rw [List.replicate_succ', numOf_snoc, numOf_false]; rfl
theorem numOf_pad8 {l : List Bool} : numOf (pad8 l) = numOf (l.take 8) * 2 ^ (8 - l.length) := by rw [pad8_take, numOf_append, numOf_false]; simp
theorem u8_toNat {n : Nat} (h : n < 256) : (UInt8.ofNat ((n : Int)).toNat).toNat = n := by simp; omega
def u8s (B : List Int) : List UInt8 := B.map fun z => UInt8.ofNat z.toNat
theorem numOf_split {l : List Bool} : numOf l = numOf (l.take 8) * 2 ^ (l.length - 8) + numOf (l.drop 8) := by
  have := numOf_append (a := l.take 8) (b := l.drop 8)
  rwa [List.take_append_drop, List.length_drop] at this
theorem pk_less : ∀ (n : Nat) {a b : List Bool}, a.length = n → b.length = n → Op.bytesLess (u8s (pk a)) (u8s (pk b)) = decide (numOf a < numOf b) := by
  intro n
  induction n using Nat.strongRecOn with
  | _ n ih =>
    intro a b ha hb
    by_cases hn : n = 0
    · have : a = [] := List.length_eq_zero_iff.1 (by omega)
      have : b = [] := List.length_eq_zero_iff.1 (by omega)
      subst a b
      simp [u8s, pk_nil, Op.bytesLess]
    have la := numOf_lt (pad8 a)
    have lb := numOf_lt (pad8 b)
    rw [show (pad8 a).length = 8 by simp [pad8]] at la
    rw [show (pad8 b).length = 8 by simp [pad8]] at lb
    rw [pk_cons8 (l := a) (by omega), pk_cons8 (l := b) (by omega)]
    unfold u8s
    rw [List.map_cons, List.map_cons, Op.bytesLess]
    have hx : (UInt8.ofNat ((numOf (pad8 a) : Int)).toNat < UInt8.ofNat ((numOf (pad8 b) : Int)).toNat) = (numOf (pad8 a) < numOf (pad8 b)) := by
      rw [UInt8.lt_iff_toNat_lt, u8_toNat (by omega), u8_toNat (by omega)]
    have hy : (UInt8.ofNat ((numOf (pad8 a) : Int)).toNat == UInt8.ofNat ((numOf (pad8 b) : Int)).toNat) = decide (numOf (pad8 a) = numOf (pad8 b)) := by
      rw [Bool.eq_iff_iff, beq_iff_eq, decide_eq_true_iff, ← UInt8.toNat_inj, u8_toNat (by omega), u8_toNat (by omega)]
    have hr := ih (n - 8) (by omega) (a := a.drop 8) (b := b.drop 8) (by simp; omega) (by simp; omega)
    unfold u8s at hr
    simp only [hx]
    rw [hy, hr]
    have sa := numOf_split (l := a)
    have sb := numOf_split (l := b)
    have da := numOf_lt (a.drop 8)
    have db := numOf_lt (b.drop 8)
    rw [List.length_drop, ha] at da
    rw [List.length_drop, hb] at db
    rw [ha] at sa
    rw [hb] at sb
    rw [numOf_pad8, numOf_pad8, ha, hb, sa, sb]
    generalize numOf (a.take 8) = x at *
    generalize numOf (b.take 8) = y at *
    generalize numOf (a.drop 8) = p at *
    generalize numOf (b.drop 8) = q at *
    generalize hk : 2 ^ (8 - n) = k
    generalize hm : 2 ^ (n - 8) = m at *
    have kp : 0 < k := by rw [← hk]; exact Nat.pos_of_ne_zero (by simp)
    have h1 : x * k < y * k ↔ x < y := Nat.mul_lt_mul_right kp
    have h2 : x * k = y * k ↔ x = y := Nat.mul_left_inj (by omega)
    simp only [h1, h2]
    rw [Bool.eq_iff_iff]
    simp only [Bool.or_eq_true, Bool.and_eq_true, decide_eq_true_eq]
    constructor
    · rintro (h | ⟨rfl, h⟩)
      · have := Nat.mul_le_mul_right m (show x + 1 ≤ y by omega)
        rw [Nat.add_mul] at this
        omega
      · omega
    · intro h
      by_cases h3 : x < y
      · exact .inl h3
      · by_cases h4 : x = y
        · subst h4; exact .inr ⟨rfl, by omega⟩
        · have := Nat.mul_le_mul_right m (show y + 1 ≤ x by omega)
          rw [Nat.add_mul] at this
          omega
theorem u8_inj {z y : Int} (hz : isByte z) (hy : isByte y) (h : UInt8.ofNat z.toNat = UInt8.ofNat y.toNat) : z = y := by
  obtain ⟨z1, z2⟩ := hz
  obtain ⟨y1, y2⟩ := hy
  have := congrArg UInt8.toNat h
  simp at this
  omega
theorem u8s_inj : ∀ {A B : List Int}, (∀ z ∈ A, isByte z) → (∀ z ∈ B, isByte z) → (u8s A = u8s B ↔ A = B)
  | [], [], _, _ => by simp
  | [], _ :: _, _, _ => by simp [u8s]
  | _ :: _, [], _, _ => by simp [u8s]
  | x :: A, y :: B, ha, hb => by
    have ih := u8s_inj (A := A) (B := B) (fun z hz => ha z (by simp [hz])) (fun z hz => hb z (by simp [hz]))
    simp only [u8s, List.map_cons, List.cons.injEq] at *
    rw [ih]
    constructor
    · rintro ⟨h1, h2⟩; exact ⟨u8_inj (ha x (by simp)) (hb y (by simp)) h1, h2⟩
    · rintro ⟨h1, h2⟩; exact ⟨by rw [h1], h2⟩
theorem pk_same {a b : List Bool} (h : a.length = b.length) : u8s (pk a) = u8s (pk b) ↔ a = b := by
  rw [u8s_inj pk_byte pk_byte]
  constructor
  · intro e; rw [← un_pk (l := a) rfl, ← un_pk (l := b) rfl, e, h]
  · rintro rfl; rfl
end Lg
