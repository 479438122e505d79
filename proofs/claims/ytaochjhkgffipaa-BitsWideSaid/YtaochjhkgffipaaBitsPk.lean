/- Bits that are right, as lists of bits. -/
import Derived.Test.YtaochjhkgffipaaBitsShown
import Derived.Test.YtaochjhkgffipaaLibBitsO
namespace Go.Proofs.Ytaochjhkgffipaa
open Go Lg

abbrev pkL (l : List Bool) : L := bitsL (pk l) (l.length : Nat)
def putP (l : List Bool) (n : Nat) (wide : Int) : List Bool × Int := if wide < 0 ∨ 64 < wide then (l, 1) else if wide < wid n then (l, 5) else (l ++ numB n wide.toNat, 0)
def takeP (l : List Bool) (at' wide : Int) : Int × Int := if wide < 0 ∨ 64 < wide then (0, 1) else if at' < 0 ∨ (l.length : Int) - at' < wide then (0, 10) else ((numOf ((l.drop at'.toNat).take wide.toNat) : Int), 0)

theorem segB_pk {l : List Bool} {a n : Nat} (h : a + n ≤ l.length) : segB (pk l) a n = (l.drop a).take n := by
  refine List.ext_getElem (by simp; omega) fun i h1 h2 => ?_
  simp at h1
  simp only [segB, List.getElem_map, List.getElem_range, bitB_pk, List.getElem_take, List.getElem_drop]
  simp [List.getD, List.getElem?_eq_getElem (show a + i < l.length by omega)]

theorem putP_of {l : List Bool} {n : Nat} {wide : Int} : putV (pk l) (l.length : Nat) n wide = (pk (putP l n wide).1, (((putP l n wide).1.length : Nat) : Int), (putP l n wide).2) := by
  unfold putV putP
  split
  · rfl
  split
  · rfl
  · rename_i h1 h2
    simp only [Int.toNat_natCast, un_pk rfl, List.length_append, numB_length]
    congr 2
    omega
theorem takeP_of {l : List Bool} {at' wide : Int} : takeV (pk l) (l.length : Nat) at' wide = takeP l at' wide := by
  unfold takeV takeP
  split
  · rfl
  split
  · rfl
  · rw [segB_pk (by omega)]

/-- Bits that are right are a list of bits. -/
theorem right_list {B : List Int} {N : Int} (hb : ∀ z ∈ B, isByte z) (h : rightB B N) : ∃ l : List Bool, B = pk l ∧ N = (l.length : Nat) :=
  ⟨un B N.toNat, (pk_un hb h).symm, by have := h.1; simp; omega⟩

theorem put_pk {l : List Bool} {n : Nat} {wide : Int} (hl : l.length ≤ 281474976710000) (hn : n < 2 ^ 64) : PC Try.prog 18 [pkL l, u64L n, intL wide] (.tup [pkL (putP l n wide).1, intL (putP l n wide).2]) := by
  have := put_any (wide := wide) (pk_byte (l := l)) pk_right (by omega) hn
  rwa [putP_of] at this
theorem putA_pk {l : List Bool} {n : Nat} {wide : Int} (hl : l.length ≤ 800000000000) (hn : n < 2 ^ 64) : PC Try.prog 19 [pkL l, u64L n, intL wide] (.tup [pkL (putP l n wide).1, intL (putP l n wide).2]) := by
  have := putA_any (wide := wide) (pk_byte (l := l)) pk_right (by simp; omega) hn
  rwa [putP_of] at this
theorem take_pk {l : List Bool} {at' wide : Int} (hl : l.length ≤ 281474976710000) (ha : at' ≤ 9223372036854775807) : PC Try.prog 20 [pkL l, intL at', intL wide] (.tup [u64L (takeP l at' wide).1, intL (takeP l at' wide).2]) := by
  have := take_any (at' := at') (wide := wide) (pk_byte (l := l)) (N := (l.length : Nat)) (by simp; omega) (by simp; omega) ha
  rwa [takeP_of] at this
theorem join_pk {a b : List Bool} (ha : a.length ≤ 70368744177664) (hb : b.length ≤ 70368744177664) : PC Try.prog 22 [pkL a, pkL b] (pkL (a ++ b)) := by
  have := join_any (pk_byte (l := a)) (pk_byte (l := b)) pk_right pk_right (by omega) (by omega)
  simp only [Int.toNat_natCast, un_pk rfl] at this
  rwa [show ((a.length : Nat) : Int) + ((b.length : Nat) : Int) = (((a ++ b).length : Nat) : Int) by simp] at this
theorem pk_inj {a b : List Bool} : (((a.length : Nat) : Int) = ((b.length : Nat) : Int) ∧ pk a = pk b) ↔ a = b := by
  constructor
  · rintro ⟨h1, h2⟩
    have h1 : a.length = b.length := by omega
    rw [← un_pk (l := a) rfl, ← un_pk (l := b) rfl, h2, h1]
  · rintro rfl; exact ⟨rfl, rfl⟩
theorem sameA_pk {a b : List Bool} : PC Try.prog 15 [pkL a, pkL b] (boolL (decide (a = b))) := by
  have := sameA_any (N := (a.length : Nat)) (M := (b.length : Nat)) (pk_byte (l := a)) (pk_byte (l := b))
  rwa [decide_eq_decide.2 pk_inj] at this
theorem rightA_pk {l : List Bool} (hl : l.length ≤ 281474976710000) : PC Try.prog 12 [pkL l] (boolL true) := by
  have := rightA_any (N := (l.length : Nat)) (pk_byte (l := l)) (by simp; omega) (by omega)
  rwa [rightV_iff.2 pk_right] at this
theorem right_pk {l : List Bool} (hl : l.length ≤ 281474976710000) : PC Try.prog 13 [pkL l] (boolL true) := by
  have := right_any (N := (l.length : Nat)) (pk_byte (l := l)) (by simp; omega) (by omega)
  rwa [rightV_iff.2 pk_right] at this
theorem few_pk {l : List Bool} : PC Try.prog 11 [pkL l] (boolL (decide ((pk l).length ≤ 100))) := few_any

theorem putP_len {l : List Bool} {n : Nat} {wide : Int} : l.length ≤ (putP l n wide).1.length ∧ (putP l n wide).1.length ≤ l.length + 64 := by
  unfold putP
  split
  · simp
  split
  · simp
  · simp; omega
/-- What is put. -/
theorem putP_pre {l : List Bool} {n : Nat} {wide : Int} : ∃ x, (putP l n wide).1 = l ++ x := by
  unfold putP
  split
  · exact ⟨[], by simp⟩
  split
  · exact ⟨[], by simp⟩
  · exact ⟨_, rfl⟩
theorem putP_ok {l : List Bool} {n w : Nat} (h1 : w ≤ 64) (h2 : wid n ≤ w) : putP l n (w : Int) = (l ++ numB n w, 0) := by
  unfold putP
  rw [if_neg (by omega), if_neg (by omega), Int.toNat_natCast]
theorem putP_bad {l : List Bool} {n : Nat} {wide : Int} (h : wide < 0 ∨ 64 < wide ∨ wide < wid n) : (putP l n wide).1 = l ∧ ((putP l n wide).2 = 1 ∨ (putP l n wide).2 = 5) := by
  unfold putP
  split
  · exact ⟨rfl, .inl rfl⟩
  split
  · exact ⟨rfl, .inr rfl⟩
  · omega
theorem takeP_ok {l : List Bool} {a w : Nat} (h1 : w ≤ 64) (h2 : a + w ≤ l.length) : takeP l (a : Int) (w : Int) = ((numOf ((l.drop a).take w) : Int), 0) := by
  unfold takeP
  rw [if_neg (by omega), if_neg (by omega), Int.toNat_natCast, Int.toNat_natCast]
/-- What is put is taken. -/
theorem back {l x : List Bool} {n w : Nat} (hn : n < 2 ^ 64) (h1 : w ≤ 64) (h2 : wid n ≤ w) : takeP (l ++ numB n w ++ x) (l.length : Nat) (w : Int) = ((n : Int), 0) := by
  rw [takeP_ok h1 (by simp)]
  have : ((l ++ numB n w ++ x).drop l.length).take w = numB n w := by
    rw [List.append_assoc, List.drop_left]
    have := List.take_left' (l₁ := numB n w) (l₂ := x) (show (numB n w).length = w by simp)
    exact this
  rw [this, numOf_numB, Nat.mod_eq_of_lt ((wid_le hn).1 h2)]

theorem putOk {l : List Bool} {n w : Nat} (hl : l.length ≤ 281474976710000) (hn : n < 2 ^ 64) (h1 : w ≤ 64) (h2 : wid n ≤ w) : ∃ a, a = l ++ numB n w ∧ a.length = l.length + w ∧ PC Try.prog 18 [pkL l, u64L n, intL (w : Nat)] (.tup [pkL a, intL 0]) := by
  have := put_pk (wide := (w : Nat)) hl hn
  rw [putP_ok h1 h2] at this
  exact ⟨_, rfl, by simp, this⟩
theorem putBad {l : List Bool} {n : Nat} {wide : Int} (hl : l.length ≤ 281474976710000) (hn : n < 2 ^ 64) (h : wide < 0 ∨ 64 < wide ∨ wide < wid n) : ∃ c : Int, (c = 1 ∨ c = 5) ∧ PC Try.prog 18 [pkL l, u64L n, intL wide] (.tup [pkL l, intL c]) := by
  have := put_pk (wide := wide) hl hn
  obtain ⟨e1, e2⟩ := putP_bad (l := l) h
  rw [e1] at this
  exact ⟨_, e2, this⟩
theorem takeOk {l : List Bool} {a w : Nat} (hl : l.length ≤ 281474976710000) (h1 : w ≤ 64) (h2 : a + w ≤ l.length) : PC Try.prog 20 [pkL l, intL (a : Nat), intL (w : Nat)] (.tup [u64L (numOf ((l.drop a).take w)), intL 0]) := by
  have := take_pk (at' := (a : Nat)) (wide := (w : Nat)) hl (by omega)
  rwa [takeP_ok h1 h2] at this
theorem takeBack {l x : List Bool} {n w : Nat} (hl : (l ++ numB n w ++ x).length ≤ 281474976710000) (hn : n < 2 ^ 64) (h1 : w ≤ 64) (h2 : wid n ≤ w) {b : List Bool} (hb : b = l ++ numB n w ++ x) {k : Nat} (hk : k = l.length) : PC Try.prog 20 [pkL b, intL (k : Nat), intL (w : Nat)] (.tup [u64L n, intL 0]) := by
  subst hb hk
  have := take_pk (at' := (l.length : Nat)) (wide := (w : Nat)) hl (by simp at hl; omega)
  rwa [back hn h1 h2] at this
theorem joinOk {a b : List Bool} (ha : a.length ≤ 70368744177664) (hb : b.length ≤ 70368744177664) : ∃ x, x = a ++ b ∧ x.length = a.length + b.length ∧ PC Try.prog 22 [pkL a, pkL b] (pkL x) := ⟨_, rfl, by simp, join_pk ha hb⟩
theorem nilB2 {f : Nat} {N : Int} {x : L} {ls : List L} {r : L} (h : PC Try.prog f (x :: bitsL [] N :: ls) r) : PC Try.prog f (x :: .agg [nilL, intL N] :: ls) r := PC.sub h (.cons (.refl _) (.cons sub_agg2 (SubAll.refl _))) (.refl _)
theorem binStr_lss {a b : List UInt8} : binStr .lss ⟨a.toArray⟩ ⟨b.toArray⟩ = some (.v (.bool (Op.bytesLess a b))) := by simp only [binStr, bytes_toList]
theorem rem65 {n : Nat} (h : n ≤ 255) : (IntKind.i64.wrap (n : Int)).tmod 65 = ((n % 65 : Nat) : Int) := by
  rw [show IntKind.i64.wrap (n : Int) = (n : Int) from wrap_id (by omega) (by omega), show (n : Int).tmod 65 = ((n % 65 : Nat) : Int) from (Int.ofNat_tmod _ _).symm]

end Go.Proofs.Ytaochjhkgffipaa
