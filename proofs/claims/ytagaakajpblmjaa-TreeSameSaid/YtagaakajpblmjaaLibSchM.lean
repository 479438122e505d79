/- Vectors as bytes, by their ranges: the lesser one comes first. -/
import Derived.Test.YtagaakajpblmjaaLibSchL
namespace Lg
open Go
def lexV : List Int → List Int → Bool
  | x :: xs, y :: ys => if x = y then lexV xs ys else decide (x < y)
  | _, _ => false
theorem less_self : ∀ {z : List UInt8}, Op.bytesLess z z = false
  | [] => rfl
  | a :: z => by
    rw [Op.bytesLess, less_self (z := z)]
    simp
theorem less_app {z : List UInt8} : ∀ {a b : List UInt8}, a.length = b.length → Op.bytesLess (a ++ z) (b ++ z) = Op.bytesLess a b
  | [], [], _ => by rw [List.nil_append, less_self]; rfl
  | x :: a, y :: b, h => by
    rw [List.cons_append, List.cons_append, Op.bytesLess, Op.bytesLess, less_app (a := a) (b := b) (by simpa using h)]
  | [], _ :: _, h => by simp at h
  | _ :: _, [], h => by simp at h
theorem cell_num {z : Int × Int} {n : Int} (hm : mayP z) (hn : z.1 ≤ n ∧ n ≤ z.2) : (numOf (cellN (z, n)) : Int) = n - z.1 := by
  have := cell_back hm hn
  simp only [cellN]
  omega
theorem enc_less : ∀ {s : List (Int × Int)} {v w : List Int}, v.length = s.length → w.length = s.length → (∀ z ∈ s, mayP z) → inP s v → inP s w → decide (numOf (encL s v) < numOf (encL s w)) = lexV v w
  | [], [], [], _, _, _, _, _ => by simp [encL, lexV]
  | z :: s, n :: v, m :: w, hv, hw, hm, iv, iw => by
    have hz := hm z (by simp)
    have h1 := cell_num hz (iv (z, n) (by simp))
    have h2 := cell_num hz (iw (z, m) (by simp))
    have hv' : v.length = s.length := by simpa using hv
    have hw' : w.length = s.length := by simpa using hw
    have ih := enc_less (s := s) (v := v) (w := w) hv' hw' (fun y hy => hm y (by simp [hy])) (fun q hq => iv q (by simp [hq])) (fun q hq => iw q (by simp [hq]))
    have e1 : encL (z :: s) (n :: v) = cellN (z, n) ++ encL s v := by simp [encL]
    have e2 : encL (z :: s) (m :: w) = cellN (z, m) ++ encL s w := by simp [encL]
    have l1 := encL_length hv'
    have l2 := encL_length hw'
    have b1 := numOf_lt (encL s v)
    have b2 := numOf_lt (encL s w)
    rw [e1, e2, numOf_append, numOf_append, l1, l2]
    rw [l1] at b1
    rw [l2] at b2
    generalize numOf (cellN (z, n)) = X at *
    generalize numOf (cellN (z, m)) = Y at *
    generalize numOf (encL s v) = p at *
    generalize numOf (encL s w) = q at *
    generalize 2 ^ bitsS s = k at *
    rw [lexV]
    by_cases e : n = m
    · have : X = Y := by omega
      subst this
      rw [if_pos e, ← ih]
      congr 1
      exact propext ⟨fun h => by omega, fun h => by omega⟩
    · rw [if_neg e]
      by_cases hlt : n < m
      · have := Nat.mul_le_mul_right k (show X + 1 ≤ Y by omega)
        rw [Nat.add_mul] at this
        have h' : X * k + p < Y * k + q := by omega
        simp [hlt, h']
      · have := Nat.mul_le_mul_right k (show Y + 1 ≤ X by omega)
        rw [Nat.add_mul] at this
        have h' : ¬ X * k + p < Y * k + q := by omega
        simp [hlt]
        omega
  | [], _ :: _, _, h, _, _, _, _ => by simp at h
  | [], [], _ :: _, _, h, _, _, _ => by simp at h
  | _ :: _, [], _, h, _, _, _, _ => by simp at h
  | _ :: _, _ :: _, [], _, h, _, _, _ => by simp at h
theorem encB_less {s : List (Int × Int)} {v w : List Int} (hm : ∀ z ∈ s, mayP z) (hv : inV s v = 0) (hw : inV s w = 0) : Op.bytesLess (u8s (encB s v)) (u8s (encB s w)) = lexV v w := by
  obtain ⟨v1, v2⟩ := inV_zero.1 hv
  obtain ⟨w1, w2⟩ := inV_zero.1 hw
  have l1 := encL_length v1
  have l2 := encL_length w1
  rw [← enc_less v1 w1 hm v2 w2, ← pk_less (bitsS s) l1 l2]
  have e : (pk (encL s v)).length = (pk (encL s w)).length := by simp [l1, l2]
  unfold encB u8s
  rw [List.map_append, List.map_append, e, less_app (by simp [l1, l2])]
theorem encB_same {s : List (Int × Int)} {v w : List Int} (hm : ∀ z ∈ s, mayP z) (hv : inV s v = 0) (hw : inV s w = 0) : encB s v = encB s w ↔ v = w := by
  constructor
  · intro e
    have h1 := dec_enc hm hv
    have h2 := dec_enc hm hw
    rw [e, h2] at h1
    exact (Prod.mk.inj h1).1.symm
  · rintro rfl; rfl
theorem binStr_less {a b : List UInt8} : binStr .lss ⟨a.toArray⟩ ⟨b.toArray⟩ = some (.v (.bool (Op.bytesLess a b))) := by simp only [binStr, bytes_toList]
theorem lexV_drop {v w : List Int} {i : Nat} {x y : Int} (h : v[i]? = some x) (k : w[i]? = some y) : lexV (v.drop i) (w.drop i) = if x = y then lexV (v.drop (i + 1)) (w.drop (i + 1)) else decide (x < y) := by
  obtain ⟨hi, rfl⟩ := List.getElem?_eq_some_iff.1 h
  obtain ⟨hk, rfl⟩ := List.getElem?_eq_some_iff.1 k
  rw [List.drop_eq_getElem_cons hi, List.drop_eq_getElem_cons hk, lexV]
theorem encL_append : ∀ {s t : List (Int × Int)} {v w : List Int}, v.length = s.length → encL (s ++ t) (v ++ w) = encL s v ++ encL t w
  | [], t, [], w, _ => by simp [encL]
  | z :: s, t, n :: v, w, h => by
    have := encL_append (s := s) (t := t) (v := v) (w := w) (by simpa using h)
    simp only [encL, List.cons_append, List.zip_cons_cons, List.map_cons, List.flatten_cons] at *
    rw [this, List.append_assoc]
  | [], _, _ :: _, _, h => by simp at h
  | _ :: _, _, [], _, h => by simp at h
theorem bitsS_append {s t : List (Int × Int)} : bitsS (s ++ t) = bitsS s + bitsS t := by simp [bitsS]
theorem inV_append {s t : List (Int × Int)} {v w : List Int} (h : inV s v = 0) (k : inV t w = 0) : inV (s ++ t) (v ++ w) = 0 := by
  obtain ⟨h1, h2⟩ := inV_zero.1 h
  obtain ⟨k1, k2⟩ := inV_zero.1 k
  refine inV_zero.2 ⟨by simp [h1, k1], fun p hp => ?_⟩
  rw [List.zip_append h1.symm] at hp
  rcases List.mem_append.1 hp with hp | hp
  · exact h2 p hp
  · exact k2 p hp
theorem bitB_enc {s : List (Int × Int)} {v : List Int} {i : Nat} : bitB (encB s v) i = (encL s v).getD i false := bitB_pkz
theorem bit_left {s t : List (Int × Int)} {v w : List Int} {i : Nat} (h : v.length = s.length) (hi : i < bitsS s) : bitB (encB (s ++ t) (v ++ w)) i = bitB (encB s v) i := by
  rw [bitB_enc, bitB_enc, encL_append h]
  simp only [List.getD]
  rw [List.getElem?_append_left (by rw [encL_length h]; exact hi)]
theorem bit_right {s t : List (Int × Int)} {v w : List Int} {i : Nat} (h : v.length = s.length) (hi : bitsS s ≤ i) : bitB (encB (s ++ t) (v ++ w)) i = bitB (encB t w) (i - bitsS s) := by
  rw [bitB_enc, bitB_enc, encL_append h]
  simp only [List.getD]
  rw [List.getElem?_append_right (by rw [encL_length h]; exact hi), encL_length h]
def cellsF (s : List (Int × Int)) : List L := s.flatMap fun z => [intL z.1, intL z.2]
theorem cellsF_length : ∀ {s : List (Int × Int)}, (cellsF s).length = 2 * s.length
  | [] => rfl
  | z :: s => by
    have := cellsF_length (s := s)
    simp only [cellsF, List.flatMap_cons, List.length_append, List.length_cons, List.length_nil] at *
    omega
theorem cellsF_append {s t : List (Int × Int)} : cellsF s ++ cellsF t = cellsF (s ++ t) := by simp [cellsF]
theorem flat_fld : ∀ {s : List (Int × Int)}, List.flatMap L.cells (List.map fldL s) = cellsF s
  | [] => rfl
  | z :: s => by
    rw [List.map_cons, List.flatMap_cons, flat_fld (s := s)]
    simp [cellsF, L.cells]
theorem sum_fld : ∀ {s : List (Int × Int)}, (List.map ((fun a => a.cells.length) ∘ fldL) s).sum = 2 * s.length
  | [] => rfl
  | z :: s => by
    rw [List.map_cons, List.sum_cons, sum_fld (s := s)]
    simp [L.cells]; omega
theorem closed_fld {s : List (Int × Int)} : ∀ x ∈ cellsF s, closed x = true := fun x hx => by
  simp only [cellsF, List.mem_flatMap] at hx
  obtain ⟨z, -, hz⟩ := hx
  simp at hz
  rcases hz with rfl | rfl <;> simp
theorem chunk_fld {s : List (Int × Int)} : chunk s.length 2 (cellsF s) = s.map fldL := by
  simp only [chunk, show (2 : Nat) ≠ 1 by omega, if_false]
  refine List.ext_getElem (by simp) fun i h1 h2 => ?_
  simp at h1
  simp only [List.getElem_map, List.getElem_range]
  have hd : ∀ (s : List (Int × Int)) (i : Nat) (h : i < s.length), ((cellsF s).drop (i * 2)).take 2 = [intL s[i].1, intL s[i].2] := by
    intro s
    induction s with
    | nil => intro i h; simp at h
    | cons z s ih =>
      intro i h
      cases i with
      | zero => simp [cellsF]
      | succ i =>
        have := ih i (by simpa using h)
        rw [show cellsF (z :: s) = intL z.1 :: intL z.2 :: cellsF s by simp [cellsF], show (i + 1) * 2 = i * 2 + 1 + 1 by omega, List.drop_succ_cons, List.drop_succ_cons, this]
        simp
  rw [hd s i h1]
theorem solid_fld {s : List (Int × Int)} : ∀ x ∈ cellsF s, solid x = true := fun x hx => by
  simp only [cellsF, List.mem_flatMap] at hx
  obtain ⟨z, -, hz⟩ := hx
  simp at hz
  rcases hz with rfl | rfl <;> simp
theorem frz_fld {H : Heap} {fz : List Nat} {h n : Nat} {c : Bool} {s : List (Int × Int)} (hm : fz.contains h = true) (hl : live H h = some (cellsF s)) (hn : n = s.length) : frz H fz (.view 2 h 0 n c) = .sl 2 c (s.map fldL) := by
  subst hn
  have ht : ((cellsF s).drop 0).take (s.length * 2) = cellsF s := by rw [List.drop_zero, List.take_of_length_le (by rw [cellsF_length]; omega)]
  have hall : (((cellsF s).drop 0).take (s.length * 2)).all closed = true := by rw [ht, List.all_eq_true]; exact closed_fld
  rw [frz_view, if_pos hm, hl]
  simp only
  rw [if_pos ⟨by rw [cellsF_length]; omega, by omega, hall⟩, ht, chunk_fld]
theorem frz_vec {H : Heap} {fz : List Nat} {h n : Nat} {c : Bool} {v : List Int} (hm : fz.contains h = true) (hl : live H h = some (v.map fun z => intL z)) (hn : n = v.length) : frz H fz (.view 1 h 0 n c) = .sl 1 c (v.map fun z => intL z) := by
  subst hn
  have ht : (((v.map fun z => intL z)).drop 0).take (v.length * 1) = v.map fun z => intL z := by rw [List.drop_zero, List.take_of_length_le (by simp)]
  have hall : (((v.map fun z => intL z).drop 0).take (v.length * 1)).all closed = true := by
    rw [ht, List.all_eq_true]
    intro x hx
    obtain ⟨z, -, rfl⟩ := List.mem_map.1 hx
    rfl
  rw [frz_view, if_pos hm, hl]
  simp only
  rw [if_pos ⟨by simp, by omega, hall⟩, ht]
  simp [chunk]
end Lg
