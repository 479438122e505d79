/- Vectors as bytes, by their ranges: the lesser one comes first. -/
import Derived.Test.YtfdcjcepokekdaaLibSchL
namespace Lg
open Go

/-- The order of vectors, number by number. -/
def lexV : List Int → List Int → Bool
  | x :: xs, y :: ys => if x = y then lexV xs ys else decide (x < y)
  | _, _ => false

theorem less_self : ∀ {z : List UInt8}, Op.bytesLess z z = false
  | [] => rfl
  | a :: z => by
    rw [Op.bytesLess, less_self (z := z)]
    simp
theorem less_app {z : List UInt8} : ∀ {a b : List UInt8}, a.length = b.length → Op.bytesLess (a ++ z) (b ++ z) = Op.bytesLess a b
  | [], [], _ => by rw [List.nil_append, less_self]; rfl
  | x :: a, y :: b, h => by
    rw [List.cons_append, List.cons_append, Op.bytesLess, Op.bytesLess, less_app (a := a) (b := b) (by simpa using h)]
  | [], _ :: _, h => by simp at h
  | _ :: _, [], h => by simp at h

theorem cell_num {z : Int × Int} {n : Int} (hm : mayP z) (hn : z.1 ≤ n ∧ n ≤ z.2) : (numOf (cellN (z, n)) : Int) = n - z.1 := by
  have := cell_back hm hn
  simp only [cellN]
  omega
theorem enc_less : ∀ {s : List (Int × Int)} {v w : List Int}, v.length = s.length → w.length = s.length → (∀ z ∈ s, mayP z) → inP s v → inP s w → decide (numOf (encL s v) < numOf (encL s w)) = lexV v w
  | [], [], [], _, _, _, _, _ => by simp [encL, lexV]
  | z :: s, n :: v, m :: w, hv, hw, hm, iv, iw => by
    have hz := hm z (by simp)
    have h1 := cell_num hz (iv (z, n) (by simp))
    have h2 := cell_num hz (iw (z, m) (by simp))
    have hv' : v.length = s.length := by simpa using hv
    have hw' : w.length = s.length := by simpa using hw
    have ih := enc_less (s := s) (v := v) (w := w) hv' hw' (fun y hy => hm y (by simp [hy])) (fun q hq => iv q (by simp [hq])) (fun q hq => iw q (by simp [hq]))
    have e1 : encL (z :: s) (n :: v) = cellN (z, n) ++ encL s v := by simp [encL]
    have e2 : encL (z :: s) (m :: w) = cellN (z, m) ++ encL s w := by simp [encL]
    have l1 := encL_length hv'
    have l2 := encL_length hw'
    have b1 := numOf_lt (encL s v)
    have b2 := numOf_lt (encL s w)
    rw [e1, e2, numOf_append, numOf_append, l1, l2]
    rw [l1] at b1
    rw [l2] at b2
    generalize numOf (cellN (z, n)) = X at *
    generalize numOf (cellN (z, m)) = Y at *
    generalize numOf (encL s v) = p at *
    generalize numOf (encL s w) = q at *
    generalize 2 ^ bitsS s = k at *
    rw [lexV]
    by_cases e : n = m
    · have : X = Y := by omega
      subst this
      rw [if_pos e, ← ih]
      congr 1
      exact propext ⟨fun h => by omega, fun h => by omega⟩
    · rw [if_neg e]
      by_cases hlt : n < m
      · have := Nat.mul_le_mul_right k (show X + 1 ≤ Y by omega)
        rw [Nat.add_mul] at this
        have h' : X * k + p < Y * k + q := by omega
        simp [hlt, h']
      · have := Nat.mul_le_mul_right k (show Y + 1 ≤ X by omega)
        rw [Nat.add_mul] at this
        have h' : ¬ X * k + p < Y * k + q := by omega
        simp [hlt]
        omega
  | [], _ :: _, _, h, _, _, _, _ => by simp at h
  | [], [], _ :: _, _, h, _, _, _ => by simp at h
  | _ :: _, [], _, h, _, _, _, _ => by simp at h
  | _ :: _, _ :: _, [], _, h, _, _, _ => by simp at h
theorem encB_less {s : List (Int × Int)} {v w : List Int} (hm : ∀ z ∈ s, mayP z) (hv : inV s v = 0) (hw : inV s w = 0) : Op.bytesLess (u8s (encB s v)) (u8s (encB s w)) = lexV v w := by
  obtain ⟨v1, v2⟩ := inV_zero.1 hv
  obtain ⟨w1, w2⟩ := inV_zero.1 hw
  have l1 := encL_length v1
  have l2 := encL_length w1
  rw [← enc_less v1 w1 hm v2 w2, ← pk_less (bitsS s) l1 l2]
  have e : (pk (encL s v)).length = (pk (encL s w)).length := by simp [l1, l2]
  unfold encB u8s
  rw [List.map_append, List.map_append, e, less_app (by simp [l1, l2])]
theorem encB_same {s : List (Int × Int)} {v w : List Int} (hm : ∀ z ∈ s, mayP z) (hv : inV s v = 0) (hw : inV s w = 0) : encB s v = encB s w ↔ v = w := by
  constructor
  · intro e
    have h1 := dec_enc hm hv
    have h2 := dec_enc hm hw
    rw [e, h2] at h1
    exact (Prod.mk.inj h1).1.symm
  · rintro rfl; rfl
theorem binStr_less {a b : List UInt8} : binStr .lss ⟨a.toArray⟩ ⟨b.toArray⟩ = some (.v (.bool (Op.bytesLess a b))) := by simp only [binStr, bytes_toList]
theorem lexV_drop {v w : List Int} {i : Nat} {x y : Int} (h : v[i]? = some x) (k : w[i]? = some y) : lexV (v.drop i) (w.drop i) = if x = y then lexV (v.drop (i + 1)) (w.drop (i + 1)) else decide (x < y) := by
  obtain ⟨hi, rfl⟩ := List.getElem?_eq_some_iff.1 h
  obtain ⟨hk, rfl⟩ := List.getElem?_eq_some_iff.1 k
  rw [List.drop_eq_getElem_cons hi, List.drop_eq_getElem_cons hk, lexV]

end Lg
