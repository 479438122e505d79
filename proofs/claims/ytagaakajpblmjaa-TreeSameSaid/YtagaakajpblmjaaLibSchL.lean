/- Vectors as bytes, by their ranges: what is encoded is decoded. -/
import Derived.Test.YtagaakajpblmjaaLibSchG
namespace Lg
open Go
theorem bitB_pkz {l : List Bool} {k j : Nat} : bitB (pk l ++ List.replicate k 0) j = l.getD j false := by
  by_cases h : j / 8 < (pk l).length
  · rw [← bitB_pk]
    unfold bitB
    congr 3
    simp only [List.getD]
    rw [List.getElem?_append_left h]
  · have hj : l.length ≤ j := by simp at h; omega
    rw [show l.getD j false = false by simp [List.getD, List.getElem?_eq_none hj]]
    unfold bitB
    have hz : (pk l ++ List.replicate k 0).getD (j / 8) 0 = 0 := by
      simp only [List.getD]
      rw [List.getElem?_append_right (by omega)]
      cases hg : (List.replicate k (0 : Int))[j / 8 - (pk l).length]? with
      | none => rfl
      | some z =>
        have := List.mem_of_getElem? hg
        rw [(List.mem_replicate.1 this).2]; rfl
    rw [hz]
    simp
theorem segB_pkz {l : List Bool} {k a n : Nat} (h : a + n ≤ l.length) : segB (pk l ++ List.replicate k 0) a n = (l.drop a).take n := by
  refine List.ext_getElem (by simp; omega) fun i h1 h2 => ?_
  simp at h1
  simp only [segB, List.getElem_map, List.getElem_range, bitB_pkz, List.getElem_take, List.getElem_drop]
  simp [List.getD, List.getElem?_eq_getElem (show a + i < l.length by omega)]
theorem cell_back {z : Int × Int} {n : Int} (hm : mayP z) (hn : z.1 ≤ n ∧ n ≤ z.2) : z.1 + (numOf (numB (n - z.1).toNat (widF z)) : Int) = n := by
  obtain ⟨h1, h2, h3, h4⟩ := hm
  have hw := (wid_le (k := widF z) (n := (z.2 - z.1).toNat) (by omega)).1 (Nat.le_refl _)
  rw [numOf_numB, Nat.mod_eq_of_lt (by omega)]
  omega
theorem decL_enc {k : Nat} : ∀ {s : List (Int × Int)} {v : List Int} {p x : List Bool}, v.length = s.length → (∀ z ∈ s, mayP z) → inP s v → decL (pk (p ++ encL s v ++ x) ++ List.replicate k 0) s p.length = v
  | [], [], _, _, _, _, _ => rfl
  | z :: s, n :: v, p, x, h, hm, hin => by
    have hz := hm z (by simp)
    have hn := hin (z, n) (by simp)
    have hsplit : p ++ encL (z :: s) (n :: v) ++ x = (p ++ numB (n - z.1).toNat (widF z)) ++ encL s v ++ x := by simp [encL, cellN]
    have ih := decL_enc (k := k) (s := s) (v := v) (p := p ++ numB (n - z.1).toNat (widF z)) (x := x) (by simpa using h) (fun y hy => hm y (by simp [hy])) (fun q hq => hin q (by simp [hq]))
    rw [decL]
    congr 1
    · rw [segB_pkz (by simp [encL, cellN]), hsplit, List.append_assoc, List.append_assoc, List.drop_left]
      have := List.take_left' (l₁ := numB (n - z.1).toNat (widF z)) (l₂ := encL s v ++ x) (show (numB (n - z.1).toNat (widF z)).length = widF z by simp)
      rw [this]
      exact cell_back hz hn
    · rw [hsplit]
      rw [List.length_append, numB_length] at ih
      exact ih
  | [], _ :: _, _, _, h, _, _ => by simp at h
  | _ :: _, [], _, _, h, _, _ => by simp at h
theorem dec_enc {s : List (Int × Int)} {v : List Int} (hm : ∀ z ∈ s, mayP z) (h0 : inV s v = 0) : decV s (encB s v) = (v, 0) := by
  obtain ⟨hl, hin⟩ := inV_zero.1 h0
  have hd : decL (encB s v) s 0 = v := by
    have := decL_enc (k := bytesS s - (pk (encL s v)).length) (p := []) (x := []) hl hm hin
    simpa [encB] using this
  rw [decV, if_pos ⟨encB_length hl, by rw [hd]; exact h0, by rw [hd]⟩, hd]
theorem dec_ok {s : List (Int × Int)} {B : List Int} (h : (decV s B).2 = 0) : inV s (decV s B).1 = 0 ∧ encV s (decV s B).1 = (B, 0) := by
  unfold decV at h ⊢
  split
  · rename_i hc
    exact ⟨hc.2.1, by rw [encV, if_pos hc.2.1, hc.2.2]⟩
  · rename_i hc
    rw [if_neg hc] at h
    simp at h
theorem dec_bad {s : List (Int × Int)} {B : List Int} (h : (decV s B).2 ≠ 0) : decV s B = ([], 2) := by
  unfold decV at h ⊢
  split
  · rename_i hc; rw [if_pos hc] at h; exact absurd rfl h
  · rfl
theorem enc_code {s : List (Int × Int)} {v : List Int} : (encV s v).2 = inV s v := by
  unfold encV
  split
  · rename_i h; exact h.symm
  · rfl
end Lg
