/- Vectors as bytes, by their ranges: what something tells of each range. -/
import Derived.Test.YtagaakajpblmjaaLibSchA
namespace Lg
open Go
def partL {α β : Type} (f : α → β) (z0 : β) (s : List α) (i : Nat) : List β := (s.take i).map f ++ List.replicate (s.length - i) z0
@[simp] theorem partL_length {α β : Type} {f : α → β} {z0 : β} {s : List α} {i : Nat} : (partL f z0 s i).length = s.length := by simp [partL]; omega
theorem partL_set {α β : Type} {f : α → β} {z0 : β} {s : List α} {i : Nat} {z : α} (h : s[i]? = some z) : (partL f z0 s i).set i (f z) = partL f z0 s (i + 1) := by
  have hi : i < s.length := by
    by_cases h' : i < s.length
    · exact h'
    · rw [List.getElem?_eq_none (by omega)] at h; cases h
  unfold partL
  rw [List.set_append_right _ _ (by simp; omega), List.take_add_one, h, show s.length - i = (s.length - (i + 1)) + 1 by omega, List.replicate_succ]
  simp [Nat.min_eq_left (Nat.le_of_lt hi)]
theorem partL_full {α β : Type} {f : α → β} {z0 : β} {s : List α} : partL f z0 s s.length = s.map f := by simp [partL]
theorem eachI_gen {P : Program} {f g : Nat} (ir : compF P f = some irSEachI) (wv : Int × Int → Int) {s : List (Int × Int)} (hs : s.length ≤ 1000) (hc : ∀ z ∈ s, PC P g [fldL z] (intL (wv z))) : PC P f [fldsL s, .fn (.func g) [] []] (vecL (s.map wv)) := by
  have h00 : List.replicate s.length (intL 0) = (partL wv 0 s 0).map fun z => intL z := by simp [partL]
  refine pc_of_call' (callAt_enter ir (by simp [irSEachI]) ?_)
  simp [irSEachI, show (s.length : Int) * 8 ≤ 281474976710656 by omega, show (s.length : Int) ≤ 9223372036854775807 by omega]
  refine lwp_loop (fun i : Nat => [(0, fldsL s), (1, .fn (.func g) [] []), (5, .view 1 0 0 s.length true), (11, fldsL s), (12, intL s.length), (13, intL i)]) (fun i => [some ((partL wv 0 s i).map fun z => intL z)]) (fun i => s.length - i) (fun i => i ≤ s.length) 0 (by simp) ⟨[0], by rw [h00]; simp⟩ ?_
  intro i hi
  by_cases h : i < s.length
  · obtain ⟨z, hz⟩ : ∃ z, s[i]? = some z := ⟨_, List.getElem?_eq_getElem h⟩
    have hg : s[i] = z := by simpa [h] using hz
    have hset : ((partL wv 0 s i).map fun z => intL z).set i (intL (wv z)) = (partL wv 0 s (i + 1)).map fun z => intL z := by
      rw [← partL_set hz]; simp
    simp [h, hg]
    refine callT_closed (hc z (List.mem_of_getElem? hz)) (by simp) ?_
    simp [-List.map_set, h, hset, suc64 (show i ≤ 281474976710656 by omega)]
    exact ⟨by omega, i + 1, by omega, by simp only; omega, [0], by simp⟩
  · have e : i = s.length := by omega
    subst e
    simp [partL_full]
    simpa [vecL] using Sub.clip 1 ((s.map wv).map fun z => intL z)
theorem eachB_gen {P : Program} {f g : Nat} (ir : compF P f = some irSEachB) (wv : Int × Int → Bool) {s : List (Int × Int)} (hs : s.length ≤ 1000) (hc : ∀ z ∈ s, PC P g [fldL z] (boolL (wv z))) : PC P f [fldsL s, .fn (.func g) [] []] (flagsL (s.map wv)) := by
  have h00 : List.replicate s.length (boolL false) = (partL wv false s 0).map fun z => boolL z := by simp [partL]
  refine pc_of_call' (callAt_enter ir (by simp [irSEachB]) ?_)
  simp [irSEachB, show (s.length : Int) ≤ 281474976710656 by omega, show (s.length : Int) ≤ 9223372036854775807 by omega]
  refine lwp_loop (fun i : Nat => [(0, fldsL s), (1, .fn (.func g) [] []), (5, .view 1 0 0 s.length true), (11, fldsL s), (12, intL s.length), (13, intL i)]) (fun i => [some ((partL wv false s i).map fun z => boolL z)]) (fun i => s.length - i) (fun i => i ≤ s.length) 0 (by simp) ⟨[0], by rw [h00]; simp⟩ ?_
  intro i hi
  by_cases h : i < s.length
  · obtain ⟨z, hz⟩ : ∃ z, s[i]? = some z := ⟨_, List.getElem?_eq_getElem h⟩
    have hg : s[i] = z := by simpa [h] using hz
    have hset : ((partL wv false s i).map fun z => boolL z).set i (boolL (wv z)) = (partL wv false s (i + 1)).map fun z => boolL z := by
      rw [← partL_set hz]; simp
    simp [h, hg]
    refine callT_closed (hc z (List.mem_of_getElem? hz)) (by simp) ?_
    simp [-List.map_set, h, hset, suc64 (show i ≤ 281474976710656 by omega)]
    exact ⟨by omega, i + 1, by omega, by simp only; omega, [0], by simp⟩
  · have e : i = s.length := by omega
    subst e
    simp [partL_full]
    simpa [flagsL] using Sub.clip 1 ((s.map wv).map fun z => boolL z)
end Lg
