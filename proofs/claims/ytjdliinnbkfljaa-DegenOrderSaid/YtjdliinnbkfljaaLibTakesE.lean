/- In what order the sets stand, and how often each of them, does not matter. -/
import Derived.Test.YtjdliinnbkfljaaLibTakesD
namespace Lg
open Go

theorem postfix_acc {a : Aut} {w : Word} {o : List Bool} {Z : Nat → Prop} (ha : a.acc ≠ []) : PostFix (takesG a w) o Z ↔
    ∀ i, Z i → on o i ∧ ∀ s ∈ a.acc, Rch (nxf (takesG a w)) Z (fun x => x < w.v.length * a.lits.length ∧ ((x % a.lits.length : Nat) : Int) ∈ s) i := by
  have hsets : a.sets = a.acc := if_neg ha
  have hk : a.k = a.acc.length := by unfold Aut.k; rw [hsets]
  unfold PostFix
  rw [takesG_sets, hk]
  constructor
  · intro h i hi
    refine ⟨(h i hi).1, fun s hs => ?_⟩
    obtain ⟨k, hkl, rfl⟩ := List.mem_iff_getElem.1 hs
    have := (h i hi).2 k hkl
    rw [sk_takes (by omega)] at this
    unfold SetA at this
    rw [hsets, show a.acc.getD k [] = a.acc[k] by simp [List.getD, hkl]] at this
    exact this
  · intro h i hi
    refine ⟨(h i hi).1, fun k hkl => ?_⟩
    have := (h i hi).2 _ (List.getElem_mem hkl)
    rw [sk_takes (by omega)]
    unfold SetA
    rw [hsets, show a.acc.getD k [] = a.acc[k] by simp [List.getD, hkl]]
    exact this

theorem takes_any_sets {a b : Aut} {w : Word} (hl : b.lits = a.lits) (hn : b.next = a.next) (hi : b.init = a.init) (ha : a.acc ≠ []) (hb : b.acc ≠ []) (hs : ∀ s, s ∈ b.acc ↔ s ∈ a.acc) : b.takes w = a.takes w := by
  have r1 : nodeRow b w = nodeRow a w := by funext x; simp only [nodeRow, hl, hn]
  have r2 : nodeOn b w = nodeOn a w := by funext x; simp only [nodeOn, Aut.fits, hl]
  have e1 : (takesG b w).nx = (takesG a w).nx := by simp only [takesG, nodeRows, r1, hl]
  have e2 : nxf (takesG b w) = nxf (takesG a w) := by funext i; simp only [nxf, e1]
  have e3 : nodeOns b w (w.v.length * b.lits.length) = nodeOns a w (w.v.length * a.lits.length) := by simp only [nodeOns, r2, hl]
  have key : ∀ Z, PostFix (takesG b w) (nodeOns b w (w.v.length * b.lits.length)) Z ↔ PostFix (takesG a w) (nodeOns a w (w.v.length * a.lits.length)) Z := by
    intro Z
    rw [postfix_acc ha, postfix_acc hb, e2, e3, hl]
    refine forall_congr' fun i => imp_congr_right fun _ => and_congr_right fun _ => ?_
    exact forall_congr' fun s => by rw [hs s]
  rw [Bool.eq_iff_iff, takes_iff, takes_iff]
  unfold Takes FairN
  rw [hi]
  simp only [key]

theorem swap_mem {l : List (List Int)} {i j : Nat} (hi : i < l.length) (hj : j < l.length) (s : List Int) : s ∈ (l.set i l[j]).set j l[i] ↔ s ∈ l := by
  constructor
  · intro h
    rcases List.mem_or_eq_of_mem_set h with h | rfl
    · rcases List.mem_or_eq_of_mem_set h with h | rfl
      · exact h
      · exact List.getElem_mem hj
    · exact List.getElem_mem hi
  · intro h
    obtain ⟨k, hk, rfl⟩ := List.mem_iff_getElem.1 h
    rw [List.mem_iff_getElem]
    by_cases h1 : k = i
    · subst h1; exact ⟨j, by simpa using hj, by simp⟩
    · by_cases h2 : k = j
      · subst h2
        by_cases hij : k = i
        · exact absurd hij h1
        · exact ⟨i, by simpa using hi, by rw [List.getElem_set_ne (by omega)]; simp⟩
      · exact ⟨k, by simpa using hk, by rw [List.getElem_set_ne (by omega), List.getElem_set_ne (by omega)]⟩

end Lg
