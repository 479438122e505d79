/- Vectors as bytes, by their ranges: ranges. -/
import Derived.Test.YtagaakajpblmjaaLibSchD
namespace Lg
open Go
abbrev fldL (z : Int × Int) : L := .agg [intL z.1, intL z.2]
abbrev fldsL (s : List (Int × Int)) : L := .sl 2 false (s.map fldL)
abbrev vecL (v : List Int) : L := .sl 1 false (v.map fun z => intL z)
abbrev flagsL (v : List Bool) : L := .sl 1 false (v.map fun b => boolL b)
def mayP (z : Int × Int) : Prop := -1073741824 ≤ z.1 ∧ z.2 ≤ 1073741824 ∧ z.1 ≤ z.2 ∧ z.2 - z.1 < 65536
instance (z : Int × Int) : Decidable (mayP z) := inferInstanceAs (Decidable (_ ∧ _))
def widF (z : Int × Int) : Nat := wid (z.2 - z.1).toNat
theorem widF_le {z : Int × Int} (h : mayP z) : widF z ≤ 16 := by
  obtain ⟨h1, h2, h3, h4⟩ := h
  exact (wid_le (by omega)).2 (by omega)
theorem may_gen {P : Program} {f : Nat} (ir : compF P f = some irSMay) (z : Int × Int) : PC P f [fldL z] (boolL (decide (mayP z))) := by
  obtain ⟨lo, hi⟩ := z
  refine pc_of_call (callAt_enter ir (by simp [irSMay]) ?_)
  by_cases h1 : lo < -1073741824
  · have e : ¬ mayP (lo, hi) := fun h => by have := h.1; simp only at this; omega
    simp [irSMay, h1, e]
  by_cases h2 : 1073741824 < hi
  · have e : ¬ mayP (lo, hi) := fun h => by have := h.2.1; simp only at this; omega
    simp [irSMay, h1, h2, e]
  by_cases h3 : lo ≤ hi
  · have hs : IntKind.i64.wrap (hi - lo) = hi - lo := wrap_id (by omega) (by omega)
    have e : mayP (lo, hi) ↔ hi - lo < 65536 := ⟨fun h => h.2.2.2, fun h => ⟨by simp only; omega, by simp only; omega, h3, h⟩⟩
    simp [irSMay, h1, h2, h3, hs, e]
  · have e : ¬ mayP (lo, hi) := fun h => h3 h.2.2.1
    simp [irSMay, h1, h2, h3, e]
theorem span_u64 {z : Int × Int} (h : mayP z) {n : Nat} (hn : n = (z.2 - z.1).toNat) : IntKind.u64.wrap (IntKind.i64.wrap (z.2 - z.1)) = (n : Int) := by
  subst hn
  obtain ⟨h1, h2, h3, h4⟩ := h
  rw [wrap_id (by omega) (by omega)]
  simp [IntKind.wrap, IntKind.signed, IntKind.bits]
  omega
theorem wide_gen {P : Program} {f bw : Nat} (ir : compF P f = some (irSWide bw)) (irb : compF P bw = some irBWide) {z : Int × Int} (h : mayP z) : PC P f [fldL z] (intL (widF z)) := by
  refine pc_of_call (callAt_enter ir (by simp [irSWide]) ?_)
  obtain ⟨n, hn⟩ : ∃ n, n = (z.2 - z.1).toNat := ⟨_, rfl⟩
  simp [irSWide, span_u64 h hn]
  refine callT_closed (widB_gen irb n (by obtain ⟨h1, h2, h3, h4⟩ := h; omega)) (by simp) ?_
  simp [widF, hn]
theorem fwide_gen {P : Program} {f w bw : Nat} (ir : compF P f = some (irSFWide w)) (irw : compF P w = some (irSWide bw)) (irb : compF P bw = some irBWide) {z : Int × Int} (h : mayP z) : PC P f [fldL z] (intL (widF z)) := by
  refine pc_of_call (callAt_enter ir (by simp [irSFWide]) ?_)
  simp [irSFWide]
  refine callT_closed (wide_gen irw irb h) (by simp) ?_
  simp
theorem has_gen {P : Program} {f : Nat} (ir : compF P f = some irSHas) (z : Int × Int) (n : Int) : PC P f [fldL z, intL n] (boolL (decide (z.1 ≤ n ∧ n ≤ z.2))) := by
  refine pc_of_call (callAt_enter ir (by simp [irSHas]) ?_)
  by_cases h : z.1 ≤ n <;> simp [irSHas, h]
theorem twide_gen {P : Program} {f : Nat} (ir : compF P f = some irTWide) {z : Int × Int} (h : mayP z) : PC P f [fldL z] (intL (widF z)) := by
  obtain ⟨h1, h2, h3, h4⟩ := h
  obtain ⟨n, hn⟩ : ∃ n, n = (z.2 - z.1).toNat := ⟨_, rfl⟩
  have hs : IntKind.i64.wrap (z.2 - z.1) = (n : Int) := by rw [wrap_id (by omega) (by omega)]; omega
  refine pc_of_call (callAt_enter ir (by simp [irTWide]) ?_)
  simp [irTWide, hs]
  refine lwp_loop (fun k : Nat => [(1, .ptr 0 0), (3, intL k), (4, intL (shN n k))]) (fun _ => [some [intL z.1, intL z.2]]) (fun k => 64 - k) (fun k => k ≤ wid n) 0 (by simp) ⟨[0], by simp [shN_zero]⟩ ?_
  intro k hk
  have hw : wid n ≤ 16 := (wid_le (by omega)).2 (by omega)
  have hle : shN n k ≤ n := Nat.div_le_self _ _
  by_cases h : k < wid n
  · have h0 := (shN_pos (k := k) (show n < 2 ^ 64 by omega)).2 h
    have hq : IntKind.i64.wrap ((shN n k : Int).tdiv 2) = (shN n (k + 1) : Int) := by
      rw [← shN_div2, show (shN n k : Int).tdiv 2 = ((shN n k / 2 : Nat) : Int) from (Int.ofNat_tdiv _ _).symm]
      exact wrap_id (by omega) (by omega)
    simp at hq
    simp [h0, hq, suc64 (show k ≤ 281474976710656 by omega)]
    exact ⟨k + 1, by omega, by simp only; omega, [0], by simp⟩
  · have h0 : ¬ 0 < shN n k := fun h' => h ((shN_pos (show n < 2 ^ 64 by omega)).1 h')
    have e : widF z = k := by unfold widF; rw [← hn]; omega
    simp [h0, e]
end Lg
