/- Acts: few of them, and short vectors. -/
import Derived.Test.YtagaakajpblmjaaTreeShown
namespace Go.Proofs.Ytagaakajpblmjaa
open Go Lg
abbrev actL (z : Int × List Int × Int) : L := .agg [L.v (.int .u8 z.1), L.sl 1 false (z.2.1.map fun (z : Int) => L.v (.int .i64 z)), L.v (.int .i64 z.2.2)]
def fewA (l : List (Int × List Int × Int)) (most : Int) : Bool := decide ((l.length : Int) ≤ most ∧ ∀ a ∈ l, a.2.1.length ≤ 40)
def shortA (l : List (Int × List Int × Int)) : Prop := ∀ a ∈ l, a.2.1.length ≤ 40
theorem few_any (l : List (Int × List Int × Int)) (hl : l.length ≤ 281474976710656) (most : Int) : PC Try.prog 10 [.sl 3 false (l.map actL), intL most] (boolL (fewA l most)) := by
  refine pc_of_call (callAt_enter ir10 (by simp) ?_)
  simp
  by_cases h0 : (l.length : Int) ≤ most
  rotate_left
  · have h1 : most < (l.length : Int) := by omega
    simp [h1, fewA, h0]
  have h1 : ¬ most < (l.length : Int) := by omega
  simp [h1, h0]
  refine lwp_loop (fun i : Nat => [(0, .sl 3 false (l.map actL)), (5, intL i)]) (fun _ => []) (fun i => l.length - i) (fun i => i ≤ l.length ∧ shortA (l.take i)) 0 (by simp [shortA]) ⟨[], by simp⟩ ?_
  rintro i ⟨hi, hk⟩
  by_cases h : i < l.length
  · obtain ⟨a, ha⟩ : ∃ a, l[i]? = some a := ⟨_, List.getElem?_eq_getElem h⟩
    have hg : l[i] = a := by simpa [h] using ha
    simp [h, hg]
    obtain ⟨k, v, fl⟩ := a
    by_cases h40 : v.length ≤ 40
    · have h41 : ¬ (40 : Int) < (v.length : Int) := by omega
      have h42 : (v.length : Int) ≤ 40 := by omega
      simp [h41, h42, suc64 (show i ≤ 281474976710656 by omega)]
      refine ⟨i + 1, ⟨by omega, ?_⟩, by simp only; omega, [], by simp⟩
      intro x hx
      rw [List.take_succ_eq_append_getElem h, hg, List.mem_append, List.mem_singleton] at hx
      rcases hx with hx | rfl
      · exact hk x hx
      · exact h40
    · have h41 : (40 : Int) < (v.length : Int) := by omega
      have : fewA l most = false := by
        unfold fewA
        rw [decide_eq_false_iff_not]
        exact fun h => h40 (h.2 (k, v, fl) (List.mem_of_getElem? ha))
      simp [h41, show ¬ (v.length : Int) ≤ 40 by omega, this]
  · have e : i = l.length := by omega
    subst e
    rw [List.take_length] at hk
    have : fewA l most = true := by
      unfold fewA
      rw [decide_eq_true_iff]
      exact ⟨h0, hk⟩
    simp [this]
end Go.Proofs.Ytagaakajpblmjaa
