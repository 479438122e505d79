/- Same trees; trees that are formulas. -/
import Derived.Test.YtjoffkghcjfbeaaLibNnfR
namespace Lg
open Go
theorem same_self : ∀ t : T, t.same t = true := by
 intro t
 refine T.ind (M := fun t => t.same t = true) ?_ t
 intro op n pl l ih
 rw [T.same_mk]
 simp only [T.op, T.num, T.l, and_self, decide_true, Bool.true_and]
 refine List.all_eq_true.2 fun p hp => ?_
 have : ∀ (l : List T) (p : T × T), p ∈ l.zip l → p.1 = p.2 ∧ p.1 ∈ l := by
  intro l
  induction l with
  | nil => intro p hp; simp at hp
  | cons x l ihl =>
   intro p hp
   simp only [List.zip_cons_cons, List.mem_cons] at hp
   rcases hp with rfl | hp
   ·exact ⟨rfl, by simp⟩
   ·exact ⟨(ihl p hp).1, by simp [(ihl p hp).2]⟩
 obtain ⟨h1, h2⟩ := this l p hp
 rw [← h1]
 exact ih p.1 h2
end Lg

