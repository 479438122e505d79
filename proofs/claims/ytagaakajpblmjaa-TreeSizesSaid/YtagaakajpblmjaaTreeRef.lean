/- The answer's store: its functions. -/
import Derived.Test.YtagaakajpblmjaaTreeShown
import Derived.Test.YtagaakajpblmjaaLibRefT
namespace Go.Proofs.Ytagaakajpblmjaa
open Go Lg
def uF : UFns Try.prog 39 40 := ⟨22, ir40, fun v w h => tvec_gen ir22 v w h, fun s v hs hv => tin_gen ir39 s v hs hv⟩
theorem ir14S : compFS selU Try.prog 14 = some (irUIns 39 40) := compFS_of (by kernel_rfl)
section
variable {s : List (Int × Int)} {V : List (List Int)} {F : List (Bool × Bool)}
theorem unew_any (most : Int) (h0 : 0 ≤ most) (h1 : most ≤ 1048576) : PC Try.prog 12 [fldsL s, intL most] (.tup [.agg (refC s most [] []), intL 0]) := unew_gen ir12 s most h0 h1
theorem unew_bad_any (most : Int) (h : most < 0 ∨ 1048576 < most) : PC Try.prog 12 [fldsL s, intL most] (.tup [.agg [nilL, intL 0, nilL, nilL], intL 1]) := unew_bad ir12 s most h
variable (hV : VecsOk s V) (cap : Int) (hF : F.length = V.length) {v : List Int} (hvl : v.length ≤ 1000000)
include hV hvl
theorem umember_any : PC Try.prog 20 [.agg (refC s cap V F), vecL v] (.tup [boolL (memB s V v), intL (inV s v)]) := umember_gen uF hV cap F hvl ir20
include hF
theorem uget_any (flag : Int) : PC Try.prog 18 [.agg (refC s cap V F), vecL v, intL flag] (.tup [boolL (getFl s V F v flag), intL (atE s V v flag)]) := uget_gen uF ir43 hV cap F hF hvl flag ir18
theorem uset_any (flag : Int) : PC Try.prog 16 [.agg (refC s cap V F), vecL v, intL flag] (.tup [.agg (refC s cap V (setFl s V F v flag)), intL (atE s V v flag)]) := uset_gen uF ir43 hV cap F hF hvl flag ir16
theorem uins_any : PC Try.prog 14 [.agg (refC s cap V F), vecL v] (.tup [.agg (refC s cap (insCV s cap V v) (if insC s cap V v = true then F ++ [(false, false)] else F)), boolL (insC s cap V v), intL (insCE s cap V v)]) := by
  cases h : insC s cap V v
  · have := uins_old uF hV cap F hvl ir14S h
    simpa [insCV, h] using this
  · have := uins_new uF hV cap F hF hvl ir14S h
    obtain ⟨a1, a2, a3⟩ : inV s v = 0 ∧ v ∉ V ∧ (V.length : Int) < cap := of_decide_eq_true h
    have e : insCE s cap V v = 0 := by
      unfold insCE
      rw [if_pos a1, if_neg a2, if_neg (by omega)]
    rw [e]
    simpa [insCV, h] using this
end
end Go.Proofs.Ytagaakajpblmjaa
