/- The collapsed store beside the tree store, by the generic contracts. -/
import Derived.Test.YtagaakajpblmjaaTreeIrC
import Derived.Test.YtagaakajpblmjaaTreePair
import Derived.Test.YtagaakajpblmjaaTreeIns
import Derived.Test.YtagaakajpblmjaaLibCmpF
import Derived.Test.YtagaakajpblmjaaLibSchG
namespace Go.Proofs.Ytagaakajpblmjaa
open Go Lg
def selB (r : Nat) : Bool := [1].contains r
theorem ir80S : compFS selB Try.prog 80 = some (irBOf 64) := compFS_of (by kernel_rfl)
theorem putC : PutC Try.prog 74 := putC_of fun hb hR hN hn => putB_gen ir74 ir79 ir80S ir64 ir81 hb hR (by omega) hn
theorem cin_any (s : List (Int × Int)) (v : List Int) (hs : s.length ≤ 1000000) (hv : v.length ≤ 1000000) : PC Try.prog 32 [fldsL s, vecL v] (intL (inV s v)) := in_gen ir32 ir54 s v hs hv
theorem cenc_any : EncC Try.prog 62 := fun s v hs hm hv => enc_gen ir62 ir32 ir54 ir72 ir73 ir79 ir75 ir82 putC v hs hm hv
theorem ciF : Nonempty (CInsFns Try.prog 26) := ⟨⟨32, 47, 29, 53, 48, 50, 38, rcAt Try.prog 26 0, ⟨49, 61, 62, 60, 71, 67, 51, rcAt Try.prog 47 0, ir47, ir49, ir61, cenc_any, ir51, rc47, ir60, ir71, seekF⟩, ir26, cin_any, ir29, ir53, ir48, insF, ir38, rc26⟩⟩
theorem cgF : Nonempty (CGetFns Try.prog 32 47) := ⟨⟨⟨49, 61, 62, 60, 71, 67, 51, rcAt Try.prog 47 0, ir47, ir49, ir61, cenc_any, ir51, rc47, ir60, ir71, seekF⟩, cin_any⟩⟩
section
variable {s : List (Int × Int)} {cap : Int}
theorem newC (hs : s.length ≤ 1000000) (most : Int) (h0 : 0 ≤ most) (h1 : most ≤ 1048576) : PC Try.prog 25 [fldsL s, intL most] (.tup [(cst0 s).L s most, intL 0]) := cnew_gen ir25 ir46 s hs most h0 h1
theorem newC_bad (most : Int) (h : most < 0 ∨ 1048576 < most) : PC Try.prog 25 [fldsL s, intL most] (.tup [.agg [nilL, intL 0, nilL, nilL, nilL], intL 1]) := cnew_bad ir25 ir46 s most h
theorem manyC (x : CSt) : PC Try.prog 29 [x.L s cap] (intL x.V.length) := by
  have h := cmany_gen ir29 ir53 cap x.T (rowsK s x.V) x.S (x.F.map flB)
  rwa [rowsK_length] at h
variable {x : CSt} (hx : COk s x) {v : List Int} (hvl : v.length ≤ 1000000)
include hx hvl
theorem insC_any (hfew : x.V.length < 100000) : ∃ y, COk s y ∧ y.V = insCV s cap x.V v ∧ y.F = (if insC s cap x.V v = true then x.F ++ [(false, false)] else x.F) ∧ PC Try.prog 26 [x.L s cap, fldsL s, vecL v] (.tup [y.L s cap, boolL (insC s cap x.V v), intL (insCE s cap x.V v)]) := by
  obtain ⟨ciF⟩ := ciF
  cases h : insC s cap x.V v
  · refine ⟨x, hx, by simp [insCV, h], by simp, ?_⟩
    exact cins_old ciF hx.vec hx.tabs hx.rows cap _ hvl h
  · obtain ⟨T', S', h1, h2, h3⟩ := cins_new ciF hx.vec hx.tabs hx.rows cap (x.F.map flB) hvl h hfew (by simp [hx.fl])
    obtain ⟨a1, a2, a3⟩ : inV s v = 0 ∧ v ∉ x.V ∧ (x.V.length : Int) < cap := of_decide_eq_true h
    refine ⟨⟨x.V ++ [v], T', S', x.F ++ [(false, false)]⟩, ⟨hx.vec.snoc a1 a2 hfew, h1, h2, by simp [hx.fl]⟩, by simp [insCV, h], by simp, ?_⟩
    have e : insCE s cap x.V v = 0 := by
      unfold insCE
      rw [if_pos a1, if_neg a2, if_neg (by omega)]
    rw [e]
    have e2 : (x.F ++ [(false, false)]).map flB = x.F.map flB ++ [0] := by simp [flB]
    simp only [CSt.L, e2]
    exact h3
theorem getC (flag : Int) : PC Try.prog 28 [x.L s cap, fldsL s, vecL v, intL flag] (.tup [boolL (getFl s x.V x.F v flag), intL (atE s x.V v flag)]) := by
  obtain ⟨cgF⟩ := cgF
  exact cget_gen cgF ir52 hx.vec hx.tabs hx.rows cap x.F hx.fl hvl flag ir28
theorem setC (flag : Int) : COk s (x.setF s v flag) ∧ PC Try.prog 27 [x.L s cap, fldsL s, vecL v, intL flag] (.tup [(x.setF s v flag).L s cap, intL (atE s x.V v flag)]) := by
  obtain ⟨cgF⟩ := cgF
  refine ⟨⟨hx.vec, hx.tabs, hx.rows, ?_⟩, cset_gen cgF ir52 hx.vec hx.tabs hx.rows cap x.F hx.fl hvl flag ir27 ir42⟩
  simp only [CSt.setF, setFl]
  split
  · simp [hx.fl]
  · exact hx.fl
end
end Go.Proofs.Ytagaakajpblmjaa
