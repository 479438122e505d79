/- The tree store: what each function does with its state. -/
import Derived.Test.YtagaakajpblmjaaTreeIns
namespace Go.Proofs.Ytagaakajpblmjaa
open Go Lg
structure TSt where
  V : List (List Int)
  T : List (List (List Int) × List Int)
  F : List (Bool × Bool)
abbrev TSt.L (x : TSt) (_ : List (Int × Int)) (cap : Int) : Lg.L := treeL cap x.T x.F
structure TOk (s : List (Int × Int)) (x : TSt) : Prop where
  vec : VecsOk s x.V
  all : OkAll s x.V x.T
  tl : x.T.length = tn s
  fl : x.F.length = x.V.length
def szs (V : List (List Int)) (lo m : Nat) : List Int := if h : m < 2 then [] else ((segK V lo m).length : Int) :: (szs V lo (hf m) ++ szs V (lo + hf m) (m - hf m))
termination_by m
decreasing_by
  all_goals
    have := hf_le (m := m) (by omega)
    omega
theorem szs_small {V : List (List Int)} {lo m : Nat} (h : m < 2) : szs V lo m = [] := by rw [szs, dif_pos h]
theorem szs_node {V : List (List Int)} {lo m : Nat} (h : 2 ≤ m) : szs V lo m = ((segK V lo m).length : Int) :: (szs V lo (hf m) ++ szs V (lo + hf m) (m - hf m)) := by rw [szs, dif_neg (by omega)]
def szsV (s : List (Int × Int)) (V : List (List Int)) : List Int := if s.length = 1 then [(V.length : Int)] else szs V 0 s.length
theorem szs_len {V : List (List Int)} : ∀ m lo, 1 ≤ m → (szs V lo m).length = m - 1 := fun m => by
  induction m using Nat.strongRecOn with
  | _ m ih =>
    intro lo h1
    by_cases h : m < 2
    · rw [szs_small h]; simp; omega
    · have := hf_le (m := m) (by omega)
      rw [szs_node (by omega), List.length_cons, List.length_append, ih _ (by omega) _ (by omega), ih _ (by omega) _ (by omega)]
      omega
theorem szsV_len {s : List (Int × Int)} {V : List (List Int)} (h0 : s ≠ []) : (szsV s V).length ≤ s.length := by
  have hs0 : s.length ≠ 0 := by simpa using h0
  unfold szsV
  split
  · simp; omega
  · rw [szs_len _ _ (by omega)]; omega
section
variable {s : List (Int × Int)} {V : List (List Int)} {T : List (List (List Int) × List Int)}
theorem sizes_seg (hV : VecsOk s V) {r lo m : Nat} (h : OkSeg s V pk T r lo m) : lo + m ≤ s.length → ∀ i, i + 1 < m → (sizesT T)[r + i]? = (szs V lo m)[i]? := by
  induction h with
  | leaf => intro _ i hi; omega
  | @node r lo m h2 t hT hk ht hl hr ih1 ih2 =>
    intro hlm i hi
    have hh := hf_le h2
    have l1 := szs_len (V := V) (hf m) lo (by omega)
    have l2 := szs_len (V := V) (m - hf m) (lo + hf m) (by omega)
    rw [szs_node h2]
    cases i with
    | zero =>
      simp only [Nat.add_zero, List.getElem?_cons_zero, sizesT, List.getElem?_map, hT, Option.map_some]
      rw [hk, rowK_len pk_inj hV h2 hlm]
    | succ i =>
      rw [List.getElem?_cons_succ]
      by_cases hi1 : i + 1 < hf m
      · rw [List.getElem?_append_left (by omega), ← ih1 (by omega) i hi1]
        congr 1; omega
      · rw [List.getElem?_append_right (by omega), l1, ← ih2 (by omega) (i - (hf m - 1)) (by omega)]
        congr 1; omega
theorem sizes_ok (hV : VecsOk s V) (hok : OkAll s V T) (hl : T.length = tn s) : sizesT T = szsV s V := by
  obtain ⟨t, T', hT, hf1⟩ := first_len hV hok
  unfold szsV
  by_cases h1 : s.length = 1
  · rw [if_pos h1]
    have : T'.length = 0 := by rw [hT] at hl; simp [tn, h1] at hl; simpa using hl
    have : T' = [] := List.eq_nil_of_length_eq_zero this
    rw [hT, this]
    simp [sizesT, hf1]
  · rw [if_neg h1]
    unfold OkAll at hok
    rw [if_neg h1] at hok
    have hs0 : s.length ≠ 0 := by simpa using hV.some
    have hlen := szs_len (V := V) s.length 0 (by omega)
    have htn : T.length = s.length - 1 := by rw [hl, tn]; omega
    apply List.ext_getElem?
    intro i
    by_cases hi : i + 1 < s.length
    · have := sizes_seg hV hok (by omega) i hi
      simpa using this
    · rw [List.getElem?_eq_none (by simp [sizesT]; omega), List.getElem?_eq_none (by omega)]
def tst0 (s : List (Int × Int)) : TSt := ⟨[], List.replicate (tn s) tab0, []⟩
theorem tst0_ok (hm : ∀ z ∈ s, mayP z) (h0 : s ≠ []) (hs : s.length ≤ 1000) : TOk s (tst0 s) := by
  have hs0 : s.length ≠ 0 := by simpa using h0
  refine ⟨⟨hm, h0, hs, by simp [tst0], by simp [tst0], by simp [tst0]⟩, ?_, by simp [tst0], rfl⟩
  unfold OkAll
  by_cases h1 : s.length = 1
  · rw [if_pos h1]
    have ht : tn s = 1 := by rw [tn]; omega
    exact ⟨tab0, by simp [tst0, ht], rfl, tab0_ok⟩
  · rw [if_neg h1]
    refine OkSeg.init (fun i t h => ?_) s.length 0 0 (by omega) (by simp [tst0, tn]; omega)
    have := List.mem_of_getElem? h
    simp [tst0] at this
    rw [this.2]
    exact ⟨rfl, tab0_ok⟩
variable {cap : Int} {x : TSt}
theorem newT (hs : s.length ≤ 100000) (most : Int) (h0 : 0 ≤ most) (h1 : most ≤ 1048576) : PC Try.prog 11 [fldsL s, intL most] (.tup [(tst0 s).L s most, intL 0]) := new_any hs most h0 h1
theorem manyT (hx : TOk s x) : PC Try.prog 21 [x.L s cap] (intL x.V.length) := by
  obtain ⟨t, T', hT, hl⟩ := first_len hx.vec hx.all
  have := many_any (cap := cap) (F := x.F) t T'
  rw [← hT, hl] at this
  exact this
theorem sizesTx (hx : TOk s x) : PC Try.prog 23 [x.L s cap] (vecL (szsV s x.V)) := by
  have h := sizes_any (cap := cap) (F := x.F) (T := x.T) (by have := hx.tl; have := hx.vec.short; rw [tn] at *; omega)
  rwa [sizes_ok hx.vec hx.all hx.tl] at h
variable (hx : TOk s x) {v : List Int} (hvl : v.length ≤ 1000000)
include hx hvl
theorem insT (hfew : x.V.length < 100000) : ∃ y, TOk s y ∧ y.V = insCV s cap x.V v ∧ y.F = (if insC s cap x.V v = true then x.F ++ [(false, false)] else x.F) ∧ PC Try.prog 13 [x.L s cap, fldsL s, vecL v] (.tup [y.L s cap, boolL (insC s cap x.V v), intL (insCE s cap x.V v)]) := by
  cases h : insC s cap x.V v
  · exact ⟨x, hx, by simp [insCV, h], by simp, ins_old hx.vec hx.all hvl h⟩
  · have htl := hx.tl
    have hsh := hx.vec.short
    obtain ⟨T', t1, t2, t3⟩ := ins_new (cap := cap) hx.vec hx.all (by rw [htl, tn]; omega) hvl h hfew hx.fl
    obtain ⟨a1, a2, a3⟩ : inV s v = 0 ∧ v ∉ x.V ∧ (x.V.length : Int) < cap := of_decide_eq_true h
    refine ⟨⟨x.V ++ [v], T', x.F ++ [(false, false)]⟩, ⟨hx.vec.snoc a1 a2 hfew, t2, by rw [t1, htl], by simp [hx.fl]⟩, by simp [insCV, h], by simp, ?_⟩
    have e : insCE s cap x.V v = 0 := by
      unfold insCE
      rw [if_pos a1, if_neg a2, if_neg (by omega)]
    rw [e]
    exact t3
theorem memberT : PC Try.prog 19 [x.L s cap, fldsL s, vecL v] (.tup [boolL (memB s x.V v), intL (inV s v)]) := member_any hx.vec hx.all hvl
theorem getT (flag : Int) : PC Try.prog 17 [x.L s cap, fldsL s, vecL v, intL flag] (.tup [boolL (getFl s x.V x.F v flag), intL (atE s x.V v flag)]) := get_any hx.vec hx.all hx.fl hvl flag
def TSt.setF (x : TSt) (s : List (Int × Int)) (v : List Int) (flag : Int) : TSt := { x with F := setFl s x.V x.F v flag }
theorem setT (flag : Int) : TOk s (x.setF s v flag) ∧ PC Try.prog 15 [x.L s cap, fldsL s, vecL v, intL flag] (.tup [(x.setF s v flag).L s cap, intL (atE s x.V v flag)]) := by
  refine ⟨⟨hx.vec, hx.all, hx.tl, ?_⟩, set_any hx.vec hx.all hx.fl hvl flag⟩
  simp only [TSt.setF, setFl]
  split
  · simp [hx.fl]
  · exact hx.fl
end
theorem rightA_any (s : List (Int × Int)) : PC Try.prog 9 [fldsL s] (boolL (rightS s)) := by
  by_cases hs : s.length ≤ 1000000
  · exact tright_gen ir9 s hs
  · refine pc_of_call (callAt_enter ir9 (by simp) ?_)
    have h1 : ¬ (s.length : Int) < 1 := by omega
    have h2 : (17 : Int) < (s.length : Int) := by omega
    have h3 : rightS s = false := by
      unfold rightS
      rw [decide_eq_false_iff_not]
      omega
    simp [h1, h2, h3]
theorem right_iff {s : List (Int × Int)} : rightS s = true ↔ 1 ≤ s.length ∧ s.length ≤ 17 ∧ ∀ z ∈ s, mayP z := by
  unfold rightS
  exact decide_eq_true_iff
theorem fl_wf {z : Int} (h : (Lit.int .u8 z).wf = true) : 0 ≤ z ∧ z < 256 := by
  simp [Lit.wf, IntKind.min, IntKind.max, IntKind.signed, IntKind.bits] at h
  omega
theorem vecA_any (v w : List Int) (hv : v.length ≤ 1000000) : PC Try.prog 22 [vecL v, vecL w] (boolL (decide (v = w))) := tvec_gen ir22 v w hv
end Go.Proofs.Ytagaakajpblmjaa
