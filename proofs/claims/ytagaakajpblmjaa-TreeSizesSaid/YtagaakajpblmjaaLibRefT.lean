/- The answer's store of vectors: flags that are set, vectors that are inserted. -/
import Derived.Test.YtagaakajpblmjaaLibRefS
namespace Lg
open Go
variable {s : List (Int × Int)} {V : List (List Int)} {cap : Int}
/-! A region with lists that are made, in one order: words kept as data. -/
def lotTP (P : Program) (pu : List O) (t : OT) (K : Env → Heap → Prop) (E : Env) (H : Heap) : Prop := lot P (stP pu) t K E H
def stR (pu : List O) (E : Env) (H : Heap) : Prop := ∀ o ∈ pu, stableP o E H
def lotKP (P : Program) (pu : List O) (t : OT) (K : Env → Heap → Prop) (E : Env) (H : Heap) : Prop := (stR pu E H ∧ belowH H = true) ∧ lotTP P pu t K E H
def lot0P (P : Program) (pu : List O) (t : OT) (H : Heap) (K : Env → Heap → Prop) (E : Env) : Prop := lotKP P pu t K E H
def pvT (rest : List O) (K : Env → Prop) (dst : Option Nat) (E : Env) (H : Heap) : Option L → Prop
  | some l => lopsP rest K (putE E dst l) H
  | none => False
theorem stR_nil {E H} : stR [] E H = True := by simp [stR]
theorem stR_cons {o pu E H} : stR (o :: pu) E H = (stableP o E H ∧ stR pu E H) := by simp [stR]
theorem lotTP_done {P pu K E H} : lotTP P pu .done K E H = K E H := eqOf rfl
theorem lotTP_none {P pu K E H} : lotTP P pu .none K E H = True := eqOf rfl
theorem lotTP_alt {P pu o t more K E H} : lotTP P pu (.alt o t more) K E H = (lops1 P o (lotKP P pu t K) E H ∧ lotTP P pu more K E H) := eqOf rfl
theorem lotKP_eq {P pu t K E H} : lotKP P pu t K E H = ((stR pu E H ∧ belowH H = true) ∧ lotTP P pu t K E H) := eqOf rfl
theorem lopsP_nil {K E H} : lopsP [] K E H = K E := eqOf rfl
theorem lopsP_cons {o rest K E H} : lopsP (o :: rest) K E H = pvT rest K o.dst E H (lopPV o.op E H) := by
  unfold lopsP
  cases lopPV o.op E H with
  | none => simp [pvT]
  | some l => simp [pvT]
theorem pvT_some {rest K dst E H l} : pvT rest K dst E H (some l) = lopsP rest K (putE E dst l) H := eqOf rfl
theorem lwp_drawS1' {P : Program} {k : Nat} {Q : X → Env → Heap → Prop} {E : Env} {H : Heap} {pu : List O} {t : OT} (reads : lopsP pu (lot0P P pu t H (Q .normal)) E H) : lwp P k (.drawS pu t) Q E H := lwp_drawS1 reads
def flatU (F : List (Bool × Bool)) : List L := F.flatMap fun p => [boolL p.1, boolL p.2]
theorem flatU_length {F : List (Bool × Bool)} : (flatU F).length = 2 * F.length := by
  induction F with
  | nil => rfl
  | cons p F ih =>
    have e : flatU (p :: F) = [boolL p.1, boolL p.2] ++ flatU F := rfl
    rw [e, List.length_append, ih]
    simp
    omega
theorem flatU_append {F G : List (Bool × Bool)} : flatU (F ++ G) = flatU F ++ flatU G := by simp [flatU]
theorem flatU_solid {F : List (Bool × Bool)} : ∀ x ∈ flatU F, solid x = true := fun x hx => by
  obtain ⟨t, -, h⟩ := List.mem_flatMap.1 hx
  simp at h
  rcases h with rfl | rfl <;> simp
theorem flatU_closed {F : List (Bool × Bool)} : ∀ x ∈ flatU F, closed x = true := fun x hx => by
  obtain ⟨t, -, h⟩ := List.mem_flatMap.1 hx
  simp at h
  rcases h with rfl | rfl <;> simp
theorem flatU_below {F : List (Bool × Bool)} {n : Nat} : belowL n (flatU F) = true := by
  induction F with
  | nil => rfl
  | cons p F ih =>
    have e : flatU (p :: F) = [boolL p.1, boolL p.2] ++ flatU F := rfl
    rw [e, belowL_append, ih]
    simp
theorem flat_u {F : List (Bool × Bool)} : List.flatMap L.cells (List.map flag2L F) = flatU F := by
  induction F with
  | nil => rfl
  | cons p F ih =>
    have e : flatU (p :: F) = [boolL p.1, boolL p.2] ++ flatU F := rfl
    rw [e, ← ih]
    simp
theorem sum_u {F : List (Bool × Bool)} : (List.map ((fun a => a.cells.length) ∘ flag2L) F).sum = 2 * F.length := by
  induction F with
  | nil => rfl
  | cons p F ih =>
    rw [List.map_cons, List.sum_cons, ih]
    simp
    omega
theorem flatU_get {F : List (Bool × Bool)} {i : Nat} {p : Bool × Bool} (h : F[i]? = some p) : ((flatU F).drop (i * 2)).take 2 = [boolL p.1, boolL p.2] := by
  obtain ⟨hi, rfl⟩ := List.getElem?_eq_some_iff.1 h
  have e : F = F.take i ++ F[i] :: F.drop (i + 1) := by simp
  have hl : (F.take i).length = i := by simp; omega
  obtain ⟨x, hx⟩ : ∃ x, x = F[i] := ⟨_, rfl⟩
  rw [← hx] at e ⊢
  rw [e, flatU_append, List.drop_append_of_le_length (by rw [flatU_length]; omega), List.drop_of_length_le (by rw [flatU_length]; omega)]
  rfl
theorem chunkU {F : List (Bool × Bool)} : List.map (fun i => L.agg (List.take 2 (List.drop (i * 2) (flatU F)))) (List.range F.length) = F.map flag2L := by
  apply List.ext_getElem
  · simp
  · intro i h1 h2
    simp at h1
    simp only [List.getElem_map, List.getElem_range]
    rw [flatU_get (p := F[i]) (List.getElem?_eq_getElem h1)]
theorem flatU_set {F : List (Bool × Bool)} {i : Nat} {p : Bool × Bool} {f : Nat} (h : F[i]? = some p) (hf : f = 0 ∨ f = 1) : (flatU F).set (i * 2 + f) (boolL true) = flatU (F.set i (setP p (f : Int))) := by
  obtain ⟨hi, rfl⟩ := List.getElem?_eq_some_iff.1 h
  have e : F = F.take i ++ F[i] :: F.drop (i + 1) := by simp
  have hl : (F.take i).length = i := by simp; omega
  obtain ⟨x, hx⟩ : ∃ x, x = F[i] := ⟨_, rfl⟩
  obtain ⟨A, hA⟩ : ∃ A, A = F.take i := ⟨_, rfl⟩
  obtain ⟨B, hB⟩ : ∃ B, B = F.drop (i + 1) := ⟨_, rfl⟩
  rw [← hx, ← hA, ← hB] at e
  rw [← hx]
  rw [← hA] at hl
  rw [e, List.set_append_right _ _ (by omega), hl, Nat.sub_self, List.set_cons_zero, flatU_append, flatU_append]
  have hfl : (flatU A).length = i * 2 := by rw [flatU_length]; omega
  rw [List.set_append_right _ _ (by omega), hfl, show i * 2 + f - i * 2 = f by omega]
  congr 1
  rcases hf with rfl | rfl <;> rfl
section
variable {P : Program} {f at' inn pl : Nat} (U : UFns P inn pl) (ira : compF P at' = some (irUAt inn pl)) (hV : VecsOk s V) (cap : Int) (F : List (Bool × Bool)) (hF : F.length = V.length) {v : List Int} (hvl : v.length ≤ 1000000) (flag : Int)
include U ira hV hvl hF
theorem uset_gen (ir : compF P f = some (irUSet at')) : PC P f [.agg (refC s cap V F), vecL v, intL flag] (.tup [.agg (refC s cap V (setFl s V F v flag)), intL (atE s V v flag)]) := by
  refine pc_of_call (callAt_enter ir (by simp [irUSet]) ?_)
  simp [irUSet]
  refine callT_closed (uat_gen U hV cap F hvl ira flag) (by simp) ?_
  by_cases h : atE s V v flag = 0
  rotate_left
  · simp [h, setFl]
  obtain ⟨h1, h2, h3⟩ := atE_zero h
  have hi : idx V v < F.length := by rw [hF]; exact idx_lt h2
  obtain ⟨p, hp⟩ : ∃ p, F[idx V v]? = some p := ⟨_, List.getElem?_eq_getElem hi⟩
  have hpD : F.getD (idx V v) (false, false) = p := by simp [List.getD, hp]
  have hfew := hV.few
  have hul := flatU_length (F := F)
  obtain ⟨fn, rfl, hfn2⟩ : ∃ fn : Nat, flag = (fn : Int) ∧ (fn = 0 ∨ fn = 1) := ⟨flag.toNat, by omega, by omega⟩
  have hst := flatU_set hp hfn2
  have hset : F.set (idx V v) (setP p (fn : Int)) = setFl s V F v (fn : Int) := by rw [setFl, if_pos h, hpD]
  rw [hset] at hst
  obtain ⟨G, hG⟩ : ∃ G, G = setFl s V F v (fn : Int) := ⟨_, rfl⟩
  have hGl : G.length = F.length := by rw [hG, ← hset]; simp
  rw [← hG] at hst ⊢
  obtain ⟨i, hi'⟩ : ∃ i, i = idx V v := ⟨_, rfl⟩
  rw [← hi'] at hst hi
  have hat : atI s V v (fn : Int) = (i : Int) := by rw [atI, if_pos h, hi']
  have hFne : F ≠ [] := fun e => by rw [e] at hi; simp at hi
  have hGu := flatU_length (F := G)
  have hd : (flatU F).length / 2 = F.length := by omega
  have hst2 : (flatU F).set (i * 2 + fn) (L.v (Value.bool true)) = flatU G := hst
  simp [h, hat, flat_u, sum_u, hFne, hd, hst2]
  refine ⟨⟨⟨F.length, hul⟩, flatU_solid⟩, by omega, hi, by omega, by omega, ?_⟩
  have htk : List.take (F.length * 2) (flatU G) = flatU G := List.take_of_length_le (by omega)
  rw [htk, if_pos (show F.length * 2 ≤ (flatU G).length by omega), if_pos (flatU_closed (F := G)), ← hGl, chunkU]
  simp
end
section
variable {P : Program} {f inn pl : Nat} (U : UFns P inn pl) (hV : VecsOk s V) (cap : Int) (F : List (Bool × Bool)) (hF : F.length = V.length) {v : List Int} (hvl : v.length ≤ 1000000)
include U hV hvl
theorem uins_old (ir : compFS selU P f = some (irUIns inn pl)) (h : insC s cap V v = false) : PC P f [.agg (refC s cap V F), vecL v] (.tup [.agg (refC s cap V F), boolL false, intL (insCE s cap V v)]) := by
  obtain ⟨l1, l2⟩ := vecs_len hV
  have hsh := hV.short
  refine pc_of_call (callAt_enterS ir (by simp [irUIns]) ?_)
  simp [irUIns]
  refine callT_closed (U.hinn s v (by omega) hvl) (by simp) ?_
  by_cases h0 : inV s v = 0
  rotate_left
  · simp [h0, insCE]
  simp [h0]
  refine callT_closed (uplace_gen U.irpl U.hvec s cap V F l1 l2 v) (by simp) ?_
  by_cases h1 : v ∈ V
  · simp [h1, findV, insCE, h0]
  have h2 : cap ≤ V.length := by
    simp [insC, h0, h1] at h
    exact h
  simp [h1, findV, insCE, h0, h2]
include hF
set_option maxHeartbeats 4000000 in
theorem uins_new (ir : compFS selU P f = some (irUIns inn pl)) (h : insC s cap V v = true) : PC P f [.agg (refC s cap V F), vecL v] (.tup [.agg (refC s cap (V ++ [v]) (F ++ [(false, false)])), boolL true, intL 0]) := by
  obtain ⟨l1, l2⟩ := vecs_len hV
  have hsh := hV.short
  obtain ⟨h0, h1, h2⟩ : inV s v = 0 ∧ v ∉ V ∧ (V.length : Int) < cap := of_decide_eq_true h
  have hv0 : v ≠ [] := fun e => by
    have h3 := (inV_zero.1 h0).1
    have h4 : s.length ≠ 0 := by simpa using hV.some
    rw [e] at h3
    simp at h3
    omega
  have hv8 : v.length * 8 ≤ 70368744177664 := by omega
  have hfv : frz [some (v.map fun z => intL z)] [0] (.view 1 0 0 v.length false) = vecL v := frz_vec rfl rfl rfl
  have hv8 : v.length * 8 ≤ 70368744177664 := by omega
  refine pc_of_call (callAt_enterS ir (by simp [irUIns]) ?_)
  simp [irUIns]
  refine callT_closed (U.hinn s v (by omega) hvl) (by simp) ?_
  simp [h0]
  refine callT_closed (uplace_gen U.irpl U.hvec s cap V F l1 l2 v) (by simp) ?_
  simp [h1, findV, show ¬ cap ≤ (V.length : Int) by omega]
  by_cases hV0 : V = []
  · have hF0 : F = [] := List.eq_nil_of_length_eq_zero (by rw [hF, hV0]; rfl)
    subst hV0
    subst hF0
    refine lwp_drawS1' ?_
    simp [lopsP_nil, lopsP_cons, pvT_some, lopPV, lopS, bslV, isMakeC, frzS, hv0, hv8, hfv]
    simp [lot0P, lotKP_eq, stR_nil, stR_cons, stableP, lopS, bslV, isMakeC, frzS, belowH, lotTP_done, lotTP_none, lotTP_alt, hv0, hv8, hfv]
  · have hF0 : F ≠ [] := fun e => by rw [e] at hF; simp at hF; exact hV0 (List.eq_nil_of_length_eq_zero hF.symm)
    refine lwp_drawS1' ?_
    simp [lopsP_nil, lopsP_cons, pvT_some, lopPV, lopS, bslV, isMakeC, frzS, hv0, hv8, hfv]
    have hfew := hV.few
    have hul := flatU_length (F := F)
    have hd : (flatU F).length / 2 = F.length := by omega
    have hFu : flatU F ≠ [] := fun e => by
      rw [e] at hul
      have : F.length ≠ 0 := by simpa using hF0
      simp at hul
      omega
    have happ : flatU F ++ [L.v (Value.bool false), L.v (Value.bool false)] = flatU (F ++ [(false, false)]) := by rw [flatU_append]; rfl
    simp [lot0P, lotKP_eq, stR_nil, stR_cons, stableP, lopS, bslV, isMakeC, frzS, belowH, lotTP_done, lotTP_none, lotTP_alt, hv0, hv8, hfv, flat_u, sum_u, hV0, hFu, hd, happ, flatU_below]
    obtain ⟨G, hG⟩ : ∃ G, G = F ++ [(false, false)] := ⟨_, rfl⟩
    have hGl : G.length = F.length + 1 := by rw [hG]; simp
    have hGu := flatU_length (F := G)
    refine ⟨by omega, by omega, ⟨⟨F.length, hul⟩, flatU_solid⟩, by omega, ⟨by omega, by omega⟩, ?_⟩
    rw [← hG]
    have htk : List.take ((F.length + 1) * 2) (flatU G) = flatU G := List.take_of_length_le (by omega)
    rw [htk, if_pos (show (F.length + 1) * 2 ≤ (flatU G).length by omega), if_pos (flatU_closed (F := G)), ← hGl, chunkU]
    simp
end
end Lg
