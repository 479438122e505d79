/- The tree store's functions. -/
import Derived.Test.YtagaakajpblmjaaTreeWalk
import Derived.Test.YtagaakajpblmjaaLibCmpF
namespace Go.Proofs.Ytagaakajpblmjaa
open Go Lg
abbrev treeL (cap : Int) (T : List (List (List Int) × List Int)) (F : List (Bool × Bool)) : L := .agg [tabsL cap T, bytL (F.map flB)]
theorem callP_mono {P : Program} {f : FuncId} {ls : List L} {H : Heap} {K K' : Heap → Prop} (h : callP P f ls H K) (hk : ∀ H', K H' → K' H') : callP P f ls H K' :=
  ⟨h.1, fun η S w vs hC hv => (h.2 η S w vs hC hv).mono fun _ _ ⟨ch, H', η', S', e1, e2, e3, e4⟩ => ⟨ch, H', η', S', e1, e2, hk _ e3, e4⟩⟩
section
variable {s : List (Int × Int)} {V : List (List Int)} {T : List (List (List Int) × List Int)} {cap : Int} {F : List (Bool × Bool)}
theorem find_any (hV : VecsOk s V) (hok : OkAll s V T) {v : List Int} (hv : inV s v = 0) : PC Try.prog 33 [treeL cap T F, fldsL s, vecL v] (.tup [intL (if v ∈ V then (idx V v : Nat) else 0 : Nat), boolL (decide (v ∈ V))]) := by
  have hnum := numbers_any hV.may hv hV.some hV.short
  have hfew := hV.few
  by_cases hm : v ∈ V
  · have hi := idx_lt hm
    refine pc_of_call (find_norm (by simp) ?_)
    simp [fr2, fr3, fr4, fE, fH]
    refine callT_closed hnum (by simp) ?_
    simp
    refine callT_of (callAt_mono (whole_find (h := 3) (cap := cap) hV hv (by simp) hok hm false) ?_)
    rintro _ _ ⟨rfl, rfl⟩
    simp [hm]
    exact wrap_id (by omega) (by omega)
  · refine pc_of_call (find_panics (by simp) ?_)
    simp [fr2, fr3, fr4, fE, fH]
    refine callT_closed hnum (by simp) ?_
    simp
    refine ⟨rfl, ?_⟩
    simp [panI]
    refine callP_mono (whole_panics (h := 3) (cap := cap) hV hv (by simp) hok hm false) ?_
    rintro _ rfl
    exact ⟨_, _, by simp [lk], by simp [lk], rfl, rfl, by simp [hm]⟩
theorem many_any (t : List (List Int) × List Int) (T : List (List (List Int) × List Int)) : PC Try.prog 21 [treeL cap (t :: T) F] (intL t.1.length) := by
  refine pc_of_call (callAt_enter ir21 (by simp) ?_)
  have h0 : ¬ (T.length : Int) + 1 = 0 := by omega
  simp [h0]
  refine callT_closed (pmany_any cap t) (by simp) ?_
  simp
theorem sizes_any (hT : T.length ≤ 1000000) : PC Try.prog 23 [treeL cap T F] (vecL (sizesT T)) := by
  refine pc_of_call' (callAt_enter ir23 (by simp) ?_)
  simp
  refine lwp_loop (fun i : Nat => [(1, .ptr 0 0), (3, cpE ((sizesT T).take i)), (7, .sl 3 false (T.map (tabL cap))), (8, intL T.length), (9, intL i)]) (fun i => cpH ([tabsL cap T, bytL (F.map flB)]) ((sizesT T).take i)) (fun i => T.length - i) (fun i => i ≤ T.length) 0 (by simp) ⟨[0], by simp [cpH, cpE]⟩ ?_
  intro i hi
  by_cases h : i < T.length
  · obtain ⟨t, ht⟩ : ∃ t, T[i]? = some t := ⟨_, List.getElem?_eq_getElem h⟩
    have hg : T[i] = t := by simpa [h] using ht
    have hsn : (sizesT T).take (i + 1) = (sizesT T).take i ++ [(t.1.length : Int)] := by
      rw [List.take_add_one]; simp [sizesT, ht]
    obtain ⟨l, hl'⟩ : ∃ l, l = (sizesT T).take i := ⟨_, rfl⟩
    have hll : l.length = i := by rw [hl']; simp [sizesT]; omega
    rw [← hl'] at hsn ⊢
    have hne : (sizesT T).take (i + 1) ≠ [] := by rw [hsn]; simp
    have hml : List.map intL l ++ [intL t.1.length] = ((sizesT T).take (i + 1)).map intL := by rw [hsn, List.map_append]; rfl
    have hml0 : ((sizesT T).take (i + 1)).length = i + 1 := by rw [hsn, List.length_append, hll]; rfl
    have hE : cpE ((sizesT T).take (i + 1)) = .view 1 1 0 (i + 1) false := by rw [cpE_row hne, hml0]
    have hH : cpH ([tabsL cap T, bytL (F.map flB)]) ((sizesT T).take (i + 1)) = [some ([tabsL cap T, bytL (F.map flB)]), some (List.map intL l ++ [intL t.1.length])] := by rw [cpH_row hne, hml]
    by_cases h0 : l = []
    · have hi0 : i = 0 := by rw [← hll, h0]; rfl
      subst hi0
      rw [h0, cpE_nil, cpH_nil]
      simp [h, hg]
      refine callT_closed (pmany_any cap t) (by simp) ?_
      have hE1 : cpE ((sizesT T).take 1) = .view 1 1 0 1 false := hE
      have hH1 : cpH ([tabsL cap T, bytL (F.map flB)]) ((sizesT T).take 1) = [some ([tabsL cap T, bytL (F.map flB)]), some (List.map intL l ++ [intL t.1.length])] := hH
      simp [i64w1]
      refine ⟨1, by omega, by simp only; omega, [0, 3], ?_⟩
      simp [hE1, hH1, h0]
    · rw [cpE_row h0, cpH_row h0]
      simp [h, hg]
      refine callT_closed (pmany_any cap t) (by simp) ?_
      simp [suc64 (show i ≤ 281474976710656 by omega)]
      refine ⟨by omega, i + 1, by omega, by simp only; omega, [0, 4], ?_⟩
      simp [hE, hH, hll]
  · have e : i = T.length := by omega
    subst e
    have htk : (sizesT T).take T.length = sizesT T := by rw [List.take_of_length_le]; simp [sizesT]
    rw [htk]
    by_cases h0 : sizesT T = []
    · rw [h0, cpE_nil, cpH_nil]
      simp
      exact .nil _ _
    · rw [cpE_row h0, cpH_row h0]
      simp
      exact .refl _
theorem member_any (hV : VecsOk s V) (hok : OkAll s V T) {v : List Int} (hvl : v.length ≤ 1000000) : PC Try.prog 19 [treeL cap T F, fldsL s, vecL v] (.tup [boolL (memB s V v), intL (inV s v)]) := by
  have hsh := hV.short
  refine pc_of_call (callAt_enter ir19 (by simp) ?_)
  simp
  refine callT_closed (in_gen ir32 ir54 s v (by omega) hvl) (by simp) ?_
  by_cases h0 : inV s v = 0
  · simp [h0]
    refine callT_closed (find_any (cap := cap) (F := F) hV hok h0) (by simp) ?_
    simp [h0, memB]
  · simp [h0, memB]
theorem at_any (hV : VecsOk s V) (hok : OkAll s V T) {v : List Int} (hvl : v.length ≤ 1000000) (flag : Int) : PC Try.prog 41 [treeL cap T F, fldsL s, vecL v, intL flag] (.tup [intL (atI s V v flag), intL (atE s V v flag)]) := by
  have hsh := hV.short
  refine pc_of_call (callAt_enter ir41 (by simp) ?_)
  simp
  refine callT_closed (in_gen ir32 ir54 s v (by omega) hvl) (by simp) ?_
  by_cases h0 : inV s v = 0
  rotate_left
  · simp [h0, atI, atE]
  by_cases h1 : flag = 0
  · subst h1
    simp [h0]
    refine callT_closed (find_any (cap := cap) (F := F) hV hok h0) (by simp) ?_
    by_cases hm : v ∈ V <;> simp [h0, hm, atI, atE]
  by_cases h2 : flag = 1
  · subst h2
    simp [h0]
    refine callT_closed (find_any (cap := cap) (F := F) hV hok h0) (by simp) ?_
    by_cases hm : v ∈ V <;> simp [h0, hm, atI, atE]
  have h3 : flag < 0 ∨ 1 < flag := by omega
  simp [h0, h1, h2, atI, atE, h3]
theorem get_flB' {p : Bool × Bool} {flag : Int} (h : flag = 0 ∨ flag = 1) : decide (bitsI .and .u8 (flB p) (shlI .u8 1 flag) ≠ 0) = getP p flag := by
  obtain ⟨a, b⟩ := p
  rcases h with rfl | rfl <;> cases a <;> cases b <;> decide +kernel
theorem get_any (hV : VecsOk s V) (hok : OkAll s V T) (hF : F.length = V.length) {v : List Int} (hvl : v.length ≤ 1000000) (flag : Int) : PC Try.prog 17 [treeL cap T F, fldsL s, vecL v, intL flag] (.tup [boolL (getFl s V F v flag), intL (atE s V v flag)]) := by
  refine pc_of_call (callAt_enter ir17 (by simp) ?_)
  simp
  refine callT_closed (at_any (cap := cap) (F := F) hV hok hvl flag) (by simp) ?_
  by_cases h : atE s V v flag = 0
  · obtain ⟨h1, h2, h3⟩ := atE_zero h
    have hi : idx V v < F.length := by rw [hF]; exact idx_lt h2
    obtain ⟨p, hp⟩ : ∃ p, F[idx V v]? = some p := ⟨_, List.getElem?_eq_getElem hi⟩
    have hpD : F.getD (idx V v) (false, false) = p := by simp [List.getD, hp]
    have hg := get_flB' (p := p) h3
    simp [h, atI, getFl, hp]
    exact ⟨by omega, by rw [← hg]; simp⟩
  · simp [h, getFl]
theorem set_any (hV : VecsOk s V) (hok : OkAll s V T) (hF : F.length = V.length) {v : List Int} (hvl : v.length ≤ 1000000) (flag : Int) : PC Try.prog 15 [treeL cap T F, fldsL s, vecL v, intL flag] (.tup [treeL cap T (setFl s V F v flag), intL (atE s V v flag)]) := by
  refine pc_of_call (callAt_enter ir15 (by simp) ?_)
  simp
  refine callT_closed (at_any (cap := cap) (F := F) hV hok hvl flag) (by simp) ?_
  by_cases h : atE s V v flag = 0
  · obtain ⟨h1, h2, h3⟩ := atE_zero h
    have hi : idx V v < F.length := by rw [hF]; exact idx_lt h2
    obtain ⟨p, hp⟩ : ∃ p, F[idx V v]? = some p := ⟨_, List.getElem?_eq_getElem hi⟩
    have hpD : F.getD (idx V v) (false, false) = p := by simp [List.getD, hp]
    have hg := set_flB (p := p) h3
    have hfew := hV.few
    simp [h, atI]
    refine callT_frame [] (clone_own ir42 false (F.map flB) (by simp; omega)) (by simp) (by simp) (by simp) (by simp) (by simp) ?_
    rintro l R (⟨rfl, hn, rfl⟩ | ⟨rfl, rfl⟩)
    · exfalso
      simp at hn
      subst hn
      simp at hi
    · have hset : (F.map fun x => L.v (Value.int IntKind.u8 (flB x))).set (idx V v) (L.v (Value.int IntKind.u8 (bitsI .or .u8 (flB p) (shlI .u8 1 flag)))) = (setFl s V F v flag).map fun x => L.v (Value.int IntKind.u8 (flB x)) := by
        rw [hg, setFl, if_pos h, hpD, List.map_set]
      have hsl : (setFl s V F v flag).length = F.length := by simp [setFl, h]
      simp [mergeH, setRows, upN, hp, hset]
      refine ⟨hi, by omega, hi, by omega, ?_⟩
      have hcl : ∀ x ∈ (setFl s V F v flag).map fun x => L.v (Value.int IntKind.u8 (flB x)), closed x = true := fun x hx => by
        obtain ⟨y, -, rfl⟩ := List.mem_map.1 hx
        simp
      have htl : List.take F.length ((setFl s V F v flag).map fun x => L.v (Value.int IntKind.u8 (flB x))) = (setFl s V F v flag).map fun x => L.v (Value.int IntKind.u8 (flB x)) := List.take_of_length_le (by simp [hsl])
      rw [htl, if_pos hcl, if_pos (show F.length ≤ (setFl s V F v flag).length by omega), htl]
      simp
  · simp [h, setFl]
end
end Go.Proofs.Ytagaakajpblmjaa
