/- The collapsed store: a new one; membership and flags. -/
import Derived.Test.YtagaakajpblmjaaLibCmpC
namespace Lg
open Go
variable {s : List (Int × Int)} {V : List (List Int)} {T : List (List (List Int) × List Int)} {S Fl : List Int} {cap : Int}
theorem new_bad {P : Program} {f : Nat} (ir : compF P f = some irNew) (most : Int) (h : most < 0 ∨ 1048576 < most) : PC P f [intL most] (.tup [.agg [intL 0, nilL, nilL], intL 1]) := by
  refine pc_of_call (callAt_enter ir (by simp [irNew]) ?_)
  by_cases h0 : most < 0
  · simp [irNew, h0]
  · have h1 : 1048576 < most := by omega
    simp [irNew, h0, h1]
def z8 : List Int := List.replicate 8 0
abbrev tab0 : List (List Int) × List Int := ([], z8)
theorem tab0_ok : Tab tab0.1 tab0.2 := tab_nil
def cnH (x y : List L) (cap : Int) (i : Nat) : Heap :=
  if i = 0 then [some x, some y, some (nilL :: cells3 cap false false tab0.1 tab0.2 ++ [nilL])] else [some x, some y, some (.view 3 3 0 i false :: cells3 cap false false tab0.1 tab0.2 ++ [nilL]), some (flatT cap (List.replicate i tab0))]
theorem cnew_bad {P : Program} {f new : Nat} (ir : compF P f = some (irCNew new)) (irn : compF P new = some irNew) (s : List (Int × Int)) (most : Int) (h : most < 0 ∨ 1048576 < most) : PC P f [fldsL s, intL most] (.tup [.agg [nilL, intL 0, nilL, nilL, nilL], intL 1]) := by
  refine pc_of_call (callAt_enter ir (by simp [irCNew]) ?_)
  simp [irCNew]
  refine callT_closed (new_bad irn most h) (by simp) ?_
  simp
theorem cnew_gen {P : Program} {f new : Nat} (ir : compF P f = some (irCNew new)) (irn : compF P new = some irNew) (s : List (Int × Int)) (hs : s.length ≤ 1000000) (most : Int) (h0 : 0 ≤ most) (h1 : most ≤ 1048576) : PC P f [fldsL s, intL most] (.tup [.agg (cmpC most (List.replicate (np s) tab0) [] z8 []), intL 0]) := by
  refine pc_of_call' (callAt_enter ir (by simp [irCNew]) ?_)
  simp [irCNew]
  have hn : PC P new [intL most] (.tup [.agg (cells3 most false false [] z8), intL 0]) := new_tab irn most h0 h1
  refine callT_closed hn (by simp) ?_
  have hnp : np s = (s.length + 1) / 2 := rfl
  have w1 : IntKind.i64.wrap ((s.length : Int) + 2) = (s.length : Int) + 2 := wrap_id (by omega) (by omega)
  have w2 : IntKind.i64.wrap ((s.length : Int) + 2 - 1) = (s.length : Int) + 1 := by rw [wrap_id (by omega) (by omega)]; omega
  have w3 : IntKind.i64.wrap (((s.length : Int) + 1).tdiv 2) = (np s : Int) := by
    have : ((s.length : Int) + 1).tdiv 2 = (np s : Int) := by rw [Int.tdiv_eq_ediv_of_nonneg (by omega)]; omega
    rw [this, wrap_id (by omega) (by omega)]
  simp [w1, w2, w3]
  obtain ⟨n, hnn⟩ : ∃ n, n = np s := ⟨_, rfl⟩
  rw [← hnn] at w3 hnp ⊢
  refine lwp_loop (fun i : Nat => [(1, intL most), (4, .ptr 0 0), (8, .ptr 2 0), (26, intL n), (27, intL i)]) (fun i => cnH [L.v (Value.slice none 0 0), L.v (Value.int IntKind.i64 0), L.v (Value.slice none 0 0), L.v (Value.slice none 0 0), L.v (Value.slice none 0 0)] (cells3 most false false [] z8) most i) (fun i => n - i) (fun i => i ≤ n) 0 (by simp) ⟨[0, 1, 2], by simp [cnH]⟩ ?_
  intro i hi
  by_cases h : i < n
  · have e0 : flatT most [tab0] = cells3 most false false [] z8 := rfl
    have e1 : flatT most (List.replicate (i + 1) tab0) = flatT most (List.replicate i tab0) ++ cells3 most false false [] z8 := by
      rw [List.replicate_succ', flatT_append]; rfl
    by_cases hi0 : i = 0
    · subst hi0
      simp [cnH, h]
      refine callT_closed hn (by simp) ?_
      simp [i64w1]
      refine ⟨1, by omega, by simp only; omega, [0, 1, 2, 5], ?_⟩
      simp [cnH, e0]
    · have hfl := flatT_length (cap := most) (T := List.replicate i tab0)
      rw [List.length_replicate] at hfl
      simp [cnH, hi0, h]
      refine callT_closed hn (by simp) ?_
      simp [hfl, suc64 (show i ≤ 281474976710656 by omega)]
      refine ⟨⟨by omega, by omega⟩, i + 1, by omega, by simp only; omega, [0, 1, 2, 6], ?_⟩
      simp [cnH, e1, flatT_ren, flatT_below]
  · have e : i = n := by omega
    subst e
    have hfl := flatT_length (cap := most) (T := List.replicate i tab0)
    rw [List.length_replicate] at hfl
    by_cases hi0 : i = 0
    · subst hi0
      simp [cnH]
      exact .tupL (.cons (.aggL (.cons (.nil _ _) (.cons (.refl _) (.cons (.refl _) (.cons (.refl _) (.cons (.nil _ _) .nil)))))) (.cons (.refl _) .nil))
    · simp [cnH, hi0]
      have hct : List.take (i * 3) (flatT most (List.replicate i tab0)) = flatT most (List.replicate i tab0) := List.take_of_length_le (by omega)
      have hck := chunk_tab2 (cap := most) (T := List.replicate i tab0)
      rw [List.length_replicate] at hck
      rw [hct, if_pos (show i * 3 ≤ (flatT most (List.replicate i tab0)).length by omega), if_pos (flatT_closed (cap := most) (T := List.replicate i tab0)), hck]
      simp
      exact .tupL (.cons (.aggL (.cons (by rw [List.map_replicate]; exact .refl _) (.cons (.refl _) (.cons (.refl _) (.cons (.refl _) (.cons (.nil _ _) .nil)))))) (.cons (.refl _) .nil))
def memE (s : List (Int × Int)) (v : List Int) : Int := inV s v
def memB (s : List (Int × Int)) (V : List (List Int)) (v : List Int) : Bool := decide (inV s v = 0 ∧ v ∈ V)
structure CGetFns (P : Program) (inn find : Nat) where
  G : CFindFns P find
  hinn : ∀ (s : List (Int × Int)) (v : List Int), s.length ≤ 1000000 → v.length ≤ 1000000 → PC P inn [fldsL s, vecL v] (intL (inV s v))
section
variable {P : Program} {f inn find : Nat} (J : CGetFns P inn find) (hV : VecsOk s V) (hT : TabsOk s V T) (hR : Tab (rowsK s V) S) (cap : Int) (Fl : List Int) {v : List Int} (hvl : v.length ≤ 1000000)
include J hV hT hR hvl
theorem cmember_gen (ir : compF P f = some (irCMember inn find)) : PC P f [.agg (cmpC cap T (rowsK s V) S Fl), fldsL s, vecL v] (.tup [boolL (memB s V v), intL (inV s v)]) := by
  refine pc_of_call (callAt_enter ir (by simp [irCMember]) ?_)
  simp [irCMember]
  have hsh := hV.short
  refine callT_closed (J.hinn s v (by omega) hvl) (by simp) ?_
  by_cases h0 : inV s v = 0
  · simp [h0]
    refine callT_closed (cfind_gen J.G hV hT hR cap Fl h0) (by simp) ?_
    by_cases h1 : v ∈ V
    · simp [h0, h1, findV, memB]
    · simp [h0, h1, findV, memB]
  · simp [h0, memB]
def atE (s : List (Int × Int)) (V : List (List Int)) (v : List Int) (flag : Int) : Int := if inV s v = 0 then (if flag < 0 ∨ 1 < flag then 1 else if v ∈ V then 0 else 10) else inV s v
def atI (s : List (Int × Int)) (V : List (List Int)) (v : List Int) (flag : Int) : Int := if atE s V v flag = 0 then idx V v else 0
theorem cat_gen (ir : compF P f = some (irCAt inn find)) (flag : Int) : PC P f [.agg (cmpC cap T (rowsK s V) S Fl), fldsL s, vecL v, intL flag] (.tup [intL (atI s V v flag), intL (atE s V v flag)]) := by
  refine pc_of_call (callAt_enter ir (by simp [irCAt]) ?_)
  simp [irCAt]
  have hsh := hV.short
  refine callT_closed (J.hinn s v (by omega) hvl) (by simp) ?_
  by_cases h0 : inV s v = 0
  rotate_left
  · simp [h0, atI, atE]
  by_cases h2 : flag < 0
  · simp [h0, h2, atI, atE]
  by_cases h3 : 1 < flag
  · simp [h0, h2, h3, atI, atE]
  simp [h0, h2, h3]
  refine callT_closed (cfind_gen J.G hV hT hR cap Fl h0) (by simp) ?_
  by_cases h1 : v ∈ V
  · simp [h0, h1, h2, h3, findV, atI, atE]
  · simp [h0, h1, h2, h3, findV, atI, atE]
end
def flB (p : Bool × Bool) : Int := (if p.1 then 1 else 0) + (if p.2 then 2 else 0)
def setP (p : Bool × Bool) (flag : Int) : Bool × Bool := if flag = 0 then (true, p.2) else (p.1, true)
def getP (p : Bool × Bool) (flag : Int) : Bool := if flag = 0 then p.1 else p.2
theorem flB_byte {p : Bool × Bool} : isByte (flB p) := by
  obtain ⟨a, b⟩ := p
  cases a <;> cases b <;> simp [flB, isByte]
theorem set_flB {p : Bool × Bool} {flag : Int} (h : flag = 0 ∨ flag = 1) : bitsI .or .u8 (flB p) (shlI .u8 1 flag) = flB (setP p flag) := by
  obtain ⟨a, b⟩ := p
  rcases h with rfl | rfl <;> cases a <;> cases b <;> decide +kernel
theorem get_flB {p : Bool × Bool} {flag : Int} (h : flag = 0 ∨ flag = 1) : decide (bitsI .and .u8 (shrI .u8 (flB p) flag) 1 = 1) = getP p flag := by
  obtain ⟨a, b⟩ := p
  rcases h with rfl | rfl <;> cases a <;> cases b <;> decide +kernel
theorem atE_zero {v : List Int} {flag : Int} (h : atE s V v flag = 0) : inV s v = 0 ∧ v ∈ V ∧ (flag = 0 ∨ flag = 1) := by
  unfold atE at h
  by_cases h0 : inV s v = 0
  · rw [if_pos h0] at h
    by_cases h1 : flag < 0 ∨ 1 < flag
    · rw [if_pos h1] at h; simp at h
    · rw [if_neg h1] at h
      by_cases h2 : v ∈ V
      · exact ⟨h0, h2, by omega⟩
      · rw [if_neg h2] at h; simp at h
  · rw [if_neg h0] at h
    exact absurd h h0
def setFl (s : List (Int × Int)) (V : List (List Int)) (Fl : List (Bool × Bool)) (v : List Int) (flag : Int) : List (Bool × Bool) :=
  if atE s V v flag = 0 then Fl.set (idx V v) (setP (Fl.getD (idx V v) (false, false)) flag) else Fl
def getFl (s : List (Int × Int)) (V : List (List Int)) (Fl : List (Bool × Bool)) (v : List Int) (flag : Int) : Bool :=
  if atE s V v flag = 0 then getP (Fl.getD (idx V v) (false, false)) flag else false
section
variable {P : Program} {f at' inn find : Nat} (J : CGetFns P inn find) (ira : compF P at' = some (irCAt inn find)) (hV : VecsOk s V) (hT : TabsOk s V T) (hR : Tab (rowsK s V) S) (cap : Int) (Fl : List (Bool × Bool)) (hF : Fl.length = V.length) {v : List Int} (hvl : v.length ≤ 1000000) (flag : Int)
include J ira hV hT hR hvl hF
theorem cget_gen (ir : compF P f = some (irCGet at')) : PC P f [.agg (cmpC cap T (rowsK s V) S (Fl.map flB)), fldsL s, vecL v, intL flag] (.tup [boolL (getFl s V Fl v flag), intL (atE s V v flag)]) := by
  refine pc_of_call (callAt_enter ir (by simp [irCGet]) ?_)
  simp [irCGet]
  refine callT_closed (cat_gen J hV hT hR cap (Fl.map flB) hvl ira flag) (by simp) ?_
  by_cases h : atE s V v flag = 0
  · obtain ⟨h1, h2, h3⟩ := atE_zero h
    have hi : idx V v < Fl.length := by rw [hF]; exact idx_lt h2
    obtain ⟨p, hp⟩ : ∃ p, Fl[idx V v]? = some p := ⟨_, List.getElem?_eq_getElem hi⟩
    have hpD : Fl.getD (idx V v) (false, false) = p := by simp [List.getD, hp]
    have hg := get_flB (p := p) h3
    simp [h, atI, getFl, hp]
    exact ⟨by omega, hg⟩
  · simp [h, getFl]
theorem cset_gen {cl : Nat} (ir : compF P f = some (irCSet at' cl)) (irc : compF P cl = some cloneB) : PC P f [.agg (cmpC cap T (rowsK s V) S (Fl.map flB)), fldsL s, vecL v, intL flag] (.tup [.agg (cmpC cap T (rowsK s V) S ((setFl s V Fl v flag).map flB)), intL (atE s V v flag)]) := by
  refine pc_of_call (callAt_enter ir (by simp [irCSet]) ?_)
  simp [irCSet]
  refine callT_closed (cat_gen J hV hT hR cap (Fl.map flB) hvl ira flag) (by simp) ?_
  by_cases h : atE s V v flag = 0
  · obtain ⟨h1, h2, h3⟩ := atE_zero h
    have hi : idx V v < Fl.length := by rw [hF]; exact idx_lt h2
    obtain ⟨p, hp⟩ : ∃ p, Fl[idx V v]? = some p := ⟨_, List.getElem?_eq_getElem hi⟩
    have hpD : Fl.getD (idx V v) (false, false) = p := by simp [List.getD, hp]
    have hg := set_flB (p := p) h3
    have hfew := hV.few
    simp [h, atI]
    refine callT_frame [] (clone_own irc false (Fl.map flB) (by simp; omega)) (by simp) (by simp) (by simp) (by simp) (by simp) ?_
    rintro l R (⟨rfl, hn, rfl⟩ | ⟨rfl, rfl⟩)
    · exfalso
      simp at hn
      subst hn
      simp at hi
    · have hset : (Fl.map fun x => L.v (Value.int IntKind.u8 (flB x))).set (idx V v) (L.v (Value.int IntKind.u8 (bitsI .or .u8 (flB p) (shlI .u8 1 flag)))) = (setFl s V Fl v flag).map fun x => L.v (Value.int IntKind.u8 (flB x)) := by
        rw [hg, setFl, if_pos h, hpD, List.map_set]
      have hsl : (setFl s V Fl v flag).length = Fl.length := by simp [setFl, h]
      simp [mergeH, setRows, upN, hp, hset]
      refine ⟨hi, by omega, hi, by omega, ?_⟩
      have hcl : ∀ x ∈ (setFl s V Fl v flag).map fun x => L.v (Value.int IntKind.u8 (flB x)), closed x = true := fun x hx => by
        obtain ⟨y, -, rfl⟩ := List.mem_map.1 hx
        simp
      have htl : List.take Fl.length ((setFl s V Fl v flag).map fun x => L.v (Value.int IntKind.u8 (flB x))) = (setFl s V Fl v flag).map fun x => L.v (Value.int IntKind.u8 (flB x)) := List.take_of_length_le (by simp [hsl])
      rw [htl, if_pos hcl, if_pos (show Fl.length ≤ (setFl s V Fl v flag).length by omega), htl]
      simp
  · simp [h, setFl]
end
end Lg
