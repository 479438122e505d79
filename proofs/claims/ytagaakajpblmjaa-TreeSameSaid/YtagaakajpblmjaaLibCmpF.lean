/- The collapsed store: states, and what each function does with them. -/
import Derived.Test.YtagaakajpblmjaaLibCmpE
namespace Lg
open Go
structure CSt where
  V : List (List Int)
  T : List (List (List Int) × List Int)
  S : List Int
  F : List (Bool × Bool)
abbrev CSt.L (x : CSt) (s : List (Int × Int)) (cap : Int) : Lg.L := .agg (cmpC cap x.T (rowsK s x.V) x.S (x.F.map flB))
structure COk (s : List (Int × Int)) (x : CSt) : Prop where
  vec : VecsOk s x.V
  tabs : TabsOk s x.V x.T
  rows : Tab (rowsK s x.V) x.S
  fl : x.F.length = x.V.length
structure CmpFns (P : Program) where
  new : Nat
  tnew : Nat
  ins : Nat
  many : Nat
  tm : Nat
  parts : Nat
  member : Nat
  at' : Nat
  set : Nat
  get : Nat
  cl : Nat
  J : CInsFns P ins
  irnew : compF P new = some (irCNew tnew)
  irtnew : compF P tnew = some irNew
  irmany : compF P many = some (irCMany tm)
  irtm : compF P tm = some irMany
  irparts : compF P parts = some (irCParts tm)
  irmember : compF P member = some (irCMember J.inn J.find)
  irat : compF P at' = some (irCAt J.inn J.find)
  irset : compF P set = some (irCSet at' cl)
  irget : compF P get = some (irCGet at')
  ircl : compF P cl = some cloneB
variable {P : Program} (C : CmpFns P) {s : List (Int × Int)} {cap : Int}
def CmpFns.K : CGetFns P C.J.inn C.J.find := ⟨C.J.G, C.J.hinn⟩
def cst0 (s : List (Int × Int)) : CSt := ⟨[], List.replicate (np s) tab0, z8, []⟩
theorem cst0_ok (hm : ∀ z ∈ s, mayP z) (h0 : s ≠ []) (hs : s.length ≤ 1000) : COk s (cst0 s) :=
  ⟨⟨hm, h0, hs, by simp [cst0], by simp [cst0], by simp [cst0]⟩, ⟨by simp [cst0], fun i t h => by
    have := List.mem_of_getElem? h
    simp [cst0] at this
    rw [this.2]
    exact ⟨rfl, tab0_ok⟩⟩, tab0_ok, rfl⟩
theorem st_new (hs : s.length ≤ 1000000) (most : Int) (h0 : 0 ≤ most) (h1 : most ≤ 1048576) : PC P C.new [fldsL s, intL most] (.tup [(cst0 s).L s most, intL 0]) := cnew_gen C.irnew C.irtnew s hs most h0 h1
theorem st_new_bad (most : Int) (h : most < 0 ∨ 1048576 < most) : PC P C.new [fldsL s, intL most] (.tup [.agg [nilL, intL 0, nilL, nilL, nilL], intL 1]) := cnew_bad C.irnew C.irtnew s most h
theorem st_many (x : CSt) : PC P C.many [x.L s cap] (intL x.V.length) := by
  have h := cmany_gen C.irmany C.irtm cap x.T (rowsK s x.V) x.S (x.F.map flB)
  rwa [rowsK_length] at h
def sizesV (s : List (Int × Int)) (V : List (List Int)) : List Int := (List.range (np s)).map fun i => ((partK s V i).length : Int)
theorem sizes_ok {x : CSt} (hx : COk s x) : sizesT x.T = sizesV s x.V := by
  unfold sizesT sizesV
  apply List.ext_getElem?
  intro i
  rw [List.getElem?_map, List.getElem?_map]
  by_cases h : i < np s
  · obtain ⟨t, ht⟩ : ∃ t, x.T[i]? = some t := ⟨_, List.getElem?_eq_getElem (by rw [hx.tabs.len]; exact h)⟩
    rw [ht, List.getElem?_range h]
    simp [(hx.tabs.ok i t ht).1]
  · rw [List.getElem?_eq_none (by rw [hx.tabs.len]; omega), List.getElem?_eq_none (by simp; omega)]
    rfl
theorem st_parts {x : CSt} (hx : COk s x) : PC P C.parts [x.L s cap] (vecL (sizesV s x.V)) := by
  have h1 := hx.tabs.len
  have h2 := hx.vec.short
  have h := cparts_gen C.irparts C.irtm cap x.T (rowsK s x.V) x.S (x.F.map flB) (by unfold np at h1; omega)
  rwa [sizes_ok hx] at h
section
variable {x : CSt} (hx : COk s x) {v : List Int} (hvl : v.length ≤ 1000000)
include hx hvl
theorem st_ins (hfew : x.V.length < 100000) : ∃ y, COk s y ∧ y.V = insCV s cap x.V v ∧ y.F = (if insC s cap x.V v = true then x.F ++ [(false, false)] else x.F) ∧ PC P C.ins [x.L s cap, fldsL s, vecL v] (.tup [y.L s cap, boolL (insC s cap x.V v), intL (insCE s cap x.V v)]) := by
  cases h : insC s cap x.V v
  · refine ⟨x, hx, by simp [insCV, h], by simp, ?_⟩
    exact cins_old C.J hx.vec hx.tabs hx.rows cap _ hvl h
  · obtain ⟨T', S', h1, h2, h3⟩ := cins_new C.J hx.vec hx.tabs hx.rows cap (x.F.map flB) hvl h hfew (by simp [hx.fl])
    obtain ⟨a1, a2, a3⟩ : inV s v = 0 ∧ v ∉ x.V ∧ (x.V.length : Int) < cap := of_decide_eq_true h
    refine ⟨⟨x.V ++ [v], T', S', x.F ++ [(false, false)]⟩, ⟨hx.vec.snoc a1 a2 hfew, h1, h2, by simp [hx.fl]⟩, by simp [insCV, h], by simp, ?_⟩
    have e : insCE s cap x.V v = 0 := by
      unfold insCE
      rw [if_pos a1, if_neg a2, if_neg (by omega)]
    rw [e]
    have e2 : (x.F ++ [(false, false)]).map flB = x.F.map flB ++ [0] := by simp [flB]
    simp only [CSt.L, e2]
    exact h3
theorem st_member : PC P C.member [x.L s cap, fldsL s, vecL v] (.tup [boolL (memB s x.V v), intL (inV s v)]) := cmember_gen C.K hx.vec hx.tabs hx.rows cap _ hvl C.irmember
theorem st_get (flag : Int) : PC P C.get [x.L s cap, fldsL s, vecL v, intL flag] (.tup [boolL (getFl s x.V x.F v flag), intL (atE s x.V v flag)]) := cget_gen C.K C.irat hx.vec hx.tabs hx.rows cap x.F hx.fl hvl flag C.irget
def CSt.setF (x : CSt) (s : List (Int × Int)) (v : List Int) (flag : Int) : CSt := { x with F := setFl s x.V x.F v flag }
theorem st_set (flag : Int) : COk s (x.setF s v flag) ∧ PC P C.set [x.L s cap, fldsL s, vecL v, intL flag] (.tup [(x.setF s v flag).L s cap, intL (atE s x.V v flag)]) := by
  refine ⟨⟨hx.vec, hx.tabs, hx.rows, ?_⟩, cset_gen C.K C.irat hx.vec hx.tabs hx.rows cap x.F hx.fl hvl flag C.irset C.ircl⟩
  simp only [CSt.setF, setFl]
  split
  · simp [hx.fl]
  · exact hx.fl
end
end Lg
