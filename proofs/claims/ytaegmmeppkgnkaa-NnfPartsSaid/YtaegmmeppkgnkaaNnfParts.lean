/- What is made of two parts, or of one with a sign of time, is made part by part; a negation's is the other one. -/
import Derived.Test.YtaegmmeppkgnkaaNnfRight
namespace Go.Proofs.Ytaegmmeppkgnkaa
open Go Lg

theorem two_facts {a b : T} (fa : Fm 3 a) (fb : Fm 3 b) {o o' : Int} (ho : (o = 16 ∧ o' = 17) ∨ (o = 17 ∧ o' = 16) ∨ (o = 23 ∧ o' = 24) ∨ (o = 24 ∧ o' = 23)) (hnl : (a.lit && b.lit) = false) :
    Fm 3 (.mk o 0 0 [a, b]) ∧ (T.mk o 0 0 [a, b]).fsize = 1 + a.fsize + b.fsize ∧ (T.mk o 0 0 [a, b]).turnR false = .mk o 0 0 [a.turnR false, b.turnR false] ∧ (T.mk o 0 0 [a, b]).turnR true = .mk o' 0 0 [a.turnR true, b.turnR true] ∧ (T.mk o 0 0 [a, b]).dp = 1 + max (max 0 a.dp) b.dp := by
  have hk : ∀ t ∈ [a, b], Fm 3 t := fun t ht => by
    simp at ht
    rcases ht with rfl | rfl
    · exact fa
    · exact fb
  have hl : (T.mk o 0 0 [a, b]).lit = false := by
    rw [Fm.lit_node (vars := 3) (by omega) hk]
    simp [hnl]
  refine ⟨Fm.nodeP (by decide) (by omega) (by omega) ?_ hk, ?_, ?_, ?_, ?_⟩
  · rcases ho with ⟨rfl, rfl⟩ | ⟨rfl, rfl⟩ | ⟨rfl, rfl⟩ | ⟨rfl, rfl⟩ <;> simp [wants]
  · rw [T.fsize_mk, if_neg (by rw [hl]; decide)]
    rcases ho with ⟨rfl, rfl⟩ | ⟨rfl, rfl⟩ | ⟨rfl, rfl⟩ | ⟨rfl, rfl⟩ <;> simp [sizeStep]
  · rw [T.turnR_mk, if_neg (by rw [hl]; decide)]
    rcases ho with ⟨rfl, rfl⟩ | ⟨rfl, rfl⟩ | ⟨rfl, rfl⟩ | ⟨rfl, rfl⟩ <;> simp [turnOp, both2]
  · rw [T.turnR_mk, if_neg (by rw [hl]; decide)]
    rcases ho with ⟨rfl, rfl⟩ | ⟨rfl, rfl⟩ | ⟨rfl, rfl⟩ | ⟨rfl, rfl⟩ <;> simp [turnOp, both2]
  · rw [T.dp_mk]; rfl
theorem next_facts {a : T} (fa : Fm 3 a) : Fm 3 (.mk 20 0 0 [a]) ∧ (T.mk 20 0 0 [a]).fsize = 1 + a.fsize ∧ (T.mk 20 0 0 [a]).turnR false = .mk 20 0 0 [a.turnR false] ∧ (T.mk 20 0 0 [a]).dp = 1 + max 0 a.dp := by
  have hk : ∀ t ∈ [a], Fm 3 t := fun t ht => by
    simp at ht
    subst ht
    exact fa
  have hl : (T.mk 20 0 0 [a]).lit = false := by
    rw [Fm.lit_node (vars := 3) (by omega) hk]
    rfl
  refine ⟨Fm.nodeP (by decide) (by omega) (by omega) ?_ hk, ?_, ?_, ?_⟩
  · simp [wants]
  · rw [T.fsize_mk, if_neg (by rw [hl]; decide)]
    simp [sizeStep]
  · rw [T.turnR_mk, if_neg (by rw [hl]; decide)]
    simp [turnOp]
  · rw [T.dp_mk]; rfl

def bslL (esz : Nat) (z : List L) (n : Nat) (ps : List (Nat × Nat × L)) : Option L := (lfill (zeros n z) ps).bind fun cs => frzS cs (.view esz 0 0 n true)
theorem bslV_eq {esz n : Nat} {z : List L} {ps : List (Nat × Nat × A)} {E : Env} : bslV esz z n ps E = bslL esz z n (ps.map fun p => (p.1, p.2.1, arg E p.2.2)) := rfl
theorem toL_closed (a : T) : ∀ x ∈ a.toL.cells, closed x = true := by cases a; simp [toL_mk]
theorem bslL_two (a b : T) : bslL 4 [.v (.int .i64 0), .v (.int .i64 0), .v (.int .i64 0), .v (.slice none 0 0)] 2 [(0, 4, a.toL), (4, 4, b.toL)] = some (.sl 4 true [a.toL, b.toL]) := by
  cases a with | mk o n p l => cases b with | mk o' n' p' l' =>
  simp [bslL, toL_mk, lfill, zeros, frzS, frz, live, chunk, setCells, List.range, List.range.loop]

abbrev twoL (o : Int) (a b : T) : L := .agg [intL o, intL 0, intL 0, .sl 4 true [a.toL, b.toL]]
theorem two_sub (o : Int) (a b : T) : Sub (twoL o a b) (T.mk o 0 0 [a, b]).toL := by
  have h := sub_tree (sub_node (op := o) (n := 0) (pl := 0) (xs := [a.toL.cells, b.toL.cells]) (ts := [a, b]) rfl fun i h => by
    match i with
    | 0 => exact sub_self a
    | 1 => exact sub_self b)
  simpa [toL_agg] using h
abbrev oneL (o : Int) (a : T) : L := .agg [intL o, intL 0, intL 0, .sl 4 true [a.toL]]
theorem one_sub (o : Int) (a : T) : Sub (oneL o a) (T.mk o 0 0 [a]).toL := by
  have h := sub_tree (sub_node (op := o) (n := 0) (pl := 0) (xs := [a.toL.cells]) (ts := [a]) rfl fun i h => by
    match i with
    | 0 => exact sub_self a)
  simpa [toL_agg] using h

set_option maxRecDepth 100000 in
set_option maxHeartbeats 4000000 in
theorem parts_walk {a b : T} (ha : a.Ok) (hb : b.Ok) (k : Int) (hk : (Lit.int .u8 k).wf = true) : PC Try.prog 5 [a.toL, b.toL, L.v (.int .u8 k)] (boolL true) := by
  refine pc_of_call (callAt_enter ir5 (by simp) ?_)
  simp [topOK_toL]
  refine callT_closed shown_any rfl ?_
  simp [toL_cells_length, toL_agg]
  refine callT_plain (formula_any ha 3) rfl (by simp [mapO, reso_toL]) ?_
  cases hfa : a.formula 3
  · simp
  simp [toL_cells_length, toL_agg]
  refine callT_plain (formula_any hb 3) rfl (by simp [mapO, reso_toL]) ?_
  cases hfb : b.formula 3
  · simp
  simp [toL_cells_length, toL_agg]
  have fa := Fm.of ha hfa
  have fb := Fm.of hb hfb
  have da := few_dp (T.formula_facts hfa).1
  have db := few_dp (T.formula_facts hfb).1
  have ilit : ∀ t : T, t.Ok → PC Try.prog 14 [t.toL] (boolL t.lit) := fun t h => lit_gen ir14 ir24 t h
  refine callT_plain (ilit a ha) rfl (by simp [mapO, reso_toL]) ?_
  have pa := of_any fa
  have pb := of_any fb
  have qa := not_any fa
  have qb := not_any fb
  rw [made_eq fa (by omega)] at pa qa
  rw [made_eq fb (by omega)] at pb qb
  have hkw : IntKind.i64.wrap k = k ∧ 0 ≤ k := by
    simp [Lit.wf, IntKind.min, IntKind.max, IntKind.signed, IntKind.bits] at hk
    exact ⟨wrap_id (by omega) (by omega), by omega⟩
  obtain ⟨i, o, o', hi, hi4, ho, ho', hoo⟩ : ∃ (i : Nat) (o o' : Int), (IntKind.i64.wrap k).tmod 4 = (i : Int) ∧ i < 4 ∧ [L.v (.int .i64 16), L.v (.int .i64 17), L.v (.int .i64 23), L.v (.int .i64 24)][i]? = some (L.v (.int .i64 o)) ∧
      [L.v (.int .i64 17), L.v (.int .i64 16), L.v (.int .i64 24), L.v (.int .i64 23)][i]? = some (L.v (.int .i64 o')) ∧ ((o = 16 ∧ o' = 17) ∨ (o = 17 ∧ o' = 16) ∨ (o = 23 ∧ o' = 24) ∨ (o = 24 ∧ o' = 23)) := by
    rw [hkw.1]
    have : k.tmod 4 = 0 ∨ k.tmod 4 = 1 ∨ k.tmod 4 = 2 ∨ k.tmod 4 = 3 := by rw [Int.tmod_eq_emod_of_nonneg hkw.2]; omega
    rcases this with h | h | h | h
    · exact ⟨0, 16, 17, h, by omega, rfl, rfl, by omega⟩
    · exact ⟨1, 17, 16, h, by omega, rfl, rfl, by omega⟩
    · exact ⟨2, 23, 24, h, by omega, rfl, rfl, by omega⟩
    · exact ⟨3, 24, 23, h, by omega, rfl, rfl, by omega⟩
  have hi4' : (i : Int) < 4 := by omega
  have done : (a.lit && b.lit) = false ∨ (a.lit = true ∧ b.lit = true) := by
    cases a.lit <;> cases b.lit <;> simp
  rcases done with hnl | ⟨hl1, hl2⟩
  rotate_left
  · simp [hl1, toL_cells_length, toL_agg]
    refine callT_plain (ilit b hb) rfl (by simp [mapO, reso_toL]) ?_
    simp [hl2]
  cases hl1 : a.lit
  rotate_left
  all_goals
    simp [toL_cells_length, toL_agg]
    try refine callT_plain (ilit b hb) rfl (by simp [mapO, reso_toL]) ?_
    try simp [show b.lit = false by rw [hl1] at hnl; simpa using hnl, toL_cells_length, toL_agg]
    refine callT_closed pa (by simp [mapO, reso_toL]) ?_
    by_cases hsa : a.fsize ≤ 24
    rotate_left
    · rw [if_neg hsa]
      simp [toL_cells_length, toL_agg, setCells_toL]
      refine callT_closed pb (by simp [mapO, reso_toL]) ?_
      simp [toL_cells_length, toL_agg, setCells_toL]
      refine callT_closed qa (by simp [mapO, reso_toL]) ?_
      simp [toL_cells_length, toL_agg, setCells_toL]
      refine callT_closed qb (by simp [mapO, reso_toL]) ?_
      simp [toL_cells_length, setCells_toL, hsa]
    by_cases hsb : b.fsize ≤ 24
    rotate_left
    · rw [if_pos hsa]
      simp [toL_cells_length, toL_agg, setCells_toL]
      refine callT_closed pb (by simp [mapO, reso_toL]) ?_
      rw [if_neg hsb]
      simp [toL_cells_length, toL_agg, setCells_toL]
      refine callT_closed qa (by simp [mapO, reso_toL]) ?_
      simp [toL_cells_length, toL_agg, setCells_toL]
      refine callT_closed qb (by simp [mapO, reso_toL]) ?_
      simp [toL_cells_length, setCells_toL, hsa, hsb]
    simp only [if_pos hsa] at *
    simp only [if_pos hsb] at *
    obtain ⟨n1, n2, n3, n4, n5⟩ := two_facts fa fb hoo hnl
    obtain ⟨m1, m2, m3, m4⟩ := next_facts fa
    have pn := (of_any n1).sub (.cons (two_sub o a b) .nil) (.refl _)
    have qn := (not_any n1).sub (.cons (two_sub o a b) .nil) (.refl _)
    have pm := (of_any m1).sub (.cons (one_sub 20 a) .nil) (.refl _)
    rw [made_eq n1 (by omega), n2, n3] at pn
    rw [made_eq n1 (by omega), n2, n4] at qn
    rw [made_eq m1 (by omega), m2, m3] at pm
    have fx := turnR_fm a fa false
    have fy := turnR_fm b fb false
    obtain ⟨x1, x2, x3, x4⟩ := turnR_right a fa false
    obtain ⟨y1, y2, y3, y4⟩ := turnR_right b fb false
    have sx := (turnR_self _ fx x2).2 (by omega)
    have sy := (turnR_self _ fy y2).2 (by omega)
    have zx := size_any fx.ok
    have zy := size_any fy.ok
    rw [sx, x3] at zx
    rw [sy, y3] at zy
    simp [toL_cells_length, toL_agg, setCells_toL]
    refine callT_closed pb (by simp [mapO, reso_toL]) ?_
    simp [toL_cells_length, toL_agg, setCells_toL]
    refine callT_closed qa (by simp [mapO, reso_toL]) ?_
    simp [toL_cells_length, toL_agg, setCells_toL]
    refine callT_closed qb (by simp [mapO, reso_toL]) ?_
    simp [toL_cells_length, toL_agg, setCells_toL, hi, hi4', ho, bslV_eq, bslL_two]
    by_cases hs : 1 + a.fsize + b.fsize ≤ 24
    · have hu : 1 + a.fsize ≤ 24 := by have := T.fsize_pos b; omega
      rw [if_pos hs] at pn qn
      rw [if_pos hu] at pm
      refine bcallT_closed pn (by simp [mapO, reso]) ?_
      simp [toL_cells_length, toL_agg, setCells_toL, hi4', ho, bslV_eq, bslL_two]
      refine bcallT_closed qn (by simp [mapO, reso]) ?_
      simp [toL_cells_length, toL_agg, setCells_toL]
      refine callT_freeze [10] pm (by simp [mapO, reso, chunk, List.range, List.range.loop]; rw [if_pos (toL_closed a)]; rfl) ?_
      simp [toL_cells_length, toL_agg, setCells_toL]
      have px := T.fsize_pos a
      have py := T.fsize_pos b
      have wsum : IntKind.i64.wrap (a.fsize + b.fsize) = a.fsize + b.fsize := wrap_id (by omega) (by omega)
      have lsum : a.fsize + b.fsize < 24 := by omega
      have lone : a.fsize < 24 := by omega
      have fN := turnR_fm a fa true
      have fZ := turnR_fm b fb true
      have s1 := same_any (fx.ok) (fx.ok)
      have okm : (T.mk 20 0 0 [a.turnR false]).Ok := by rw [← m3]; exact (turnR_fm _ m1 false).ok
      have okp : (T.mk o 0 0 [a.turnR false, b.turnR false]).Ok := by rw [← n3]; exact (turnR_fm _ n1 false).ok
      have okq : (T.mk o' 0 0 [a.turnR true, b.turnR true]).Ok := by rw [← n4]; exact (turnR_fm _ n1 true).ok
      have e1 := (same_any okm okm).sub (.cons (.refl _) (.cons (one_sub 20 (a.turnR false)) .nil)) (.refl _)
      have e2 := (same_any okp okp).sub (.cons (.refl _) (.cons (two_sub o (a.turnR false) (b.turnR false)) .nil)) (.refl _)
      have e3 := (same_any okq okq).sub (.cons (.refl _) (.cons (two_sub o' (a.turnR true) (b.turnR true)) .nil)) (.refl _)
      rw [same_self] at e1 e2 e3
      refine bcallT_plain zx rfl (by simp [mapO, reso_toL]) ?_
      simp [toL_cells_length, toL_agg]
      refine bcallT_plain zy rfl (by simp [mapO, reso_toL]) ?_
      simp [toL_cells_length, toL_agg, wsum, lsum]
      refine bcallT_plain zx rfl (by simp [mapO, reso_toL]) ?_
      simp [toL_cells_length, toL_agg, setCells_toL, lone]
      refine callT_plain e1 rfl (by simp [mapO, reso, reso_toL, chunk, List.range, List.range.loop]; rw [if_pos (toL_closed (a.turnR false))]; rfl) ?_
      simp [toL_cells_length, toL_agg, hi4', ho, bslV_eq, bslL_two]
      refine callT_plain e2 rfl (by simp [mapO, reso, reso_toL]) ?_
      simp [toL_cells_length, toL_agg, hi4', ho', bslV_eq, bslL_two]
      refine callT_plain e3 rfl (by simp [mapO, reso, reso_toL]) ?_
      simp
    · rw [if_neg hs] at pn qn
      have px := T.fsize_pos a
      have py := T.fsize_pos b
      have wsum : IntKind.i64.wrap (a.fsize + b.fsize) = a.fsize + b.fsize := wrap_id (by omega) (by omega)
      have lsum : ¬ a.fsize + b.fsize < 24 := by omega
      have okm : (T.mk 20 0 0 [a.turnR false]).Ok := by rw [← m3]; exact (turnR_fm _ m1 false).ok
      have e1 := (same_any okm okm).sub (.cons (.refl _) (.cons (one_sub 20 (a.turnR false)) .nil)) (.refl _)
      rw [same_self] at e1
      refine bcallT_closed pn (by simp [mapO, reso]) ?_
      simp [toL_cells_length, toL_agg, setCells_toL, hi4', ho, bslV_eq, bslL_two]
      refine bcallT_closed qn (by simp [mapO, reso]) ?_
      simp [toL_cells_length, toL_agg, setCells_toL]
      by_cases hu : 1 + a.fsize ≤ 24
      · have lone : a.fsize < 24 := by omega
        rw [if_pos hu] at pm
        refine callT_freeze [10] pm (by simp [mapO, reso, chunk, List.range, List.range.loop]; rw [if_pos (toL_closed a)]; rfl) ?_
        simp [toL_cells_length, toL_agg, setCells_toL]
        refine bcallT_plain zx rfl (by simp [mapO, reso_toL]) ?_
        simp [toL_cells_length, toL_agg]
        refine bcallT_plain zy rfl (by simp [mapO, reso_toL]) ?_
        simp [toL_cells_length, toL_agg, wsum, lsum]
        refine bcallT_plain zx rfl (by simp [mapO, reso_toL]) ?_
        simp [toL_cells_length, toL_agg, setCells_toL, lone]
        refine callT_plain e1 rfl (by simp [mapO, reso, reso_toL, chunk, List.range, List.range.loop]; rw [if_pos (toL_closed (a.turnR false))]; rfl) ?_
        simp []
      · have lone : ¬ a.fsize < 24 := by omega
        rw [if_neg hu] at pm
        refine callT_freeze [10] pm (by simp [mapO, reso, chunk, List.range, List.range.loop]; rw [if_pos (toL_closed a)]; rfl) ?_
        simp [toL_cells_length, toL_agg, setCells_toL]
        refine bcallT_plain zx rfl (by simp [mapO, reso_toL]) ?_
        simp [toL_cells_length, toL_agg]
        refine bcallT_plain zy rfl (by simp [mapO, reso_toL]) ?_
        simp [toL_cells_length, toL_agg, wsum, lsum]
        refine bcallT_plain zx rfl (by simp [mapO, reso_toL]) ?_
        simp [lone]

theorem nnfParts_any (y0 : T) (h0 : T.Ok y0) (y1 : T) (h1 : T.Ok y1) (y2 : Int) (h2 : (Lit.int .u8 y2).wf = true) : PC Try.prog 5 [y0.toL, y1.toL, L.v (.int .u8 y2)] (.v (.bool true)) := parts_walk h0 h1 y2 h2
end Go.Proofs.Ytaegmmeppkgnkaa
