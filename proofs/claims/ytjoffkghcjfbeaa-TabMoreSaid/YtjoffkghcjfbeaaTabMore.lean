/- MORE: what is added to an automaton, and what it takes. -/
import Derived.Test.YtjoffkghcjfbeaaTabTells
import Derived.Test.YtjoffkghcjfbeaaTabMoreT
import Derived.Test.YtjoffkghcjfbeaaLibAtMo
namespace Go.Proofs.Ytjoffkghcjfbeaa
open Go Lg
theorem takesP_of {a : Aut} {w : Word} (ha : a.Ok) (hw : w.Ok) (hr : a.right = true) (hwr : w.right = true) (hn : a.lits.length ≤ 1000000) (hl : w.v.length ≤ 500) (hrow : ∀ r ∈ a.next, r.length ≤ 1000000) {vars : Int} (hm : a.may vars = true) : PC Try.prog 17 [a.L, w.L] (boolL (a.takes w)) := by
 refine takesP_gen ir17 ir41 ir63 ir62 ir71 ir64 ir42 ir43 ir65 ir44 ir32 ir56 ha hw ⟨hr, hwr⟩ hn hl (fun q => ?_) fun q hq i hi => ?_
 ·by_cases hq : q < a.next.length
  ·have := hrow _ (List.getElem_mem hq)
   rw [List.getD, List.getElem?_eq_getElem hq]; simpa using this
  ·rw [List.getD, List.getElem?_eq_none (by omega)]; simp
 ·exact fitP_any ha hr hm hq (hw.row _ (List.getElem_mem hi))
theorem sub_last {A : List (List Int)} {r : List Int} : Sub (.sl 1 false (A.map intsL ++ [.sl 1 true (r.map intL)])) (.sl 1 false ((A ++ [r]).map intsL)) := by
 refine .els (by simp) (fun j => ?_) (fun z hz => ?_)
 ·rw [List.map_append]
  by_cases hj : j < A.length
  ·simp [List.getD, List.getElem?_append_left, hj]; exact .refl _
  ·rcases Nat.lt_or_ge A.length j with h | h
   ·rw [List.getD, List.getElem?_eq_none (by simp; omega), List.getD, List.getElem?_eq_none (by simp; omega)]; exact .refl _
   ·obtain rfl : j = A.length := by omega
    simp [List.getD]; exact .clip _ _
 ·obtain ⟨r, -, rfl⟩ := List.mem_map.1 hz; rfl
theorem ints_snoc {l : List Int} {y : Nat} : intsL (l ++ [(y : Int)]) = .sl 1 false (l.map intL ++ [intL (y : Int)]) := by simp
theorem trees_snoc {A : List T} {op n pl : Int} {l : List T} : treesL (A ++ [.mk op n pl l]) = .sl 4 false (A.map T.toL ++ [.agg [intL op, intL n, intL pl, .sl 4 false (l.map T.toL)]]) := by simp [toL_mk]
theorem mapO_ints {H : Heap} {k : Nat} {x z : L} (h : reso H (k + 1) x = some z) : ∀ {A : List (List Int)}, mapO (reso H (k + 1)) (A.map intsL ++ [x]) = some (A.map intsL ++ [z])
 | [] => by simp [mapO, h]
 | r :: A => by
  have ih := mapO_ints h (A := A)
  simp only [List.map_cons, List.cons_append, mapO, ih]
  simp [reso]
section
variable {a : Aut} {w : Word} {x y : Nat} {t : T}
theorem takesP_edge (ha : a.Ok) (hw : w.Ok) (hf : Few18 a 8) (hr : a.right = true) (hwr : w.right = true) (hl : w.v.length ≤ 500) (hm : a.may 3 = true) (hx : x < a.lits.length) (hy : y < a.lits.length) :
  PC Try.prog 17 [(a.edge x y).L, w.L] (boolL ((a.edge x y).takes w)) := by
 have hl8 := hf.lits
 have hx' : x < a.next.length := by have := (right_iff.1 hr).len; omega
 have h0 := hf.rows _ (List.getElem_mem hx')
 refine takesP_of (edge_ok ha hx' h0) hw (edge_right hr hx hy) hwr (show a.lits.length ≤ 1000000 by omega) hl (fun r hr' => ?_) (vars := 3) hm
 rcases List.mem_or_eq_of_mem_set hr' with hr' | rfl
 ·have := hf.rows r hr'; omega
 ·simp [List.getD, hx']; omega
theorem takesP_begin (ha : a.Ok) (hw : w.Ok) (hf : Few18 a 8) (hr : a.right = true) (hwr : w.right = true) (hl : w.v.length ≤ 500) (hm : a.may 3 = true) (hy : y < a.lits.length) :
  PC Try.prog 17 [(a.begin y).L, w.L] (boolL ((a.begin y).takes w)) := by
 have hl8 := hf.lits
 refine takesP_of (begin_ok ha (by have := hf.ends; omega)) hw (begin_right hr hy) hwr (show a.lits.length ≤ 1000000 by omega) hl (fun r hr' => ?_) (vars := 3) hm
 have := hf.rows r hr'; omega
theorem takesP_ask (ha : a.Ok) (hw : w.Ok) (ht : t.Ok) (hf : Few18 a 8) (hr : a.right = true) (hwr : w.right = true) (hl : w.v.length ≤ 500) (hm : a.may 3 = true) (htm : t.may 3 = true) (htl : t.lit = true) (hx : x < a.lits.length) :
  PC Try.prog 17 [(a.ask x t).L, w.L] (boolL ((a.ask x t).takes w)) := by
 have hl8 := hf.lits
 have h0 := hf.lit _ (List.getElem_mem hx)
 refine takesP_of (ask_ok ha ht hx h0) hw (ask_right hr hx htl) hwr (by simp [Aut.ask]; omega) hl (fun r hr' => ?_) (ask_may hm hx htm)
 have := hf.rows r hr'; omega
theorem takesP_meet (ha : a.Ok) (hw : w.Ok) (hf : Few18 a 8) (hr : a.right = true) (hwr : w.right = true) (hl : w.v.length ≤ 500) (hm : a.may 3 = true) (hx : x < a.lits.length) (hy : y < a.lits.length) :
  PC Try.prog 17 [.agg [.sl 1 false (a.lits.map treesL), .sl 1 false (a.next.map intsL), intsL a.init, .sl 1 false (a.acc.map intsL ++ [.sl 1 true [intL x, intL y]])], w.L] (boolL ((a.meet x y).takes w)) := by
 have hl8 := hf.lits
 have h := takesP_of (meet_ok (x := x) (y := y) ha (by have := hf.ends; omega)) hw (meet_right hr hx hy) hwr (show a.lits.length ≤ 1000000 by omega) hl (fun r hr' => by have := hf.rows r hr'; omega) (vars := 3) hm
 exact h.sub (.cons (.aggL (.cons (.refl _) (.cons (.refl _) (.cons (.refl _) (.cons (sub_last (r := [(x : Int), (y : Int)])) .nil))))) (.cons (.refl _) .nil)) (.refl _)
end
theorem more_rem {p : Int} (hp : 0 ≤ p ∧ p < 256) {n : Nat} (hn : 0 < n) : ∃ x : Nat, (IntKind.i64.wrap p).tmod n = (x : Int) ∧ x < n := by
 rw [wrap_id (by omega) (by omega), Int.tmod_eq_emod_of_nonneg hp.1]
 have h1 := Int.emod_nonneg p (show (n : Int) ≠ 0 by omega)
 have h2 := Int.emod_lt_of_pos p (show (0 : Int) < (n : Int) by omega)
 exact ⟨(p % (n : Int)).toNat, by omega, by omega⟩
set_option maxRecDepth 100000 in
set_option maxHeartbeats 8000000 in
theorem more_walk {a : Aut} {w : Word} {p q : Int} {t : T} (ha : a.Ok) (hw : w.Ok) (ht : t.Ok) (hp : 0 ≤ p ∧ p < 256) (hq : 0 ≤ q ∧ q < 256) : PC Try.prog 7 [.agg (a.cells ++ w.cells ++ [.v (.int .u8 p), .v (.int .u8 q)] ++ t.toL.cells)] (boolL true) := by
 obtain ⟨op, n, pl, l⟩ := t
 refine pc_of_call (callAt_enterS ir7 (by simp) ?_)
 simp [Aut.cells, Word.cells, toL_mk]
 refine callT_closed shown_any rfl ?_
 simp
 refine callT_plain (few18_any ha 8) rfl (by simp [Aut.L, Aut.cells]) ?_
 cases hf : a.few18 8
 ·simp
 have hfew := few18_facts hf
 simp
 intro hn
 refine callT_plain (right18_any ha) rfl (by simp [Aut.L, Aut.cells]) ?_
 cases hr : a.right
 ·simp
 simp
 refine callT_plain (may18_any ha 3) rfl (by simp [Aut.L, Aut.cells]) ?_
 cases hm : a.may 3
 ·simp
 simp
 refine callT_plain (right17_any w) rfl (by simp [Word.L, Word.cells]) ?_
 cases hwr : w.right
 ·simp
 simp
 intro hl
 refine callT_plain (formula_any ht 3) rfl (by simp [toL_mk]) ?_
 cases hfm : (T.mk op n pl l).formula 3
 ·simp
 simp
 refine callT_plain (lit_any _ ht) rfl (by simp [toL_mk]) ?_
 cases hlit : (T.mk op n pl l).lit
 ·simp
 simp
 have t0 := takesP_of ha hw hr hwr (by have := hfew.lits; omega) (by omega) (fun r hr' => by have := hfew.rows r hr'; omega) hm
 have hne : a.lits ≠ [] := fun h => by simp [h] at hn
 have hrn : a.next.length ≤ 8 := by have := hfew.next; omega
 refine ⟨hne, callT_closed t0 (by simp [Aut.L, Aut.cells, Word.L, Word.cells]) ?_⟩
 have hnl : a.lits.length = a.next.length := ((right_iff.1 hr).len).symm
 have hpos : 0 < a.lits.length := List.length_pos_iff.2 hne
 obtain ⟨x, ex, hxl⟩ : ∃ x : Nat, (IntKind.i64.wrap p).tmod a.lits.length = (x : Int) ∧ x < a.lits.length := more_rem hp hpos
 obtain ⟨y, ey, hyl⟩ : ∃ y : Nat, (IntKind.i64.wrap q).tmod a.lits.length = (y : Int) ∧ y < a.lits.length := more_rem hq hpos
 have hrow : ∀ r ∈ a.next, r.length < 4000 := hfew.rows
 have hr0 : ∀ l ∈ a.next, l.length ≤ 17592186044416 := ha.row
 simp [hrn, ex, ey]
 refine ⟨by omega, more1 (a := a) (w := w) (op := op) (n := n) (pl := pl) (l := l) (x := x) (y := y) (by omega) (by omega) hrow rfl rfl rfl rfl rfl rfl rfl rfl ?_⟩
 have hends := hfew.ends
 have hrl : ∀ r ∈ a.lits, r.length < 4000 := hfew.lit
 simp [Aut.cells, Word.cells]
 refine ⟨by omega, by omega, by omega, more2 (a := a) (w := w) (op := op) (n := n) (pl := pl) (l := l) (x := x) (y := y) hxl (by omega) hrl rfl rfl rfl rfl rfl rfl rfl rfl rfl rfl ?_⟩
 have hacc : a.acc.length * 24 ≤ 70368744177664 := by omega
 have hacc1 : (a.acc.length + 1) * 24 ≤ 70368744177664 := by omega
 have hl5 : w.v.length ≤ 500 := by omega
 have tE := takesP_edge (x := x) (y := y) ha hw hfew hr hwr hl5 hm hxl hyl
 have tB := takesP_begin (y := y) ha hw hfew hr hwr hl5 hm hyl
 have tA := takesP_ask (x := x) ha hw ht hfew hr hwr hl5 hm (T.formula_facts hfm).2.1 hlit hxl
 have tM := takesP_meet (x := x) (y := y) ha hw hfew hr hwr hl5 hm hxl hyl
 have ho : AutOk a w := ⟨hr, hwr⟩
 have hcE : ∀ z, z ∈ (a.next.map intsL).set x (.sl 1 false ((a.next[x]?.getD []).map intL ++ [intL (y : Int)])) → closed z = true := fun z hz => by
  rcases List.mem_or_eq_of_mem_set hz with h | rfl
  ·obtain ⟨r, -, rfl⟩ := List.mem_map.1 h; simp
  ·simp
 have hcA : ∀ z, z ∈ (a.lits.map treesL).set x (.sl 4 false ((a.lits[x]?.getD []).map T.toL ++ [.agg [intL op, intL n, intL pl, .sl 4 false (l.map T.toL)]])) → closed z = true := fun z hz => by
  rcases List.mem_or_eq_of_mem_set hz with h | rfl
  ·obtain ⟨r, -, rfl⟩ := List.mem_map.1 h; simp
  ·simp
 simp [Aut.cells, Word.cells, hacc, hacc1]
 refine ⟨fun htk => ?_, fun htk => ?_⟩
 ·rw [takes_grows ho ⟨edge_right hr hxl hyl, hwr⟩ edge_grows htk] at tE
  rw [takes_grows ho ⟨begin_right hr hyl, hwr⟩ begin_grows htk] at tB
  refine callT_freeze [4] tE (by simp [Aut.edge, setN, Aut.L, Aut.cells, Word.L, Word.cells, if_pos hcE, ints_snoc]) ?_
  simp
  refine callT_freeze [6] tB (by simp [Aut.begin, setN, Aut.L, Aut.cells, Word.L, Word.cells]) ?_
  simp [htk]
 ·have hA : (a.ask x (.mk op n pl l)).takes w = false := by
   rw [Bool.eq_false_iff]; intro h
   rw [takes_grows ⟨ask_right hr hxl hlit, hwr⟩ ho ask_grows h] at htk; exact absurd htk (by simp)
  have hM : (a.meet x y).takes w = false := by
   rw [Bool.eq_false_iff]; intro h
   rw [takes_grows ⟨meet_right hr hxl hyl, hwr⟩ ho meet_grows h] at htk; exact absurd htk (by simp)
  rw [hA] at tA
  rw [hM] at tM
  refine callT_freeze [8] tA (by simp [Aut.ask, askN, tC, Aut.L, Aut.cells, Word.L, Word.cells, toL_mk, if_pos hcA, trees_snoc]) ?_
  simp
  have hrow2 : reso [none, none, none, none, none, none, none, none, none, none, none, none, some [L.v (.int .i64 x), L.v (.int .i64 y)], none, some (a.acc.map intsL ++ [.view 1 12 0 2 true])] 2 (.view 1 12 0 2 true) = some (.sl 1 true [intL x, intL y]) := by simp
  have hcM : ∀ z, z ∈ a.acc.map intsL ++ [.sl 1 true [intL (x : Int), intL (y : Int)]] → closed z = true := fun z hz => by
   rcases List.mem_append.1 hz with h | h
   ·obtain ⟨r, -, rfl⟩ := List.mem_map.1 h; simp
   ·simp at h; subst h; simp
  have htM : (a.acc.map intsL ++ [L.sl 1 true [intL (x : Int), intL (y : Int)]]).take (a.acc.length + 1) = a.acc.map intsL ++ [L.sl 1 true [intL (x : Int), intL (y : Int)]] := List.take_of_length_le (by simp)
  refine callT_freeze [12, 14] tM (by simp [Aut.L, Aut.cells, Word.L, Word.cells, mapO_ints hrow2, if_pos hcM, htM]) ?_
  simp [htk]
theorem tabMore_any (y0 : AutD × WordD × Int × Int × T) (h0 : AutDOk y0.1 ∧ WordOk y0.2.1 ∧ (Lit.int .u8 y0.2.2.1).wf = true ∧ (Lit.int .u8 y0.2.2.2.1).wf = true ∧ T.Ok y0.2.2.2.2) :
  PC Try.prog 7 [.agg ((autOf y0.1).cells ++ (wordOf y0.2.1).cells ++ [.v (.int .u8 y0.2.2.1), .v (.int .u8 y0.2.2.2.1)] ++ [.v (.int .i64 y0.2.2.2.2.op), .v (.int .i64 y0.2.2.2.2.num), .v (.int .i64 y0.2.2.2.2.pl), .sl 4 false (y0.2.2.2.2.l.map T.toL)])] (.v (.bool true)) := by
 obtain ⟨y1, y2, p, q, t⟩ := y0
 obtain ⟨h1, h2, h3, h4, h5⟩ := h0
 have hp : 0 ≤ p ∧ p < 256 := by simp [Lit.wf] at h3; have a : IntKind.u8.min = 0 := rfl; have b : IntKind.u8.max = 255 := rfl; omega
 have hq : 0 ≤ q ∧ q < 256 := by simp [Lit.wf] at h4; have a : IntKind.u8.min = 0 := rfl; have b : IntKind.u8.max = 255 := rfl; omega
 have h := more_walk (autOf_ok h1) (wordOf_ok h2) h5 hp hq
 obtain ⟨op, n, pl, l⟩ := t
 rw [toL_mk] at h
 exact h
end Go.Proofs.Ytjoffkghcjfbeaa

