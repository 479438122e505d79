/- The functions of tab, and of what it is compared with. -/
import Derived.Test.YtjoffkghcjfbeaaLibAtLK
import Derived.Test.YtjoffkghcjfbeaaLibAtE
import Derived.Test.YtjoffkghcjfbeaaLibAtPT
import Derived.Test.YtjoffkghcjfbeaaLibAtD1
import Derived.Test.YtjoffkghcjfbeaaLibTakes
import Derived.Test.YtjoffkghcjfbeaaLibSemS
import Derived.Test.YtjoffkghcjfbeaaLibSemL
import Derived.Test.YtjoffkghcjfbeaaChecked
namespace Go.Proofs.Ytjoffkghcjfbeaa
open Go Lg
theorem ir10 : compF Try.prog 10 = some (irFew18 28) := compF_of (by kernel_rfl)
theorem ir28 : compF Try.prog 28 = some (irFewT 54 55) := compF_of (by kernel_rfl)
theorem ir54 : compF Try.prog 54 = some (irDeep 54) := compF_of (by kernel_rfl)
theorem ir55 : compF Try.prog 55 = some (irManyT 55) := compF_of (by kernel_rfl)
theorem ir11 : compF Try.prog 11 = some (irMay18 29) := compF_of (by kernel_rfl)
theorem ir29 : compF Try.prog 29 = some (irMay 29) := compF_of (by kernel_rfl)
theorem ir12 : compF Try.prog 12 = some (irRight18 30 26) := compF_of (by kernel_rfl)
theorem ir30 : compF Try.prog 30 = some irStates := compF_of (by kernel_rfl)
theorem ir26 : compF Try.prog 26 = some (irLit 48) := compF_of (by kernel_rfl)
theorem ir48 : compF Try.prog 48 = some (irType 48) := compF_of (by kernel_rfl)
theorem ir13 : compF Try.prog 13 = some (irRightP 31 34 35 37) := compF_of (by kernel_rfl)
theorem ir31 : compF Try.prog 31 = some (irR1 33 32) := compF_of (by kernel_rfl)
theorem ir33 : compF Try.prog 33 = some irR11 := compF_of (by kernel_rfl)
theorem ir32 : compF Try.prog 32 = some (irConI 56) := compF_of (by kernel_rfl)
theorem ir56 : compF Try.prog 56 = some irIdxI := compF_of (by kernel_rfl)
theorem ir34 : compF Try.prog 34 = some (irCont 57) := compF_of (by kernel_rfl)
theorem ir57 : compF Try.prog 57 = some irIdxF := compF_of (by kernel_rfl)
theorem ir35 : compF Try.prog 35 = some (irR2 36) := compF_of (by kernel_rfl)
theorem ir36 : compF Try.prog 36 = some (irLit 58) := compF_of (by kernel_rfl)
theorem ir58 : compF Try.prog 58 = some (irTypeP 58) := compF_of (by kernel_rfl)
theorem ir37 : compF Try.prog 37 = some (irConcatR 59) := compF_of (by kernel_rfl)
theorem ir59 : compF Try.prog 59 = some irGrowR := compF_of (by kernel_rfl)
theorem ir14 : compF Try.prog 14 = some irRight17 := compF_of (by kernel_rfl)
theorem ir15 : compF Try.prog 15 = some (irFitP 34 38) := compF_of (by kernel_rfl)
theorem ir38 : compF Try.prog 38 = some (irFit1 39) := compF_of (by kernel_rfl)
theorem ir39 : compF Try.prog 39 = some (irEvalP 39 60) := compF_of (by kernel_rfl)
theorem ir60 : compF Try.prog 60 = some irTruth := compF_of (by kernel_rfl)
theorem ir17 : compF Try.prog 17 = some (irTakesP 15 41 42 44 32) := compF_of (by kernel_rfl)
theorem ir42 : compF Try.prog 42 = some (irTk1 43) := compF_of (by kernel_rfl)
theorem ir43 : compF Try.prog 43 = some (irConV 65) := compF_of (by kernel_rfl)
theorem ir65 : compF Try.prog 65 = some irIdxV := compF_of (by kernel_rfl)
theorem ir44 : compF Try.prog 44 = some irTk2 := compF_of (by kernel_rfl)
theorem ir41 : compF Try.prog 41 = some (irReach 63 64 62) := compF_of (by kernel_rfl)
theorem ir63 : compF Try.prog 63 = some irNextP := compF_of (by kernel_rfl)
theorem ir64 : compF Try.prog 64 = some irRe1 := compF_of (by kernel_rfl)
theorem ir62 : compF Try.prog 62 = some (irConP 71) := compF_of (by kernel_rfl)
theorem ir71 : compF Try.prog 71 = some irIdxP := compF_of (by kernel_rfl)
theorem ir19 : compF Try.prog 19 = some (irFormula 28 29 48) := compF_of (by kernel_rfl)
theorem ir66 : compF Try.prog 66 = some (irSameP 72 66) := compF_of (by kernel_rfl)
theorem ir72 : compF Try.prog 72 = some irEqF := compF_of (by kernel_rfl)
theorem ir51 : compF Try.prog 51 = some (irCoverT 67) := compF_of (by kernel_rfl)
theorem ir50 : compF Try.prog 50 = some irNumber := compF_of (by kernel_rfl)
set_option maxRecDepth 100000 in
theorem ir67 : compFS selSplit Try.prog 67 = some (irSplit 36 49) := compFS_of (by kernel_rfl)
set_option maxRecDepth 100000 in
theorem ir49 : compFS selBit Try.prog 49 = some (irBitT 66) := compFS_of (by kernel_rfl)
set_option maxRecDepth 100000 in
theorem ir22 : compFS selOf Try.prog 22 = some (irOfT 36 49 50 51) := compFS_of (by kernel_rfl)
theorem lit_any (t : T) (hok : t.Ok) : PC Try.prog 26 [t.toL] (boolL t.lit) := lit_gen ir26 ir48 t hok
theorem litP_any (t : T) (hok : t.Ok) : PC Try.prog 36 [t.toL] (boolL t.lit) := litP_gen ir36 ir58 t hok
abbrev AutD := (List (List T)) × (List (List Int)) × (List Int) × (List (List Int))
abbrev AutDOk (y : AutD) : Prop := ((∀ z ∈ y.1, (∀ zz ∈ z, T.Ok zz) ∧ z.length * 48 ≤ 140737488351232) ∧ y.1.length * 24 ≤ 140737488351232) ∧ ((∀ z ∈ y.2.1, (∀ zz ∈ z, (Lit.int .i64 zz).wf = true) ∧ z.length * 8 ≤ 140737488351232) ∧ y.2.1.length * 24 ≤ 140737488351232) ∧ ((∀ z ∈ y.2.2.1, (Lit.int .i64 z).wf = true) ∧ y.2.2.1.length * 8 ≤ 140737488351232) ∧ ((∀ z ∈ y.2.2.2, (∀ zz ∈ z, (Lit.int .i64 zz).wf = true) ∧ z.length * 8 ≤ 140737488351232) ∧ y.2.2.2.length * 24 ≤ 140737488351232)
def autOf (y : AutD) : Aut := ⟨y.1, y.2.1, y.2.2.1, y.2.2.2⟩
theorem autOf_ok {y : AutD} (h : AutDOk y) : (autOf y).Ok := by
 obtain ⟨⟨a1, a2⟩, ⟨b1, b2⟩, ⟨c1, c2⟩, d1, d2⟩ := h
 refine ⟨by simp [autOf]; omega, fun l hl => ?_, by simp [autOf]; omega, fun r hr => ?_, by simp [autOf]; omega, by simp [autOf]; omega, fun r hr => ?_⟩
 ·obtain ⟨h1, h2⟩ := a1 l hl; exact ⟨by omega, h1⟩
 ·have := (b1 r hr).2; omega
 ·have := (d1 r hr).2; omega
abbrev WordD := (List (List Int)) × Int
abbrev WordOk (y : WordD) : Prop := ((∀ z ∈ y.1, (∀ zz ∈ z, (Lit.int .i64 zz).wf = true) ∧ z.length * 8 ≤ 140737488351232) ∧ y.1.length * 24 ≤ 140737488351232) ∧ ((Lit.int .i64 y.2).wf = true)
def wordOf (y : WordD) : Word := ⟨y.1, y.2⟩
theorem wordOf_ok {y : WordD} (h : WordOk y) : (wordOf y).Ok := by
 obtain ⟨⟨a1, a2⟩, -⟩ := h
 refine ⟨by simp [wordOf]; omega, fun r hr => ?_⟩
 have := (a1 r hr).2; omega
theorem few18_any {a : Aut} (ha : a.Ok) (m : Int) : PC Try.prog 10 [a.L, intL m] (boolL (a.few18 m)) := few18_gen ir10 ir28 ir54 ir55 ha m
theorem may18_any {a : Aut} (ha : a.Ok) (v : Int) : PC Try.prog 11 [a.L, intL v] (boolL (a.may v)) := may18_gen ir11 ir29 ha v
theorem right18_any {a : Aut} (ha : a.Ok) : PC Try.prog 12 [a.L] (boolL a.right) := right18_gen ir12 ir30 ir26 ir48 ha
theorem rightP_any {a : Aut} (ha : a.Ok) (hn : a.next.length ≤ 300000) (hacc : a.acc.length ≤ 300000) : PC Try.prog 13 [a.L] (boolL a.right) := rightP_gen ir13 ir31 ir33 ir32 ir56 ir34 ir57 ir35 litP_any ir37 ir59 ha hn hacc
theorem right17_any (w : Word) : PC Try.prog 14 [w.L] (boolL w.right) := right17_gen ir14 w
theorem formula_any {t : T} (hok : t.Ok) (vars : Int) : PC Try.prog 19 [t.toL, intL vars] (boolL (t.formula vars)) := formula_gen ir19 ir28 ir54 ir55 ir29 ir48 hok vars
theorem lit_type {t : T} (h : t.lit = true) : t.type.1 = 2 ∧ t.type.2.1 = 0 := by simpa [T.lit, and_comm] using h
theorem fitP_any {a : Aut} (ha : a.Ok) (hr : a.right = true) {vars : Int} (hm : a.may vars = true) {q : Nat} (hq : q < a.lits.length) {c : Bool} {v : List Int} (hv : v.length ≤ 17592186044416) : PC Try.prog 15 [a.L, intL q, .sl 1 c (v.map intL)] (boolL (a.fits q v)) := by
 refine fitP_gen ir15 ir34 ir57 ir38 ha hq fun t ht => ?_
 have hl : a.lits.getD q [] ∈ a.lits := by rw [List.getD, List.getElem?_eq_getElem hq]; exact List.getElem_mem hq
 have hlit : t.lit = true := by
  simp only [Aut.right, Bool.and_eq_true] at hr
  have := List.all_eq_true.1 hr.1.2 q (List.mem_range.2 hq)
  simp only [rowOk, Bool.and_eq_true] at this
  exact List.all_eq_true.1 this.2 t ht
 have hmt : t.may vars = true := List.all_eq_true.1 (List.all_eq_true.1 hm _ hl) t ht
 exact evalP_gen ir39 ir60 hv ((ha.lit _ hl).2 t ht) hmt (lit_type hlit).2 (by rw [(lit_type hlit).1]; decide)
theorem takesP_any {a : Aut} {w : Word} (h : TakesOk a w) {vars : Int} (hm : a.may vars = true) : PC Try.prog 17 [a.L, w.L] (boolL (a.takes w)) := by
 refine takesP_gen ir17 ir41 ir63 ir62 ir71 ir64 ir42 ir43 ir65 ir44 ir32 ir56 h.ok h.wok ⟨h.right, h.wright⟩ h.few h.short (fun q => ?_) fun q hq i hi => ?_
 ·by_cases hq : q < a.next.length
  ·have := h.rows _ (List.getElem_mem hq)
   rw [List.getD, List.getElem?_eq_getElem hq]; simp; omega
  ·rw [List.getD, List.getElem?_eq_none (by omega)]; simp
 ·exact fitP_any h.ok h.right hm hq (h.wok.row _ (List.getElem_mem hi))
def tabF {t : T} (h : Frm t) : TabF Try.prog t.subs := ⟨36, 49, 67, 66, 51, 50, ir51, ir67, ir49, ir50, h.parts, fun x hx y hy => sameP_gen ir66 ir72 x (h.parts.ok x hx) y (h.parts.ok y hy), fun e he => litP_any e (h.parts.ok e he)⟩
theorem tabOf_any {t : T} (h : Frm t) : PC Try.prog 22 [t.toL] (ofF t).L := tabOf_gen (tabF h) (subs_self t) ir22 h.fuel
theorem mkL_tree (t : T) : mkL true [L.v (.int .i64 t.op), L.v (.int .i64 t.num), L.v (.int .i64 t.pl), L.sl 4 false (t.l.map T.toL)] = t.toL := by
 cases t; simp [mkL, toL_mk, T.op, T.num, T.pl, T.l]
end Go.Proofs.Ytjoffkghcjfbeaa

