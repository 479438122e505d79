/- The functions of sem, and of what it is compared with. -/
import Derived.Test.YtahkjkmkafbakaaSemIr
import Derived.Test.YtahkjkmkafbakaaLibSemL
namespace Go.Proofs.Ytahkjkmkafbakaa
open Go Lg

def semF : SemFns Try.prog where
  all := 15
  li := 37
  ty := 57
  ea := 38
  c39 := 39
  ev := 40
  tr := 58
  c41 := 41
  c42 := 42
  c43 := 43
  c44 := 44
  c45 := 45
  c46 := 46
  c47 := 47
  c48 := 48
  nx := 49
  un := 50
  cu := 60
  re := 51
  cr := 61
  st := 59
  c1 := 63
  c2 := 64
  eq := 65
  iall := ir15
  ili := ir37
  ity := ir57
  iea := ir38
  i39 := ir39
  iev := ir40
  itr := ir58
  i41 := ir41
  i42 := ir42
  i43 := ir43
  i44 := ir44
  i45 := ir45
  i46 := ir46
  i47 := ir47
  i48 := ir48
  inx := ir49
  iun := ir50
  icu := ir60
  ire := ir51
  icr := ir61
  ist := ir59
  i1 := ir63
  i2 := ir64
  ieq := ir65

def refF : RefFns Try.prog where
  all := 16
  li := 23
  ty := 36
  ev := 24
  tr := 53
  nx := 22
  un := 52
  iall := ir16
  ili := ir23
  ity := ir36
  iev := ir24
  itr := ir53
  inx := ir22
  iun := ir52

abbrev WordD := (List (List Int)) × Int
abbrev WordOk (y : WordD) : Prop := ((∀ z ∈ y.1, (∀ zz ∈ z, (Lit.int .i64 zz).wf = true) ∧ z.length * 8 ≤ 140737488351232) ∧ y.1.length * 24 ≤ 140737488351232) ∧ ((Lit.int .i64 y.2).wf = true)
def wordOf (y : WordD) : Word := ⟨y.1, y.2⟩
theorem wordOf_ok {y : WordD} (h : WordOk y) : (wordOf y).Ok := by
  obtain ⟨⟨a1, a2⟩, -⟩ := h
  refine ⟨by simp [wordOf]; omega, fun r hr => ?_⟩
  have := (a1 r hr).2; omega

theorem all_any {w : Word} (hwok : w.Ok) (hr : w.right = true) (hn : w.v.length ≤ 1000000) {vars : Int} {t : T} (hok : t.Ok) (hm : t.may vars = true) (hg : t.type.2.1 = 0) (h1 : t.type.1 ≠ 1) : PC Try.prog 15 [t.toL, w.L] (rowL true w.v.length (t.sat w)) := semF.all_any hwok hr hn t hok hm hg h1
theorem allR_any {w : Word} (hwok : w.Ok) (hr : w.right = true) (hn : w.v.length ≤ 1000000) {vars : Int} {t : T} (hok : t.Ok) (hm : t.may vars = true) (hg : t.type.2.1 = 0) (h1 : t.type.1 ≠ 1) : PC Try.prog 16 [t.toL, w.L] (rowL true w.v.length (t.sat w)) := refF.all_any hwok hr hn t hok hm hg h1
theorem right_len {w : Word} (hr : w.right = true) : 0 < w.v.length := by simp [Word.right] at hr; omega
theorem holds_any {w : Word} (hwok : w.Ok) (hr : w.right = true) (hn : w.v.length ≤ 1000000) {vars : Int} {t : T} (hok : t.Ok) (hm : t.may vars = true) (hg : t.type.2.1 = 0) (h1 : t.type.1 ≠ 1) : PC Try.prog 17 [t.toL, w.L] (boolL (t.sat w 0)) := holds_gen ir17 (all_any hwok hr hn hok hm hg h1) (right_len hr)
theorem holdsR_any {w : Word} (hwok : w.Ok) (hr : w.right = true) (hn : w.v.length ≤ 1000000) {vars : Int} {t : T} (hok : t.Ok) (hm : t.may vars = true) (hg : t.type.2.1 = 0) (h1 : t.type.1 ≠ 1) : PC Try.prog 18 [t.toL, w.L] (boolL (t.sat w 0)) := holdsR_gen ir18 (allR_any hwok hr hn hok hm hg h1) (right_len hr)
theorem few_any {w : Word} (hw : w.Ok) : PC Try.prog 10 [w.L] (boolL (w.v.all fun r => decide (r.length ≤ 10))) := fewW_gen ir10 hw
theorem rightR_any (w : Word) : PC Try.prog 11 [w.L] (boolL w.right) := right17_gen ir11 w
theorem rightS_any (w : Word) : PC Try.prog 12 [w.L] (boolL w.right) := rightS_gen ir12 w
theorem same_any {n : Nat} (hn : n ≤ 1000000) {c c' : Bool} {a b : Nat → Bool} : PC Try.prog 14 [rowL c n a, rowL c' n b] (boolL (decide (∀ i, i < n → a i = b i))) := sameB_gen ir14 hn
theorem formula_any {t : T} (hok : t.Ok) (vars : Int) : PC Try.prog 13 [t.toL, intL vars] (boolL (t.formula vars)) := formula_gen (fe := 34) (ma := 35) (ty := 36) (d := 55) (m := 56) ir13 ir34 ir55 ir56 ir35 ir36 hok vars
theorem two_any {op : Int} {t u : T} : PC Try.prog 19 [intL op, t.toL, u.toL] (T.mk op 0 0 [t, u]).toL := two_gen ir19
theorem one_any {op : Int} {t : T} : PC Try.prog 21 [intL op, t.toL] (T.mk op 0 0 [t]).toL := one_gen ir21
theorem not_any {t : T} : PC Try.prog 20 [t.toL] (T.mk 15 0 0 [t]).toL := notT_gen (one := 21) ir20 ir21
theorem one33_any {op : Int} {t : T} : PC Try.prog 33 [intL op, t.toL] (T.mk op 0 0 [t]).toL := one33_gen ir33
theorem eq_any {n : Int} : PC Try.prog 32 [intL n] (eqT n).toL := eq32_gen ir32

theorem mkL_tree (t : T) : mkL true [L.v (.int .i64 t.op), L.v (.int .i64 t.num), L.v (.int .i64 t.pl), L.sl 4 false (t.l.map T.toL)] = t.toL := by
  cases t; simp [mkL, toL_mk, T.op, T.num, T.pl, T.l]

end Go.Proofs.Ytahkjkmkafbakaa
