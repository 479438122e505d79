/- The functions of nnf, and of what it is compared with. -/
import Derived.Test.YtaegmmeppkgnkaaNnfIr
import Derived.Test.YtaegmmeppkgnkaaLibNnfS
import Derived.Test.YtaegmmeppkgnkaaLibSemL
namespace Go.Proofs.Ytaegmmeppkgnkaa
open Go Lg

set_option maxRecDepth 100000 in
theorem ir32n : compFS selTurn Try.prog 32 = some (irTurnN 13 36 37 38 39) := compFS_of (by kernel_rfl)
theorem ir36n : compFS selPart Try.prog 36 = some (irPartN 32) := compFS_of (by kernel_rfl)
theorem ir39n : compFS selPart Try.prog 39 = some irAndN := compFS_of (by kernel_rfl)
theorem ir37n : compF Try.prog 37 = some irBothN := compF_of (by kernel_rfl)
theorem ir38n : compF Try.prog 38 = some irTruthN := compF_of (by kernel_rfl)
theorem ir25n : compF Try.prog 25 = some (irMadeN 32) := compF_of (by kernel_rfl)
theorem ir9n : compF Try.prog 9 = some (irOfN 25 false) := compF_of (by kernel_rfl)
theorem ir11n : compF Try.prog 11 = some (irOfN 25 true) := compF_of (by kernel_rfl)

theorem lit_any (t : T) (hok : t.Ok) : PC Try.prog 13 [t.toL] (boolL t.lit) := litP_gen ir13 ir27 t hok
def nnfTurn : TurnFns Try.prog := ⟨13, 36, 37, 38, 39, 32, lit_any, ir32n, ir36n, ir37n, ir38n, ir39n⟩

theorem of_any {vars : Int} {t : T} (h : Fm vars t) : PC Try.prog 9 [t.toL] (.tup [(t.made false).1.toL, intL (t.made false).2]) := of_gen nnfTurn ir25n ir9n h.ok h.may h.good h.notint
theorem not_any {vars : Int} {t : T} (h : Fm vars t) : PC Try.prog 11 [t.toL] (.tup [(t.made true).1.toL, intL (t.made true).2]) := of_gen nnfTurn ir25n ir11n h.ok h.may h.good h.notint
theorem size_any {t : T} (h : t.Ok) : PC Try.prog 15 [t.toL] (intL t.psize) := sizeN_gen ir15 lit_any t h
theorem right_any {t : T} (h : t.Ok) : PC Try.prog 17 [t.toL] (boolL t.rightB) := rightN_gen ir17 lit_any ir28 ir35 ir29 t h
theorem same_any {t u : T} (h : t.Ok) (k : u.Ok) : PC Try.prog 21 [t.toL, u.toL] (boolL (t.same u)) := same_gen ir21 t h u k
theorem typed_any {vars : Int} {t : T} (h : Fm vars t) : PC Try.prog 20 [t.toL, intL vars] (boolL true) := by
  have := typed_gen ir20 ir23 ir24 t h.ok vars
  rwa [h.may, decide_eq_true h.good, decide_eq_true h.notint] at this
theorem formula_any {t : T} (hok : t.Ok) (vars : Int) : PC Try.prog 8 [t.toL, intL vars] (boolL (t.formula vars)) := formula_gen (fe := 22) (ma := 23) (ty := 24) (d := 30) (m := 31) ir8 ir22 ir30 ir31 ir23 ir24 hok vars

theorem mkL_tree (t : T) : mkL true [L.v (.int .i64 t.op), L.v (.int .i64 t.num), L.v (.int .i64 t.pl), L.sl 4 false (t.l.map T.toL)] = t.toL := by
  cases t; simp [mkL, toL_mk, T.op, T.num, T.pl, T.l]

end Go.Proofs.Ytaegmmeppkgnkaa
