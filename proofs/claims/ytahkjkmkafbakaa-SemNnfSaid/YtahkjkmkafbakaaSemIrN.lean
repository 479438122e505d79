/- The code of nnf within this program. -/
import Derived.Test.YtahkjkmkafbakaaLibNnfLaw
import Derived.Test.YtahkjkmkafbakaaSemFn
namespace Go.Proofs.Ytahkjkmkafbakaa
open Go Lg

set_option maxRecDepth 100000 in
theorem ir62n : compFS selTurn Try.prog 62 = some (irTurnN 66 67 68 69 70) := compFS_of (by kernel_rfl)
theorem ir67n : compFS selPart Try.prog 67 = some (irPartN 62) := compFS_of (by kernel_rfl)
theorem ir70n : compFS selPart Try.prog 70 = some irAndN := compFS_of (by kernel_rfl)
theorem ir68n : compF Try.prog 68 = some irBothN := compF_of (by kernel_rfl)
theorem ir69n : compF Try.prog 69 = some irTruthN := compF_of (by kernel_rfl)
theorem ir54n : compF Try.prog 54 = some (irMadeN 62) := compF_of (by kernel_rfl)
theorem ir30n : compF Try.prog 30 = some (irOfN 54 false) := compF_of (by kernel_rfl)
theorem ir31n : compF Try.prog 31 = some (irOfN 54 true) := compF_of (by kernel_rfl)
theorem ir29n : compF Try.prog 29 = some (irSizeR 23 29) := compF_of (by kernel_rfl)

def semTurn : TurnFns Try.prog := ⟨66, 67, 68, 69, 70, 62, fun t hok => litP_gen ir66 ir57 t hok, ir62n, ir67n, ir68n, ir69n, ir70n⟩

theorem of_any {vars : Int} {t : T} (h : Fm vars t) : PC Try.prog 30 [t.toL] (.tup [(t.made false).1.toL, intL (t.made false).2]) := of_gen semTurn ir54n ir30n h.ok h.may h.good h.notint
theorem not_of_any {vars : Int} {t : T} (h : Fm vars t) : PC Try.prog 31 [t.toL] (.tup [(t.made true).1.toL, intL (t.made true).2]) := of_gen semTurn ir54n ir31n h.ok h.may h.good h.notint
theorem size_any {t : T} (h : t.Ok) : PC Try.prog 29 [t.toL] (intL t.psize) := sizeR_gen ir29n (fun t hok => lit_gen ir23 ir36 t hok) t h

end Go.Proofs.Ytahkjkmkafbakaa
