/- What the arguments read as. -/
import Derived.Test.YtaegmmeppkgnkaaLgNX
import Derived.Test.YtaegmmeppkgnkaaLibExpr
import Derived.Test.YtaegmmeppkgnkaaChecked
namespace Go.Proofs.Ytaegmmeppkgnkaa
open Go Lg

theorem op24 {n : Nat} {ls : List L} (h : Ty Try.prog n 24 ls) : ∃ y : T, ls = [L.v (.int .i64 y.op), L.v (.int .i64 y.num), L.v (.int .i64 y.pl), L.sl 4 false (y.l.map T.toL)] ∧ T.Ok y := by
  obtain ⟨y, rfl, hy⟩ := open_expr (P := Try.prog) (tE := 24) (tL := 22) (tI := 3) Try.underlying24 (by kernel_rfl) rfl Try.underlying3 Try.underlying22 (by kernel_rfl) (by kernel_rfl) (by kernel_rfl) n ls h
  refine ⟨y, ?_, hy⟩
  cases y
  simp [T.toL, L.cells, T.op, T.num, T.pl, T.l, toLs_map]

theorem op37 {n : Nat} {ls : List L} (h : Ty Try.prog n 37 ls) : ∃ y : List (Int), ls = [L.sl 1 false (y.map fun (z : Int) => L.v (.int .u8 z))] ∧ (∀ z ∈ y, (Lit.int .u8 z).wf = true) ∧ y.length * 1 ≤ 140737488351232 := by
  have hc : Try.prog.cellsOf 5 = 1 := by kernel_rfl
  have hb : Try.prog.bytesOf 5 = 1 := by kernel_rfl
  have hg : isAggB Try.prog 5 = false := by kernel_rfl
  obtain ⟨m, xs, rfl, h2, h3⟩ := ty_slice h Try.underlying37 (by rw [hc, hg]; rfl)
  obtain ⟨ys, rfl, h4⟩ := list_open (g := fun y : Int => [L.v (.int .u8 y)]) (p := fun y => (Lit.int .u8 y).wf = true) h2 (fun x hx => ty_int hx Try.underlying5)
  rw [hb] at h3
  refine ⟨ys, ?_, h4, by simpa using h3⟩
  rw [hc, hg]
  simp [mkL]

end Go.Proofs.Ytaegmmeppkgnkaa
