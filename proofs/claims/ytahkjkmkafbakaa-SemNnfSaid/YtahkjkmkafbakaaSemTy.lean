/- What the arguments read as. -/
import Derived.Test.YtahkjkmkafbakaaLgV
import Derived.Test.YtahkjkmkafbakaaLibExpr
import Derived.Test.YtahkjkmkafbakaaChecked
namespace Go.Proofs.Ytahkjkmkafbakaa
open Go Lg

theorem op24 {n : Nat} {ls : List L} (h : Ty Try.prog n 24 ls) : ∃ y : T, ls = [L.v (.int .i64 y.op), L.v (.int .i64 y.num), L.v (.int .i64 y.pl), L.sl 4 false (y.l.map T.toL)] ∧ T.Ok y := by
  obtain ⟨y, rfl, hy⟩ := open_expr (P := Try.prog) (tE := 24) (tL := 22) (tI := 3) Try.underlying24 (by kernel_rfl) rfl Try.underlying3 Try.underlying22 (by kernel_rfl) (by kernel_rfl) (by kernel_rfl) n ls h
  refine ⟨y, ?_, hy⟩
  cases y
  simp [T.toL, L.cells, T.op, T.num, T.pl, T.l, toLs_map]

theorem op35 {n : Nat} {ls : List L} (h : Ty Try.prog n 35 ls) : ∃ y : List (Int), ls = [L.sl 1 false (y.map fun (z : Int) => L.v (.int .i64 z))] ∧ (∀ z ∈ y, (Lit.int .i64 z).wf = true) ∧ y.length * 8 ≤ 140737488351232 := by
  have hc : Try.prog.cellsOf 3 = 1 := by kernel_rfl
  have hb : Try.prog.bytesOf 3 = 8 := by kernel_rfl
  have hg : isAggB Try.prog 3 = false := by kernel_rfl
  obtain ⟨m, xs, rfl, h2, h3⟩ := ty_slice h Try.underlying35 (by rw [hc, hg]; rfl)
  obtain ⟨ys, rfl, h4⟩ := list_open (g := fun y : Int => [L.v (.int .i64 y)]) (p := fun y => (Lit.int .i64 y).wf = true) h2 (fun x hx => ty_int hx Try.underlying3)
  rw [hb] at h3
  refine ⟨ys, ?_, h4, by simpa using h3⟩
  rw [hc, hg]
  simp [mkL]

theorem op25 {n : Nat} {ls : List L} (h : Ty Try.prog n 25 ls) : ∃ y : List (List (Int)), ls = [L.sl 1 false (y.map fun (z : List (Int)) => L.sl 1 false (z.map fun (z : Int) => L.v (.int .i64 z)))] ∧ (∀ z ∈ y, (∀ zz ∈ z, (Lit.int .i64 zz).wf = true) ∧ z.length * 8 ≤ 140737488351232) ∧ y.length * 24 ≤ 140737488351232 := by
  have hc : Try.prog.cellsOf 35 = 1 := by kernel_rfl
  have hb : Try.prog.bytesOf 35 = 24 := by kernel_rfl
  have hg : isAggB Try.prog 35 = false := by kernel_rfl
  obtain ⟨m, xs, rfl, h2, h3⟩ := ty_slice h Try.underlying25 (by rw [hc, hg]; rfl)
  obtain ⟨ys, rfl, h4⟩ := list_open (g := fun y : List (Int) => [L.sl 1 false (y.map fun (z : Int) => L.v (.int .i64 z))]) (p := fun y => (∀ z ∈ y, (Lit.int .i64 z).wf = true) ∧ y.length * 8 ≤ 140737488351232) h2 (fun x hx => op35 hx)
  rw [hb] at h3
  refine ⟨ys, ?_, h4, by simpa using h3⟩
  rw [hc, hg]
  simp [mkL]

theorem op27 {n : Nat} {ls : List L} (h : Ty Try.prog n 27 ls) : ∃ y : (List (List (Int))) × (Int), ls = [L.sl 1 false (y.1.map fun (z : List (Int)) => L.sl 1 false (z.map fun (z : Int) => L.v (.int .i64 z))), L.v (.int .i64 y.2)] ∧ ((∀ z ∈ y.1, (∀ zz ∈ z, (Lit.int .i64 zz).wf = true) ∧ z.length * 8 ≤ 140737488351232) ∧ y.1.length * 24 ≤ 140737488351232) ∧ ((Lit.int .i64 y.2).wf = true) := by
  obtain ⟨m, hall⟩ := ty_struct h Try.underlying27 (by kernel_rfl) (ts := [25, 3]) rfl
  obtain ⟨x0, y0, rfl, e0, hall⟩ := tyAll_cons hall
  obtain ⟨x1, y1, rfl, e1, hall⟩ := tyAll_cons hall
  obtain rfl : y1 = [] := hall
  obtain ⟨z0, rfl, h0⟩ := op25 e0
  obtain ⟨z1, rfl, h1⟩ := ty_int e1 Try.underlying3
  exact ⟨(z0, z1), rfl, h0, h1⟩

theorem op45 {n : Nat} {ls : List L} (h : Ty Try.prog n 45 ls) : ∃ y : (T) × (T) × (T) × ((List (List (Int))) × (Int)), ls = [L.v (.int .i64 y.1.op), L.v (.int .i64 y.1.num), L.v (.int .i64 y.1.pl), L.sl 4 false (y.1.l.map T.toL), L.v (.int .i64 y.2.1.op), L.v (.int .i64 y.2.1.num), L.v (.int .i64 y.2.1.pl), L.sl 4 false (y.2.1.l.map T.toL), L.v (.int .i64 y.2.2.1.op), L.v (.int .i64 y.2.2.1.num), L.v (.int .i64 y.2.2.1.pl), L.sl 4 false (y.2.2.1.l.map T.toL), L.sl 1 false (y.2.2.2.1.map fun (z : List (Int)) => L.sl 1 false (z.map fun (z : Int) => L.v (.int .i64 z))), L.v (.int .i64 y.2.2.2.2)] ∧ (T.Ok y.1) ∧ (T.Ok y.2.1) ∧ (T.Ok y.2.2.1) ∧ (((∀ z ∈ y.2.2.2.1, (∀ zz ∈ z, (Lit.int .i64 zz).wf = true) ∧ z.length * 8 ≤ 140737488351232) ∧ y.2.2.2.1.length * 24 ≤ 140737488351232) ∧ ((Lit.int .i64 y.2.2.2.2).wf = true)) := by
  obtain ⟨m, hall⟩ := ty_struct h Try.underlying45 (by kernel_rfl) (ts := [24, 24, 24, 27]) rfl
  obtain ⟨x0, y0, rfl, e0, hall⟩ := tyAll_cons hall
  obtain ⟨x1, y1, rfl, e1, hall⟩ := tyAll_cons hall
  obtain ⟨x2, y2, rfl, e2, hall⟩ := tyAll_cons hall
  obtain ⟨x3, y3, rfl, e3, hall⟩ := tyAll_cons hall
  obtain rfl : y3 = [] := hall
  obtain ⟨z0, rfl, h0⟩ := op24 e0
  obtain ⟨z1, rfl, h1⟩ := op24 e1
  obtain ⟨z2, rfl, h2⟩ := op24 e2
  obtain ⟨z3, rfl, h3⟩ := op27 e3
  exact ⟨(z0, z1, z2, z3), rfl, h0, h1, h2, h3⟩

theorem op32 {n : Nat} {ls : List L} (h : Ty Try.prog n 32 ls) : ∃ y : List (Bool), ls = [L.sl 1 false (y.map fun (z : Bool) => L.v (.bool z))] ∧ (∀ z ∈ y, True) ∧ y.length * 1 ≤ 140737488351232 := by
  have hc : Try.prog.cellsOf 4 = 1 := by kernel_rfl
  have hb : Try.prog.bytesOf 4 = 1 := by kernel_rfl
  have hg : isAggB Try.prog 4 = false := by kernel_rfl
  obtain ⟨m, xs, rfl, h2, h3⟩ := ty_slice h Try.underlying32 (by rw [hc, hg]; rfl)
  obtain ⟨ys, rfl, h4⟩ := list_open (g := fun y : Bool => [L.v (.bool y)]) (p := fun y => True) h2 (fun x hx => ty_boolT hx Try.underlying4)
  rw [hb] at h3
  refine ⟨ys, ?_, h4, by simpa using h3⟩
  rw [hc, hg]
  simp [mkL]

end Go.Proofs.Ytahkjkmkafbakaa
