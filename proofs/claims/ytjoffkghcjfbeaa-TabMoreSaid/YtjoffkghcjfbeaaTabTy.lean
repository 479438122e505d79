/- What the arguments read as. -/
import Derived.Test.YtjoffkghcjfbeaaLgNX
import Derived.Test.YtjoffkghcjfbeaaLibExpr
import Derived.Test.YtjoffkghcjfbeaaChecked
namespace Go.Proofs.Ytjoffkghcjfbeaa
open Go Lg
theorem op36 {n : Nat} {ls : List L} (h : Ty Try.prog n 36 ls) : ∃ y : List T, ls = [L.sl 4 false (y.map fun (z : T) => z.toL)] ∧ (∀ z ∈ y, T.Ok z) ∧ y.length * 48 ≤ 140737488351232 :=
 open_exprs (P := Try.prog) (tE := 38) (tL := 36) (tI := 3) Try.underlying38 (by kernel_rfl) rfl Try.underlying3 Try.underlying36 (by kernel_rfl) (by kernel_rfl) (by kernel_rfl) h
theorem op22 {n : Nat} {ls : List L} (h : Ty Try.prog n 22 ls) : ∃ y : List (List (T)), ls = [L.sl 1 false (y.map fun (z : List (T)) => L.sl 4 false (z.map fun (z : T) => z.toL))] ∧ (∀ z ∈ y, (∀ zz ∈ z, T.Ok zz) ∧ z.length * 48 ≤ 140737488351232) ∧ y.length * 24 ≤ 140737488351232 := by
 have hc : Try.prog.cellsOf 36 = 1 := by kernel_rfl
 have hb : Try.prog.bytesOf 36 = 24 := by kernel_rfl
 have hg : isAggB Try.prog 36 = false := by kernel_rfl
 obtain ⟨m, xs, rfl, h2, h3⟩ := ty_slice h Try.underlying22 (by rw [hc, hg]; rfl)
 obtain ⟨ys, rfl, h4⟩ := list_open (g := fun y : List (T) => [L.sl 4 false (y.map fun (z : T) => z.toL)]) (p := fun y => (∀ z ∈ y, T.Ok z) ∧ y.length * 48 ≤ 140737488351232) h2 (fun x hx => op36 hx)
 rw [hb] at h3
 refine ⟨ys, ?_, h4, by simpa using h3⟩
 rw [hc, hg]
 simp [mkL]
theorem op24 {n : Nat} {ls : List L} (h : Ty Try.prog n 24 ls) : ∃ y : List (Int), ls = [L.sl 1 false (y.map fun (z : Int) => L.v (.int .i64 z))] ∧ (∀ z ∈ y, (Lit.int .i64 z).wf = true) ∧ y.length * 8 ≤ 140737488351232 := by
 have hc : Try.prog.cellsOf 3 = 1 := by kernel_rfl
 have hb : Try.prog.bytesOf 3 = 8 := by kernel_rfl
 have hg : isAggB Try.prog 3 = false := by kernel_rfl
 obtain ⟨m, xs, rfl, h2, h3⟩ := ty_slice h Try.underlying24 (by rw [hc, hg]; rfl)
 obtain ⟨ys, rfl, h4⟩ := list_open (g := fun y : Int => [L.v (.int .i64 y)]) (p := fun y => (Lit.int .i64 y).wf = true) h2 (fun x hx => ty_int hx Try.underlying3)
 rw [hb] at h3
 refine ⟨ys, ?_, h4, by simpa using h3⟩
 rw [hc, hg]
 simp [mkL]
theorem op23 {n : Nat} {ls : List L} (h : Ty Try.prog n 23 ls) : ∃ y : List (List (Int)), ls = [L.sl 1 false (y.map fun (z : List (Int)) => L.sl 1 false (z.map fun (z : Int) => L.v (.int .i64 z)))] ∧ (∀ z ∈ y, (∀ zz ∈ z, (Lit.int .i64 zz).wf = true) ∧ z.length * 8 ≤ 140737488351232) ∧ y.length * 24 ≤ 140737488351232 := by
 have hc : Try.prog.cellsOf 24 = 1 := by kernel_rfl
 have hb : Try.prog.bytesOf 24 = 24 := by kernel_rfl
 have hg : isAggB Try.prog 24 = false := by kernel_rfl
 obtain ⟨m, xs, rfl, h2, h3⟩ := ty_slice h Try.underlying23 (by rw [hc, hg]; rfl)
 obtain ⟨ys, rfl, h4⟩ := list_open (g := fun y : List (Int) => [L.sl 1 false (y.map fun (z : Int) => L.v (.int .i64 z))]) (p := fun y => (∀ z ∈ y, (Lit.int .i64 z).wf = true) ∧ y.length * 8 ≤ 140737488351232) h2 (fun x hx => op24 hx)
 rw [hb] at h3
 refine ⟨ys, ?_, h4, by simpa using h3⟩
 rw [hc, hg]
 simp [mkL]
theorem op26 {n : Nat} {ls : List L} (h : Ty Try.prog n 26 ls) : ∃ y : (List (List (T))) × (List (List (Int))) × (List (Int)) × (List (List (Int))), ls = [L.sl 1 false (y.1.map fun (z : List (T)) => L.sl 4 false (z.map fun (z : T) => z.toL)), L.sl 1 false (y.2.1.map fun (z : List (Int)) => L.sl 1 false (z.map fun (z : Int) => L.v (.int .i64 z))), L.sl 1 false (y.2.2.1.map fun (z : Int) => L.v (.int .i64 z)), L.sl 1 false (y.2.2.2.map fun (z : List (Int)) => L.sl 1 false (z.map fun (z : Int) => L.v (.int .i64 z)))] ∧ ((∀ z ∈ y.1, (∀ zz ∈ z, T.Ok zz) ∧ z.length * 48 ≤ 140737488351232) ∧ y.1.length * 24 ≤ 140737488351232) ∧ ((∀ z ∈ y.2.1, (∀ zz ∈ z, (Lit.int .i64 zz).wf = true) ∧ z.length * 8 ≤ 140737488351232) ∧ y.2.1.length * 24 ≤ 140737488351232) ∧ ((∀ z ∈ y.2.2.1, (Lit.int .i64 z).wf = true) ∧ y.2.2.1.length * 8 ≤ 140737488351232) ∧ ((∀ z ∈ y.2.2.2, (∀ zz ∈ z, (Lit.int .i64 zz).wf = true) ∧ z.length * 8 ≤ 140737488351232) ∧ y.2.2.2.length * 24 ≤ 140737488351232) := by
 obtain ⟨m, hall⟩ := ty_struct h Try.underlying26 (by kernel_rfl) (ts := [22, 23, 24, 23]) rfl
 obtain ⟨x0, y0, rfl, e0, hall⟩ := tyAll_cons hall
 obtain ⟨x1, y1, rfl, e1, hall⟩ := tyAll_cons hall
 obtain ⟨x2, y2, rfl, e2, hall⟩ := tyAll_cons hall
 obtain ⟨x3, y3, rfl, e3, hall⟩ := tyAll_cons hall
 obtain rfl : y3 = [] := hall
 obtain ⟨z0, rfl, h0⟩ := op22 e0
 obtain ⟨z1, rfl, h1⟩ := op23 e1
 obtain ⟨z2, rfl, h2⟩ := op24 e2
 obtain ⟨z3, rfl, h3⟩ := op23 e3
 exact ⟨(z0, z1, z2, z3), rfl, h0, h1, h2, h3⟩
theorem op28 {n : Nat} {ls : List L} (h : Ty Try.prog n 28 ls) : ∃ y : (List (List (Int))) × (Int), ls = [L.sl 1 false (y.1.map fun (z : List (Int)) => L.sl 1 false (z.map fun (z : Int) => L.v (.int .i64 z))), L.v (.int .i64 y.2)] ∧ ((∀ z ∈ y.1, (∀ zz ∈ z, (Lit.int .i64 zz).wf = true) ∧ z.length * 8 ≤ 140737488351232) ∧ y.1.length * 24 ≤ 140737488351232) ∧ ((Lit.int .i64 y.2).wf = true) := by
 obtain ⟨m, hall⟩ := ty_struct h Try.underlying28 (by kernel_rfl) (ts := [23, 3]) rfl
 obtain ⟨x0, y0, rfl, e0, hall⟩ := tyAll_cons hall
 obtain ⟨x1, y1, rfl, e1, hall⟩ := tyAll_cons hall
 obtain rfl : y1 = [] := hall
 obtain ⟨z0, rfl, h0⟩ := op23 e0
 obtain ⟨z1, rfl, h1⟩ := ty_int e1 Try.underlying3
 exact ⟨(z0, z1), rfl, h0, h1⟩
theorem op38 {n : Nat} {ls : List L} (h : Ty Try.prog n 38 ls) : ∃ y : T, ls = [L.v (.int .i64 y.op), L.v (.int .i64 y.num), L.v (.int .i64 y.pl), L.sl 4 false (y.l.map T.toL)] ∧ T.Ok y := by
 obtain ⟨y, rfl, hy⟩ := open_expr (P := Try.prog) (tE := 38) (tL := 36) (tI := 3) Try.underlying38 (by kernel_rfl) rfl Try.underlying3 Try.underlying36 (by kernel_rfl) (by kernel_rfl) (by kernel_rfl) n ls h
 refine ⟨y, ?_, hy⟩
 cases y
 simp [T.toL, L.cells, T.op, T.num, T.pl, T.l, toLs_map]
theorem op47 {n : Nat} {ls : List L} (h : Ty Try.prog n 47 ls) : ∃ y : ((List (List (T))) × (List (List (Int))) × (List (Int)) × (List (List (Int)))) × ((List (List (Int))) × (Int)) × (Int) × (Int) × (T), ls = [L.sl 1 false (y.1.1.map fun (z : List (T)) => L.sl 4 false (z.map fun (z : T) => z.toL)), L.sl 1 false (y.1.2.1.map fun (z : List (Int)) => L.sl 1 false (z.map fun (z : Int) => L.v (.int .i64 z))), L.sl 1 false (y.1.2.2.1.map fun (z : Int) => L.v (.int .i64 z)), L.sl 1 false (y.1.2.2.2.map fun (z : List (Int)) => L.sl 1 false (z.map fun (z : Int) => L.v (.int .i64 z))), L.sl 1 false (y.2.1.1.map fun (z : List (Int)) => L.sl 1 false (z.map fun (z : Int) => L.v (.int .i64 z))), L.v (.int .i64 y.2.1.2), L.v (.int .u8 y.2.2.1), L.v (.int .u8 y.2.2.2.1), L.v (.int .i64 y.2.2.2.2.op), L.v (.int .i64 y.2.2.2.2.num), L.v (.int .i64 y.2.2.2.2.pl), L.sl 4 false (y.2.2.2.2.l.map T.toL)] ∧ (((∀ z ∈ y.1.1, (∀ zz ∈ z, T.Ok zz) ∧ z.length * 48 ≤ 140737488351232) ∧ y.1.1.length * 24 ≤ 140737488351232) ∧ ((∀ z ∈ y.1.2.1, (∀ zz ∈ z, (Lit.int .i64 zz).wf = true) ∧ z.length * 8 ≤ 140737488351232) ∧ y.1.2.1.length * 24 ≤ 140737488351232) ∧ ((∀ z ∈ y.1.2.2.1, (Lit.int .i64 z).wf = true) ∧ y.1.2.2.1.length * 8 ≤ 140737488351232) ∧ ((∀ z ∈ y.1.2.2.2, (∀ zz ∈ z, (Lit.int .i64 zz).wf = true) ∧ z.length * 8 ≤ 140737488351232) ∧ y.1.2.2.2.length * 24 ≤ 140737488351232)) ∧ (((∀ z ∈ y.2.1.1, (∀ zz ∈ z, (Lit.int .i64 zz).wf = true) ∧ z.length * 8 ≤ 140737488351232) ∧ y.2.1.1.length * 24 ≤ 140737488351232) ∧ ((Lit.int .i64 y.2.1.2).wf = true)) ∧ ((Lit.int .u8 y.2.2.1).wf = true) ∧ ((Lit.int .u8 y.2.2.2.1).wf = true) ∧ (T.Ok y.2.2.2.2) := by
 obtain ⟨m, hall⟩ := ty_struct h Try.underlying47 (by kernel_rfl) (ts := [26, 28, 5, 5, 38]) rfl
 obtain ⟨x0, y0, rfl, e0, hall⟩ := tyAll_cons hall
 obtain ⟨x1, y1, rfl, e1, hall⟩ := tyAll_cons hall
 obtain ⟨x2, y2, rfl, e2, hall⟩ := tyAll_cons hall
 obtain ⟨x3, y3, rfl, e3, hall⟩ := tyAll_cons hall
 obtain ⟨x4, y4, rfl, e4, hall⟩ := tyAll_cons hall
 obtain rfl : y4 = [] := hall
 obtain ⟨z0, rfl, h0⟩ := op26 e0
 obtain ⟨z1, rfl, h1⟩ := op28 e1
 obtain ⟨z2, rfl, h2⟩ := ty_int e2 Try.underlying5
 obtain ⟨z3, rfl, h3⟩ := ty_int e3 Try.underlying5
 obtain ⟨z4, rfl, h4⟩ := op38 e4
 exact ⟨(z0, z1, z2, z3, z4), rfl, h0, h1, h2, h3, h4⟩
end Go.Proofs.Ytjoffkghcjfbeaa

