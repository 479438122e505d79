/- What the arguments read as. -/
import Derived.Test.YtaochjhkgffipaaLgNX
import Derived.Test.YtaochjhkgffipaaLibExpr
import Derived.Test.YtaochjhkgffipaaChecked
namespace Go.Proofs.Ytaochjhkgffipaa
open Go Lg

theorem op22 {n : Nat} {ls : List L} (h : Ty Try.prog n 22 ls) : ∃ y : List (Int), ls = [L.sl 1 false (y.map fun (z : Int) => L.v (.int .u8 z))] ∧ (∀ z ∈ y, (Lit.int .u8 z).wf = true) ∧ y.length * 1 ≤ 140737488351232 := by
  have hc : Try.prog.cellsOf 5 = 1 := by kernel_rfl
  have hb : Try.prog.bytesOf 5 = 1 := by kernel_rfl
  have hg : isAggB Try.prog 5 = false := by kernel_rfl
  obtain ⟨m, xs, rfl, h2, h3⟩ := ty_slice h Try.underlying22 (by rw [hc, hg]; rfl)
  obtain ⟨ys, rfl, h4⟩ := list_open (g := fun y : Int => [L.v (.int .u8 y)]) (p := fun y => (Lit.int .u8 y).wf = true) h2 (fun x hx => ty_int hx Try.underlying5)
  rw [hb] at h3
  refine ⟨ys, ?_, h4, by simpa using h3⟩
  rw [hc, hg]
  simp [mkL]

theorem op24 {n : Nat} {ls : List L} (h : Ty Try.prog n 24 ls) : ∃ y : (List (Int)) × (Int), ls = [L.sl 1 false (y.1.map fun (z : Int) => L.v (.int .u8 z)), L.v (.int .i64 y.2)] ∧ ((∀ z ∈ y.1, (Lit.int .u8 z).wf = true) ∧ y.1.length * 1 ≤ 140737488351232) ∧ ((Lit.int .i64 y.2).wf = true) := by
  obtain ⟨m, hall⟩ := ty_struct h Try.underlying24 (by kernel_rfl) (ts := [22, 3]) rfl
  obtain ⟨x0, y0, rfl, e0, hall⟩ := tyAll_cons hall
  obtain ⟨x1, y1, rfl, e1, hall⟩ := tyAll_cons hall
  obtain rfl : y1 = [] := hall
  obtain ⟨z0, rfl, h0⟩ := op22 e0
  obtain ⟨z1, rfl, h1⟩ := ty_int e1 Try.underlying3
  exact ⟨(z0, z1), rfl, h0, h1⟩

theorem op27 {n : Nat} {ls : List L} (h : Ty Try.prog n 27 ls) : ∃ y : ((List (Int)) × (Int)) × ((List (Int)) × (Int)) × (Int) × (Int) × (Int), ls = [L.sl 1 false (y.1.1.map fun (z : Int) => L.v (.int .u8 z)), L.v (.int .i64 y.1.2), L.sl 1 false (y.2.1.1.map fun (z : Int) => L.v (.int .u8 z)), L.v (.int .i64 y.2.1.2), L.v (.int .u64 y.2.2.1), L.v (.int .i64 y.2.2.2.1), L.v (.int .i64 y.2.2.2.2)] ∧ (((∀ z ∈ y.1.1, (Lit.int .u8 z).wf = true) ∧ y.1.1.length * 1 ≤ 140737488351232) ∧ ((Lit.int .i64 y.1.2).wf = true)) ∧ (((∀ z ∈ y.2.1.1, (Lit.int .u8 z).wf = true) ∧ y.2.1.1.length * 1 ≤ 140737488351232) ∧ ((Lit.int .i64 y.2.1.2).wf = true)) ∧ ((Lit.int .u64 y.2.2.1).wf = true) ∧ ((Lit.int .i64 y.2.2.2.1).wf = true) ∧ ((Lit.int .i64 y.2.2.2.2).wf = true) := by
  obtain ⟨m, hall⟩ := ty_struct h Try.underlying27 (by kernel_rfl) (ts := [24, 24, 25, 3, 3]) rfl
  obtain ⟨x0, y0, rfl, e0, hall⟩ := tyAll_cons hall
  obtain ⟨x1, y1, rfl, e1, hall⟩ := tyAll_cons hall
  obtain ⟨x2, y2, rfl, e2, hall⟩ := tyAll_cons hall
  obtain ⟨x3, y3, rfl, e3, hall⟩ := tyAll_cons hall
  obtain ⟨x4, y4, rfl, e4, hall⟩ := tyAll_cons hall
  obtain rfl : y4 = [] := hall
  obtain ⟨z0, rfl, h0⟩ := op24 e0
  obtain ⟨z1, rfl, h1⟩ := op24 e1
  obtain ⟨z2, rfl, h2⟩ := ty_int e2 Try.underlying25
  obtain ⟨z3, rfl, h3⟩ := ty_int e3 Try.underlying3
  obtain ⟨z4, rfl, h4⟩ := ty_int e4 Try.underlying3
  exact ⟨(z0, z1, z2, z3, z4), rfl, h0, h1, h2, h3, h4⟩

theorem op44 {n : Nat} {ls : List L} (h : Ty Try.prog n 44 ls) : ∃ y : ((List (Int)) × (Int)) × (Int) × (Int) × (Int) × (Int), ls = [L.sl 1 false (y.1.1.map fun (z : Int) => L.v (.int .u8 z)), L.v (.int .i64 y.1.2), L.v (.int .u64 y.2.1), L.v (.int .i64 y.2.2.1), L.v (.int .u64 y.2.2.2.1), L.v (.int .u8 y.2.2.2.2)] ∧ (((∀ z ∈ y.1.1, (Lit.int .u8 z).wf = true) ∧ y.1.1.length * 1 ≤ 140737488351232) ∧ ((Lit.int .i64 y.1.2).wf = true)) ∧ ((Lit.int .u64 y.2.1).wf = true) ∧ ((Lit.int .i64 y.2.2.1).wf = true) ∧ ((Lit.int .u64 y.2.2.2.1).wf = true) ∧ ((Lit.int .u8 y.2.2.2.2).wf = true) := by
  obtain ⟨m, hall⟩ := ty_struct h Try.underlying44 (by kernel_rfl) (ts := [24, 25, 3, 25, 5]) rfl
  obtain ⟨x0, y0, rfl, e0, hall⟩ := tyAll_cons hall
  obtain ⟨x1, y1, rfl, e1, hall⟩ := tyAll_cons hall
  obtain ⟨x2, y2, rfl, e2, hall⟩ := tyAll_cons hall
  obtain ⟨x3, y3, rfl, e3, hall⟩ := tyAll_cons hall
  obtain ⟨x4, y4, rfl, e4, hall⟩ := tyAll_cons hall
  obtain rfl : y4 = [] := hall
  obtain ⟨z0, rfl, h0⟩ := op24 e0
  obtain ⟨z1, rfl, h1⟩ := ty_int e1 Try.underlying25
  obtain ⟨z2, rfl, h2⟩ := ty_int e2 Try.underlying3
  obtain ⟨z3, rfl, h3⟩ := ty_int e3 Try.underlying25
  obtain ⟨z4, rfl, h4⟩ := ty_int e4 Try.underlying5
  exact ⟨(z0, z1, z2, z3, z4), rfl, h0, h1, h2, h3, h4⟩

theorem op47 {n : Nat} {ls : List L} (h : Ty Try.prog n 47 ls) : ∃ y : ((List (Int)) × (Int)) × ((List (Int)) × (Int)) × ((List (Int)) × (Int)) × (Int) × (Int), ls = [L.sl 1 false (y.1.1.map fun (z : Int) => L.v (.int .u8 z)), L.v (.int .i64 y.1.2), L.sl 1 false (y.2.1.1.map fun (z : Int) => L.v (.int .u8 z)), L.v (.int .i64 y.2.1.2), L.sl 1 false (y.2.2.1.1.map fun (z : Int) => L.v (.int .u8 z)), L.v (.int .i64 y.2.2.1.2), L.v (.int .i64 y.2.2.2.1), L.v (.int .u8 y.2.2.2.2)] ∧ (((∀ z ∈ y.1.1, (Lit.int .u8 z).wf = true) ∧ y.1.1.length * 1 ≤ 140737488351232) ∧ ((Lit.int .i64 y.1.2).wf = true)) ∧ (((∀ z ∈ y.2.1.1, (Lit.int .u8 z).wf = true) ∧ y.2.1.1.length * 1 ≤ 140737488351232) ∧ ((Lit.int .i64 y.2.1.2).wf = true)) ∧ (((∀ z ∈ y.2.2.1.1, (Lit.int .u8 z).wf = true) ∧ y.2.2.1.1.length * 1 ≤ 140737488351232) ∧ ((Lit.int .i64 y.2.2.1.2).wf = true)) ∧ ((Lit.int .i64 y.2.2.2.1).wf = true) ∧ ((Lit.int .u8 y.2.2.2.2).wf = true) := by
  obtain ⟨m, hall⟩ := ty_struct h Try.underlying47 (by kernel_rfl) (ts := [24, 24, 24, 3, 5]) rfl
  obtain ⟨x0, y0, rfl, e0, hall⟩ := tyAll_cons hall
  obtain ⟨x1, y1, rfl, e1, hall⟩ := tyAll_cons hall
  obtain ⟨x2, y2, rfl, e2, hall⟩ := tyAll_cons hall
  obtain ⟨x3, y3, rfl, e3, hall⟩ := tyAll_cons hall
  obtain ⟨x4, y4, rfl, e4, hall⟩ := tyAll_cons hall
  obtain rfl : y4 = [] := hall
  obtain ⟨z0, rfl, h0⟩ := op24 e0
  obtain ⟨z1, rfl, h1⟩ := op24 e1
  obtain ⟨z2, rfl, h2⟩ := op24 e2
  obtain ⟨z3, rfl, h3⟩ := ty_int e3 Try.underlying3
  obtain ⟨z4, rfl, h4⟩ := ty_int e4 Try.underlying5
  exact ⟨(z0, z1, z2, z3, z4), rfl, h0, h1, h2, h3, h4⟩

theorem op52 {n : Nat} {ls : List L} (h : Ty Try.prog n 52 ls) : ∃ y : List (Int), ls = [L.sl 1 false (y.map fun (z : Int) => L.v (.int .u64 z))] ∧ (∀ z ∈ y, (Lit.int .u64 z).wf = true) ∧ y.length * 8 ≤ 140737488351232 := by
  have hc : Try.prog.cellsOf 25 = 1 := by kernel_rfl
  have hb : Try.prog.bytesOf 25 = 8 := by kernel_rfl
  have hg : isAggB Try.prog 25 = false := by kernel_rfl
  obtain ⟨m, xs, rfl, h2, h3⟩ := ty_slice h Try.underlying52 (by rw [hc, hg]; rfl)
  obtain ⟨ys, rfl, h4⟩ := list_open (g := fun y : Int => [L.v (.int .u64 y)]) (p := fun y => (Lit.int .u64 y).wf = true) h2 (fun x hx => ty_int hx Try.underlying25)
  rw [hb] at h3
  refine ⟨ys, ?_, h4, by simpa using h3⟩
  rw [hc, hg]
  simp [mkL]

end Go.Proofs.Ytaochjhkgffipaa
