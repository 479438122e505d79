/- What the arguments read as. -/
import Derived.Test.YtagaakajpblmjaaLgNX
import Derived.Test.YtagaakajpblmjaaLibExpr
import Derived.Test.YtagaakajpblmjaaChecked
namespace Go.Proofs.Ytagaakajpblmjaa
open Go Lg
theorem op65 {n : Nat} {ls : List L} (h : Ty Try.prog n 65 ls) : ∃ y : (Int) × (Int), ls = [L.v (.int .i64 y.1), L.v (.int .i64 y.2)] ∧ ((Lit.int .i64 y.1).wf = true) ∧ ((Lit.int .i64 y.2).wf = true) := by
  obtain ⟨m, hall⟩ := ty_struct h Try.underlying65 (by kernel_rfl) (ts := [3, 3]) rfl
  obtain ⟨x0, y0, rfl, e0, hall⟩ := tyAll_cons hall
  obtain ⟨x1, y1, rfl, e1, hall⟩ := tyAll_cons hall
  obtain rfl : y1 = [] := hall
  obtain ⟨z0, rfl, h0⟩ := ty_int e0 Try.underlying3
  obtain ⟨z1, rfl, h1⟩ := ty_int e1 Try.underlying3
  exact ⟨(z0, z1), rfl, h0, h1⟩
theorem op22 {n : Nat} {ls : List L} (h : Ty Try.prog n 22 ls) : ∃ y : List ((Int) × (Int)), ls = [L.sl 2 false (y.map fun (z : (Int) × (Int)) => .agg [L.v (.int .i64 z.1), L.v (.int .i64 z.2)])] ∧ (∀ z ∈ y, ((Lit.int .i64 z.1).wf = true) ∧ ((Lit.int .i64 z.2).wf = true)) ∧ y.length * 16 ≤ 140737488351232 := by
  have hc : Try.prog.cellsOf 65 = 2 := by kernel_rfl
  have hb : Try.prog.bytesOf 65 = 16 := by kernel_rfl
  have hg : isAggB Try.prog 65 = true := by kernel_rfl
  obtain ⟨m, xs, rfl, h2, h3⟩ := ty_slice h Try.underlying22 (by rw [hc, hg]; rfl)
  obtain ⟨ys, rfl, h4⟩ := list_open (g := fun y : (Int) × (Int) => [L.v (.int .i64 y.1), L.v (.int .i64 y.2)]) (p := fun y => ((Lit.int .i64 y.1).wf = true) ∧ ((Lit.int .i64 y.2).wf = true)) h2 (fun x hx => op65 hx)
  rw [hb] at h3
  refine ⟨ys, ?_, h4, by simpa using h3⟩
  rw [hc, hg]
  simp [mkL]
theorem op40 {n : Nat} {ls : List L} (h : Ty Try.prog n 40 ls) : ∃ y : List (Int), ls = [L.sl 1 false (y.map fun (z : Int) => L.v (.int .i64 z))] ∧ (∀ z ∈ y, (Lit.int .i64 z).wf = true) ∧ y.length * 8 ≤ 140737488351232 := by
  have hc : Try.prog.cellsOf 3 = 1 := by kernel_rfl
  have hb : Try.prog.bytesOf 3 = 8 := by kernel_rfl
  have hg : isAggB Try.prog 3 = false := by kernel_rfl
  obtain ⟨m, xs, rfl, h2, h3⟩ := ty_slice h Try.underlying40 (by rw [hc, hg]; rfl)
  obtain ⟨ys, rfl, h4⟩ := list_open (g := fun y : Int => [L.v (.int .i64 y)]) (p := fun y => (Lit.int .i64 y).wf = true) h2 (fun x hx => ty_int hx Try.underlying3)
  rw [hb] at h3
  refine ⟨ys, ?_, h4, by simpa using h3⟩
  rw [hc, hg]
  simp [mkL]
theorem op42 {n : Nat} {ls : List L} (h : Ty Try.prog n 42 ls) : ∃ y : (Int) × (List (Int)) × (Int), ls = [L.v (.int .u8 y.1), L.sl 1 false (y.2.1.map fun (z : Int) => L.v (.int .i64 z)), L.v (.int .i64 y.2.2)] ∧ ((Lit.int .u8 y.1).wf = true) ∧ ((∀ z ∈ y.2.1, (Lit.int .i64 z).wf = true) ∧ y.2.1.length * 8 ≤ 140737488351232) ∧ ((Lit.int .i64 y.2.2).wf = true) := by
  obtain ⟨m, hall⟩ := ty_struct h Try.underlying42 (by kernel_rfl) (ts := [5, 40, 3]) rfl
  obtain ⟨x0, y0, rfl, e0, hall⟩ := tyAll_cons hall
  obtain ⟨x1, y1, rfl, e1, hall⟩ := tyAll_cons hall
  obtain ⟨x2, y2, rfl, e2, hall⟩ := tyAll_cons hall
  obtain rfl : y2 = [] := hall
  obtain ⟨z0, rfl, h0⟩ := ty_int e0 Try.underlying5
  obtain ⟨z1, rfl, h1⟩ := op40 e1
  obtain ⟨z2, rfl, h2⟩ := ty_int e2 Try.underlying3
  exact ⟨(z0, z1, z2), rfl, h0, h1, h2⟩
theorem op23 {n : Nat} {ls : List L} (h : Ty Try.prog n 23 ls) : ∃ y : List ((Int) × (List (Int)) × (Int)), ls = [L.sl 3 false (y.map fun (z : (Int) × (List (Int)) × (Int)) => .agg [L.v (.int .u8 z.1), L.sl 1 false (z.2.1.map fun (z : Int) => L.v (.int .i64 z)), L.v (.int .i64 z.2.2)])] ∧ (∀ z ∈ y, ((Lit.int .u8 z.1).wf = true) ∧ ((∀ zz ∈ z.2.1, (Lit.int .i64 zz).wf = true) ∧ z.2.1.length * 8 ≤ 140737488351232) ∧ ((Lit.int .i64 z.2.2).wf = true)) ∧ y.length * 40 ≤ 140737488351232 := by
  have hc : Try.prog.cellsOf 42 = 3 := by kernel_rfl
  have hb : Try.prog.bytesOf 42 = 40 := by kernel_rfl
  have hg : isAggB Try.prog 42 = true := by kernel_rfl
  obtain ⟨m, xs, rfl, h2, h3⟩ := ty_slice h Try.underlying23 (by rw [hc, hg]; rfl)
  obtain ⟨ys, rfl, h4⟩ := list_open (g := fun y : (Int) × (List (Int)) × (Int) => [L.v (.int .u8 y.1), L.sl 1 false (y.2.1.map fun (z : Int) => L.v (.int .i64 z)), L.v (.int .i64 y.2.2)]) (p := fun y => ((Lit.int .u8 y.1).wf = true) ∧ ((∀ z ∈ y.2.1, (Lit.int .i64 z).wf = true) ∧ y.2.1.length * 8 ≤ 140737488351232) ∧ ((Lit.int .i64 y.2.2).wf = true)) h2 (fun x hx => op42 hx)
  rw [hb] at h3
  refine ⟨ys, ?_, h4, by simpa using h3⟩
  rw [hc, hg]
  simp [mkL]
theorem op34 {n : Nat} {ls : List L} (h : Ty Try.prog n 34 ls) : ∃ y : List (List (Int)), ls = [L.sl 1 false (y.map fun (z : List (Int)) => L.sl 1 false (z.map fun (z : Int) => L.v (.int .i64 z)))] ∧ (∀ z ∈ y, (∀ zz ∈ z, (Lit.int .i64 zz).wf = true) ∧ z.length * 8 ≤ 140737488351232) ∧ y.length * 24 ≤ 140737488351232 := by
  have hc : Try.prog.cellsOf 40 = 1 := by kernel_rfl
  have hb : Try.prog.bytesOf 40 = 24 := by kernel_rfl
  have hg : isAggB Try.prog 40 = false := by kernel_rfl
  obtain ⟨m, xs, rfl, h2, h3⟩ := ty_slice h Try.underlying34 (by rw [hc, hg]; rfl)
  obtain ⟨ys, rfl, h4⟩ := list_open (g := fun y : List (Int) => [L.sl 1 false (y.map fun (z : Int) => L.v (.int .i64 z))]) (p := fun y => (∀ z ∈ y, (Lit.int .i64 z).wf = true) ∧ y.length * 8 ≤ 140737488351232) h2 (fun x hx => op40 hx)
  rw [hb] at h3
  refine ⟨ys, ?_, h4, by simpa using h3⟩
  rw [hc, hg]
  simp [mkL]
theorem op62 {n : Nat} {ls : List L} (h : Ty Try.prog n 62 ls) : ∃ y : (List ((Int) × (Int))) × (List (List (Int))) × (List (Int)) × (Int), ls = [L.sl 2 false (y.1.map fun (z : (Int) × (Int)) => .agg [L.v (.int .i64 z.1), L.v (.int .i64 z.2)]), L.sl 1 false (y.2.1.map fun (z : List (Int)) => L.sl 1 false (z.map fun (z : Int) => L.v (.int .i64 z))), L.sl 1 false (y.2.2.1.map fun (z : Int) => L.v (.int .i64 z)), L.v (.int .u8 y.2.2.2)] ∧ ((∀ z ∈ y.1, ((Lit.int .i64 z.1).wf = true) ∧ ((Lit.int .i64 z.2).wf = true)) ∧ y.1.length * 16 ≤ 140737488351232) ∧ ((∀ z ∈ y.2.1, (∀ zz ∈ z, (Lit.int .i64 zz).wf = true) ∧ z.length * 8 ≤ 140737488351232) ∧ y.2.1.length * 24 ≤ 140737488351232) ∧ ((∀ z ∈ y.2.2.1, (Lit.int .i64 z).wf = true) ∧ y.2.2.1.length * 8 ≤ 140737488351232) ∧ ((Lit.int .u8 y.2.2.2).wf = true) := by
  obtain ⟨m, hall⟩ := ty_struct h Try.underlying62 (by kernel_rfl) (ts := [22, 34, 40, 5]) rfl
  obtain ⟨x0, y0, rfl, e0, hall⟩ := tyAll_cons hall
  obtain ⟨x1, y1, rfl, e1, hall⟩ := tyAll_cons hall
  obtain ⟨x2, y2, rfl, e2, hall⟩ := tyAll_cons hall
  obtain ⟨x3, y3, rfl, e3, hall⟩ := tyAll_cons hall
  obtain rfl : y3 = [] := hall
  obtain ⟨z0, rfl, h0⟩ := op22 e0
  obtain ⟨z1, rfl, h1⟩ := op34 e1
  obtain ⟨z2, rfl, h2⟩ := op40 e2
  obtain ⟨z3, rfl, h3⟩ := ty_int e3 Try.underlying5
  exact ⟨(z0, z1, z2, z3), rfl, h0, h1, h2, h3⟩
end Go.Proofs.Ytagaakajpblmjaa
