/- What the arguments read as. -/
import Derived.Test.YtejjmfladieipaaLgV
import Derived.Test.YtejjmfladieipaaChecked
namespace Go.Proofs.Ytejjmfladieipaa
open Go Lg

theorem op28 {n : Nat} {ls : List L} (h : Ty Try.prog n 28 ls) : ∃ y : List (Int), ls = [L.sl 1 false (y.map fun (z : Int) => L.v (.int .u8 z))] ∧ (∀ z ∈ y, (Lit.int .u8 z).wf = true) ∧ y.length * 1 ≤ 140737488351232 := by
  have hc : Try.prog.cellsOf 5 = 1 := by kernel_rfl
  have hb : Try.prog.bytesOf 5 = 1 := by kernel_rfl
  have hg : isAggB Try.prog 5 = false := by kernel_rfl
  obtain ⟨m, xs, rfl, h2, h3⟩ := ty_slice h Try.underlying28 (by rw [hc, hg]; rfl)
  obtain ⟨ys, rfl, h4⟩ := list_open (g := fun y : Int => [L.v (.int .u8 y)]) (p := fun y => (Lit.int .u8 y).wf = true) h2 (fun x hx => ty_int hx Try.underlying5)
  rw [hb] at h3
  refine ⟨ys, ?_, h4, by simpa using h3⟩
  rw [hc, hg]
  simp [mkL]

theorem op42 {n : Nat} {ls : List L} (h : Ty Try.prog n 42 ls) : ∃ y : (Int) × (List (Int)) × (Int), ls = [L.v (.int .u8 y.1), L.sl 1 false (y.2.1.map fun (z : Int) => L.v (.int .u8 z)), L.v (.int .i64 y.2.2)] ∧ ((Lit.int .u8 y.1).wf = true) ∧ ((∀ z ∈ y.2.1, (Lit.int .u8 z).wf = true) ∧ y.2.1.length * 1 ≤ 140737488351232) ∧ ((Lit.int .i64 y.2.2).wf = true) := by
  obtain ⟨m, hall⟩ := ty_struct h Try.underlying42 (by kernel_rfl) (ts := [5, 28, 3]) rfl
  obtain ⟨x0, y0, rfl, e0, hall⟩ := tyAll_cons hall
  obtain ⟨x1, y1, rfl, e1, hall⟩ := tyAll_cons hall
  obtain ⟨x2, y2, rfl, e2, hall⟩ := tyAll_cons hall
  obtain rfl : y2 = [] := hall
  obtain ⟨z0, rfl, h0⟩ := ty_int e0 Try.underlying5
  obtain ⟨z1, rfl, h1⟩ := op28 e1
  obtain ⟨z2, rfl, h2⟩ := ty_int e2 Try.underlying3
  exact ⟨(z0, z1, z2), rfl, h0, h1, h2⟩

theorem op23 {n : Nat} {ls : List L} (h : Ty Try.prog n 23 ls) : ∃ y : List ((Int) × (List (Int)) × (Int)), ls = [L.sl 3 false (y.map fun (z : (Int) × (List (Int)) × (Int)) => .agg [L.v (.int .u8 z.1), L.sl 1 false (z.2.1.map fun (z : Int) => L.v (.int .u8 z)), L.v (.int .i64 z.2.2)])] ∧ (∀ z ∈ y, ((Lit.int .u8 z.1).wf = true) ∧ ((∀ zz ∈ z.2.1, (Lit.int .u8 zz).wf = true) ∧ z.2.1.length * 1 ≤ 140737488351232) ∧ ((Lit.int .i64 z.2.2).wf = true)) ∧ y.length * 40 ≤ 140737488351232 := by
  have hc : Try.prog.cellsOf 42 = 3 := by kernel_rfl
  have hb : Try.prog.bytesOf 42 = 40 := by kernel_rfl
  have hg : isAggB Try.prog 42 = true := by kernel_rfl
  obtain ⟨m, xs, rfl, h2, h3⟩ := ty_slice h Try.underlying23 (by rw [hc, hg]; rfl)
  obtain ⟨ys, rfl, h4⟩ := list_open (g := fun y : (Int) × (List (Int)) × (Int) => [L.v (.int .u8 y.1), L.sl 1 false (y.2.1.map fun (z : Int) => L.v (.int .u8 z)), L.v (.int .i64 y.2.2)]) (p := fun y => ((Lit.int .u8 y.1).wf = true) ∧ ((∀ z ∈ y.2.1, (Lit.int .u8 z).wf = true) ∧ y.2.1.length * 1 ≤ 140737488351232) ∧ ((Lit.int .i64 y.2.2).wf = true)) h2 (fun x hx => op42 hx)
  rw [hb] at h3
  refine ⟨ys, ?_, h4, by simpa using h3⟩
  rw [hc, hg]
  simp [mkL]

theorem op25 {n : Nat} {ls : List L} (h : Ty Try.prog n 25 ls) : ∃ y : (Int) × (Int) × (Int) × (List ((Int) × (List (Int)) × (Int))), ls = [L.v (.int .i64 y.1), L.v (.int .i64 y.2.1), L.v (.int .u64 y.2.2.1), L.sl 3 false (y.2.2.2.map fun (z : (Int) × (List (Int)) × (Int)) => .agg [L.v (.int .u8 z.1), L.sl 1 false (z.2.1.map fun (z : Int) => L.v (.int .u8 z)), L.v (.int .i64 z.2.2)])] ∧ ((Lit.int .i64 y.1).wf = true) ∧ ((Lit.int .i64 y.2.1).wf = true) ∧ ((Lit.int .u64 y.2.2.1).wf = true) ∧ ((∀ z ∈ y.2.2.2, ((Lit.int .u8 z.1).wf = true) ∧ ((∀ zz ∈ z.2.1, (Lit.int .u8 zz).wf = true) ∧ z.2.1.length * 1 ≤ 140737488351232) ∧ ((Lit.int .i64 z.2.2).wf = true)) ∧ y.2.2.2.length * 40 ≤ 140737488351232) := by
  obtain ⟨m, hall⟩ := ty_struct h Try.underlying25 (by kernel_rfl) (ts := [3, 3, 22, 23]) rfl
  obtain ⟨x0, y0, rfl, e0, hall⟩ := tyAll_cons hall
  obtain ⟨x1, y1, rfl, e1, hall⟩ := tyAll_cons hall
  obtain ⟨x2, y2, rfl, e2, hall⟩ := tyAll_cons hall
  obtain ⟨x3, y3, rfl, e3, hall⟩ := tyAll_cons hall
  obtain rfl : y3 = [] := hall
  obtain ⟨z0, rfl, h0⟩ := ty_int e0 Try.underlying3
  obtain ⟨z1, rfl, h1⟩ := ty_int e1 Try.underlying3
  obtain ⟨z2, rfl, h2⟩ := ty_int e2 Try.underlying22
  obtain ⟨z3, rfl, h3⟩ := op23 e3
  exact ⟨(z0, z1, z2, z3), rfl, h0, h1, h2, h3⟩

theorem op59 {n : Nat} {ls : List L} (h : Ty Try.prog n 59 ls) : ∃ y : (Int) × (Int) × (Int) × (List ((Int) × (List (Int)) × (Int))), ls = [L.v (.int .u16 y.1), L.v (.int .u8 y.2.1), L.v (.int .u64 y.2.2.1), L.sl 3 false (y.2.2.2.map fun (z : (Int) × (List (Int)) × (Int)) => .agg [L.v (.int .u8 z.1), L.sl 1 false (z.2.1.map fun (z : Int) => L.v (.int .u8 z)), L.v (.int .i64 z.2.2)])] ∧ ((Lit.int .u16 y.1).wf = true) ∧ ((Lit.int .u8 y.2.1).wf = true) ∧ ((Lit.int .u64 y.2.2.1).wf = true) ∧ ((∀ z ∈ y.2.2.2, ((Lit.int .u8 z.1).wf = true) ∧ ((∀ zz ∈ z.2.1, (Lit.int .u8 zz).wf = true) ∧ z.2.1.length * 1 ≤ 140737488351232) ∧ ((Lit.int .i64 z.2.2).wf = true)) ∧ y.2.2.2.length * 40 ≤ 140737488351232) := by
  obtain ⟨m, hall⟩ := ty_struct h Try.underlying59 (by kernel_rfl) (ts := [57, 5, 22, 23]) rfl
  obtain ⟨x0, y0, rfl, e0, hall⟩ := tyAll_cons hall
  obtain ⟨x1, y1, rfl, e1, hall⟩ := tyAll_cons hall
  obtain ⟨x2, y2, rfl, e2, hall⟩ := tyAll_cons hall
  obtain ⟨x3, y3, rfl, e3, hall⟩ := tyAll_cons hall
  obtain rfl : y3 = [] := hall
  obtain ⟨z0, rfl, h0⟩ := ty_int e0 Try.underlying57
  obtain ⟨z1, rfl, h1⟩ := ty_int e1 Try.underlying5
  obtain ⟨z2, rfl, h2⟩ := ty_int e2 Try.underlying22
  obtain ⟨z3, rfl, h3⟩ := op23 e3
  exact ⟨(z0, z1, z2, z3), rfl, h0, h1, h2, h3⟩

theorem op62 {n : Nat} {ls : List L} (h : Ty Try.prog n 62 ls) : ∃ y : (Int) × (Int) × (Int) × (List (Int)) × (List (Int)) × (List (Int)), ls = [L.v (.int .u16 y.1), L.v (.int .u8 y.2.1), L.v (.int .u64 y.2.2.1), L.sl 1 false (y.2.2.2.1.map fun (z : Int) => L.v (.int .u8 z)), L.sl 1 false (y.2.2.2.2.1.map fun (z : Int) => L.v (.int .u8 z)), L.sl 1 false (y.2.2.2.2.2.map fun (z : Int) => L.v (.int .u8 z))] ∧ ((Lit.int .u16 y.1).wf = true) ∧ ((Lit.int .u8 y.2.1).wf = true) ∧ ((Lit.int .u64 y.2.2.1).wf = true) ∧ ((∀ z ∈ y.2.2.2.1, (Lit.int .u8 z).wf = true) ∧ y.2.2.2.1.length * 1 ≤ 140737488351232) ∧ ((∀ z ∈ y.2.2.2.2.1, (Lit.int .u8 z).wf = true) ∧ y.2.2.2.2.1.length * 1 ≤ 140737488351232) ∧ ((∀ z ∈ y.2.2.2.2.2, (Lit.int .u8 z).wf = true) ∧ y.2.2.2.2.2.length * 1 ≤ 140737488351232) := by
  obtain ⟨m, hall⟩ := ty_struct h Try.underlying62 (by kernel_rfl) (ts := [57, 5, 22, 28, 28, 28]) rfl
  obtain ⟨x0, y0, rfl, e0, hall⟩ := tyAll_cons hall
  obtain ⟨x1, y1, rfl, e1, hall⟩ := tyAll_cons hall
  obtain ⟨x2, y2, rfl, e2, hall⟩ := tyAll_cons hall
  obtain ⟨x3, y3, rfl, e3, hall⟩ := tyAll_cons hall
  obtain ⟨x4, y4, rfl, e4, hall⟩ := tyAll_cons hall
  obtain ⟨x5, y5, rfl, e5, hall⟩ := tyAll_cons hall
  obtain rfl : y5 = [] := hall
  obtain ⟨z0, rfl, h0⟩ := ty_int e0 Try.underlying57
  obtain ⟨z1, rfl, h1⟩ := ty_int e1 Try.underlying5
  obtain ⟨z2, rfl, h2⟩ := ty_int e2 Try.underlying22
  obtain ⟨z3, rfl, h3⟩ := op28 e3
  obtain ⟨z4, rfl, h4⟩ := op28 e4
  obtain ⟨z5, rfl, h5⟩ := op28 e5
  exact ⟨(z0, z1, z2, z3, z4, z5), rfl, h0, h1, h2, h3, h4, h5⟩

theorem op64 {n : Nat} {ls : List L} (h : Ty Try.prog n 64 ls) : ∃ y : List (List (Int)), ls = [L.sl 1 false (y.map fun (z : List (Int)) => L.sl 1 false (z.map fun (z : Int) => L.v (.int .u8 z)))] ∧ (∀ z ∈ y, (∀ zz ∈ z, (Lit.int .u8 zz).wf = true) ∧ z.length * 1 ≤ 140737488351232) ∧ y.length * 24 ≤ 140737488351232 := by
  have hc : Try.prog.cellsOf 28 = 1 := by kernel_rfl
  have hb : Try.prog.bytesOf 28 = 24 := by kernel_rfl
  have hg : isAggB Try.prog 28 = false := by kernel_rfl
  obtain ⟨m, xs, rfl, h2, h3⟩ := ty_slice h Try.underlying64 (by rw [hc, hg]; rfl)
  obtain ⟨ys, rfl, h4⟩ := list_open (g := fun y : List (Int) => [L.sl 1 false (y.map fun (z : Int) => L.v (.int .u8 z))]) (p := fun y => (∀ z ∈ y, (Lit.int .u8 z).wf = true) ∧ y.length * 1 ≤ 140737488351232) h2 (fun x hx => op28 hx)
  rw [hb] at h3
  refine ⟨ys, ?_, h4, by simpa using h3⟩
  rw [hc, hg]
  simp [mkL]

theorem op66 {n : Nat} {ls : List L} (h : Ty Try.prog n 66 ls) : ∃ y : (Int) × (Int) × (Int) × (List (List (Int))) × (List (Int)), ls = [L.v (.int .u8 y.1), L.v (.int .u8 y.2.1), L.v (.int .u64 y.2.2.1), L.sl 1 false (y.2.2.2.1.map fun (z : List (Int)) => L.sl 1 false (z.map fun (z : Int) => L.v (.int .u8 z))), L.sl 1 false (y.2.2.2.2.map fun (z : Int) => L.v (.int .u8 z))] ∧ ((Lit.int .u8 y.1).wf = true) ∧ ((Lit.int .u8 y.2.1).wf = true) ∧ ((Lit.int .u64 y.2.2.1).wf = true) ∧ ((∀ z ∈ y.2.2.2.1, (∀ zz ∈ z, (Lit.int .u8 zz).wf = true) ∧ z.length * 1 ≤ 140737488351232) ∧ y.2.2.2.1.length * 24 ≤ 140737488351232) ∧ ((∀ z ∈ y.2.2.2.2, (Lit.int .u8 z).wf = true) ∧ y.2.2.2.2.length * 1 ≤ 140737488351232) := by
  obtain ⟨m, hall⟩ := ty_struct h Try.underlying66 (by kernel_rfl) (ts := [5, 5, 22, 64, 28]) rfl
  obtain ⟨x0, y0, rfl, e0, hall⟩ := tyAll_cons hall
  obtain ⟨x1, y1, rfl, e1, hall⟩ := tyAll_cons hall
  obtain ⟨x2, y2, rfl, e2, hall⟩ := tyAll_cons hall
  obtain ⟨x3, y3, rfl, e3, hall⟩ := tyAll_cons hall
  obtain ⟨x4, y4, rfl, e4, hall⟩ := tyAll_cons hall
  obtain rfl : y4 = [] := hall
  obtain ⟨z0, rfl, h0⟩ := ty_int e0 Try.underlying5
  obtain ⟨z1, rfl, h1⟩ := ty_int e1 Try.underlying5
  obtain ⟨z2, rfl, h2⟩ := ty_int e2 Try.underlying22
  obtain ⟨z3, rfl, h3⟩ := op64 e3
  obtain ⟨z4, rfl, h4⟩ := op28 e4
  exact ⟨(z0, z1, z2, z3, z4), rfl, h0, h1, h2, h3, h4⟩

end Go.Proofs.Ytejjmfladieipaa
