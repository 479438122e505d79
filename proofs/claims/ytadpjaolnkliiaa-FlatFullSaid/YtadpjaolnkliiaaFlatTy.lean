/- What the arguments read as. -/
import Derived.Test.YtadpjaolnkliiaaLgV
import Derived.Test.YtadpjaolnkliiaaChecked
namespace Go.Proofs.Ytadpjaolnkliiaa
open Go Lg

theorem op29 {n : Nat} {ls : List L} (h : Ty Try.prog n 29 ls) : ∃ y : List (Int), ls = [L.sl 1 false (y.map fun (z : Int) => L.v (.int .u8 z))] ∧ (∀ z ∈ y, (Lit.int .u8 z).wf = true) ∧ y.length * 1 ≤ 140737488351232 := by
  have hc : Try.prog.cellsOf 5 = 1 := by kernel_rfl
  have hb : Try.prog.bytesOf 5 = 1 := by kernel_rfl
  have hg : isAggB Try.prog 5 = false := by kernel_rfl
  obtain ⟨m, xs, rfl, h2, h3⟩ := ty_slice h Try.underlying29 (by rw [hc, hg]; rfl)
  obtain ⟨ys, rfl, h4⟩ := list_open (g := fun y : Int => [L.v (.int .u8 y)]) (p := fun y => (Lit.int .u8 y).wf = true) h2 (fun x hx => ty_int hx Try.underlying5)
  rw [hb] at h3
  refine ⟨ys, ?_, h4, by simpa using h3⟩
  rw [hc, hg]
  simp [mkL]

theorem op37 {n : Nat} {ls : List L} (h : Ty Try.prog n 37 ls) : ∃ y : (Int) × (List (Int)) × (Int), ls = [L.v (.int .u8 y.1), L.sl 1 false (y.2.1.map fun (z : Int) => L.v (.int .u8 z)), L.v (.int .i64 y.2.2)] ∧ ((Lit.int .u8 y.1).wf = true) ∧ ((∀ z ∈ y.2.1, (Lit.int .u8 z).wf = true) ∧ y.2.1.length * 1 ≤ 140737488351232) ∧ ((Lit.int .i64 y.2.2).wf = true) := by
  obtain ⟨m, hall⟩ := ty_struct h Try.underlying37 (by kernel_rfl) (ts := [5, 29, 3]) rfl
  obtain ⟨x0, y0, rfl, e0, hall⟩ := tyAll_cons hall
  obtain ⟨x1, y1, rfl, e1, hall⟩ := tyAll_cons hall
  obtain ⟨x2, y2, rfl, e2, hall⟩ := tyAll_cons hall
  obtain rfl : y2 = [] := hall
  obtain ⟨z0, rfl, h0⟩ := ty_int e0 Try.underlying5
  obtain ⟨z1, rfl, h1⟩ := op29 e1
  obtain ⟨z2, rfl, h2⟩ := ty_int e2 Try.underlying3
  exact ⟨(z0, z1, z2), rfl, h0, h1, h2⟩

theorem op22 {n : Nat} {ls : List L} (h : Ty Try.prog n 22 ls) : ∃ y : List ((Int) × (List (Int)) × (Int)), ls = [L.sl 3 false (y.map fun (z : (Int) × (List (Int)) × (Int)) => .agg [L.v (.int .u8 z.1), L.sl 1 false (z.2.1.map fun (z : Int) => L.v (.int .u8 z)), L.v (.int .i64 z.2.2)])] ∧ (∀ z ∈ y, ((Lit.int .u8 z.1).wf = true) ∧ ((∀ zz ∈ z.2.1, (Lit.int .u8 zz).wf = true) ∧ z.2.1.length * 1 ≤ 140737488351232) ∧ ((Lit.int .i64 z.2.2).wf = true)) ∧ y.length * 40 ≤ 140737488351232 := by
  have hc : Try.prog.cellsOf 37 = 3 := by kernel_rfl
  have hb : Try.prog.bytesOf 37 = 40 := by kernel_rfl
  have hg : isAggB Try.prog 37 = true := by kernel_rfl
  obtain ⟨m, xs, rfl, h2, h3⟩ := ty_slice h Try.underlying22 (by rw [hc, hg]; rfl)
  obtain ⟨ys, rfl, h4⟩ := list_open (g := fun y : (Int) × (List (Int)) × (Int) => [L.v (.int .u8 y.1), L.sl 1 false (y.2.1.map fun (z : Int) => L.v (.int .u8 z)), L.v (.int .i64 y.2.2)]) (p := fun y => ((Lit.int .u8 y.1).wf = true) ∧ ((∀ z ∈ y.2.1, (Lit.int .u8 z).wf = true) ∧ y.2.1.length * 1 ≤ 140737488351232) ∧ ((Lit.int .i64 y.2.2).wf = true)) h2 (fun x hx => op37 hx)
  rw [hb] at h3
  refine ⟨ys, ?_, h4, by simpa using h3⟩
  rw [hc, hg]
  simp [mkL]

end Go.Proofs.Ytadpjaolnkliiaa
