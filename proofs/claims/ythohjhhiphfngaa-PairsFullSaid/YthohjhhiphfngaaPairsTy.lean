/- What the arguments read as. -/
import Derived.Test.YthohjhhiphfngaaLgW
import Derived.Test.YthohjhhiphfngaaChecked
namespace Go.Proofs.Ythohjhhiphfngaa
open Go Lg

theorem op36 {n : Nat} {ls : List L} (h : Ty Try.prog n 36 ls) : ∃ y : (Int) × (Int), ls = [L.v (.int .u32 y.1), L.v (.int .u32 y.2)] ∧ ((Lit.int .u32 y.1).wf = true) ∧ ((Lit.int .u32 y.2).wf = true) := by
  obtain ⟨m, hall⟩ := ty_array h Try.underlying36 (by kernel_rfl) (by kernel_rfl : Try.prog.cellsOf 35 = 1)
  obtain ⟨x0, y0, rfl, e0, hall⟩ := hall
  obtain ⟨x1, y1, rfl, e1, hall⟩ := hall
  obtain rfl : y1 = [] := hall
  obtain ⟨z0, rfl, h0⟩ := ty_int e0 Try.underlying35
  obtain ⟨z1, rfl, h1⟩ := ty_int e1 Try.underlying35
  exact ⟨(z0, z1), rfl, h0, h1⟩

theorem op22 {n : Nat} {ls : List L} (h : Ty Try.prog n 22 ls) : ∃ y : List ((Int) × (Int)), ls = [L.sl 2 false (y.map fun (z : (Int) × (Int)) => .agg [L.v (.int .u32 z.1), L.v (.int .u32 z.2)])] ∧ (∀ z ∈ y, ((Lit.int .u32 z.1).wf = true) ∧ ((Lit.int .u32 z.2).wf = true)) ∧ y.length * 8 ≤ 140737488351232 := by
  have hc : Try.prog.cellsOf 36 = 2 := by kernel_rfl
  have hb : Try.prog.bytesOf 36 = 8 := by kernel_rfl
  have hg : isAggB Try.prog 36 = true := by kernel_rfl
  obtain ⟨m, xs, rfl, h2, h3⟩ := ty_slice h Try.underlying22 (by rw [hc, hg]; rfl)
  obtain ⟨ys, rfl, h4⟩ := list_open (g := fun y : (Int) × (Int) => [L.v (.int .u32 y.1), L.v (.int .u32 y.2)]) (p := fun y => ((Lit.int .u32 y.1).wf = true) ∧ ((Lit.int .u32 y.2).wf = true)) h2 (fun x hx => op36 hx)
  rw [hb] at h3
  refine ⟨ys, ?_, h4, by simpa using h3⟩
  rw [hc, hg]
  simp [mkL]

end Go.Proofs.Ythohjhhiphfngaa
