/- What the arguments read as. -/
import Derived.Test.YtjaokhpjdikflaaLgV
import Derived.Test.YtjaokhpjdikflaaChecked
namespace Go.Proofs.Ytjaokhpjdikflaa
open Go Lg

theorem op35 {n : Nat} {ls : List L} (h : Ty Try.prog n 35 ls) : ∃ y : List (Int), ls = [L.sl 1 false (y.map fun (z : Int) => L.v (.int .u8 z))] ∧ (∀ z ∈ y, (Lit.int .u8 z).wf = true) ∧ y.length * 1 ≤ 140737488351232 := by
  have hc : Try.prog.cellsOf 5 = 1 := by kernel_rfl
  have hb : Try.prog.bytesOf 5 = 1 := by kernel_rfl
  have hg : isAggB Try.prog 5 = false := by kernel_rfl
  obtain ⟨m, xs, rfl, h2, h3⟩ := ty_slice h Try.underlying35 (by rw [hc, hg]; rfl)
  obtain ⟨ys, rfl, h4⟩ := list_open (g := fun y : Int => [L.v (.int .u8 y)]) (p := fun y => (Lit.int .u8 y).wf = true) h2 (fun x hx => ty_int hx Try.underlying5)
  rw [hb] at h3
  refine ⟨ys, ?_, h4, by simpa using h3⟩
  rw [hc, hg]
  simp [mkL]

theorem op25 {n : Nat} {ls : List L} (h : Ty Try.prog n 25 ls) : ∃ y : List (List (Int)), ls = [L.sl 1 false (y.map fun (z : List (Int)) => L.sl 1 false (z.map fun (z : Int) => L.v (.int .u8 z)))] ∧ (∀ z ∈ y, (∀ zz ∈ z, (Lit.int .u8 zz).wf = true) ∧ z.length * 1 ≤ 140737488351232) ∧ y.length * 24 ≤ 140737488351232 := by
  have hc : Try.prog.cellsOf 35 = 1 := by kernel_rfl
  have hb : Try.prog.bytesOf 35 = 24 := by kernel_rfl
  have hg : isAggB Try.prog 35 = false := by kernel_rfl
  obtain ⟨m, xs, rfl, h2, h3⟩ := ty_slice h Try.underlying25 (by rw [hc, hg]; rfl)
  obtain ⟨ys, rfl, h4⟩ := list_open (g := fun y : List (Int) => [L.sl 1 false (y.map fun (z : Int) => L.v (.int .u8 z))]) (p := fun y => (∀ z ∈ y, (Lit.int .u8 z).wf = true) ∧ y.length * 1 ≤ 140737488351232) h2 (fun x hx => op35 hx)
  rw [hb] at h3
  refine ⟨ys, ?_, h4, by simpa using h3⟩
  rw [hc, hg]
  simp [mkL]

end Go.Proofs.Ytjaokhpjdikflaa
