/- The document's example. -/
import Derived.Test.YtjaokhpjdikflaaTableFn
namespace Go.Proofs.Ytjaokhpjdikflaa
open Go Lg

set_option maxRecDepth 100000 in
theorem shown_any : PC Try.prog 7 [] (boolL true) := by
  obtain ⟨s0, t0, l0, hnew⟩ := new_any 2 (by omega) (by omega)
  have ha : ∀ z ∈ [(97 : Int)], isByte z := by simp [isByte]
  have hb : ∀ z ∈ [(98 : Int)], isByte z := by simp [isByte]
  have hc : ∀ z ∈ [(99 : Int)], isByte z := by simp [isByte]
  obtain ⟨s1, t1, i1⟩ := ins_any 2 t0 [97] ha (by simp) (by simp)
  rw [show insK 2 [] [97] = [[97]] by decide, show insI 2 [] [97] = 0 by decide, show insN 2 [] [97] = true by decide, show insE 2 [] [97] = 0 by decide] at i1
  rw [show insK 2 [] [97] = [[97]] by decide] at t1
  obtain ⟨s2, t2, i2⟩ := ins_any 2 t1 [98] hb (by simp) (by simp)
  rw [show insK 2 [[97]] [98] = [[97], [98]] by decide, show insI 2 [[97]] [98] = 1 by decide, show insN 2 [[97]] [98] = true by decide, show insE 2 [[97]] [98] = 0 by decide] at i2
  rw [show insK 2 [[97]] [98] = [[97], [98]] by decide] at t2
  obtain ⟨s3, t3, i3⟩ := ins_any 2 t2 [97] ha (by simp) (by simp)
  rw [show insK 2 [[97], [98]] [97] = [[97], [98]] by decide, show insI 2 [[97], [98]] [97] = 0 by decide, show insN 2 [[97], [98]] [97] = false by decide, show insE 2 [[97], [98]] [97] = 0 by decide] at i3
  obtain ⟨s4, t4, i4⟩ := ins_any 2 t2 [99] hc (by simp) (by simp)
  rw [show insK 2 [[97], [98]] [99] = [[97], [98]] by decide, show insI 2 [[97], [98]] [99] = 0 by decide, show insN 2 [[97], [98]] [99] = false by decide, show insE 2 [[97], [98]] [99] = 7 by decide] at i4
  have f1 := find_any 2 t2 [98] hb (by simp) true
  have f2 := find_any 2 t1 [98] hb (by simp) true
  rw [if_pos (by decide), show idx [[97], [98]] [98] = 1 by decide, show decide ([98] ∈ [[97], [(98 : Int)]]) = true by decide] at f1
  rw [if_neg (by decide), show decide ([(98 : Int)] ∈ [[(97 : Int)]]) = false by decide] at f2
  have k1 := key_tab ir13 ir18 2 false false [[97], [98]] s2 0 (by omega) (by simp) (by simp)
  refine pc_of_call (callAt_enter ir7 (by simp) ?_)
  simp
  refine callT_closed hnew rfl ?_
  simp
  refine callT_freeze [1] (i1 true) rfl ?_
  simp
  refine callT_freeze [3] (i2 true) rfl ?_
  simp
  refine callT_freeze [5] (i3 true) rfl ?_
  simp
  refine callT_freeze [7] (i4 true) rfl ?_
  simp
  refine callT_plain f1 rfl rfl ?_
  simp
  refine callT_plain f2 rfl rfl ?_
  simp
  refine callT_closed k1 rfl ?_
  simp
  have k2 := key_bad ir13 2 false false [[97], [98]] s2 2 (by simp)
  refine callT_closed k2 rfl ?_
  simp
  refine callT_closed new_bad rfl ?_
  simp
  refine callT_plain (many_tab ir10 2 false false [[97], [98]] s2) rfl rfl ?_
  simp
  refine callT_plain (many_tab ir10 2 false false [[97]] s1) rfl rfl ?_
  simp

end Go.Proofs.Ytjaokhpjdikflaa
