/- The document's example. -/
import Derived.Test.YtejjmfladieipaaBlurFn2
namespace Go.Proofs.Ytejjmfladieipaa
open Go Lg

theorem new_bad : PC Try.prog 9 [intL 0, intL 1, u64L 7] (.tup [.agg [.v (.int .i64 0), .v (.int .i64 0), .v (.int .u64 0), .v (.slice none 0 0), .v (.slice none 0 0), .v (.slice none 0 0)], intL 1]) := by
  refine pc_of_call (callAt_enter ir9 (by simp) ?_)
  simp

theorem pl1 (a b c : List Int) (key : List Int) : St.pl ⟨1, 1, 7, a, b, c⟩ key = [0] := by
  have h1 := places_range key 7 1 (n := 1) (by omega) (by omega)
  have h2 := places_len key 7 1 1
  simp only [St.pl]
  match hp : places key 7 1 1 with
  | [] => rw [hp] at h2; simp at h2
  | [p] =>
    have := h1 p (by rw [hp]; simp)
    have : p = 0 := by omega
    rw [this]
  | _ :: _ :: _ => rw [hp] at h2; simp at h2

theorem ok1 (a b c : List Int) : St.ok ⟨1, 1, 7, a, b, c⟩ := ⟨by simp, by simp, by simp, by simp⟩

set_option maxRecDepth 100000 in
theorem shown_any : PC Try.prog 7 [] (boolL true) := by
  have hnew := new_any 1 1 7 (ok1 _ _ _)
  have i1 := insert_any ⟨1, 1, 7, [], [], []⟩ (ok1 _ _ _) [97] true (by simp)
  have i2 := insert_any ⟨1, 1, 7, [0], [], []⟩ (ok1 _ _ _) [98] true (by simp)
  have s1 := setF_any ⟨1, 1, 7, [0], [], []⟩ (ok1 _ _ _) [98] true (by simp) 1
  have g1 := getF_any ⟨1, 1, 7, [0], [], [0]⟩ (ok1 _ _ _) [97] true (by simp) 1
  have g2 := getF_any ⟨1, 1, 7, [0], [], [0]⟩ (ok1 _ _ _) [97] true (by simp) 0
  have g3 := getF_any ⟨1, 1, 7, [], [], []⟩ (ok1 _ _ _) [97] true (by simp) 0
  have s2 := setF_any ⟨1, 1, 7, [0], [], [0]⟩ (ok1 _ _ _) [97] true (by simp) 2
  have o1 := ones_any ⟨1, 1, 7, [0], [], [0]⟩ (ok1 _ _ _) (by simp) (by simp)
  have o2 := ones_any ⟨1, 1, 7, [], [], []⟩ (ok1 _ _ _) (by simp) (by simp)
  have m1 := member_any ⟨1, 1, 7, [0], [], []⟩ (ok1 _ _ _) [122] true (by simp)
  have m2 := member_any ⟨1, 1, 7, [], [], []⟩ (ok1 _ _ _) [122] true (by simp)
  simp [pl1, allIn, St.put, withP, St.row] at i1 i2 s1 g1 g2 g3 s2 m1 m2 o1 o2
  refine pc_of_call (callAt_enter ir7 (by simp) ?_)
  simp [St.L, St.w] at *
  refine callT_closed hnew rfl ?_
  simp
  refine callT_freeze [1] i1 rfl ?_
  simp
  refine callT_freeze [3] i2 rfl ?_
  simp
  refine callT_freeze [5] s1 rfl ?_
  simp
  refine callT_plain g1 rfl rfl ?_
  simp
  refine callT_plain g2 rfl rfl ?_
  simp
  refine callT_plain g3 rfl rfl ?_
  simp
  refine callT_freeze [10] s2 rfl ?_
  simp
  refine callT_closed new_bad rfl ?_
  simp
  refine callT_plain o1 rfl rfl ?_
  simp
  refine callT_plain o2 rfl rfl ?_
  simp
  refine callT_plain m1 rfl rfl ?_
  simp
  refine callT_plain m2 rfl rfl ?_
  simp

end Go.Proofs.Ytejjmfladieipaa
