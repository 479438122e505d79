/- A number has as many bits as the least power of two above it has noughts; put in one bit less it is refused. -/
import Derived.Test.YtaochjhkgffipaaBitsPk
namespace Go.Proofs.Ytaochjhkgffipaa
open Go Lg

/-- Half the least power of two. -/
def lowN (i : Nat) : Nat := 2 ^ (i - 1)
theorem lowN_one : lowN 1 = 1 := rfl
theorem lowN_succ {i : Nat} (h : 1 ≤ i) : lowN (i + 1) = 2 * lowN i := by
  obtain ⟨j, rfl⟩ : ∃ j, i = j + 1 := ⟨i - 1, by omega⟩
  simp [lowN, Nat.pow_succ, Nat.mul_comm]
theorem lowN_le {i : Nat} (h : i ≤ 64) : lowN i ≤ 9223372036854775808 := Nat.le_trans (Nat.pow_le_pow_right (n := 2) (by omega) (show i - 1 ≤ 63 by omega)) (by decide)

theorem bitsWide_any (y0 : Int) (h0 : (Lit.int .u64 y0).wf = true) : PC Try.prog 9 [L.v (.int .u64 y0)] (.v (.bool true)) := by
  obtain ⟨n1, n2⟩ := u64_wf h0
  obtain ⟨n, rfl⟩ := Int.eq_ofNat_of_zero_le n1
  have hn : n < 2 ^ 64 := by omega
  obtain ⟨k, hk⟩ : ∃ k, k = wid n := ⟨_, rfl⟩
  have hk64 : k ≤ 64 := by rw [hk]; exact (wid_le hn).2 hn
  refine pc_of_call (callAt_enter ir9 (by simp) ?_)
  simp
  refine callT_closed shown_any (by simp) ?_
  simp
  have hw := wide_any hn
  rw [← hk] at hw
  refine callT_closed hw (by simp) ?_
  have h1 : ¬ (k : Int) < 0 := by omega
  have h2 : ¬ (64 : Int) < k := by omega
  simp [h1, h2]
  refine lwp_loop (fun i : Nat => [(0, u64L n), (3, boolL true), (4, intL k), (5, u64L (lowN i)), (6, intL i)]) (fun _ => []) (fun i => 64 - i) (fun i => 1 ≤ i ∧ (i ≤ k ∨ i = 1)) 1 (by simp) ⟨[], by simp [lowN_one]⟩ ?_
  rintro i ⟨hi, hik⟩
  by_cases h : i < k
  · have hl : lowN i ≤ 4611686018427387904 := Nat.le_trans (Nat.pow_le_pow_right (n := 2) (by omega) (show i - 1 ≤ 62 by omega)) (by decide)
    have hmul : IntKind.u64.wrap (2 * (lowN i : Int)) = (lowN (i + 1) : Int) := by
      rw [lowN_succ hi]; simp [IntKind.wrap, IntKind.signed, IntKind.bits]; omega
    simp [h, hmul, suc64 (show i ≤ 281474976710656 by omega)]
    exact ⟨i + 1, by omega, by simp only; omega, [], by simp⟩
  simp [h]
  obtain ⟨a, ea, la, ha⟩ := putOk (l := []) (n := n) (w := k) (by simp) hn hk64 (by omega)
  refine callT_closed (nilB ha) (by simp) ?_
  obtain ⟨c, hc, hp⟩ := putBad (l := []) (n := n) (wide := (k : Int) - 1) (by simp) hn (by omega)
  have hc0 : c ≠ 0 := by omega
  have hsub : IntKind.i64.wrap ((k : Int) - 1) = (k : Int) - 1 := IntWalk.i64_in _ ⟨by omega, by omega⟩
  simp [hsub]
  refine callT_closed (nilB hp) (by simp) ?_
  by_cases k0 : k = 0
  · have n0 : n = 0 := by
      have := (wid_le (k := 0) hn).1 (by omega)
      omega
    subst k0 n0
    simp [hc0]
  · have ei : i = k := by omega
    have hlow : lowN k ≤ n := by
      have : ¬ wid n ≤ k - 1 := by omega
      rw [wid_le hn] at this
      exact Nat.le_of_not_lt this
    have hup : n < 2 * lowN k := by
      have := (wid_le (k := k) hn).1 (by omega)
      rwa [show k = (k - 1) + 1 by omega, Nat.pow_succ, Nat.mul_comm] at this
    have n0 : n ≠ 0 := by
      have : 0 < lowN k := Nat.pos_of_ne_zero (by simp [lowN])
      omega
    have hs2 : IntKind.u64.wrap ((n : Int) - (lowN k : Int)) = (n : Int) - (lowN k : Int) := by simp [IntKind.wrap, IntKind.signed, IntKind.bits]; omega
    subst ei
    have hlt : (n : Int) - (lowN i : Int) < (lowN i : Int) := by omega
    simp [hc0, k0, n0, hlow, hs2, hlt]

end Go.Proofs.Ytaochjhkgffipaa
