/- The document's example. -/
import Derived.Test.YtaochjhkgffipaaBitsFn
namespace Go.Proofs.Ytaochjhkgffipaa
open Go Lg

theorem byte_wf {z : Int} (h : (Lit.int .u8 z).wf = true) : isByte z := by
  simp [Lit.wf, IntKind.min, IntKind.max, IntKind.signed, IntKind.bits] at h
  constructor <;> omega
theorem u8_wf {z : Int} (h : (Lit.int .u8 z).wf = true) : 0 ≤ z ∧ z ≤ 255 := byte_wf h
theorem u32_wf {z : Int} (h : (Lit.int .u32 z).wf = true) : 0 ≤ z ∧ z ≤ 4294967295 := by
  simp [Lit.wf, IntKind.min, IntKind.max, IntKind.signed, IntKind.bits] at h
  constructor <;> omega
theorem u64_wf {z : Int} (h : (Lit.int .u64 z).wf = true) : 0 ≤ z ∧ z ≤ 18446744073709551615 := by
  simp [Lit.wf, IntKind.min, IntKind.max, IntKind.signed, IntKind.bits] at h
  constructor <;> omega
theorem i64_wf {z : Int} (h : (Lit.int .i64 z).wf = true) : -9223372036854775808 ≤ z ∧ z ≤ 9223372036854775807 := by
  simp [Lit.wf, IntKind.min, IntKind.max, IntKind.signed, IntKind.bits] at h
  constructor <;> omega

theorem by1 {x : Int} (h : isByte x) : ∀ z ∈ [x], isByte z := fun z hz => by simp at hz; rw [hz]; exact h
theorem by160 : ∀ z ∈ [(160 : Int)], isByte z := by1 (by constructor <;> omega)
theorem by168 : ∀ z ∈ [(168 : Int)], isByte z := by1 (by constructor <;> omega)
theorem by181 : ∀ z ∈ [(181 : Int)], isByte z := by1 (by constructor <;> omega)
theorem r160 : rightB [160] 3 := rightV_iff.1 (by decide +kernel)
theorem r168 : rightB [168] 5 := rightV_iff.1 (by decide +kernel)

theorem putV_ok {B : List Int} {N : Int} {n : Nat} {wide : Int} (hb : ∀ z ∈ B, isByte z) (hR : rightB B N) : (∀ z ∈ (putV B N n wide).1, isByte z) ∧ rightB (putV B N n wide).1 (putV B N n wide).2.1 ∧ N ≤ (putV B N n wide).2.1 ∧ (putV B N n wide).2.1 ≤ N + 64 := by
  unfold putV
  split
  · exact ⟨hb, hR, by simp, by simp; omega⟩
  split
  · exact ⟨hb, hR, by simp, by simp; omega⟩
  · refine ⟨pk_byte, ?_, by simp; omega, by simp; omega⟩
    have h0 := hR.1
    have := pk_right (l := un B N.toNat ++ numB n wide.toNat)
    simp only [List.length_append, un_length, numB_length] at this
    rwa [show ((N.toNat + wide.toNat : Nat) : Int) = N + wide by omega] at this
theorem joinV_ok {A B : List Int} {N M : Int} (hA : rightB A N) (hB : rightB B M) : (∀ z ∈ pk (un A N.toNat ++ un B M.toNat), isByte z) ∧ rightB (pk (un A N.toNat ++ un B M.toNat)) (N + M) := by
  refine ⟨pk_byte, ?_⟩
  have h0 := hA.1
  have h1 := hB.1
  have := pk_right (l := un A N.toNat ++ un B M.toNat)
  simp only [List.length_append, un_length] at this
  rwa [show ((N.toNat + M.toNat : Nat) : Int) = N + M by omega] at this
theorem right_len {B : List Int} {N : Int} (h : rightB B N) : 0 ≤ N ∧ N ≤ 8 * (B.length : Int) ∧ 8 * (B.length : Int) ≤ N + 7 := by
  obtain ⟨h1, h2, -⟩ := h
  omega

theorem sh1 : PC Try.prog 18 [.agg [nilL, intL 0], u64L 5, intL 3] (.tup [bitsL [160] 3, intL 0]) := by
  have h := nilB (put_any (B := []) (N := 0) (n := 5) (wide := 3) (by simp) right0 (by omega) (by omega))
  rwa [show putV [] 0 5 3 = ([160], 3, 0) by decide +kernel] at h
theorem sh2 : PC Try.prog 18 [bitsL [160] 3, u64L 1, intL 2] (.tup [bitsL [168] 5, intL 0]) := by
  have h := put_any (B := [160]) (N := 3) (n := 1) (wide := 2) by160 r160 (by omega) (by omega)
  rwa [show putV [160] 3 1 2 = ([168], 5, 0) by decide +kernel] at h
theorem sh3 : PC Try.prog 20 [bitsL [168] 5, intL 3, intL 2] (.tup [u64L 1, intL 0]) := by
  have h := take_any (B := [168]) (N := 5) (at' := 3) (wide := 2) by168 (by simp) (by simp) (by omega)
  rwa [show takeV [168] 5 3 2 = (1, 0) by decide +kernel] at h
theorem sh4 : PC Try.prog 18 [bitsL [168] 5, u64L 8, intL 3] (.tup [bitsL [168] 5, intL 5]) := by
  have h := put_any (B := [168]) (N := 5) (n := 8) (wide := 3) by168 r168 (by omega) (by omega)
  rwa [show putV [168] 5 8 3 = ([168], 5, 5) by decide +kernel] at h
theorem sh5 : PC Try.prog 18 [bitsL [168] 5, u64L 0, intL 65] (.tup [bitsL [168] 5, intL 1]) := by
  have h := put_any (B := [168]) (N := 5) (n := 0) (wide := 65) by168 r168 (by omega) (by omega)
  rwa [show putV [168] 5 0 65 = ([168], 5, 1) by decide +kernel] at h
theorem sh6 : PC Try.prog 20 [bitsL [168] 5, intL 4, intL 2] (.tup [u64L 0, intL 10]) := by
  have h := take_any (B := [168]) (N := 5) (at' := 4) (wide := 2) by168 (by simp) (by simp) (by omega)
  rwa [show takeV [168] 5 4 2 = (0, 10) by decide +kernel] at h
theorem sh7 : PC Try.prog 16 [u64L 5] (intL 3) := by
  have h := wide_any (n := 5) (by omega)
  rwa [show wid 5 = 3 by decide +kernel] at h
theorem sh8 : PC Try.prog 16 [u64L 0] (intL 0) := by
  have h := wide_any (n := 0) (by omega)
  rwa [show wid 0 = 0 by decide +kernel] at h
theorem sh9 : PC Try.prog 13 [bitsL [168] 5] (boolL true) := by
  have h := right_any (B := [168]) (N := 5) by168 (by simp) (by omega)
  rwa [show rightV [168] 5 = true by decide +kernel] at h
theorem sh10 : PC Try.prog 13 [.agg [nilL, intL 1]] (boolL false) := by
  have h := nilB (right_any (B := []) (N := 1) (by simp) (by simp) (by omega))
  rwa [show rightV [] 1 = false by decide +kernel] at h
theorem sh11 : PC Try.prog 22 [bitsL [160] 3, bitsL [168] 5] (bitsL [181] 8) := by
  have h := join_any (A := [160]) (B := [168]) (N := 3) (M := 5) by160 by168 r160 r168 (by omega) (by omega)
  rwa [show pk (un [160] (3 : Int).toNat ++ un [168] (5 : Int).toNat) = [181] by decide +kernel] at h
theorem sh12 : PC Try.prog 14 [bitsL [181] 8, bitsL [181] 8] (boolL true) := by
  have h := same_any (A := [181]) (B := [181]) (N := 8) (M := 8) by181 by181
  simpa using h
theorem sh13 : PC Try.prog 14 [bitsL [160] 3, bitsL [168] 5] (boolL false) := by
  have h := same_any (A := [160]) (B := [168]) (N := 3) (M := 5) by160 by168
  simpa using h

theorem shown_any : PC Try.prog 10 [] (boolL true) := by
  refine pc_of_call (callAt_enter ir10 (by simp) ?_)
  simp
  refine callT_closed sh1 (by simp) ?_
  simp
  refine callT_closed sh2 (by simp) ?_
  simp
  refine callT_closed sh3 (by simp) ?_
  simp
  refine callT_closed sh4 (by simp) ?_
  simp
  refine callT_closed sh5 (by simp) ?_
  simp
  refine callT_closed sh6 (by simp) ?_
  simp
  refine callT_closed sh7 (by simp) ?_
  simp
  refine callT_closed sh8 (by simp) ?_
  simp
  refine callT_closed sh9 (by simp) ?_
  simp
  refine callT_closed sh10 (by simp) ?_
  simp
  refine bcallT_closed sh11 (by simp) ?_
  simp
  refine callT_closed sh11 (by simp) ?_
  simp
  refine callT_closed sh12 (by simp) ?_
  simp
  refine callT_closed sh13 (by simp) ?_
  simp
  refine callT_closed sh11 (by simp) ?_
  simp

end Go.Proofs.Ytaochjhkgffipaa
