/- The functions of bits, and of what they are compared with. -/
import Derived.Test.YtaochjhkgffipaaBitsIr
import Derived.Test.YtaochjhkgffipaaLibBitsPV
import Derived.Test.YtaochjhkgffipaaLgNX
namespace Go.Proofs.Ytaochjhkgffipaa
open Go Lg

def selS (r : Nat) : Bool := [1].contains r
theorem ir26S : compFS selS Try.prog 26 = some (irBOf 31) := compFS_of (by kernel_rfl)
theorem ir23S : compFS selS Try.prog 23 = some (irRJoin 28 29) := compFS_of (by kernel_rfl)

abbrev bitsL (B : List Int) (N : Int) : L := .agg [.sl 1 false (B.map u8L), intL N]

theorem put_any {B : List Int} {N : Int} {n : Nat} {wide : Int} (hb : ∀ z ∈ B, isByte z) (hR : rightB B N) (hN : N ≤ 281474976710000) (hn : n < 2 ^ 64) :
    PC Try.prog 18 [bitsL B N, u64L n, intL wide] (.tup [bitsL (putV B N n wide).1 (putV B N n wide).2.1, intL (putV B N n wide).2.2]) := putB_gen ir18 ir16 ir26S ir31 ir27 hb hR hN hn
theorem putA_any {B : List Int} {N : Int} {n : Nat} {wide : Int} (hb : ∀ z ∈ B, isByte z) (hR : rightB B N) (hbig : 8 * B.length ≤ 8000000000000) (hn : n < 2 ^ 64) :
    PC Try.prog 19 [bitsL B N, u64L n, intL wide] (.tup [bitsL (putV B N n wide).1 (putV B N n wide).2.1, intL (putV B N n wide).2.2]) := putR_gen ir19 ir17 ir28 ir29 ir24 hb hR hbig hn
theorem take_any {B : List Int} {N at' wide : Int} (hb : ∀ z ∈ B, isByte z) (hN : 0 ≤ N ∧ N ≤ 8 * B.length) (hbig : 8 * B.length ≤ 281474976710656) (ha : at' ≤ 9223372036854775807) :
    PC Try.prog 20 [bitsL B N, intL at', intL wide] (.tup [u64L (takeV B N at' wide).1, intL (takeV B N at' wide).2]) := takeB_gen ir20 ir30 ir32 rc20 hb hN hbig ha
theorem takeA_any {B : List Int} {N at' wide : Int} (hb : ∀ z ∈ B, isByte z) (hN : 0 ≤ N ∧ N ≤ 8 * B.length) (hbig : 8 * B.length ≤ 281474976710656) (ha : at' ≤ 9223372036854775807) :
    PC Try.prog 21 [bitsL B N, intL at', intL wide] (.tup [u64L (takeV B N at' wide).1, intL (takeV B N at' wide).2]) := takeR_gen ir21 ir24 hb hN hbig ha
theorem join_any {A B : List Int} {N M : Int} (ha : ∀ z ∈ A, isByte z) (hb : ∀ z ∈ B, isByte z) (hR : rightB A N) (hR' : rightB B M) (hN : N ≤ 70368744177664) (hM : M ≤ 70368744177664) :
    PC Try.prog 22 [bitsL A N, bitsL B M] (bitsL (pk (un A N.toNat ++ un B M.toNat)) (N + M)) := joinB_gen ir22 ir26S ir31 ir27 ir30 ir32 rc22 ha hb hR hR' hN hM
theorem joinA_any {A B : List Int} {N M : Int} (ha : ∀ z ∈ A, isByte z) (hb : ∀ z ∈ B, isByte z) (hR : rightB A N) (hR' : rightB B M) (hN : 8 * A.length ≤ 4000000000000) (hM : 8 * B.length ≤ 4000000000000) :
    PC Try.prog 23 [bitsL A N, bitsL B M] (bitsL (pk (un A N.toNat ++ un B M.toNat)) (N + M)) := joinR_gen ir23S ir28 ir29 ir24 ha hb hR hR' hN hM
theorem wide_any {n : Nat} (hn : n < 2 ^ 64) : PC Try.prog 16 [u64L n] (intL (wid n)) := widB_gen ir16 n hn
theorem wideA_any {n : Nat} (hn : n < 2 ^ 64) : PC Try.prog 17 [u64L n] (intL (wid n)) := widR_gen ir17 n hn
theorem right_any {B : List Int} {N : Int} (hb : ∀ z ∈ B, isByte z) (hbig : 8 * B.length ≤ 281474976710656) (hN : N ≤ 9223372036854775807) : PC Try.prog 13 [bitsL B N] (boolL (rightV B N)) := rightB_gen ir13 hb hbig hN
theorem rightA_any {B : List Int} {N : Int} (hb : ∀ z ∈ B, isByte z) (hbig : 8 * B.length ≤ 281474976710656) (hN : N ≤ 9223372036854775807) : PC Try.prog 12 [bitsL B N] (boolL (rightV B N)) := rightR_gen ir12 ir24 hb hbig hN
theorem same_any {A B : List Int} {N M : Int} (ha : ∀ z ∈ A, isByte z) (hb : ∀ z ∈ B, isByte z) : PC Try.prog 14 [bitsL A N, bitsL B M] (boolL (decide (N = M ∧ A = B))) := sameB_gen ir14 ir25 ha hb
theorem sameA_any {A B : List Int} {N M : Int} (ha : ∀ z ∈ A, isByte z) (hb : ∀ z ∈ B, isByte z) : PC Try.prog 15 [bitsL A N, bitsL B M] (boolL (decide (N = M ∧ A = B))) := sameR_gen ir15 ha hb
theorem few_any {B : List Int} {N : Int} : PC Try.prog 11 [bitsL B N] (boolL (decide (B.length ≤ 100))) := by
  refine pc_of_call (callAt_enter ir11 (by simp) ?_)
  simp
  omega

/-- Bits without bytes are nil, or of length 0. -/
theorem nilB {f : Nat} {N : Int} {ls : List L} {r : L} (h : PC Try.prog f (bitsL [] N :: ls) r) : PC Try.prog f (.agg [nilL, intL N] :: ls) r := PC.sub h (.cons sub_agg2 (SubAll.refl _)) (.refl _)

theorem right0 : rightB [] 0 := rightV_iff.1 (by decide +kernel)

end Go.Proofs.Ytaochjhkgffipaa
