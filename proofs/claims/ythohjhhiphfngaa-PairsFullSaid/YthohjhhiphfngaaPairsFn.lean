/- The functions of pairs. -/
import Derived.Test.YthohjhhiphfngaaPairsIr
import Derived.Test.YthohjhhiphfngaaLibOrd
namespace Go.Proofs.Ythohjhhiphfngaa
open Go Lg

abbrev u32L (n : Int) : L := .v (.int .u32 n)
def seekF : SeekFns Try.prog 25 := ⟨27, 28, 29, 30, 31, 32, ir25, ir27, ir28, ir30, ir31, ir32, ir29⟩
def insF : InsFns Try.prog 14 := ⟨17, 26, 21, 22, 23, 24, 25, ir14, ir17, ir26, ir21, ir22, ir23, ir24, seekF⟩

abbrev tabL (cap : Int) (keys : List (List Int)) (slots : List Int) : L := .agg (cells3 cap false false keys slots)

/-- A byte of a number. -/
def by8 (x : Int) (i : Nat) : Int := IntKind.u8.wrap (shrI .u32 x (8 * (i : Int)))
def pk (a b : Int) : List Int := [by8 a 0, by8 a 1, by8 a 2, by8 a 3, by8 b 0, by8 b 1, by8 b 2, by8 b 3]
def U32 (x : Int) : Prop := 0 ≤ x ∧ x < 4294967296

def cellOf (a b : Int) (i j : Nat) : Int := if j % 4 < i then by8 (if j < 4 then a else b) (j % 4) else 0

theorem wr : IntKind.i64.wrap 0 = 0 ∧ IntKind.i64.wrap 1 = 1 ∧ IntKind.i64.wrap 2 = 2 ∧ IntKind.i64.wrap 3 = 3 ∧ IntKind.i64.wrap 4 = 4 ∧ IntKind.i64.wrap 5 = 5 ∧ IntKind.i64.wrap 6 = 6 ∧ IntKind.i64.wrap 7 = 7 ∧ IntKind.i64.wrap 8 = 8 ∧ IntKind.i64.wrap 16 = 16 ∧ IntKind.i64.wrap 24 = 24 ∧ IntKind.i64.wrap (-1) = -1 := by decide

theorem of_any (a b : Int) : PC Try.prog 15 [u32L a, u32L b] (.agg ((pk a b).map u8L)) := by
  refine pc_of_call (callAt_enter ir15 (by simp) ?_)
  simp
  refine lwp_loop (fun i : Nat => [(0, u32L a), (1, u32L b), (4, .ptr 0 0), (5, .ptr 1 0), (7, intL i)]) (fun i => [some [.v (.int .u8 0), .v (.int .u8 0), .v (.int .u8 0), .v (.int .u8 0), .v (.int .u8 0), .v (.int .u8 0), .v (.int .u8 0), .v (.int .u8 0)],
    some [u8L (cellOf a b i 0), u8L (cellOf a b i 1), u8L (cellOf a b i 2), u8L (cellOf a b i 3), u8L (cellOf a b i 4), u8L (cellOf a b i 5), u8L (cellOf a b i 6), u8L (cellOf a b i 7)]]) (fun i => 4 - i) (fun i => i ≤ 4) 0 (by omega) ⟨[0, 1], ?_⟩ ?_
  · simp [cellOf]
  · intro i hi
    have hc : i = 0 ∨ i = 1 ∨ i = 2 ∨ i = 3 ∨ i = 4 := by omega
    rcases hc with rfl | rfl | rfl | rfl | rfl
    · simp [wr]
      refine ⟨1, by simp, by simp, [0, 1], ?_⟩
      simp [cellOf, by8]
    · simp [wr]
      refine ⟨2, by simp, by simp, [0, 1], ?_⟩
      simp [cellOf, by8]
    · simp [wr]
      refine ⟨3, by simp, by simp, [0, 1], ?_⟩
      simp [cellOf, by8]
    · simp [wr]
      refine ⟨4, by simp, by simp, [0, 1], ?_⟩
      simp [cellOf, by8]
    · simp [cellOf, pk]

theorem key_any (a b : Int) : PC Try.prog 16 [.agg ((pk a b).map u8L)] (.sl 1 true ((pk a b).map u8L)) := by
  refine pc_of_call (callAt_enter ir16 (by simp) ?_)
  simp [pk]

/-- A byte behind a number. -/
theorem or_byte {y c : Int} (hy : 0 ≤ y ∧ y < 16777216) (hc : 0 ≤ c ∧ c < 256) : bitsI .or .u32 (shlI .u32 y 8) c = y * 256 + c := by
  obtain ⟨n, rfl⟩ : ∃ n : Nat, y = (n : Int) := ⟨y.toNat, by omega⟩
  obtain ⟨m, rfl⟩ : ∃ m : Nat, c = (m : Int) := ⟨c.toNat, by omega⟩
  have h1 : shlI .u32 (n : Int) 8 = ((n * 256 : Nat) : Int) := by
    simp [shlI, IntKind.wrap, IntKind.bits, IntKind.signed]
    omega
  rw [h1]
  have e1 : (BitVec.ofInt 32 ((n * 256 : Nat) : Int)).toNat = n * 256 := by
    rw [BitVec.ofInt_natCast, BitVec.toNat_ofNat]; omega
  have e2 : (BitVec.ofInt 32 ((m : Nat) : Int)).toNat = m := by
    rw [BitVec.ofInt_natCast, BitVec.toNat_ofNat]; omega
  have e3 : (n * 256) ||| m = n * 256 + m := by
    have := Nat.shiftLeft_add_eq_or_of_lt (i := 8) (b := m) (by omega) n
    rw [Nat.shiftLeft_eq] at this
    exact this.symm
  have e4 : bitsI .or .u32 ((n * 256 : Nat) : Int) (m : Int) = IntKind.u32.wrap ((BitVec.ofInt 32 ((n * 256 : Nat) : Int) ||| BitVec.ofInt 32 (m : Int)).toNat : Int) := rfl
  rw [e4, BitVec.toNat_or, e1, e2, e3]
  simp [IntKind.wrap, IntKind.bits, IntKind.signed]
  omega

theorem by8_val {x : Int} (h : U32 x) : by8 x 0 = x % 256 ∧ by8 x 1 = x / 256 % 256 ∧ by8 x 2 = x / 65536 % 256 ∧ by8 x 3 = x / 16777216 % 256 := by
  obtain ⟨h1, h2⟩ := h
  simp [by8, shrI, IntKind.wrap, IntKind.bits, IntKind.signed, Int.fdiv_eq_ediv_of_nonneg]

theorem u32_id {x : Int} (h : 0 ≤ x ∧ x < 256) : IntKind.u32.wrap x = x := by
  simp [IntKind.wrap, IntKind.bits, IntKind.signed]; omega

theorem step3 {x : Int} (h : U32 x) : bitsI .or .u32 (shlI .u32 (x / 4294967296) 8) (IntKind.u32.wrap (by8 x 3)) = x / 16777216 := by
  obtain ⟨h1, h2⟩ := h
  obtain ⟨-, -, -, e⟩ := by8_val ⟨h1, h2⟩
  rw [e, u32_id (by omega), or_byte (by omega) (by omega)]; omega
theorem step2 {x : Int} (h : U32 x) : bitsI .or .u32 (shlI .u32 (x / 16777216) 8) (IntKind.u32.wrap (by8 x 2)) = x / 65536 := by
  obtain ⟨h1, h2⟩ := h
  obtain ⟨-, -, e, -⟩ := by8_val ⟨h1, h2⟩
  rw [e, u32_id (by omega), or_byte (by omega) (by omega)]; omega
theorem step1 {x : Int} (h : U32 x) : bitsI .or .u32 (shlI .u32 (x / 65536) 8) (IntKind.u32.wrap (by8 x 1)) = x / 256 := by
  obtain ⟨h1, h2⟩ := h
  obtain ⟨-, e, -, -⟩ := by8_val ⟨h1, h2⟩
  rw [e, u32_id (by omega), or_byte (by omega) (by omega)]; omega
theorem step0 {x : Int} (h : U32 x) : bitsI .or .u32 (shlI .u32 (x / 256) 8) (IntKind.u32.wrap (by8 x 0)) = x := by
  obtain ⟨h1, h2⟩ := h
  obtain ⟨e, -, -, -⟩ := by8_val ⟨h1, h2⟩
  rw [e, u32_id (by omega), or_byte (by omega) (by omega)]; omega

theorem pk_byte {a b : Int} : ∀ z ∈ pk a b, isByte z := by
  intro z hz
  simp only [pk, List.mem_cons, List.not_mem_nil, or_false] at hz
  have : ∀ x i, isByte (by8 x i) := fun x i => by simp [by8, IntKind.wrap, IntKind.bits, IntKind.signed, isByte]; omega
  rcases hz with rfl | rfl | rfl | rfl | rfl | rfl | rfl | rfl <;> exact this _ _

theorem pk_inj {a b c d : Int} (ha : U32 a) (hb : U32 b) (hc : U32 c) (hd : U32 d) : pk a b = pk c d ↔ a = c ∧ b = d := by
  constructor
  · intro h
    simp only [pk, List.cons.injEq, and_true] at h
    obtain ⟨a0, a1, a2, a3⟩ := by8_val ha
    obtain ⟨b0, b1, b2, b3⟩ := by8_val hb
    obtain ⟨c0, c1, c2, c3⟩ := by8_val hc
    obtain ⟨d0, d1, d2, d3⟩ := by8_val hd
    rw [a0, a1, a2, a3, b0, b1, b2, b3, c0, c1, c2, c3, d0, d1, d2, d3] at h
    unfold U32 at *
    omega
  · rintro ⟨rfl, rfl⟩; rfl

theorem numbers_any (a b : Int) (ha : U32 a) (hb : U32 b) : PC Try.prog 19 [.agg ((pk a b).map u8L)] (.tup [u32L a, u32L b]) := by
  refine pc_of_call (callAt_enter ir19 (by simp) ?_)
  simp [pk]
  refine lwp_loop (fun i : Nat => [(1, .ptr 0 0), (4, u32L (a / 256 ^ (4 - i))), (5, u32L (b / 256 ^ (4 - i))), (6, intL (3 - i))]) (fun i => [some [u8L (by8 a 0), u8L (by8 a 1), u8L (by8 a 2), u8L (by8 a 3), u8L (by8 b 0), u8L (by8 b 1), u8L (by8 b 2), u8L (by8 b 3)]]) (fun i => 4 - i) (fun i => i ≤ 4) 0 (by omega) ⟨[0], ?_⟩ ?_
  · simp
    obtain ⟨h1, h2⟩ := ha
    obtain ⟨h3, h4⟩ := hb
    omega
  · intro i hi
    have hc : i = 0 ∨ i = 1 ∨ i = 2 ∨ i = 3 ∨ i = 4 := by omega
    rcases hc with rfl | rfl | rfl | rfl | rfl
    · simp [wr, step3 ha, step3 hb]
      refine ⟨1, by simp, by simp, [0], ?_⟩
      simp
    · simp [wr, step2 ha, step2 hb]
      refine ⟨2, by simp, by simp, [0], ?_⟩
      simp
    · simp [wr, step1 ha, step1 hb]
      refine ⟨3, by simp, by simp, [0], ?_⟩
      simp
    · simp [wr, step0 ha, step0 hb]
      refine ⟨4, by simp, by simp, [0], ?_⟩
      simp
    · simp

end Go.Proofs.Ythohjhhiphfngaa
