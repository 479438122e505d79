/- Pairs of numbers. -/
import Derived.Test.YtagaakajpblmjaaTreeIr
import Derived.Test.YtagaakajpblmjaaLibTrP
import Derived.Test.YtagaakajpblmjaaLibCmpF
import Derived.Test.YtagaakajpblmjaaLgNX
namespace Go.Proofs.Ytagaakajpblmjaa
open Go Lg
abbrev u32L (n : Int) : L := .v (.int .u32 n)
def seekF : SeekFns Try.prog 67 := ⟨76, 77, 78, 83, 84, 85, ir67, ir76, ir77, ir83, ir84, ir85, ir78⟩
def insF : InsFns Try.prog 50 := ⟨60, 71, 63, 64, 65, 66, 67, ir50, ir60, ir71, ir63, ir64, ir65, ir66, seekF⟩
def by8 (x : Int) (i : Nat) : Int := IntKind.u8.wrap (shrI .u32 x (8 * (i : Int)))
def pk (a b : Int) : List Int := [by8 a 0, by8 a 1, by8 a 2, by8 a 3, by8 b 0, by8 b 1, by8 b 2, by8 b 3]
def cellOf (a b : Int) (i j : Nat) : Int := if j % 4 < i then by8 (if j < 4 then a else b) (j % 4) else 0
theorem wr : IntKind.i64.wrap 0 = 0 ∧ IntKind.i64.wrap 1 = 1 ∧ IntKind.i64.wrap 2 = 2 ∧ IntKind.i64.wrap 3 = 3 ∧ IntKind.i64.wrap 4 = 4 ∧ IntKind.i64.wrap 5 = 5 ∧ IntKind.i64.wrap 6 = 6 ∧ IntKind.i64.wrap 7 = 7 ∧ IntKind.i64.wrap 8 = 8 ∧ IntKind.i64.wrap 16 = 16 ∧ IntKind.i64.wrap 24 = 24 ∧ IntKind.i64.wrap (-1) = -1 := by decide
theorem of_any (a b : Int) : PC Try.prog 69 [u32L a, u32L b] (.agg ((pk a b).map u8L)) := by
  refine pc_of_call (callAt_enter ir69 (by simp) ?_)
  simp
  refine lwp_loop (fun i : Nat => [(0, u32L a), (1, u32L b), (4, .ptr 0 0), (5, .ptr 1 0), (7, intL i)]) (fun i => [some [.v (.int .u8 0), .v (.int .u8 0), .v (.int .u8 0), .v (.int .u8 0), .v (.int .u8 0), .v (.int .u8 0), .v (.int .u8 0), .v (.int .u8 0)],
    some [u8L (cellOf a b i 0), u8L (cellOf a b i 1), u8L (cellOf a b i 2), u8L (cellOf a b i 3), u8L (cellOf a b i 4), u8L (cellOf a b i 5), u8L (cellOf a b i 6), u8L (cellOf a b i 7)]]) (fun i => 4 - i) (fun i => i ≤ 4) 0 (by omega) ⟨[0, 1], ?_⟩ ?_
  · simp [cellOf]
  · intro i hi
    have hc : i = 0 ∨ i = 1 ∨ i = 2 ∨ i = 3 ∨ i = 4 := by omega
    rcases hc with rfl | rfl | rfl | rfl | rfl
    · simp [wr]
      refine ⟨1, by simp, by simp, [0, 1], ?_⟩
      simp [cellOf, by8]
    · simp [wr]
      refine ⟨2, by simp, by simp, [0, 1], ?_⟩
      simp [cellOf, by8]
    · simp [wr]
      refine ⟨3, by simp, by simp, [0, 1], ?_⟩
      simp [cellOf, by8]
    · simp [wr]
      refine ⟨4, by simp, by simp, [0, 1], ?_⟩
      simp [cellOf, by8]
    · simp [cellOf, pk]
theorem key_any (a b : Int) : PC Try.prog 70 [.agg ((pk a b).map u8L)] (.sl 1 true ((pk a b).map u8L)) := by
  refine pc_of_call (callAt_enter ir70 (by simp) ?_)
  simp [pk]
theorem or_byte {y c : Int} (hy : 0 ≤ y ∧ y < 16777216) (hc : 0 ≤ c ∧ c < 256) : bitsI .or .u32 (shlI .u32 y 8) c = y * 256 + c := by
  obtain ⟨n, rfl⟩ : ∃ n : Nat, y = (n : Int) := ⟨y.toNat, by omega⟩
  obtain ⟨m, rfl⟩ : ∃ m : Nat, c = (m : Int) := ⟨c.toNat, by omega⟩
  have h1 : shlI .u32 (n : Int) 8 = ((n * 256 : Nat) : Int) := by
    simp [shlI, IntKind.wrap, IntKind.bits, IntKind.signed]
    omega
  rw [h1]
  have e1 : (BitVec.ofInt 32 ((n * 256 : Nat) : Int)).toNat = n * 256 := by
    rw [BitVec.ofInt_natCast, BitVec.toNat_ofNat]; omega
  have e2 : (BitVec.ofInt 32 ((m : Nat) : Int)).toNat = m := by
    rw [BitVec.ofInt_natCast, BitVec.toNat_ofNat]; omega
  have e3 : (n * 256) ||| m = n * 256 + m := by
    have := Nat.shiftLeft_add_eq_or_of_lt (i := 8) (b := m) (by omega) n
    rw [Nat.shiftLeft_eq] at this
    exact this.symm
  have e4 : bitsI .or .u32 ((n * 256 : Nat) : Int) (m : Int) = IntKind.u32.wrap ((BitVec.ofInt 32 ((n * 256 : Nat) : Int) ||| BitVec.ofInt 32 (m : Int)).toNat : Int) := rfl
  rw [e4, BitVec.toNat_or, e1, e2, e3]
  simp [IntKind.wrap, IntKind.bits, IntKind.signed]
  omega
theorem by8_val {x : Int} (h : U32 x) : by8 x 0 = x % 256 ∧ by8 x 1 = x / 256 % 256 ∧ by8 x 2 = x / 65536 % 256 ∧ by8 x 3 = x / 16777216 % 256 := by
  obtain ⟨h1, h2⟩ := h
  simp [by8, shrI, IntKind.wrap, IntKind.bits, IntKind.signed, Int.fdiv_eq_ediv_of_nonneg]
theorem u32_id {x : Int} (h : 0 ≤ x ∧ x < 256) : IntKind.u32.wrap x = x := by
  simp [IntKind.wrap, IntKind.bits, IntKind.signed]; omega
theorem step3 {x : Int} (h : U32 x) : bitsI .or .u32 (shlI .u32 (x / 4294967296) 8) (IntKind.u32.wrap (by8 x 3)) = x / 16777216 := by
  obtain ⟨h1, h2⟩ := h
  obtain ⟨-, -, -, e⟩ := by8_val ⟨h1, h2⟩
  rw [e, u32_id (by omega), or_byte (by omega) (by omega)]; omega
theorem step2 {x : Int} (h : U32 x) : bitsI .or .u32 (shlI .u32 (x / 16777216) 8) (IntKind.u32.wrap (by8 x 2)) = x / 65536 := by
  obtain ⟨h1, h2⟩ := h
  obtain ⟨-, -, e, -⟩ := by8_val ⟨h1, h2⟩
  rw [e, u32_id (by omega), or_byte (by omega) (by omega)]; omega
theorem step1 {x : Int} (h : U32 x) : bitsI .or .u32 (shlI .u32 (x / 65536) 8) (IntKind.u32.wrap (by8 x 1)) = x / 256 := by
  obtain ⟨h1, h2⟩ := h
  obtain ⟨-, e, -, -⟩ := by8_val ⟨h1, h2⟩
  rw [e, u32_id (by omega), or_byte (by omega) (by omega)]; omega
theorem step0 {x : Int} (h : U32 x) : bitsI .or .u32 (shlI .u32 (x / 256) 8) (IntKind.u32.wrap (by8 x 0)) = x := by
  obtain ⟨h1, h2⟩ := h
  obtain ⟨e, -, -, -⟩ := by8_val ⟨h1, h2⟩
  rw [e, u32_id (by omega), or_byte (by omega) (by omega)]; omega
theorem pk_byte {a b : Int} : ∀ z ∈ pk a b, isByte z := by
  intro z hz
  simp only [pk, List.mem_cons, List.not_mem_nil, or_false] at hz
  have : ∀ x i, isByte (by8 x i) := fun x i => by simp [by8, IntKind.wrap, IntKind.bits, IntKind.signed, isByte]; omega
  rcases hz with rfl | rfl | rfl | rfl | rfl | rfl | rfl | rfl <;> exact this _ _
theorem pk_inj : PkInj pk := by
  intro a b c d ha hb hc hd
  constructor
  · intro h
    simp only [pk, List.cons.injEq, and_true] at h
    obtain ⟨a0, a1, a2, a3⟩ := by8_val ha
    obtain ⟨b0, b1, b2, b3⟩ := by8_val hb
    obtain ⟨c0, c1, c2, c3⟩ := by8_val hc
    obtain ⟨d0, d1, d2, d3⟩ := by8_val hd
    rw [a0, a1, a2, a3, b0, b1, b2, b3, c0, c1, c2, c3, d0, d1, d2, d3] at h
    unfold U32 at *
    omega
  · rintro ⟨rfl, rfl⟩; rfl
theorem pnew_any (most : Int) (h0 : 0 ≤ most) (h1 : most ≤ 1048576) : PC Try.prog 30 [intL most] (.tup [tabL most tab0, intL 0]) := by
  have h := new_tab ir46 most h0 h1
  refine pc_of_call (callAt_enter ir30 (by simp) ?_)
  simp
  refine callT_closed h rfl ?_
  simp [z8]
theorem pnew_bad (most : Int) (h : most < 0 ∨ 1048576 < most) : PC Try.prog 30 [intL most] (.tup [.agg [intL 0, nilL, nilL], intL 1]) := by
  refine pc_of_call (callAt_enter ir30 (by simp) ?_)
  simp
  refine callT_closed (new_bad ir46 most h) rfl ?_
  simp
theorem pmany_any (cap : Int) (t : List (List Int) × List Int) : PC Try.prog 44 [tabL cap t] (intL t.1.length) := by
  have h := many_tab ir53 cap false false t.1 t.2
  refine pc_of_call (callAt_enter ir44 (by simp) ?_)
  simp
  refine callT_plain h rfl rfl ?_
  simp
theorem pfind_any (cap : Int) {t : List (List Int) × List Int} (ht : Tab t.1 t.2) (a b : Int) :
    PC Try.prog 68 [tabL cap t, u32L a, u32L b] (.tup [intL (if pk a b ∈ t.1 then (idx t.1 (pk a b) : Int) else 0), boolL (decide (pk a b ∈ t.1))]) := by
  have h := find_tab ir60 ir71 seekF cap false false true ht (pk a b) pk_byte (by simp [pk])
  refine pc_of_call (callAt_enter ir68 (by simp) ?_)
  simp
  refine bcallT_closed (of_any a b) rfl ?_
  simp
  refine bcallT_closed (key_any a b) rfl ?_
  simp
  refine callT_plain h rfl rfl ?_
  simp
theorem pins_any (cap : Int) {t : List (List Int) × List Int} (ht : Tab t.1 t.2) (a b : Int) (hn : t.1.length + 1 ≤ 1000000) :
    ∃ s, Tab (insK cap t.1 (pk a b)) s ∧ PC Try.prog 57 [tabL cap t, u32L a, u32L b] (.tup [tabL cap (insK cap t.1 (pk a b), s), intL (insI cap t.1 (pk a b)), boolL (insN cap t.1 (pk a b)), intL (insE cap t.1 (pk a b))]) := by
  obtain ⟨s, t', h⟩ := ins_gen insF cap ht (pk a b) pk_byte (by simp [pk]) hn
  refine ⟨s, t', ?_⟩
  have h := h true
  refine pc_of_call (callAt_enter ir57 (by simp) ?_)
  simp
  refine bcallT_closed (of_any a b) rfl ?_
  simp
  refine bcallT_closed (key_any a b) rfl ?_
  simp
  refine bcallT_closed h rfl ?_
  simp
theorem rows_any : ∀ n : Nat, n ≤ 1000000 → PC Try.prog 31 [intL n] (intL (n - 1 : Nat)) := fun n => by
  induction n using Nat.strongRecOn with
  | _ n ih =>
    intro hn
    refine pc_of_call (callAt_enter ir31 (by simp) ?_)
    by_cases h : n < 2
    · have h1 : (n : Int) < 2 := by omega
      have h2 : n - 1 = 0 := by omega
      simp [h1, h2]
    · have h1 : ¬ (n : Int) < 2 := by omega
      have hh := hf_le (m := n) (by omega)
      obtain ⟨k, hk⟩ : ∃ k, k = hf n := ⟨_, rfl⟩
      rw [← hk] at hh
      have w1 : IntKind.i64.wrap ((n : Int) + 1) = ((n + 1 : Nat) : Int) := by rw [wrap_id (by omega) (by omega)]; omega
      have w2 : IntKind.i64.wrap (((n + 1 : Nat) : Int).tdiv 2) = (k : Int) := by
        have : ((n + 1 : Nat) : Int).tdiv 2 = (k : Int) := by rw [hk, hf]; rfl
        rw [this, wrap_id (by omega) (by omega)]
      have w3 : IntKind.i64.wrap ((n : Int) - (k : Int)) = ((n - k : Nat) : Int) := by rw [wrap_id (by omega) (by omega)]; omega
      obtain ⟨a, ha⟩ : ∃ a, a = k - 1 := ⟨_, rfl⟩
      obtain ⟨b, hb⟩ : ∃ b, b = n - k - 1 := ⟨_, rfl⟩
      obtain ⟨c, hc⟩ : ∃ c, c = n - 1 := ⟨_, rfl⟩
      obtain ⟨d, hd⟩ : ∃ d, d = n - k := ⟨_, rfl⟩
      obtain ⟨n1, hn1⟩ : ∃ n1, n1 = n + 1 := ⟨_, rfl⟩
      have c1 := ih k (by omega) (by omega)
      have c2 := ih (n - k) (by omega) (by omega)
      rw [← ha] at c1
      rw [← hb, ← hd] at c2
      rw [← hn1] at w1 w2
      rw [← hd] at w3
      rw [← hc]
      have w4 : IntKind.i64.wrap (1 + (a : Int)) = (k : Int) := by rw [wrap_id (by omega) (by omega)]; omega
      have w5 : IntKind.i64.wrap ((k : Int) + (b : Int)) = (c : Int) := by rw [wrap_id (by omega) (by omega)]; omega
      have w2' : IntKind.i64.wrap ((n1 : Int) / 2) = (k : Int) := by rw [← w2, Int.tdiv_eq_ediv_of_nonneg (by omega)]
      simp [h1, w1, w2']
      refine callT_plain c1 rfl rfl ?_
      simp [w3, w4]
      refine callT_plain c2 rfl rfl ?_
      simp [w5]
end Go.Proofs.Ytagaakajpblmjaa
