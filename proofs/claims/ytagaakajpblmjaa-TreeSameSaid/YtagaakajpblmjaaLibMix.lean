/- Hashes, and small helpers that many packages share. -/
import Derived.Test.YtagaakajpblmjaaLgNX
namespace Lg
open Go
def irHash (a b c : Nat) : FnIR := ⟨37, [.t 4],
  (.seq (.ops [⟨some 4, .mov (.c (.v (.int .u64 0))), none⟩])
  (.seq (.ops [⟨some 11, .mov (.t 1), none⟩,
    ⟨some 12, .bin .xor false (.t 11) (.c (.v (.int .u64 11400714819323198485))), none⟩,
    ⟨some 5, .alloc (.v (.int .u64 0)), none⟩,
    ⟨none, .store 1 (.t 5) (.t 12), none⟩])
  (.seq (.seq (.ops [⟨some 13, .mov (.t 0), none⟩,
    ⟨some 14, .len false (.t 13), none⟩,
    ⟨some 15, .mov (.c (.v (.int .i64 0))), none⟩])
  (.block 0 (.loop
    (.seq (.ops [⟨some 16, .bin .lss false (.t 15) (.t 14), none⟩])
    (.seq (.cond (.t 16)
      .skip
      (.exit 0))
    (.seq (.block 1 (.seq (.ops [⟨some 17, .iaddr 1 (.t 13) (.t 15), none⟩,
      ⟨some 18, .load 1 false (.t 17), none⟩,
      ⟨some 7, .mov (.t 18), none⟩])
    (.ops [⟨some 19, .load 1 false (.t 5), none⟩,
      ⟨some 20, .mov (.t 7), none⟩,
      ⟨some 21, .conv .u64 (.t 20), none⟩,
      ⟨some 22, .bin .xor false (.t 19) (.t 21), none⟩,
      ⟨some 23, .bin .mul false (.t 22) (.c (.v (.int .u64 1099511628211))), none⟩,
      ⟨none, .store 1 (.t 5) (.t 23), none⟩])))
    (.ops [⟨some 24, .bin .add false (.t 15) (.c (.v (.int .i64 1))), none⟩,
      ⟨some 15, .mov (.t 24), none⟩])))))))
  (.seq (.ops [⟨some 25, .mkfn (.func a) [] [(.t 5)], none⟩,
    ⟨some 26, .mkfn (.func b) [] [(.t 5)], none⟩,
    ⟨some 27, .mkfn (.func c) [] [(.t 5)], none⟩,
    ⟨some 28, .build [(.v .nilFunc), (.v .nilFunc), (.v .nilFunc)] [(0, 1, (.t 25)), (1, 1, (.t 26)), (2, 1, (.t 27))], none⟩,
    ⟨some 8, .alloc (.agg [(.v .nilFunc), (.v .nilFunc), (.v .nilFunc)]), none⟩,
    ⟨none, .store 3 (.t 8) (.t 28), none⟩])
  (.seq (.seq (.ops [⟨some 29, .load 3 true (.t 8), none⟩,
    ⟨some 30, .mov (.c (.v (.int .i64 0))), none⟩])
  (.block 2 (.loop
    (.seq (.ops [⟨some 31, .bin .lss false (.t 30) (.c (.v (.int .i64 3))), none⟩])
    (.seq (.cond (.t 31)
      .skip
      (.exit 2))
    (.seq (.block 3 (.seq (.ops [⟨some 32, .idx 3 1 false (.t 29) (.t 30), none⟩,
      ⟨some 10, .mov (.t 32), none⟩])
    (.ops [⟨some 33, .mov (.t 10), none⟩,
      ⟨some 34, .calld (.t 33) [], none⟩])))
    (.ops [⟨some 35, .bin .add false (.t 30) (.c (.v (.int .i64 1))), none⟩,
      ⟨some 30, .mov (.t 35), none⟩])))))))
  (.seq (.ops [⟨some 36, .load 1 false (.t 5), none⟩,
    ⟨some 4, .mov (.t 36), none⟩])
  .ret))))))⟩
def irEnd1 : FnIR := ⟨5, [],
  (.ops [⟨some 1, .load 1 false (.t 0), none⟩,
    ⟨some 2, .load 1 false (.t 0), none⟩,
    ⟨some 3, .bin .shr false (.t 2) (.c (.v (.int .u64 29))), none⟩,
    ⟨some 4, .bin .xor false (.t 1) (.t 3), none⟩,
    ⟨none, .store 1 (.t 0) (.t 4), none⟩])⟩
def irEnd2 : FnIR := ⟨3, [],
  (.ops [⟨some 1, .load 1 false (.t 0), none⟩,
    ⟨some 2, .bin .mul false (.t 1) (.c (.v (.int .u64 13787848793156543929))), none⟩,
    ⟨none, .store 1 (.t 0) (.t 2), none⟩])⟩
def irEnd3 : FnIR := ⟨5, [],
  (.ops [⟨some 1, .load 1 false (.t 0), none⟩,
    ⟨some 2, .load 1 false (.t 0), none⟩,
    ⟨some 3, .bin .shr false (.t 2) (.c (.v (.int .u64 32))), none⟩,
    ⟨some 4, .bin .xor false (.t 1) (.t 3), none⟩,
    ⟨none, .store 1 (.t 0) (.t 4), none⟩])⟩
def irPlace : FnIR := ⟨12, [.t 4],
  (.seq (.ops [⟨some 4, .mov (.c (.v (.int .i64 0))), none⟩])
  (.seq (.seq (.ops [⟨some 5, .mov (.t 1), none⟩,
    ⟨some 6, .bin .lss false (.t 5) (.c (.v (.int .i64 1))), none⟩])
  (.cond (.t 6)
    (.seq (.ops [⟨some 4, .mov (.c (.v (.int .i64 0))), none⟩])
    .ret)
    .skip))
  (.seq (.ops [⟨some 7, .mov (.t 0), none⟩,
    ⟨some 8, .mov (.t 1), none⟩,
    ⟨some 9, .conv .u64 (.t 8), none⟩,
    ⟨some 10, .bin .rem false (.t 7) (.t 9), none⟩,
    ⟨some 11, .conv .i64 (.t 10), none⟩,
    ⟨some 4, .mov (.t 11), none⟩])
  .ret)))⟩
def irVec : FnIR := ⟨26, [.t 4],
  (.seq (.ops [⟨some 4, .mov (.c (.v (.bool false))), none⟩])
  (.seq (.seq (.ops [⟨some 6, .mov (.t 0), none⟩,
    ⟨some 7, .len false (.t 6), none⟩,
    ⟨some 8, .mov (.t 1), none⟩,
    ⟨some 9, .len false (.t 8), none⟩,
    ⟨some 10, .bin .neq false (.t 7) (.t 9), none⟩])
  (.cond (.t 10)
    (.seq (.ops [⟨some 4, .mov (.c (.v (.bool false))), none⟩])
    .ret)
    .skip))
  (.seq (.seq (.ops [⟨some 5, .mov (.c (.v (.int .i64 0))), none⟩])
  (.block 0 (.loop
    (.seq (.seq (.ops [⟨some 11, .mov (.t 5), none⟩,
      ⟨some 12, .mov (.t 0), none⟩,
      ⟨some 13, .len false (.t 12), none⟩,
      ⟨some 14, .bin .lss false (.t 11) (.t 13), none⟩])
    (.cond (.t 14)
      .skip
      (.exit 0)))
    (.seq (.block 1 (.seq (.draw [[⟨some 17, .mov (.t 0), none⟩,
        ⟨some 18, .mov (.t 5), none⟩,
        ⟨some 19, .iaddr 1 (.t 17) (.t 18), none⟩,
        ⟨some 20, .load 1 false (.t 19), none⟩,
        ⟨some 21, .mov (.t 1), none⟩,
        ⟨some 22, .mov (.t 5), none⟩,
        ⟨some 23, .iaddr 1 (.t 21) (.t 22), none⟩,
        ⟨some 24, .load 1 false (.t 23), none⟩],
      [⟨some 25, .bin .neq false (.t 20) (.t 24), none⟩]])
    (.cond (.t 25)
      (.seq (.ops [⟨some 4, .mov (.c (.v (.bool false))), none⟩])
      .ret)
      .skip)))
    (.ops [⟨some 15, .mov (.t 5), none⟩,
      ⟨some 16, .bin .add false (.t 15) (.c (.v (.int .i64 1))), none⟩,
      ⟨some 5, .mov (.t 16), none⟩]))))))
  (.seq (.ops [⟨some 4, .mov (.c (.v (.bool true))), none⟩])
  .ret))))⟩
abbrev u8L (n : Int) : L := .v (.int .u8 n)
abbrev u64L (n : Int) : L := .v (.int .u64 n)
abbrev intL (n : Int) : L := .v (.int .i64 n)
abbrev boolL (b : Bool) : L := .v (.bool b)
def hstep (h c : Int) : Int := IntKind.u64.wrap (bitsI .xor .u64 h (IntKind.u64.wrap c) * 1099511628211)
def hloop (s : Int) (bs : List Int) : Int := bs.foldl hstep (bitsI .xor .u64 s 11400714819323198485)
def hend1 (h : Int) : Int := bitsI .xor .u64 h (shrI .u64 h 29)
def hend2 (h : Int) : Int := IntKind.u64.wrap (h * 13787848793156543929)
def hend3 (h : Int) : Int := bitsI .xor .u64 h (shrI .u64 h 32)
def hash (bs : List Int) (s : Int) : Int := hend3 (hend2 (hend1 (hloop s bs)))
def hends (h : Int) : Nat → Int
  | 0 => h
  | 1 => hend1 h
  | 2 => hend2 (hend1 h)
  | _ => hend3 (hend2 (hend1 h))
theorem hloop_succ (s : Int) (bs : List Int) (i : Nat) (h : i < bs.length) : hloop s (bs.take (i + 1)) = hstep (hloop s (bs.take i)) bs[i] := by
  unfold hloop
  rw [List.take_succ_eq_append_getElem h, List.foldl_append]; rfl
theorem hash_gen {P : Program} {f a b' c' : Nat} (ir8 : compF P f = some (irHash a b' c')) (ir15 : compF P a = some irEnd1) (ir16 : compF P b' = some irEnd2) (ir17 : compF P c' = some irEnd3) (c : Bool) (bs : List Int) (hl : bs.length ≤ 1000000000) (s : Int) : PC P f [.sl 1 c (bs.map u8L), u64L s] (u64L (hash bs s)) := by
  refine pc_of_call (callAt_enter ir8 (by simp [irHash]) ?_)
  simp [irHash]
  refine lwp_loop (fun i : Nat => [(13, .sl 1 c (bs.map u8L)), (14, intL bs.length), (15, intL i), (5, .ptr 0 0)]) (fun i => [some [u64L (hloop s (bs.take i))]]) (fun i => bs.length - i) (fun i => i ≤ bs.length) 0 (Nat.zero_le _) ⟨[0], ?_⟩ ?_
  · simp [hloop]
  · intro i hi
    simp
    refine ⟨fun hlt => ?_, fun hge => ?_⟩
    · simp [hlt]
      refine ⟨i + 1, by simp <;> omega, by simp <;> omega, [0], ?_⟩
      simp [hloop_succ s bs i hlt, hstep]
      exact wrap_id (by omega) (by omega)
    · have : i = bs.length := by omega
      subst this
      rw [List.take_length]
      refine lwp_loop (fun i : Nat => [(29, .agg [.fn (.func a) [] [.ptr 0 0], .fn (.func b') [] [.ptr 0 0], .fn (.func c') [] [.ptr 0 0]]), (30, intL i), (5, .ptr 0 0)]) (fun i => [some [u64L (hends (hloop s bs) i)]]) (fun i => 3 - i) (fun i => i ≤ 3) 0 (by omega) ⟨[0], ?_⟩ ?_
      · simp [hends]
      · intro i hi
        have : i = 0 ∨ i = 1 ∨ i = 2 ∨ i = 3 := by omega
        rcases this with rfl | rfl | rfl | rfl
        · simp
          refine callAt_enter ir15 (by simp [irEnd1]) ?_
          simp [irEnd1]
          exact ⟨1, by simp, by simp, [0], by simp [hends, hend1]; exact wrap_id (by omega) (by omega)⟩
        · simp
          refine callAt_enter ir16 (by simp [irEnd2]) ?_
          simp [irEnd2]
          exact ⟨2, by simp, by simp, [0], by simp [hends, hend2]; exact wrap_id (by omega) (by omega)⟩
        · simp
          refine callAt_enter ir17 (by simp [irEnd3]) ?_
          simp [irEnd3]
          exact ⟨3, by simp, by simp, [0], by simp [hends, hend3]; exact wrap_id (by omega) (by omega)⟩
        · simp [hends, hash]
def place (h n : Int) : Int := if n < 1 then 0 else IntKind.i64.wrap (h.tmod (IntKind.u64.wrap n))
theorem u64_id {n : Int} (h0 : 0 ≤ n) (h1 : n ≤ 9223372036854775807) : IntKind.u64.wrap n = n := by
  simp [IntKind.wrap, IntKind.signed, IntKind.bits]; omega
theorem place_gen {P : Program} {f : Nat} (ir10 : compF P f = some irPlace) (h n : Int) (hn : n ≤ 9223372036854775807) : PC P f [u64L h, intL n] (intL (place h n)) := by
  refine pc_of_call (callAt_enter ir10 (by simp [irPlace]) ?_)
  simp [irPlace, place]
  by_cases h1 : n < 1
  · simp [h1]; omega
  · have h3 := u64_id (show 0 ≤ n by omega) hn
    simp [h1, h3]; omega
theorem vec_gen {P : Program} {f : Nat} (ir12 : compF P f = some irVec) (c c' : Bool) (xs ys : List Int) (hl : xs.length ≤ 1000000000) : PC P f [.sl 1 c (xs.map intL), .sl 1 c' (ys.map intL)] (boolL (decide (xs = ys))) := by
  refine pc_of_call (callAt_enter ir12 (by simp [irVec]) ?_)
  simp [irVec]
  refine ⟨fun hne e => hne (by rw [e]), fun hlen => ?_⟩
  refine lwp_loop (fun i : Nat => [(0, .sl 1 c (xs.map intL)), (1, .sl 1 c' (ys.map intL)), (5, intL i)]) (fun i => []) (fun i => xs.length - i) (fun i => i ≤ xs.length ∧ xs.take i = ys.take i) 0 (by simp) ⟨[], ?_⟩ ?_
  · simp
  · rintro i ⟨hi, he⟩
    simp
    refine ⟨fun hlt => ?_, fun hge => ?_⟩
    · have hlt' : i < ys.length := by omega
      simp [hlt, hlt']
      refine ⟨fun hne e => hne (by simp [e]), fun heq => ⟨i + 1, ?_, by simp <;> omega, [], ?_⟩⟩
      · refine ⟨by omega, ?_⟩
        rw [List.take_succ_eq_append_getElem hlt, List.take_succ_eq_append_getElem hlt', he, heq]
      · simp
        exact wrap_id (by omega) (by omega)
    · have h1 : i = xs.length := by omega
      have h2 : i = ys.length := by omega
      have : xs = ys := by
        rw [h1, List.take_length, ← h1, h2, List.take_length] at he
        exact he
      simp [this]
theorem u64_range (x : Int) : 0 ≤ IntKind.u64.wrap x ∧ IntKind.u64.wrap x < 18446744073709551616 := by
  simp [IntKind.wrap, IntKind.signed, IntKind.bits]; omega
theorem hloop_range (s : Int) (bs : List Int) : 0 ≤ hloop s bs ∧ hloop s bs < 18446744073709551616 := by
  unfold hloop
  have h0 : 0 ≤ bitsI .xor .u64 s 11400714819323198485 ∧ bitsI .xor .u64 s 11400714819323198485 < 18446744073709551616 := u64_range _
  revert h0
  generalize bitsI .xor .u64 s 11400714819323198485 = h
  induction bs generalizing h with
  | nil => exact id
  | cons b bs ih => intro _; exact ih _ (u64_range _)
end Lg
