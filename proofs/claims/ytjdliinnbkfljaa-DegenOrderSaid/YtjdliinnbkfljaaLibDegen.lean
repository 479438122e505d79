/- The automaton with one set: what the program computes. -/
import Derived.Test.YtjdliinnbkfljaaLibTakes
namespace Lg
open Go

def irIndex : FnIR := ⟨19, [.t 4],
  (.seq (.ops [⟨some 4, .mov (.c (.v (.int .i64 0))), none⟩])
  (.seq (.seq (.ops [⟨some 6, .mov (.t 0), none⟩,
    ⟨some 7, .len false (.t 6), none⟩,
    ⟨some 8, .mov (.c (.v (.int .i64 0))), none⟩])
  (.block 0 (.loop
    (.seq (.ops [⟨some 9, .bin .lss false (.t 8) (.t 7), none⟩])
    (.seq (.cond (.t 9)
      .skip
      (.exit 0))
    (.seq (.block 1 (.seq (.ops [⟨some 10, .mov (.t 8), none⟩,
      ⟨some 5, .mov (.t 10), none⟩])
    (.seq (.ops [⟨some 11, .mov (.t 1), none⟩,
      ⟨some 12, .mov (.t 0), none⟩,
      ⟨some 13, .mov (.t 5), none⟩,
      ⟨some 14, .iaddr 1 (.t 12) (.t 13), none⟩,
      ⟨some 15, .load 1 false (.t 14), none⟩,
      ⟨some 16, .bin .eql false (.t 11) (.t 15), none⟩])
    (.cond (.t 16)
      (.seq (.ops [⟨some 17, .mov (.t 5), none⟩,
        ⟨some 4, .mov (.t 17), none⟩])
      .ret)
      .skip))))
    (.ops [⟨some 18, .bin .add false (.t 8) (.c (.v (.int .i64 1))), none⟩,
      ⟨some 8, .mov (.t 18), none⟩])))))))
  (.seq (.ops [⟨some 4, .mov (.c (.v (.int .i64 (-1)))), none⟩])
  .ret)))⟩

def irContains (ix : Nat) : FnIR := ⟨9, [.t 4],
  (.seq (.ops [⟨some 4, .mov (.c (.v (.bool false))), none⟩])
  (.seq (.ops [⟨some 5, .mov (.t 0), none⟩,
    ⟨some 6, .mov (.t 1), none⟩,
    ⟨some 7, .call ix [(.t 5), (.t 6)], none⟩,
    ⟨some 8, .bin .geq false (.t 7) (.c (.v (.int .i64 0))), none⟩,
    ⟨some 4, .mov (.t 8), none⟩])
  .ret))⟩

def irNumber : FnIR := ⟨12, [.t 4],
  (.seq (.ops [⟨some 2, .box (.t 0), none⟩,
    ⟨some 4, .mov (.c (.v (.int .i64 0))), none⟩])
  (.seq (.ops [⟨some 5, .faddr 0 (.t 2), none⟩,
    ⟨some 6, .load 1 false (.t 5), none⟩,
    ⟨some 7, .mov (.t 1), none⟩,
    ⟨some 8, .bin .mul false (.t 6) (.t 7), none⟩,
    ⟨some 9, .faddr 1 (.t 2), none⟩,
    ⟨some 10, .load 1 false (.t 9), none⟩,
    ⟨some 11, .bin .add false (.t 8) (.t 10), none⟩,
    ⟨some 4, .mov (.t 11), none⟩])
  .ret))⟩

def irOfb6 (nu co : Nat) : IR := (.loop
        (.seq (.ops [⟨some 70, .bin .lss false (.t 69) (.t 68), none⟩])
        (.seq (.cond (.t 70)
          .skip
          (.exit 6))
        (.seq (.block 7 (.seq (.ops [⟨some 71, .iaddr 1 (.t 67) (.t 69), none⟩,
          ⟨some 72, .load 1 false (.t 71), none⟩,
          ⟨some 15, .mov (.t 72), none⟩])
        (.ops [⟨some 73, .mov (.t 13), none⟩,
          ⟨some 74, .mov (.t 8), none⟩,
          ⟨some 75, .mov (.t 15), none⟩,
          ⟨some 76, .mov (.t 12), none⟩,
          ⟨some 77, .build [(.v (.int .i64 0)), (.v (.int .i64 0))] [(0, 1, (.t 75)), (1, 1, (.t 76))], none⟩,
          ⟨some 78, .mov (.t 7), none⟩,
          ⟨some 79, .calld (.t 74) [(.t 77), (.t 78)], none⟩,
          ⟨some 80, .bslice 1 [(.v (.int .i64 0))] 1 [(0, 1, (.t 79))], none⟩,
          ⟨some 81, .append 1 8 [(.v (.int .i64 0))] (.t 73) (.t 80), none⟩,
          ⟨some 13, .mov (.t 81), none⟩])))
        (.ops [⟨some 82, .bin .add false (.t 69) (.c (.v (.int .i64 1))), none⟩,
          ⟨some 69, .mov (.t 82), none⟩])))))

def irOfb5 (nu co : Nat) : IR := (.seq (.ops [⟨some 50, .mov (.t 48), none⟩,
        ⟨some 11, .mov (.t 50), none⟩])
      (.seq (.ops [⟨some 51, .mov (.t 11), none⟩,
        ⟨some 12, .mov (.t 51), none⟩])
      (.seq (.seq (.ops [⟨some 52, .mov (.t 4), none⟩,
        ⟨some 53, .mov (.t 11), none⟩,
        ⟨some 54, .iaddr 1 (.t 52) (.t 53), none⟩,
        ⟨some 55, .load 1 false (.t 54), none⟩,
        ⟨some 56, .mov (.t 10), none⟩,
        ⟨some 57, .call co [(.t 55), (.t 56)], none⟩])
      (.cond (.t 57)
        (.ops [⟨some 58, .mov (.t 11), none⟩,
          ⟨some 59, .bin .add false (.t 58) (.c (.v (.int .i64 1))), none⟩,
          ⟨some 60, .mov (.t 7), none⟩,
          ⟨some 61, .bin .rem false (.t 59) (.t 60), none⟩,
          ⟨some 12, .mov (.t 61), none⟩])
        .skip))
      (.seq (.ops [⟨some 62, .bslice 1 [(.v (.int .i64 0))] 0 [], none⟩,
        ⟨some 13, .mov (.t 62), none⟩])
      (.seq (.seq (.ops [⟨some 63, .faddr 1 (.t 1), none⟩,
        ⟨some 64, .load 1 false (.t 63), none⟩,
        ⟨some 65, .mov (.t 10), none⟩,
        ⟨some 66, .iaddr 1 (.t 64) (.t 65), none⟩,
        ⟨some 67, .load 1 false (.t 66), none⟩,
        ⟨some 68, .len false (.t 67), none⟩,
        ⟨some 69, .mov (.c (.v (.int .i64 0))), none⟩])
      (.block 6 (irOfb6 nu co)))
      (.seq (.draw [[⟨some 83, .faddr 0 (.t 9), none⟩,
          ⟨some 84, .load 1 false (.t 83), none⟩,
          ⟨some 85, .faddr 0 (.t 1), none⟩,
          ⟨some 86, .load 1 false (.t 85), none⟩,
          ⟨some 87, .mov (.t 10), none⟩,
          ⟨some 88, .iaddr 1 (.t 86) (.t 87), none⟩,
          ⟨some 89, .load 1 false (.t 88), none⟩,
          ⟨some 90, .bslice 1 [(.v (.slice none 0 0))] 1 [(0, 1, (.t 89))], none⟩],
        [⟨some 91, .append 1 24 [(.v (.slice none 0 0))] (.t 84) (.t 90), none⟩],
        [⟨some 92, .faddr 0 (.t 9), none⟩],
        [⟨none, .store 1 (.t 92) (.t 91), none⟩]])
      (.ops [⟨some 93, .faddr 1 (.t 9), none⟩,
        ⟨some 94, .load 1 false (.t 93), none⟩,
        ⟨some 95, .mov (.t 13), none⟩,
        ⟨some 96, .bslice 1 [(.v (.slice none 0 0))] 1 [(0, 1, (.t 95))], none⟩,
        ⟨some 97, .append 1 24 [(.v (.slice none 0 0))] (.t 94) (.t 96), none⟩,
        ⟨some 98, .faddr 1 (.t 9), none⟩,
        ⟨none, .store 1 (.t 98) (.t 97), none⟩])))))))

def irOfb3 (nu co : Nat) : IR := (.seq (.ops [⟨some 46, .mov (.t 44), none⟩,
      ⟨some 10, .mov (.t 46), none⟩])
    (.seq (.ops [⟨some 47, .mov (.t 7), none⟩,
      ⟨some 48, .mov (.c (.v (.int .i64 0))), none⟩])
    (.block 4 (.loop
      (.seq (.ops [⟨some 49, .bin .lss false (.t 48) (.t 47), none⟩])
      (.seq (.cond (.t 49)
        .skip
        (.exit 4))
      (.seq (.block 5 (irOfb5 nu co))
      (.ops [⟨some 99, .bin .add false (.t 48) (.c (.v (.int .i64 1))), none⟩,
        ⟨some 48, .mov (.t 99), none⟩]))))))))

def irOfb2 (nu co : Nat) : IR := (.loop
    (.seq (.ops [⟨some 45, .bin .lss false (.t 44) (.t 43), none⟩])
    (.seq (.cond (.t 45)
      .skip
      (.exit 2))
    (.seq (.block 3 (irOfb3 nu co))
    (.ops [⟨some 100, .bin .add false (.t 44) (.c (.v (.int .i64 1))), none⟩,
      ⟨some 44, .mov (.t 100), none⟩])))))

def irOfb8 (nu co : Nat) : IR := (.loop
    (.seq (.ops [⟨some 105, .bin .lss false (.t 104) (.t 103), none⟩])
    (.seq (.cond (.t 105)
      .skip
      (.exit 8))
    (.seq (.block 9 (.seq (.ops [⟨some 106, .iaddr 1 (.t 102) (.t 104), none⟩,
      ⟨some 107, .load 1 false (.t 106), none⟩,
      ⟨some 17, .mov (.t 107), none⟩])
    (.draw [[⟨some 108, .faddr 2 (.t 9), none⟩,
        ⟨some 109, .load 1 false (.t 108), none⟩,
        ⟨some 110, .mov (.t 8), none⟩,
        ⟨some 111, .mov (.t 17), none⟩,
        ⟨some 112, .build [(.v (.int .i64 0)), (.v (.int .i64 0))] [(0, 1, (.t 111)), (1, 1, (.c (.v (.int .i64 0))))], none⟩,
        ⟨some 113, .mov (.t 7), none⟩,
        ⟨some 114, .calld (.t 110) [(.t 112), (.t 113)], none⟩,
        ⟨some 115, .bslice 1 [(.v (.int .i64 0))] 1 [(0, 1, (.t 114))], none⟩],
      [⟨some 116, .append 1 8 [(.v (.int .i64 0))] (.t 109) (.t 115), none⟩],
      [⟨some 117, .faddr 2 (.t 9), none⟩],
      [⟨none, .store 1 (.t 117) (.t 116), none⟩]])))
    (.ops [⟨some 118, .bin .add false (.t 104) (.c (.v (.int .i64 1))), none⟩,
      ⟨some 104, .mov (.t 118), none⟩])))))

def irOfb10 (nu co : Nat) : IR := (.loop
    (.seq (.ops [⟨some 122, .bin .lss false (.t 121) (.t 120), none⟩])
    (.seq (.cond (.t 122)
      .skip
      (.exit 10))
    (.seq (.block 11 (.seq (.ops [⟨some 123, .mov (.t 121), none⟩,
      ⟨some 19, .mov (.t 123), none⟩])
    (.seq (.ops [⟨some 124, .mov (.t 4), none⟩,
      ⟨some 125, .iaddr 1 (.t 124) (.c (.v (.int .i64 0))), none⟩,
      ⟨some 126, .load 1 false (.t 125), none⟩,
      ⟨some 127, .mov (.t 19), none⟩,
      ⟨some 128, .call co [(.t 126), (.t 127)], none⟩])
    (.cond (.t 128)
      (.ops [⟨some 129, .mov (.t 18), none⟩,
        ⟨some 130, .mov (.t 8), none⟩,
        ⟨some 131, .mov (.t 19), none⟩,
        ⟨some 132, .build [(.v (.int .i64 0)), (.v (.int .i64 0))] [(0, 1, (.t 131)), (1, 1, (.c (.v (.int .i64 0))))], none⟩,
        ⟨some 133, .mov (.t 7), none⟩,
        ⟨some 134, .calld (.t 130) [(.t 132), (.t 133)], none⟩,
        ⟨some 135, .bslice 1 [(.v (.int .i64 0))] 1 [(0, 1, (.t 134))], none⟩,
        ⟨some 136, .append 1 8 [(.v (.int .i64 0))] (.t 129) (.t 135), none⟩,
        ⟨some 18, .mov (.t 136), none⟩])
      .skip))))
    (.ops [⟨some 137, .bin .add false (.t 121) (.c (.v (.int .i64 1))), none⟩,
      ⟨some 121, .mov (.t 137), none⟩])))))

def irOf8 (nu co : Nat) : IR := (.seq (.seq (.ops [⟨some 101, .faddr 2 (.t 1), none⟩,
    ⟨some 102, .load 1 false (.t 101), none⟩,
    ⟨some 103, .len false (.t 102), none⟩,
    ⟨some 104, .mov (.c (.v (.int .i64 0))), none⟩])
  (.block 8 (irOfb8 nu co)))
  (.seq (.ops [⟨some 119, .bslice 1 [(.v (.int .i64 0))] 0 [], none⟩,
    ⟨some 18, .mov (.t 119), none⟩])
  (.seq (.seq (.ops [⟨some 120, .mov (.t 3), none⟩,
    ⟨some 121, .mov (.c (.v (.int .i64 0))), none⟩])
  (.block 10 (irOfb10 nu co)))
  (.seq (.ops [⟨some 138, .mov (.t 18), none⟩,
    ⟨some 139, .bslice 1 [(.v (.slice none 0 0))] 1 [(0, 1, (.t 138))], none⟩,
    ⟨some 140, .faddr 3 (.t 9), none⟩,
    ⟨none, .store 1 (.t 140) (.t 139), none⟩])
  (.seq (.ops [⟨some 141, .load 4 true (.t 9), none⟩,
    ⟨none, .store 4 (.t 2) (.t 141), none⟩])
  .ret)))))

def irOf (nu co : Nat) : FnIR := ⟨142, [.c 2 4 true],
  (.seq (.ops [⟨some 1, .box (.t 0), none⟩,
    ⟨some 2, .alloc (.agg [(.v (.slice none 0 0)), (.v (.slice none 0 0)), (.v (.slice none 0 0)), (.v (.slice none 0 0))]), none⟩])
  (.seq (.ops [⟨some 20, .faddr 0 (.t 1), none⟩,
    ⟨some 21, .load 1 false (.t 20), none⟩,
    ⟨some 22, .len false (.t 21), none⟩,
    ⟨some 3, .mov (.t 22), none⟩])
  (.seq (.ops [⟨some 23, .faddr 3 (.t 1), none⟩,
    ⟨some 24, .load 1 false (.t 23), none⟩,
    ⟨some 4, .mov (.t 24), none⟩])
  (.seq (.seq (.ops [⟨some 25, .mov (.t 4), none⟩,
    ⟨some 26, .len false (.t 25), none⟩,
    ⟨some 27, .bin .eql false (.t 26) (.c (.v (.int .i64 0))), none⟩])
  (.cond (.t 27)
    (.seq (.ops [⟨some 28, .mov (.t 3), none⟩,
      ⟨some 29, .mksl 1 8 [(.v (.int .i64 0))] (.t 28) (.t 28), none⟩,
      ⟨some 5, .mov (.t 29), none⟩])
    (.seq (.seq (.ops [⟨some 30, .mov (.t 3), none⟩,
      ⟨some 31, .mov (.c (.v (.int .i64 0))), none⟩])
    (.block 0 (.loop
      (.seq (.ops [⟨some 32, .bin .lss false (.t 31) (.t 30), none⟩])
      (.seq (.cond (.t 32)
        .skip
        (.exit 0))
      (.seq (.block 1 (.seq (.ops [⟨some 33, .mov (.t 31), none⟩,
        ⟨some 6, .mov (.t 33), none⟩])
      (.ops [⟨some 34, .mov (.t 5), none⟩,
        ⟨some 35, .mov (.t 6), none⟩,
        ⟨some 36, .mov (.t 6), none⟩,
        ⟨some 37, .iaddr 1 (.t 34) (.t 35), none⟩,
        ⟨none, .store 1 (.t 37) (.t 36), none⟩])))
      (.ops [⟨some 38, .bin .add false (.t 31) (.c (.v (.int .i64 1))), none⟩,
        ⟨some 31, .mov (.t 38), none⟩])))))))
    (.ops [⟨some 39, .mov (.t 5), none⟩,
      ⟨some 40, .bslice 1 [(.v (.slice none 0 0))] 1 [(0, 1, (.t 39))], none⟩,
      ⟨some 4, .mov (.t 40), none⟩])))
    .skip))
  (.seq (.ops [⟨some 41, .mov (.t 4), none⟩,
    ⟨some 42, .len false (.t 41), none⟩,
    ⟨some 7, .mov (.t 42), none⟩])
  (.seq (.ops [⟨some 8, .mov (.c (.fn (.func nu) [] [])), none⟩])
  (.seq (.ops [⟨some 9, .alloc (.agg [(.v (.slice none 0 0)), (.v (.slice none 0 0)), (.v (.slice none 0 0)), (.v (.slice none 0 0))]), none⟩])
  (.seq (.seq (.ops [⟨some 43, .mov (.t 3), none⟩,
    ⟨some 44, .mov (.c (.v (.int .i64 0))), none⟩])
  (.block 2 (irOfb2 nu co)))
  (irOf8 nu co)))))))))⟩



theorem index_gen {P : Program} {f : Nat} (ir : compF P f = some irIndex) {c : Bool} (xs : List Int) (hl : xs.length ≤ 17592186044416) (n : Int) : PC P f [.sl 1 c (xs.map intL), intL n] (intL (if n ∈ xs then (xs.idxOf n : Int) else -1)) := by
  refine pc_of_call (callAt_enter ir (by simp [irIndex]) ?_)
  simp only [irIndex]
  simp
  refine lwp_loop (fun i : Nat => [(0, .sl 1 c (xs.map intL)), (1, intL n), (7, intL xs.length), (8, intL i)]) (fun _ => []) (fun i => xs.length - i) (fun i => i ≤ xs.length ∧ n ∉ xs.take i) 0 (by simp) ⟨[], ?_⟩ ?_
  · simp
  · rintro i ⟨hi, hall⟩
    by_cases hlt : i < xs.length
    · have hw : IntKind.i64.wrap ((i : Int) + 1) = ((i + 1 : Nat) : Int) := wrap_id (by omega) (by omega)
      by_cases h1 : n = xs[i]
      · have hm : n ∈ xs := by rw [h1]; exact List.getElem_mem hlt
        have hidx : xs.idxOf n = i := by
          have e : xs = xs.take i ++ n :: xs.drop (i + 1) := by rw [h1]; simp
          conv => lhs; rw [e]
          rw [List.idxOf_append, if_neg hall, List.idxOf_cons_self]
          simp; omega
        simp [hlt, hm, hidx, ← h1]
      · simp [hlt, h1]
        refine ⟨i + 1, ⟨by omega, fun hx => ?_⟩, by simp <;> omega, [], ?_⟩
        · rw [List.take_succ_eq_append_getElem hlt] at hx
          rcases List.mem_append.1 hx with h | h
          · exact hall h
          · simp at h; exact h1 h
        · simp [hw]
    · have hge : xs.length ≤ i := by omega
      rw [List.take_of_length_le hge] at hall
      simp [hlt, hge, hall]

theorem contains_gen {P : Program} {f ix : Nat} (ir : compF P f = some (irContains ix)) (iix : compF P ix = some irIndex) {c : Bool} (xs : List Int) (hl : xs.length ≤ 17592186044416) (n : Int) : PC P f [.sl 1 c (xs.map intL), intL n] (boolL (decide (n ∈ xs))) := by
  refine pc_of_call (callAt_enter ir (by simp [irContains]) ?_)
  simp [irContains]
  refine callT_plain (index_gen iix (c := c) xs hl n) rfl (by simp) ?_
  by_cases h : n ∈ xs
  · simp [h]
  · simp [h]

theorem number_gen {P : Program} {f : Nat} (ir : compF P f = some irNumber) (q i k : Int) : PC P f [.agg [intL q, intL i], intL k] (intL (w64 (w64 (q * k) + i))) := by
  refine pc_of_call (callAt_enter ir (by simp [irNumber]) ?_)
  simp [irNumber]

def Aut.sets (a : Aut) : List (List Int) := if a.acc = [] then [(List.range a.lits.length).map fun q : Nat => (q : Int)] else a.acc
def Aut.k (a : Aut) : Nat := a.sets.length
/-- Where an edge leads, of a state that waits for a set. -/
def Aut.to (a : Aut) (q i : Nat) : Nat := if (q : Int) ∈ a.sets.getD i [] then (i + 1) % a.k else i
def degRow (a : Aut) (x : Nat) : List Int := (a.next.getD (x / a.k) []).map fun p => p * (a.k : Int) + (a.to (x / a.k) (x % a.k) : Int)
def degLit (a : Aut) (x : Nat) : List T := a.lits.getD (x / a.k) []
def degAcc (a : Aut) (m : Nat) : List Int := ((List.range m).filter fun q : Nat => decide ((q : Int) ∈ a.sets.getD 0 [])).map fun q : Nat => ((q * a.k : Nat) : Int)
def degenOf (a : Aut) : Aut := ⟨(List.range (a.lits.length * a.k)).map (degLit a), (List.range (a.lits.length * a.k)).map (degRow a), a.init.map (· * (a.k : Int)), [degAcc a a.lits.length]⟩

def setsV (a : Aut) : L := .sl 1 (decide (a.acc = [])) (a.sets.map fun s => .sl 1 (decide (a.acc = [])) (s.map intL))
def ofB (nu : Nat) (a : Aut) (k q i : Nat) : Env := [(1, .ptr 0 0), (2, .ptr 1 0), (3, intL a.lits.length), (4, setsV a), (7, intL k), (8, .fn (.func nu) [] []), (9, .ptr 2 0), (10, intL q), (43, intL a.lits.length), (44, intL q), (47, intL k), (48, intL i)]

/-- What is asked of an automaton that is made one with one set. -/
structure OfOk (a : Aut) : Prop where
  ok : a.Ok
  right : a.right = true
  few : a.lits.length ≤ 1000
  sets : a.acc.length ≤ 1000
  rows : ∀ r ∈ a.next, r.length < 4000
  init : a.init.length < 4000

theorem of_b6 {P : Program} {nu co : Nat} (inu : compF P nu = some irNumber) {a : Aut} {k q i : Nat} {to : Int} {row : List Int} (hrl : row.length < 4000) (hrow : ∀ s ∈ row, 0 ≤ s ∧ s ≤ 1000000) (hk : k ≤ 1000) (hto : 0 ≤ to ∧ to ≤ 1000000)
    {H0 : Heap} (hlen : 3 ≤ H0.length) (hs : shut H0.length H0) {Q : X → Env → Heap → Prop} {E : Env} (hE : ∀ p ∈ ofB nu a k q i, lk E p.1 = p.2) (h12 : lk E 12 = intL to) (h13 : lk E 13 = .view 1 H0.length 0 0 true) (h67 : lk E 67 = .sl 1 false (row.map intL)) (h68 : lk E 68 = intL row.length) (h69 : lk E 69 = intL 0)
    (hQ : ∀ E', (∀ p ∈ ofB nu a k q i, lk E' p.1 = p.2) → lk E' 13 = .view 1 H0.length 0 row.length (decide (row.length = 0)) → Q .normal E' (H0 ++ [some ((row.map fun p => p * (k : Int) + to).map intL)])) :
    lwp P 0 (irOfb6 nu co) (X.inBlock 6 Q) E (H0 ++ [some []]) := by
  obtain ⟨ls, hls⟩ : ∃ ls, ls = (row.map fun p => p * (k : Int) + to).map intL := ⟨_, rfl⟩
  rw [← hls] at hQ
  have hel : ls.length = row.length := by simp [hls]
  have hbel : ∀ m : Nat, ∀ y, belowL m (ls.take y) = true := fun m y => by rw [hls, ← List.map_take, belowL_map]; simp
  have hren : ∀ (f : Nat → Nat) y, renL f (ls.take y) = ls.take y := fun f y => by rw [hls, ← List.map_take, renL_map]; simp
  simp only [irOfb6]
  have hb0 : 0 < H0.length := by omega
  have hb1 : 1 < H0.length := by omega
  have hb2 : 2 < H0.length := by omega
  simp only [ofB, List.mem_cons, List.not_mem_nil, or_false, forall_eq_or_imp, forall_eq] at hE
  obtain ⟨g1, g2, g3, g4, g7, g8, g9, g10, g43, g44, g47, g48⟩ := hE
  refine lwp_loop (fun j : Nat => ofB nu a k q i ++ [(12, intL to), (13, .view 1 H0.length 0 j (decide (j = 0))), (67, .sl 1 false (row.map intL)), (68, intL row.length), (69, intL j)])
    (fun j => H0 ++ [some (ls.take j)]) (fun j => row.length - j) (fun j => j ≤ row.length) 0 (by simp) ?_ ?_
  · refine weak_app [H0.length] (by omega) hs (by simp) (by simp) fun f hf ht => ?_
    have t0 := ht 0 (by simp)
    simp at t0
    simp [ofB, setsV, hf 0 hb0, hf 1 hb1, hf 2 hb2, t0, g1, g2, g3, g4, g7, g8, g9, g10, g43, g44, g47, g48, h12, h13, h67, h68, h69]
    exact ⟨hb0, by omega⟩
  · intro j hj
    by_cases hlt : j < row.length
    · have hek : j < ls.length := by omega
      obtain ⟨s1, s2⟩ := hrow _ (List.getElem_mem hlt)
      have hpk : 0 ≤ row[j] * (k : Int) ∧ row[j] * (k : Int) ≤ 1000000000 := by
        refine ⟨Int.mul_nonneg s1 (by omega), ?_⟩
        have := Int.mul_le_mul s2 (show (k : Int) ≤ 1000 by omega) (by omega) (by omega)
        omega
      have hv : ls[j] = .v (.int .i64 (row[j] * (k : Int) + to)) := by simp [hls]
      have hw1 : IntKind.i64.wrap (row[j] * (k : Int)) = row[j] * (k : Int) := wrap_id (by omega) (by omega)
      have hw2 : IntKind.i64.wrap (row[j] * (k : Int) + to) = row[j] * (k : Int) + to := wrap_id (by omega) (by omega)
      have hw3 : IntKind.i64.wrap ((j : Int) + 1) = ((j + 1 : Nat) : Int) := wrap_id (by omega) (by omega)
      have hsucc : ls.take (j + 1) = ls.take j ++ [.v (.int .i64 (row[j] * (k : Int) + to))] := by
        rw [List.take_succ_eq_append_getElem hek, hv]
      have hmin : min j ls.length = j := by omega
      have hnum := number_gen inu row[j] to k
      rw [show w64 (row[j] * (k : Int)) = _ from hw1, show w64 (row[j] * (k : Int) + to) = _ from hw2] at hnum
      simp [ofB, hlt]
      refine callT_plain hnum rfl rfl ?_
      simp [hmin]
      refine ⟨by omega, j + 1, by omega, by simp <;> omega, ?_⟩
      show weak 0 _ _ _ (H0 ++ [some (ls.take (j + 1))])
      rw [hsucc]
      refine weak_app [H0.length + 2] (by omega) hs (by simp) (by simp) fun f hf ht => ?_
      have t0 := ht 0 (by simp)
      simp at t0
      simp [ofB, setsV, hf 0 hb0, hf 1 hb1, hf 2 hb2, t0, hw3, hbel, hren]
      exact ⟨hb0, by omega⟩
    · have hjr : j = row.length := by omega
      subst hjr
      simp [ofB]
      rw [List.take_of_length_le (by omega)]
      refine hQ _ ?_ ?_ <;> simp [ofB, setsV]

theorem OfOk.next {a : Aut} (h : OfOk a) : a.next.length = a.lits.length := by
  have := h.right
  simp only [Aut.right, Bool.and_eq_true, decide_eq_true_eq] at this
  exact this.1.1.2
theorem OfOk.row {a : Aut} (h : OfOk a) {q : Nat} (hq : q < a.next.length) : ∀ s ∈ a.next[q], 0 ≤ s ∧ s < (a.lits.length : Int) := by
  have hr := h.right
  have hn := h.next
  simp only [Aut.right, Bool.and_eq_true, decide_eq_true_eq] at hr
  have := List.all_eq_true.1 hr.1.2 q (by simp; omega)
  simp only [rowOk, Bool.and_eq_true] at this
  have h1 := this.1
  rw [show a.next.getD q [] = a.next[q] by simp [List.getD, hq]] at h1
  intro s hs
  have := List.all_eq_true.1 h1 s hs
  simpa using this
theorem OfOk.init' {a : Aut} (h : OfOk a) : ∀ s ∈ a.init, 0 ≤ s ∧ s < (a.lits.length : Int) := fun s hs => by
  have hr := h.right
  simp only [Aut.right, Bool.and_eq_true, decide_eq_true_eq] at hr
  have := List.all_eq_true.1 hr.1.1.1 s hs; simpa using this
theorem OfOk.k {a : Aut} (h : OfOk a) : 1 ≤ a.k ∧ a.k ≤ 1000 := by
  have := h.sets
  unfold Aut.k Aut.sets
  split
  · simp
  · rename_i hne
    have : a.acc.length ≠ 0 := by simpa using hne
    omega
theorem OfOk.set {a : Aut} (h : OfOk a) {i : Nat} (hi : i < a.sets.length) : a.sets[i].length ≤ 17592186044416 := by
  have hf := h.few
  have hm : a.sets[i] ∈ a.sets := List.getElem_mem hi
  generalize a.sets[i] = r at hm
  unfold Aut.sets at hm
  split at hm
  · simp only [List.mem_singleton] at hm
    rw [hm, List.length_map, List.length_range]; omega
  · exact h.ok.set _ hm

def cellN (r : List Int) : L := .sl 1 (decide (r = [])) (r.map intL)
theorem cells_cellN (r : List Int) : (cellN r).cells = [cellN r] := rfl
theorem solid_cellN (r : List Int) : solid (cellN r) = true := rfl
theorem closed_cellN (r : List Int) : closed (cellN r) = true := rfl
theorem below_cellN (n : Nat) (r : List Int) : below n (cellN r) = true := by unfold cellN; simp
theorem ren_cellN (f : Nat → Nat) (r : List Int) : ren f (cellN r) = cellN r := by unfold cellN; simp
theorem frz_cellN (H : Heap) (fz : List Nat) (r : List Int) : frz H fz (cellN r) = cellN r := by unfold cellN; simp
attribute [simp] cells_cellN solid_cellN closed_cellN below_cellN ren_cellN frz_cellN

def degLits (a : Aut) (x : Nat) : List (List T) := (List.range x).map (degLit a)
def degRows (a : Aut) (x : Nat) : List (List Int) := (List.range x).map (degRow a)
theorem degLits_succ {a : Aut} {x : Nat} : degLits a (x + 1) = degLits a x ++ [degLit a x] := by simp [degLits, List.range_succ]
theorem degRows_succ {a : Aut} {x : Nat} : degRows a (x + 1) = degRows a x ++ [degRow a x] := by simp [degRows, List.range_succ]
theorem degLits_length {a : Aut} {x : Nat} : (degLits a x).length = x := by simp [degLits]
theorem degRows_length {a : Aut} {x : Nat} : (degRows a x).length = x := by simp [degRows]
attribute [simp] degLits_length degRows_length

abbrev nilV : L := .v (.slice none 0 0)
def ofH (a : Aut) (x : Nat) : Heap := [some a.cells, some [nilV, nilV, nilV, nilV]] ++ (if x = 0 then [some [nilV, nilV, nilV, nilV]] else
  [some [.view 1 3 0 x false, .view 1 4 0 x false, nilV, nilV], some ((degLits a x).map treesL), some ((degRows a x).map cellN)])

def ofB0 (nu : Nat) (a : Aut) (k q : Nat) : Env := [(1, .ptr 0 0), (2, .ptr 1 0), (3, intL a.lits.length), (4, setsV a), (7, intL k), (8, .fn (.func nu) [] []), (9, .ptr 2 0), (43, intL a.lits.length), (44, intL q)]

theorem of_b3 {P : Program} {nu co ix : Nat} (inu : compF P nu = some irNumber) (ico : compF P co = some (irContains ix)) (iix : compF P ix = some irIndex) {a : Aut} (h : OfOk a) {q : Nat} (hq : q < a.lits.length) {Q : X → Env → Heap → Prop} {E : Env} (hE : ∀ p ∈ ofB0 nu a a.k q, lk E p.1 = p.2)
    (hQ : ∀ E', (∀ p ∈ ofB0 nu a a.k q, lk E' p.1 = p.2) → Q .normal E' (ofH a ((q + 1) * a.k))) :
    lwp P 0 (irOfb3 nu co) Q E (ofH a (q * a.k)) := by
  obtain ⟨k, hk⟩ : ∃ k, k = a.k := ⟨_, rfl⟩
  have hkk := h.k
  have hnx := h.next
  have hfew := h.few
  have hqn : q < a.next.length := by omega
  rw [← hk] at hQ hkk ⊢
  have hqk : q * k ≤ 1000000 := by have := Nat.mul_le_mul (show q ≤ 1000 by omega) hkk.2; omega
  have hsl : a.sets.length = k := hk.symm
  simp only [ofB0, List.mem_cons, List.not_mem_nil, or_false, forall_eq_or_imp, forall_eq] at hE
  obtain ⟨g1, g2, g3, g4, g7, g8, g9, g43, g44⟩ := hE
  simp only [irOfb3]
  simp [g44, g7, ← hk]
  refine lwp_loopF (fun i : Nat => ofB nu a k q i) (fun i => ofH a (q * k + i)) (fun i => k - i) (fun i => i ≤ k) 0 (by simp) [] ?_ ?_
  · show weak 0 _ _ (ofB nu a k q 0) (ofH a (q * k + 0))
    by_cases hm : q * k = 0
    · have hp0 : ofH a (q * k + 0) = [some a.cells, some [nilV, nilV, nilV, nilV], some [nilV, nilV, nilV, nilV]] := by simp [ofH, hm]
      have hp0' : ofH a (q * k) = _ := hp0
      rw [hp0, hp0']
      refine ⟨[0, 1, 2], ?_⟩
      simp [ofB, setsV, g1, g2, g3, g4, g7, g8, g9, g43, g44, Aut.cells, ← hk]
    · have hp0 : ofH a (q * k + 0) = [some a.cells, some [nilV, nilV, nilV, nilV], some [.view 1 3 0 (q * k) false, .view 1 4 0 (q * k) false, nilV, nilV], some ((degLits a (q * k)).map treesL), some ((degRows a (q * k)).map cellN)] := by
        unfold ofH; rw [if_neg (by omega)]; rfl
      have hp0' : ofH a (q * k) = _ := hp0
      rw [hp0, hp0']
      refine ⟨[0, 1, 2, 3, 4], ?_⟩
      simp [ofB, setsV, g1, g2, g3, g4, g7, g8, g9, g43, g44, Aut.cells, ← hk]
  · intro i hi
    by_cases hlt : i < k
    · have his : i < a.sets.length := by omega
      have hdiv : (q * k + i) / k = q := by rw [Nat.mul_comm, Nat.mul_add_div (by omega), Nat.div_eq_of_lt hlt]; rfl
      have hmod : (q * k + i) % k = i := by rw [Nat.mul_comm, Nat.mul_add_mod, Nat.mod_eq_of_lt hlt]
      have hrow : degRow a (q * k + i) = a.next[q].map fun p => p * (k : Int) + (a.to q i : Int) := by
        unfold degRow; rw [← hk, hdiv, hmod]; simp [List.getD, hqn]
      have hlit : degLit a (q * k + i) = a.lits[q] := by
        unfold degLit; rw [← hk, hdiv]; simp [List.getD, hq]
      have hto : a.to q i = if (q : Int) ∈ a.sets[i] then (i + 1) % k else i := by unfold Aut.to; rw [← hk]; simp [List.getD, his]
      have htok : a.to q i < k := by rw [hto]; split; exact Nat.mod_lt _ (by omega); omega
      have hw1 : IntKind.i64.wrap ((i : Int) + 1) = (i : Int) + 1 := wrap_id (by omega) (by omega)
      have hmod2 : ((i : Int) + 1).tmod (k : Int) = (((i + 1) % k : Nat) : Int) := by rw [Int.tmod_eq_emod_of_nonneg (by omega)]; simp
      have hst : ∀ s ∈ a.next[q], 0 ≤ s ∧ s ≤ 1000000 := fun s hs => by have := h.row hqn s hs; omega
      have hcon := contains_gen ico iix (c := decide (a.acc = [])) a.sets[i] (h.set his) (q : Int)
      have hs1 := degLits_succ (a := a) (x := q * k + i)
      have hs2 := degRows_succ (a := a) (x := q * k + i)
      have hp1 : ofH a (q * k + i + 1) = [some a.cells, some [nilV, nilV, nilV, nilV], some [.view 1 3 0 (q * k + i + 1) false, .view 1 4 0 (q * k + i + 1) false, nilV, nilV], some ((degLits a (q * k + i + 1)).map treesL), some ((degRows a (q * k + i + 1)).map cellN)] := by
        unfold ofH; rw [if_neg (by omega)]; rfl
      have hk0 : ¬ (k : Int) = 0 := by omega
      by_cases hm : q * k + i = 0
      · have hp0 : ofH a (q * k + i) = [some a.cells, some [nilV, nilV, nilV, nilV], some [nilV, nilV, nilV, nilV]] := by simp [ofH, hm]
        rw [hp0]
        simp [ofB, setsV, irOfb5, hlt, his, ← hk, Aut.cells]
        refine callT_plain hcon rfl (by simp) ?_
        by_cases hin : (q : Int) ∈ a.sets[i]
        · have hto' : (((i + 1) % k : Nat) : Int) = (a.to q i : Int) := by rw [hto, if_pos hin]
          rw [hto'] at hmod2
          simp [hin, hw1, hmod2, hqn, hk0]
          refine ⟨by omega, ?_⟩
          refine of_b6 inu (a := a) (k := k) (q := q) (i := i) (to := (a.to q i : Int)) (row := a.next[q]) (h.rows _ (List.getElem_mem hqn)) hst (by omega) (by omega) (H0 := [some a.cells, some [nilV, nilV, nilV, nilV], some [nilV, nilV, nilV, nilV]]) (by simp) (by simp [Aut.cells]) (by simp [ofB, setsV, ← hk]) (by simp) (by simp) (by simp) (by simp) (by simp) fun E1 b b13 => ?_
          simp only [ofB, List.mem_cons, List.not_mem_nil, or_false, forall_eq_or_imp, forall_eq] at b
          obtain ⟨b1, b2, b3, b4, b7, b8, b9, b10, b43, b44, b47, b48⟩ := b
          rw [← hrow]
          have hlen : a.next[q].length = (degRow a (q * k + i)).length := by rw [hrow]; simp
          have hc : cellN (degRow a (q * k + i)) = .sl 1 (decide (degRow a (q * k + i) = [])) ((degRow a (q * k + i)).map intL) := rfl
          rw [hlen] at b13
          simp at b13 ⊢
          have hd0 : degLits a (q * k + i) = [] := by rw [hm]; rfl
          have hd1 : degRows a (q * k + i) = [] := by rw [hm]; rfl
          simp [b1, b2, b3, b4, b7, b8, b9, b10, b13, b43, b44, b47, b48, hq, Aut.cells]
          refine ⟨i + 1, by omega, by simp <;> omega, [3], ?_⟩
          show weak 0 _ _ (ofB nu a k q (i + 1)) (ofH a (q * k + i + 1))
          rw [hp1, hs1, hs2, hlit]
          rw [hm] at hc
          refine ⟨[0, 1, 2, 5, 7], ?_⟩
          simp [ofB, setsV, b1, b2, b3, b4, b7, b8, b9, b10, b43, b44, b47, b48, hw1, Aut.cells, ← hk, hc, show degLits a 0 = [] from rfl, show degRows a 0 = [] from rfl, hm]
        · have hto' : (i : Int) = (a.to q i : Int) := by rw [hto, if_neg hin]
          simp [hin, hqn, hk0]
          refine of_b6 inu (a := a) (k := k) (q := q) (i := i) (to := (a.to q i : Int)) (row := a.next[q]) (h.rows _ (List.getElem_mem hqn)) hst (by omega) (by omega) (H0 := [some a.cells, some [nilV, nilV, nilV, nilV], some [nilV, nilV, nilV, nilV]]) (by simp) (by simp [Aut.cells]) (by simp [ofB, setsV, ← hk]) (by simp [hto']) (by simp) (by simp) (by simp) (by simp) fun E1 b b13 => ?_
          simp only [ofB, List.mem_cons, List.not_mem_nil, or_false, forall_eq_or_imp, forall_eq] at b
          obtain ⟨b1, b2, b3, b4, b7, b8, b9, b10, b43, b44, b47, b48⟩ := b
          rw [← hrow]
          have hlen : a.next[q].length = (degRow a (q * k + i)).length := by rw [hrow]; simp
          have hc : cellN (degRow a (q * k + i)) = .sl 1 (decide (degRow a (q * k + i) = [])) ((degRow a (q * k + i)).map intL) := rfl
          rw [hlen] at b13
          simp at b13 ⊢
          have hd0 : degLits a (q * k + i) = [] := by rw [hm]; rfl
          have hd1 : degRows a (q * k + i) = [] := by rw [hm]; rfl
          simp [b1, b2, b3, b4, b7, b8, b9, b10, b13, b43, b44, b47, b48, hq, Aut.cells]
          refine ⟨i + 1, by omega, by simp <;> omega, [3], ?_⟩
          show weak 0 _ _ (ofB nu a k q (i + 1)) (ofH a (q * k + i + 1))
          rw [hp1, hs1, hs2, hlit]
          rw [hm] at hc
          refine ⟨[0, 1, 2, 5, 7], ?_⟩
          simp [ofB, setsV, b1, b2, b3, b4, b7, b8, b9, b10, b43, b44, b47, b48, hw1, Aut.cells, ← hk, hc, show degLits a 0 = [] from rfl, show degRows a 0 = [] from rfl, hm]
      · have hp0 : ofH a (q * k + i) = [some a.cells, some [nilV, nilV, nilV, nilV], some [.view 1 3 0 (q * k + i) false, .view 1 4 0 (q * k + i) false, nilV, nilV], some ((degLits a (q * k + i)).map treesL), some ((degRows a (q * k + i)).map cellN)] := by
          unfold ofH; rw [if_neg hm]; rfl
        rw [hp0]
        simp [ofB, setsV, irOfb5, hlt, his, ← hk, Aut.cells]
        refine callT_plain hcon rfl (by simp) ?_
        by_cases hin : (q : Int) ∈ a.sets[i]
        · have hto' : (((i + 1) % k : Nat) : Int) = (a.to q i : Int) := by rw [hto, if_pos hin]
          rw [hto'] at hmod2
          simp [hin, hw1, hmod2, hqn, hk0]
          refine ⟨by omega, ?_⟩
          refine of_b6 inu (a := a) (k := k) (q := q) (i := i) (to := (a.to q i : Int)) (row := a.next[q]) (h.rows _ (List.getElem_mem hqn)) hst (by omega) (by omega) (H0 := [some a.cells, some [nilV, nilV, nilV, nilV], some [.view 1 3 0 (q * k + i) false, .view 1 4 0 (q * k + i) false, nilV, nilV], some ((degLits a (q * k + i)).map treesL), some ((degRows a (q * k + i)).map cellN)]) (by simp) (by simp [Aut.cells]) (by simp [ofB, setsV, ← hk]) (by simp) (by simp) (by simp) (by simp) (by simp) fun E1 b b13 => ?_
          simp only [ofB, List.mem_cons, List.not_mem_nil, or_false, forall_eq_or_imp, forall_eq] at b
          obtain ⟨b1, b2, b3, b4, b7, b8, b9, b10, b43, b44, b47, b48⟩ := b
          rw [← hrow]
          have hlen : a.next[q].length = (degRow a (q * k + i)).length := by rw [hrow]; simp
          have hc : cellN (degRow a (q * k + i)) = .sl 1 (decide (degRow a (q * k + i) = [])) ((degRow a (q * k + i)).map intL) := rfl
          rw [hlen] at b13
          simp at b13 ⊢
          simp [b1, b2, b3, b4, b7, b8, b9, b10, b13, b43, b44, b47, b48, hq, Aut.cells]
          refine ⟨by omega, i + 1, by omega, by simp <;> omega, [5], ?_⟩
          show weak 0 _ _ (ofB nu a k q (i + 1)) (ofH a (q * k + i + 1))
          rw [hp1, hs1, hs2, hlit]
          refine ⟨[0, 1, 2, 7, 9], ?_⟩
          simp [ofB, setsV, b1, b2, b3, b4, b7, b8, b9, b10, b43, b44, b47, b48, hw1, Aut.cells, ← hk, hc]
        · have hto' : (i : Int) = (a.to q i : Int) := by rw [hto, if_neg hin]
          simp [hin, hqn, hk0]
          refine of_b6 inu (a := a) (k := k) (q := q) (i := i) (to := (a.to q i : Int)) (row := a.next[q]) (h.rows _ (List.getElem_mem hqn)) hst (by omega) (by omega) (H0 := [some a.cells, some [nilV, nilV, nilV, nilV], some [.view 1 3 0 (q * k + i) false, .view 1 4 0 (q * k + i) false, nilV, nilV], some ((degLits a (q * k + i)).map treesL), some ((degRows a (q * k + i)).map cellN)]) (by simp) (by simp [Aut.cells]) (by simp [ofB, setsV, ← hk]) (by simp [hto']) (by simp) (by simp) (by simp) (by simp) fun E1 b b13 => ?_
          simp only [ofB, List.mem_cons, List.not_mem_nil, or_false, forall_eq_or_imp, forall_eq] at b
          obtain ⟨b1, b2, b3, b4, b7, b8, b9, b10, b43, b44, b47, b48⟩ := b
          rw [← hrow]
          have hlen : a.next[q].length = (degRow a (q * k + i)).length := by rw [hrow]; simp
          have hc : cellN (degRow a (q * k + i)) = .sl 1 (decide (degRow a (q * k + i) = [])) ((degRow a (q * k + i)).map intL) := rfl
          rw [hlen] at b13
          simp at b13 ⊢
          simp [b1, b2, b3, b4, b7, b8, b9, b10, b13, b43, b44, b47, b48, hq, Aut.cells]
          refine ⟨by omega, i + 1, by omega, by simp <;> omega, [5], ?_⟩
          show weak 0 _ _ (ofB nu a k q (i + 1)) (ofH a (q * k + i + 1))
          rw [hp1, hs1, hs2, hlit]
          refine ⟨[0, 1, 2, 7, 9], ?_⟩
          simp [ofB, setsV, b1, b2, b3, b4, b7, b8, b9, b10, b43, b44, b47, b48, hw1, Aut.cells, ← hk, hc]
    · have hik : i = k := by omega
      subst hik
      have e : q * i + i = (q + 1) * i := by rw [Nat.succ_mul]
      rw [e]
      simp [ofB, ← hk]
      refine hQ _ ?_
      simp [ofB0, setsV, ← hk]

theorem degAcc_succ {a : Aut} {m : Nat} : degAcc a (m + 1) = degAcc a m ++ if (m : Int) ∈ a.sets.getD 0 [] then [((m * a.k : Nat) : Int)] else [] := by
  unfold degAcc
  rw [List.range_succ, List.filter_append, List.map_append]
  by_cases h : (m : Int) ∈ a.sets.getD 0 []
  · rw [if_pos h, List.filter_cons_of_pos (by simpa using h)]; rfl
  · rw [if_neg h, List.filter_cons_of_neg (by simpa using h)]; rfl
theorem degAcc_length {a : Aut} {m : Nat} : (degAcc a m).length ≤ m := by
  unfold degAcc
  rw [List.length_map]
  exact Nat.le_trans (List.length_filter_le _ _) (by simp)

theorem of_b10 {P : Program} {nu co ix : Nat} (inu : compF P nu = some irNumber) (ico : compF P co = some (irContains ix)) (iix : compF P ix = some irIndex) {a : Aut} (h : OfOk a)
    {H0 : Heap} (hlen : 3 ≤ H0.length) (hs : shut H0.length H0) {Q : X → Env → Heap → Prop} {E : Env} (hE : ∀ p ∈ ofB0 nu a a.k a.lits.length, lk E p.1 = p.2) (h18 : lk E 18 = .view 1 H0.length 0 0 true) (h120 : lk E 120 = intL a.lits.length) (h121 : lk E 121 = intL 0)
    (hQ : ∀ E', (∀ p ∈ ofB0 nu a a.k a.lits.length, lk E' p.1 = p.2) → lk E' 18 = .view 1 H0.length 0 (degAcc a a.lits.length).length (decide (degAcc a a.lits.length = [])) → Q .normal E' (H0 ++ [some ((degAcc a a.lits.length).map intL)])) :
    lwp P 0 (irOfb10 nu co) (X.inBlock 10 Q) E (H0 ++ [some []]) := by
  obtain ⟨k, hk⟩ : ∃ k, k = a.k := ⟨_, rfl⟩
  have hkk := h.k
  have hfew := h.few
  rw [← hk] at hE hQ hkk
  have hsl : 0 < a.sets.length := by have : a.k = a.sets.length := rfl; omega
  have e0 : a.sets.getD 0 [] = a.sets[0] := by simp [List.getD, hsl]
  simp only [irOfb10]
  have hb0 : 0 < H0.length := by omega
  have hb1 : 1 < H0.length := by omega
  have hb2 : 2 < H0.length := by omega
  simp only [ofB0, List.mem_cons, List.not_mem_nil, or_false, forall_eq_or_imp, forall_eq] at hE
  obtain ⟨g1, g2, g3, g4, g7, g8, g9, g43, g44⟩ := hE
  refine lwp_loop (fun m : Nat => ofB0 nu a k a.lits.length ++ [(18, .view 1 H0.length 0 (degAcc a m).length (decide (degAcc a m = []))), (120, intL a.lits.length), (121, intL m)])
    (fun m => H0 ++ [some ((degAcc a m).map intL)]) (fun m => a.lits.length - m) (fun m => m ≤ a.lits.length) 0 (by simp) ?_ ?_
  · show weak 0 _ _ _ (H0 ++ [some []])
    refine weak_app [H0.length] (by omega) hs (by simp) (by simp) fun f hf ht => ?_
    have t0 := ht 0 (by simp)
    simp at t0
    simp [ofB0, setsV, hf 0 hb0, hf 1 hb1, hf 2 hb2, t0, g1, g2, g3, g4, g7, g8, g9, g43, g44, h18, h120, h121, show degAcc a 0 = [] from rfl]
    exact ⟨hb0, by omega⟩
  · intro m hm
    by_cases hlt : m < a.lits.length
    · have hmk : m * k ≤ 1000000 := by have := Nat.mul_le_mul (show m ≤ 1000 by omega) hkk.2; omega
      have e1 : (m : Int) * (k : Int) = ((m * k : Nat) : Int) := by simp
      have hw1 : IntKind.i64.wrap ((m : Int) * (k : Int)) = (m : Int) * (k : Int) := wrap_id (by omega) (by omega)
      have hw3 : IntKind.i64.wrap ((m : Int) + 1) = ((m + 1 : Nat) : Int) := wrap_id (by omega) (by omega)
      have hnum := number_gen inu (m : Int) 0 k
      rw [show w64 ((m : Int) * (k : Int)) = _ from hw1, show w64 ((m : Int) * (k : Int) + 0) = (m : Int) * (k : Int) from by rw [Int.add_zero]; exact hw1] at hnum
      have hcon := contains_gen ico iix (c := decide (a.acc = [])) a.sets[0] (h.set hsl) (m : Int)
      have hsucc := degAcc_succ (a := a) (m := m)
      rw [e0, ← hk] at hsucc
      have hdl := degAcc_length (a := a) (m := m)
      simp [ofB0, setsV, hlt, hsl]
      refine callT_plain hcon rfl (by simp) ?_
      by_cases hin : (m : Int) ∈ a.sets[0]
      · rw [if_pos hin] at hsucc
        simp [hin]
        refine callT_plain hnum rfl rfl ?_
        simp
        refine ⟨by omega, m + 1, by omega, by simp <;> omega, ?_⟩
        show weak 0 _ _ (ofB0 nu a k a.lits.length ++ [(18, .view 1 H0.length 0 (degAcc a (m + 1)).length (decide (degAcc a (m + 1) = []))), (120, intL a.lits.length), (121, intL ((m + 1 : Nat) : Int))]) (H0 ++ [some ((degAcc a (m + 1)).map intL)])
        rw [hsucc]
        refine weak_app [H0.length + 2] (by omega) hs (by simp) (by simp) fun f hf ht => ?_
        have t0 := ht 0 (by simp)
        simp at t0
        simp [ofB0, setsV, hf 0 hb0, hf 1 hb1, hf 2 hb2, t0, hw3]
        exact ⟨hb0, by omega⟩
      · rw [if_neg hin, List.append_nil] at hsucc
        simp [hin]
        refine ⟨m + 1, by omega, by simp <;> omega, ?_⟩
        show weak 0 _ _ (ofB0 nu a k a.lits.length ++ [(18, .view 1 H0.length 0 (degAcc a (m + 1)).length (decide (degAcc a (m + 1) = []))), (120, intL a.lits.length), (121, intL ((m + 1 : Nat) : Int))]) (H0 ++ [some ((degAcc a (m + 1)).map intL)])
        rw [hsucc]
        refine weak_app [H0.length] (by omega) hs (by simp) (by simp) fun f hf ht => ?_
        have t0 := ht 0 (by simp)
        simp at t0
        simp [ofB0, setsV, hf 0 hb0, hf 1 hb1, hf 2 hb2, t0, hw3]
        exact ⟨hb0, by omega⟩
    · have hmn : m = a.lits.length := by omega
      subst hmn
      simp [ofB0]
      refine hQ _ ?_ ?_ <;> simp [ofB0, setsV]

def inits (a : Aut) (k j : Nat) : List L := ((a.init.take j).map fun v => v * (k : Int)).map intL
theorem inits_succ {a : Aut} {k j : Nat} (hj : j < a.init.length) : inits a k (j + 1) = inits a k j ++ [.v (.int .i64 (a.init[j] * (k : Int)))] := by
  unfold inits; rw [List.take_succ_eq_append_getElem hj, List.map_append, List.map_append]; rfl
theorem inits_length {a : Aut} {k j : Nat} (hj : j ≤ a.init.length) : (inits a k j).length = j := by unfold inits; simp; omega
theorem belowL_inits {a : Aut} {k j m : Nat} : belowL m (inits a k j) = true := by unfold inits; rw [belowL_map]; simp
theorem renL_inits {a : Aut} {k j : Nat} {f : Nat → Nat} : renL f (inits a k j) = inits a k j := by unfold inits; rw [renL_map]; simp
attribute [local simp] belowL_inits renL_inits

theorem of_b8 {P : Program} {nu co : Nat} (inu : compF P nu = some irNumber) {a : Aut} (h : OfOk a) {x : Nat} {LL NN : List L} (hLL : ∀ m, belowL m LL = true) (hNN : ∀ m, belowL m NN = true) (rLL : ∀ f, renL f LL = LL) (rNN : ∀ f, renL f NN = NN)
    {Q : X → Env → Heap → Prop} {E : Env} (hE : ∀ p ∈ ofB0 nu a a.k a.lits.length, lk E p.1 = p.2) (h102 : lk E 102 = intsL a.init) (h103 : lk E 103 = intL a.init.length) (h104 : lk E 104 = intL 0)
    (hQ : ∀ E', (∀ p ∈ ofB0 nu a a.k a.lits.length, lk E' p.1 = p.2) → Q .normal E' ([some a.cells, some [nilV, nilV, nilV, nilV], some [.view 1 3 0 x false, .view 1 4 0 x false, accE 1 5 (inits a a.k a.init.length), nilV], some LL, some NN] ++ accH (inits a a.k a.init.length))) :
    lwp P 0 (irOfb8 nu co) (X.inBlock 8 Q) E [some a.cells, some [nilV, nilV, nilV, nilV], some [.view 1 3 0 x false, .view 1 4 0 x false, nilV, nilV], some LL, some NN] := by
  obtain ⟨k, hk⟩ : ∃ k, k = a.k := ⟨_, rfl⟩
  have hkk := h.k
  have hfew := h.few
  have hini := h.init
  rw [← hk] at hE hQ hkk
  simp only [irOfb8]
  simp only [ofB0, List.mem_cons, List.not_mem_nil, or_false, forall_eq_or_imp, forall_eq] at hE
  obtain ⟨g1, g2, g3, g4, g7, g8, g9, g43, g44⟩ := hE
  refine lwp_loop (fun j : Nat => ofB0 nu a k a.lits.length ++ [(102, intsL a.init), (103, intL a.init.length), (104, intL j)])
    (fun j => [some a.cells, some [nilV, nilV, nilV, nilV], some [.view 1 3 0 x false, .view 1 4 0 x false, accE 1 5 (inits a k j), nilV], some LL, some NN] ++ accH (inits a k j)) (fun j => a.init.length - j) (fun j => j ≤ a.init.length) 0 (by simp) ⟨[0, 1, 2, 3, 4], ?_⟩ ?_
  · simp [ofB0, setsV, g1, g2, g3, g4, g7, g8, g9, g43, g44, h102, h103, h104, inits, Aut.cells, hLL, hNN, rLL, rNN]
  · intro j hj
    by_cases hlt : j < a.init.length
    · obtain ⟨s1, s2⟩ := h.init' _ (List.getElem_mem hlt)
      have hpk : 0 ≤ a.init[j] * (k : Int) ∧ a.init[j] * (k : Int) ≤ 1000000 := by
        refine ⟨Int.mul_nonneg s1 (by omega), ?_⟩
        have := Int.mul_le_mul (show a.init[j] ≤ 1000 by omega) (show (k : Int) ≤ 1000 by omega) (by omega) (by omega)
        omega
      have hw1 : IntKind.i64.wrap (a.init[j] * (k : Int)) = a.init[j] * (k : Int) := wrap_id (by omega) (by omega)
      have hw3 : IntKind.i64.wrap ((j : Int) + 1) = ((j + 1 : Nat) : Int) := wrap_id (by omega) (by omega)
      have hnum := number_gen inu a.init[j] 0 k
      rw [show w64 (a.init[j] * (k : Int)) = _ from hw1, show w64 (a.init[j] * (k : Int) + 0) = a.init[j] * (k : Int) from by rw [Int.add_zero]; exact hw1] at hnum
      have hsucc := inits_succ (k := k) hlt
      have hne : inits a k (j + 1) ≠ [] := by rw [hsucc]; simp
      have hlen := inits_length (a := a) (k := k) hj
      by_cases hj0 : j = 0
      · subst hj0
        have e0 : inits a k 0 = [] := rfl
        simp only [e0] at hsucc ⊢
        simp [ofB0, hlt, Aut.cells]
        refine bcallT_plain hnum rfl rfl ?_
        simp
        refine ⟨1, by omega, by simp <;> omega, [0, 1, 2, 3, 4, 6], ?_⟩
        have hww : IntKind.i64.wrap 1 = 1 := by decide
        simp [accE, accH, hsucc, hww, Aut.cells, setsV, hLL, hNN, rLL, rNN]
      · have hne0 : inits a k j ≠ [] := by intro e; rw [e] at hlen; simp at hlen; omega
        simp only [accE_ne hne0, accH_ne hne0, hlen]
        simp [ofB0, hlt, Aut.cells]
        refine bcallT_plain hnum rfl rfl ?_
        simp [hlen]
        refine ⟨by omega, j + 1, by omega, by simp <;> omega, [0, 1, 2, 3, 4, 7], ?_⟩
        simp [accE, accH, hsucc, hw3, Aut.cells, setsV, hLL, hNN, rLL, rNN, hlen]
    · have hjn : j = a.init.length := by omega
      subst hjn
      simp [ofB0, Aut.cells]
      refine hQ _ ?_
      simp [ofB0, setsV]

theorem sub_lits {a : Aut} {x : Nat} : Sub (.sl 1 false ((degLits a x).map treesL)) (.sl 1 false ((degLits a x).map treesL)) := .refl _
theorem sub_degRows {a : Aut} {x : Nat} : Sub (.sl 1 false ((degRows a x).map cellN)) (.sl 1 false ((degRows a x).map intsL)) := by
  refine Sub.map (fun r _ => ?_) (fun r _ => rfl)
  unfold cellN
  cases decide (r = [])
  · exact .refl _
  · exact .clip _ _
theorem sub_acc1 {r : List Int} : Sub (.sl 1 true [.sl 1 (decide (r = [])) (r.map intL)]) (.sl 1 false [intsL r]) := by
  refine .trans (.clip _ _) (.els rfl (fun j => ?_) (by simp [L.cells]))
  cases j with
  | zero =>
    cases decide (r = [])
    · exact .refl _
    · exact .clip _ _
  | succ j => exact .refl _

theorem of_tail {P : Program} {nu co ix : Nat} (inu : compF P nu = some irNumber) (ico : compF P co = some (irContains ix)) (iix : compF P ix = some irIndex) {a : Aut} (h : OfOk a) {E : Env} (hE : ∀ p ∈ ofB0 nu a a.k a.lits.length, lk E p.1 = p.2) :
    lwp P 0 (irOf8 nu co) (fnPost [.c 2 4 true] fun r H' => ∃ r', reso H' 4 r = some r' ∧ Sub r' (degenOf a).L) E (ofH a (a.lits.length * a.k)) := by
  have hkk := h.k
  have hE' := hE
  simp only [ofB0, List.mem_cons, List.not_mem_nil, or_false, forall_eq_or_imp, forall_eq] at hE
  obtain ⟨g1, g2, g3, g4, g7, g8, g9, g43, g44⟩ := hE
  by_cases hn : a.lits.length = 0
  · have hp0 : ofH a (a.lits.length * a.k) = [some a.cells, some [nilV, nilV, nilV, nilV], some [nilV, nilV, nilV, nilV]] := by simp [ofH, hn]
    have hi0 : a.init = [] := by
      cases hi : a.init with
      | nil => rfl
      | cons v l => have := h.init' v (by rw [hi]; simp); omega
    rw [hp0]
    simp [irOf8, g1, Aut.cells, hi0]
    simp only [irOfb8]
    refine lwp_loop (fun _ : Unit => ofB0 nu a a.k a.lits.length ++ [(103, intL 0), (104, intL 0)]) (fun _ => [some a.cells, some [nilV, nilV, nilV, nilV], some [nilV, nilV, nilV, nilV]]) (fun _ => 0) (fun _ => True) () trivial ⟨[0, 1, 2], ?_⟩ ?_
    · simp [ofB0, setsV, g1, g2, g3, g4, g7, g8, g9, g43, g44, Aut.cells, hi0]
    · intro _ _
      simp [ofB0]
      refine of_b10 inu ico iix h (H0 := [some a.cells, some [nilV, nilV, nilV, nilV], some [nilV, nilV, nilV, nilV]]) (by simp) (by simp [Aut.cells]) (by simp [ofB0, setsV]) (by simp) (by simp) (by simp) fun E1 b b18 => ?_
      simp only [ofB0, List.mem_cons, List.not_mem_nil, or_false, forall_eq_or_imp, forall_eq] at b
      obtain ⟨b1, b2, b3, b4, b7, b8, b9, b43, b44⟩ := b
      have hd : degAcc a a.lits.length = [] := by rw [hn]; rfl
      rw [hd] at b18 ⊢
      simp at b18 ⊢
      simp [b1, b2, b3, b9, b18, Aut.cells]
      have e : degenOf a = ⟨[], [], [], [[]]⟩ := by unfold degenOf; rw [hd, hi0, hn, Nat.zero_mul]; rfl
      rw [e]
      exact Sub.aggL (.cons (.nil _ _) (.cons (.nil _ _) (.cons (.nil _ _) (.cons (sub_acc1 (r := [])) .nil))))
  · have hx : a.lits.length * a.k ≠ 0 := by
      have := Nat.mul_pos (show 0 < a.lits.length by omega) (show 0 < a.k by omega)
      omega
    obtain ⟨x, hxe⟩ : ∃ x, x = a.lits.length * a.k := ⟨_, rfl⟩
    have hp0 : ofH a (a.lits.length * a.k) = [some a.cells, some [nilV, nilV, nilV, nilV], some [.view 1 3 0 x false, .view 1 4 0 x false, nilV, nilV], some ((degLits a x).map treesL), some ((degRows a x).map cellN)] := by
      unfold ofH; rw [if_neg hx, hxe]; rfl
    rw [hp0]
    have hLL : ∀ m, belowL m ((degLits a x).map treesL) = true := fun m => by rw [belowL_map]; simp
    have hNN : ∀ m, belowL m ((degRows a x).map cellN) = true := fun m => by rw [belowL_map]; simp
    have rLL : ∀ f, renL f ((degLits a x).map treesL) = (degLits a x).map treesL := fun f => by rw [renL_map]; simp
    have rNN : ∀ f, renL f ((degRows a x).map cellN) = (degRows a x).map cellN := fun f => by rw [renL_map]; simp
    have e : degenOf a = ⟨degLits a x, degRows a x, a.init.map (· * (a.k : Int)), [degAcc a a.lits.length]⟩ := by rw [hxe]; rfl
    have hinl : inits a a.k a.init.length = (a.init.map (· * (a.k : Int))).map intL := by unfold inits; rw [List.take_length]
    simp only [irOf8]
    simp [g1, Aut.cells]
    refine of_b8 inu h hLL hNN rLL rNN (by simp [ofB0, setsV, g1, g2, g3, g4, g7, g8, g9, g43, g44]) (by simp) (by simp) (by simp) fun E1 b => ?_
    simp only [ofB0, List.mem_cons, List.not_mem_nil, or_false, forall_eq_or_imp, forall_eq] at b
    obtain ⟨b1, b2, b3, b4, b7, b8, b9, b43, b44⟩ := b
    by_cases hi0 : inits a a.k a.init.length = []
    · rw [hi0]
      simp [b1, b2, b3, b4, b7, b8, b9, b43, b44]
      refine of_b10 inu ico iix h (H0 := [some a.cells, some [nilV, nilV, nilV, nilV], some [.view 1 3 0 x false, .view 1 4 0 x false, nilV, nilV], some ((degLits a x).map treesL), some ((degRows a x).map cellN)]) (by simp) (by simp [Aut.cells]) (by simp [ofB0, setsV, b1, b2, b3, b4, b7, b8, b9, b43, b44]) (by simp) (by simp) (by simp) fun E2 c c18 => ?_
      simp only [ofB0, List.mem_cons, List.not_mem_nil, or_false, forall_eq_or_imp, forall_eq] at c
      obtain ⟨c1, c2, c3, c4, c7, c8, c9, c43, c44⟩ := c
      simp at c18 ⊢
      simp [c1, c2, c9, c18, Aut.cells]
      have hini : a.init.map (· * (a.k : Int)) = [] := by rw [hinl] at hi0; simpa using hi0
      rw [e]
      exact Sub.aggL (.cons (.refl _) (.cons sub_degRows (.cons (by rw [hini]; exact .nil _ _) (.cons sub_acc1 .nil))))
    · have hlen := inits_length (a := a) (k := a.k) (Nat.le_refl a.init.length)
      rw [accE_ne hi0, accH_ne hi0]
      have hcl : (inits a a.k a.init.length).all closed = true := by rw [hinl, List.all_eq_true]; intro y hy; obtain ⟨v, -, rfl⟩ := List.mem_map.1 hy; rfl
      simp [b1, b2, b3, b4, b7, b8, b9, b43, b44, hlen]
      refine of_b10 inu ico iix h (H0 := [some a.cells, some [nilV, nilV, nilV, nilV], some [.view 1 3 0 x false, .view 1 4 0 x false, .view 1 5 0 a.init.length false, nilV], some ((degLits a x).map treesL), some ((degRows a x).map cellN), some (inits a a.k a.init.length)]) (by simp) (by simp [Aut.cells]) (by simp [ofB0, setsV, b1, b2, b3, b4, b7, b8, b9, b43, b44]) (by simp) (by simp) (by simp) fun E2 c c18 => ?_
      simp only [ofB0, List.mem_cons, List.not_mem_nil, or_false, forall_eq_or_imp, forall_eq] at c
      obtain ⟨c1, c2, c3, c4, c7, c8, c9, c43, c44⟩ := c
      simp at c18 ⊢
      simp [c1, c2, c9, c18, Aut.cells, hlen, hcl]
      rw [e]
      exact Sub.aggL (.cons (.refl _) (.cons sub_degRows (.cons (by rw [hinl]; exact .refl _) (.cons sub_acc1 .nil))))

theorem of_gen {P : Program} {f nu co ix : Nat} (ir : compF P f = some (irOf nu co)) (inu : compF P nu = some irNumber) (ico : compF P co = some (irContains ix)) (iix : compF P ix = some irIndex) {a : Aut} (h : OfOk a) : PC P f [a.L] (degenOf a).L := by
  have hfew := h.few
  have hkk := h.k
  have hnx := h.next
  -- the loop over all states, from wherever it begins
  have go : ∀ (Q : X → Env → Heap → Prop), (∀ E', (∀ p ∈ ofB0 nu a a.k a.lits.length, lk E' p.1 = p.2) → Q .normal E' (ofH a (a.lits.length * a.k))) → ∀ q, q ≤ a.lits.length →
      lwp P 0 (.seq (.ops [⟨some 45, .bin .lss false (.t 44) (.t 43), none⟩])
        (.seq (.cond (.t 45) .skip (.exit 2))
        (.seq (.block 3 (irOfb3 nu co))
        (.ops [⟨some 100, .bin .add false (.t 44) (.c (.v (.int .i64 1))), none⟩,
          ⟨some 44, .mov (.t 100), none⟩])))) (X.then (nextF 0 (fun q : Nat => ofB0 nu a a.k q) (fun q => ofH a (q * a.k)) (fun q => a.lits.length - q) (fun q => q ≤ a.lits.length) q) (X.inBlock 2 Q)) (ofB0 nu a a.k q) (ofH a (q * a.k)) := by
    intro Q hQ q hq
    by_cases hlt : q < a.lits.length
    · have hw3 : IntKind.i64.wrap ((q : Int) + 1) = ((q + 1 : Nat) : Int) := wrap_id (by omega) (by omega)
      simp [ofB0, hlt]
      refine of_b3 inu ico iix h hlt (by simp [ofB0]) fun E1 b => ?_
      simp only [ofB0, List.mem_cons, List.not_mem_nil, or_false, forall_eq_or_imp, forall_eq] at b
      obtain ⟨b1, b2, b3, b4, b7, b8, b9, b43, b44⟩ := b
      simp [b44]
      refine ⟨q + 1, by omega, by simp <;> omega, [], ?_⟩
      have hx : (q + 1) * a.k ≠ 0 := by
        have := Nat.mul_pos (show 0 < q + 1 by omega) (show 0 < a.k by omega)
        omega
      obtain ⟨x, hxe⟩ : ∃ x, x = (q + 1) * a.k := ⟨_, rfl⟩
      have hp0 : ofH a ((q + 1) * a.k) = [some a.cells, some [nilV, nilV, nilV, nilV], some [.view 1 3 0 x false, .view 1 4 0 x false, nilV, nilV], some ((degLits a x).map treesL), some ((degRows a x).map cellN)] := by
        unfold ofH; rw [if_neg hx, hxe]; rfl
      show weak 0 _ _ (ofB0 nu a a.k (q + 1)) (ofH a ((q + 1) * a.k))
      rw [hp0]
      refine ⟨[0, 1, 2, 3, 4], ?_⟩
      simp [ofB0, setsV, b1, b2, b3, b4, b7, b8, b9, b43, b44, hw3, Aut.cells]
    · have hqn : q = a.lits.length := by omega
      subst hqn
      simp [ofB0]
      refine hQ _ ?_
      simp [ofB0, setsV]
  refine pc_of_call' (callAt_enter ir (by simp [irOf]) ?_)
  simp [irOf, Aut.L, Aut.cells]
  by_cases hacc : a.acc = []
  · have hsets : a.sets = [(List.range a.lits.length).map fun q : Nat => (q : Int)] := if_pos hacc
    have hk : a.k = 1 := by unfold Aut.k; rw [hsets]; rfl
    have hnb : (a.lits.length : Int) * 8 ≤ 281474976710656 := by omega
    simp [hacc]
    refine ⟨by omega, ?_⟩
    obtain ⟨n, hn⟩ : ∃ n, n = a.lits.length := ⟨_, rfl⟩
    rw [← hn] at hfew ⊢
    refine lwp_loop (fun j : Nat => [(1, .ptr 0 0), (2, .ptr 1 0), (3, intL n), (5, .view 1 2 0 n true), (30, intL n), (31, intL j)])
      (fun j => [some a.cells, some [nilV, nilV, nilV, nilV], some (((List.range j).map fun q : Nat => intL (q : Int)) ++ List.replicate (n - j) (intL 0))]) (fun j => n - j) (fun j => j ≤ n) 0 (by simp) ⟨[0, 1, 2], ?_⟩ ?_
    · simp [Aut.cells, hacc]
      exact belowL_repl (by simp)
    · intro j hj
      by_cases hlt : j < n
      · have hw3 : IntKind.i64.wrap ((j : Int) + 1) = ((j + 1 : Nat) : Int) := wrap_id (by omega) (by omega)
        have hset : (List.replicate (n - j) (intL 0)).set 0 (intL (j : Int)) = intL (j : Int) :: List.replicate (n - (j + 1)) (intL 0) := by
          rw [show n - j = n - (j + 1) + 1 by omega, List.replicate_succ, List.set_cons_zero]
        have hrep : ((List.range j).map fun q : Nat => intL (q : Int)) ++ intL (j : Int) :: List.replicate (n - (j + 1)) (intL 0) = ((List.range (j + 1)).map fun q : Nat => intL (q : Int)) ++ List.replicate (n - (j + 1)) (intL 0) := by
          rw [List.range_succ, List.map_append]; simp
        have hb : ∀ m, belowL 3 (List.replicate m (intL 0)) = true := fun m => belowL_repl (by simp)
        simp [hlt]
        refine ⟨by omega, j + 1, by omega, by simp <;> omega, [0, 1, 2], ?_⟩
        rw [hset, hrep]
        simp [hw3, Aut.cells, hacc, hb]
      · have hjn : j = n := by omega
        subst hjn
        simp [Aut.cells, hacc]
        simp only [irOfb2]
        refine lwp_loopG (fun q : Nat => ofB0 nu a a.k q) (fun q => ofH a (q * a.k)) (fun q => a.lits.length - q) (fun q => q ≤ a.lits.length) 0 (by simp) [2] [3] ⟨[0, 1, 4], ?_⟩ (go _ fun E' b => ?_)
        · simp [ofB0, setsV, hsets, hacc, hk, ofH, Aut.cells, ← hn]
        · simp
          exact of_tail inu ico iix h b
  · have hl0 : ¬ a.acc.length = 0 := by simpa using hacc
    have hsets : a.sets = a.acc := if_neg hacc
    have hk : a.k = a.acc.length := by unfold Aut.k; rw [hsets]
    simp [hl0, hacc]
    simp only [irOfb2]
    refine lwp_loopG (fun q : Nat => ofB0 nu a a.k q) (fun q => ofH a (q * a.k)) (fun q => a.lits.length - q) (fun q => q ≤ a.lits.length) 0 (by simp) [] [] ⟨[0, 1, 2], ?_⟩ (go _ fun E' b => ?_)
    · simp [ofB0, setsV, hsets, hacc, hk, ofH, Aut.cells]
    · simp
      exact of_tail inu ico iix h b

end Lg
