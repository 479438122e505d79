/- MEETS: a run of the automaton made with one set goes from one set to the next one just where it meets it. -/
import Derived.Test.YtjdliinnbkfljaaDegenShown
import Derived.Test.YtjdliinnbkfljaaLibDegP
namespace Go.Proofs.Ytjdliinnbkfljaa
open Go Lg

def irMeetb2  : IR := (.loop
      (.seq (.seq (.ops [⟨some 76, .mov (.t 10), none⟩,
        ⟨some 77, .faddr 3 (.t 1), none⟩,
        ⟨some 78, .load 1 false (.t 77), none⟩,
        ⟨some 79, .mov (.t 8), none⟩,
        ⟨some 80, .iaddr 1 (.t 78) (.t 79), none⟩,
        ⟨some 81, .load 1 false (.t 80), none⟩,
        ⟨some 82, .len false (.t 81), none⟩,
        ⟨some 83, .bin .lss false (.t 76) (.t 82), none⟩])
      (.cond (.t 83)
        .skip
        (.exit 2)))
      (.seq (.block 3 (.ops [⟨some 86, .mov (.t 9), none⟩,
        ⟨some 87, .mov (.t 86), none⟩,
        ⟨some 88, .faddr 3 (.t 1), some (87, false)⟩,
        ⟨some 89, .load 1 false (.t 88), some (87, false)⟩,
        ⟨some 90, .mov (.t 8), some (87, false)⟩,
        ⟨some 91, .iaddr 1 (.t 89) (.t 90), some (87, false)⟩,
        ⟨some 92, .load 1 false (.t 91), some (87, false)⟩,
        ⟨some 93, .mov (.t 10), some (87, false)⟩,
        ⟨some 94, .iaddr 1 (.t 92) (.t 93), some (87, false)⟩,
        ⟨some 95, .load 1 false (.t 94), some (87, false)⟩,
        ⟨some 96, .mov (.t 7), some (87, false)⟩,
        ⟨some 97, .bin .eql false (.t 95) (.t 96), some (87, false)⟩,
        ⟨some 98, .pick (.t 87) (.c (.v (.bool true))) (.t 97), none⟩,
        ⟨some 9, .mov (.t 98), none⟩]))
      (.ops [⟨some 84, .mov (.t 10), none⟩,
        ⟨some 85, .bin .add false (.t 84) (.c (.v (.int .i64 1))), none⟩,
        ⟨some 10, .mov (.t 85), none⟩]))))

def irMeetb4  : IR := (.loop
      (.seq (.seq (.ops [⟨some 133, .mov (.t 12), none⟩,
        ⟨some 134, .faddr 1 (.t 5), none⟩,
        ⟨some 135, .load 1 false (.t 134), none⟩,
        ⟨some 136, .mov (.t 6), none⟩,
        ⟨some 137, .iaddr 1 (.t 135) (.t 136), none⟩,
        ⟨some 138, .load 1 false (.t 137), none⟩,
        ⟨some 139, .len false (.t 138), none⟩,
        ⟨some 140, .bin .lss false (.t 133) (.t 139), none⟩])
      (.cond (.t 140)
        .skip
        (.exit 4)))
      (.seq (.block 5 (.seq (.draw [[⟨some 143, .faddr 1 (.t 5), none⟩,
          ⟨some 144, .load 1 false (.t 143), none⟩,
          ⟨some 145, .mov (.t 6), none⟩,
          ⟨some 146, .iaddr 1 (.t 144) (.t 145), none⟩,
          ⟨some 147, .load 1 false (.t 146), none⟩,
          ⟨some 148, .mov (.t 12), none⟩,
          ⟨some 149, .iaddr 1 (.t 147) (.t 148), none⟩,
          ⟨some 150, .load 1 false (.t 149), none⟩,
          ⟨some 151, .faddr 1 (.t 1), none⟩,
          ⟨some 152, .load 1 false (.t 151), none⟩,
          ⟨some 153, .mov (.t 7), none⟩,
          ⟨some 154, .iaddr 1 (.t 152) (.t 153), none⟩,
          ⟨some 155, .load 1 false (.t 154), none⟩,
          ⟨some 156, .mov (.t 12), none⟩,
          ⟨some 157, .iaddr 1 (.t 155) (.t 156), none⟩,
          ⟨some 158, .load 1 false (.t 157), none⟩,
          ⟨some 159, .mov (.t 4), none⟩,
          ⟨some 160, .bin .mul false (.t 158) (.t 159), none⟩,
          ⟨some 161, .mov (.t 11), none⟩,
          ⟨some 162, .bin .add false (.t 160) (.t 161), none⟩],
        [⟨some 163, .bin .neq false (.t 150) (.t 162), none⟩]])
      (.cond (.t 163)
        (.seq (.ops [⟨some 2, .mov (.c (.v (.bool false))), none⟩])
        .ret)
        .skip)))
      (.ops [⟨some 141, .mov (.t 12), none⟩,
        ⟨some 142, .bin .add false (.t 141) (.c (.v (.int .i64 1))), none⟩,
        ⟨some 12, .mov (.t 142), none⟩]))))

def irMeetb6  : IR := (.loop
      (.seq (.seq (.ops [⟨some 164, .mov (.t 14), none⟩,
        ⟨some 165, .faddr 3 (.t 5), none⟩,
        ⟨some 166, .load 1 false (.t 165), none⟩,
        ⟨some 167, .iaddr 1 (.t 166) (.c (.v (.int .i64 0))), none⟩,
        ⟨some 168, .load 1 false (.t 167), none⟩,
        ⟨some 169, .len false (.t 168), none⟩,
        ⟨some 170, .bin .lss false (.t 164) (.t 169), none⟩])
      (.cond (.t 170)
        .skip
        (.exit 6)))
      (.seq (.block 7 (.ops [⟨some 173, .mov (.t 13), none⟩,
        ⟨some 174, .mov (.t 173), none⟩,
        ⟨some 175, .faddr 3 (.t 5), some (174, false)⟩,
        ⟨some 176, .load 1 false (.t 175), some (174, false)⟩,
        ⟨some 177, .iaddr 1 (.t 176) (.c (.v (.int .i64 0))), some (174, false)⟩,
        ⟨some 178, .load 1 false (.t 177), some (174, false)⟩,
        ⟨some 179, .mov (.t 14), some (174, false)⟩,
        ⟨some 180, .iaddr 1 (.t 178) (.t 179), some (174, false)⟩,
        ⟨some 181, .load 1 false (.t 180), some (174, false)⟩,
        ⟨some 182, .mov (.t 6), some (174, false)⟩,
        ⟨some 183, .bin .eql false (.t 181) (.t 182), some (174, false)⟩,
        ⟨some 184, .pick (.t 174) (.c (.v (.bool true))) (.t 183), none⟩,
        ⟨some 13, .mov (.t 184), none⟩]))
      (.ops [⟨some 171, .mov (.t 14), none⟩,
        ⟨some 172, .bin .add false (.t 171) (.c (.v (.int .i64 1))), none⟩,
        ⟨some 14, .mov (.t 172), none⟩]))))

def irMeet : FnIR := ⟨193, [.t 2],
  (.seq (.ops [⟨some 1, .box (.t 0), none⟩,
    ⟨some 2, .mov (.c (.v (.bool false))), none⟩])
  (.seq (.ops [⟨some 15, .call 8 [], none⟩,
    ⟨some 3, .mov (.t 15), none⟩])
  (.seq (.ops [⟨some 16, .faddr 3 (.t 1), none⟩,
    ⟨some 17, .load 1 false (.t 16), none⟩,
    ⟨some 18, .len false (.t 17), none⟩,
    ⟨some 4, .mov (.t 18), none⟩])
  (.seq (.seq (.ops [⟨some 19, .load 4 true (.t 1), none⟩,
    ⟨some 20, .call 9 [(.t 19), (.c (.v (.int .i64 20)))], none⟩,
    ⟨some 21, .un .not (.t 20), none⟩,
    ⟨some 22, .mov (.t 21), none⟩,
    ⟨some 23, .mov (.t 4), some (22, false)⟩,
    ⟨some 24, .bin .lss false (.t 23) (.c (.v (.int .i64 1))), some (22, false)⟩,
    ⟨some 25, .pick (.t 22) (.c (.v (.bool true))) (.t 24), none⟩,
    ⟨some 26, .mov (.t 25), none⟩,
    ⟨some 27, .mov (.t 4), some (26, false)⟩,
    ⟨some 28, .bin .gtr false (.t 27) (.c (.v (.int .i64 20))), some (26, false)⟩,
    ⟨some 29, .pick (.t 26) (.c (.v (.bool true))) (.t 28), none⟩,
    ⟨some 30, .mov (.t 29), none⟩,
    ⟨some 31, .load 4 true (.t 1), some (30, false)⟩,
    ⟨some 32, .call 10 [(.t 31), (.c (.v (.int .i64 1073741824)))], some (30, false)⟩,
    ⟨some 33, .un .not (.t 32), some (30, false)⟩,
    ⟨some 34, .pick (.t 30) (.c (.v (.bool true))) (.t 33), none⟩,
    ⟨some 35, .mov (.t 34), none⟩,
    ⟨some 36, .load 4 true (.t 1), some (35, false)⟩,
    ⟨some 37, .call 11 [(.t 36)], some (35, false)⟩,
    ⟨some 38, .un .not (.t 37), some (35, false)⟩,
    ⟨some 39, .pick (.t 35) (.c (.v (.bool true))) (.t 38), none⟩])
  (.cond (.t 39)
    (.seq (.ops [⟨some 40, .mov (.t 3), none⟩,
      ⟨some 2, .mov (.t 40), none⟩])
    .ret)
    .skip))
  (.seq (.ops [⟨some 41, .load 4 true (.t 1), none⟩,
    ⟨some 42, .call 13 [(.t 41)], none⟩,
    ⟨some 5, .alloc (.agg [(.v (.slice none 0 0)), (.v (.slice none 0 0)), (.v (.slice none 0 0)), (.v (.slice none 0 0))]), none⟩,
    ⟨none, .store 4 (.t 5) (.t 42), none⟩])
  (.seq (.seq (.ops [⟨some 43, .load 4 true (.t 5), none⟩,
    ⟨some 44, .call 11 [(.t 43)], none⟩,
    ⟨some 45, .un .not (.t 44), none⟩,
    ⟨some 46, .mov (.t 45), none⟩,
    ⟨some 47, .faddr 1 (.t 5), some (46, false)⟩,
    ⟨some 48, .load 1 false (.t 47), some (46, false)⟩,
    ⟨some 49, .len false (.t 48), some (46, false)⟩,
    ⟨some 50, .mov (.t 4), some (46, false)⟩,
    ⟨some 51, .faddr 0 (.t 1), some (46, false)⟩,
    ⟨some 52, .load 1 false (.t 51), some (46, false)⟩,
    ⟨some 53, .len false (.t 52), some (46, false)⟩,
    ⟨some 54, .bin .mul false (.t 50) (.t 53), some (46, false)⟩,
    ⟨some 55, .bin .neq false (.t 49) (.t 54), some (46, false)⟩,
    ⟨some 56, .pick (.t 46) (.c (.v (.bool true))) (.t 55), none⟩,
    ⟨some 57, .mov (.t 56), none⟩,
    ⟨some 58, .faddr 3 (.t 5), some (57, false)⟩,
    ⟨some 59, .load 1 false (.t 58), some (57, false)⟩,
    ⟨some 60, .len false (.t 59), some (57, false)⟩,
    ⟨some 61, .bin .neq false (.t 60) (.c (.v (.int .i64 1))), some (57, false)⟩,
    ⟨some 62, .pick (.t 57) (.c (.v (.bool true))) (.t 61), none⟩])
  (.cond (.t 62)
    (.seq (.ops [⟨some 2, .mov (.c (.v (.bool false))), none⟩])
    .ret)
    .skip))
  (.seq (.seq (.ops [⟨some 6, .mov (.c (.v (.int .i64 0))), none⟩])
  (.block 0 (.loop
    (.seq (.seq (.ops [⟨some 63, .mov (.t 6), none⟩,
      ⟨some 64, .faddr 1 (.t 5), none⟩,
      ⟨some 65, .load 1 false (.t 64), none⟩,
      ⟨some 66, .len false (.t 65), none⟩,
      ⟨some 67, .bin .lss false (.t 63) (.t 66), none⟩])
    (.cond (.t 67)
      .skip
      (.exit 0)))
    (.seq (.block 1 (.seq (.ops [⟨some 70, .mov (.t 6), none⟩,
      ⟨some 71, .mov (.t 4), none⟩,
      ⟨some 72, .bin .quo false (.t 70) (.t 71), none⟩,
      ⟨some 7, .mov (.t 72), none⟩])
    (.seq (.ops [⟨some 73, .mov (.t 6), none⟩,
      ⟨some 74, .mov (.t 4), none⟩,
      ⟨some 75, .bin .rem false (.t 73) (.t 74), none⟩,
      ⟨some 8, .mov (.t 75), none⟩])
    (.seq (.ops [⟨some 9, .mov (.c (.v (.bool false))), none⟩])
    (.seq (.seq (.ops [⟨some 10, .mov (.c (.v (.int .i64 0))), none⟩])
    (.block 2 irMeetb2))
    (.seq (.ops [⟨some 99, .mov (.t 8), none⟩,
      ⟨some 11, .mov (.t 99), none⟩])
    (.seq (.seq (.ops [⟨some 100, .mov (.t 9), none⟩])
    (.cond (.t 100)
      (.ops [⟨some 101, .mov (.t 8), none⟩,
        ⟨some 102, .bin .add false (.t 101) (.c (.v (.int .i64 1))), none⟩,
        ⟨some 103, .mov (.t 4), none⟩,
        ⟨some 104, .bin .rem false (.t 102) (.t 103), none⟩,
        ⟨some 11, .mov (.t 104), none⟩])
      .skip))
    (.seq (.seq (.draw [[⟨some 105, .faddr 1 (.t 5), none⟩,
        ⟨some 106, .load 1 false (.t 105), none⟩,
        ⟨some 107, .mov (.t 6), none⟩,
        ⟨some 108, .iaddr 1 (.t 106) (.t 107), none⟩,
        ⟨some 109, .load 1 false (.t 108), none⟩,
        ⟨some 110, .len false (.t 109), none⟩,
        ⟨some 111, .faddr 1 (.t 1), none⟩,
        ⟨some 112, .load 1 false (.t 111), none⟩,
        ⟨some 113, .mov (.t 7), none⟩,
        ⟨some 114, .iaddr 1 (.t 112) (.t 113), none⟩,
        ⟨some 115, .load 1 false (.t 114), none⟩,
        ⟨some 116, .len false (.t 115), none⟩],
      [⟨some 117, .bin .neq false (.t 110) (.t 116), none⟩],
      [⟨some 118, .mov (.t 117), none⟩],
      [⟨some 119, .faddr 0 (.t 5), some (118, false)⟩,
        ⟨some 120, .load 1 false (.t 119), some (118, false)⟩,
        ⟨some 121, .mov (.t 6), some (118, false)⟩,
        ⟨some 122, .iaddr 1 (.t 120) (.t 121), some (118, false)⟩,
        ⟨some 123, .load 1 false (.t 122), some (118, false)⟩,
        ⟨some 124, .len false (.t 123), some (118, false)⟩,
        ⟨some 125, .faddr 0 (.t 1), some (118, false)⟩,
        ⟨some 126, .load 1 false (.t 125), some (118, false)⟩,
        ⟨some 127, .mov (.t 7), some (118, false)⟩,
        ⟨some 128, .iaddr 1 (.t 126) (.t 127), some (118, false)⟩,
        ⟨some 129, .load 1 false (.t 128), some (118, false)⟩,
        ⟨some 130, .len false (.t 129), some (118, false)⟩],
      [⟨some 131, .bin .neq false (.t 124) (.t 130), some (118, false)⟩],
      [⟨some 132, .pick (.t 118) (.c (.v (.bool true))) (.t 131), none⟩]])
    (.cond (.t 132)
      (.seq (.ops [⟨some 2, .mov (.c (.v (.bool false))), none⟩])
      .ret)
      .skip))
    (.seq (.seq (.ops [⟨some 12, .mov (.c (.v (.int .i64 0))), none⟩])
    (.block 4 irMeetb4))
    (.seq (.ops [⟨some 13, .mov (.c (.v (.bool false))), none⟩])
    (.seq (.seq (.ops [⟨some 14, .mov (.c (.v (.int .i64 0))), none⟩])
    (.block 6 irMeetb6))
    (.seq (.ops [⟨some 185, .mov (.t 13), none⟩,
      ⟨some 186, .mov (.t 8), none⟩,
      ⟨some 187, .bin .eql false (.t 186) (.c (.v (.int .i64 0))), none⟩,
      ⟨some 188, .mov (.t 187), none⟩,
      ⟨some 189, .mov (.t 9), some (188, true)⟩,
      ⟨some 190, .pick (.t 188) (.t 189) (.c (.v (.bool false))), none⟩,
      ⟨some 191, .bin .neq true (.t 185) (.t 190), none⟩])
    (.cond (.t 191)
      (.seq (.ops [⟨some 2, .mov (.c (.v (.bool false))), none⟩])
      .ret)
      .skip)))))))))))))
    (.ops [⟨some 68, .mov (.t 6), none⟩,
      ⟨some 69, .bin .add false (.t 68) (.c (.v (.int .i64 1))), none⟩,
      ⟨some 6, .mov (.t 69), none⟩]))))))
  (.seq (.ops [⟨some 192, .mov (.t 3), none⟩,
    ⟨some 2, .mov (.t 192), none⟩])
  .ret))))))))⟩

theorem ofOk_of {a : Aut} (ha : a.Ok) {m : Int} (hm : m ≤ 1000) (hf : Few18 a m) (hr : a.right = true) (hs : a.acc.length ≤ 1000) : OfOk a :=
  ⟨ha, hr, by have := hf.lits; omega, hs, hf.rows, by have := hf.ends; omega⟩

def inT (q : Int) (l : List Int) (j : Nat) : Bool := decide (q ∈ l.take j)
theorem inT_zero {q : Int} {l : List Int} : inT q l 0 = false := by simp [inT]
theorem inT_all {q : Int} {l : List Int} : inT q l l.length = decide (q ∈ l) := by simp [inT]
theorem inT_succ {q : Int} {l : List Int} {j : Nat} (h : j < l.length) : inT q l (j + 1) = (inT q l j || decide (l[j] = q)) := by
  unfold inT
  rw [List.take_succ_eq_append_getElem h, Bool.eq_iff_iff]
  simp only [List.mem_append, List.mem_singleton, Bool.or_eq_true, decide_eq_true_eq]
  exact ⟨fun h => h.imp id Eq.symm, fun h => h.imp id Eq.symm⟩

/-- A number is looked for in a row, to the end. -/
theorem meet_b2 {a b : Aut} (ha : a.Ok) {i : Nat} (hi : i < a.acc.length) {k x q : Nat} {up : Bool} {Q : X → Env → Heap → Prop} {E : Env}
    (h1 : lk E 1 = .ptr 0 0) (h3 : lk E 3 = boolL up) (h4 : lk E 4 = intL k) (h5 : lk E 5 = .ptr 1 0) (h6 : lk E 6 = intL x) (h7 : lk E 7 = intL q) (h8 : lk E 8 = intL i) (h9 : lk E 9 = boolL false) (h10 : lk E 10 = intL 0)
    (hQ : ∀ E', lk E' 1 = .ptr 0 0 → lk E' 3 = boolL up → lk E' 4 = intL k → lk E' 5 = .ptr 1 0 → lk E' 6 = intL x → lk E' 7 = intL q → lk E' 8 = intL i → lk E' 9 = boolL (decide ((q : Int) ∈ a.acc[i])) → Q .normal E' [some a.cells, some b.cells]) :
    lwp Try.prog 0 irMeetb2 (X.inBlock 2 Q) E [some a.cells, some b.cells] := by
  have hset := ha.set _ (List.getElem_mem hi)
  simp only [irMeetb2]
  refine lwp_loop (fun j : Nat => [(1, .ptr 0 0), (3, boolL up), (4, intL k), (5, .ptr 1 0), (6, intL x), (7, intL q), (8, intL i), (9, boolL (inT (q : Int) a.acc[i] j)), (10, intL j)]) (fun _ => [some a.cells, some b.cells]) (fun j => a.acc[i].length - j) (fun j => j ≤ a.acc[i].length) 0 (by simp) ⟨[0, 1], ?_⟩ ?_
  · simp [h1, h3, h4, h5, h6, h7, h8, h9, h10, Aut.cells, inT_zero]
  · intro j hj
    have hw : IntKind.i64.wrap ((j : Int) + 1) = ((j + 1 : Nat) : Int) := wrap_id (by omega) (by omega)
    by_cases hlt : j < a.acc[i].length
    · have hsucc := inT_succ (q := (q : Int)) hlt
      cases hin : inT (q : Int) a.acc[i] j
      · rw [hin] at hsucc
        simp [Aut.cells, hi, hlt]
        refine ⟨j + 1, by omega, by simp <;> omega, [0, 1], ?_⟩
        simp [hw, hsucc, Aut.cells]
      · rw [hin] at hsucc
        simp [Aut.cells, hi, hlt]
        refine ⟨j + 1, by omega, by simp <;> omega, [0, 1], ?_⟩
        simp [hw, hsucc, Aut.cells]
    · have hjn : j = a.acc[i].length := by omega
      subst hjn
      rw [inT_all]
      simp [Aut.cells, hi]
      refine hQ _ ?_ ?_ ?_ ?_ ?_ ?_ ?_ ?_ <;> simp

theorem meet_b6 {a b : Aut} (hb : b.Ok) (h0 : 0 < b.acc.length) {k x q i : Nat} {inn up : Bool} {Q : X → Env → Heap → Prop} {E : Env}
    (h1 : lk E 1 = .ptr 0 0) (h3 : lk E 3 = boolL up) (h4 : lk E 4 = intL k) (h5 : lk E 5 = .ptr 1 0) (h6 : lk E 6 = intL x) (h7 : lk E 7 = intL q) (h8 : lk E 8 = intL i) (h9 : lk E 9 = boolL inn) (h13 : lk E 13 = boolL false) (h14 : lk E 14 = intL 0)
    (hQ : ∀ E', lk E' 1 = .ptr 0 0 → lk E' 3 = boolL up → lk E' 4 = intL k → lk E' 5 = .ptr 1 0 → lk E' 6 = intL x → lk E' 7 = intL q → lk E' 8 = intL i → lk E' 9 = boolL inn → lk E' 13 = boolL (decide ((x : Int) ∈ b.acc[0])) → Q .normal E' [some a.cells, some b.cells]) :
    lwp Try.prog 0 irMeetb6 (X.inBlock 6 Q) E [some a.cells, some b.cells] := by
  have hset := hb.set _ (List.getElem_mem h0)
  simp only [irMeetb6]
  refine lwp_loop (fun j : Nat => [(1, .ptr 0 0), (3, boolL up), (4, intL k), (5, .ptr 1 0), (6, intL x), (7, intL q), (8, intL i), (9, boolL inn), (13, boolL (inT (x : Int) b.acc[0] j)), (14, intL j)]) (fun _ => [some a.cells, some b.cells]) (fun j => b.acc[0].length - j) (fun j => j ≤ b.acc[0].length) 0 (by simp) ⟨[0, 1], ?_⟩ ?_
  · simp [h1, h3, h4, h5, h6, h7, h8, h9, h13, h14, Aut.cells, inT_zero]
  · intro j hj
    have hw : IntKind.i64.wrap ((j : Int) + 1) = ((j + 1 : Nat) : Int) := wrap_id (by omega) (by omega)
    by_cases hlt : j < b.acc[0].length
    · have hsucc := inT_succ (q := (x : Int)) hlt
      cases hin : inT (x : Int) b.acc[0] j
      · rw [hin] at hsucc
        simp [Aut.cells, h0, hlt]
        refine ⟨j + 1, by omega, by simp <;> omega, [0, 1], ?_⟩
        simp [hw, hsucc, Aut.cells]
      · rw [hin] at hsucc
        simp [Aut.cells, h0, hlt]
        refine ⟨j + 1, by omega, by simp <;> omega, [0, 1], ?_⟩
        simp [hw, hsucc, Aut.cells]
    · have hjn : j = b.acc[0].length := by omega
      subst hjn
      rw [inT_all]
      simp [Aut.cells, h0]
      refine hQ _ ?_ ?_ ?_ ?_ ?_ ?_ ?_ ?_ ?_ <;> simp

theorem meet_b4 {a b : Aut} (hb : b.Ok) {k x q i : Nat} {want : Nat} {inn up : Bool} (hx : x < b.next.length) (hq : q < a.next.length) (hlen : b.next[x].length = a.next[q].length) (hl : b.next[x].length ≤ 4000)
    (heq : ∀ j (h : j < b.next[x].length) (h' : j < a.next[q].length), b.next[x][j] = a.next[q][j] * (k : Int) + want) (hrow : ∀ s ∈ a.next[q], 0 ≤ s ∧ s ≤ 1000) (hk : k ≤ 1000) (hwant : want ≤ 1000) {Q : X → Env → Heap → Prop} {E : Env}
    (h1 : lk E 1 = .ptr 0 0) (h3 : lk E 3 = boolL up) (h4 : lk E 4 = intL k) (h5 : lk E 5 = .ptr 1 0) (h6 : lk E 6 = intL x) (h7 : lk E 7 = intL q) (h8 : lk E 8 = intL i) (h9 : lk E 9 = boolL inn) (h11 : lk E 11 = intL want) (h12 : lk E 12 = intL 0)
    (hQ : ∀ E', lk E' 1 = .ptr 0 0 → lk E' 3 = boolL up → lk E' 4 = intL k → lk E' 5 = .ptr 1 0 → lk E' 6 = intL x → lk E' 7 = intL q → lk E' 8 = intL i → lk E' 9 = boolL inn → Q .normal E' [some a.cells, some b.cells]) :
    lwp Try.prog 0 irMeetb4 (X.inBlock 4 Q) E [some a.cells, some b.cells] := by
  simp only [irMeetb4]
  refine lwp_loop (fun j : Nat => [(1, .ptr 0 0), (3, boolL up), (4, intL k), (5, .ptr 1 0), (6, intL x), (7, intL q), (8, intL i), (9, boolL inn), (11, intL want), (12, intL j)]) (fun _ => [some a.cells, some b.cells]) (fun j => b.next[x].length - j) (fun j => j ≤ b.next[x].length) 0 (by simp) ⟨[0, 1], ?_⟩ ?_
  · simp [h1, h3, h4, h5, h6, h7, h8, h9, h11, h12, Aut.cells]
  · intro j hj
    have hw : IntKind.i64.wrap ((j : Int) + 1) = ((j + 1 : Nat) : Int) := wrap_id (by omega) (by omega)
    by_cases hlt : j < b.next[x].length
    · have hlt' : j < a.next[q].length := by omega
      obtain ⟨s1, s2⟩ := hrow _ (List.getElem_mem hlt')
      have hpk : 0 ≤ a.next[q][j] * (k : Int) ∧ a.next[q][j] * (k : Int) ≤ 1000000 := by
        refine ⟨Int.mul_nonneg s1 (by omega), ?_⟩
        have := Int.mul_le_mul s2 (show (k : Int) ≤ 1000 by omega) (by omega) (by omega)
        omega
      have w1 : IntKind.i64.wrap (a.next[q][j] * (k : Int)) = a.next[q][j] * (k : Int) := wrap_id (by omega) (by omega)
      have w2 : IntKind.i64.wrap (a.next[q][j] * (k : Int) + (want : Int)) = a.next[q][j] * (k : Int) + (want : Int) := wrap_id (by omega) (by omega)
      have e := heq j hlt hlt'
      simp [Aut.cells, hx, hq, hlt, hlt', w1, w2, e]
      refine ⟨j + 1, by omega, by simp <;> omega, [0, 1], ?_⟩
      simp [hw, Aut.cells]
    · have hjn : j = b.next[x].length := by omega
      subst hjn
      simp [Aut.cells, hx]
      refine hQ _ ?_ ?_ ?_ ?_ ?_ ?_ ?_ ?_ <;> simp

theorem degenMeets_any (y0 : AutD) (h0 : AutOk y0) : PC Try.prog 7 [.agg [L.sl 1 false (y0.1.map fun (z : List (T)) => L.sl 4 false (z.map fun (z : T) => z.toL)), L.sl 1 false (y0.2.1.map fun (z : List (Int)) => L.sl 1 false (z.map fun (z : Int) => L.v (.int .i64 z))), L.sl 1 false (y0.2.2.1.map fun (z : Int) => L.v (.int .i64 z)), L.sl 1 false (y0.2.2.2.map fun (z : List (Int)) => L.sl 1 false (z.map fun (z : Int) => L.v (.int .i64 z)))]] (.v (.bool true)) := by
  show PC Try.prog 7 [(autOf y0).L] (boolL true)
  have ha := autOf_ok h0
  generalize autOf y0 = a at ha
  have hac := ha.acc
  refine pc_of_call (callAt_enter (show compF Try.prog 7 = some irMeet from ir7) (by simp [irMeet]) ?_)
  simp only [irMeet]
  simp [Aut.L, Aut.cells]
  refine callT_closed shown_any rfl ?_
  simp
  refine callT_plain (few18_any ha 20) rfl (by simp [Aut.L, Aut.cells]) ?_
  cases hf : a.few18 20
  · simp
  · have hfew := few18_facts hf
    by_cases hk1 : a.acc.length < 1
    · have hk1' : (a.acc.length : Int) < 1 := by omega
      simp [hk1']
    · have hk1' : ¬ (a.acc.length : Int) < 1 := by omega
      have hk1'' : (1 : Int) ≤ a.acc.length := by omega
      by_cases hk2 : 20 < a.acc.length
      · have hk2' : (20 : Int) < a.acc.length := by omega
        simp [hk1', hk1'', hk2']
      · have hk2' : ¬ (20 : Int) < a.acc.length := by omega
        have hk2'' : (a.acc.length : Int) ≤ 20 := by omega
        simp [hk1', hk1'', hk2', hk2'']
        refine callT_plain (may18_any ha 1073741824) rfl (by simp [Aut.L, Aut.cells]) ?_
        cases hmay : a.may 1073741824
        · simp
        · simp
          refine callT_plain (right18_any ha) rfl (by simp [Aut.L, Aut.cells]) ?_
          cases hright : a.right
          · simp
          · simp
            have ho := ofOk_of ha (by omega) hfew hright (by omega)
            refine callT_closed (of_any ho) (by simp [Aut.L, Aut.cells]) ?_
            have hb := degenOf_ok ho
            have hbr := degenOf_right ho
            have hne : a.acc ≠ [] := by intro e; rw [e] at hk1''; simp at hk1''
            have hsets : a.sets = a.acc := if_neg hne
            have hk : a.k = a.acc.length := by unfold Aut.k; rw [hsets]
            have hnx := ho.next
            have hlits : (a.lits.length : Int) ≤ 20 := hfew.lits
            have hN : a.lits.length * a.k ≤ 400 := by have := Nat.mul_le_mul (show a.lits.length ≤ 20 by omega) (show a.k ≤ 20 by omega); omega
            have hbn := deg_next (a := a)
            have hbl := deg_lits (a := a)
            have hbx : ∀ x (h : x < (degenOf a).next.length), (degenOf a).next[x] = degRow a x := fun x h => by
              have := deg_row (a := a) (x := x) (by omega)
              rwa [show (degenOf a).next.getD x [] = (degenOf a).next[x] by simp [List.getD, h]] at this
            have hbt : ∀ x (h : x < (degenOf a).lits.length), (degenOf a).lits[x] = a.lits.getD (x / a.k) [] := fun x h => by
              have := deg_lit (a := a) (x := x) (by omega)
              rwa [show (degenOf a).lits.getD x [] = (degenOf a).lits[x] by simp [List.getD, h]] at this
            have hba : (degenOf a).acc = [degAcc a a.lits.length] := rfl
            generalize degenOf a = b at hb hbr hbn hbl hbx hbt hba
            have hba1 : b.acc.length = 1 := by rw [hba]; rfl
            simp [Aut.L, Aut.cells]
            refine callT_plain (right18_any hb) rfl (by simp [Aut.L, Aut.cells]) ?_
            rw [hbr]
            have hm1 : IntKind.i64.wrap ((a.acc.length : Int) * (a.lits.length : Int)) = (b.next.length : Int) := by
              rw [hbn, hk, show (a.acc.length : Int) * (a.lits.length : Int) = ((a.lits.length * a.acc.length : Nat) : Int) by rw [Nat.mul_comm]; simp]
              rw [hk] at hN
              exact wrap_id (by omega) (by omega)
            simp [hm1, hba1]
            refine lwp_loop (fun x : Nat => [(1, .ptr 0 0), (3, boolL true), (4, intL a.acc.length), (5, .ptr 1 0), (6, intL x)]) (fun _ => [some a.cells, some b.cells]) (fun x => b.next.length - x) (fun x => x ≤ b.next.length) 0 (by simp) ⟨[0, 1], ?_⟩ ?_
            · simp [Aut.cells]
            · intro x hx
              have hw : IntKind.i64.wrap ((x : Int) + 1) = ((x + 1 : Nat) : Int) := wrap_id (by omega) (by omega)
              by_cases hlt : x < b.next.length
              · obtain ⟨k, hkk⟩ : ∃ k, k = a.acc.length := ⟨_, rfl⟩
                have hk0 : 0 < k := by omega
                rw [hk, ← hkk] at hbn hN hbl
                have h00 : (0 : Int) ≤ ((x / k : Nat) : Int) := Int.natCast_nonneg _
                have hq : x / k < a.lits.length := (Nat.div_lt_iff_lt_mul hk0).2 (by omega)
                have hi : x % k < a.acc.length := by rw [← hkk]; exact Nat.mod_lt _ hk0
                have hqn : x / k < a.next.length := by omega
                have hdiv : IntKind.i64.wrap ((x : Int).tdiv (k : Int)) = ((x / k : Nat) : Int) := by
                  have hle : x / k ≤ x := Nat.div_le_self x k
                  rw [Int.tdiv_eq_ediv_of_nonneg (by omega), show (x : Int) / (k : Int) = ((x / k : Nat) : Int) by simp, wrap_id (by omega) (by omega)]
                have hmod : (x : Int).tmod (k : Int) = ((x % k : Nat) : Int) := by rw [Int.tmod_eq_emod_of_nonneg (by omega)]; simp
                have hkz : ¬ (k : Int) = 0 := by omega
                have hkz' : ¬ k = 0 := by omega
                have hrow := hbx x hlt
                have hbxl : x < b.lits.length := by omega
                have hlit := hbt x hbxl
                rw [hk, ← hkk] at hlit
                rw [show a.lits.getD (x / k) [] = a.lits[x / k] by simp [List.getD, hq]] at hlit
                have hto : (if (x / k : Nat) ∈ (a.acc[x % k].map Int.toNat) then 0 else 0) = 0 := by split <;> rfl
                have htoV : a.to (x / k) (x % k) = if ((x / k : Nat) : Int) ∈ a.acc[x % k] then (x % k + 1) % k else x % k := by
                  unfold Aut.to; rw [hsets, hk, ← hkk]; simp [List.getD, hi]
                have hrowl : b.next[x].length = a.next[x / k].length := by
                  rw [hrow, degRow_length, hk, ← hkk]; simp [List.getD, hqn]
                have hrowe : ∀ j (h : j < b.next[x].length) (h' : j < a.next[x / k].length), b.next[x][j] = a.next[x / k][j] * (k : Int) + (a.to (x / k) (x % k) : Int) := fun j h h' => by
                  have e : b.next[x] = a.next[x / k].map fun p => p * (k : Int) + (a.to (x / k) (x % k) : Int) := by
                    rw [hrow]; unfold degRow; rw [hk, ← hkk]; simp [List.getD, hqn]
                  simp [e]
                have hmet : ((x : Int) ∈ b.acc[0]) ↔ (x % k = 0 ∧ ((x / k : Nat) : Int) ∈ a.acc[x % k]) := by
                  have e : b.acc[0] = degAcc a a.lits.length := by simp [hba]
                  rw [e, mem_degAcc, hsets, hk, ← hkk]
                  constructor
                  · rintro ⟨q, h1, h2, h3⟩
                    have h3' : x = q * k := by exact_mod_cast h3
                    have e1 : x % k = 0 := by rw [h3']; exact Nat.mul_mod_left q k
                    have e2 : x / k = q := by rw [h3']; exact Nat.mul_div_cancel q hk0
                    refine ⟨e1, ?_⟩
                    rw [e2]
                    have : a.acc.getD 0 [] = a.acc[x % k] := by simp [List.getD, e1, show 0 < a.acc.length by omega]
                    rwa [this] at h2
                  · rintro ⟨e1, h2⟩
                    refine ⟨x / k, hq, ?_, ?_⟩
                    · have : a.acc.getD 0 [] = a.acc[x % k] := by simp [List.getD, e1, show 0 < a.acc.length by omega]
                      rw [this]; exact h2
                    · have := Nat.div_add_mod x k
                      rw [e1, Nat.mul_comm] at this
                      omega
                have hrows20 : ∀ s ∈ a.next[x / k], 0 ≤ s ∧ s ≤ 1000 := fun s hs => by have := ho.row hqn s hs; omega
                have hr4 := hfew.rows _ (List.getElem_mem hqn)
                obtain ⟨q, hqe⟩ : ∃ q, q = x / k := ⟨_, rfl⟩
                obtain ⟨i, hie⟩ : ∃ i, i = x % k := ⟨_, rfl⟩
                have hqi : ∀ h1 h2, a.acc[x % k]'h1 = a.acc[i]'h2 := fun h1 h2 => by simp [hie]
                simp only [← hqe, ← hie] at hdiv hmod hq hi hqn hlit htoV hrowl hrowe hmet hrows20 hr4
                have hik : i < k := by rw [hkk]; exact hi
                have hqlit : b.lits[x].length = a.lits[q].length := by rw [hlit]
                have hdiv' : IntKind.i64.wrap ((x : Int) / (k : Int)) = (q : Int) := by rw [← hdiv, Int.tdiv_eq_ediv_of_nonneg (by omega)]
                have hmod' : (x : Int) % (k : Int) = (i : Int) := by rw [← hmod, Int.tmod_eq_emod_of_nonneg (by omega)]
                simp [Aut.cells, hlt, ← hkk, hdiv, hmod, hdiv', hmod', hkz, hkz']
                refine meet_b2 ha hi (k := k) (x := x) (q := q) (up := true) (by simp) (by simp) (by simp) (by simp) (by simp) (by simp) (by simp) (by simp) (by simp) fun E1 a1 a3 a4 a5 a6 a7 a8 a9 => ?_
                have hw2 : IntKind.i64.wrap ((i : Int) + 1) = (i : Int) + 1 := wrap_id (by omega) (by omega)
                have hmod2 : ((i : Int) + 1).tmod (k : Int) = (((i + 1) % k : Nat) : Int) := by rw [Int.tmod_eq_emod_of_nonneg (by omega)]; simp
                have hwk : (i + 1) % k < k := Nat.mod_lt _ hk0
                by_cases hin : (q : Int) ∈ a.acc[i]
                · simp [hin] at a9
                  rw [if_pos hin] at htoV
                  rw [htoV] at hrowe
                  simp [a1, a3, a4, a5, a6, a7, a8, a9, Aut.cells, hlt, hqn, hrowl, hq, hbxl, hqlit, hw2, hmod2, hkz, hkz']
                  refine meet_b4 hb hlt hqn hrowl (by omega) hrowe hrows20 (by omega) (by omega) (i := i) (inn := true) (up := true) (by simp [a1]) (by simp [a3]) (by simp [a4]) (by simp [a5]) (by simp [a6]) (by simp [a7]) (by simp [a8]) (by simp [a9]) (by simp [a8]) (by simp) fun E2 b1 b3 b4 b5 b6 b7 b8 b9 => ?_
                  simp
                  refine meet_b6 hb (by omega) (k := k) (x := x) (q := q) (i := i) (inn := true) (up := true) (by simp [b1]) (by simp [b3]) (by simp [b4]) (by simp [b5]) (by simp [b6]) (by simp [b7]) (by simp [b8]) (by simp [b9]) (by simp) (by simp) fun E3 c1 c3 c4 c5 c6 c7 c8 c9 c13 => ?_
                  by_cases hi0 : i = 0
                  · have hm : decide ((x : Int) ∈ b.acc[0]) = true := by rw [decide_eq_true_iff, hmet]; exact ⟨hi0, hin⟩
                    rw [hm] at c13
                    simp [c1, c3, c4, c5, c6, c7, c8, c9, c13, hi0]
                    refine ⟨x + 1, by omega, by simp <;> omega, [0, 1], ?_⟩
                    simp [c1, c3, c4, c5, c6, c7, c8, c9, c13, hw, Aut.cells]
                  · have hm : decide ((x : Int) ∈ b.acc[0]) = false := by rw [decide_eq_false_iff_not, hmet]; exact fun h => hi0 h.1
                    have hi0' : ¬ (i : Int) = 0 := by omega
                    rw [hm] at c13
                    simp [c1, c3, c4, c5, c6, c7, c8, c9, c13, hi0, hi0']
                    refine ⟨x + 1, by omega, by simp <;> omega, [0, 1], ?_⟩
                    simp [c1, c3, c4, c5, c6, c7, c8, c9, c13, hw, Aut.cells]
                · simp [hin] at a9
                  rw [if_neg hin] at htoV
                  rw [htoV] at hrowe
                  simp [a1, a3, a4, a5, a6, a7, a8, a9, Aut.cells, hlt, hqn, hrowl, hq, hbxl, hqlit, hkz, hkz']
                  refine meet_b4 hb hlt hqn hrowl (by omega) hrowe hrows20 (by omega) (by omega) (i := i) (inn := false) (up := true) (by simp [a1]) (by simp [a3]) (by simp [a4]) (by simp [a5]) (by simp [a6]) (by simp [a7]) (by simp [a8]) (by simp [a9]) (by simp [a8]) (by simp) fun E2 b1 b3 b4 b5 b6 b7 b8 b9 => ?_
                  simp
                  refine meet_b6 hb (by omega) (k := k) (x := x) (q := q) (i := i) (inn := false) (up := true) (by simp [b1]) (by simp [b3]) (by simp [b4]) (by simp [b5]) (by simp [b6]) (by simp [b7]) (by simp [b8]) (by simp [b9]) (by simp) (by simp) fun E3 c1 c3 c4 c5 c6 c7 c8 c9 c13 => ?_
                  by_cases hi0 : i = 0
                  · have hm : decide ((x : Int) ∈ b.acc[0]) = false := by rw [decide_eq_false_iff_not, hmet]; exact fun h => hin h.2
                    rw [hm] at c13
                    simp [c1, c3, c4, c5, c6, c7, c8, c9, c13, hi0]
                    refine ⟨x + 1, by omega, by simp <;> omega, [0, 1], ?_⟩
                    simp [c1, c3, c4, c5, c6, c7, c8, c9, c13, hw, Aut.cells]
                  · have hm : decide ((x : Int) ∈ b.acc[0]) = false := by rw [decide_eq_false_iff_not, hmet]; exact fun h => hi0 h.1
                    have hi0' : ¬ (i : Int) = 0 := by omega
                    rw [hm] at c13
                    simp [c1, c3, c4, c5, c6, c7, c8, c9, c13, hi0, hi0']
                    refine ⟨x + 1, by omega, by simp <;> omega, [0, 1], ?_⟩
                    simp [c1, c3, c4, c5, c6, c7, c8, c9, c13, hw, Aut.cells]
              · simp [Aut.cells, hlt]

end Go.Proofs.Ytjdliinnbkfljaa
