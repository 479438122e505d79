/- The automaton with one set, as the answer's text makes it. -/
import Derived.Test.YtjdliinnbkfljaaLibDegP
import Derived.Test.YtjdliinnbkfljaaLibTakes
namespace Lg
open Go

def irSets : FnIR := ⟨24, [.t 2],
  (.seq (.ops [⟨some 1, .box (.t 0), none⟩,
    ⟨some 2, .mov (.c (.v (.slice none 0 0))), none⟩])
  (.seq (.seq (.ops [⟨some 5, .faddr 3 (.t 1), none⟩,
    ⟨some 6, .load 1 false (.t 5), none⟩,
    ⟨some 7, .len false (.t 6), none⟩,
    ⟨some 8, .bin .gtr false (.t 7) (.c (.v (.int .i64 0))), none⟩])
  (.cond (.t 8)
    (.seq (.ops [⟨some 9, .faddr 3 (.t 1), none⟩,
      ⟨some 10, .load 1 false (.t 9), none⟩,
      ⟨some 2, .mov (.t 10), none⟩])
    .ret)
    .skip))
  (.seq (.ops [⟨some 3, .mov (.c (.v (.slice none 0 0))), none⟩])
  (.seq (.seq (.ops [⟨some 4, .mov (.c (.v (.int .i64 0))), none⟩])
  (.block 0 (.loop
    (.seq (.seq (.ops [⟨some 11, .mov (.t 4), none⟩,
      ⟨some 12, .faddr 0 (.t 1), none⟩,
      ⟨some 13, .load 1 false (.t 12), none⟩,
      ⟨some 14, .len false (.t 13), none⟩,
      ⟨some 15, .bin .lss false (.t 11) (.t 14), none⟩])
    (.cond (.t 15)
      .skip
      (.exit 0)))
    (.seq (.block 1 (.ops [⟨some 18, .mov (.t 3), none⟩,
      ⟨some 19, .mov (.t 4), none⟩,
      ⟨some 20, .bslice 1 [(.v (.int .i64 0))] 1 [(0, 1, (.t 19))], none⟩,
      ⟨some 21, .append 1 8 [(.v (.int .i64 0))] (.t 18) (.t 20), none⟩,
      ⟨some 3, .mov (.t 21), none⟩]))
    (.ops [⟨some 16, .mov (.t 4), none⟩,
      ⟨some 17, .bin .add false (.t 16) (.c (.v (.int .i64 1))), none⟩,
      ⟨some 4, .mov (.t 17), none⟩]))))))
  (.seq (.ops [⟨some 22, .mov (.t 3), none⟩,
    ⟨some 23, .bslice 1 [(.v (.slice none 0 0))] 1 [(0, 1, (.t 22))], none⟩,
    ⟨some 2, .mov (.t 23), none⟩])
  .ret)))))⟩

def irRefOfb2 (se isn : Nat) : IR := (.loop
      (.seq (.seq (.ops [⟨some 47, .mov (.t 11), none⟩,
        ⟨some 48, .faddr 1 (.t 1), none⟩,
        ⟨some 49, .load 1 false (.t 48), none⟩,
        ⟨some 50, .mov (.t 7), none⟩,
        ⟨some 51, .iaddr 1 (.t 49) (.t 50), none⟩,
        ⟨some 52, .load 1 false (.t 51), none⟩,
        ⟨some 53, .len false (.t 52), none⟩,
        ⟨some 54, .bin .lss false (.t 47) (.t 53), none⟩])
      (.cond (.t 54)
        .skip
        (.exit 2)))
      (.seq (.block 3 (.ops [⟨some 57, .mov (.t 10), none⟩,
        ⟨some 58, .faddr 1 (.t 1), none⟩,
        ⟨some 59, .load 1 false (.t 58), none⟩,
        ⟨some 60, .mov (.t 7), none⟩,
        ⟨some 61, .iaddr 1 (.t 59) (.t 60), none⟩,
        ⟨some 62, .load 1 false (.t 61), none⟩,
        ⟨some 63, .mov (.t 11), none⟩,
        ⟨some 64, .iaddr 1 (.t 62) (.t 63), none⟩,
        ⟨some 65, .load 1 false (.t 64), none⟩,
        ⟨some 66, .mov (.t 4), none⟩,
        ⟨some 67, .bin .mul false (.t 65) (.t 66), none⟩,
        ⟨some 68, .mov (.t 8), none⟩,
        ⟨some 69, .bin .add false (.t 67) (.t 68), none⟩,
        ⟨some 70, .bslice 1 [(.v (.int .i64 0))] 1 [(0, 1, (.t 69))], none⟩,
        ⟨some 71, .append 1 8 [(.v (.int .i64 0))] (.t 57) (.t 70), none⟩,
        ⟨some 10, .mov (.t 71), none⟩]))
      (.ops [⟨some 55, .mov (.t 11), none⟩,
        ⟨some 56, .bin .add false (.t 55) (.c (.v (.int .i64 1))), none⟩,
        ⟨some 11, .mov (.t 56), none⟩]))))

def irRefOfU (se isn : Nat) : IR := (.seq (.draw [[⟨some 72, .faddr 0 (.t 5), none⟩,
        ⟨some 73, .load 1 false (.t 72), none⟩,
        ⟨some 74, .faddr 0 (.t 1), none⟩,
        ⟨some 75, .load 1 false (.t 74), none⟩,
        ⟨some 76, .mov (.t 7), none⟩,
        ⟨some 77, .iaddr 1 (.t 75) (.t 76), none⟩,
        ⟨some 78, .load 1 false (.t 77), none⟩,
        ⟨some 79, .bslice 1 [(.v (.slice none 0 0))] 1 [(0, 1, (.t 78))], none⟩],
      [⟨some 80, .append 1 24 [(.v (.slice none 0 0))] (.t 73) (.t 79), none⟩],
      [⟨some 81, .faddr 0 (.t 5), none⟩],
      [⟨none, .store 1 (.t 81) (.t 80), none⟩]])
    (.seq (.ops [⟨some 82, .faddr 1 (.t 5), none⟩,
      ⟨some 83, .load 1 false (.t 82), none⟩,
      ⟨some 84, .mov (.t 10), none⟩,
      ⟨some 85, .bslice 1 [(.v (.slice none 0 0))] 1 [(0, 1, (.t 84))], none⟩,
      ⟨some 86, .append 1 24 [(.v (.slice none 0 0))] (.t 83) (.t 85), none⟩,
      ⟨some 87, .faddr 1 (.t 5), none⟩,
      ⟨none, .store 1 (.t 87) (.t 86), none⟩])
    (.seq (.ops [⟨some 88, .mov (.t 3), none⟩,
      ⟨some 89, .iaddr 1 (.t 88) (.c (.v (.int .i64 0))), none⟩,
      ⟨some 90, .load 1 false (.t 89), none⟩,
      ⟨some 91, .mov (.t 7), none⟩,
      ⟨some 92, .call isn [(.t 90), (.t 91)], none⟩,
      ⟨some 12, .mov (.t 92), none⟩])
    (.seq (.ops [⟨some 93, .mov (.t 6), none⟩,
      ⟨some 94, .mov (.t 4), none⟩,
      ⟨some 95, .bin .rem false (.t 93) (.t 94), none⟩,
      ⟨some 96, .bin .eql false (.t 95) (.c (.v (.int .i64 0))), none⟩,
      ⟨some 97, .mov (.t 96), none⟩,
      ⟨some 98, .mov (.t 12), some (97, true)⟩,
      ⟨some 99, .pick (.t 97) (.t 98) (.c (.v (.bool false))), none⟩])
    (.cond (.t 99)
      (.drawF [([0, 1], [⟨some 100, .faddr 3 (.t 5), none⟩,
          ⟨some 101, .load 1 false (.t 100), none⟩,
          ⟨some 102, .faddr 3 (.t 5), none⟩,
          ⟨some 103, .load 1 false (.t 102), none⟩,
          ⟨some 104, .iaddr 1 (.t 103) (.c (.v (.int .i64 0))), none⟩,
          ⟨some 105, .load 1 false (.t 104), none⟩,
          ⟨some 106, .mov (.t 6), none⟩,
          ⟨some 107, .bslice 1 [(.v (.int .i64 0))] 1 [(0, 1, (.t 106))], none⟩,
          ⟨some 108, .append 1 8 [(.v (.int .i64 0))] (.t 105) (.t 107), none⟩]),
        ([], [⟨some 109, .iaddr 1 (.t 101) (.c (.v (.int .i64 0))), none⟩]),
        ([], [⟨none, .store 1 (.t 109) (.t 108), none⟩])])
      .skip)))))

def irRefOfT (se isn : Nat) : IR := (.seq (.ops [⟨some 10, .mov (.c (.v (.slice none 0 0))), none⟩])
    (.seq (.seq (.ops [⟨some 11, .mov (.c (.v (.int .i64 0))), none⟩])
    (.block 2 (irRefOfb2 se isn)))
    (irRefOfU se isn)))

def irRefOfb1 (se isn : Nat) : IR := (.seq (.ops [⟨some 29, .mov (.t 6), none⟩,
      ⟨some 30, .mov (.t 4), none⟩,
      ⟨some 31, .bin .quo false (.t 29) (.t 30), none⟩,
      ⟨some 7, .mov (.t 31), none⟩])
    (.seq (.ops [⟨some 32, .mov (.t 6), none⟩,
      ⟨some 33, .mov (.t 4), none⟩,
      ⟨some 34, .bin .rem false (.t 32) (.t 33), none⟩,
      ⟨some 8, .mov (.t 34), none⟩])
    (.seq (.ops [⟨some 35, .mov (.t 3), none⟩,
      ⟨some 36, .mov (.t 8), none⟩,
      ⟨some 37, .iaddr 1 (.t 35) (.t 36), none⟩,
      ⟨some 38, .load 1 false (.t 37), none⟩,
      ⟨some 39, .mov (.t 7), none⟩,
      ⟨some 40, .call isn [(.t 38), (.t 39)], none⟩,
      ⟨some 9, .mov (.t 40), none⟩])
    (.seq (.seq (.ops [⟨some 41, .mov (.t 9), none⟩])
    (.cond (.t 41)
      (.ops [⟨some 42, .mov (.t 8), none⟩,
        ⟨some 43, .bin .add false (.t 42) (.c (.v (.int .i64 1))), none⟩,
        ⟨some 8, .mov (.t 43), none⟩])
      .skip))
    (.seq (.seq (.ops [⟨some 44, .mov (.t 8), none⟩,
      ⟨some 45, .mov (.t 4), none⟩,
      ⟨some 46, .bin .eql false (.t 44) (.t 45), none⟩])
    (.cond (.t 46)
      (.ops [⟨some 8, .mov (.c (.v (.int .i64 0))), none⟩])
      .skip))
    (irRefOfT se isn))))))

def irRefOfb0 (se isn : Nat) : IR := (.loop
    (.seq (.seq (.ops [⟨some 20, .mov (.t 6), none⟩,
      ⟨some 21, .mov (.t 4), none⟩,
      ⟨some 22, .faddr 0 (.t 1), none⟩,
      ⟨some 23, .load 1 false (.t 22), none⟩,
      ⟨some 24, .len false (.t 23), none⟩,
      ⟨some 25, .bin .mul false (.t 21) (.t 24), none⟩,
      ⟨some 26, .bin .lss false (.t 20) (.t 25), none⟩])
    (.cond (.t 26)
      .skip
      (.exit 0)))
    (.seq (.block 1 (irRefOfb1 se isn))
    (.ops [⟨some 27, .mov (.t 6), none⟩,
      ⟨some 28, .bin .add false (.t 27) (.c (.v (.int .i64 1))), none⟩,
      ⟨some 6, .mov (.t 28), none⟩]))))

def irRefOfb4 (se isn : Nat) : IR := (.loop
    (.seq (.seq (.ops [⟨some 110, .mov (.t 13), none⟩,
      ⟨some 111, .faddr 2 (.t 1), none⟩,
      ⟨some 112, .load 1 false (.t 111), none⟩,
      ⟨some 113, .len false (.t 112), none⟩,
      ⟨some 114, .bin .lss false (.t 110) (.t 113), none⟩])
    (.cond (.t 114)
      .skip
      (.exit 4)))
    (.seq (.block 5 (.draw [[⟨some 117, .faddr 2 (.t 5), none⟩,
        ⟨some 118, .load 1 false (.t 117), none⟩,
        ⟨some 119, .faddr 2 (.t 1), none⟩,
        ⟨some 120, .load 1 false (.t 119), none⟩,
        ⟨some 121, .mov (.t 13), none⟩,
        ⟨some 122, .iaddr 1 (.t 120) (.t 121), none⟩,
        ⟨some 123, .load 1 false (.t 122), none⟩,
        ⟨some 124, .mov (.t 4), none⟩,
        ⟨some 125, .bin .mul false (.t 123) (.t 124), none⟩,
        ⟨some 126, .bslice 1 [(.v (.int .i64 0))] 1 [(0, 1, (.t 125))], none⟩],
      [⟨some 127, .append 1 8 [(.v (.int .i64 0))] (.t 118) (.t 126), none⟩],
      [⟨some 128, .faddr 2 (.t 5), none⟩],
      [⟨none, .store 1 (.t 128) (.t 127), none⟩]]))
    (.ops [⟨some 115, .mov (.t 13), none⟩,
      ⟨some 116, .bin .add false (.t 115) (.c (.v (.int .i64 1))), none⟩,
      ⟨some 13, .mov (.t 116), none⟩]))))

def irRefOf (se isn : Nat) : FnIR := ⟨130, [.c 2 4 true],
  (.seq (.ops [⟨some 1, .box (.t 0), none⟩,
    ⟨some 2, .alloc (.agg [(.v (.slice none 0 0)), (.v (.slice none 0 0)), (.v (.slice none 0 0)), (.v (.slice none 0 0))]), none⟩])
  (.seq (.ops [⟨some 14, .load 4 true (.t 1), none⟩,
    ⟨some 15, .call se [(.t 14)], none⟩,
    ⟨some 3, .mov (.t 15), none⟩])
  (.seq (.ops [⟨some 16, .mov (.t 3), none⟩,
    ⟨some 17, .len false (.t 16), none⟩,
    ⟨some 4, .mov (.t 17), none⟩])
  (.seq (.ops [⟨some 18, .bslice 1 [(.v (.slice none 0 0))] 1 [(0, 1, (.c (.v (.slice none 0 0))))], none⟩,
    ⟨some 19, .build [(.v (.slice none 0 0)), (.v (.slice none 0 0)), (.v (.slice none 0 0)), (.v (.slice none 0 0))] [(3, 1, (.t 18))], none⟩,
    ⟨some 5, .alloc (.agg [(.v (.slice none 0 0)), (.v (.slice none 0 0)), (.v (.slice none 0 0)), (.v (.slice none 0 0))]), none⟩,
    ⟨none, .store 4 (.t 5) (.t 19), none⟩])
  (.seq (.seq (.ops [⟨some 6, .mov (.c (.v (.int .i64 0))), none⟩])
  (.block 0 (irRefOfb0 se isn)))
  (.seq (.seq (.ops [⟨some 13, .mov (.c (.v (.int .i64 0))), none⟩])
  (.block 4 (irRefOfb4 se isn)))
  (.seq (.ops [⟨some 129, .load 4 true (.t 5), none⟩,
    ⟨none, .store 4 (.t 2) (.t 129), none⟩])
  .ret)))))))⟩


/-- The sets, as they are handed. -/
def setsR (a : Aut) : L := if a.acc = [] then .sl 1 true [cellR ((List.range a.lits.length).map fun q : Nat => (q : Int))] else .sl 1 false (a.acc.map intsL)

theorem sets_gen {P : Program} {f : Nat} (ir : compF P f = some irSets) {a : Aut} (hn : a.lits.length ≤ 1000) : PC P f [a.L] (setsR a) := by
  refine pc_of_call (callAt_enter ir (by simp [irSets]) ?_)
  by_cases hacc : a.acc = []
  · simp only [setsR, hacc, if_true]
    simp [irSets, Aut.L, Aut.cells, hacc]
    obtain ⟨ls, hls⟩ : ∃ ls : List L, ls = (List.range a.lits.length).map fun q : Nat => intL (q : Int) := ⟨_, rfl⟩
    have hll : ls.length = a.lits.length := by simp [hls]
    have hbel : ∀ m : Nat, ∀ k, belowL m (ls.take k) = true := fun m k => by rw [hls, ← List.map_take, belowL_map]; simp
    have hren : ∀ (f : Nat → Nat) k, renL f (ls.take k) = ls.take k := fun f k => by rw [hls, ← List.map_take, renL_map]; simp
    refine lwp_loop (fun j : Nat => [(1, .ptr 0 0), (3, accE 1 1 (ls.take j)), (4, intL j)]) (fun j => [some a.cells] ++ accH (ls.take j)) (fun j => a.lits.length - j) (fun j => j ≤ a.lits.length) 0 (by simp) ⟨[0], ?_⟩ ?_
    · simp [accE, accH, Aut.cells, hacc]
    · intro j hj
      by_cases hlt : j < a.lits.length
      · have hw3 : IntKind.i64.wrap ((j : Int) + 1) = ((j + 1 : Nat) : Int) := wrap_id (by omega) (by omega)
        have hlj : j < ls.length := by omega
        have hv : ls[j] = .v (.int .i64 (j : Int)) := by simp [hls]
        have hsucc : ls.take (j + 1) = ls.take j ++ [.v (.int .i64 (j : Int))] := by rw [List.take_succ_eq_append_getElem hlj, hv]
        have hne : ls.take (j + 1) ≠ [] := by rw [hsucc]; simp
        have hlen0 : (ls.take j).length = j := by rw [List.length_take]; omega
        have hmin : min j ls.length = j := by omega
        by_cases hj0 : j = 0
        · subst hj0
          simp only [List.take_zero] at hsucc ⊢
          simp [Aut.cells, hlt]
          refine ⟨1, by omega, by simp <;> omega, ?_⟩
          show weak 0 _ _ _ ([some a.cells] ++ accH (ls.take (0 + 1)))
          simp only [accE_ne hne, accH_ne hne, hsucc]
          refine ⟨[0, 2], ?_⟩
          have hww : IntKind.i64.wrap 1 = 1 := by decide
          simp [accE, accH, hww, Aut.cells, hacc]
        · have hne0 : ls.take j ≠ [] := by intro e; rw [e] at hlen0; simp at hlen0; omega
          simp only [accE_ne hne0, accH_ne hne0, hlen0]
          simp [hlt, Aut.cells, hmin]
          refine ⟨by omega, j + 1, by omega, by simp <;> omega, ?_⟩
          show weak 0 _ _ _ ([some a.cells] ++ accH (ls.take (j + 1)))
          simp only [accE_ne hne, accH_ne hne, hsucc]
          refine ⟨[0, 3], ?_⟩
          simp [accE, accH, hw3, Aut.cells, hacc, hbel, hren, hmin]
      · have hjn : j = a.lits.length := by omega
        have htake : ls.take j = ls := List.take_of_length_le (by omega)
        rw [htake]
        by_cases h0 : ls = []
        · have : a.lits = [] := List.length_eq_zero_iff.1 (by rw [← hll, h0]; rfl)
          have hj0 : ¬ (j : Int) < 0 := by omega
          simp [h0, Aut.cells, hj0, accE, accH, this, cellR]
        · have hne : a.lits ≠ [] := fun e => h0 (List.length_eq_zero_iff.1 (by rw [hll, e]; rfl))
          have hc : cellR ((List.range a.lits.length).map fun q : Nat => (q : Int)) = .sl 1 false ls := by
            rw [cellR_ne (by simpa using hne), hls, List.map_map]; rfl
          have hcl : ls.all closed = true := by rw [hls, List.all_eq_true]; intro y hy; obtain ⟨v, -, rfl⟩ := List.mem_map.1 hy; rfl
          rw [hc]
          simp only [accE_ne h0, accH_ne h0]
          simp [Aut.cells, hlt, hcl]
  · have hpos : 0 < a.acc.length := List.length_pos_iff.2 hacc
    simp only [setsR, hacc, if_false]
    simp [irSets, Aut.L, Aut.cells, hpos]

/-- The sets, as they are kept while the states are gone through. -/
def setsW (a : Aut) : L := .sl 1 (decide (a.acc = [])) (a.sets.map intsL)
theorem setsR_eq {a : Aut} (hn : a.lits.length ≠ 0) : setsR a = setsW a := by
  unfold setsR setsW Aut.sets
  by_cases h : a.acc = []
  · have : (List.range a.lits.length).map (fun q : Nat => (q : Int)) ≠ [] := by simpa using fun e => hn (by simp [e])
    simp only [h, if_true, decide_true, List.map_cons, List.map_nil, cellR_ne this]
  · simp only [h, if_false, decide_false]

def refB (a : Aut) (x : Nat) : Env := [(1, .ptr 0 0), (2, .ptr 1 0), (3, setsW a), (4, intL a.k), (5, .ptr 3 0), (6, intL x)]

theorem ref_b1 {P : Program} {se isn : Nat} (iis : compF P isn = some irIn) {a : Aut} (h : OfOk a) {x : Nat} (hx : x < a.lits.length * a.k) {H : Heap} {Q : X → Env → Heap → Prop} {E : Env}
    (hE : ∀ p ∈ refB a x, lk E p.1 = p.2)
    (hQ : ∀ E', (∀ p ∈ refB a x, lk E' p.1 = p.2) → lk E' 7 = intL (x / a.k : Nat) → lk E' 8 = intL (a.to (x / a.k) (x % a.k)) → lwp P 0 (irRefOfT se isn) Q E' H) :
    lwp P 0 (irRefOfb1 se isn) Q E H := by
  obtain ⟨k, hk⟩ : ∃ k, k = a.k := ⟨_, rfl⟩
  have hkk := h.k
  have hfew := h.few
  have hto : ∀ q i : Nat, i < a.sets.length → a.to q i = if (q : Int) ∈ a.sets.getD i [] then (i + 1) % a.k else i := fun q i hi => rfl
  have hsl : a.sets.length = k := hk.symm
  simp only [refB, List.mem_cons, List.not_mem_nil, or_false, forall_eq_or_imp, forall_eq] at hE
  obtain ⟨g1, g2, g3, g4, g5, g6⟩ := hE
  rw [← hk] at g4 hx hQ hkk hto
  have hN : a.lits.length * k ≤ 1000000 := by have := Nat.mul_le_mul hfew hkk.2; omega
  have h00 : (0 : Int) ≤ ((x / k : Nat) : Int) := Int.natCast_nonneg _
  have hdiv : IntKind.i64.wrap ((x : Int).tdiv (k : Int)) = ((x / k : Nat) : Int) := by
    have hle : x / k ≤ x := Nat.div_le_self x k
    rw [Int.tdiv_eq_ediv_of_nonneg (by omega), show (x : Int) / (k : Int) = ((x / k : Nat) : Int) by simp, wrap_id (by omega) (by omega)]
  have hmod : (x : Int).tmod (k : Int) = ((x % k : Nat) : Int) := by rw [Int.tmod_eq_emod_of_nonneg (by omega)]; simp
  have hdiv' : IntKind.i64.wrap ((x : Int) / (k : Int)) = ((x / k : Nat) : Int) := by rw [← hdiv, Int.tdiv_eq_ediv_of_nonneg (by omega)]
  have hkz : ¬ (k : Int) = 0 := by omega
  have hkz' : ¬ k = 0 := by omega
  have hi : x % k < k := Nat.mod_lt _ (by omega)
  obtain ⟨q, hqe⟩ : ∃ q, q = x / k := ⟨_, rfl⟩
  obtain ⟨i, hie⟩ : ∃ i, i = x % k := ⟨_, rfl⟩
  rw [← hqe, ← hie] at hQ
  rw [← hqe] at hdiv hdiv'
  rw [← hie] at hmod hi
  have his : i < a.sets.length := by omega
  have htoV := hto q i his
  rw [show a.sets.getD i [] = a.sets[i] by simp [List.getD, his]] at htoV
  have hcon := in_gen iis (c := false) a.sets[i] (h.set his) (q : Int)
  have hw1 : IntKind.i64.wrap ((i : Int) + 1) = (i : Int) + 1 := wrap_id (by omega) (by omega)
  simp only [irRefOfb1]
  simp [g3, g4, g6, hdiv, hdiv', hmod, hkz, hkz', setsW, his]
  refine callT_plain hcon rfl (by simp) ?_
  by_cases hin : (q : Int) ∈ a.sets[i]
  · rw [if_pos hin] at htoV
    by_cases hlast : i + 1 = k
    · have e1 : (i : Int) + 1 = (k : Int) := by omega
      have e2 : a.to q i = 0 := by rw [htoV, hlast, Nat.mod_self]
      rw [e2] at hQ
      have hwk : IntKind.i64.wrap (k : Int) = (k : Int) := wrap_id (by omega) (by omega)
      simp [hin, hw1, g4, e1, hwk]
      refine hQ _ ?_ ?_ ?_
      · simp [refB, setsW, g1, g2, g3, g4, g5, g6, ← hk]
      · simp
      · simp
    · have e1 : ¬ (i : Int) + 1 = (k : Int) := by omega
      have e2 : a.to q i = i + 1 := by rw [htoV, Nat.mod_eq_of_lt (by omega)]
      rw [e2] at hQ
      simp [hin, hw1, g4, e1]
      refine hQ _ ?_ ?_ ?_
      · simp [refB, setsW, g1, g2, g3, g4, g5, g6, ← hk]
      · simp
      · simp
  · rw [if_neg hin] at htoV
    rw [htoV] at hQ
    have e1 : ¬ (i : Int) = (k : Int) := by omega
    have e1' : ¬ i = k := by omega
    simp [hin, g4, e1, e1']
    refine hQ _ ?_ ?_ ?_
    · simp [refB, setsW, g1, g2, g3, g4, g5, g6, ← hk]
    · simp
    · simp

/-- The edges of a state, as they are numbered. -/
theorem ref_l {P : Program} {se isn : Nat} {a : Aut} (h : OfOk a) {q : Nat} (hq : q < a.next.length) {t x : Nat} (ht : t ≤ 1000)
    {H0 : Heap} (hH : H0[0]? = some (some a.cells)) (hlen : 4 ≤ H0.length) (hs : shut H0.length H0) {Q : X → Env → Heap → Prop} {E : Env}
    (hE : ∀ p ∈ refB a x, lk E p.1 = p.2) (h7 : lk E 7 = intL q) (h8 : lk E 8 = intL t) (h10 : lk E 10 = .v (.slice none 0 0)) (h11 : lk E 11 = intL 0)
    (hQ : ∀ E', (∀ p ∈ refB a x, lk E' p.1 = p.2) → lk E' 7 = intL q → lk E' 8 = intL t →
      lk E' 10 = accE 1 H0.length ((a.next[q].map fun p => p * (a.k : Int) + (t : Int)).map intL) → Q .normal E' (H0 ++ accH ((a.next[q].map fun p => p * (a.k : Int) + (t : Int)).map intL))) :
    lwp P 0 (irRefOfb2 se isn) (X.inBlock 2 Q) E H0 := by
  have hget : ∀ X : Heap, (H0 ++ X)[0]? = some (some a.cells) := fun X => by rw [List.getElem?_append_left (by omega)]; exact hH
  have hgetE : ∀ (X : Heap) (h : 0 < (H0 ++ X).length), (H0 ++ X)[0]'h = some a.cells := fun X h => by
    have := hget X
    rw [List.getElem?_eq_getElem h] at this
    simpa using this
  have hkk := h.k
  have hst := h.row hq
  have hfew := h.few
  have hrl := h.rows _ (List.getElem_mem hq)
  simp only [refB, List.mem_cons, List.not_mem_nil, or_false, forall_eq_or_imp, forall_eq] at hE
  obtain ⟨g1, g2, g3, g4, g5, g6⟩ := hE
  obtain ⟨k, hk⟩ : ∃ k, k = a.k := ⟨_, rfl⟩
  rw [← hk] at g4 hQ hkk
  obtain ⟨ls, hls⟩ : ∃ ls, ls = (a.next[q].map fun p => p * (k : Int) + (t : Int)).map intL := ⟨_, rfl⟩
  rw [← hls] at hQ
  have hel : ls.length = a.next[q].length := by simp [hls]
  have hbel : ∀ m : Nat, ∀ k, belowL m (ls.take k) = true := fun m k => by rw [hls, ← List.map_take, belowL_map]; simp
  have hren : ∀ (f : Nat → Nat) k, renL f (ls.take k) = ls.take k := fun f k => by rw [hls, ← List.map_take, renL_map]; simp
  have hb1 : 0 < H0.length := by omega
  have hb2 : 1 < H0.length := by omega
  have hb3 : 3 < H0.length := by omega
  simp only [irRefOfb2]
  refine lwp_loop (fun j : Nat => [(1, .ptr 0 0), (2, .ptr 1 0), (3, setsW a), (4, intL k), (5, .ptr 3 0), (6, intL x), (7, intL q), (8, intL t), (10, accE 1 H0.length (ls.take j)), (11, intL j)])
    (fun j => H0 ++ accH (ls.take j)) (fun j => a.next[q].length - j) (fun j => j ≤ a.next[q].length) 0 (by simp) ?_ ?_
  · have := weak_env (k := 0) (E := E) (H := H0) (E' := [(1, .ptr 0 0), (2, .ptr 1 0), (3, setsW a), (4, intL k), (5, .ptr 3 0), (6, intL x), (7, intL q), (8, intL t), (10, .v (.slice none 0 0)), (11, intL 0)]) (by omega) hs (by simp [setsW, g1, g2, g3, g4, g5, g6, h7, h8, h10, h11, hb1, hb2, hb3])
    simpa using this
  · intro j hj
    by_cases hlt : j < a.next[q].length
    · have hej : j < ls.length := by omega
      have hv : ls[j] = .v (.int .i64 (a.next[q][j] * (k : Int) + (t : Int))) := by simp [hls]
      obtain ⟨s1, s2⟩ := hst _ (List.getElem_mem hlt)
      have hpk : 0 ≤ a.next[q][j] * (k : Int) ∧ a.next[q][j] * (k : Int) ≤ 1000000 := by
        refine ⟨Int.mul_nonneg s1 (by omega), ?_⟩
        have := Int.mul_le_mul (show a.next[q][j] ≤ 1000 by omega) (show (k : Int) ≤ 1000 by omega) (by omega) (by omega)
        omega
      have hw1 : IntKind.i64.wrap (a.next[q][j] * (k : Int)) = a.next[q][j] * (k : Int) := wrap_id (by omega) (by omega)
      have hw2 : IntKind.i64.wrap (a.next[q][j] * (k : Int) + (t : Int)) = a.next[q][j] * (k : Int) + (t : Int) := wrap_id (by omega) (by omega)
      have hw3 : IntKind.i64.wrap ((j : Int) + 1) = ((j + 1 : Nat) : Int) := wrap_id (by omega) (by omega)
      have hsucc : ls.take (j + 1) = ls.take j ++ [.v (.int .i64 (a.next[q][j] * (k : Int) + (t : Int)))] := by
        rw [List.take_succ_eq_append_getElem hej, hv]
      have hne : ls.take (j + 1) ≠ [] := by rw [hsucc]; simp
      by_cases hj0 : j = 0
      · subst hj0
        simp [hget, hH, Aut.cells, hq, hlt, hw1, hw2]
        refine ⟨1, by omega, by simp <;> omega, ?_⟩
        show weak 0 _ _ _ (H0 ++ accH (ls.take (0 + 1)))
        simp only [accE_ne hne, accH_ne hne, hsucc]
        refine weak_app [H0.length + 1] (by omega) hs (by simp) (by simp) fun f hf ht => ?_
        have t0 := ht 0 (by simp)
        simp at t0
        have hww : IntKind.i64.wrap 1 = 1 := by decide
        simp [accE, accH, setsW, hf 0 hb1, hf 1 hb2, hf 3 hb3, t0, hww, hb1, hb2, hb3]
        try omega
      · have hlen0 : (ls.take j).length = j := by rw [List.length_take]; omega
        have hne0 : ls.take j ≠ [] := by
          intro h
          rw [h] at hlen0
          simp only [List.length_nil] at hlen0
          exact hj0 hlen0.symm
        have hmin : min j ls.length = j := by omega
        simp only [accE_ne hne0, accH_ne hne0, hlen0]
        simp [hget, hgetE, Aut.cells, hq, hlt, hw1, hw2, hmin]
        refine ⟨by omega, j + 1, by omega, by simp <;> omega, ?_⟩
        show weak 0 _ _ _ (H0 ++ accH (ls.take (j + 1)))
        simp only [accE_ne hne, accH_ne hne, hsucc]
        refine weak_app [H0.length + 2] (by omega) hs (by simp) (by simp) fun f hf ht => ?_
        have t0 := ht 0 (by simp)
        simp at t0
        simp [accE, accH, setsW, hf 0 hb1, hf 1 hb2, hf 3 hb3, t0, hw3, hb1, hb2, hb3, hmin, hbel, hren]
        try omega
    · have hge : a.next[q].length ≤ j := by omega
      have htake : ls.take j = ls := List.take_of_length_le (by omega)
      rw [htake]
      simp [hget, Aut.cells, hq, hlt, hge]
      refine hQ _ ?_ ?_ ?_ ?_ <;> simp [refB, setsW, ← hk]

end Lg
