/- Small functions around sem. -/
import Derived.Test.YtaegmmeppkgnkaaLibSemS
import Derived.Test.YtaegmmeppkgnkaaLibThaw
namespace Lg
open Go

def irFewW : FnIR := ⟨18, [.t 2],
  (.seq (.ops [⟨some 1, .box (.t 0), none⟩,
    ⟨some 2, .mov (.c (.v (.bool false))), none⟩])
  (.seq (.seq (.ops [⟨some 3, .mov (.c (.v (.int .i64 0))), none⟩])
  (.block 0 (.loop
    (.seq (.seq (.ops [⟨some 4, .mov (.t 3), none⟩,
      ⟨some 5, .faddr 0 (.t 1), none⟩,
      ⟨some 6, .load 1 false (.t 5), none⟩,
      ⟨some 7, .len false (.t 6), none⟩,
      ⟨some 8, .bin .lss false (.t 4) (.t 7), none⟩])
    (.cond (.t 8)
      .skip
      (.exit 0)))
    (.seq (.block 1 (.seq (.ops [⟨some 11, .faddr 0 (.t 1), none⟩,
      ⟨some 12, .load 1 false (.t 11), none⟩,
      ⟨some 13, .mov (.t 3), none⟩,
      ⟨some 14, .iaddr 1 (.t 12) (.t 13), none⟩,
      ⟨some 15, .load 1 false (.t 14), none⟩,
      ⟨some 16, .len false (.t 15), none⟩,
      ⟨some 17, .bin .gtr false (.t 16) (.c (.v (.int .i64 10))), none⟩])
    (.cond (.t 17)
      (.seq (.ops [⟨some 2, .mov (.c (.v (.bool false))), none⟩])
      .ret)
      .skip)))
    (.ops [⟨some 9, .mov (.t 3), none⟩,
      ⟨some 10, .bin .add false (.t 9) (.c (.v (.int .i64 1))), none⟩,
      ⟨some 3, .mov (.t 10), none⟩]))))))
  (.seq (.ops [⟨some 2, .mov (.c (.v (.bool true))), none⟩])
  .ret)))⟩

def irRightS : FnIR := ⟨20, [.t 2],
  (.seq (.ops [⟨some 1, .box (.t 0), none⟩,
    ⟨some 2, .mov (.c (.v (.bool false))), none⟩])
  (.seq (.ops [⟨some 3, .faddr 0 (.t 1), none⟩,
    ⟨some 4, .load 1 false (.t 3), none⟩,
    ⟨some 5, .len false (.t 4), none⟩,
    ⟨some 6, .bin .gtr false (.t 5) (.c (.v (.int .i64 0))), none⟩,
    ⟨some 7, .mov (.t 6), none⟩,
    ⟨some 8, .faddr 1 (.t 1), some (7, true)⟩,
    ⟨some 9, .load 1 false (.t 8), some (7, true)⟩,
    ⟨some 10, .bin .geq false (.t 9) (.c (.v (.int .i64 0))), some (7, true)⟩,
    ⟨some 11, .pick (.t 7) (.t 10) (.c (.v (.bool false))), none⟩,
    ⟨some 12, .mov (.t 11), none⟩,
    ⟨some 13, .faddr 1 (.t 1), some (12, true)⟩,
    ⟨some 14, .load 1 false (.t 13), some (12, true)⟩,
    ⟨some 15, .faddr 0 (.t 1), some (12, true)⟩,
    ⟨some 16, .load 1 false (.t 15), some (12, true)⟩,
    ⟨some 17, .len false (.t 16), some (12, true)⟩,
    ⟨some 18, .bin .lss false (.t 14) (.t 17), some (12, true)⟩,
    ⟨some 19, .pick (.t 12) (.t 18) (.c (.v (.bool false))), none⟩,
    ⟨some 2, .mov (.t 19), none⟩])
  .ret))⟩

def irSameB : FnIR := ⟨26, [.t 4],
  (.seq (.ops [⟨some 4, .mov (.c (.v (.bool false))), none⟩])
  (.seq (.seq (.ops [⟨some 6, .mov (.t 0), none⟩,
    ⟨some 7, .len false (.t 6), none⟩,
    ⟨some 8, .mov (.t 1), none⟩,
    ⟨some 9, .len false (.t 8), none⟩,
    ⟨some 10, .bin .neq false (.t 7) (.t 9), none⟩])
  (.cond (.t 10)
    (.seq (.ops [⟨some 4, .mov (.c (.v (.bool false))), none⟩])
    .ret)
    .skip))
  (.seq (.seq (.ops [⟨some 5, .mov (.c (.v (.int .i64 0))), none⟩])
  (.block 0 (.loop
    (.seq (.seq (.ops [⟨some 11, .mov (.t 5), none⟩,
      ⟨some 12, .mov (.t 0), none⟩,
      ⟨some 13, .len false (.t 12), none⟩,
      ⟨some 14, .bin .lss false (.t 11) (.t 13), none⟩])
    (.cond (.t 14)
      .skip
      (.exit 0)))
    (.seq (.block 1 (.seq (.draw [[⟨some 17, .mov (.t 0), none⟩,
        ⟨some 18, .mov (.t 5), none⟩,
        ⟨some 19, .iaddr 1 (.t 17) (.t 18), none⟩,
        ⟨some 20, .load 1 false (.t 19), none⟩,
        ⟨some 21, .mov (.t 1), none⟩,
        ⟨some 22, .mov (.t 5), none⟩,
        ⟨some 23, .iaddr 1 (.t 21) (.t 22), none⟩,
        ⟨some 24, .load 1 false (.t 23), none⟩],
      [⟨some 25, .bin .neq true (.t 20) (.t 24), none⟩]])
    (.cond (.t 25)
      (.seq (.ops [⟨some 4, .mov (.c (.v (.bool false))), none⟩])
      .ret)
      .skip)))
    (.ops [⟨some 15, .mov (.t 5), none⟩,
      ⟨some 16, .bin .add false (.t 15) (.c (.v (.int .i64 1))), none⟩,
      ⟨some 5, .mov (.t 16), none⟩]))))))
  (.seq (.ops [⟨some 4, .mov (.c (.v (.bool true))), none⟩])
  .ret))))⟩

def irFormula (fe ma ty : Nat) : FnIR := ⟨33, [.t 4],
  (.seq (.ops [⟨some 2, .box (.t 0), none⟩,
    ⟨some 4, .mov (.c (.v (.bool false))), none⟩])
  (.seq (.ops [⟨some 10, .load 4 true (.t 2), none⟩,
    ⟨some 11, .call fe [(.t 10)], none⟩,
    ⟨some 5, .mov (.t 11), none⟩])
  (.seq (.ops [⟨some 12, .load 4 true (.t 2), none⟩,
    ⟨some 13, .mov (.t 1), none⟩,
    ⟨some 14, .call ma [(.t 12), (.t 13)], none⟩,
    ⟨some 6, .mov (.t 14), none⟩])
  (.seq (.seq (.ops [⟨some 15, .mov (.t 5), none⟩,
    ⟨some 16, .un .not (.t 15), none⟩,
    ⟨some 17, .mov (.t 16), none⟩,
    ⟨some 18, .mov (.t 6), some (17, false)⟩,
    ⟨some 19, .un .not (.t 18), some (17, false)⟩,
    ⟨some 20, .pick (.t 17) (.c (.v (.bool true))) (.t 19), none⟩])
  (.cond (.t 20)
    (.seq (.ops [⟨some 4, .mov (.c (.v (.bool false))), none⟩])
    .ret)
    .skip))
  (.seq (.ops [⟨some 22, .load 4 true (.t 2), none⟩,
    ⟨some 23, .call ty [(.t 22)], none⟩,
    ⟨some 21, .mov (.t 23), none⟩,
    ⟨some 24, .extract (.t 21) 0, none⟩,
    ⟨some 25, .extract (.t 21) 1, none⟩,
    ⟨some 26, .extract (.t 21) 2, none⟩,
    ⟨some 7, .mov (.t 24), none⟩,
    ⟨some 8, .mov (.t 25), none⟩,
    ⟨some 9, .mov (.t 26), none⟩])
  (.seq (.ops [⟨some 27, .mov (.t 8), none⟩,
    ⟨some 28, .bin .eql false (.t 27) (.c (.v (.int .i64 0))), none⟩,
    ⟨some 29, .mov (.t 28), none⟩,
    ⟨some 30, .mov (.t 7), some (29, true)⟩,
    ⟨some 31, .bin .neq false (.t 30) (.c (.v (.int .i64 1))), some (29, true)⟩,
    ⟨some 32, .pick (.t 29) (.t 31) (.c (.v (.bool false))), none⟩,
    ⟨some 4, .mov (.t 32), none⟩])
  .ret))))))⟩

def irHolds (all : Nat) : FnIR := ⟨10, [.t 4],
  (.seq (.ops [⟨some 2, .box (.t 0), none⟩,
    ⟨some 3, .box (.t 1), none⟩,
    ⟨some 4, .mov (.c (.v (.bool false))), none⟩])
  (.seq (.ops [⟨some 5, .load 4 true (.t 2), none⟩,
    ⟨some 6, .load 2 true (.t 3), none⟩,
    ⟨some 7, .call all [(.t 5), (.t 6)], none⟩,
    ⟨some 8, .iaddr 1 (.t 7) (.c (.v (.int .i64 0))), none⟩,
    ⟨some 9, .load 1 false (.t 8), none⟩,
    ⟨some 4, .mov (.t 9), none⟩])
  .ret))⟩

def irHoldsR (all : Nat) : FnIR := ⟨10, [.t 4],
  (.seq (.ops [⟨some 2, .box (.t 0), none⟩,
    ⟨some 3, .box (.t 1), none⟩,
    ⟨some 4, .mov (.c (.v (.bool false))), none⟩])
  (.seq (.ops [⟨some 5, .load 4 true (.t 2), none⟩,
    ⟨some 6, .load 2 true (.t 3), none⟩,
    ⟨some 7, .call all [(.t 5), (.t 6)], none⟩,
    ⟨some 8, .iaddr 1 (.t 7) (.c (.v (.int .i64 0))), none⟩,
    ⟨some 9, .load 1 false (.t 8), none⟩,
    ⟨some 4, .mov (.t 9), none⟩])
  .ret))⟩

def irTwo : FnIR := ⟨12, [.c 6 4 true],
  (.seq (.ops [⟨some 4, .box (.t 1), none⟩,
    ⟨some 5, .box (.t 2), none⟩,
    ⟨some 6, .alloc (.agg [(.v (.int .i64 0)), (.v (.int .i64 0)), (.v (.int .i64 0)), (.v (.slice none 0 0))]), none⟩])
  (.seq (.ops [⟨some 7, .mov (.t 0), none⟩,
    ⟨some 8, .load 4 true (.t 4), none⟩,
    ⟨some 9, .load 4 true (.t 5), none⟩,
    ⟨some 10, .bslice 4 [(.v (.int .i64 0)), (.v (.int .i64 0)), (.v (.int .i64 0)), (.v (.slice none 0 0))] 2 [(0, 4, (.t 8)), (4, 4, (.t 9))], none⟩,
    ⟨some 11, .build [(.v (.int .i64 0)), (.v (.int .i64 0)), (.v (.int .i64 0)), (.v (.slice none 0 0))] [(0, 1, (.t 7)), (3, 1, (.t 10))], none⟩,
    ⟨none, .store 4 (.t 6) (.t 11), none⟩])
  .ret))⟩

def irNotT (one : Nat) : FnIR := ⟨5, [.c 2 4 true],
  (.seq (.ops [⟨some 1, .box (.t 0), none⟩,
    ⟨some 2, .alloc (.agg [(.v (.int .i64 0)), (.v (.int .i64 0)), (.v (.int .i64 0)), (.v (.slice none 0 0))]), none⟩])
  (.seq (.ops [⟨some 3, .load 4 true (.t 1), none⟩,
    ⟨some 4, .call one [(.c (.v (.int .i64 15))), (.t 3)], none⟩,
    ⟨none, .store 4 (.t 2) (.t 4), none⟩])
  .ret))⟩

def irOne : FnIR := ⟨9, [.c 4 4 true],
  (.seq (.ops [⟨some 3, .box (.t 1), none⟩,
    ⟨some 4, .alloc (.agg [(.v (.int .i64 0)), (.v (.int .i64 0)), (.v (.int .i64 0)), (.v (.slice none 0 0))]), none⟩])
  (.seq (.ops [⟨some 5, .mov (.t 0), none⟩,
    ⟨some 6, .load 4 true (.t 3), none⟩,
    ⟨some 7, .bslice 4 [(.v (.int .i64 0)), (.v (.int .i64 0)), (.v (.int .i64 0)), (.v (.slice none 0 0))] 1 [(0, 4, (.t 6))], none⟩,
    ⟨some 8, .build [(.v (.int .i64 0)), (.v (.int .i64 0)), (.v (.int .i64 0)), (.v (.slice none 0 0))] [(0, 1, (.t 5)), (3, 1, (.t 7))], none⟩,
    ⟨none, .store 4 (.t 4) (.t 8), none⟩])
  .ret))⟩

def irOne33 : FnIR := ⟨9, [.c 4 4 true],
  (.seq (.ops [⟨some 3, .box (.t 1), none⟩,
    ⟨some 4, .alloc (.agg [(.v (.int .i64 0)), (.v (.int .i64 0)), (.v (.int .i64 0)), (.v (.slice none 0 0))]), none⟩])
  (.seq (.ops [⟨some 5, .mov (.t 0), none⟩,
    ⟨some 6, .load 4 true (.t 3), none⟩,
    ⟨some 7, .bslice 4 [(.v (.int .i64 0)), (.v (.int .i64 0)), (.v (.int .i64 0)), (.v (.slice none 0 0))] 1 [(0, 4, (.t 6))], none⟩,
    ⟨some 8, .build [(.v (.int .i64 0)), (.v (.int .i64 0)), (.v (.int .i64 0)), (.v (.slice none 0 0))] [(0, 1, (.t 5)), (3, 1, (.t 7))], none⟩,
    ⟨none, .store 4 (.t 4) (.t 8), none⟩])
  .ret))⟩

def irEq32 : FnIR := ⟨8, [.c 2 4 true],
  (.seq (.ops [⟨some 2, .alloc (.agg [(.v (.int .i64 0)), (.v (.int .i64 0)), (.v (.int .i64 0)), (.v (.slice none 0 0))]), none⟩])
  (.seq (.ops [⟨some 3, .build [(.v (.int .i64 0)), (.v (.int .i64 0)), (.v (.int .i64 0)), (.v (.slice none 0 0))] [(0, 1, (.c (.v (.int .i64 2))))], none⟩,
    ⟨some 4, .mov (.t 0), none⟩,
    ⟨some 5, .build [(.v (.int .i64 0)), (.v (.int .i64 0)), (.v (.int .i64 0)), (.v (.slice none 0 0))] [(0, 1, (.c (.v (.int .i64 1)))), (1, 1, (.t 4))], none⟩,
    ⟨some 6, .bslice 4 [(.v (.int .i64 0)), (.v (.int .i64 0)), (.v (.int .i64 0)), (.v (.slice none 0 0))] 2 [(0, 4, (.t 3)), (4, 4, (.t 5))], none⟩,
    ⟨some 7, .build [(.v (.int .i64 0)), (.v (.int .i64 0)), (.v (.int .i64 0)), (.v (.slice none 0 0))] [(0, 1, (.c (.v (.int .i64 7)))), (3, 1, (.t 6))], none⟩,
    ⟨none, .store 4 (.t 2) (.t 7), none⟩])
  .ret))⟩

theorem fewW_gen {P : Program} {f : Nat} (ir : compF P f = some irFewW) {w : Word} (hw : w.Ok) : PC P f [w.L] (boolL (w.v.all fun r => decide (r.length ≤ 10))) := by
  have hv := hw.v
  refine pc_of_call (callAt_enter ir (by simp [irFewW]) ?_)
  simp [irFewW, Word.L, Word.cells]
  refine lwp_loop (fun i : Nat => [(1, .ptr 0 0), (3, intL i)]) (fun _ => [some w.cells]) (fun i => w.v.length - i) (fun i => i ≤ w.v.length ∧ ∀ r ∈ w.v.take i, r.length ≤ 10) 0 (by simp) ⟨[0], by simp [Word.cells]⟩ ?_
  rintro i ⟨hi, hall⟩
  simp [Word.cells]
  refine ⟨fun hlt => ?_, fun hge => ?_⟩
  · have hnw : IntKind.i64.wrap ((i : Int) + 1) = ((i + 1 : Nat) : Int) := by rw [wrap_id (by omega) (by omega)]; rfl
    by_cases hc : 10 < w.v[i].length
    · have hc' : (10 : Int) < (w.v[i].length : Int) := by omega
      have hc'' : ¬ (w.v[i].length : Int) ≤ 10 := by omega
      simp [hlt, hc']
      exact ⟨_, List.getElem_mem hlt, hc⟩
    · have hc' : ¬ (10 : Int) < (w.v[i].length : Int) := by omega
      have hc'' : (w.v[i].length : Int) ≤ 10 := by omega
      simp [hlt, hc', hnw]
      refine ⟨i + 1, ⟨by omega, fun r hr => ?_⟩, by show w.v.length - (i + 1) < w.v.length - i; omega, [0], by simp []⟩
      rw [List.take_succ_eq_append_getElem hlt] at hr
      rcases List.mem_append.1 hr with h | h
      · exact hall r h
      · simp at h; subst h; omega
  · have : i = w.v.length := by omega
    subst this
    rw [List.take_length] at hall
    have : (w.v.all fun r => decide (r.length ≤ 10)) = true := List.all_eq_true.2 fun r hr => by simpa using hall r hr
    simp at this
    exact this

theorem rightS_gen {P : Program} {f : Nat} (ir : compF P f = some irRightS) (w : Word) : PC P f [w.L] (boolL w.right) := by
  refine pc_of_call (callAt_enter ir (by simp [irRightS]) ?_)
  by_cases h1 : w.v = []
  · simp [irRightS, Word.L, Word.cells, Word.right, h1]
  · have h1' : (0 : Int) < w.v.length := by have := List.length_pos_iff.2 h1; omega
    have h1'' : 1 ≤ w.v.length := by omega
    by_cases h2 : 0 ≤ w.loop
    · simp [irRightS, Word.L, Word.cells, Word.right, h1, h1'', h2]
    · simp [irRightS, Word.L, Word.cells, Word.right, h1, h1'', h2]

theorem sameB_gen {P : Program} {f : Nat} (ir : compF P f = some irSameB) {n : Nat} (hn : n ≤ 1000000) {c c' : Bool} {a b : Nat → Bool} : PC P f [rowL c n a, rowL c' n b] (boolL (decide (∀ i, i < n → a i = b i))) := by
  refine pc_of_call (callAt_enter ir (by simp [irSameB]) ?_)
  simp [irSameB]
  refine lwp_loop (fun i : Nat => [(0, rowL c n a), (1, rowL c' n b), (5, intL i)]) (fun _ => []) (fun i => n - i) (fun i => i ≤ n ∧ ∀ j, j < i → a j = b j) 0 (by simp) ⟨[], by simp⟩ ?_
  rintro i ⟨hi, hall⟩
  simp
  refine ⟨fun hlt => ?_, fun hge => ?_⟩
  · have hnw : IntKind.i64.wrap ((i : Int) + 1) = ((i + 1 : Nat) : Int) := by rw [wrap_id (by omega) (by omega)]; rfl
    simp [hlt, rowsB_getE]
    by_cases he : a i = b i
    · simp [he, hnw]
      refine ⟨i + 1, ⟨by omega, fun j hj => ?_⟩, by simp <;> omega, [], ?_⟩
      · by_cases e : j = i
        · subst e; exact he
        · exact hall j (by omega)
      · simp
    · simp [he]
      exact ⟨i, hlt, he⟩
  · have : i = n := by omega
    subst this
    exact hall

/-- Is a tree a formula of few parts? -/
def T.formula (t : T) (vars : Int) : Bool := t.few && t.may vars && decide (t.type.2.1 = 0) && decide (t.type.1 ≠ 1)
theorem T.formula_facts {t : T} {vars : Int} (h : t.formula vars = true) : t.few = true ∧ t.may vars = true ∧ t.type.2.1 = 0 ∧ t.type.1 ≠ 1 := by
  simp [T.formula] at h
  exact ⟨h.1.1.1, h.1.1.2, h.1.2, h.2⟩

theorem formula_gen {P : Program} {f fe ma ty d m : Nat} (ir : compF P f = some (irFormula fe ma ty)) (ife : compF P fe = some (irFewT d m)) (id : compF P d = some (irDeep d)) (im : compF P m = some (irManyT m)) (ima : compF P ma = some (irMay ma)) (ity : compF P ty = some (irType ty)) {t : T} (hok : t.Ok) (vars : Int) : PC P f [t.toL, intL vars] (boolL (t.formula vars)) := by
  refine pc_of_call (callAt_enter ir (by simp [irFormula]) ?_)
  simp [irFormula, topOK_toL, toL_cells_length, toL_agg]
  refine callT_plain (fewT_gen ife id im t hok) rfl (by simp [mapO, reso_toL]) ?_
  simp [toL_cells_length, toL_agg]
  refine callT_plain (may_gen ima t hok vars) rfl (by simp [mapO, reso_toL]) ?_
  cases h1 : t.few
  · simp [T.formula, h1]
  · cases h2 : t.may vars
    · simp [T.formula, h1, h2]
    · simp [toL_cells_length, toL_agg]
      refine callT_plain (type_gen ity t hok) rfl (by simp [mapO, reso_toL]) ?_
      simp [T.formula, h1, h2]
      by_cases h3 : t.type.2.1 = 0 <;> simp [h3]

theorem holds_gen {P : Program} {f all : Nat} (ir : compF P f = some (irHolds all)) {t : T} {w : Word} {n : Nat} {h : Nat → Bool} (hall : PC P all [t.toL, w.L] (rowL true n h)) (hn : 0 < n) : PC P f [t.toL, w.L] (boolL (h 0)) := by
  refine pc_of_call (callAt_enter ir (by simp [irHolds]) ?_)
  simp [irHolds, topOK_toL, toL_cells_length, toL_agg, Word.L, Word.cells]
  refine callT_closed hall (by simp [mapO, reso_toL]) ?_
  simp [hn, rowsB_getE]

theorem holdsR_gen {P : Program} {f all : Nat} (ir : compF P f = some (irHoldsR all)) {t : T} {w : Word} {n : Nat} {h : Nat → Bool} (hall : PC P all [t.toL, w.L] (rowL true n h)) (hn : 0 < n) : PC P f [t.toL, w.L] (boolL (h 0)) := by
  refine pc_of_call (callAt_enter ir (by simp [irHoldsR]) ?_)
  simp [irHoldsR, topOK_toL, toL_cells_length, toL_agg, Word.L, Word.cells]
  refine callT_closed hall (by simp [mapO, reso_toL]) ?_
  simp [hn, rowsB_getE]

theorem closedMem_toL {t : T} : ∀ x ∈ t.toL.cells, closed x = true := fun x hx => List.all_eq_true.1 (all_closed_toL t) x hx

theorem one_gen {P : Program} {f : Nat} (ir : compF P f = some irOne) {op : Int} {t : T} : PC P f [intL op, t.toL] (T.mk op 0 0 [t]).toL := by
  refine pc_of_call' (callAt_enter ir (by simp [irOne]) ?_)
  simp [irOne, topOK_toL, toL_cells_length, toL_agg, setCells_tree]
  rw [if_pos closedMem_toL]
  simp
  have := sub_tree (sub_node (op := op) (n := 0) (pl := 0) (xs := [t.toL.cells]) (ts := [t]) rfl fun i h => by
    match i with
    | 0 => exact sub_self t)
  simpa [toL_agg] using this

theorem one33_gen {P : Program} {f : Nat} (ir : compF P f = some irOne33) {op : Int} {t : T} : PC P f [intL op, t.toL] (T.mk op 0 0 [t]).toL := by
  refine pc_of_call' (callAt_enter ir (by simp [irOne33]) ?_)
  simp [irOne33, topOK_toL, toL_cells_length, toL_agg, setCells_tree]
  rw [if_pos closedMem_toL]
  simp
  have := sub_tree (sub_node (op := op) (n := 0) (pl := 0) (xs := [t.toL.cells]) (ts := [t]) rfl fun i h => by
    match i with
    | 0 => exact sub_self t)
  simpa [toL_agg] using this

theorem notT_gen {P : Program} {f one : Nat} (ir : compF P f = some (irNotT one)) (io : compF P one = some irOne) {t : T} : PC P f [t.toL] (T.mk 15 0 0 [t]).toL := by
  refine pc_of_call (callAt_enter ir (by simp [irNotT]) ?_)
  simp [irNotT, topOK_toL, toL_cells_length, toL_agg]
  refine callT_closed (one_gen io) (by simp [mapO, reso_toL]) ?_
  simp [toL_mk]

theorem two_gen {P : Program} {f : Nat} (ir : compF P f = some irTwo) {op : Int} {t u : T} : PC P f [intL op, t.toL, u.toL] (T.mk op 0 0 [t, u]).toL := by
  refine pc_of_call' (callAt_enter ir (by simp [irTwo]) ?_)
  have hs := sub_tree (sub_node (op := op) (n := 0) (pl := 0) (xs := [t.toL.cells, u.toL.cells]) (ts := [t, u]) rfl fun i h => by
    match i with
    | 0 => exact sub_self t
    | 1 => exact sub_self u)
  cases t with
  | mk a b c l =>
    cases u with
    | mk a' b' c' l' =>
      simp [irTwo, toL_mk]
      simpa [toL_mk] using hs

def eqT (n : Int) : T := .mk 7 0 0 [.mk 2 0 0 [], .mk 1 n 0 []]
theorem eq32_gen {P : Program} {f : Nat} (ir : compF P f = some irEq32) {n : Int} : PC P f [intL n] (eqT n).toL := by
  refine pc_of_call' (callAt_enter ir (by simp [irEq32]) ?_)
  simp [irEq32]
  have hs := sub_tree (sub_node (op := 7) (n := 0) (pl := 0) (xs := [[intL 2, intL 0, intL 0, .v (.slice none 0 0)], [intL 1, intL n, intL 0, .v (.slice none 0 0)]]) (ts := [.mk 2 0 0 [], .mk 1 n 0 []]) rfl fun i h => by
    match i with
    | 0 => exact sub_leaf
    | 1 => exact sub_leaf)
  exact hs

end Lg
