/- What the closures of sem say. -/
import Derived.Test.YtaegmmeppkgnkaaLibSemE
namespace Lg
open Go

abbrev rowL (c : Bool) (n : Nat) (h : Nat → Bool) : L := .sl 1 c ((rowsB n h).map boolL)
@[simp] theorem rowsB_length {n h} : (rowsB n h).length = n := by simp [rowsB]
theorem rowsB_get {n h i} (hi : i < n) : (rowsB n h)[i]? = some (h i) := by simp [rowsB, hi]
theorem rowsB_getE {n h i} (hi : i < (rowsB n h).length) : (rowsB n h)[i] = h i := by simp [rowsB]

theorem c42_gen {P : Program} {f : Nat} (ir : compF P f = some irC42) (i : Nat) (b : Bool) : PC P f [intL i, .pp [boolL b]] (boolL b) := by
  refine pc_of_call (callAt_enter ir (by simp [irC42]) ?_)
  simp [irC42]

theorem first_gen {P : Program} {f : Nat} (ir : compF P f = some irFirst) (i : Nat) (b : Bool) : PC P f [intL i, .pp [boolL b]] (boolL b) := by
  refine pc_of_call (callAt_enter ir (by simp [irFirst]) ?_)
  simp [irFirst]

theorem c43_gen {P : Program} {f : Nat} (ir : compF P f = some irC43) {n i : Nat} (hi : i < n) {c : Bool} {a : Nat → Bool} : PC P f [intL i, .pp [rowL c n a]] (boolL (!a i)) := by
  refine pc_of_call (callAt_enter ir (by simp [irC43]) ?_)
  simp [irC43, rowsB_get hi]

theorem c44_gen {P : Program} {f : Nat} (ir : compF P f = some irC44) {n i : Nat} (hi : i < n) {c c' : Bool} {a b : Nat → Bool} : PC P f [intL i, .pp [rowL c n a], .pp [rowL c' n b]] (boolL (a i && b i)) := by
  refine pc_of_call (callAt_enter ir (by simp [irC44]) ?_)
  cases h : a i <;> simp [irC44, rowsB_get hi, h]

theorem c45_gen {P : Program} {f : Nat} (ir : compF P f = some irC45) {n i : Nat} (hi : i < n) {c c' : Bool} {a b : Nat → Bool} : PC P f [intL i, .pp [rowL c n a], .pp [rowL c' n b]] (boolL (a i || b i)) := by
  refine pc_of_call (callAt_enter ir (by simp [irC45]) ?_)
  cases h : a i <;> simp [irC45, rowsB_get hi, h]

theorem c46_gen {P : Program} {f : Nat} (ir : compF P f = some irC46) {n i : Nat} (hi : i < n) {c c' : Bool} {a b : Nat → Bool} : PC P f [intL i, .pp [rowL c n a], .pp [rowL c' n b]] (boolL (!a i || b i)) := by
  refine pc_of_call (callAt_enter ir (by simp [irC46]) ?_)
  cases h : a i <;> simp [irC46, rowsB_get hi, h]

theorem c47_gen {P : Program} {f : Nat} (ir : compF P f = some irC47) {n i : Nat} (hi : i < n) {c c' : Bool} {a b : Nat → Bool} : PC P f [intL i, .pp [rowL c n a], .pp [rowL c' n b]] (boolL (a i == b i)) := by
  refine pc_of_call (callAt_enter ir (by simp [irC47]) ?_)
  cases h : a i <;> cases h2 : b i <;> simp [irC47, rowsB_get hi, h, h2]

theorem nextS_gen {P : Program} {f : Nat} (ir : compF P f = some irNextS) {w : Word} (hr : w.right = true) {i : Nat} (hi : i < w.v.length) (hn : w.v.length ≤ 1000000) : PC P f [w.L, intL i] (intL (w.nxt i)) := by
  refine pc_of_call (callAt_enter ir (by simp [irNextS]) ?_)
  simp [Word.right] at hr
  have hw : IntKind.i64.wrap ((i : Int) + 1) = ((i + 1 : Nat) : Int) := by rw [wrap_id (by omega) (by omega)]; rfl
  have hl : ((w.loop.toNat : Nat) : Int) = w.loop := Int.toNat_of_nonneg hr.1.2
  by_cases h : i + 1 = w.v.length
  · have h' : (i : Int) + 1 = (w.v.length : Int) := by omega
    have hnl : IntKind.i64.wrap (w.v.length : Int) = (w.v.length : Int) := wrap_id (by omega) (by omega)
    simp [irNextS, Word.L, Word.cells, Word.nxt, h, h', hl, hnl]
  · have h' : ¬ (i : Int) + 1 = (w.v.length : Int) := by omega
    simp [irNextS, Word.L, Word.cells, Word.nxt, hw, h, h']

theorem Word.nxt_lt {w : Word} (hr : w.right = true) {i : Nat} (hi : i < w.v.length) : w.nxt i < w.v.length := by
  simp [Word.right] at hr
  unfold Word.nxt
  split <;> omega

theorem c48_gen {P : Program} {f nx : Nat} (ir : compF P f = some (irC48 nx)) (inx : compF P nx = some irNextS) {w : Word} (hr : w.right = true) (hn : w.v.length ≤ 1000000) {i : Nat} (hi : i < w.v.length) {c : Bool} {a : Nat → Bool} : PC P f [intL i, .pp [rowL c w.v.length a], .pp w.cells] (boolL (a (w.nxt i))) := by
  refine pc_of_call (callAt_enter ir (by simp [irC48]) ?_)
  simp [irC48, Word.cells]
  refine bcallT_plain (nextS_gen inx hr hi hn) rfl (by simp [Word.L, Word.cells]) ?_
  simp [rowsB_get (Word.nxt_lt hr hi)]

theorem cu_gen {P : Program} {f nx : Nat} (ir : compF P f = some (irCU nx)) (inx : compF P nx = some irNextS) {w : Word} (hr : w.right = true) (hn : w.v.length ≤ 1000000) {i : Nat} (hi : i < w.v.length) {c c' c'' : Bool} {a b on : Nat → Bool} :
    PC P f [intL i, rowL c w.v.length on, .pp [rowL c' w.v.length b], .pp [rowL c'' w.v.length a], .pp w.cells] (boolL (b i || (a i && on (w.nxt i)))) := by
  refine pc_of_call (callAt_enter ir (by simp [irCU]) ?_)
  have h3 := rowsB_get (h := on) (Word.nxt_lt hr hi)
  cases h : b i <;> cases h2 : a i <;> simp [irCU, Word.cells, rowsB_get hi, h, h2]
  refine callT_plain (nextS_gen inx hr hi hn) rfl (by simp [Word.L, Word.cells]) ?_
  simp [h3]

theorem cr_gen {P : Program} {f nx : Nat} (ir : compF P f = some (irCR nx)) (inx : compF P nx = some irNextS) {w : Word} (hr : w.right = true) (hn : w.v.length ≤ 1000000) {i : Nat} (hi : i < w.v.length) {c c' c'' : Bool} {a b on : Nat → Bool} :
    PC P f [intL i, rowL c w.v.length on, .pp [rowL c' w.v.length b], .pp [rowL c'' w.v.length a], .pp w.cells] (boolL (b i && (a i || on (w.nxt i)))) := by
  refine pc_of_call (callAt_enter ir (by simp [irCR]) ?_)
  have h3 := rowsB_get (h := on) (Word.nxt_lt hr hi)
  cases h : b i <;> cases h2 : a i <;> simp [irCR, Word.cells, rowsB_get hi, h, h2]
  refine callT_plain (nextS_gen inx hr hi hn) rfl (by simp [Word.L, Word.cells]) ?_
  simp [h3]

/-- Are two rows of answers the same? -/
theorem eqB_gen {P : Program} {f : Nat} (ir : compF P f = some irEqB) {n : Nat} (hn : n ≤ 1000000) {c c' : Bool} {a b : Nat → Bool} : PC P f [rowL c n a, rowL c' n b] (boolL (decide (∀ i, i < n → a i = b i))) := by
  refine pc_of_call (callAt_enter ir (by simp [irEqB]) ?_)
  simp [irEqB]
  refine lwp_loop (fun i : Nat => [(0, rowL c n a), (1, rowL c' n b), (12, intL n), (13, intL i)]) (fun _ => []) (fun i => n - i) (fun i => i ≤ n ∧ ∀ j, j < i → a j = b j) 0 (by simp) ⟨[], by simp⟩ ?_
  rintro i ⟨hi, hall⟩
  simp
  refine ⟨fun hlt => ?_, fun hge => ?_⟩
  · have hnw : IntKind.i64.wrap ((i : Int) + 1) = ((i + 1 : Nat) : Int) := by rw [wrap_id (by omega) (by omega)]; rfl
    simp [hlt, rowsB_getE]
    by_cases he : a i = b i
    · simp [he, hnw]
      refine ⟨i + 1, ⟨by omega, fun j hj => ?_⟩, by simp <;> omega, [], ?_⟩
      · by_cases e : j = i
        · subst e; exact he
        · exact hall j (by omega)
      · simp
    · simp [he]
      exact ⟨i, hlt, he⟩
  · have : i = n := by omega
    subst this
    exact hall

end Lg
