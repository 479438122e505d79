/- What words are asked of an automaton, and of the one made of it. -/
import Derived.Test.YtjdliinnbkfljaaDegenShown
import Derived.Test.YtjdliinnbkfljaaLibTakesD
namespace Go.Proofs.Ytjdliinnbkfljaa
open Go Lg

abbrev WordD := (List (List Int)) × Int
abbrev WordOk (y : WordD) : Prop := ((∀ z ∈ y.1, (∀ zz ∈ z, (Lit.int .i64 zz).wf = true) ∧ z.length * 8 ≤ 140737488351232) ∧ y.1.length * 24 ≤ 140737488351232) ∧ ((Lit.int .i64 y.2).wf = true)
def wordOf (y : WordD) : Word := ⟨y.1, y.2⟩
theorem wordOf_ok {y : WordD} (h : WordOk y) : (wordOf y).Ok := by
  obtain ⟨⟨a1, a2⟩, -⟩ := h
  refine ⟨by simp [wordOf]; omega, fun r hr => ?_⟩
  have := (a1 r hr).2; omega

theorem ofOk_of {a : Aut} (ha : a.Ok) {m : Int} (hm : m ≤ 1000) (hf : Few18 a m) (hr : a.right = true) (hs : a.acc.length ≤ 1000) : OfOk a :=
  ⟨ha, hr, by have := hf.lits; omega, hs, hf.rows, by have := hf.ends; omega⟩

theorem degenOf_may {a : Aut} {v : Int} (h : a.may v = true) : (degenOf a).may v = true := by
  unfold Aut.may at h ⊢
  rw [List.all_eq_true] at h ⊢
  intro l hl
  simp only [degenOf, List.mem_map, List.mem_range] at hl
  obtain ⟨x, -, rfl⟩ := hl
  unfold degLit
  by_cases hq : x / a.k < a.lits.length
  · rw [show a.lits.getD (x / a.k) [] = a.lits[x / a.k] by simp [List.getD, hq]]
    exact h _ (List.getElem_mem hq)
  · rw [show a.lits.getD (x / a.k) [] = [] by simp [List.getD, List.getElem?_eq_none (Nat.le_of_not_lt hq)]]
    simp

/-- Few states and few sets: what words are asked of the automaton, and of the one made of it. -/
theorem takesOk_of {a : Aut} (ha : a.Ok) {m : Int} (hm : m ≤ 1000) (hf : Few18 a m) (hr : a.right = true) {w : Word} (hw : w.Ok) (hwr : w.right = true) (hv : w.v.length ≤ 500) : TakesOk a w :=
  ⟨ha, hw, hr, hwr, by have := hf.lits; omega, hv, hf.rows, by have := hf.ends; omega⟩

theorem takesOk_deg {a : Aut} {w : Word} (h : OfOk a) (ht : TakesOk a w) (hn : a.lits.length * a.k ≤ 1000) (he : a.init.length + a.acc.length < 4000) : TakesOk (degenOf a) w := by
  refine ⟨degenOf_ok h, ht.wok, degenOf_right h, ht.wright, by rw [deg_lits]; exact hn, ht.short, fun r hr => ?_, ?_⟩
  · simp only [degenOf, List.mem_map, List.mem_range] at hr
    obtain ⟨x, -, rfl⟩ := hr
    rw [degRow_length]
    exact (ht.rowD _).1
  · simp only [degenOf, List.length_map, List.length_singleton]; omega

theorem sets_le {a : Aut} {m : Nat} (hm : 1 ≤ m) (h : a.acc.length ≤ m) : a.k ≤ m := by
  unfold Aut.k Aut.sets
  split
  · simpa using hm
  · exact h

end Go.Proofs.Ytjdliinnbkfljaa
