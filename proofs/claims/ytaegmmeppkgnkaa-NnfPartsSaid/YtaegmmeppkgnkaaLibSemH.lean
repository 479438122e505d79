/- Until and release, turn by turn. -/
import Derived.Test.YtaegmmeppkgnkaaLibSemG
import Derived.Test.YtaegmmeppkgnkaaLibSeal
namespace Lg
open Go

theorem c41_at {P : Program} {f c ea : Nat} (ir : compF P f = some (irC41 c ea)) (ic : compF P c = some irC42) (iea : compF P ea = some irEach) {H : Heap} (hs : shut H.length H) {h n : Nat} (hh : live H h = some [intL n]) (hn : n ≤ 1000000) (b : Bool) : callV P f [boolL b, .ptr h 0] H (rowL true n fun _ => b) := by
  have hlt : h < H.length := (List.getElem?_eq_some_iff.1 (live_iff.1 hh)).1
  have hl1 : (H ++ [some [boolL b]])[h]?.join = some [intL n] := by
    rw [List.getElem?_append_left hlt]; exact hh
  have key : callAt P f [boolL b, .ptr h 0] H fun l H' => l = .view 1 (H.length + 1) 0 n true ∧ ∃ R, H' = H ++ R ∧ H.length ≤ H.length + 1 ∧ live H' (H.length + 1) = some ((rowsB n fun _ => b).map boolL) := by
    refine callAt_enter ir (by simp [irC41]) ?_
    simp [irC41, hl1]
    refine callT_of (each_at (h := fun _ => b) iea (by rw [List.length_append]; exact shut_app (by omega) hs (by simp)) (by simp) hn (fun i hi row => ?_) ?_)
    · rw [callD_fn]
      refine callAt_plain (c42_gen ic i b) rfl ?_ ⟨rfl, rfl⟩
      simp [mapO, reso, live]
    · simp []
  refine callAt_seal hs key (by simp) (by omega) ?_ ⟨?_, rfl⟩
  · simp
  · simp [chunk]

/-- Until, so many turns. -/
def unt (w : Word) (a b : Nat → Bool) : Nat → Nat → Bool
  | 0, _ => false
  | m + 1, i => b i || (a i && unt w a b m (w.nxt i))

theorem unt_mono {w : Word} {a b : Nat → Bool} : ∀ {m i : Nat}, unt w a b m i = true → unt w a b (m + 1) i = true
  | 0, _, h => by simp [unt] at h
  | m + 1, i, h => by
    rw [unt]
    rw [unt] at h
    cases hb : b i
    · cases ha : a i
      · simp [hb, ha] at h
      · simp [hb, ha] at h ⊢
        exact unt_mono h
    · simp

theorem unt_next {w : Word} (hr : w.right = true) {a b : Nat → Bool} {m m' : Nat} (h : ∀ i, i < w.v.length → unt w a b m i = unt w a b m' i) : ∀ i, i < w.v.length → unt w a b (m + 1) i = unt w a b (m' + 1) i := fun i hi => by
  rw [unt, unt, h _ (Word.nxt_lt hr hi)]

theorem countP_lt' {α : Type} {p q : α → Bool} : ∀ {l : List α}, (∀ x ∈ l, p x = true → q x = true) → (∃ x ∈ l, p x = false ∧ q x = true) → l.countP p < l.countP q
  | [], _, ⟨x, hx, _⟩ => by simp at hx
  | y :: l, h, ⟨x, hx, h1, h2⟩ => by
    have hle : l.countP p ≤ l.countP q := List.countP_mono_left fun x hx => h x (by simp [hx])
    rw [List.countP_cons, List.countP_cons]
    rcases List.mem_cons.1 hx with rfl | hx
    · simp [h1, h2]; omega
    · have ih := countP_lt' (l := l) (fun x hx => h x (by simp [hx])) ⟨x, hx, h1, h2⟩
      have := h y (by simp)
      cases hp : p y
      · simp []; split <;> omega
      · simp [this hp]; omega

/-- So many turns as there are states are enough. -/
theorem unt_fix {w : Word} (hr : w.right = true) (a b : Nat → Bool) : ∀ i, i < w.v.length → unt w a b w.v.length i = unt w a b (w.v.length + 1) i := by
  have key : ∀ m, (∃ j, j < m ∧ ∀ i, i < w.v.length → unt w a b j i = unt w a b (j + 1) i) ∨ m ≤ (List.range w.v.length).countP (unt w a b m) := by
    intro m
    induction m with
    | zero => exact .inr (Nat.zero_le _)
    | succ m ih =>
      rcases ih with ⟨j, h1, h2⟩ | ih
      · exact .inl ⟨j, by omega, h2⟩
      · by_cases hf : ∀ i, i < w.v.length → unt w a b m i = unt w a b (m + 1) i
        · exact .inl ⟨m, by omega, hf⟩
        · refine .inr ?_
          have : ∃ i, i < w.v.length ∧ unt w a b m i ≠ unt w a b (m + 1) i := by
            refine Classical.byContradiction fun hn => hf fun i hi => Classical.byContradiction fun h => hn ⟨i, hi, h⟩
          obtain ⟨i, hi, hne⟩ := this
          have hfi : unt w a b m i = false ∧ unt w a b (m + 1) i = true := by
            cases h1 : unt w a b m i
            · cases h2 : unt w a b (m + 1) i
              · exact absurd (h1.trans h2.symm) hne
              · exact ⟨rfl, rfl⟩
            · exact absurd (h1.trans (unt_mono h1).symm) hne
          have := countP_lt' (l := List.range w.v.length) (p := unt w a b m) (q := unt w a b (m + 1)) (fun x _ h => unt_mono h) ⟨i, List.mem_range.2 hi, hfi.1, hfi.2⟩
          omega
  rcases key (w.v.length + 1) with ⟨j, hj, hfix⟩ | h
  · have stay : ∀ k, ∀ i, i < w.v.length → unt w a b (j + k) i = unt w a b (j + k + 1) i := fun k => by
      induction k with
      | zero => exact hfix
      | succ k ih => exact unt_next hr ih
    have := stay (w.v.length - j)
    rwa [Nat.add_sub_cancel' (by omega)] at this
  · have : (List.range w.v.length).countP (unt w a b (w.v.length + 1)) ≤ w.v.length := by
      have := List.countP_le_length (l := List.range w.v.length) (p := unt w a b (w.v.length + 1))
      simpa using this
    omega

/-- Where one thing holds up to where another one does. -/
def untW (w : Word) (a b : Nat → Bool) (i : Nat) : Bool := unt w a b w.v.length i
def relW (w : Word) (a b : Nat → Bool) (i : Nat) : Bool := !unt w (fun i => !a i) (fun i => !b i) w.v.length i

theorem until_gen {P : Program} {f cu nx st c1 c2 ea eq : Nat} (ir : compF P f = some (irUntil cu st)) (icu : compF P cu = some (irCU nx)) (inx : compF P nx = some irNextS) (ist : compF P st = some (irStill c1 c2 ea eq)) (i1 : compF P c1 = some irFirst) (i2 : compF P c2 = some irTurn) (iea : compF P ea = some irEach) (ieq : compF P eq = some irEqB)
    {w : Word} (hr : w.right = true) (hn : w.v.length ≤ 1000000) {c c' : Bool} {a b : Nat → Bool} : PC P f [w.L, rowL c w.v.length a, rowL c' w.v.length b] (rowL true w.v.length (untW w a b)) := by
  refine pc_of_call (callAt_enter ir (by simp [irUntil]) ?_)
  simp [irUntil, Word.L, Word.cells]
  refine callT_freeze [0, 1, 2] (still_gen (U := unt w a b) (K := w.v.length) (caps := [.pp [rowL c' w.v.length b], .pp [rowL c w.v.length a], .pp w.cells]) ist i1 i2 iea ieq hn (first := false) (fun i => rfl) (fun H => by simp [Word.cells]) (by simp)
    (fun m i hi => cu_gen icu inx hr hn hi) (fun m m' h => unt_next hr h) (unt_fix hr a b)) (by simp [Word.L, Word.cells]) ?_
  simp
  rfl

theorem release_gen {P : Program} {f cr nx st c1 c2 ea eq : Nat} (ir : compF P f = some (irRelease cr st)) (icr : compF P cr = some (irCR nx)) (inx : compF P nx = some irNextS) (ist : compF P st = some (irStill c1 c2 ea eq)) (i1 : compF P c1 = some irFirst) (i2 : compF P c2 = some irTurn) (iea : compF P ea = some irEach) (ieq : compF P eq = some irEqB)
    {w : Word} (hr : w.right = true) (hn : w.v.length ≤ 1000000) {c c' : Bool} {a b : Nat → Bool} : PC P f [w.L, rowL c w.v.length a, rowL c' w.v.length b] (rowL true w.v.length (relW w a b)) := by
  refine pc_of_call (callAt_enter ir (by simp [irRelease]) ?_)
  simp [irRelease, Word.L, Word.cells]
  refine callT_freeze [0, 1, 2] (still_gen (s := cr) (U := fun m i => !unt w (fun i => !a i) (fun i => !b i) m i) (K := w.v.length) (caps := [.pp [rowL c' w.v.length b], .pp [rowL c w.v.length a], .pp w.cells]) ist i1 i2 iea ieq hn (first := true) (fun i => rfl) (fun H => by simp [Word.cells]) (by simp)
    (fun m i hi => ?_) (fun m m' h => ?_) ?_) (by simp [Word.L, Word.cells]) ?_
  · have := cr_gen (c := true) (c' := c') (c'' := c) (a := a) (b := b) (on := fun i => !unt w (fun i => !a i) (fun i => !b i) m i) icr inx hr hn hi
    have e : (!unt w (fun i => !a i) (fun i => !b i) (m + 1) i) = (b i && (a i || !unt w (fun i => !a i) (fun i => !b i) m (w.nxt i))) := by
      rw [unt]; cases b i <;> cases a i <;> simp
    rw [e]; exact this
  · have h' : ∀ i, i < w.v.length → unt w (fun i => !a i) (fun i => !b i) m i = unt w (fun i => !a i) (fun i => !b i) m' i := fun i hi => by
      have := h i hi; simpa using this
    intro i hi
    simp only [unt_next hr h' i hi]
  · intro i hi
    simp only [unt_fix hr (fun i => !a i) (fun i => !b i) i hi]
  · simp
    rfl

end Lg
