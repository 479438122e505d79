/- Words that go round alike; words that stay in their last state. -/
import Derived.Test.YtahkjkmkafbakaaLibSemN
namespace Lg
open Go

theorem unt_bis {w w' : Word} {f : Nat → Nat} (hr' : w'.right = true) (hf : ∀ i, i < w'.v.length → w.nxt (f i) = f (w'.nxt i)) {a b a' b' : Nat → Bool} (ha : ∀ i, i < w'.v.length → a' i = a (f i)) (hb : ∀ i, i < w'.v.length → b' i = b (f i)) :
    ∀ m i, i < w'.v.length → unt w' a' b' m i = unt w a b m (f i) := by
  intro m
  induction m with
  | zero => intro i _; rfl
  | succ m ih =>
    intro i hi
    rw [unt, unt, ha i hi, hb i hi, hf i hi, ih _ (Word.nxt_lt hr' hi)]

theorem untW_bis {w w' : Word} {f : Nat → Nat} (hr : w.right = true) (hr' : w'.right = true) (hl : ∀ i, i < w'.v.length → f i < w.v.length) (hf : ∀ i, i < w'.v.length → w.nxt (f i) = f (w'.nxt i)) {a b a' b' : Nat → Bool} (ha : ∀ i, i < w'.v.length → a' i = a (f i)) (hb : ∀ i, i < w'.v.length → b' i = b (f i)) {i : Nat} (hi : i < w'.v.length) :
    untW w' a' b' i = untW w a b (f i) := by
  unfold untW
  rw [← unt_stay hr' a' b' w.v.length i hi, ← unt_stay hr a b w'.v.length (f i) (hl i hi), Nat.add_comm w.v.length, unt_bis hr' hf ha hb _ i hi]

theorem relW_bis {w w' : Word} {f : Nat → Nat} (hr : w.right = true) (hr' : w'.right = true) (hl : ∀ i, i < w'.v.length → f i < w.v.length) (hf : ∀ i, i < w'.v.length → w.nxt (f i) = f (w'.nxt i)) {a b a' b' : Nat → Bool} (ha : ∀ i, i < w'.v.length → a' i = a (f i)) (hb : ∀ i, i < w'.v.length → b' i = b (f i)) {i : Nat} (hi : i < w'.v.length) :
    relW w' a' b' i = relW w a b (f i) := by
  have := untW_bis hr hr' hl hf (a := fun i => !a i) (b := fun i => !b i) (a' := fun i => !a' i) (b' := fun i => !b' i) (fun i hi => by simp [ha i hi]) (fun i hi => by simp [hb i hi]) hi
  unfold untW at this
  unfold relW
  rw [this]

/-- Two words that go round alike: the same holds of both. -/
theorem sat_bis {w w' : Word} {f : Nat → Nat} (hr : w.right = true) (hr' : w'.right = true) (hl : ∀ i, i < w'.v.length → f i < w.v.length) (hf : ∀ i, i < w'.v.length → w.nxt (f i) = f (w'.nxt i)) (hv : ∀ i, i < w'.v.length → w'.v.getD i [] = w.v.getD (f i) []) (t : T) :
    ∀ i, i < w'.v.length → t.sat w' i = t.sat w (f i) := by
  refine T.ind (M := fun t => ∀ i, i < w'.v.length → t.sat w' i = t.sat w (f i)) ?_ t
  intro op n pl l ih i hi
  cases hlit : (T.mk op n pl l).lit
  · rw [T.sat_mk hlit, T.sat_mk hlit]
    have kid : ∀ k i, i < w'.v.length → (l.map (T.sat w')).getD k (fun _ => false) i = (l.map (T.sat w)).getD k (fun _ => false) (f i) := fun k i hi => by
      by_cases hk : k < l.length
      · simp only [List.getD, List.getElem?_map, List.getElem?_eq_getElem hk, Option.map_some, Option.getD_some]
        exact ih _ (List.getElem_mem hk) i hi
      · simp [List.getD, List.getElem?_eq_none (Nat.le_of_not_lt hk)]
    have k0 := kid 0
    have k1 := kid 1
    generalize (l.map (T.sat w')).getD 0 (fun _ => false) = a' at k0
    generalize (l.map (T.sat w')).getD 1 (fun _ => false) = b' at k1
    generalize (l.map (T.sat w)).getD 0 (fun _ => false) = a at k0
    generalize (l.map (T.sat w)).getD 1 (fun _ => false) = b at k1
    have g1 := untW_bis hr hr' hl hf (a := fun _ => true) (a' := fun _ => true) (fun _ _ => rfl) k0 hi
    have g2 := relW_bis hr hr' hl hf (a := fun _ => false) (a' := fun _ => false) (fun _ _ => rfl) k0 hi
    have g3 := untW_bis hr hr' hl hf k0 k1 hi
    have g4 := relW_bis hr hr' hl hf k0 k1 hi
    simp only [semStep, k0 i hi, k1 i hi, g1, g2, g3, g4, k0 _ (Word.nxt_lt hr' hi), hf i hi]
  · rw [T.sat_lit hlit, T.sat_lit hlit]
    simp only [hv i hi]

theorem unt_le {w : Word} {a b : Nat → Bool} {m k i : Nat} (h : unt w a b m i = true) : unt w a b (m + k) i = true := by
  induction k with
  | zero => exact h
  | succ k ih => exact unt_mono ih

/-- Of a word that stays in its last state: some time. -/
theorem loops_fin {w : Word} (hr : w.right = true) (hl : w.loop = (w.v.length : Int) - 1) (a : Nat → Bool) {i : Nat} (hi : i < w.v.length) : untW w (fun _ => true) a i = true ↔ ∃ j, i ≤ j ∧ j < w.v.length ∧ a j = true := by
  have hnx : ∀ i, i < w.v.length → w.nxt i = if i + 1 = w.v.length then i else i + 1 := fun i hi => by
    unfold Word.nxt
    split
    · rw [hl]; omega
    · rfl
  unfold untW
  constructor
  · have key : ∀ m i, i < w.v.length → unt w (fun _ => true) a m i = true → ∃ j, i ≤ j ∧ j < w.v.length ∧ a j = true := by
      intro m
      induction m with
      | zero => intro i _ h; simp [unt] at h
      | succ m ih =>
        intro i hi h
        rw [unt] at h
        cases ha : a i
        · simp [ha] at h
          obtain ⟨j, h1, h2, h3⟩ := ih _ (Word.nxt_lt hr hi) h
          refine ⟨j, ?_, h2, h3⟩
          rw [hnx i hi] at h1
          split at h1 <;> omega
        · exact ⟨i, Nat.le_refl _, hi, ha⟩
    exact key _ i hi
  · rintro ⟨j, h1, h2, h3⟩
    have key : ∀ d i, i + d = j → unt w (fun _ => true) a (d + 1) i = true := by
      intro d
      induction d with
      | zero =>
        intro i e
        have : i = j := by omega
        subst this
        rw [unt, h3]; rfl
      | succ d ih =>
        intro i e
        rw [unt, hnx i (by omega), if_neg (by omega), ih (i + 1) (by omega)]
        simp
    have := unt_le (k := w.v.length - (j - i + 1)) (key (j - i) i (by omega))
    rwa [show j - i + 1 + (w.v.length - (j - i + 1)) = w.v.length by omega] at this

theorem relW_glob (w : Word) (a : Nat → Bool) (i : Nat) : relW w (fun _ => false) a i = !untW w (fun _ => true) (fun i => !a i) i := by
  simp [relW, untW]

theorem loops_glob {w : Word} (hr : w.right = true) (hl : w.loop = (w.v.length : Int) - 1) (a : Nat → Bool) {i : Nat} (hi : i < w.v.length) : relW w (fun _ => false) a i = true ↔ ∀ j, i ≤ j → j < w.v.length → a j = true := by
  rw [relW_glob, Bool.not_eq_true', ← Bool.not_eq_true, loops_fin hr hl _ hi]
  simp

theorem loops_gf {w : Word} (hr : w.right = true) (hl : w.loop = (w.v.length : Int) - 1) (a : Nat → Bool) : relW w (fun _ => false) (untW w (fun _ => true) a) 0 = a (w.v.length - 1) := by
  have hn : 0 < w.v.length := by simp [Word.right] at hr; omega
  rw [Bool.eq_iff_iff, loops_glob hr hl _ hn]
  constructor
  · intro h
    have := h (w.v.length - 1) (by omega) (by omega)
    rw [loops_fin hr hl _ (by omega)] at this
    obtain ⟨j, h1, h2, h3⟩ := this
    rwa [show w.v.length - 1 = j by omega]
  · intro h j _ hj
    rw [loops_fin hr hl _ hj]
    exact ⟨w.v.length - 1, by omega, by omega, h⟩

theorem loops_fg {w : Word} (hr : w.right = true) (hl : w.loop = (w.v.length : Int) - 1) (a : Nat → Bool) : untW w (fun _ => true) (relW w (fun _ => false) a) 0 = a (w.v.length - 1) := by
  have hn : 0 < w.v.length := by simp [Word.right] at hr; omega
  rw [Bool.eq_iff_iff, loops_fin hr hl _ hn]
  constructor
  · rintro ⟨j, _, hj, h⟩
    rw [loops_glob hr hl _ hj] at h
    exact h _ (by omega) (by omega)
  · intro h
    refine ⟨w.v.length - 1, by omega, by omega, ?_⟩
    rw [loops_glob hr hl _ (by omega)]
    intro j h1 h2
    rwa [show j = w.v.length - 1 by omega]

/-- The round written once more. -/
def Word.twice (w : Word) : Word := ⟨w.v ++ w.v.drop w.loop.toNat, w.v.length⟩
/-- The round turned by one state. -/
def Word.turned (w : Word) : Word := ⟨w.v ++ [w.v.getD w.loop.toNat []], w.loop + 1⟩

theorem right_loop {w : Word} (hr : w.right = true) : w.loop.toNat < w.v.length ∧ (w.loop.toNat : Int) = w.loop := by
  simp [Word.right] at hr; omega

theorem twice_right {w : Word} (hr : w.right = true) : w.twice.right = true := by
  have := right_loop hr
  simp [Word.right, Word.twice]; omega
theorem turned_right {w : Word} (hr : w.right = true) : w.turned.right = true := by
  have := right_loop hr
  simp [Word.right, Word.turned]; omega

theorem sat_twice {w : Word} (hr : w.right = true) (t : T) {i : Nat} (hi : i < w.twice.v.length) : t.sat w.twice i = t.sat w (if i < w.v.length then i else w.loop.toNat + i - w.v.length) := by
  have hl := right_loop hr
  have hn : w.twice.v.length = w.v.length + (w.v.length - w.loop.toNat) := by simp [Word.twice]
  obtain ⟨f, hf⟩ : ∃ f : Nat → Nat, f = fun i => if i < w.v.length then i else w.loop.toNat + i - w.v.length := ⟨_, rfl⟩
  have f1 : ∀ i, i < w.v.length → f i = i := fun i h => by rw [hf]; exact if_pos h
  have f2 : ∀ i, w.v.length ≤ i → f i = w.loop.toNat + i - w.v.length := fun i h => by rw [hf]; exact if_neg (by omega)
  have e : ∀ i, w.twice.nxt i = if i + 1 = w.twice.v.length then w.v.length else i + 1 := fun i => by unfold Word.nxt; rfl
  have e0 : ∀ i, w.nxt i = if i + 1 = w.v.length then w.loop.toNat else i + 1 := fun i => rfl
  have := sat_bis (f := f) hr (twice_right hr) (fun i hi => ?_) (fun i hi => ?_) (fun i hi => ?_) t i hi
  · rw [this, hf]
  · rw [hn] at hi
    by_cases h1 : i < w.v.length
    · rw [f1 i h1]; exact h1
    · rw [f2 i (by omega)]; omega
  · rw [e, hn, e0]
    rw [hn] at hi
    by_cases h1 : i < w.v.length
    · rw [f1 i h1, if_neg (show ¬ i + 1 = w.v.length + (w.v.length - w.loop.toNat) by omega)]
      by_cases h2 : i + 1 = w.v.length
      · rw [if_pos h2, f2 _ (by omega)]; omega
      · rw [if_neg h2, f1 _ (by omega)]
    · rw [f2 i (by omega)]
      by_cases h2 : i + 1 = w.v.length + (w.v.length - w.loop.toNat)
      · rw [if_pos (show w.loop.toNat + i - w.v.length + 1 = w.v.length by omega), if_pos h2, f2 _ (by omega)]; omega
      · rw [if_neg (show ¬ w.loop.toNat + i - w.v.length + 1 = w.v.length by omega), if_neg h2, f2 _ (by omega)]; omega
  · rw [hn] at hi
    simp only [Word.twice, List.getD]
    by_cases h1 : i < w.v.length
    · rw [f1 i h1, List.getElem?_append_left h1]
    · rw [f2 i (by omega), List.getElem?_append_right (by omega), List.getElem?_drop, show w.loop.toNat + (i - w.v.length) = w.loop.toNat + i - w.v.length by omega]

theorem sat_turned {w : Word} (hr : w.right = true) (t : T) {i : Nat} (hi : i < w.turned.v.length) : t.sat w.turned i = t.sat w (if i < w.v.length then i else w.loop.toNat) := by
  have hl := right_loop hr
  have hn : w.turned.v.length = w.v.length + 1 := by simp [Word.turned]
  obtain ⟨f, hf⟩ : ∃ f : Nat → Nat, f = fun i => if i < w.v.length then i else w.loop.toNat := ⟨_, rfl⟩
  have f1 : ∀ i, i < w.v.length → f i = i := fun i h => by rw [hf]; exact if_pos h
  have f2 : ∀ i, w.v.length ≤ i → f i = w.loop.toNat := fun i h => by rw [hf]; exact if_neg (by omega)
  have e : ∀ i, w.turned.nxt i = if i + 1 = w.turned.v.length then w.loop.toNat + 1 else i + 1 := fun i => by
    unfold Word.nxt
    rw [show w.turned.loop.toNat = w.loop.toNat + 1 by show (w.loop + 1).toNat = _; omega]
  have e0 : ∀ i, w.nxt i = if i + 1 = w.v.length then w.loop.toNat else i + 1 := fun i => rfl
  have := sat_bis (f := f) hr (turned_right hr) (fun i hi => ?_) (fun i hi => ?_) (fun i hi => ?_) t i hi
  · rw [this, hf]
  · rw [hn] at hi
    by_cases h1 : i < w.v.length
    · rw [f1 i h1]; exact h1
    · rw [f2 i (by omega)]; omega
  · rw [e, hn, e0]
    rw [hn] at hi
    by_cases h1 : i < w.v.length
    · rw [f1 i h1, if_neg (show ¬ i + 1 = w.v.length + 1 by omega)]
      by_cases h2 : i + 1 = w.v.length
      · rw [if_pos h2, f2 _ (by omega)]
      · rw [if_neg h2, f1 _ (by omega)]
    · rw [f2 i (by omega), if_pos (show i + 1 = w.v.length + 1 by omega)]
      by_cases h2 : w.loop.toNat + 1 = w.v.length
      · rw [if_pos h2, f2 _ (by omega)]
      · rw [if_neg h2, f1 _ (by omega)]
  · rw [hn] at hi
    simp only [Word.turned, List.getD]
    by_cases h1 : i < w.v.length
    · rw [f1 i h1, List.getElem?_append_left h1]
    · rw [f2 i (by omega), List.getElem?_append_right (by omega), show i - w.v.length = 0 by omega]
      simp

theorem below_cells {n : Nat} {t : T} : belowL n t.toL.cells = true := by cases t; simp [toL_mk]
theorem ren_cells {f : Nat → Nat} {t : T} : renL f t.toL.cells = t.toL.cells := by cases t; simp [toL_mk, renL]

end Lg
