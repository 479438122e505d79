/- SPREADS: some time of either is either's some time, for ever of both both's for ever; the next state of both, or either, is both's, or either's; until goes over either of its ends, and over both of its ways. -/
import Derived.Test.YtahkjkmkafbakaaSemLoops
import Derived.Test.YtahkjkmkafbakaaSemIr7
namespace Go.Proofs.Ytahkjkmkafbakaa
open Go Lg

theorem unt_or (w : Word) (a b c : Nat → Bool) : ∀ m i, unt w a (fun i => b i || c i) m i = (unt w a b m i || unt w a c m i) := by
  intro m
  induction m with
  | zero => intro i; rfl
  | succ m ih =>
    intro i
    rw [unt, unt, unt, ih]
    cases a i <;> cases b i <;> cases c i <;> simp
theorem unt_and (w : Word) (a b c : Nat → Bool) : ∀ m i, unt w (fun i => a i && b i) c m i = (unt w a c m i && unt w b c m i) := by
  intro m
  induction m with
  | zero => intro i; rfl
  | succ m ih =>
    intro i
    rw [unt, unt, unt, ih]
    cases a i <;> cases b i <;> cases c i <;> simp
theorem untW_or (w : Word) (a b c : Nat → Bool) (i : Nat) : untW w a (fun i => b i || c i) i = (untW w a b i || untW w a c i) := unt_or w a b c _ i
theorem untW_and (w : Word) (a b c : Nat → Bool) (i : Nat) : untW w (fun i => a i && b i) c i = (untW w a c i && untW w b c i) := unt_and w a b c _ i
theorem relW_and (w : Word) (a b : Nat → Bool) (i : Nat) : relW w (fun _ => false) (fun i => a i && b i) i = (relW w (fun _ => false) a i && relW w (fun _ => false) b i) := by
  rw [relW_glob, relW_glob, relW_glob]
  have : (fun i => !(a i && b i)) = fun i => (!a i) || !b i := by funext i; cases a i <;> cases b i <;> rfl
  rw [this, untW_or]
  simp

theorem fm0l {a b c : T} (fa : Fm 3 a) (fb : Fm 3 b) (fc : Fm 3 c) : Fm 3 (T.mk 21 0 0 [(T.mk 17 0 0 [a, b])]) := (Fm.one (op := 21) (by omega) (Fm.two (op := 17) (by omega) fa fb))
theorem fm0r {a b c : T} (fa : Fm 3 a) (fb : Fm 3 b) (fc : Fm 3 c) : Fm 3 (T.mk 17 0 0 [(T.mk 21 0 0 [a]), (T.mk 21 0 0 [b])]) := (Fm.two (op := 17) (by omega) (Fm.one (op := 21) (by omega) fa) (Fm.one (op := 21) (by omega) fb))
theorem fm0q {w : Word} (hr : w.right = true) {a b c : T} (fa : Fm 3 a) (fb : Fm 3 b) (fc : Fm 3 c) : ∀ i, i < w.v.length → T.sat w (T.mk 21 0 0 [(T.mk 17 0 0 [a, b])]) i = T.sat w (T.mk 17 0 0 [(T.mk 21 0 0 [a]), (T.mk 21 0 0 [b])]) i := fun i hi => by
    rw [Fm.sat_one (by omega) (Fm.two (op := 17) (by omega) fa fb), Fm.sat_two (by omega) fa fb, Fm.sat_two (by omega) (Fm.one (op := 21) (by omega) fa) (Fm.one (op := 21) (by omega) fb), Fm.sat_one (by omega) fa, Fm.sat_one (by omega) fb]
    simp only [semStep]
    simp
    exact untW_or _ _ _ _ _

theorem fm1l {a b c : T} (fa : Fm 3 a) (fb : Fm 3 b) (fc : Fm 3 c) : Fm 3 (T.mk 22 0 0 [(T.mk 16 0 0 [a, b])]) := (Fm.one (op := 22) (by omega) (Fm.two (op := 16) (by omega) fa fb))
theorem fm1r {a b c : T} (fa : Fm 3 a) (fb : Fm 3 b) (fc : Fm 3 c) : Fm 3 (T.mk 16 0 0 [(T.mk 22 0 0 [a]), (T.mk 22 0 0 [b])]) := (Fm.two (op := 16) (by omega) (Fm.one (op := 22) (by omega) fa) (Fm.one (op := 22) (by omega) fb))
theorem fm1q {w : Word} (hr : w.right = true) {a b c : T} (fa : Fm 3 a) (fb : Fm 3 b) (fc : Fm 3 c) : ∀ i, i < w.v.length → T.sat w (T.mk 22 0 0 [(T.mk 16 0 0 [a, b])]) i = T.sat w (T.mk 16 0 0 [(T.mk 22 0 0 [a]), (T.mk 22 0 0 [b])]) i := fun i hi => by
    rw [Fm.sat_one (by omega) (Fm.two (op := 16) (by omega) fa fb), Fm.sat_two (by omega) fa fb, Fm.sat_two (by omega) (Fm.one (op := 22) (by omega) fa) (Fm.one (op := 22) (by omega) fb), Fm.sat_one (by omega) fa, Fm.sat_one (by omega) fb]
    simp only [semStep]
    simp
    exact relW_and _ _ _ _

theorem fm2l {a b c : T} (fa : Fm 3 a) (fb : Fm 3 b) (fc : Fm 3 c) : Fm 3 (T.mk 20 0 0 [(T.mk 17 0 0 [a, b])]) := (Fm.one (op := 20) (by omega) (Fm.two (op := 17) (by omega) fa fb))
theorem fm2r {a b c : T} (fa : Fm 3 a) (fb : Fm 3 b) (fc : Fm 3 c) : Fm 3 (T.mk 17 0 0 [(T.mk 20 0 0 [a]), (T.mk 20 0 0 [b])]) := (Fm.two (op := 17) (by omega) (Fm.one (op := 20) (by omega) fa) (Fm.one (op := 20) (by omega) fb))
theorem fm2q {w : Word} (hr : w.right = true) {a b c : T} (fa : Fm 3 a) (fb : Fm 3 b) (fc : Fm 3 c) : ∀ i, i < w.v.length → T.sat w (T.mk 20 0 0 [(T.mk 17 0 0 [a, b])]) i = T.sat w (T.mk 17 0 0 [(T.mk 20 0 0 [a]), (T.mk 20 0 0 [b])]) i := fun i hi => by
    rw [Fm.sat_one (by omega) (Fm.two (op := 17) (by omega) fa fb), Fm.sat_two (by omega) fa fb, Fm.sat_two (by omega) (Fm.one (op := 20) (by omega) fa) (Fm.one (op := 20) (by omega) fb), Fm.sat_one (by omega) fa, Fm.sat_one (by omega) fb]
    simp only [semStep]
    simp

theorem fm3l {a b c : T} (fa : Fm 3 a) (fb : Fm 3 b) (fc : Fm 3 c) : Fm 3 (T.mk 20 0 0 [(T.mk 16 0 0 [a, b])]) := (Fm.one (op := 20) (by omega) (Fm.two (op := 16) (by omega) fa fb))
theorem fm3r {a b c : T} (fa : Fm 3 a) (fb : Fm 3 b) (fc : Fm 3 c) : Fm 3 (T.mk 16 0 0 [(T.mk 20 0 0 [a]), (T.mk 20 0 0 [b])]) := (Fm.two (op := 16) (by omega) (Fm.one (op := 20) (by omega) fa) (Fm.one (op := 20) (by omega) fb))
theorem fm3q {w : Word} (hr : w.right = true) {a b c : T} (fa : Fm 3 a) (fb : Fm 3 b) (fc : Fm 3 c) : ∀ i, i < w.v.length → T.sat w (T.mk 20 0 0 [(T.mk 16 0 0 [a, b])]) i = T.sat w (T.mk 16 0 0 [(T.mk 20 0 0 [a]), (T.mk 20 0 0 [b])]) i := fun i hi => by
    rw [Fm.sat_one (by omega) (Fm.two (op := 16) (by omega) fa fb), Fm.sat_two (by omega) fa fb, Fm.sat_two (by omega) (Fm.one (op := 20) (by omega) fa) (Fm.one (op := 20) (by omega) fb), Fm.sat_one (by omega) fa, Fm.sat_one (by omega) fb]
    simp only [semStep]
    simp

theorem fm4l {a b c : T} (fa : Fm 3 a) (fb : Fm 3 b) (fc : Fm 3 c) : Fm 3 (T.mk 23 0 0 [a, (T.mk 17 0 0 [b, c])]) := (Fm.two (op := 23) (by omega) fa (Fm.two (op := 17) (by omega) fb fc))
theorem fm4r {a b c : T} (fa : Fm 3 a) (fb : Fm 3 b) (fc : Fm 3 c) : Fm 3 (T.mk 17 0 0 [(T.mk 23 0 0 [a, b]), (T.mk 23 0 0 [a, c])]) := (Fm.two (op := 17) (by omega) (Fm.two (op := 23) (by omega) fa fb) (Fm.two (op := 23) (by omega) fa fc))
theorem fm4q {w : Word} (hr : w.right = true) {a b c : T} (fa : Fm 3 a) (fb : Fm 3 b) (fc : Fm 3 c) : ∀ i, i < w.v.length → T.sat w (T.mk 23 0 0 [a, (T.mk 17 0 0 [b, c])]) i = T.sat w (T.mk 17 0 0 [(T.mk 23 0 0 [a, b]), (T.mk 23 0 0 [a, c])]) i := fun i hi => by
    rw [Fm.sat_two (by omega) fa (Fm.two (op := 17) (by omega) fb fc), Fm.sat_two (by omega) fb fc, Fm.sat_two (by omega) (Fm.two (op := 23) (by omega) fa fb) (Fm.two (op := 23) (by omega) fa fc), Fm.sat_two (by omega) fa fb, Fm.sat_two (by omega) fa fc]
    simp only [semStep]
    simp
    exact untW_or _ _ _ _ _

theorem fm5l {a b c : T} (fa : Fm 3 a) (fb : Fm 3 b) (fc : Fm 3 c) : Fm 3 (T.mk 23 0 0 [(T.mk 16 0 0 [a, b]), c]) := (Fm.two (op := 23) (by omega) (Fm.two (op := 16) (by omega) fa fb) fc)
theorem fm5r {a b c : T} (fa : Fm 3 a) (fb : Fm 3 b) (fc : Fm 3 c) : Fm 3 (T.mk 16 0 0 [(T.mk 23 0 0 [a, c]), (T.mk 23 0 0 [b, c])]) := (Fm.two (op := 16) (by omega) (Fm.two (op := 23) (by omega) fa fc) (Fm.two (op := 23) (by omega) fb fc))
theorem fm5q {w : Word} (hr : w.right = true) {a b c : T} (fa : Fm 3 a) (fb : Fm 3 b) (fc : Fm 3 c) : ∀ i, i < w.v.length → T.sat w (T.mk 23 0 0 [(T.mk 16 0 0 [a, b]), c]) i = T.sat w (T.mk 16 0 0 [(T.mk 23 0 0 [a, c]), (T.mk 23 0 0 [b, c])]) i := fun i hi => by
    rw [Fm.sat_two (by omega) (Fm.two (op := 16) (by omega) fa fb) fc, Fm.sat_two (by omega) fa fb, Fm.sat_two (by omega) (Fm.two (op := 23) (by omega) fa fc) (Fm.two (op := 23) (by omega) fb fc), Fm.sat_two (by omega) fa fc, Fm.sat_two (by omega) fb fc]
    simp only [semStep]
    simp
    exact untW_and _ _ _ _ _


theorem same_true {n : Nat} {c c' : Bool} {a b : Nat → Bool} (hn : n ≤ 1000000) (h : ∀ i, i < n → a i = b i) : PC Try.prog 14 [rowL c n a, rowL c' n b] (boolL true) := by
  have := same_any (c := c) (c' := c') (a := a) (b := b) hn
  rwa [decide_eq_true h] at this

theorem or_any {t u : T} : PC Try.prog 25 [t.toL, u.toL] (T.mk 17 0 0 [t, u]).toL := by
  refine pc_of_call (callAt_enter ir25 (by simp) ?_)
  simp [topOK_toL, toL_cells_length, toL_agg]
  refine callT_closed two_any (by simp [mapO, reso_toL]) ?_
  simp [toL_mk]
theorem and_any {t u : T} : PC Try.prog 26 [t.toL, u.toL] (T.mk 16 0 0 [t, u]).toL := by
  refine pc_of_call (callAt_enter ir26 (by simp) ?_)
  simp [topOK_toL, toL_cells_length, toL_agg]
  refine callT_closed two_any (by simp [mapO, reso_toL]) ?_
  simp [toL_mk]
theorem next_any {t : T} : PC Try.prog 27 [t.toL] (T.mk 20 0 0 [t]).toL := by
  refine pc_of_call (callAt_enter ir27 (by simp) ?_)
  simp [topOK_toL, toL_cells_length, toL_agg]
  refine callT_closed one_any (by simp [mapO, reso_toL]) ?_
  simp [toL_mk]
theorem until_any {t u : T} : PC Try.prog 28 [t.toL, u.toL] (T.mk 23 0 0 [t, u]).toL := by
  refine pc_of_call (callAt_enter ir28 (by simp) ?_)
  simp [topOK_toL, toL_cells_length, toL_agg]
  refine callT_closed two_any (by simp [mapO, reso_toL]) ?_
  simp [toL_mk]

set_option maxRecDepth 100000 in
set_option maxHeartbeats 4000000 in
theorem spreads_walk {a b c : T} (ha : a.Ok) (hb : b.Ok) (hc : c.Ok) {w : Word} (hw : w.Ok) : PC Try.prog 7 [.agg (a.toL.cells ++ (b.toL.cells ++ (c.toL.cells ++ w.cells)))] (boolL true) := by
  refine pc_of_call (callAt_enter ir7 (by simp) ?_)
  have ea : ∃ o n p l, a = .mk o n p l := by cases a; exact ⟨_, _, _, _, rfl⟩
  have eb : ∃ o n p l, b = .mk o n p l := by cases b; exact ⟨_, _, _, _, rfl⟩
  have ec : ∃ o n p l, c = .mk o n p l := by cases c; exact ⟨_, _, _, _, rfl⟩
  obtain ⟨o1, n1, p1, l1, ea⟩ := ea
  obtain ⟨o2, n2, p2, l2, eb⟩ := eb
  obtain ⟨o3, n3, p3, l3, ec⟩ := ec
  have ta : a.toL = .agg [intL o1, intL n1, intL p1, .sl 4 false (l1.map T.toL)] := by rw [ea, toL_mk]
  have tb : b.toL = .agg [intL o2, intL n2, intL p2, .sl 4 false (l2.map T.toL)] := by rw [eb, toL_mk]
  have tc : c.toL = .agg [intL o3, intL n3, intL p3, .sl 4 false (l3.map T.toL)] := by rw [ec, toL_mk]
  clear ea eb ec
  have ca : a.toL.cells = [intL o1, intL n1, intL p1, .sl 4 false (l1.map T.toL)] := by rw [ta]; rfl
  have cb : b.toL.cells = [intL o2, intL n2, intL p2, .sl 4 false (l2.map T.toL)] := by rw [tb]; rfl
  have cc : c.toL.cells = [intL o3, intL n3, intL p3, .sl 4 false (l3.map T.toL)] := by rw [tc]; rfl
  simp [Word.cells, ta, tb, tc]
  simp only [← ca, ← cb, ← cc, toL_agg]
  refine callT_closed shown_any rfl ?_
  simp
  by_cases h12 : 10 < w.v.length
  · have k3 : (10 : Int) < w.v.length := by omega
    have k4 : ¬ (w.v.length : Int) ≤ 10 := by omega
    simp [k3, k4]
  · have k3 : ¬ (10 : Int) < w.v.length := by omega
    have k4 : (w.v.length : Int) ≤ 10 := by omega
    simp [k3, k4]
    refine callT_plain (few_any hw) rfl (by simp [Word.L, Word.cells]) ?_
    cases (w.v.all fun r => decide (r.length ≤ 10))
    · simp []
    · simp []
      refine callT_plain (rightR_any w) rfl (by simp [Word.L, Word.cells]) ?_
      cases hr : w.right
      · simp []
      · simp [toL_cells_length, toL_agg]
        refine callT_plain (formula_any ha 3) rfl (by simp [mapO, reso_toL]) ?_
        cases hf : a.formula 3
        · simp []
        · simp [toL_cells_length, toL_agg]
          refine callT_plain (formula_any hb 3) rfl (by simp [mapO, reso_toL]) ?_
          cases hg : b.formula 3
          · simp []
          · simp [toL_cells_length, toL_agg]
            refine callT_plain (formula_any hc 3) rfl (by simp [mapO, reso_toL]) ?_
            cases hh : c.formula 3
            · simp []
            have fa := Fm.of ha hf
            have fb := Fm.of hb hg
            have fc := Fm.of hc hh
            have hn : w.v.length ≤ 1000000 := by omega
            have rl0 := all_fm hw hr hn (t := (T.mk 21 0 0 [(T.mk 17 0 0 [a, b])])) (fm0l fa fb fc)
            have rr0 := all_fm hw hr hn (t := (T.mk 17 0 0 [(T.mk 21 0 0 [a]), (T.mk 21 0 0 [b])])) (fm0r fa fb fc)
            have s0 := same_true (c := true) (c' := true) hn (fm0q (w := w) hr fa fb fc)
            generalize T.sat w (T.mk 21 0 0 [(T.mk 17 0 0 [a, b])]) = L0 at rl0 s0
            generalize T.sat w (T.mk 17 0 0 [(T.mk 21 0 0 [a]), (T.mk 21 0 0 [b])]) = R0 at rr0 s0
            have rl1 := all_fm hw hr hn (t := (T.mk 22 0 0 [(T.mk 16 0 0 [a, b])])) (fm1l fa fb fc)
            have rr1 := all_fm hw hr hn (t := (T.mk 16 0 0 [(T.mk 22 0 0 [a]), (T.mk 22 0 0 [b])])) (fm1r fa fb fc)
            have s1 := same_true (c := true) (c' := true) hn (fm1q (w := w) hr fa fb fc)
            generalize T.sat w (T.mk 22 0 0 [(T.mk 16 0 0 [a, b])]) = L1 at rl1 s1
            generalize T.sat w (T.mk 16 0 0 [(T.mk 22 0 0 [a]), (T.mk 22 0 0 [b])]) = R1 at rr1 s1
            have rl2 := all_fm hw hr hn (t := (T.mk 20 0 0 [(T.mk 17 0 0 [a, b])])) (fm2l fa fb fc)
            have rr2 := all_fm hw hr hn (t := (T.mk 17 0 0 [(T.mk 20 0 0 [a]), (T.mk 20 0 0 [b])])) (fm2r fa fb fc)
            have s2 := same_true (c := true) (c' := true) hn (fm2q (w := w) hr fa fb fc)
            generalize T.sat w (T.mk 20 0 0 [(T.mk 17 0 0 [a, b])]) = L2 at rl2 s2
            generalize T.sat w (T.mk 17 0 0 [(T.mk 20 0 0 [a]), (T.mk 20 0 0 [b])]) = R2 at rr2 s2
            have rl3 := all_fm hw hr hn (t := (T.mk 20 0 0 [(T.mk 16 0 0 [a, b])])) (fm3l fa fb fc)
            have rr3 := all_fm hw hr hn (t := (T.mk 16 0 0 [(T.mk 20 0 0 [a]), (T.mk 20 0 0 [b])])) (fm3r fa fb fc)
            have s3 := same_true (c := true) (c' := true) hn (fm3q (w := w) hr fa fb fc)
            generalize T.sat w (T.mk 20 0 0 [(T.mk 16 0 0 [a, b])]) = L3 at rl3 s3
            generalize T.sat w (T.mk 16 0 0 [(T.mk 20 0 0 [a]), (T.mk 20 0 0 [b])]) = R3 at rr3 s3
            have rl4 := all_fm hw hr hn (t := (T.mk 23 0 0 [a, (T.mk 17 0 0 [b, c])])) (fm4l fa fb fc)
            have rr4 := all_fm hw hr hn (t := (T.mk 17 0 0 [(T.mk 23 0 0 [a, b]), (T.mk 23 0 0 [a, c])])) (fm4r fa fb fc)
            have s4 := same_true (c := true) (c' := true) hn (fm4q (w := w) hr fa fb fc)
            generalize T.sat w (T.mk 23 0 0 [a, (T.mk 17 0 0 [b, c])]) = L4 at rl4 s4
            generalize T.sat w (T.mk 17 0 0 [(T.mk 23 0 0 [a, b]), (T.mk 23 0 0 [a, c])]) = R4 at rr4 s4
            have rl5 := all_fm hw hr hn (t := (T.mk 23 0 0 [(T.mk 16 0 0 [a, b]), c])) (fm5l fa fb fc)
            have rr5 := all_fm hw hr hn (t := (T.mk 16 0 0 [(T.mk 23 0 0 [a, c]), (T.mk 23 0 0 [b, c])])) (fm5r fa fb fc)
            have s5 := same_true (c := true) (c' := true) hn (fm5q (w := w) hr fa fb fc)
            generalize T.sat w (T.mk 23 0 0 [(T.mk 16 0 0 [a, b]), c]) = L5 at rl5 s5
            generalize T.sat w (T.mk 16 0 0 [(T.mk 23 0 0 [a, c]), (T.mk 23 0 0 [b, c])]) = R5 at rr5 s5
            simp [toL_cells_length, toL_agg]
            refine bcallT_closed or_any (by simp [mapO, reso_toL]) ?_
            simp []
            refine bcallT_closed one_any (by simp [mapO, reso_toL]) ?_
            simp []
            refine bcallT_closed rl0 (by simp [mapO, reso_toL]) ?_
            simp [toL_cells_length, toL_agg]
            refine bcallT_closed one_any (by simp [mapO, reso_toL]) ?_
            simp [toL_cells_length, toL_agg]
            refine bcallT_closed one_any (by simp [mapO, reso_toL]) ?_
            simp []
            refine bcallT_closed or_any (by simp [mapO, reso_toL]) ?_
            simp []
            refine callT_closed rr0 (by simp [mapO, reso_toL]) ?_
            simp []
            refine callT_closed s0 (by simp) ?_
            simp [toL_cells_length, toL_agg]
            refine bcallT_closed and_any (by simp [mapO, reso_toL]) ?_
            simp []
            refine bcallT_closed one_any (by simp [mapO, reso_toL]) ?_
            simp []
            refine bcallT_closed rl1 (by simp [mapO, reso_toL]) ?_
            simp [toL_cells_length, toL_agg]
            refine bcallT_closed one_any (by simp [mapO, reso_toL]) ?_
            simp [toL_cells_length, toL_agg]
            refine bcallT_closed one_any (by simp [mapO, reso_toL]) ?_
            simp []
            refine bcallT_closed and_any (by simp [mapO, reso_toL]) ?_
            simp []
            refine callT_closed rr1 (by simp [mapO, reso_toL]) ?_
            simp []
            refine callT_closed s1 (by simp) ?_
            simp [toL_cells_length, toL_agg]
            refine bcallT_closed or_any (by simp [mapO, reso_toL]) ?_
            simp []
            refine bcallT_closed next_any (by simp [mapO, reso_toL]) ?_
            simp []
            refine bcallT_closed rl2 (by simp [mapO, reso_toL]) ?_
            simp [toL_cells_length, toL_agg]
            refine bcallT_closed next_any (by simp [mapO, reso_toL]) ?_
            simp [toL_cells_length, toL_agg]
            refine bcallT_closed next_any (by simp [mapO, reso_toL]) ?_
            simp []
            refine bcallT_closed or_any (by simp [mapO, reso_toL]) ?_
            simp []
            refine callT_closed rr2 (by simp [mapO, reso_toL]) ?_
            simp []
            refine callT_closed s2 (by simp) ?_
            simp [toL_cells_length, toL_agg]
            refine bcallT_closed and_any (by simp [mapO, reso_toL]) ?_
            simp []
            refine bcallT_closed next_any (by simp [mapO, reso_toL]) ?_
            simp []
            refine bcallT_closed rl3 (by simp [mapO, reso_toL]) ?_
            simp [toL_cells_length, toL_agg]
            refine bcallT_closed next_any (by simp [mapO, reso_toL]) ?_
            simp [toL_cells_length, toL_agg]
            refine bcallT_closed next_any (by simp [mapO, reso_toL]) ?_
            simp []
            refine bcallT_closed and_any (by simp [mapO, reso_toL]) ?_
            simp []
            refine callT_closed rr3 (by simp [mapO, reso_toL]) ?_
            simp []
            refine callT_closed s3 (by simp) ?_
            simp [toL_cells_length, toL_agg]
            refine bcallT_closed or_any (by simp [mapO, reso_toL]) ?_
            simp []
            refine bcallT_closed until_any (by simp [mapO, reso_toL]) ?_
            simp []
            refine bcallT_closed rl4 (by simp [mapO, reso_toL]) ?_
            simp [toL_cells_length, toL_agg]
            refine bcallT_closed until_any (by simp [mapO, reso_toL]) ?_
            simp [toL_cells_length, toL_agg]
            refine bcallT_closed until_any (by simp [mapO, reso_toL]) ?_
            simp []
            refine bcallT_closed or_any (by simp [mapO, reso_toL]) ?_
            simp []
            refine callT_closed rr4 (by simp [mapO, reso_toL]) ?_
            simp []
            refine callT_closed s4 (by simp) ?_
            simp [toL_cells_length, toL_agg]
            refine bcallT_closed and_any (by simp [mapO, reso_toL]) ?_
            simp [toL_cells_length, toL_agg]
            refine bcallT_closed until_any (by simp [mapO, reso_toL]) ?_
            simp []
            refine bcallT_closed rl5 (by simp [mapO, reso_toL]) ?_
            simp [toL_cells_length, toL_agg]
            refine bcallT_closed until_any (by simp [mapO, reso_toL]) ?_
            simp [toL_cells_length, toL_agg]
            refine bcallT_closed until_any (by simp [mapO, reso_toL]) ?_
            simp []
            refine bcallT_closed and_any (by simp [mapO, reso_toL]) ?_
            simp []
            refine callT_closed rr5 (by simp [mapO, reso_toL]) ?_
            simp []
            refine callT_closed s5 (by simp) ?_
            simp []

theorem semSpreads_any (y0 : (T) × (T) × (T) × ((List (List (Int))) × (Int))) (h0 : (T.Ok y0.1) ∧ (T.Ok y0.2.1) ∧ (T.Ok y0.2.2.1) ∧ (((∀ z ∈ y0.2.2.2.1, (∀ zz ∈ z, (Lit.int .i64 zz).wf = true) ∧ z.length * 8 ≤ 140737488351232) ∧ y0.2.2.2.1.length * 24 ≤ 140737488351232) ∧ ((Lit.int .i64 y0.2.2.2.2).wf = true))) : PC Try.prog 7 [.agg [L.v (.int .i64 y0.1.op), L.v (.int .i64 y0.1.num), L.v (.int .i64 y0.1.pl), L.sl 4 false (y0.1.l.map T.toL), L.v (.int .i64 y0.2.1.op), L.v (.int .i64 y0.2.1.num), L.v (.int .i64 y0.2.1.pl), L.sl 4 false (y0.2.1.l.map T.toL), L.v (.int .i64 y0.2.2.1.op), L.v (.int .i64 y0.2.2.1.num), L.v (.int .i64 y0.2.2.1.pl), L.sl 4 false (y0.2.2.1.l.map T.toL), L.sl 1 false (y0.2.2.2.1.map fun (z : List (Int)) => L.sl 1 false (z.map fun (z : Int) => L.v (.int .i64 z))), L.v (.int .i64 y0.2.2.2.2)]] (.v (.bool true)) := by
  obtain ⟨a, b, c, y⟩ := y0
  obtain ⟨ha, hb, hc, hy⟩ := h0
  have := spreads_walk ha hb hc (wordOf_ok hy)
  cases a
  cases b
  cases c
  simpa [toL_mk, T.op, T.num, T.pl, T.l, wordOf, Word.cells] using this

end Go.Proofs.Ytahkjkmkafbakaa
