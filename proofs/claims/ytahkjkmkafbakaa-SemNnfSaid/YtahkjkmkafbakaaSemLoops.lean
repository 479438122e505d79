/- LOOPS: of a word that stays in its last state some time is in one of its states, for ever in all; for ever some time, and some time for ever, are in the last one. -/
import Derived.Test.YtahkjkmkafbakaaSemShown
import Derived.Test.YtahkjkmkafbakaaLibSemP
namespace Go.Proofs.Ytahkjkmkafbakaa
open Go Lg

theorem holds_fm {w : Word} (hwok : w.Ok) (hr : w.right = true) (hn : w.v.length ≤ 1000000) {vars : Int} {t : T} (h : Fm vars t) : PC Try.prog 17 [t.toL, w.L] (boolL (t.sat w 0)) := holds_any hwok hr hn h.ok h.may h.good h.notint
theorem all_fm {w : Word} (hwok : w.Ok) (hr : w.right = true) (hn : w.v.length ≤ 1000000) {vars : Int} {t : T} (h : Fm vars t) : PC Try.prog 15 [t.toL, w.L] (rowL true w.v.length (t.sat w)) := all_any hwok hr hn h.ok h.may h.good h.notint

/-- In one of the first states, in all of them, in the last of them. -/
def anyB (h : Nat → Bool) : Nat → Bool
  | 0 => false
  | n + 1 => anyB h n || h n
def allB (h : Nat → Bool) : Nat → Bool
  | 0 => true
  | n + 1 => allB h n && h n
def lastB (h : Nat → Bool) : Nat → Bool
  | 0 => false
  | n + 1 => h n
theorem anyB_iff {h : Nat → Bool} : ∀ {n : Nat}, anyB h n = true ↔ ∃ j, 0 ≤ j ∧ j < n ∧ h j = true
  | 0 => by simp [anyB]
  | n + 1 => by
    rw [anyB, Bool.or_eq_true, anyB_iff]
    constructor
    · rintro (⟨j, h1, h2, h3⟩ | h1)
      · exact ⟨j, h1, by omega, h3⟩
      · exact ⟨n, by omega, by omega, h1⟩
    · rintro ⟨j, h1, h2, h3⟩
      by_cases e : j = n
      · subst e; exact .inr h3
      · exact .inl ⟨j, h1, by omega, h3⟩
theorem allB_iff {h : Nat → Bool} : ∀ {n : Nat}, allB h n = true ↔ ∀ j, 0 ≤ j → j < n → h j = true
  | 0 => by simp [allB]
  | n + 1 => by
    rw [allB, Bool.and_eq_true, allB_iff]
    constructor
    · rintro ⟨h1, h2⟩ j _ hj
      by_cases e : j = n
      · subst e; exact h2
      · exact h1 j (by omega) (by omega)
    · intro h1
      exact ⟨fun j _ hj => h1 j (by omega) (by omega), h1 n (by omega) (by omega)⟩

theorem loops_walk {a : T} (ha : a.Ok) {w : Word} (hw : w.Ok) (hl : w.loop = (w.v.length : Int) - 1) : PC Try.prog 6 [a.toL, .sl 1 false (w.v.map intsL)] (boolL true) := by
  refine pc_of_call (callAt_enter ir6 (by simp) ?_)
  simp [topOK_toL]
  refine callT_closed shown_any rfl ?_
  have hv := hw.v
  have hl1 : IntKind.i64.wrap ((w.v.length : Int) - 1) = w.loop := by
    have h1 : -9223372036854775808 ≤ (w.v.length : Int) - 1 := by omega
    have h2 : (w.v.length : Int) - 1 ≤ 9223372036854775807 := by omega
    have : IntKind.i64.wrap ((w.v.length : Int) - 1) = (w.v.length : Int) - 1 := IntWalk.i64_in _ ⟨by omega, by omega⟩
    rw [this, hl]
  simp [hl1]
  by_cases h0 : w.v.length < 1
  · have k1 : (w.v.length : Int) < 1 := by omega
    have k2 : ¬ (1 : Int) ≤ w.v.length := by omega
    simp [k1, k2]
  · have k1 : ¬ (w.v.length : Int) < 1 := by omega
    have k2 : (1 : Int) ≤ w.v.length := by omega
    by_cases h12 : 12 < w.v.length
    · have k3 : (12 : Int) < w.v.length := by omega
      have k4 : ¬ (w.v.length : Int) ≤ 12 := by omega
      simp [k1, k2, k3, k4]
    · have k3 : ¬ (12 : Int) < w.v.length := by omega
      have k4 : (w.v.length : Int) ≤ 12 := by omega
      simp [k1, k2, k3, k4]
      refine callT_plain (few_any hw) rfl (by simp [Word.L, Word.cells]) ?_
      cases (w.v.all fun r => decide (r.length ≤ 10))
      · simp
      · simp [toL_cells_length, toL_take, toL_agg]
        refine callT_plain (formula_any ha 3) rfl (by simp [mapO, reso_toL]) ?_
        cases hf : a.formula 3
        · simp
        · simp [toL_cells_length, toL_take, toL_agg]
          refine callT_plain (lit_gen ir23 ir36 a ha) rfl (by simp [mapO, reso_toL]) ?_
          cases hlit : a.lit
          · simp
          · have fa := Fm.of ha hf
            have hr : w.right = true := by simp [Word.right]; omega
            simp
            refine lwp_loop (fun i : Nat => [(1, .sl 1 false (w.v.map intsL)), (2, .ptr 0 0), (5, boolL true), (6, .ptr 1 0), (7, boolL (anyB (a.sat w) i)), (8, boolL (allB (a.sat w) i)), (9, boolL (lastB (a.sat w) i)), (10, intL i)]) (fun _ => [some a.toL.cells, some w.cells]) (fun i => w.v.length - i) (fun i => i ≤ w.v.length) 0 (by omega) ⟨[0, 1], ?_⟩ ?_
            · simp [Word.cells, anyB, allB, lastB, below_cells, ren_cells]
            · intro i hi
              simp [Word.cells]
              refine ⟨fun hlt => ?_, fun hge => ?_⟩
              · have hnw : IntKind.i64.wrap ((i : Int) + 1) = ((i + 1 : Nat) : Int) := by rw [wrap_id (by omega) (by omega)]; rfl
                have hev := evalR_gen (c := false) ir24 ir53 (hw.row _ (List.getElem_mem hlt)) a ha
                have hs : a.sat w i = decide (a.eval w.v[i] = 1) := by rw [sat_lit_at hlit]; simp [hlt]
                have e1 : anyB (a.sat w) (i + 1) = (anyB (a.sat w) i || a.sat w i) := rfl
                have e2 : allB (a.sat w) (i + 1) = (allB (a.sat w) i && a.sat w i) := rfl
                have e3 : lastB (a.sat w) (i + 1) = a.sat w i := rfl
                rw [hs] at e1 e2 e3
                simp [hlt, toL_cells_length, toL_take, toL_agg]
                refine callT_plain hev rfl (by simp [mapO, reso_toL]) ?_
                simp
                cases hA : anyB (a.sat w) i <;> cases hB : allB (a.sat w) i <;> cases hD : decide (a.eval w.v[i] = 1)
                all_goals
                  rw [hA, hD] at e1
                  rw [hB, hD] at e2
                  rw [hD] at e3
                  simp at e1 e2 e3
                  simp [hA, hB, hnw]
                  refine ⟨i + 1, by omega, by show w.v.length - (i + 1) < w.v.length - i; omega, [0, 1], ?_⟩
                  simp [e1, e2, e3, Word.cells, below_cells, ren_cells]
              · have : i = w.v.length := by omega
                subst this
                have f21 := Fm.one (op := 21) (by omega) fa
                have f22 := Fm.one (op := 22) (by omega) fa
                have fgf := Fm.one (op := 22) (by omega) f21
                have ffg := Fm.one (op := 21) (by omega) f22
                have hpos : 0 < w.v.length := by omega
                have p1 := holds_fm hw hr (by omega) f21
                have p2 := holds_fm hw hr (by omega) f22
                have p3 := holds_fm hw hr (by omega) fgf
                have p4 := holds_fm hw hr (by omega) ffg
                have q1 : (T.mk 21 0 0 [a]).sat w 0 = anyB (a.sat w) w.v.length := by
                  rw [Fm.sat_one (by omega) fa]
                  simp only [semStep]
                  rw [Bool.eq_iff_iff]
                  show untW w (fun _ => true) (a.sat w) 0 = true ↔ _
                  rw [loops_fin hr hl _ hpos, anyB_iff]
                have q2 : (T.mk 22 0 0 [a]).sat w 0 = allB (a.sat w) w.v.length := by
                  rw [Fm.sat_one (by omega) fa, Bool.eq_iff_iff]
                  show relW w (fun _ => false) (a.sat w) 0 = true ↔ _
                  rw [loops_glob hr hl _ hpos, allB_iff]
                have ql : lastB (a.sat w) w.v.length = a.sat w (w.v.length - 1) := by
                  obtain ⟨k, hk⟩ : ∃ k, w.v.length = k + 1 := ⟨w.v.length - 1, by omega⟩
                  rw [hk]; rfl
                have q3 : (T.mk 22 0 0 [.mk 21 0 0 [a]]).sat w 0 = lastB (a.sat w) w.v.length := by
                  rw [Fm.sat_one (by omega) f21, Fm.sat_one (by omega) fa, ql]
                  exact loops_gf hr hl _
                have q4 : (T.mk 21 0 0 [.mk 22 0 0 [a]]).sat w 0 = lastB (a.sat w) w.v.length := by
                  rw [Fm.sat_one (by omega) f22, Fm.sat_one (by omega) fa, ql]
                  exact loops_fg hr hl _
                rw [q1] at p1
                rw [q2] at p2
                rw [q3] at p3
                rw [q4] at p4
                simp [toL_cells_length, toL_take, toL_agg]
                refine bcallT_closed one_any (by simp [mapO, reso_toL]) ?_
                simp
                refine bcallT_plain p1 rfl (by simp [mapO, reso_toL, Word.L, Word.cells]) ?_
                simp [toL_cells_length, toL_take, toL_agg]
                refine bcallT_closed one_any (by simp [mapO, reso_toL]) ?_
                simp
                refine bcallT_plain p2 rfl (by simp [mapO, reso_toL, Word.L, Word.cells]) ?_
                simp [toL_cells_length, toL_take, toL_agg]
                refine bcallT_closed one_any (by simp [mapO, reso_toL]) ?_
                simp
                refine bcallT_closed one_any (by simp [mapO, reso_toL]) ?_
                simp
                refine bcallT_plain p3 rfl (by simp [mapO, reso_toL, Word.L, Word.cells]) ?_
                simp [toL_cells_length, toL_take, toL_agg]
                refine bcallT_closed one_any (by simp [mapO, reso_toL]) ?_
                simp
                refine bcallT_closed one_any (by simp [mapO, reso_toL]) ?_
                simp
                refine bcallT_plain p4 rfl (by simp [mapO, reso_toL, Word.L, Word.cells]) ?_
                simp

theorem semLoops_any (y0 : T) (h0 : T.Ok y0) (y1 : List (List (Int))) (h1 : (∀ z ∈ y1, (∀ zz ∈ z, (Lit.int .i64 zz).wf = true) ∧ z.length * 8 ≤ 140737488351232) ∧ y1.length * 24 ≤ 140737488351232) : PC Try.prog 6 [y0.toL, L.sl 1 false (y1.map fun (z : List (Int)) => L.sl 1 false (z.map fun (z : Int) => L.v (.int .i64 z)))] (.v (.bool true)) := by
  refine loops_walk h0 (w := ⟨y1, (y1.length : Int) - 1⟩) ⟨by simp; omega, fun r hr => ?_⟩ rfl
  have := (h1.1 r hr).2
  omega

end Go.Proofs.Ytahkjkmkafbakaa
