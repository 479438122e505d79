/- LAWS: what signs of time say hangs together. -/
import Derived.Test.YtahkjkmkafbakaaSemLoops
namespace Go.Proofs.Ytahkjkmkafbakaa
open Go Lg

def etrue : T := .mk 13 0 0 []
theorem etrue_fm (vars : Int) : Fm vars etrue := by
  refine ⟨.mk (by decide) (by decide) (by decide) (by simp) (by simp), ?_, by decide, by decide⟩
  unfold etrue
  rw [T.may_mk]
  simp [mayPart, wants]
theorem etrue_sat (w : Word) : etrue.sat w = fun _ => true := by
  rw [T.sat_lit (by decide)]
  funext i
  unfold etrue
  rw [T.eval_mk]
  simp [evalR]

theorem step15 (w : Word) (A c : Nat → Bool) : semStep w 15 A c = fun i => !A i := by funext i; simp [semStep]

set_option maxRecDepth 100000 in
set_option maxHeartbeats 4000000 in
theorem laws_walk {a b : T} (ha : a.Ok) (hb : b.Ok) {w : Word} (hw : w.Ok) : PC Try.prog 5 [a.toL, b.toL, w.L] (boolL true) := by
  refine pc_of_call (callAt_enter ir5 (by simp) ?_)
  simp [topOK_toL, Word.L, Word.cells]
  refine callT_closed shown_any rfl ?_
  simp
  by_cases h12 : 12 < w.v.length
  · have k3 : (12 : Int) < w.v.length := by omega
    have k4 : ¬ (w.v.length : Int) ≤ 12 := by omega
    simp [k3, k4]
  · have k3 : ¬ (12 : Int) < w.v.length := by omega
    have k4 : (w.v.length : Int) ≤ 12 := by omega
    simp [k3, k4]
    refine callT_plain (few_any hw) rfl (by simp [Word.L, Word.cells]) ?_
    cases (w.v.all fun r => decide (r.length ≤ 10))
    · simp
    · simp
      refine callT_plain (rightR_any w) rfl (by simp [Word.L, Word.cells]) ?_
      cases hr : w.right
      · simp
      · simp [toL_cells_length, toL_take, toL_agg]
        refine callT_plain (formula_any ha 3) rfl (by simp [mapO, reso_toL]) ?_
        cases hf : a.formula 3
        · simp
        · simp [toL_cells_length, toL_take, toL_agg]
          refine callT_plain (formula_any hb 3) rfl (by simp [mapO, reso_toL]) ?_
          cases hg : b.formula 3
          · simp
          · have fa := Fm.of ha hf
            have fb := Fm.of hb hg
            have hn : w.v.length ≤ 1000000 := by omega
            have hpos := right_len hr
            -- the rows
            have rx := all_fm hw hr hn fa
            have ry := all_fm hw hr hn fb
            have fu := Fm.two (op := 23) (by omega) fa fb
            have ru := all_fm hw hr hn fu
            rw [Fm.sat_two (by omega) fa fb] at ru
            have fr := Fm.two (op := 24) (by omega) fa fb
            have rr := all_fm hw hr hn fr
            rw [Fm.sat_two (by omega) fa fb] at rr
            have fna := Fm.one (op := 15) (by omega) fa
            have fnb := Fm.one (op := 15) (by omega) fb
            have fnu := Fm.two (op := 23) (by omega) fna fnb
            have fn := Fm.one (op := 15) (by omega) fnu
            have rn := all_fm hw hr hn fn
            rw [Fm.sat_one (by omega) fnu, Fm.sat_two (by omega) fna fnb, Fm.sat_one (by omega) fa, Fm.sat_one (by omega) fb] at rn
            have ff := Fm.one (op := 21) (by omega) fa
            have rf := all_fm hw hr hn ff
            rw [Fm.sat_one (by omega) fa] at rf
            have fgn := Fm.one (op := 22) (by omega) fna
            have fg := Fm.one (op := 15) (by omega) fgn
            have rg := all_fm hw hr hn fg
            rw [Fm.sat_one (by omega) fgn, Fm.sat_one (by omega) fna, Fm.sat_one (by omega) fa] at rg
            have ft := Fm.two (op := 23) (by omega) (etrue_fm 3) fa
            have rt := all_fm hw hr hn ft
            rw [Fm.sat_two (by omega) (etrue_fm 3) fa, etrue_sat] at rt
            have rz := all_fm hw hr hn fna
            rw [Fm.sat_one (by omega) fa] at rz
            have rh := holds_fm hw hr hn fa
            -- what they tell
            generalize a.sat w = A at *
            generalize b.sat w = B at *
            have qu : ∀ i, i < w.v.length → semStep w 23 A B i = (B i || (A i && semStep w 23 A B (w.nxt i))) := fun i hi => by
              simp only [semStep]; exact untW_step hr hi
            have qr : ∀ i, i < w.v.length → semStep w 24 A B i = (B i && (A i || semStep w 24 A B (w.nxt i))) := fun i hi => by
              simp only [semStep]; exact relW_step hr hi
            have qn : ∀ i, semStep w 15 (semStep w 23 (semStep w 15 A fun _ => false) (semStep w 15 B fun _ => false)) (fun _ => false) i = semStep w 24 A B i := fun i => by
              rw [step15 w A, step15 w B, step15]
              simp [semStep, relW, untW]
            have qg : ∀ i, semStep w 15 (semStep w 22 (semStep w 15 A fun _ => false) fun _ => false) (fun _ => false) i = semStep w 21 A (fun _ => false) i := fun i => by
              rw [step15 w A, step15]
              simp [semStep, relW, untW]
            have qt : ∀ i, semStep w 23 (fun _ => true) A i = semStep w 21 A (fun _ => false) i := fun i => by
              simp [semStep]
            have qf : ∀ i, i < w.v.length → semStep w 21 A (fun _ => false) i = (A i || semStep w 21 A (fun _ => false) (w.nxt i)) := fun i hi => by
              simp only [semStep]
              have := untW_step hr (a := fun _ => true) (b := A) hi
              simpa using this
            have qz : ∀ i, semStep w 15 A (fun _ => false) i = !A i := fun i => by simp [semStep]
            generalize semStep w 15 (semStep w 23 (semStep w 15 A fun _ => false) (semStep w 15 B fun _ => false)) (fun _ => false) = N at *
            generalize semStep w 15 (semStep w 22 (semStep w 15 A fun _ => false) fun _ => false) (fun _ => false) = G at *
            generalize semStep w 23 (fun _ => true) A = Tt at *
            generalize semStep w 23 A B = U at *
            generalize semStep w 24 A B = R at *
            generalize semStep w 21 A (fun _ => false) = F at *
            generalize semStep w 15 A (fun _ => false) = Z at *
            simp [toL_cells_length, toL_take, toL_agg]
            refine callT_closed rx (by simp [mapO, reso_toL, Word.L, Word.cells]) ?_
            simp [toL_cells_length, toL_take, toL_agg]
            refine callT_closed ry (by simp [mapO, reso_toL, Word.L, Word.cells]) ?_
            simp [toL_cells_length, toL_take, toL_agg]
            refine bcallT_closed two_any (by simp [mapO, reso_toL]) ?_
            simp
            refine callT_closed ru (by simp [mapO, reso_toL, Word.L, Word.cells]) ?_
            simp [toL_cells_length, toL_take, toL_agg]
            refine bcallT_closed two_any (by simp [mapO, reso_toL]) ?_
            simp
            refine callT_closed rr (by simp [mapO, reso_toL, Word.L, Word.cells]) ?_
            simp [toL_cells_length, toL_take, toL_agg]
            refine bcallT_closed not_any (by simp [mapO, reso_toL]) ?_
            simp [toL_cells_length, toL_take, toL_agg]
            refine bcallT_closed not_any (by simp [mapO, reso_toL]) ?_
            simp
            refine bcallT_closed two_any (by simp [mapO, reso_toL]) ?_
            simp
            refine bcallT_closed not_any (by simp [mapO, reso_toL]) ?_
            simp
            refine callT_closed rn (by simp [mapO, reso_toL, Word.L, Word.cells]) ?_
            simp [toL_cells_length, toL_take, toL_agg]
            refine bcallT_closed one_any (by simp [mapO, reso_toL]) ?_
            simp
            refine callT_closed rf (by simp [mapO, reso_toL, Word.L, Word.cells]) ?_
            simp [toL_cells_length, toL_take, toL_agg]
            refine bcallT_closed not_any (by simp [mapO, reso_toL]) ?_
            simp
            refine bcallT_closed one_any (by simp [mapO, reso_toL]) ?_
            simp
            refine bcallT_closed not_any (by simp [mapO, reso_toL]) ?_
            simp
            refine callT_closed rg (by simp [mapO, reso_toL, Word.L, Word.cells]) ?_
            simp [toL_cells_length, toL_take, toL_agg]
            refine bcallT_closed ((two_any (op := 23) (t := etrue) (u := a)).sub (.cons (.refl _) (.cons (sub_tree sub_leaf) (.cons (.refl _) .nil))) (.refl _)) (by simp [mapO, reso_toL]) ?_
            simp
            refine callT_closed rt (by simp [mapO, reso_toL, Word.L, Word.cells]) ?_
            simp [toL_cells_length, toL_take, toL_agg]
            refine bcallT_closed not_any (by simp [mapO, reso_toL]) ?_
            simp
            refine callT_closed rz (by simp [mapO, reso_toL, Word.L, Word.cells]) ?_
            simp
            refine lwp_loop (fun i : Nat => [(3, .ptr 0 0), (5, .ptr 2 0), (7, boolL true), (8, rowL true w.v.length A), (9, rowL true w.v.length B), (10, rowL true w.v.length U), (11, rowL true w.v.length R), (12, rowL true w.v.length N), (13, rowL true w.v.length F), (14, rowL true w.v.length G), (15, rowL true w.v.length Tt), (16, rowL true w.v.length Z), (17, intL w.v.length), (18, intL i)]) (fun _ => [some a.toL.cells, some b.toL.cells, some w.cells]) (fun i => w.v.length - i) (fun i => i ≤ w.v.length) 0 (by omega) ⟨[0, 1, 2], ?_⟩ ?_
            · simp [Word.cells, below_cells, ren_cells]
            · intro i hi
              simp [Word.cells, below_cells, ren_cells]
              refine ⟨fun hlt => ?_, fun hge => ?_⟩
              · have hnw : IntKind.i64.wrap ((i : Int) + 1) = ((i + 1 : Nat) : Int) := by rw [wrap_id (by omega) (by omega)]; rfl
                have hj := Word.nxt_lt hr hlt
                have hloop : 0 ≤ w.loop := by simp [Word.right] at hr; exact hr.1.2
                have qu := qu i hlt
                have qr := qr i hlt
                have qf := qf i hlt
                have qn := qn i
                have qg := qg i
                have qt := qt i
                have qz := qz i
                simp [hlt]
                refine callT_plain (nxt17_gen ir22 hw hloop hlt) rfl (by simp [Word.L, Word.cells]) ?_
                generalize w.nxt i = j at *
                have step : ∀ E' : Env, lk E' 3 = .ptr 0 0 → True := fun _ _ => trivial
                cases hA : A i <;> cases hB : B i <;> cases hU : U j <;> cases hR : R j <;> cases hF : F j
                all_goals
                  rw [hA, hB, hU] at qu
                  rw [hA, hB, hR] at qr
                  rw [hA, hF] at qf
                  rw [qr] at qn
                  rw [qf] at qg qt
                  rw [hA] at qz
                  simp at qu qr qf qn qg qt qz
                  simp [hlt, hj, rowsB_getE, hA, hB, hU, hR, hF, qu, qr, qf, qn, qg, qt, qz, hnw]
                  refine ⟨i + 1, by omega, by show w.v.length - (i + 1) < w.v.length - i; omega, [0, 1, 2], ?_⟩
                  simp [Word.cells, below_cells, ren_cells]
              · have : i = w.v.length := by omega
                subst this
                simp [toL_cells_length, toL_take, toL_agg]
                refine bcallT_plain rh rfl (by simp [mapO, reso_toL, Word.L, Word.cells]) ?_
                simp [hpos, rowsB_getE]

theorem semLaws_any (y0 : T) (h0 : T.Ok y0) (y1 : T) (h1 : T.Ok y1) (y2 : (List (List (Int))) × (Int)) (h2 : ((∀ z ∈ y2.1, (∀ zz ∈ z, (Lit.int .i64 zz).wf = true) ∧ z.length * 8 ≤ 140737488351232) ∧ y2.1.length * 24 ≤ 140737488351232) ∧ ((Lit.int .i64 y2.2).wf = true)) : PC Try.prog 5 [y0.toL, y1.toL, .agg [L.sl 1 false (y2.1.map fun (z : List (Int)) => L.sl 1 false (z.map fun (z : Int) => L.v (.int .i64 z))), L.v (.int .i64 y2.2)]] (.v (.bool true)) :=
  laws_walk h0 h1 (wordOf_ok h2)

end Go.Proofs.Ytahkjkmkafbakaa
