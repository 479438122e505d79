/- Soundness of code, of functions. -/
import Derived.Test.YtaegmmeppkgnkaaLgM3
import Derived.Test.YtaegmmeppkgnkaaLgQ7
namespace Lg
open Go

section
variable {P : Program}

theorem Post.normal {n η S w Q a' w' E' H' η' S'} (h : Q .normal E' H') (hA : At n η' S' w' a' E' H') (hL : Le η S w η' S' w') : Post n η S w Q .normal a' w' := ⟨.normal, rfl, E', H', η', S', h, hA, hL⟩

theorem lwp_sound {sel : Nat → Bool} {n : Nat} {η₀ : List Nat} {S₀ : Nat → Prop} {w₀ : World} : ∀ {c : Code} {b : IR} {Q : X → Env → Heap → Prop} {E : Env} {H : Heap} {η : List Nat} {S : Nat → Prop} {w : World} {a : Act},
    compS sel P n c = some b → lwp P η₀.length b Q E H → At n η S w a E H → Le η₀ S₀ w₀ η S w → c.wp P (Post n η₀ S₀ w₀ Q) a w := by
  -- by the size of the small code, for a scope's second run is of another piece
  have main : ∀ (sz : Nat) (b : IR), sizeOf b ≤ sz → ∀ {c : Code} {Q : X → Env → Heap → Prop} {E : Env} {H : Heap} {η : List Nat} {S : Nat → Prop} {w : World} {a : Act},
      compS sel P n c = some b → lwp P η₀.length b Q E H → At n η S w a E H → Le η₀ S₀ w₀ η S w → c.wp P (Post n η₀ S₀ w₀ Q) a w := by
    intro sz
    induction sz with
    | zero => intro b hb; cases b <;> simp at hb
    | succ sz ih =>
      intro b hb c Q E H η S w a hc hl hA hL
      cases c with
      | skip =>
        simp only [compS, Option.some.injEq] at hc; subst hc
        exact wp_skip (.normal hl hA hL)
      | region id ops d =>
        cases d with
        | true =>
          simp only [compS, Option.bind_eq_some_iff] at hc
          obtain ⟨bs, hbs, hc⟩ := hc
          split at hc
          · simp only [Option.map_eq_some_iff] at hc
            obtain ⟨r, hr, rfl⟩ := hc
            exact drawN_sound hbs hr hl hA hL fun E' H' η' S' w' a' k1 k2 k3 => .normal k1 k2 k3
          split at hc
          · simp only [Option.map_eq_some_iff] at hc
            obtain ⟨fs, hfs, rfl⟩ := hc
            exact drawF_sound hfs hl hA fun E' H' η' S' w' a' k1 k2 k3 => .normal k1 k2 (hL.trans k3)
          · simp only [Option.some.injEq] at hc
            subst hc
            exact draw_sound hbs hl hA fun E' H' η' S' w' a' k1 k2 k3 => .normal k1 k2 (hL.trans k3)
        | false =>
          simp only [compS, Option.map_eq_some_iff] at hc
          obtain ⟨ol, hol, rfl⟩ := hc
          exact wp_region_list (lops_sound hol hl hA fun E' H' η' S' w' a' k1 k2 k3 => .normal k1 k2 (hL.trans k3))
      | seq x y =>
        simp only [compS, Option.bind_eq_some_iff, Option.map_eq_some_iff] at hc
        obtain ⟨b1, h1, b2, h2, rfl⟩ := hc
        simp only [IR.seq.sizeOf_spec] at hb
        refine wp_seq (wp_mono (ih b1 (by omega) h1 hl hA hL) ?_)
        rintro e a' w' ⟨x', hx, E', H', η', S', hq, hA', hL'⟩
        cases e <;> simp only [exitX, Option.some.injEq] at hx <;> first | (cases hx; done) | skip
        · subst hx
          exact ih b2 (by omega) h2 hq hA' hL'
        all_goals (subst hx; exact ⟨_, rfl, E', H', η', S', hq, hA', hL'⟩)
      | cond cnd x y =>
        simp only [compS, Option.bind_eq_some_iff, Option.map_eq_some_iff] at hc
        obtain ⟨z, hz, b1, h1, b2, h2, rfl⟩ := hc
        simp only [IR.cond.sizeOf_spec] at hb
        simp only [lwp] at hl
        split at hl
        · rename_i t e
          have hv := compA_sound hz hA.env
          rw [e] at hv
          refine wp_cond_split hv.inv_v (fun ht => ?_) (fun ht => ?_)
          · exact ih b1 (by omega) h1 (hl.1 ht) hA hL
          · exact ih b2 (by omega) h2 (hl.2 ht) hA hL
        · exact hl.elim
      | block id x =>
        simp only [compS, Option.map_eq_some_iff] at hc
        obtain ⟨b1, h1, rfl⟩ := hc
        simp only [IR.block.sizeOf_spec] at hb
        refine wp_block (wp_mono (ih b1 (by omega) h1 hl hA hL) ?_)
        rintro e a' w' ⟨x', hx, E', H', η', S', hq, hA', hL'⟩
        cases e <;> simp only [exitX, Option.some.injEq] at hx <;> first | (cases hx; done) | skip
        · subst hx; exact ⟨_, rfl, E', H', η', S', hq, hA', hL'⟩
        · subst hx
          rename_i id'
          simp only [X.inBlock] at hq
          simp only [Exit.inBlock]
          by_cases hid : id' = id
          · rw [if_pos hid] at hq ⊢; exact ⟨_, rfl, E', H', η', S', hq, hA', hL'⟩
          · rw [if_neg hid] at hq ⊢; exact ⟨_, rfl, E', H', η', S', hq, hA', hL'⟩
        all_goals (subst hx; exact ⟨_, rfl, E', H', η', S', hq, hA', hL'⟩)
      | loop x =>
        simp only [compS, Option.map_eq_some_iff] at hc
        obtain ⟨b1, h1, rfl⟩ := hc
        simp only [IR.loop.sizeOf_spec] at hb
        obtain ⟨I, m, ⟨E₁, H₁, hw, hI⟩, hround⟩ := hl
        refine wp_loop_ghost (fun m a w => ∃ E H η S, I E H m ∧ At n η S w a E H ∧ Le η₀ S₀ w₀ η S w) m ?_ ?_
        · obtain ⟨ηw, Sw, k1, k2⟩ := hA.weakZ hL hw
          exact ⟨E₁, H₁, _, Sw, hI, k1, k2⟩
        · rintro m a w ⟨E, H, η, S, hI, hA, hL⟩
          refine wp_mono (ih b1 (by omega) h1 (hround E H m hI) hA hL) ?_
          rintro e a' w' ⟨x', hx, E', H', η', S', hq, hA', hL'⟩
          cases e <;> simp only [exitX, Option.some.injEq] at hx <;> first | (cases hx; done) | skip
          · subst hx
            obtain ⟨E'', H'', m', hw', hlt, hI'⟩ := hq
            obtain ⟨ηw, Sw, k1, k2⟩ := hA'.weakZ hL' hw'
            exact ⟨m', hlt, E'', H'', _, Sw, hI', k1, k2⟩
          all_goals (subst hx; exact ⟨_, rfl, E', H', η', S', hq, hA', hL'⟩)
      | rangeFunc f ps x y => simp [compS] at hc
      | exit id =>
        simp only [compS, Option.some.injEq] at hc; subst hc
        exact wp_exit ⟨_, rfl, E, H, η, S, hl, hA, hL⟩
      | scope x =>
        simp only [compS, Option.bind_eq_some_iff] at hc
        obtain ⟨b1, h1, hc⟩ := hc
        split at hc
        · simp at hc
        · rename_i l hlab
          simp only [Option.map_eq_some_iff] at hc
          obtain ⟨b2, hf, rfl⟩ := hc
          simp only [IR.scope.sizeOf_spec] at hb
          obtain ⟨r, hr1, hr2⟩ := findLab_ok h1 hf
          obtain ⟨I, hfirst, hpass⟩ := hl
          refine wp_scope_jumps l (fun a w => ∃ m E H η S, I E H m ∧ At n η S w a E H ∧ Le η₀ S₀ w₀ η S w) (fun a w => leastOf fun m => ∃ E H η S, I E H m ∧ At n η S w a E H ∧ Le η₀ S₀ w₀ η S w) hr1 ?_ ?_
          · refine wp_mono (ih b1 (by omega) h1 hfirst hA hL) ?_
            rintro e a' w' ⟨x', hx, E', H', η', S', hq, hA', hL'⟩
            cases e <;> simp only [exitX, Option.some.injEq] at hx <;> first | (cases hx; done) | skip
            case goto l' =>
              subst hx
              obtain ⟨rfl, E'', H'', m', hw', hI'⟩ := hq
              obtain ⟨ηw, Sw, k1, k2⟩ := hA'.weakZ hL' hw'
              exact ⟨rfl, m', E'', H'', _, Sw, hI', k1, k2⟩
            all_goals (subst hx; exact ⟨_, rfl, E', H', η', S', hq, hA', hL'⟩)
          · rintro a w hJ
            obtain ⟨hm, hmin⟩ := leastOf_spec hJ
            obtain ⟨E, H, η, S, hI, hA, hL⟩ := hm
            refine wp_mono (ih b2 (by omega) hr2 (hpass E H _ hI) hA hL) ?_
            rintro e a' w' ⟨x', hx, E', H', η', S', hq, hA', hL'⟩
            cases e <;> simp only [exitX, Option.some.injEq] at hx <;> first | (cases hx; done) | skip
            case goto l' =>
              subst hx
              obtain ⟨rfl, E'', H'', m', hw', hlt, hI'⟩ := hq
              obtain ⟨ηw, Sw, k1, k2⟩ := hA'.weakZ hL' hw'
              have hJ' : ∃ m E H η S, I E H m ∧ At n η S w' a' E H ∧ Le η₀ S₀ w₀ η S w' := ⟨m', E'', H'', _, Sw, hI', k1, k2⟩
              exact ⟨rfl, hJ', Nat.lt_of_le_of_lt ((leastOf_spec hJ').2 m' ⟨E'', H'', _, Sw, hI', k1, k2⟩) hlt⟩
            all_goals (subst hx; exact ⟨_, rfl, E', H', η', S', hq, hA', hL'⟩)
      | label l =>
        simp only [compS, Option.some.injEq] at hc; subst hc
        exact wp_label (.normal hl hA hL)
      | goto l =>
        simp only [compS, Option.some.injEq] at hc; subst hc
        exact wp_goto ⟨_, rfl, E, H, η, S, hl, hA, hL⟩
      | ret =>
        simp only [compS, Option.some.injEq] at hc; subst hc
        exact wp_ret ⟨_, rfl, E, H, η, S, hl, hA, hL⟩
      | refuse _ => simp [compS] at hc
  intro c b Q E H η S w a
  exact main (sizeOf b) b (Nat.le_refl _)

theorem lk_params : ∀ (ls : List L) (i t : Nat), lk (params i ls) t = if i ≤ t ∧ t < i + ls.length then ls.getD (t - i) .any else .any
  | [], i, t => by simp [params, lk]
  | l :: ls, i, t => by
    simp only [params, lk, lk_params ls (i + 1) t]
    by_cases h : t = i
    · subst h; simp
    · simp only [h, if_false]
      by_cases h2 : i + 1 ≤ t ∧ t < i + 1 + ls.length
      · rw [if_pos h2, if_pos ⟨by omega, by simp; omega⟩, show t - i = (t - (i + 1)) + 1 by omega, List.getD_cons_succ]
      · rw [if_neg h2, if_neg (by simp; omega)]

def resSem (tmps : Array Value) : ResultVar → Sem Value
  | .tmp t => pure (tmps.getD t undef)
  | .cell b t => do loadVar t (← asAddr (tmps.getD b undef))

theorem results_eq (fn : Func) (tmps : Array Value) : Go.results fn tmps = (do let vs ← fn.results.mapM (resSem tmps); pure (if h : vs.size = 1 then vs[0] else .tuple vs)) := by
  unfold Go.results
  congr 2

theorem resL_sound {n : Nat} {η S w a E H} {t : Nat} (hA : At n η S w a E H) : ∀ {rs : List ResultVar} {vs : List RV} {ls : List L}, resSlots P rs = some vs → resL E H vs = some ls →
    ∃ xs : List Value, (rs.mapM (resSem a.tmps)).run P w = .ok xs w ∧ xs.length = ls.length ∧ ∀ j, Rel S w η (xs.getD j undef) (ls.getD j .any)
  | [], vs, ls, h1, h2 => by
    simp [resSlots] at h1; subst h1
    simp [resL] at h2; subst h2
    exact ⟨[], by simp, rfl, fun j => by simp; exact .any _⟩
  | .tmp k :: rs, vs, ls, h1, h2 => by
    simp only [resSlots, Option.map_eq_some_iff] at h1
    obtain ⟨vs', h3, rfl⟩ := h1
    simp only [resL, Option.map_eq_some_iff] at h2
    obtain ⟨ls', h4, rfl⟩ := h2
    obtain ⟨xs, e1, e2, e3⟩ := resL_sound (t := t) hA h3 h4
    refine ⟨a.tmps.getD k undef :: xs, by simp only [List.mapM_cons, Sem.run_bind, resSem, Sem.run_pure, Result.andThen_ok, e1], by simp [e2], fun j => ?_⟩
    cases j with
    | zero => exact hA.env k
    | succ j => simpa using e3 j
  | .cell k ty :: rs, vs, ls, h1, h2 => by
    simp only [resSlots, Option.bind_eq_some_iff, Option.map_eq_some_iff] at h1
    obtain ⟨s, hs, ag, hg, vs', h3, rfl⟩ := h1
    simp only [resL, Option.bind_eq_some_iff, Option.map_eq_some_iff] at h2
    obtain ⟨l, hl, ls', h4, rfl⟩ := h2
    obtain ⟨xs, e1, e2, e3⟩ := resL_sound (t := t) hA h3 h4
    obtain ⟨v, f1, f2⟩ := load_fine (P := P) hA.conc hs hg (hA.env k) hl
    have f3 : (resSem a.tmps (.cell k ty)).run P w = .ok v w := by
      show (do loadVar ty (← asAddr (a.tmps.getD k undef)) : Sem Value).run P w = .ok v w
      unfold Instr.loadAt at f1
      unfold loadL at hl
      have hk := hA.env k
      split at hl
      · rename_i e; rw [e] at hk
        obtain ⟨b, o, cs, hb, -⟩ := hk.inv_pp
        rw [hb] at f1 ⊢
        simpa [Instr.sureAddr, asAddr] using f1
      · rename_i e; rw [e] at hk
        obtain ⟨b, hb, -⟩ := hk.inv_ptr
        rw [hb] at f1 ⊢
        simpa [Instr.sureAddr, asAddr] using f1
      · simp at hl
    refine ⟨v :: xs, by simp only [List.mapM_cons, Sem.run_bind, f3, Result.andThen_ok, e1, Sem.run_pure], by simp [e2], fun j => ?_⟩
    cases j with
    | zero => exact f2
    | succ j => simpa using e3 j


theorem run_results {n : Nat} {η S w a E H} {fn : Func} {vs : List RV} {ls : List L} (hA : At n η S w a E H) (h1 : resSlots P fn.results.toList = some vs) (h2 : resL E H vs = some ls) :
    ∃ v, (Go.results fn a.tmps).run P w = .ok v w ∧ Rel S w η v (res1 ls) := by
  obtain ⟨xs, e1, e2, e3⟩ := resL_sound (P := P) (t := 0) hA h1 h2
  have hrun : (Go.results fn a.tmps).run P w = .ok (if h : xs.toArray.size = 1 then xs.toArray[0] else .tuple xs.toArray) w := by
    simp only [results_eq, Sem.run_bind, Array.mapM_eq_mapM_toList, Sem.run_map, e1, Result.andThen_ok, Sem.run_pure]
  refine ⟨_, hrun, ?_⟩
  by_cases hz : xs.length = 1
  · obtain ⟨x, rfl⟩ : ∃ x, xs = [x] := List.length_eq_one_iff.1 hz
    obtain ⟨l, rfl⟩ : ∃ l, ls = [l] := List.length_eq_one_iff.1 (by omega)
    simpa [res1] using e3 0
  · rw [dif_neg (by simpa using hz)]
    have : res1 ls = .tup ls := by
      match ls, e2 with
      | [], _ => rfl
      | [l], e2 => exact absurd e2 hz
      | _ :: _ :: _, _ => rfl
    rw [this]
    exact .tup (by simpa using e2) fun j => by
      have := e3 j
      simpa [Array.getD_eq_getD_getElem?, List.getD] using this

/-- A call goes by the function's text. -/
theorem callAt_enterS {sel : Nat → Bool} {f : FuncId} {F : FnIR} (hF : compFS sel P f = some F) {ls : List L} {H : Heap} {K : L → Heap → Prop} (hn : ls.length ≤ F.n) (h : lwp P H.length F.body (fnPost F.res K) (params 0 ls) H) : callAt P f ls H K := by
  simp only [compFS, Option.bind_eq_some_iff] at hF
  obtain ⟨fn, hf, c, hb, hF⟩ := hF
  split at hF
  rotate_left
  · simp at hF
  rename_i hok
  simp only [Option.bind_eq_some_iff, Option.map_eq_some_iff] at hF
  obtain ⟨b, hc, r, hr, rfl⟩ := hF
  refine ⟨hok, fun η S w vs hC hv => ?_⟩
  obtain ⟨v1, v2⟩ := hv
  simp only at hn h
  refine calls_of_wp hf hb ?_
  have hA : At fn.ntmps η S w { tmps := vs ++ Array.replicate (fn.ntmps - vs.size) undef, defers := [] } (params 0 ls) H := by
    refine ⟨hC, fun t => ?_, by simp; omega, rfl⟩
    rw [lk_params]
    split
    · rename_i ht
      have := v2 t
      simp only [Nat.sub_zero]
      simpa [Array.getD_eq_getD_getElem?, Array.getElem?_append_left (show t < vs.size by omega)] using this
    · exact .any _
  refine wp_mono (lwp_sound hc (by rw [hC.len]; exact h) hA (Le.refl _ _ _)) ?_
  rintro e a' w' ⟨x, hx, E', H', η', S', hq, hA', hL'⟩
  cases e <;> simp only [exitX, Option.some.injEq] at hx <;> first | (cases hx; done) | skip
  · subst hx
    obtain ⟨ls', h1, h2⟩ := hq
    obtain ⟨v, r1, r2⟩ := run_results (P := P) hA' hr h1
    exact ⟨hA'.defers, v, r1, v, _, H', η', S', rfl, h2, r2, hA'.conc, hL'⟩
  · subst hx; exact hq.elim
  · subst hx; exact hq.elim
  · subst hx
    obtain ⟨ls', h1, h2⟩ := hq
    obtain ⟨v, r1, r2⟩ := run_results (P := P) hA' hr h1
    exact ⟨hA'.defers, v, r1, v, _, H', η', S', rfl, h2, r2, hA'.conc, hL'⟩

theorem callAt_enter {f : FuncId} {F : FnIR} (hF : compF P f = some F) {ls : List L} {H : Heap} {K : L → Heap → Prop} (hn : ls.length ≤ F.n) (h : lwp P H.length F.body (fnPost F.res K) (params 0 ls) H) : callAt P f ls H K := callAt_enterS hF hn h

theorem callAt_mono {f : FuncId} {ls : List L} {H : Heap} {K K' : L → Heap → Prop} (h : callAt P f ls H K) (hk : ∀ l H', K l H' → K' l H') : callAt P f ls H K' :=
  ⟨h.1, fun η S w vs hC hv => (h.2 η S w vs hC hv).mono fun _ _ ⟨v, l, H', η', S', e1, e2, e3⟩ => ⟨v, l, H', η', S', e1, hk _ _ e2, e3⟩⟩

end
end Lg
