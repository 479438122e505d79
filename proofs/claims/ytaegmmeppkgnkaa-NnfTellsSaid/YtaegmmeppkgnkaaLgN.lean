/- Soundness of code, of functions. -/
import Derived.Test.YtaegmmeppkgnkaaLgM3
import Derived.Test.YtaegmmeppkgnkaaLgQ7
namespace Lg
open Go

section
variable {ds : List Deferred} {ro : Option Nat} {P : Program}

theorem Post.normal {n η S w Q a' w' E' H' η' S'} (h : Q .normal E' H') (hA : At n ds η' S' w' a' E' H') (hL : Le η S w η' S' w') (hM : Marks w.heap.size ds η' S' w') : Post n η S w Q .normal a' w' := ⟨.normal, rfl, E', H', η', S', ds, h, hA, hL, hM⟩

theorem stepR_scope {b : Frame} {a : Act} {k : List Item} {cs : List Frame} {w : World} {c : Code} : step P (lone (b.atR a (.code (.scope c) :: k)) cs w) = .next (lone (b.atR a (.code c :: .inScope c :: k)) cs w) :=
  step_lone_go (by simp [stepG, stepG.exec, Frame.atR])
theorem stepR_inScope {b : Frame} {a : Act} {k : List Item} {cs : List Frame} {w : World} {c : Code} : step P (lone (b.atR a (.inScope c :: k)) cs w) = .next (lone (b.atR a k) cs w) :=
  step_lone_go (by simp [stepG, stepG.exec, Frame.atR])

/-- A scope within which the run jumps to one label (of whatever frame). -/
theorem wpIn_scope_jumps {F : Fence} {rm : Nat} {a : Act} {w : World} {Q : Exit → Act → World → Prop} {c rest : Code} (l : Nat) (J : Act → World → Prop) (μ : Act → World → Nat) (hf : findLabel c l = some rest)
    (first : c.wpIn F rm P (Exit.jump l J Q) a w)
    (pass : ∀ a w, J a w → rest.wpIn F rm P (Exit.jump l (fun a' w' => J a' w' ∧ μ a' w' < μ a w) Q) a w) : (Code.scope c).wpIn F rm P Q a w := by
  intro b k cs hro hb hr
  have hg : gotoIn l (.inScope c :: k) = some (.code rest :: .inScope c :: k) := by simp [gotoIn, hf]
  have off : ∀ {a₁ : Act} {w₁ : World}, StepsIn (Machine.fenced P F) P (lone (b.atR a₁ (.inScope c :: k)) cs w₁) (lone (b.atR a₁ k) cs w₁) := .one (fenced_calm hb hr rfl) stepR_inScope
  have key : ∀ n a w, μ a w = n → J a w → ∃ e a' w', Q e a' w' ∧ ArrivesIn (Machine.fenced P F) P (lone (b.atR a (.code rest :: .inScope c :: k)) cs w) b k cs e a' w' := by
    intro n
    induction n using Nat.strongRecOn with
    | _ n ih =>
      intro a w hn hJ
      obtain ⟨e, a₁, w₁, hq, harr⟩ := pass a w hJ b (.inScope c :: k) cs hro hb hr
      cases e with
      | normal => exact ⟨.normal, a₁, w₁, hq, StepsIn.trans harr off⟩
      | exit id => exact ⟨.exit id, a₁, w₁, hq, fun k' hk => harr.1 k' (by simp [exitTo, hk]), fun h1 h2 => harr.2 h1 (by simp [exitTo, h2])⟩
      | goto l' =>
        obtain ⟨rfl, hJ', hlt⟩ := hq
        obtain ⟨e₂, a₂, w₂, hq₂, harr₂⟩ := ih _ (by omega) a₁ w₁ rfl hJ'
        exact ⟨e₂, a₂, w₂, hq₂, .of_steps (harr.1 _ hg) harr₂⟩
      | ret => exact ⟨_, a₁, w₁, hq, harr⟩
      | panic ch => exact ⟨_, a₁, w₁, hq, harr⟩
      | outgrown => exact ⟨_, a₁, w₁, hq, harr⟩
  have head : ∀ {a : Act} {w : World}, StepsIn (Machine.fenced P F) P (lone (b.atR a (.code (.scope c) :: k)) cs w) (lone (b.atR a (.code c :: .inScope c :: k)) cs w) := .one (fenced_calm hb hr rfl) stepR_scope
  obtain ⟨e, a₁, w₁, hq, harr⟩ := first b (.inScope c :: k) cs hro hb hr
  cases e with
  | normal => exact ⟨.normal, a₁, w₁, hq, StepsIn.trans head (StepsIn.trans harr off)⟩
  | exit id => exact ⟨.exit id, a₁, w₁, hq, .of_steps head ⟨fun k' hk => harr.1 k' (by simp [exitTo, hk]), fun h1 h2 => harr.2 h1 (by simp [exitTo, h2])⟩⟩
  | goto l' =>
    obtain ⟨rfl, hJ'⟩ := hq
    obtain ⟨e₂, a₂, w₂, hq₂, harr₂⟩ := key _ a₁ w₁ rfl hJ'
    exact ⟨e₂, a₂, w₂, hq₂, .of_steps head (.of_steps (harr.1 _ hg) harr₂)⟩
  | ret => exact ⟨_, a₁, w₁, hq, .of_steps head harr⟩
  | panic ch => exact ⟨_, a₁, w₁, hq, .of_steps head harr⟩
  | outgrown => exact ⟨_, a₁, w₁, hq, .of_steps head harr⟩

/-- The world turned at a block that is no own row, and of no list. -/
theorem Conc.off {η : List Nat} {S : Nat → Prop} {w w' : World} {H : Heap} {D : Nat} (hC : Conc η S w H) (h1 : D ∉ η) (h2 : ¬ S D) (hs : w'.heap.size = w.heap.size) (ho : ∀ b, b ≠ D → w'.heap[b]? = w.heap[b]?) (hc : ∀ c t fr, w.heap[D]? ≠ some (.cells c t fr)) :
    Conc η S w' H ∧ ∀ x l, Rel S w η x l → Rel S w' η x l := by
  have hr : ∀ x l, Rel S w η x l → Rel S w' η x l := fun x l h => h.mono (fun _ h => h) (fun b hb => ho b (fun e => h2 (e ▸ hb))) (fun b c t fr hb => ⟨c, fr, by
    rw [ho b (fun e => by subst e; exact hc _ _ _ hb)]; exact hb, rfl⟩) (fun _ _ h => h)
  exact ⟨⟨hC.len, fun b hb => by rw [hs]; exact hC.lt b hb, fun b hb => by rw [hs]; exact hC.Slt b hb, hC.apart, fun k b ls e1 e2 => (hC.liveAt k b ls e1 e2).mono (ho b (fun e => h1 (e ▸ List.mem_of_getElem? e1))) hr⟩, hr⟩

/-- A new block that is no own row. -/
theorem Conc.side {η : List Nat} {S : Nat → Prop} {w : World} {H : Heap} (hC : Conc η S w H) (o : Obj) : Conc η S (w.alloc o) H ∧ Le η S w η S (w.alloc o) := by
  have old : ∀ b : Nat, b < w.heap.size → (w.alloc o).heap[b]? = w.heap[b]? := fun b hb => by
    show (w.heap.push o)[b]? = _
    rw [Array.getElem?_push]; simp [Nat.ne_of_lt hb]
  have hsz : (w.alloc o).heap.size = w.heap.size + 1 := by show (w.heap.push o).size = _; simp
  have lt_of : ∀ (b : Nat) o, w.heap[b]? = some o → b < w.heap.size := fun b o ho => by
    rcases Nat.lt_or_ge b w.heap.size with h | h
    · exact h
    · simp [Array.getElem?_eq_none h] at ho
  exact ⟨hC.frame (fun _ h => h) (fun b hb => by have := hC.Slt b hb; omega) (fun _ _ h => h) (by omega) old,
    ⟨⟨[], by simp, by simp⟩, fun _ h => h, fun b hb => old b (hC.Slt b hb), fun b c _ fr hb => ⟨c, fr, by rw [old b (lt_of b _ hb)]; exact hb, rfl⟩, by omega, fun b hb _ => old b hb, fun _ h => .inl h, rfl, rfl, rfl⟩⟩

theorem rangeK_spec {h : Nat} {Q : X → Env → Heap → Prop} {E : Env} {H : Heap} (hk : rangeK h Q E H) : ∃ rc st pd ts, H[h]? = some (some [.lp rc st pd ts]) ∧ st ≠ .busy ∧ pendQ Q pd E (H.set h none) := by
  unfold rangeK at hk
  generalize H[h]? = o at hk
  unfold rangeW at hk
  split at hk
  · exact ⟨_, _, _, _, rfl, hk⟩
  · exact hk.elim

theorem beginK_spec {k h : Nat} {bd : IR} {K : L → Heap → Prop} {E : Env} {H : Heap} (hk : beginK P k bd h K E H) : ∃ rc ts, H[h]? = some (some [.lp rc .ready none ts]) ∧ lwp P k bd (roundK h K) E (H.set h (some [.lp rc .busy none ts])) := by
  unfold beginK at hk
  generalize H[h]? = o at hk
  unfold beginW at hk
  split at hk
  · exact ⟨_, _, rfl, hk⟩
  · exact hk.elim

def roundP (h : Nat) (K : L → Heap → Prop) (rc : RC) (ts : List L) (H : Heap) : X → Prop
  | .normal => K (.v (.bool true)) (H.set h (some [.lp rc .ready none ts]))
  | .ret => K (.v (.bool false)) (H.set h (some [.lp rc .done (some .ret) ts]))
  | .exit id => K (.v (.bool false)) (H.set h (some [.lp rc .done (some (.exit id)) ts]))
  | .goto l => K (.v (.bool false)) (H.set h (some [.lp rc .done (some (.goto l)) ts]))

theorem roundK_spec {h : Nat} {K : L → Heap → Prop} {x : X} {E : Env} {H : Heap} (hk : roundK h K x E H) : ∃ rc ts, H[h]? = some (some [.lp rc .busy none ts]) ∧ roundP h K rc ts H x := by
  unfold roundK at hk
  generalize H[h]? = o at hk
  unfold roundW at hk
  split at hk
  · exact ⟨_, _, rfl, by cases x <;> exact hk⟩
  · exact hk.elim

/-- A loop over a function. -/
theorem range_sound {n : Nat} {η₀ : List Nat} {S₀ : Nat → Prop} {w₀ : World} {f : Operand} {g : A} {ps : Array Tmp} {x y : Code} {Q : X → Env → Heap → Prop} {E : Env} {H : Heap} {η : List Nat} {S : Nat → Prop} {w : World} {a : Act}
    (hg : compA f = some g) (hl : lwp P η₀.length (.range n g ⟨ps, x, y⟩) Q E H) (hA : At n ds η S w a E H) (hL : Le η₀ S₀ w₀ η S w) (hM : Marks w₀.heap.size ds η S w) : (Code.rangeFunc f ps x y).wpIn (FW none) 0 P (Post n η₀ S₀ w₀ Q) a w := by
  simp only [lwp] at hl
  split at hl
  rotate_left
  · exact hl.elim
  rename_i gf first cap e
  have hv := compA_sound hg hA.env
  rw [e] at hv
  obtain ⟨vf, vc, hval, z1, z2, r1, r2⟩ := hv.inv_fn
  refine wpIn_rangeFunc fun fn _ => ?_
  obtain ⟨hCA, hLA⟩ := hA.conc.side (.deferred (some []))
  let r : Loop := { state := .ready, pending := none, fn, tmps := a.tmps, params := ps, assign := x, body := y, defers := w.heap.size }
  have hsz : (w.alloc (.deferred (some []))).heap.size = w.heap.size + 1 := by show (w.heap.push _).size = _; simp
  obtain ⟨hCB, hLB⟩ := hCA.pushO (.loop r) [.lp ⟨ps, x, y⟩ .ready none ((List.range n).map (lk E))] (w' := (w.alloc (.deferred (some []))).alloc (.loop r))
    (fun hle => .inr (.inr ⟨_, _, _, _, rfl, r, by show ((w.alloc _).heap.push _)[(w.alloc _).heap.size]? = _; exact Array.getElem?_push_size, rfl, rfl, rfl, rfl, rfl, by simp [r, hA.size], fun j => by
      have h1 := ((hA.env j).le hLA).le hle
      by_cases hj : j < n
      · simpa [List.getD, List.getElem?_map, List.getElem?_range hj, r] using h1
      · rw [getD_of_ge _ _ (by simp; omega)]; exact .any _⟩)) rfl rfl rfl rfl
  rw [hsz] at hCB hLB
  have hLw := hLA.trans hLB
  obtain ⟨w1, hw1⟩ : ∃ w1, (w.alloc (.deferred (some []))).alloc (.loop r) = w1 := ⟨_, rfl⟩
  rw [hw1] at hCB hLB hLw
  have hD1 : w1.heap[w.heap.size]? = some (.deferred (some [])) := by
    subst hw1
    show ((w.alloc _).heap.push _)[w.heap.size]? = _
    rw [Array.getElem?_push, if_neg (by omega)]
    show (w.heap.push _)[w.heap.size]? = _
    simp
  have hcall := hl.2 (η ++ [w.heap.size + 1]) S w1 (vf ++ #[.func (.yield (w.heap.size + 1)) #[] #[]] ++ vc) hCB (by
    have k1 : RelAll (η ++ [w.heap.size + 1]) S w1 vf first := ⟨z1, fun j => (r1 j).le hLw⟩
    have k2 : RelAll (η ++ [w.heap.size + 1]) S w1 vc cap := ⟨z2, fun j => (r2 j).le hLw⟩
    refine (k1.append (ls := first) (ms := [.yl H.length]) ⟨rfl, fun j => ?_⟩).append k2
    cases j with
    | zero => exact .yl (by rw [← hA.conc.len]; simp)
    | succ j => rw [getD_of_ge _ _ (by simp)]; exact .any _)
  refine ⟨w.heap.size + 1, [{ target := .collected w.heap.size, args := #[] }], w1, { target := .fn (.func gf) vc, args := vf ++ #[.func (.yield (w.heap.size + 1)) #[] #[]] }, w1, gf, _, w1, ?_, ?_, fun _ _ => trivial, ?_, fun h => (by cases h),
    callsIn_wide.2 (hcall.mono ?_)⟩
  · rw [← hw1]; exact run_enterLoop_outer _ _ _ _ _
  · simp only [resolve, hval, Deferred.ofValue, Sem.run_pure]
    simp [Act.eval]
  · simp only [invoke]
    exact run_callFunc hl.1
  · rintro e' w3 ⟨v, l, H', η', S', rfl, hK, hR, hC3, hL3⟩
    obtain ⟨rc', st, pd, ts', hrow, hst, hpd⟩ := rangeK_spec hK
    have hη3 : η'[H.length]? = some (w.heap.size + 1) := hL3.get _ _ (by rw [← hA.conc.len]; simp)
    obtain ⟨r3, q1, q2, q3, -⟩ := hC3.lpAt hη3 hrow
    obtain ⟨hC4, hL4⟩ := hC3.lpset (st' := .exhausted) (pd' := r3.pending) hη3 hrow q1
    have hrun := run_endLoop (P := P) q1 (by rw [q2]; exact hst)
    have hL5 := hLw.trans (hL3.trans hL4)
    have hM5 : Marks w₀.heap.size ([{ target := .collected w.heap.size, args := #[] }] ++ ds) η' S' { w3 with heap := w3.heap.setIfInBounds (w.heap.size + 1) (.loop { r3 with state := .exhausted, pending := r3.pending }) } := by
      obtain ⟨Ds, d1, d2, d3⟩ := hM
      have hM1 : Marks w₀.heap.size ([{ target := .collected w.heap.size, args := #[] }] ++ ds) (η ++ [w.heap.size + 1]) S w1 := by
        refine ⟨w.heap.size :: Ds, List.nodup_cons.2 ⟨fun hm => ?_, d1⟩, by simp [d2], fun D hD => ?_⟩
        · have h0 := (d3 _ hm).2.1
          simp at h0
        · rcases List.mem_cons.1 hD with rfl | hD
          · refine ⟨hL.size, hD1, fun hm => ?_, fun hs => ?_⟩
            · rcases List.mem_append.1 hm with hm | hm
              · have := hA.conc.lt _ hm; omega
              · simp at hm
            · have := hA.conc.Slt _ hs; omega
          · obtain ⟨e0, e1, e2, e3⟩ := d3 D hD
            have hlt : D < w.heap.size := by
              rcases Nat.lt_or_ge D w.heap.size with h | h
              · exact h
              · simp [Array.getElem?_eq_none h] at e1
            refine ⟨e0, (hLw.frame D hlt e2).trans e1, fun hm => ?_, e3⟩
            rcases List.mem_append.1 hm with hm | hm
            · exact e2 hm
            · simp at hm; omega
      exact hM1.le (hL3.trans hL4)
    have hA5 : At n ([{ target := .collected w.heap.size, args := #[] }] ++ ds) η' S' { w3 with heap := w3.heap.setIfInBounds (w.heap.size + 1) (.loop { r3 with state := .exhausted, pending := r3.pending }) }
        { a with defers := [{ target := .collected w.heap.size, args := #[] }] ++ a.defers } E (H'.set H.length none) := by
      refine ⟨?_, fun t => (hA.env t).le hL5, hA.size, by rw [hA.defers]⟩
      have := hC4.drop H.length
      simpa using this
    obtain ⟨jump, hj⟩ : ∃ j, j = r3.pending := ⟨_, rfl⟩
    refine ⟨jump, _, by rw [hj]; exact hrun, ?_⟩
    rw [← q3, ← hj] at hpd
    have fin : ∀ {x : X} {e : Exit}, exitX e = some x → Q x E (H'.set H.length none) → Post n η₀ S₀ w₀ Q e { a with defers := [{ target := .collected w.heap.size, args := #[] }] ++ a.defers } { w3 with heap := w3.heap.setIfInBounds (w.heap.size + 1) (.loop { r3 with state := .exhausted, pending := r3.pending }) } :=
      fun hx hq => ⟨_, hx, _, _, _, _, _, hq, hA5, hL.trans hL5, hM5⟩
    clear hj
    cases jump with
    | none => exact fin (e := .normal) rfl hpd
    | some c =>
      cases c with
      | ret => exact wpIn_ret (fin (e := .ret) rfl hpd)
      | exit id => exact wpIn_exit (fin (e := .exit id) rfl hpd)
      | goto l => exact wpIn_goto (fin (e := .goto l) rfl hpd)
      | _ => exact hpd.elim

theorem lwp_sound {sel : Nat → Bool} {n : Nat} {η₀ : List Nat} {S₀ : Nat → Prop} {w₀ : World} : ∀ {c : Code} {ds : List Deferred} {b : IR} {Q : X → Env → Heap → Prop} {E : Env} {H : Heap} {η : List Nat} {S : Nat → Prop} {w : World} {a : Act},
    compS sel P n c = some b → lwp P η₀.length b Q E H → At n ds η S w a E H → Le η₀ S₀ w₀ η S w → Marks w₀.heap.size ds η S w → (ro = none ∨ noRange b = true) → c.wpIn (FW ro) 0 P (Post n η₀ S₀ w₀ Q) a w := by
  -- by the size of the small code, for a scope's second run is of another piece
  have main : ∀ (sz : Nat) (b : IR), sizeOf b ≤ sz → ∀ {c : Code} {ds : List Deferred} {Q : X → Env → Heap → Prop} {E : Env} {H : Heap} {η : List Nat} {S : Nat → Prop} {w : World} {a : Act},
      compS sel P n c = some b → lwp P η₀.length b Q E H → At n ds η S w a E H → Le η₀ S₀ w₀ η S w → Marks w₀.heap.size ds η S w → (ro = none ∨ noRange b = true) → c.wpIn (FW ro) 0 P (Post n η₀ S₀ w₀ Q) a w := by
    intro sz
    induction sz with
    | zero => intro b hb; cases b <;> simp at hb
    | succ sz ih =>
      intro b hb c ds Q E H η S w a hc hl hA hL hM hN
      cases c with
      | skip =>
        simp only [compS, Option.some.injEq] at hc; subst hc
        exact wpIn_skip (.normal hl hA hL hM)
      | region id ops d =>
        cases d with
        | true =>
          simp only [compS, Option.bind_eq_some_iff] at hc
          obtain ⟨bs, hbs, hc⟩ := hc
          split at hc
          · simp only [Option.map_eq_some_iff] at hc
            obtain ⟨r, hr, rfl⟩ := hc
            exact drawN_sound hbs hr hl hA hL fun E' H' η' S' w' a' k1 k2 k3 k4 => .normal k1 k2 k3 (k4 hM)
          split at hc
          · simp only [Option.map_eq_some_iff] at hc
            obtain ⟨fs, hfs, rfl⟩ := hc
            exact drawF_sound hfs hl hA fun E' H' η' S' w' a' k1 k2 k3 => .normal k1 k2 (hL.trans k3) (hM.le k3)
          · simp only [Option.some.injEq] at hc
            subst hc
            exact draw_sound hbs hl hA fun E' H' η' S' w' a' k1 k2 k3 => .normal k1 k2 (hL.trans k3) (hM.le k3)
        | false =>
          simp only [compS, Option.map_eq_some_iff] at hc
          obtain ⟨ol, hol, rfl⟩ := hc
          exact wpIn_region_list (lops_sound hol hl hA fun E' H' η' S' w' a' k1 k2 k3 => .normal k1 k2 (hL.trans k3) (hM.le k3))
      | seq x y =>
        simp only [compS, Option.bind_eq_some_iff, Option.map_eq_some_iff] at hc
        obtain ⟨b1, h1, b2, h2, rfl⟩ := hc
        simp only [IR.seq.sizeOf_spec] at hb
        refine wpIn_seq (wpIn_mono (ih b1 (by omega) h1 hl hA hL hM (hN.imp_right fun h => by simp only [noRange, Bool.and_eq_true] at h; exact h.1)) ?_)
        rintro e a' w' ⟨x', hx, E', H', η', S', ds', hq, hA', hL', hM'⟩
        cases e <;> simp only [exitX, Option.some.injEq] at hx <;> first | (cases hx; done) | skip
        · subst hx
          exact ih b2 (by omega) h2 hq hA' hL' hM' (hN.imp_right fun h => by simp only [noRange, Bool.and_eq_true] at h; exact h.2)
        all_goals (subst hx; exact ⟨_, rfl, E', H', η', S', ds', hq, hA', hL', hM'⟩)
      | cond cnd x y =>
        simp only [compS, Option.bind_eq_some_iff, Option.map_eq_some_iff] at hc
        obtain ⟨z, hz, b1, h1, b2, h2, rfl⟩ := hc
        simp only [IR.cond.sizeOf_spec] at hb
        simp only [lwp] at hl
        split at hl
        · rename_i t e
          have hv := compA_sound hz hA.env
          rw [e] at hv
          refine wpIn_cond_split hv.inv_v (fun ht => ?_) (fun ht => ?_)
          · exact ih b1 (by omega) h1 (hl.1 ht) hA hL hM (hN.imp_right fun h => by simp only [noRange, Bool.and_eq_true] at h; exact h.1)
          · exact ih b2 (by omega) h2 (hl.2 ht) hA hL hM (hN.imp_right fun h => by simp only [noRange, Bool.and_eq_true] at h; exact h.2)
        · exact hl.elim
      | block id x =>
        simp only [compS, Option.map_eq_some_iff] at hc
        obtain ⟨b1, h1, rfl⟩ := hc
        simp only [IR.block.sizeOf_spec] at hb
        refine wpIn_block (wpIn_mono (ih b1 (by omega) h1 hl hA hL hM (hN.imp_right fun h => by simpa only [noRange] using h)) ?_)
        rintro e a' w' ⟨x', hx, E', H', η', S', ds', hq, hA', hL', hM'⟩
        cases e <;> simp only [exitX, Option.some.injEq] at hx <;> first | (cases hx; done) | skip
        · subst hx; exact ⟨_, rfl, E', H', η', S', ds', hq, hA', hL', hM'⟩
        · subst hx
          rename_i id'
          simp only [X.inBlock] at hq
          simp only [Exit.inBlock]
          by_cases hid : id' = id
          · rw [if_pos hid] at hq ⊢; exact ⟨_, rfl, E', H', η', S', ds', hq, hA', hL', hM'⟩
          · rw [if_neg hid] at hq ⊢; exact ⟨_, rfl, E', H', η', S', ds', hq, hA', hL', hM'⟩
        all_goals (subst hx; exact ⟨_, rfl, E', H', η', S', ds', hq, hA', hL', hM'⟩)
      | loop x =>
        simp only [compS, Option.map_eq_some_iff] at hc
        obtain ⟨b1, h1, rfl⟩ := hc
        simp only [IR.loop.sizeOf_spec] at hb
        obtain ⟨I, m, ⟨E₁, H₁, hw, hI⟩, hround⟩ := hl
        refine wpIn_loop_ghost (fun m a w => ∃ E H η S ds, I E H m ∧ At n ds η S w a E H ∧ Le η₀ S₀ w₀ η S w ∧ Marks w₀.heap.size ds η S w) m ?_ ?_
        · obtain ⟨ηw, Sw, k1, k2, k3, k4⟩ := hA.weakZ hL hw
          exact ⟨E₁, H₁, _, Sw, ds, hI, k1, k2, hM.sub k3 k4⟩
        · rintro m a w ⟨E, H, η, S, ds, hI, hA, hL, hM⟩
          refine wpIn_mono (ih b1 (by omega) h1 (hround E H m hI) hA hL hM (hN.imp_right fun h => by simpa only [noRange] using h)) ?_
          rintro e a' w' ⟨x', hx, E', H', η', S', ds', hq, hA', hL', hM'⟩
          cases e <;> simp only [exitX, Option.some.injEq] at hx <;> first | (cases hx; done) | skip
          · subst hx
            obtain ⟨E'', H'', m', hw', hlt, hI'⟩ := hq
            obtain ⟨ηw, Sw, k1, k2, k3, k4⟩ := hA'.weakZ hL' hw'
            exact ⟨m', hlt, E'', H'', _, Sw, ds', hI', k1, k2, hM'.sub k3 k4⟩
          all_goals (subst hx; exact ⟨_, rfl, E', H', η', S', ds', hq, hA', hL', hM'⟩)
      | rangeFunc f ps x y =>
        simp only [compS, Option.map_eq_some_iff] at hc
        obtain ⟨g, hg, rfl⟩ := hc
        rcases hN with hN | hN
        rotate_left
        · simp [noRange] at hN
        subst hN
        exact range_sound hg hl hA hL hM
      | exit id =>
        simp only [compS, Option.some.injEq] at hc; subst hc
        exact wpIn_exit ⟨_, rfl, E, H, η, S, ds, hl, hA, hL, hM⟩
      | scope x =>
        simp only [compS, Option.bind_eq_some_iff] at hc
        obtain ⟨b1, h1, hc⟩ := hc
        split at hc
        · simp at hc
        · rename_i l hlab
          simp only [Option.map_eq_some_iff] at hc
          obtain ⟨b2, hf, rfl⟩ := hc
          simp only [IR.scope.sizeOf_spec] at hb
          obtain ⟨r, hr1, hr2⟩ := findLab_ok h1 hf
          obtain ⟨I, hfirst, hpass⟩ := hl
          refine wpIn_scope_jumps l (fun a w => ∃ m E H η S ds, I E H m ∧ At n ds η S w a E H ∧ Le η₀ S₀ w₀ η S w ∧ Marks w₀.heap.size ds η S w) (fun a w => leastOf fun m => ∃ E H η S ds, I E H m ∧ At n ds η S w a E H ∧ Le η₀ S₀ w₀ η S w ∧ Marks w₀.heap.size ds η S w) hr1 ?_ ?_
          · refine wpIn_mono (ih b1 (by omega) h1 hfirst hA hL hM (hN.imp_right fun h => by simp only [noRange, Bool.and_eq_true] at h; exact h.1)) ?_
            rintro e a' w' ⟨x', hx, E', H', η', S', ds', hq, hA', hL', hM'⟩
            cases e <;> simp only [exitX, Option.some.injEq] at hx <;> first | (cases hx; done) | skip
            case goto l' =>
              subst hx
              obtain ⟨rfl, E'', H'', m', hw', hI'⟩ := hq
              obtain ⟨ηw, Sw, k1, k2, k3, k4⟩ := hA'.weakZ hL' hw'
              exact ⟨rfl, m', E'', H'', _, Sw, ds', hI', k1, k2, hM'.sub k3 k4⟩
            all_goals (subst hx; exact ⟨_, rfl, E', H', η', S', ds', hq, hA', hL', hM'⟩)
          · rintro a w hJ
            obtain ⟨hm, hmin⟩ := leastOf_spec hJ
            obtain ⟨E, H, η, S, ds, hI, hA, hL, hM⟩ := hm
            refine wpIn_mono (ih b2 (by omega) hr2 (hpass E H _ hI) hA hL hM (hN.imp_right fun h => by simp only [noRange, Bool.and_eq_true] at h; exact h.2)) ?_
            rintro e a' w' ⟨x', hx, E', H', η', S', ds', hq, hA', hL', hM'⟩
            cases e <;> simp only [exitX, Option.some.injEq] at hx <;> first | (cases hx; done) | skip
            case goto l' =>
              subst hx
              obtain ⟨rfl, E'', H'', m', hw', hlt, hI'⟩ := hq
              obtain ⟨ηw, Sw, k1, k2, k3, k4⟩ := hA'.weakZ hL' hw'
              have hJ' : ∃ m E H η S ds, I E H m ∧ At n ds η S w' a' E H ∧ Le η₀ S₀ w₀ η S w' ∧ Marks w₀.heap.size ds η S w' := ⟨m', E'', H'', _, Sw, ds', hI', k1, k2, hM'.sub k3 k4⟩
              exact ⟨rfl, hJ', Nat.lt_of_le_of_lt ((leastOf_spec hJ').2 m' ⟨E'', H'', _, Sw, ds', hI', k1, k2, hM'.sub k3 k4⟩) hlt⟩
            all_goals (subst hx; exact ⟨_, rfl, E', H', η', S', ds', hq, hA', hL', hM'⟩)
      | label l =>
        simp only [compS, Option.some.injEq] at hc; subst hc
        exact wpIn_label (.normal hl hA hL hM)
      | goto l =>
        simp only [compS, Option.some.injEq] at hc; subst hc
        exact wpIn_goto ⟨_, rfl, E, H, η, S, ds, hl, hA, hL, hM⟩
      | ret =>
        simp only [compS, Option.some.injEq] at hc; subst hc
        exact wpIn_ret ⟨_, rfl, E, H, η, S, ds, hl, hA, hL, hM⟩
      | refuse _ => simp [compS] at hc
  intro c ds b Q E H η S w a
  exact main (sizeOf b) b (Nat.le_refl _)

theorem lk_params : ∀ (ls : List L) (i t : Nat), lk (params i ls) t = if i ≤ t ∧ t < i + ls.length then ls.getD (t - i) .any else .any
  | [], i, t => by simp [params, lk]
  | l :: ls, i, t => by
    simp only [params, lk, lk_params ls (i + 1) t]
    by_cases h : t = i
    · subst h; simp
    · simp only [h, if_false]
      by_cases h2 : i + 1 ≤ t ∧ t < i + 1 + ls.length
      · rw [if_pos h2, if_pos ⟨by omega, by simp; omega⟩, show t - i = (t - (i + 1)) + 1 by omega, List.getD_cons_succ]
      · rw [if_neg h2, if_neg (by simp; omega)]

def resSem (tmps : Array Value) : ResultVar → Sem Value
  | .tmp t => pure (tmps.getD t undef)
  | .cell b t => do loadVar t (← asAddr (tmps.getD b undef))

theorem results_eq (fn : Func) (tmps : Array Value) : Go.results fn tmps = (do let vs ← fn.results.mapM (resSem tmps); pure (if h : vs.size = 1 then vs[0] else .tuple vs)) := by
  unfold Go.results
  congr 2

theorem resL_sound {n : Nat} {η S w a E H} {t : Nat} (hA : At n ds η S w a E H) : ∀ {rs : List ResultVar} {vs : List RV} {ls : List L}, resSlots P rs = some vs → resL E H vs = some ls →
    ∃ xs : List Value, (rs.mapM (resSem a.tmps)).run P w = .ok xs w ∧ xs.length = ls.length ∧ ∀ j, Rel S w η (xs.getD j undef) (ls.getD j .any)
  | [], vs, ls, h1, h2 => by
    simp [resSlots] at h1; subst h1
    simp [resL] at h2; subst h2
    exact ⟨[], by simp, rfl, fun j => by simp; exact .any _⟩
  | .tmp k :: rs, vs, ls, h1, h2 => by
    simp only [resSlots, Option.map_eq_some_iff] at h1
    obtain ⟨vs', h3, rfl⟩ := h1
    simp only [resL, Option.map_eq_some_iff] at h2
    obtain ⟨ls', h4, rfl⟩ := h2
    obtain ⟨xs, e1, e2, e3⟩ := resL_sound (t := t) hA h3 h4
    refine ⟨a.tmps.getD k undef :: xs, by simp only [List.mapM_cons, Sem.run_bind, resSem, Sem.run_pure, Result.andThen_ok, e1], by simp [e2], fun j => ?_⟩
    cases j with
    | zero => exact hA.env k
    | succ j => simpa using e3 j
  | .cell k ty :: rs, vs, ls, h1, h2 => by
    simp only [resSlots, Option.bind_eq_some_iff, Option.map_eq_some_iff] at h1
    obtain ⟨s, hs, ag, hg, vs', h3, rfl⟩ := h1
    simp only [resL, Option.bind_eq_some_iff, Option.map_eq_some_iff] at h2
    obtain ⟨l, hl, ls', h4, rfl⟩ := h2
    obtain ⟨xs, e1, e2, e3⟩ := resL_sound (t := t) hA h3 h4
    obtain ⟨v, f1, f2⟩ := load_fine (P := P) hA.conc hs hg (hA.env k) hl
    have f3 : (resSem a.tmps (.cell k ty)).run P w = .ok v w := by
      show (do loadVar ty (← asAddr (a.tmps.getD k undef)) : Sem Value).run P w = .ok v w
      unfold Instr.loadAt at f1
      unfold loadL at hl
      have hk := hA.env k
      split at hl
      · rename_i e; rw [e] at hk
        obtain ⟨b, o, cs, hb, -⟩ := hk.inv_pp
        rw [hb] at f1 ⊢
        simpa [Instr.sureAddr, asAddr] using f1
      · rename_i e; rw [e] at hk
        obtain ⟨b, hb, -⟩ := hk.inv_ptr
        rw [hb] at f1 ⊢
        simpa [Instr.sureAddr, asAddr] using f1
      · simp at hl
    refine ⟨v :: xs, by simp only [List.mapM_cons, Sem.run_bind, f3, Result.andThen_ok, e1, Sem.run_pure], by simp [e2], fun j => ?_⟩
    cases j with
    | zero => exact f2
    | succ j => simpa using e3 j


theorem run_results {n : Nat} {η S w a E H} {fn : Func} {vs : List RV} {ls : List L} (hA : At n ds η S w a E H) (h1 : resSlots P fn.results.toList = some vs) (h2 : resL E H vs = some ls) :
    ∃ v, (Go.results fn a.tmps).run P w = .ok v w ∧ Rel S w η v (res1 ls) := by
  obtain ⟨xs, e1, e2, e3⟩ := resL_sound (P := P) (t := 0) hA h1 h2
  have hrun : (Go.results fn a.tmps).run P w = .ok (if h : xs.toArray.size = 1 then xs.toArray[0] else .tuple xs.toArray) w := by
    simp only [results_eq, Sem.run_bind, Array.mapM_eq_mapM_toList, Sem.run_map, e1, Result.andThen_ok, Sem.run_pure]
  refine ⟨_, hrun, ?_⟩
  by_cases hz : xs.length = 1
  · obtain ⟨x, rfl⟩ : ∃ x, xs = [x] := List.length_eq_one_iff.1 hz
    obtain ⟨l, rfl⟩ : ∃ l, ls = [l] := List.length_eq_one_iff.1 (by omega)
    simpa [res1] using e3 0
  · rw [dif_neg (by simpa using hz)]
    have : res1 ls = .tup ls := by
      match ls, e2 with
      | [], _ => rfl
      | [l], e2 => exact absurd e2 hz
      | _ :: _ :: _, _ => rfl
    rw [this]
    exact .tup (by simpa using e2) fun j => by
      have := e3 j
      simpa [Array.getD_eq_getD_getElem?, List.getD] using this

/-- The way out of a function: the marks are taken, then the results. -/
theorem leavesM {n : Nat} {η₀ : List Nat} {S₀ : Nat → Prop} {w₀ : World} {fn : Func} {r : List RV} {ls : List L} {K : L → Heap → Prop} {E : Env} {H : Heap} (hr : resSlots P fn.results.toList = some r) (h1 : resL E H r = some ls) (h2 : K (res1 ls) H) :
    ∀ {ds : List Deferred} {η : List Nat} {S : Nat → Prop} {w : World} {a : Act}, At n ds η S w a E H → Le η₀ S₀ w₀ η S w → Marks w₀.heap.size ds η S w →
    LeavesInM Fence.wide 0 P fn a.tmps (fun e w' => ∃ v l H' η' S', e = .returned v ∧ K l H' ∧ Rel S' w' η' v l ∧ Conc η' S' w' H' ∧ Le η₀ S₀ w₀ η' S' w') a.defers .returning w := by
  intro ds η S w a hA hL hM
  obtain ⟨Ds, d1, d2, d3⟩ := hM
  induction Ds generalizing w ds a with
  | nil =>
    rw [hA.defers, d2]
    obtain ⟨v, r1, r2⟩ := run_results (P := P) hA hr h1
    exact ⟨v, r1, v, _, H, η, S, rfl, h2, r2, hA.conc, hL⟩
  | cons D Ds ih =>
    rw [hA.defers, d2]
    obtain ⟨hlo, hD, hn, hS⟩ := d3 D (by simp)
    have hs : (w.putObj D (.deferred none)).heap.size = w.heap.size := by simp [World.putObj]
    have ho : ∀ b, b ≠ D → (w.putObj D (.deferred none)).heap[b]? = w.heap[b]? := fun b hb => World.putObj_heap_other hb
    obtain ⟨hC', hR'⟩ := hA.conc.off (w' := w.putObj D (.deferred none)) hn hS hs ho (fun c t fr e => by rw [hD] at e; cases e)
    have hL' : Le η₀ S₀ w₀ η S (w.putObj D (.deferred none)) := by
      refine ⟨hL.pre, hL.sub, fun b hb => (ho b fun e => hS (e ▸ hL.sub b hb)).trans (hL.keep b hb), fun b c t fr hb => ?_, by rw [hs]; exact hL.size, fun b hb hm => (ho b (by omega)).trans (hL.frame b hb hm), hL.new, hL.os, hL.tape, hL.output⟩
      have hlt : b < w₀.heap.size := by
        rcases Nat.lt_or_ge b w₀.heap.size with h | h
        · exact h
        · simp [Array.getElem?_eq_none h] at hb
      rw [ho b (by omega)]
      exact hL.shape b c t fr hb
    refine ⟨by simp, .inl ⟨D, _, rfl, run_takeDeferred hD, ?_⟩⟩
    have hA' : At n (Ds.map fun D => { target := .collected D, args := #[] }) η S (w.putObj D (.deferred none)) { a with defers := Ds.map fun D => { target := .collected D, args := #[] } } E H :=
      ⟨hC', fun t => hR' _ _ (hA.env t), hA.size, rfl⟩
    exact ih hA' hL' (List.nodup_cons.1 d1).2 rfl fun D' hD' => by
      obtain ⟨e0, e1, e2, e3⟩ := d3 D' (List.mem_cons_of_mem _ hD')
      exact ⟨e0, (ho D' fun e => (List.nodup_cons.1 d1).1 (e ▸ hD')).trans e1, e2, e3⟩

/-- A call goes by the function's text. -/
theorem callAt_enterS {sel : Nat → Bool} {f : FuncId} {F : FnIR} (hF : compFS sel P f = some F) {ls : List L} {H : Heap} {K : L → Heap → Prop} (hn : ls.length ≤ F.n) (h : lwp P H.length F.body (fnPost F.res K) (params 0 ls) H) : callAt P f ls H K := by
  simp only [compFS, Option.bind_eq_some_iff] at hF
  obtain ⟨fn, hf, c, hb, hF⟩ := hF
  split at hF
  rotate_left
  · simp at hF
  rename_i hok
  simp only [Option.bind_eq_some_iff, Option.map_eq_some_iff] at hF
  obtain ⟨b, hc, r, hr, rfl⟩ := hF
  refine ⟨hok, fun η S w vs hC hv => ?_⟩
  obtain ⟨v1, v2⟩ := hv
  simp only at hn h
  refine callsIn_wide.1 (callsIn_of_wp_marks (F := Fence.wide) (n := 0) hf hb trivial ?_ rfl)
  have hA : At fn.ntmps [] η S w { tmps := vs ++ Array.replicate (fn.ntmps - vs.size) undef, defers := [] } (params 0 ls) H := by
    refine ⟨hC, fun t => ?_, by simp; omega, rfl⟩
    rw [lk_params]
    split
    · rename_i ht
      have := v2 t
      simp only [Nat.sub_zero]
      simpa [Array.getD_eq_getD_getElem?, Array.getElem?_append_left (show t < vs.size by omega)] using this
    · exact .any _
  refine wpIn_mono (lwp_sound (ro := none) hc (by rw [hC.len]; exact h) hA (Le.refl _ _ _) Marks.nil (.inl rfl)) ?_
  rintro e a' w' ⟨x, hx, E', H', η', S', ds', hq, hA', hL', hM'⟩
  cases e <;> simp only [exitX, Option.some.injEq] at hx <;> first | (cases hx; done) | skip
  · subst hx
    obtain ⟨ls', h1, h2⟩ := hq
    exact leavesM hr h1 h2 hA' hL' hM'
  · subst hx; exact hq.elim
  · subst hx; exact hq.elim
  · subst hx
    obtain ⟨ls', h1, h2⟩ := hq
    exact leavesM hr h1 h2 hA' hL' hM'

theorem callAt_enter {f : FuncId} {F : FnIR} (hF : compF P f = some F) {ls : List L} {H : Heap} {K : L → Heap → Prop} (hn : ls.length ≤ F.n) (h : lwp P H.length F.body (fnPost F.res K) (params 0 ls) H) : callAt P f ls H K := callAt_enterS hF hn h

theorem callAt_mono {f : FuncId} {ls : List L} {H : Heap} {K K' : L → Heap → Prop} (h : callAt P f ls H K) (hk : ∀ l H', K l H' → K' l H') : callAt P f ls H K' :=
  ⟨h.1, fun η S w vs hC hv => (h.2 η S w vs hC hv).mono fun _ _ ⟨v, l, H', η', S', e1, e2, e3⟩ => ⟨v, l, H', η', S', e1, hk _ _ e2, e3⟩⟩

theorem rel_round {η : List Nat} {S : Nat → Prop} {w : World} : ∀ {ps : List Nat} {vs : List Value} {ls : List L} {tmps : Array Value} {E : Env}, (ps.all fun p => decide (p < tmps.size)) = true → REnv η S w tmps E → (∀ j, Rel S w η (vs.getD j undef) (ls.getD j .any)) → vs.length = ps.length → ls.length = ps.length →
    REnv η S w ((ps.zip vs).foldl (fun tmps p => tmps.setIfInBounds p.1 p.2) tmps) (roundE ps ls E) ∧ ((ps.zip vs).foldl (fun tmps p => tmps.setIfInBounds p.1 p.2) tmps).size = tmps.size
  | [], _, _, tmps, E, _, hE, _, _, _ => by simpa [roundE] using hE
  | p :: ps, v :: vs, l :: ls, tmps, E, hp, hE, hv, h1, h2 => by
    simp only [List.all_cons, Bool.and_eq_true, decide_eq_true_eq] at hp
    have := rel_round (ps := ps) (vs := vs) (ls := ls) (tmps := tmps.setIfInBounds p v) (E := (p, l) :: E) (by simpa using hp.2) (hE.put hp.1 (by simpa using hv 0)) (fun j => by simpa using hv (j + 1)) (by simpa using h1) (by simpa using h2)
    simp only [List.zip_cons_cons, List.foldl_cons, roundE]
    refine ⟨this.1, ?_⟩
    rw [this.2]; simp
  | _ :: _, [], _, _, _, _, _, _, h1, _ => by simp at h1
  | _ :: _, _ :: _, [], _, _, _, _, _, _, h2 => by simp at h2

/-- A round of a loop over a function, by the loop's code. -/
theorem callY_of {sel : Nat → Bool} {h : Nat} {ls : List L} {H : Heap} {K : L → Heap → Prop} {rc : RC} {ps : List Nat} {as bd : IR} {ts : List L} (hH : H[h]? = some (some [.lp rc .ready none ts])) (hok : RcOK sel P ts.length rc ps as bd) (hlen : ls.length = ps.length)
    (hw : lwp P H.length as (X.then (beginK P H.length bd h K) noX) (roundE ps ls (params 0 ts)) H) :
    callY P h ls H K := by
  intro η S w vs hC hv
  obtain ⟨o1, o2, o3, o4, o5, o6⟩ := hok
  have hlt : h < η.length := by rw [hC.len]; exact (List.getElem?_eq_some_iff.1 hH).1
  have hη : η[h]? = some η[h] := List.getElem?_eq_getElem hlt
  generalize η[h] = b at hη
  obtain ⟨r, q1, q2, q3, q4, q5, q6, q7, q8⟩ := hC.lpAt hη hH
  have hsz : vs.size = r.params.size := by rw [q4, ← Array.length_toList (xs := rc.params), o1, ← hlen]; exact hv.1
  refine ⟨b, hη, _, _, _, _, run_yield q1 hsz, roundIn_of_wpIn trivial ?_⟩
  show Code.wpIn (FW (some b)) 0 P _ _ _ _
  have hE0 : REnv η S w r.tmps (params 0 ts) := fun t => by
    rw [lk_params]
    split
    · rename_i ht; simpa using q8 t
    · exact .any _
  obtain ⟨hE, hEs⟩ := rel_round (ps := ps) (vs := vs.toList) (ls := ls) (by rw [q7]; exact o2) hE0 (fun j => by have := hv.2 j; simpa [Array.getD_eq_getD_getElem?, List.getD] using this) (by rw [Array.length_toList, hv.1, hlen]) hlen
  have hzip : (r.params.zip vs).foldl (fun tmps (t, a) => tmps.setIfInBounds t a) r.tmps = (ps.zip vs.toList).foldl (fun tmps p => tmps.setIfInBounds p.1 p.2) r.tmps := by
    rw [← Array.foldl_toList, Array.toList_zip, q4, o1]
  rw [hzip]
  have hA : At ts.length [] η S w { tmps := (ps.zip vs.toList).foldl (fun tmps p => tmps.setIfInBounds p.1 p.2) r.tmps, defers := [] } (roundE ps ls (params 0 ts)) H :=
    ⟨hC, hE, by rw [hEs, q7], rfl⟩
  rw [q5, q6]
  refine wpIn_mono (lwp_sound (ro := some b) o3 (by rw [hC.len]; exact hw) hA (Le.refl _ _ _) Marks.nil (.inr o5)) ?_
  rintro e a1 w1 ⟨x, hx, E1, H1, η1, S1, ds1, hq, hA1, hL1, hM1⟩
  cases e <;> simp only [exitX, Option.some.injEq] at hx <;> first | (cases hx; done) | skip
  rotate_left
  all_goals first | (subst hx; exact hq.elim) | skip
  subst hx
  obtain ⟨rc1, ts1, hH1, hbd⟩ := beginK_spec hq
  have hη1 := hL1.get _ _ hη
  obtain ⟨r1, u1, u2, u3, -⟩ := hA1.conc.lpAt hη1 hH1
  obtain ⟨hC2, hL2⟩ := hA1.conc.lpset (st' := .busy) (pd' := none) hη1 hH1 u1
  have hbeg := run_beginRound (P := P) u1 u2
  have hw2 : w1.putObj b (.loop { r1 with state := .busy }) = { w1 with heap := w1.heap.setIfInBounds b (.loop { r1 with state := .busy, pending := none }) } := by
    obtain ⟨_, _⟩ := r1; simp only at u3; subst u3; rfl
  rw [hw2] at hbeg
  refine ⟨_, hbeg, ?_⟩
  have hA2 : At ts.length ds1 η1 S1 { w1 with heap := w1.heap.setIfInBounds b (.loop { r1 with state := .busy, pending := none }) } a1 E1 (H1.set h (some [.lp rc1 .busy none ts1])) :=
    ⟨hC2, fun t => (hA1.env t).le hL2, hA1.size, hA1.defers⟩
  show Code.wpIn (FW (some b)) 0 P _ _ _ _
  refine wpIn_mono (lwp_sound (ro := some b) o4 (by rw [hC.len]; exact hbd) hA2 (hL1.trans hL2) (hM1.le hL2) (.inr o6)) ?_
  rintro e a2 w2 ⟨x, hx, E2, H2, η2, S2, ds2, hq, hA2, hL2, hM2⟩
  have hη2 := hL2.get _ _ hη
  have fin : ∀ (jump : Option Code) (v : Value) (rc2 : RC) (ts2 : List L), H2[h]? = some (some [.lp rc2 .busy none ts2]) → v = .bool jump.isNone → K (.v v) (H2.set h (some [.lp rc2 (if jump.isNone then .ready else .done) jump ts2])) →
      ∃ v w', (Instr.endRound b jump).run P w2 = .ok v w' ∧ ∃ v' l H' η' S', Ending.returned v = .returned v' ∧ K l H' ∧ Rel S' w' η' v' l ∧ Conc η' S' w' H' ∧ Le η S w η' S' w' := by
    intro jump v rc2 ts2 hH2 hv2 hK
    subst hv2
    obtain ⟨r2, u1, u2, u3, -⟩ := hA2.conc.lpAt hη2 hH2
    obtain ⟨hC3, hL3⟩ := hA2.conc.lpset (st' := if jump.isNone then .ready else .done) (pd' := jump) hη2 hH2 u1
    exact ⟨_, _, run_endRound jump u1, _, _, _, _, _, rfl, hK, .v _, hC3, hL2.trans hL3⟩
  cases e <;> simp only [exitX, Option.some.injEq] at hx <;> first | (cases hx; done) | skip
  all_goals
    subst hx
    obtain ⟨rc2, ts2, hH2, hK⟩ := roundK_spec hq
    exact fin _ _ _ _ hH2 rfl hK

end
end Lg
