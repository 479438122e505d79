/- Soundness of regions, calls, code. -/
import Derived.Test.YtaegmmeppkgnkaaLgL
import Derived.Deep.LoopGhost
import Derived.ScopeJumps
namespace Lg
open Go

section
variable {ds : List Deferred} {ro : Option Nat} {P : Program} {η : List Nat} {S : Nat → Prop} {w : World} {H : Heap} {a : Act} {E : Env}

/-- The real state reads as the logical one. -/
structure At (n : Nat) (ds : List Deferred) (η : List Nat) (S : Nat → Prop) (w : World) (a : Act) (E : Env) (H : Heap) : Prop where
  conc : Conc η S w H
  env : REnv η S w a.tmps E
  size : a.tmps.size = n
  defers : a.defers = ds

theorem At.put {n : Nat} (h : At n ds η S w a E H) {d : Option Nat} (hd : ∀ t, d = some t → t < n) {v : Value} {l : L} {η' S' w' H'} (hC : Conc η' S' w' H') (hL : Le η S w η' S' w') (hr : Rel S' w' η' v l) :
    At n ds η' S' w' (a.put d v) (putE E d l) H' := by
  cases d with
  | none => exact ⟨hC, h.env.le hL, h.size, h.defers⟩
  | some t =>
    refine ⟨hC, ?_, by simp [Act.put, h.size], h.defers⟩
    exact (h.env.le hL).put (by rw [h.size]; exact hd t rfl) hr

/-- Nothing is fenced in; perhaps a round's frame. -/
abbrev FW (ro : Option Nat) : Fence := { fn := fun _ => True, depth := none, alive := false, round := ro }

theorem wpI_run {o : Oper} {next : Act → World → Prop} {Q : Exit → Act → World → Prop} {r : Result Next} (hnd : ∀ c, o.op ≠ .defer c) (hr : (execOp a.eval o).run P w = r) (h : o.uponIn (FW ro) 0 P a next Q r) : o.wpIn (FW ro) 0 P a w next Q :=
  ⟨fun _ _ => trivial, by rw [Oper.semAt_eq _ _ _ hnd, hr]; exact h⟩

theorem compOp_nd {op : Op} {i : I} (h : compOp P op = some i) : ∀ c, op ≠ .defer c := fun c e => by subst e; simp [compOp] at h

/-- The marks that the loops over functions have left: their blocks hold no call. -/
def Marks (lo : Nat) (ds : List Deferred) (η : List Nat) (S : Nat → Prop) (w : World) : Prop :=
  ∃ Ds : List Nat, Ds.Nodup ∧ ds = Ds.map (fun D => { target := .collected D, args := #[] }) ∧ ∀ D ∈ Ds, lo ≤ D ∧ w.heap[D]? = some (.deferred (some [])) ∧ D ∉ η ∧ ¬ S D

theorem Marks.le {lo : Nat} {η' : List Nat} {S' : Nat → Prop} {w' : World} (h : Marks lo ds η S w) (k : Le η S w η' S' w') : Marks lo ds η' S' w' := by
  obtain ⟨Ds, h1, h2, h3⟩ := h
  refine ⟨Ds, h1, h2, fun D hD => ?_⟩
  obtain ⟨e0, e1, e2, e3⟩ := h3 D hD
  have hlt : D < w.heap.size := by
    rcases Nat.lt_or_ge D w.heap.size with h | h
    · exact h
    · simp [Array.getElem?_eq_none h] at e1
  obtain ⟨ζ, q1, q2⟩ := k.pre
  refine ⟨e0, (k.frame D hlt e2).trans e1, fun hm => ?_, fun hs => ?_⟩
  · rw [q1] at hm
    rcases List.mem_append.1 hm with hm | hm
    · exact e2 hm
    · rcases q2 D hm with h | h
      · exact e2 h
      · omega
  · rcases k.new D hs with h | h | h
    · exact e3 h
    · exact e2 h
    · omega

theorem Marks.nil {lo : Nat} : Marks lo [] η S w := ⟨[], by simp, rfl, by simp⟩

def exitX : Exit → Option X
  | .normal => some .normal
  | .exit id => some (.exit id)
  | .goto l => some (.goto l)
  | .ret => some .ret
  | _ => none

/-- Behind a piece of code. -/
def Post (n : Nat) (η : List Nat) (S : Nat → Prop) (w : World) (Q : X → Env → Heap → Prop) : Exit → Act → World → Prop := fun e a' w' =>
  ∃ x, exitX e = some x ∧ ∃ E' H' η' S' ds', Q x E' H' ∧ At n ds' η' S' w' a' E' H' ∧ Le η S w η' S' w' ∧ Marks w.heap.size ds' η' S' w'

theorem RelAll.append {vs us : Array Value} {ls ms : List L} (h : RelAll η S w vs ls) (k : RelAll η S w us ms) : RelAll η S w (vs ++ us) (ls ++ ms) := by
  obtain ⟨h1, h2⟩ := h
  obtain ⟨k1, k2⟩ := k
  refine ⟨by simp [h1, k1], fun j => ?_⟩
  by_cases hj : j < vs.size
  · have := h2 j
    simpa [Array.getD_eq_getD_getElem?, List.getD, Array.getElem?_append_left hj, List.getElem?_append_left (show j < ls.length by omega)] using this
  · have := k2 (j - vs.size)
    simp only [Array.getD_eq_getD_getElem?, List.getD, Array.getElem?_append_right (Nat.le_of_not_lt hj), List.getElem?_append_right (show ls.length ≤ j by omega), ← h1] at this ⊢
    exact this

theorem relAll_args (hE : REnv η S w a.tmps E) {xs : Array Operand} {ys : List A} (h : compAs xs.toList = some ys) : RelAll η S w (xs.map a.eval) (ys.map (arg E)) := by
  obtain ⟨e1, e2⟩ := compAs_sound hE h
  refine ⟨by simp at e1 ⊢; exact e1, fun j => ?_⟩
  have := e2 j
  simpa [Array.getD_eq_getD_getElem?, List.getD] using this

/-- One operation that runs: what must hold behind it. -/
theorem upon_call {o : Oper} {f : FuncId} {args : Array Value} {ls : List L} {K : L → Heap → Prop} {next : Act → World → Prop} {Q : Exit → Act → World → Prop} (hnd : ∀ c, o.op ≠ .defer c) (hrun : okF P f = true → (execOp a.eval o).run P w = .ok (.enter f args) w)
    (hC : Conc η S w H) (hargs : RelAll η S w args ls) (h : callAt P f ls H K)
    (hn : ∀ v l H' η' S' w', K l H' → Rel S' w' η' v l → Conc η' S' w' H' → Le η S w η' S' w' → next (a.put o.dst v) w') : o.wpIn (FW ro) 0 P a w next Q := by
  obtain ⟨hok, h⟩ := h
  refine wpI_run hnd (hrun hok) ?_
  rw [Oper.uponIn_enter]
  refine ⟨fun h => (by cases h), (show CallsIn Fence.wide 0 P f args w _ from callsIn_wide.2 ((h η S w args hC hargs).mono ?_))⟩
  rintro e w' ⟨v, l, H', η', S', rfl, hK, h1, h2, h3⟩
  exact hn v l H' η' S' w' hK h1 h2 h3

theorem run_callFunc {f : FuncId} {args : Array Value} (h : okF P f = true) : (callFunc f args).run P w = .ok (.enter f args) w := by
  unfold okF at h
  cases hf : P.funcs[f]? with
  | none => simp [hf] at h
  | some fn =>
    simp only [hf, Bool.and_eq_true, bne_iff_ne, ne_eq] at h
    obtain ⟨h1, h2⟩ := h
    simp only [callFunc, Sem.run_bind, run_program, Result.andThen_ok, hf]
    have h3 : fn.body.isNone = false := by cases hb : fn.body <;> simp_all
    simp [h2, h3]

theorem run_equalIn_nil (d : Nat) {t e : TypeId} (hu : P.underlying t = some (.slice e)) (ad : Option Addr) (m cap : Nat) : (Op.equalIn (d + 1) t (.slice ad m cap) (.slice none 0 0)).run P w = .ok ad.isNone w := by
  simp only [Op.equalIn, Sem.run_bind, run_underlying hu, Result.andThen_ok]
  cases ad <;> simp

theorem run_nil {op : BinOp} {t e : TypeId} {o1 o2 : Operand} (hu : P.underlying t = some (.slice e)) (hop : op = .eql ∨ op = .neq) (ad : Option Addr) (m cap : Nat) :
    (do eqGuard op t o1 o2 (.slice ad m cap) (.slice none 0 0); binOp op t (.slice ad m cap) (.slice none 0 0) : Sem Value).run P w = .ok (.bool (if ad.isNone then !(op == .neq) else (op == .neq))) w := by
  have heq : (Op.equal t (.slice ad m cap) (.slice none 0 0)).run P w = .ok ad.isNone w := run_equalIn_nil 9999 hu ad m cap
  rcases hop with rfl | rfl
  · cases ad <;> (simp only [eqGuard, binOp, Sem.run_bind]; simp; rw [heq]; rfl)
  · cases ad <;> (simp only [eqGuard, binOp, Sem.run_bind]; simp; rw [heq]; rfl)

theorem lop_sound {o : Oper} {i : I} {K : L → Heap → Prop} {next : Act → World → Prop} {Q : Exit → Act → World → Prop} (hc : compOp P o.op = some i) (hl : lop P i E H K) (hC : Conc η S w H) (hE : REnv η S w a.tmps E)
    (hn : ∀ v l H' η' S' w', K l H' → Rel S' w' η' v l → Conc η' S' w' H' → Le η S w η' S' w' → next (a.put o.dst v) w') : o.wpIn (FW ro) 0 P a w next Q := by
  have simple : optK (lopO i E H) (fun r => K r.1 r.2) → o.wpIn (FW ro) 0 P a w next Q := fun h => by
    obtain ⟨⟨l, H'⟩, h1, h2⟩ := h
    obtain ⟨v, w', η', S', hr, g1, g2, g3⟩ := lopO_fine hc h1 hC hE
    rcases hr with hr | ⟨hr, rfl⟩
    · refine wpI_run (compOp_nd hc) hr ?_; rw [Oper.uponIn_value]; exact hn v l H' η' S' w' h2 g1 g2 g3
    · refine wpI_run (compOp_nd hc) hr ?_; rw [Oper.uponIn_skip]; exact hn undef l H' η' S' w' h2 g1 g2 g3
  have hcall : ∀ c, o.op = .call c → compCall P c = some i := fun c ho => by rw [ho] at hc; exact hc
  cases i with
  | call f xs =>
    have hl : callAt P f (xs.map (arg E)) H K := hl
    obtain ⟨dst, op, ty, pos, after, guard⟩ := o
    cases op
    case call c =>
      obtain ⟨callee, args, argTypes⟩ := c
      simp only [compOp] at hc
      unfold compCall at hc
      split at hc
      · rename_i f' hcal
        simp only at hcal; subst hcal
        split at hc
        · simp only [Option.map_eq_some_iff] at hc
          obtain ⟨ys, hys, he⟩ := hc
          cases he
          refine upon_call (fun c e => by cases e) (fun hok => ?_) hC (relAll_args hE hys) hl hn
          simp only [execOp, resolve, Act.eval, Deferred.ofValue, pure_bind, invoke]
          simp only [Array.append_empty, Array.empty_append]
          exact run_callFunc hok
        · simp at hc
      all_goals (exfalso; revert hc; (repeat' split) <;> simp [Option.bind_eq_some_iff])
    all_goals (exfalso; revert hc; simp only [compOp]; (repeat' split) <;> simp [Option.bind_eq_some_iff])
  | calld x xs =>
    have hl : callD P (arg E x) (xs.map (arg E)) H K := hl
    obtain ⟨dst, op, ty, pos, after, guard⟩ := o
    cases op
    case call c =>
      obtain ⟨callee, args, argTypes⟩ := c
      simp only [compOp] at hc
      unfold compCall at hc
      split at hc
      · split at hc
        · simp [Option.map_eq_some_iff] at hc
        · simp at hc
      · rename_i t hcal
        simp only at hcal; subst hcal
        simp only [Option.map_eq_some_iff] at hc
        obtain ⟨ys, hys, he⟩ := hc
        cases he
        unfold callD at hl
        split at hl
        · rename_i f ff cc e
          have hx : Rel S w η (a.eval (.tmp t)) (.fn (.func f) ff cc) := by rw [← e]; exact hE t
          obtain ⟨first, cap, hv, z1, z2, r1, r2⟩ := hx.inv_fn
          refine upon_call (args := first ++ args.map a.eval ++ cap) (fun c e => by cases e) (fun hok => ?_) hC (((show RelAll η S w first ff from ⟨z1, r1⟩).append (relAll_args hE hys)).append ⟨z2, r2⟩) hl hn
          simp only [execOp, resolve, hv, Deferred.ofValue, pure_bind, invoke]
          exact run_callFunc hok
        · rename_i h e
          have hx : Rel S w η (a.eval (.tmp t)) (.yl h) := by rw [← e]; exact hE t
          obtain ⟨b, hv, hη⟩ := hx.inv_yl
          obtain ⟨b', hη', f, tmps, asg, bdy, hrun, hround⟩ := hl η S w (args.map a.eval) hC (relAll_args hE hys)
          rw [hη] at hη'; cases hη'
          refine wpI_run (fun c e => by cases e) (r := .ok (.round b f tmps asg bdy) w) ?_ ?_
          · simp only [execOp, resolve, hv, Deferred.ofValue, pure_bind, invoke]
            simpa using hrun
          · rw [Oper.uponIn_round]
            refine ⟨fun h => (by cases h), (show RoundIn Fence.wide 0 P b f tmps asg bdy w _ from hround.mono ?_)⟩
            rintro e' w' ⟨v, l, H', η', S', rfl, hK, h1, h2, h3⟩
            exact hn v l H' η' S' w' hK h1 h2 h3
        · exact hl.elim
      all_goals (exfalso; revert hc; (repeat' split) <;> simp [Option.bind_eq_some_iff])
    all_goals (exfalso; revert hc; simp only [compOp]; (repeat' split) <;> simp [Option.bind_eq_some_iff])
  | isnil neg x =>
    obtain ⟨dst, op, ty, pos, after, guard⟩ := o
    cases op
    case binOp op t x' y' t' =>
      simp only [compOp] at hc
      split at hc
      · rename_i hcmp
        simp only [Option.map_eq_some_iff, I.isnil.injEq] at hc
        obtain ⟨z, hz, rfl, rfl⟩ := hc
        have hx := compA_sound hz hE
        unfold nilCmp at hcmp
        split at hcmp
        rotate_left
        · simp at hcmp
        simp only [Bool.and_eq_true, Bool.or_eq_true, beq_iff_eq] at hcmp
        obtain ⟨hsl, hop⟩ := hcmp
        obtain ⟨e, hu⟩ : ∃ e, P.underlying t = some (.slice e) := by
          split at hsl
          · exact ⟨_, by assumption⟩
          · simp at hsl
        have hrun : ∀ (ad : Option Addr) (m cap : Nat), a.eval x' = .slice ad m cap → (execOp a.eval ⟨dst, .binOp op t x' (.const (.slice none 0 0)) t', ty, pos, after, guard⟩).run P w = .ok (.value (.bool (if ad.isNone then !(op == .neq) else (op == .neq)))) w := fun ad m cap hv => by
          have r1 : (do eqGuard op t x' (.const (.slice none 0 0)) (.slice ad m cap) (.slice none 0 0); binOp op t (.slice ad m cap) (.slice none 0 0) : Sem Value).run P w = .ok (.bool (if ad.isNone then !(op == .neq) else (op == .neq))) w := run_nil hu hop ad m cap
          rw [← hv] at r1
          exact run_val r1
        have fin : ∀ (ad : Option Addr) (m cap : Nat), a.eval x' = .slice ad m cap → K (.v (.bool (if ad.isNone then !(op == .neq) else (op == .neq)))) H → Oper.wpIn (FW ro) 0 P ⟨dst, .binOp op t x' (.const (.slice none 0 0)) t', ty, pos, after, guard⟩ a w next Q := fun ad m cap hv hK => by
          refine wpI_run (fun c e => by cases e) (hrun ad m cap hv) ?_
          rw [Oper.uponIn_value]
          exact hn _ _ H η S w hK (.v _) hC (Le.refl _ _ _)
        simp only [lop] at hl
        split at hl
        · rename_i he
          rw [he] at hx
          exact fin none 0 0 hx.inv_v (by simpa using hl)
        · rename_i es cl xs he
          rw [he] at hx
          obtain ⟨ad, cap, hv, -, -, -, -, h5⟩ := hx.inv_sl
          refine fin _ _ _ hv ?_
          cases ad with
          | none =>
            refine hl.2 ?_
            rcases Nat.eq_zero_or_pos xs.length with h0 | h0
            · exact List.eq_nil_of_length_eq_zero h0
            · obtain ⟨b, o, cs, h6, -⟩ := h5 h0
              cases h6
          | some ad => exact hl.1
        · rename_i es h off m cl he
          rw [he] at hx
          rcases hx.inv_view with ⟨ad, hv, h0⟩ | ⟨b, cap, c, t0, fr, hv, -⟩
          · refine fin _ _ _ hv ?_
            cases ad with
            | none => exact hl.2 h0
            | some ad => exact hl.1
          · exact fin _ _ _ hv hl.1
        · exact hl.elim
      · exfalso; revert hc; split <;> simp [Option.bind_eq_some_iff]
    case call c =>
      exfalso
      obtain ⟨callee, args, argTypes⟩ := c
      simp only [compOp] at hc
      unfold compCall at hc
      revert hc; (repeat' split) <;> simp [Option.bind_eq_some_iff]
    all_goals (exfalso; revert hc; simp only [compOp]; (repeat' split) <;> simp [Option.bind_eq_some_iff])
  | _ => exact simple hl


/-- A region in the order of the text. -/
theorem lops_sound {n : Nat} {ops : Array Oper} {Qf : Exit → Act → World → Prop} {K : Env → Heap → Prop} : ∀ {l : List Oper} {ol : List O} {E : Env} {H : Heap} {η : List Nat} {S : Nat → Prop} {w : World} {a : Act}, compOps P n ops l = some ol → lops P ol K E H → At n ds η S w a E H →
    (∀ E' H' η' S' w' a', K E' H' → At n ds η' S' w' a' E' H' → Le η S w η' S' w' → Qf .normal a' w') → wpListIn (FW ro) 0 P ops Qf l a w
  | [], ol, E, H, η, S, w, a, hc, hl, hA, hQ => by
    simp [compOps] at hc; subst hc
    exact hQ E H η S w a hl hA (Le.refl _ _ _)
  | o :: l, ol, E, H, η, S, w, a, hc, hl, hA, hQ => by
    simp only [compOps, Option.bind_eq_some_iff, Option.map_eq_some_iff] at hc
    obtain ⟨oo, ho, ol', hol, rfl⟩ := hc
    simp only [compO, Option.bind_eq_some_iff] at ho
    obtain ⟨i, hi, ho⟩ := ho
    split at ho
    rotate_left
    · simp at ho
    rename_i hd
    have hd' : ∀ t, o.dst = some t → t < n := fun t ht => by rw [ht] at hd; simpa [dstOk] using hd
    -- running the operation at a state, and passing it over
    have runIt : ∀ {E' : Env}, At n ds η S w a E' H → (lop P i E' H fun l H' => lops P ol' K (putE E' o.dst l) H') → o.wpIn (FW ro) 0 P a w (wpListIn (FW ro) 0 P ops Qf l) Qf := fun {E'} hA' hl' => by
      refine lop_sound hi hl' hA'.conc hA'.env ?_
      intro v l' H' η' S' w' hK hr hC' hL
      exact lops_sound hol hK (hA'.put hd' hC' hL hr) (fun E2 H2 η2 S2 w2 a2 k1 k2 k3 => hQ E2 H2 η2 S2 w2 a2 k1 k2 (hL.trans k3))
    have passIt : ∀ {E' : Env}, At n ds η S w a E' H → lops P ol' K (putE E' o.dst .no) H → wpListIn (FW ro) 0 P ops Qf l (a.put o.dst undef) w := fun {E'} hA' hl' =>
      lops_sound hol hl' (hA'.put hd' hA'.conc (Le.refl _ _ _) .no) hQ
    unfold wpListIn
    cases hg : o.guard with
    | none =>
      simp only [hg, Option.some.injEq] at ho
      subst ho
      have hw : Region.wanted o (yielded ops a.tmps) = true := by simp [Region.wanted, hg]
      rw [if_pos hw]
      exact (runIt hA hl)
    | some jb =>
      obtain ⟨j, b⟩ := jb
      simp only [hg, Option.map_eq_some_iff] at ho
      obtain ⟨s, hs, rfl⟩ := ho
      simp only [lops, lguard] at hl
      have hwant : ∀ x : Value, a.tmps.getD s undef = x → Region.wanted o (yielded ops a.tmps) = (match x with | .bool y => y == b | _ => false) := fun x hx => by
        simp only [Region.wanted, hg, yielded, hs, Option.bind_some]
        by_cases hlt : s < a.tmps.size
        · rw [agetD_of_lt _ _ hlt] at hx
          simp only [Array.getElem?_eq_getElem hlt, hx]
          cases x <;> simp
        · rw [agetD_of_ge _ _ (by omega)] at hx
          subst hx
          simp [Array.getElem?_eq_none (Nat.le_of_not_lt hlt), undef]
      have hE := hA.env s
      split at hl
      · rename_i x e
        rw [e] at hE
        have hv := hE.inv_v
        rw [hwant _ hv]
        have again : ∀ c, x = c → At n ds η S w a ((s, .v (.bool c)) :: E) H := fun c hx => by
          subst hx
          refine ⟨hA.conc, fun u => ?_, hA.size, hA.defers⟩
          by_cases hu : u = s
          · subst hu; simp only [lk, if_true]; rw [hv]; exact .v _
          · simp only [lk, hu, if_false]; exact hA.env u
        by_cases hxb : x = b
        · simp only [hxb, beq_self_eq_true, if_true]
          exact (runIt (again b hxb) (hl.1 hxb))
        · have hxb' : x = !b := by cases x <;> cases b <;> simp_all
          simp only [beq_eq_false_iff_ne.2 hxb, Bool.false_eq_true, if_false]
          exact ⟨fun _ _ => trivial, passIt (again (!b) hxb') (hl.2 hxb')⟩
      · rename_i e
        rw [e] at hE
        have hv := hE.inv_no
        rw [hwant _ hv]
        simp only [undef, Bool.false_eq_true, if_false]
        exact ⟨fun _ _ => trivial, passIt hA hl⟩
      · exact hl.elim


theorem belowL_get {n : Nat} : ∀ {ls : List L}, belowL n ls = true → ∀ j, below n (ls.getD j .any) = true
  | [], _, j => by simp [below]
  | l :: ls, h, j => by
    simp only [belowL, Bool.and_eq_true] at h
    cases j with
    | zero => exact h.1
    | succ j => simpa using belowL_get h.2 j

/-- A value without own rows from number n on needs no more of the list. -/
theorem Rel.cut {S : Nat → Prop} {w : World} {η : List Nat} {x : Value} {l : L} (h : Rel S w η x l) (n : Nat) : Lg.below n l = true → Rel S w (η.take n) x l := by
  induction h with
  | any v => intro _; exact .any v
  | no => intro _; exact .no
  | v x => intro _; exact .v x
  | sl0 h1 h2 => intro _; exact .sl0 h1 h2
  | sl cs h2 h3 h4 h5 hS hc hr _ => intro _; exact .sl cs h2 h3 h4 h5 hS hc hr
  | agg h hr ih => intro hb; simp only [Lg.below] at hb; exact .agg h fun j => ih j (belowL_get hb j)
  | tup h hr ih => intro hb; simp only [Lg.below] at hb; exact .tup h fun j => ih j (belowL_get hb j)
  | view0 => intro _; exact .view0
  | view hη hb hsz hn hm hcl => intro hb'; simp [Lg.below] at hb'; exact .view (by rw [List.getElem?_take, if_pos hb']; exact hη) hb hsz hn hm hcl
  | ptr hη hb => intro hb'; simp [Lg.below] at hb'; exact .ptr (by rw [List.getElem?_take, if_pos hb']; exact hη) hb
  | mref hη => intro hb'; simp [Lg.below] at hb'; exact .mref (by rw [List.getElem?_take, if_pos hb']; exact hη)
  | yl hη => intro hb'; simp [Lg.below] at hb'; exact .yl (by rw [List.getElem?_take, if_pos hb']; exact hη)
  | pp cs hS hc hr _ => intro _; exact .pp cs hS hc hr
  | fn h1 h2 r1 r2 i1 i2 => intro hb; simp only [Lg.below, Bool.and_eq_true] at hb; exact .fn h1 h2 (fun j => i1 j (belowL_get hb.1 j)) (fun j => i2 j (belowL_get hb.2 j))

theorem renL_getD {f : Nat → Nat} : ∀ {ls : List L} {j : Nat}, (renL f ls).getD j .any = ren f (ls.getD j .any)
  | [], j => by simp [renL, ren]
  | l :: ls, 0 => by simp [renL]
  | l :: ls, j + 1 => by simpa [renL] using renL_getD (ls := ls) (j := j)

theorem renL_length {f : Nat → Nat} : ∀ {ls : List L}, (renL f ls).length = ls.length
  | [] => rfl
  | l :: ls => by simp [renL, renL_length (ls := ls)]

/-- A value by the own rows' other numbers. -/
theorem Rel.ren {S : Nat → Prop} {w : World} {η : List Nat} {x : Value} {l' : L} (h : Rel S w η x l') {n : Nat} {f : Nat → Nat} {η' : List Nat} (hη : ∀ h, h < n → η'[h]? = η[f h]?) : ∀ l, l' = Lg.ren f l → Lg.below n l = true → Rel S w η' x l := by
  induction h with
  | any v => intro l e _; cases l <;> simp only [Lg.ren] at e <;> first | (cases e; done) | exact .any _
  | no => intro l e _; cases l <;> simp only [Lg.ren] at e <;> first | (cases e; done) | exact .no
  | v x => intro l e _; cases l <;> simp only [Lg.ren] at e <;> first | (cases e; done) | (cases e; exact .v _)
  | sl0 h1 h2 => intro l e _; cases l <;> simp only [Lg.ren] at e <;> first | (cases e; done) | (cases e; exact .sl0 h1 h2)
  | sl cs h2 h3 h4 h5 hS hc hr _ => intro l e _; cases l <;> simp only [Lg.ren] at e <;> first | (cases e; done) | (cases e; exact .sl cs h2 h3 h4 h5 hS hc hr)
  | agg h hr ih =>
    intro l e hb; cases l <;> simp only [Lg.ren] at e <;> first | (cases e; done) | skip
    cases e
    simp only [Lg.below] at hb
    rw [renL_length] at h
    exact .agg h fun j => ih j hη _ renL_getD (belowL_get hb j)
  | tup h hr ih =>
    intro l e hb; cases l <;> simp only [Lg.ren] at e <;> first | (cases e; done) | skip
    cases e
    simp only [Lg.below] at hb
    rw [renL_length] at h
    exact .tup h fun j => ih j hη _ renL_getD (belowL_get hb j)
  | view0 => intro l e _; cases l <;> simp only [Lg.ren] at e <;> first | (cases e; done) | (cases e; exact .view0)
  | view hh hb hsz hn hm hcl =>
    intro l e hb'; cases l <;> simp only [Lg.ren] at e <;> first | (cases e; done) | skip
    cases e
    simp [Lg.below] at hb'
    exact .view (by rw [hη _ hb']; exact hh) hb hsz hn hm hcl
  | ptr hh hb =>
    intro l e hb'; cases l <;> simp only [Lg.ren] at e <;> first | (cases e; done) | skip
    cases e
    simp [Lg.below] at hb'
    exact .ptr (by rw [hη _ hb']; exact hh) hb
  | mref hh =>
    intro l e hb'; cases l <;> simp only [Lg.ren] at e <;> first | (cases e; done) | skip
    cases e
    simp [Lg.below] at hb'
    exact .mref (by rw [hη _ hb']; exact hh)
  | yl hh =>
    intro l e hb'; cases l <;> simp only [Lg.ren] at e <;> first | (cases e; done) | skip
    cases e
    simp [Lg.below] at hb'
    exact .yl (by rw [hη _ hb']; exact hh)
  | pp cs hS hc hr _ => intro l e _; cases l <;> simp only [Lg.ren] at e <;> first | (cases e; done) | (cases e; exact .pp cs hS hc hr)
  | fn h1 h2 r1 r2 i1 i2 =>
    intro l e hb; cases l <;> simp only [Lg.ren] at e <;> first | (cases e; done) | skip
    cases e
    simp only [Lg.below, Bool.and_eq_true] at hb
    rw [renL_length] at h1 h2
    exact .fn h1 h2 (fun j => i1 j hη _ renL_getD (belowL_get hb.1 j)) (fun j => i2 j hη _ renL_getD (belowL_get hb.2 j))

theorem renL_mp {f : Nat → Nat} {ls : List L} {k : KK} {es : List (MK × Value)} (h : renL f ls = [.mp k es]) : ls = [.mp k es] := by
  cases ls with
  | nil => simp [renL] at h
  | cons l ls =>
    simp only [renL, List.cons.injEq] at h
    obtain ⟨h1, h2⟩ := h
    cases ls with
    | nil => cases l <;> simp_all [Lg.ren]
    | cons => simp [renL] at h2

theorem renL_lp {f : Nat → Nat} {ls : List L} {rc : RC} {st : LoopState} {pd : Option Code} {ts : List L} (h : renL f ls = [.lp rc st pd ts]) : ∃ ts', ls = [.lp rc st pd ts'] ∧ ts = renL f ts' := by
  cases ls with
  | nil => simp [renL] at h
  | cons l ls =>
    simp only [renL, List.cons.injEq] at h
    obtain ⟨h1, h2⟩ := h
    cases ls with
    | nil =>
      cases l <;> simp only [Lg.ren] at h1 <;> first | (cases h1; done) | skip
      cases h1
      exact ⟨_, rfl, rfl⟩
    | cons => simp [renL] at h2

theorem rowsOK_spec {H : Heap} {f : Nat → Nat} {n : Nat} : ∀ {ss : List Nat} {cs : Heap}, rowsOK H f n ss cs → ss.length = cs.length ∧ (∀ s ∈ ss, s < H.length) ∧ ∀ (i : Nat) s ls, ss[i]? = some s → cs[i]? = some (some ls) → H[s]? = some (some (renL f ls)) ∧ belowL n ls = true
  | [], [], _ => ⟨rfl, by simp, by simp⟩
  | s :: ss, c :: cs, h => by
    obtain ⟨⟨h1, h2⟩, h3⟩ := h
    obtain ⟨e1, e2, e3⟩ := rowsOK_spec h3
    refine ⟨by simp [e1], fun t ht => ?_, fun i t ls k1 k2 => ?_⟩
    · rcases List.mem_cons.1 ht with rfl | ht
      · exact h1
      · exact e2 t ht
    · cases i with
      | zero => simp at k1 k2; subst k1; subst k2; exact h2
      | succ i => exact e3 i t ls (by simpa using k1) (by simpa using k2)
  | [], _ :: _, h => h.elim
  | _ :: _, [], h => h.elim

/-- A state that says less holds too. -/
theorem At.weak {n : Nat} {η₀ : List Nat} {S₀ : Nat → Prop} {w₀ : World} {E E' : Env} {H H' : Heap} {η S w a} (h : At n ds η S w a E H) (hL : Le η₀ S₀ w₀ η S w) (hw : Lg.weak η₀.length E H E' H') :
    ∃ η', At n ds η' S w a E' H' ∧ Le η₀ S₀ w₀ η' S w ∧ ∀ b ∈ η', b ∈ η := by
  obtain ⟨σ, w1, w2, w3, w4⟩ := hw
  obtain ⟨r1, r2, r3⟩ := rowsOK_spec w3
  obtain ⟨ζ, z1, z2⟩ := hL.pre
  have hget : ∀ {k b : Nat}, (σ.map fun s => η.getD s 0)[k]? = some b → ∃ s, σ[k]? = some s ∧ η[s]? = some b := fun {k b} e => by
    simp only [List.getElem?_map, Option.map_eq_some_iff] at e
    obtain ⟨s, h1, h2⟩ := e
    have hs := r2 s (List.mem_of_getElem? h1)
    rw [← h.conc.len] at hs
    refine ⟨s, h1, ?_⟩
    rw [List.getElem?_eq_getElem hs]
    simpa [List.getD, List.getElem?_eq_getElem hs] using h2
  have hη : ∀ i, i < H'.length → (σ.map fun s => η.getD s 0)[i]? = η[σ.getD i 0]? := fun i hi => by
    have hi' : i < σ.length := by omega
    have hs := r2 σ[i] (List.getElem_mem hi')
    rw [← h.conc.len] at hs
    simp [List.getD, List.getElem?_eq_getElem hi', List.getElem?_eq_getElem hs]
  have inj : ∀ {i j s : Nat}, σ[i]? = some s → σ[j]? = some s → i = j := fun {i j s} h1 h2 => by
    obtain ⟨a1, b1⟩ := List.getElem?_eq_some_iff.1 h1
    obtain ⟨a2, b2⟩ := List.getElem?_eq_some_iff.1 h2
    exact (List.getElem_inj w2).1 (b1.trans b2.symm)
  refine ⟨σ.map fun s => η.getD s 0, ⟨⟨by simp [r1], fun b hb => ?_, h.conc.Slt, ?_, ?_⟩, ?_, h.size, h.defers⟩, ?_, fun b hb => ?_⟩
  rotate_right
  · obtain ⟨k, hk⟩ := List.getElem?_of_mem hb
    obtain ⟨s, -, hs⟩ := hget hk
    exact List.mem_of_getElem? hs
  · obtain ⟨k, hk⟩ := List.getElem?_of_mem hb
    obtain ⟨s, -, hs⟩ := hget hk
    exact h.conc.lt b (List.mem_of_getElem? hs)
  · intro k b ls e1 e2
    obtain ⟨s, s1, s2⟩ := hget e1
    obtain ⟨q1, -⟩ := r3 k s ls s1 e2
    obtain ⟨p1, p2⟩ := h.conc.apart s b _ s2 q1
    refine ⟨p1, fun k' ls' f1 f2 => ?_⟩
    obtain ⟨s', s1', s2'⟩ := hget f1
    obtain ⟨q1', -⟩ := r3 k' s' ls' s1' f2
    have := p2 s' _ s2' q1'
    subst this
    exact inj s1' s1
  · intro k b ls e1 e2
    obtain ⟨s, s1, s2⟩ := hget e1
    obtain ⟨q1, q2⟩ := r3 k s ls s1 e2
    rcases h.conc.liveAt s b _ s2 q1 with ⟨c, t, fr, g1, g2, g3, g4⟩ | ⟨kk, es, e, hm⟩ | ⟨rc, st, pd, ts, e, r, g1, g2, g3, g4, g5, g6, g7, g8⟩
    rotate_left
    · exact .inr (.inl ⟨kk, es, renL_mp e, hm⟩)
    · obtain ⟨ts', rfl, rfl⟩ := renL_lp e
      simp only [belowL, Lg.below, Bool.and_true] at q2
      rw [renL_length] at g7
      exact .inr (.inr ⟨rc, st, pd, ts', rfl, r, g1, g2, g3, g4, g5, g6, g7, fun j => (g8 j).ren hη _ renL_getD (belowL_get q2 j)⟩)
    rw [renL_length] at g2
    refine .inl ⟨c, t, fr, g1, g2, g3, fun j hj => ?_⟩
    have := g4 j (by rw [renL_length]; exact hj)
    exact this.ren hη _ renL_getD (belowL_get q2 j)
  · intro t
    have : ∀ (l : Env), (∀ p ∈ l, Lg.below H'.length p.2 = true ∧ (p.2 = .any ∨ lk E p.1 = Lg.ren (fun i => σ.getD i 0) p.2)) → Rel S w (σ.map fun s => η.getD s 0) (a.tmps.getD t undef) (lk l t) := by
      intro l
      induction l with
      | nil => intro _; exact .any _
      | cons p l ih =>
        intro hp
        obtain ⟨k, x⟩ := p
        simp only [lk]
        split
        · rename_i e; subst e
          obtain ⟨h1, h2⟩ := hp (t, x) (by simp)
          rcases h2 with h2 | h2
          · simp only at h2; rw [h2]; exact .any _
          · exact (h.env t).ren hη x h2 h1
        · exact ih fun p hq => hp p (by simp [hq])
    exact this E' w4
  · refine ⟨⟨(σ.drop η₀.length).map fun s => η.getD s 0, ?_, fun b hb => ?_⟩, hL.sub, hL.keep, hL.shape, hL.size, hL.frame, hL.new, hL.os, hL.tape, hL.output⟩
    · have e : σ = List.range η₀.length ++ σ.drop η₀.length := by rw [← w1]; exact (List.take_append_drop _ _).symm
      rw [e]
      simp only [List.map_append]
      congr 1
      · refine List.ext_getElem? fun i => ?_
        by_cases hi : i < η₀.length
        · rw [List.getElem?_map, List.getElem?_range hi]
          simp only [Option.map_some, List.getD, z1, List.getElem?_append_left hi, List.getElem?_eq_getElem hi, Option.getD_some]
        · rw [List.getElem?_map, List.getElem?_eq_none (show (List.range η₀.length).length ≤ i by simp; omega), List.getElem?_eq_none (show η₀.length ≤ i by omega)]
          rfl
      · have hl : η₀.length ≤ σ.length := by
          have := congrArg List.length w1
          simp at this; omega
        simp
    · obtain ⟨s, hs, rfl⟩ := List.mem_map.1 hb
      have hs' : s < η.length := by rw [h.conc.len]; exact r2 s (List.mem_of_mem_drop hs)
      have hmem : η.getD s 0 ∈ η := by
        rw [show η.getD s 0 = η[s] by simp [List.getD, List.getElem?_eq_getElem hs']]
        exact List.getElem_mem hs'
      rw [z1] at hmem
      rcases List.mem_append.1 hmem with hm | hm
      · rw [z1]; exact .inl hm
      · rw [z1]; exact z2 _ hm


theorem findLab_ok {sel : Nat → Bool} {n : Nat} : ∀ {c : Code} {b : IR}, compS sel P n c = some b → ∀ {l : Nat} {rest : IR}, findLab b l = some rest → ∃ r, findLabel c l = some r ∧ compS sel P n r = some rest
  | .seq x y, b, h, l, rest, hf => by
    simp only [compS, Option.bind_eq_some_iff, Option.map_eq_some_iff] at h
    obtain ⟨b1, h1, b2, h2, rfl⟩ := h
    simp only [findLab] at hf
    cases e : findLab b1 l with
    | some r1 =>
      simp only [e, Option.some.injEq] at hf
      subst hf
      obtain ⟨r, g1, g2⟩ := findLab_ok h1 e
      exact ⟨.seq r y, by simp [findLabel, g1], by simp [compS, g2, h2]⟩
    | none =>
      simp only [e] at hf
      obtain ⟨r, g1, g2⟩ := findLab_ok h2 hf
      have : findLabel x l = none := by
        cases e' : findLabel x l with
        | none => rfl
        | some r' =>
          exfalso
          have key : ∀ {c : Code} {b : IR}, compS sel P n c = some b → ∀ r', findLabel c l = some r' → findLab b l ≠ none := by
            intro c
            induction c with
            | seq u v iu iv =>
              intro b hb r' hr'
              simp only [compS, Option.bind_eq_some_iff, Option.map_eq_some_iff] at hb
              obtain ⟨c1, k1, c2, k2, rfl⟩ := hb
              simp only [findLabel] at hr'
              simp only [findLab]
              cases e1 : findLabel u l with
              | some u' =>
                have := iu k1 u' e1
                cases e2 : findLab c1 l with
                | some _ => simp
                | none => exact absurd e2 this
              | none =>
                simp only [e1] at hr'
                have := iv k2 r' hr'
                cases e2 : findLab c1 l with
                | some _ => simp
                | none => simpa using this
            | label l' =>
              intro b hb r' hr'
              simp only [compS, Option.some.injEq] at hb
              subst hb
              simp only [findLabel] at hr'
              simp only [findLab]
              split at hr' <;> simp_all
            | _ => intro b hb r' hr'; simp [findLabel] at hr'
          exact key h1 r' e' e
      exact ⟨r, by simp [findLabel, this, g1], g2⟩
  | .label l', b, h, l, rest, hf => by
    simp only [compS, Option.some.injEq] at h
    subst h
    simp only [findLab] at hf
    split at hf
    · rename_i e
      cases hf
      exact ⟨.skip, by simp [findLabel, e], by simp [compS]⟩
    · simp at hf
  | .skip, b, h, l, rest, hf => by simp [compS] at h; subst h; simp [findLab] at hf
  | .region id ops d, b, h, l, rest, hf => by
    cases d
    · simp only [compS, Option.map_eq_some_iff] at h
      obtain ⟨_, -, rfl⟩ := h; simp [findLab] at hf
    · simp only [compS, Option.bind_eq_some_iff] at h
      obtain ⟨bs, -, h⟩ := h
      split at h
      · simp only [Option.map_eq_some_iff] at h
        obtain ⟨_, -, rfl⟩ := h; simp [findLab] at hf
      split at h
      · simp only [Option.map_eq_some_iff] at h
        obtain ⟨_, -, rfl⟩ := h; simp [findLab] at hf
      · simp only [Option.some.injEq] at h
        subst h; simp [findLab] at hf
  | .cond c x y, b, h, l, rest, hf => by
    simp only [compS, Option.bind_eq_some_iff, Option.map_eq_some_iff] at h
    obtain ⟨_, -, _, -, _, -, rfl⟩ := h; simp [findLab] at hf
  | .block id x, b, h, l, rest, hf => by
    simp only [compS, Option.map_eq_some_iff] at h
    obtain ⟨_, -, rfl⟩ := h; simp [findLab] at hf
  | .loop x, b, h, l, rest, hf => by
    simp only [compS, Option.map_eq_some_iff] at h
    obtain ⟨_, -, rfl⟩ := h; simp [findLab] at hf
  | .rangeFunc .., b, h, l, rest, hf => by
    simp only [compS, Option.map_eq_some_iff] at h
    obtain ⟨_, -, rfl⟩ := h; simp [findLab] at hf
  | .exit id, b, h, l, rest, hf => by simp [compS] at h; subst h; simp [findLab] at hf
  | .scope x, b, h, l, rest, hf => by
    simp only [compS, Option.bind_eq_some_iff] at h
    obtain ⟨_, -, h⟩ := h
    split at h
    · simp at h
    · simp only [Option.map_eq_some_iff] at h
      obtain ⟨_, -, rfl⟩ := h; simp [findLab] at hf
  | .goto l', b, h, l, rest, hf => by simp [compS] at h; subst h; simp [findLab] at hf
  | .ret, b, h, l, rest, hf => by simp [compS] at h; subst h; simp [findLab] at hf
  | .refuse _, b, h, l, rest, hf => by simp [compS] at h

end
end Lg
