import Derived.Test.YtjoffkghcjfbeaaLgGL
import Derived.Deep.LoopGhost
import Derived.ScopeJumps
import Derived.Orders
/- Soundness of regions, calls, code. -/
namespace Lg
open Go
section
variable {ds : List Deferred} {ro : Option Nat} {P : Program} {η : List Nat} {S : Nat → Prop} {w : World} {H : Heap} {a : Act} {E : Env}
structure At (n : Nat) (ds : List Deferred) (η : List Nat) (S : Nat → Prop) (w : World) (a : Act) (E : Env) (H : Heap) : Prop where
 conc : Conc η S w H
 env : REnv η S w a.tmps E
 size : a.tmps.size = n
 defers : a.defers = ds
theorem At.put {n : Nat} (h : At n ds η S w a E H) {d : Option Nat} (hd : ∀ t, d = some t → t < n) {v : Value} {l : L} {η' S' w' H'} (hC : Conc η' S' w' H') (hL : Le η S w η' S' w') (hr : Rel S' w' η' v l) :
  At n ds η' S' w' (a.put d v) (putE E d l) H' := by
 cases d with
 | none => exact ⟨hC, h.env.le hL, h.size, h.defers⟩
 | some t =>
  refine ⟨hC, ?_, by simp [Act.put, h.size], h.defers⟩
  exact (h.env.le hL).put (by rw [h.size]; exact hd t rfl) hr
abbrev FW (ro : Option Nat) : Fence := { fn := fun _ => True, depth := none, alive := false, round := ro }
theorem wpI_run {o : Oper} {next : Act → World → Prop} {Q : Exit → Act → World → Prop} {r : Result Next} (hnd : ∀ c, o.op ≠ .defer c) (hr : (execOp a.eval o).run P w = r) (h : o.uponIn (FW ro) 0 P a next Q r) : o.wpIn (FW ro) 0 P a w next Q :=
 ⟨fun _ _ => trivial, by rw [Oper.semAt_eq _ _ _ hnd, hr]; exact h⟩
theorem compOp_nd {op : Op} {i : I} (h : compOp P op = some i) : ∀ c, op ≠ .defer c := fun c e => by subst e; simp [compOp] at h
def Marks (lo : Nat) (ds : List Deferred) (η : List Nat) (S : Nat → Prop) (w : World) : Prop :=
 ∃ Ds : List Nat, Ds.Nodup ∧ ds = Ds.map (fun D => { target := .collected D, args := #[] }) ∧ ∀ D ∈ Ds, lo ≤ D ∧ w.heap[D]? = some (.deferred (some [])) ∧ D ∉ η ∧ ¬ S D
theorem Marks.le {lo : Nat} {η' : List Nat} {S' : Nat → Prop} {w' : World} (h : Marks lo ds η S w) (k : Le η S w η' S' w') : Marks lo ds η' S' w' := by
 obtain ⟨Ds, h1, h2, h3⟩ := h
 refine ⟨Ds, h1, h2, fun D hD => ?_⟩
 obtain ⟨e0, e1, e2, e3⟩ := h3 D hD
 have hlt : D < w.heap.size := by
  rcases Nat.lt_or_ge D w.heap.size with h | h
  ·exact h
  ·simp [Array.getElem?_eq_none h] at e1
 obtain ⟨ζ, q1, q2⟩ := k.pre
 refine ⟨e0, (k.frame D hlt e2).trans e1, fun hm => ?_, fun hs => ?_⟩
 ·rw [q1] at hm
  rcases List.mem_append.1 hm with hm | hm
  ·exact e2 hm
  ·rcases q2 D hm with h | h
   ·exact e2 h
   ·omega
 ·rcases k.new D hs with h | h | h
  ·exact e3 h
  ·exact e2 h
  ·omega
theorem Marks.nil {lo : Nat} : Marks lo [] η S w := ⟨[], by simp, rfl, by simp⟩
def exitX : Exit → Option X
 | .normal => some .normal
 | .exit id => some (.exit id)
 | .goto l => some (.goto l)
 | .ret => some .ret
 | _ => none
def Post (n : Nat) (η : List Nat) (S : Nat → Prop) (w : World) (Q : X → Env → Heap → Prop) : Exit → Act → World → Prop := fun e a' w' =>
 ∃ x, exitX e = some x ∧ ∃ E' H' η' S' ds', Q x E' H' ∧ At n ds' η' S' w' a' E' H' ∧ Le η S w η' S' w' ∧ Marks w.heap.size ds' η' S' w'
theorem RelAll.append {vs us : Array Value} {ls ms : List L} (h : RelAll η S w vs ls) (k : RelAll η S w us ms) : RelAll η S w (vs ++ us) (ls ++ ms) := by
 obtain ⟨h1, h2⟩ := h
 obtain ⟨k1, k2⟩ := k
 refine ⟨by simp [h1, k1], fun j => ?_⟩
 by_cases hj : j < vs.size
 ·have := h2 j
  simpa [Array.getD_eq_getD_getElem?, List.getD, Array.getElem?_append_left hj, List.getElem?_append_left (show j < ls.length by omega)] using this
 ·have := k2 (j - vs.size)
  simp only [Array.getD_eq_getD_getElem?, List.getD, Array.getElem?_append_right (Nat.le_of_not_lt hj), List.getElem?_append_right (show ls.length ≤ j by omega), ← h1] at this ⊢
  exact this
theorem relAll_args (hE : REnv η S w a.tmps E) {xs : Array Operand} {ys : List A} (h : compAs xs.toList = some ys) : RelAll η S w (xs.map a.eval) (ys.map (arg E)) := by
 obtain ⟨e1, e2⟩ := compAs_sound hE h
 refine ⟨by simp at e1 ⊢; exact e1, fun j => ?_⟩
 have := e2 j
 simpa [Array.getD_eq_getD_getElem?, List.getD] using this
theorem upon_call {o : Oper} {f : FuncId} {args : Array Value} {ls : List L} {K : L → Heap → Prop} {next : Act → World → Prop} {Q : Exit → Act → World → Prop} (hnd : ∀ c, o.op ≠ .defer c) (hrun : okF P f = true → (execOp a.eval o).run P w = .ok (.enter f args) w)
  (hC : Conc η S w H) (hargs : RelAll η S w args ls) (h : callAt P f ls H K)
  (hn : ∀ v l H' η' S' w', K l H' → Rel S' w' η' v l → Conc η' S' w' H' → Le η S w η' S' w' → next (a.put o.dst v) w') : o.wpIn (FW ro) 0 P a w next Q := by
 obtain ⟨hok, h⟩ := h
 refine wpI_run hnd (hrun hok) ?_
 rw [Oper.uponIn_enter]
 refine ⟨fun h => (by cases h), (show CallsIn Fence.wide 0 P f args w _ from callsIn_wide.2 ((h η S w args hC hargs).mono ?_))⟩
 rintro e w' ⟨v, l, H', η', S', rfl, hK, h1, h2, h3⟩
 exact hn v l H' η' S' w' hK h1 h2 h3
theorem run_callFunc {f : FuncId} {args : Array Value} (h : okF P f = true) : (callFunc f args).run P w = .ok (.enter f args) w := by
 unfold okF at h
 cases hf : P.funcs[f]? with
 | none => simp [hf] at h
 | some fn =>
  simp only [hf, Bool.and_eq_true, bne_iff_ne, ne_eq] at h
  obtain ⟨h1, h2⟩ := h
  simp only [callFunc, Sem.run_bind, run_program, Result.andThen_ok, hf]
  have h3 : fn.body.isNone = false := by cases hb : fn.body <;> simp_all
  simp [h2, h3]
theorem run_equalIn_nil (d : Nat) {t e : TypeId} (hu : P.underlying t = some (.slice e)) (ad : Option Addr) (m cap : Nat) : (Op.equalIn (d + 1) t (.slice ad m cap) (.slice none 0 0)).run P w = .ok ad.isNone w := by
 simp only [Op.equalIn, Sem.run_bind, run_underlying hu, Result.andThen_ok]
 cases ad <;> simp
theorem run_nil {op : BinOp} {t e : TypeId} {o1 o2 : Operand} (hu : P.underlying t = some (.slice e)) (hop : op = .eql ∨ op = .neq) (ad : Option Addr) (m cap : Nat) :
  (do eqGuard op t o1 o2 (.slice ad m cap) (.slice none 0 0); binOp op t (.slice ad m cap) (.slice none 0 0) : Sem Value).run P w = .ok (.bool (if ad.isNone then !(op == .neq) else (op == .neq))) w := by
 have heq : (Op.equal t (.slice ad m cap) (.slice none 0 0)).run P w = .ok ad.isNone w := run_equalIn_nil 9999 hu ad m cap
 rcases hop with rfl | rfl
 ·cases ad <;> (simp only [eqGuard, binOp, Sem.run_bind]; simp; rw [heq]; rfl)
 ·cases ad <;> (simp only [eqGuard, binOp, Sem.run_bind]; simp; rw [heq]; rfl)
theorem lop_sound {o : Oper} {i : I} {K : L → Heap → Prop} {next : Act → World → Prop} {Q : Exit → Act → World → Prop} (hc : compOp P o.op = some i) (hl : lop P i E H K) (hC : Conc η S w H) (hE : REnv η S w a.tmps E)
  (hn : ∀ v l H' η' S' w', K l H' → Rel S' w' η' v l → Conc η' S' w' H' → Le η S w η' S' w' → next (a.put o.dst v) w') : o.wpIn (FW ro) 0 P a w next Q := by
 have simple : optK (lopO i E H) (fun r => K r.1 r.2) → o.wpIn (FW ro) 0 P a w next Q := fun h => by
  obtain ⟨⟨l, H'⟩, h1, h2⟩ := h
  obtain ⟨v, w', η', S', hr, g1, g2, g3⟩ := lopO_fine hc h1 hC hE
  rcases hr with hr | ⟨hr, rfl⟩
  ·refine wpI_run (compOp_nd hc) hr ?_; rw [Oper.uponIn_value]; exact hn v l H' η' S' w' h2 g1 g2 g3
  ·refine wpI_run (compOp_nd hc) hr ?_; rw [Oper.uponIn_skip]; exact hn undef l H' η' S' w' h2 g1 g2 g3
 have hcall : ∀ c, o.op = .call c → compCall P c = some i := fun c ho => by rw [ho] at hc; exact hc
 cases i with
 | call f xs =>
  have hl : callAt P f (xs.map (arg E)) H K := hl
  obtain ⟨dst, op, ty, pos, after, guard⟩ := o
  cases op
  case call c =>
   obtain ⟨callee, args, argTypes⟩ := c
   simp only [compOp] at hc
   unfold compCall at hc
   split at hc
   ·rename_i f' hcal
    simp only at hcal; subst hcal
    split at hc
    ·simp only [Option.map_eq_some_iff] at hc
     obtain ⟨ys, hys, he⟩ := hc
     cases he
     refine upon_call (fun c e => by cases e) (fun hok => ?_) hC (relAll_args hE hys) hl hn
     simp only [execOp, resolve, Act.eval, Deferred.ofValue, pure_bind, invoke]
     simp only [Array.append_empty, Array.empty_append]
     exact run_callFunc hok
    ·simp at hc
   all_goals (exfalso; revert hc; (repeat' split) <;> simp [Option.bind_eq_some_iff])
  all_goals (exfalso; revert hc; simp only [compOp]; (repeat' split) <;> simp [Option.bind_eq_some_iff])
 | calld x xs =>
  have hl : callD P (arg E x) (xs.map (arg E)) H K := hl
  obtain ⟨dst, op, ty, pos, after, guard⟩ := o
  cases op
  case call c =>
   obtain ⟨callee, args, argTypes⟩ := c
   simp only [compOp] at hc
   unfold compCall at hc
   split at hc
   ·split at hc
    ·simp [Option.map_eq_some_iff] at hc
    ·simp at hc
   ·rename_i t hcal
    simp only at hcal; subst hcal
    simp only [Option.map_eq_some_iff] at hc
    obtain ⟨ys, hys, he⟩ := hc
    cases he
    unfold callD at hl
    split at hl
    ·rename_i f ff cc e
     have hx : Rel S w η (a.eval (.tmp t)) (.fn (.func f) ff cc) := by rw [← e]; exact hE t
     obtain ⟨first, cap, hv, z1, z2, r1, r2⟩ := hx.inv_fn
     refine upon_call (args := first ++ args.map a.eval ++ cap) (fun c e => by cases e) (fun hok => ?_) hC (((show RelAll η S w first ff from ⟨z1, r1⟩).append (relAll_args hE hys)).append ⟨z2, r2⟩) hl hn
     simp only [execOp, resolve, hv, Deferred.ofValue, pure_bind, invoke]
     exact run_callFunc hok
    ·rename_i h e
     have hx : Rel S w η (a.eval (.tmp t)) (.yl h) := by rw [← e]; exact hE t
     obtain ⟨b, hv, hη⟩ := hx.inv_yl
     obtain ⟨b', hη', f, tmps, asg, bdy, hrun, hround⟩ := hl η S w (args.map a.eval) hC (relAll_args hE hys)
     rw [hη] at hη'; cases hη'
     refine wpI_run (fun c e => by cases e) (r := .ok (.round b f tmps asg bdy) w) ?_ ?_
     ·simp only [execOp, resolve, hv, Deferred.ofValue, pure_bind, invoke]
      simpa using hrun
     ·rw [Oper.uponIn_round]
      refine ⟨fun h => (by cases h), (show RoundIn Fence.wide 0 P b f tmps asg bdy w _ from hround.mono ?_)⟩
      rintro e' w' ⟨v, l, H', η', S', rfl, hK, h1, h2, h3⟩
      exact hn v l H' η' S' w' hK h1 h2 h3
    ·exact hl.elim
   all_goals (exfalso; revert hc; (repeat' split) <;> simp [Option.bind_eq_some_iff])
  all_goals (exfalso; revert hc; simp only [compOp]; (repeat' split) <;> simp [Option.bind_eq_some_iff])
 | isnil neg x =>
  obtain ⟨dst, op, ty, pos, after, guard⟩ := o
  cases op
  case binOp op t x' y' t' =>
   simp only [compOp] at hc
   split at hc
   ·rename_i hcmp
    simp only [Option.map_eq_some_iff, I.isnil.injEq] at hc
    obtain ⟨z, hz, rfl, rfl⟩ := hc
    have hx := compA_sound hz hE
    unfold nilCmp at hcmp
    split at hcmp
    rotate_left
    ·simp at hcmp
    simp only [Bool.and_eq_true, Bool.or_eq_true, beq_iff_eq] at hcmp
    obtain ⟨hsl, hop⟩ := hcmp
    obtain ⟨e, hu⟩ : ∃ e, P.underlying t = some (.slice e) := by
     split at hsl
     ·exact ⟨_, by assumption⟩
     ·simp at hsl
    have hrun : ∀ (ad : Option Addr) (m cap : Nat), a.eval x' = .slice ad m cap → (execOp a.eval ⟨dst, .binOp op t x' (.const (.slice none 0 0)) t', ty, pos, after, guard⟩).run P w = .ok (.value (.bool (if ad.isNone then !(op == .neq) else (op == .neq)))) w := fun ad m cap hv => by
     have r1 : (do eqGuard op t x' (.const (.slice none 0 0)) (.slice ad m cap) (.slice none 0 0); binOp op t (.slice ad m cap) (.slice none 0 0) : Sem Value).run P w = .ok (.bool (if ad.isNone then !(op == .neq) else (op == .neq))) w := run_nil hu hop ad m cap
     rw [← hv] at r1
     exact run_val r1
    have fin : ∀ (ad : Option Addr) (m cap : Nat), a.eval x' = .slice ad m cap → K (.v (.bool (if ad.isNone then !(op == .neq) else (op == .neq)))) H → Oper.wpIn (FW ro) 0 P ⟨dst, .binOp op t x' (.const (.slice none 0 0)) t', ty, pos, after, guard⟩ a w next Q := fun ad m cap hv hK => by
     refine wpI_run (fun c e => by cases e) (hrun ad m cap hv) ?_
     rw [Oper.uponIn_value]
     exact hn _ _ H η S w hK (.v _) hC (Le.refl _ _ _)
    simp only [lop] at hl
    split at hl
    ·rename_i he
     rw [he] at hx
     exact fin none 0 0 hx.inv_v (by simpa using hl)
    ·rename_i es cl xs he
     rw [he] at hx
     obtain ⟨ad, cap, hv, -, -, -, -, h5⟩ := hx.inv_sl
     refine fin _ _ _ hv ?_
     cases ad with
     | none =>
      refine hl.2 ?_
      rcases Nat.eq_zero_or_pos xs.length with h0 | h0
      ·exact List.eq_nil_of_length_eq_zero h0
      ·obtain ⟨b, o, cs, h6, -⟩ := h5 h0
       cases h6
     | some ad => exact hl.1
    ·rename_i es h off m cl he
     rw [he] at hx
     rcases hx.inv_view with ⟨ad, hv, h0⟩ | ⟨b, cap, c, t0, fr, hv, -⟩
     ·refine fin _ _ _ hv ?_
      cases ad with
      | none => exact hl.2 h0
      | some ad => exact hl.1
     ·exact fin _ _ _ hv hl.1
    ·exact hl.elim
   ·exfalso; revert hc; split <;> simp [Option.bind_eq_some_iff]
  case call c =>
   exfalso
   obtain ⟨callee, args, argTypes⟩ := c
   simp only [compOp] at hc
   unfold compCall at hc
   revert hc; (repeat' split) <;> simp [Option.bind_eq_some_iff]
  all_goals (exfalso; revert hc; simp only [compOp]; (repeat' split) <;> simp [Option.bind_eq_some_iff])
 | nxt x =>
  obtain ⟨dst, op, ty, pos, after, guard⟩ := o
  cases op
  case next x' s =>
   simp only [compOp] at hc
   split at hc
   ·simp at hc
   ·rename_i hs
    simp only [Option.map_eq_some_iff, I.nxt.injEq] at hc
    obtain ⟨y, hy, rfl⟩ := hc
    have hx := compA_sound hy hE
    simp only [lop] at hl
    split at hl
    ·rename_i h he
     rw [he] at hx
     split at hl
     ·rename_i k es seen hlv
      have hs' : s = false := by simpa using hs
      subst hs'
      rcases next_fine (P := P) hC hx hlv ty with ⟨h1, h2⟩ | ⟨i, hi, his, u, v, w', h2, h3, h4⟩
      ·refine wpI_run (fun c e => by cases e) (r := .ok (.value (.tuple #[.bool false])) w) (by simp only [execOp]; exact run_val h2) ?_
       rw [Oper.uponIn_value]
       exact hn _ _ H η S w (hl.2 h1) (.tup rfl fun j => by rcases j with _ | j <;> first | exact .v _ | exact .any _) hC (Le.refl _ _ _)
      ·refine wpI_run (fun c e => by cases e) (r := .ok (.value (.tuple #[.bool true, u, v])) w') (by simp only [execOp]; exact run_val h2) ?_
       rw [Oper.uponIn_value]
       exact hn _ _ _ η S w' (hl.1 i hi his) (.tup rfl fun j => by rcases j with _ | _ | _ | j <;> first | exact .v _ | exact .any _) h3 h4
     ·exact hl.elim
    ·exact hl.elim
  case call c =>
   exfalso
   obtain ⟨callee, args, argTypes⟩ := c
   simp only [compOp] at hc
   unfold compCall at hc
   revert hc; (repeat' split) <;> simp [Option.bind_eq_some_iff]
  all_goals (exfalso; revert hc; simp only [compOp]; (repeat' split) <;> simp [Option.bind_eq_some_iff])
 | _ => exact simple hl
theorem Rel.closed {x : Value} {l : L} (h : Rel S w η x l) (hc : Lg.closed l = true) : Rel S w [] x l := by
 cases h <;> first | (simp [Lg.closed] at hc; done) | skip
 ·exact .any _
 ·exact .no
 ·exact .v _
 ·exact .sl0 ‹_› ‹_›
 ·exact .sl _ ‹_› ‹_› ‹_› ‹_› ‹_› ‹_› ‹_›
 ·exact .cm ‹_› ‹_›
 ·exact .pp _ ‹_› ‹_› ‹_›
theorem chunk_length (n e : Nat) (cs : List L) (h : cs.length = n * e) (he : e ≠ 0) : (chunk n e cs).length = n := by
 unfold chunk
 split
 ·rename_i h1; subst h1; simp; omega
 ·simp
theorem closed_cells {l : L} (h : Lg.closed l = true) : l.cells = [l] := by cases l <;> simp_all [Lg.closed, L.cells]
theorem chunk_cells (n e : Nat) (cs : List L) (h : cs.length = n * e) (hc : cs.all Lg.closed = true) : (∀ y ∈ chunk n e cs, y.cells.length = e ∧ (e = 1 → y.cells = [y])) ∧ flat e (chunk n e cs) = cs := by
 unfold chunk flat
 by_cases h1 : e = 1
 ·subst h1
  simp only [if_true]
  rw [List.take_of_length_le (by omega)]
  exact ⟨fun y hy => by rw [closed_cells (List.all_eq_true.1 hc y hy)]; simp, rfl⟩
 ·simp only [h1, if_false]
  refine ⟨fun y hy => ?_, ?_⟩
  ·simp only [List.mem_map, List.mem_range] at hy
   obtain ⟨i, hi, rfl⟩ := hy
   have : i * e + e ≤ n * e := by rw [← Nat.succ_mul]; exact Nat.mul_le_mul_right _ hi
   refine ⟨by simp [L.cells]; omega, fun he => he.elim⟩
  ·have key : ∀ k, k ≤ n → ((List.range k).map fun i => L.agg ((cs.drop (i * e)).take e)).flatMap L.cells = cs.take (k * e) := by
    intro k
    induction k with
    | zero => intro _; simp
    | succ k ih =>
     intro hk
     rw [List.range_succ, List.map_append, List.flatMap_append, ih (by omega)]
     simp only [List.map_cons, List.map_nil, List.flatMap_cons, List.flatMap_nil, L.cells, List.append_nil]
     rw [Nat.succ_mul, List.take_add]
   rw [key n (Nat.le_refl _), ← h, List.take_length]
theorem frz1_rel (hC : Conc η S w H) {fz : List Nat} {S' : Nat → Prop} (hS : ∀ b, (S b ∨ ∃ (h : Nat) (ls : List L), fz.contains h = true ∧ η[h]? = some b ∧ H[h]? = some (some ls)) → S' b) {x : Value} {l : L} (hx : Rel S w η x l) : Rel S' w η x (frz1 H fz l) := by
 have up : ∀ {η x l}, Rel S w η x l → Rel S' w η x l := fun h => h.mono (fun b hb => hS b (.inl hb)) (fun _ _ => rfl) (fun _ c _ fr h => ⟨c, fr, h, rfl⟩) (fun _ _ h => h)
 unfold frz1
 split
 rotate_left
 ·rename_i h
  split
  ·rename_i hfz
   split
   ·rename_i k es hl
    obtain ⟨b, rfl, hη⟩ := hx.inv_mref
    exact .cm (hS b (.inr ⟨_, _, hfz, hη, live_iff.1 hl⟩)) (hC.mapAt hη (live_iff.1 hl))
   ·exact .any _
  ·exact up hx
 ·exact up hx
 rename_i e h off n c
 split
 rotate_left
 ·exact up hx
 rename_i hfz
 split
 rotate_left
 ·exact .any _
 rename_i cs hl
 split
 rotate_left
 ·exact .any _
 rename_i hcond
 obtain ⟨hle, he, hall⟩ := hcond
 have hlen : ((cs.drop off).take (n * e)).length = n * e := by simp; omega
 have hcl := chunk_length n e _ hlen he
 rcases hx.inv_view with ⟨ad, rfl, rfl⟩ | ⟨b, cap, c0, t, fr, rfl, hη, hb, hsz, hn, hm, hcp⟩
 ·have : chunk 0 e ((cs.drop off).take (0 * e)) = [] := List.eq_nil_of_length_eq_zero hcl
  rw [this]; exact .sl0 (fun _ => rfl) (by simp [maxLen])
 ·obtain ⟨c1, t1, fr1, q1, q2, q3, q4⟩ := hC.live hb hη (live_iff.1 hl)
  obtain ⟨k1, k2⟩ := chunk_cells n e _ hlen hall
  have := Rel.sl (S := S') (w := w) (η := η) (b := b) (o := off) (cap := cap) (esz := e) (clip := c) (xs := chunk n e ((cs.drop off).take (n * e))) (fun j => c1.getD (off + j) undef) (by rw [hcl]; exact hn) hm (fun h => by rw [hcl]; exact hcp h) k1
   (fun _ => hS b (.inr ⟨_, _, hfz, hη, live_iff.1 hl⟩)) (fun j hj => by rw [hcl] at hj; exact cell_of q1 (by omega)) (fun j => by
    rw [k2]
    by_cases hj : j < n * e
    ·have hr := q4 (off + j) (by omega)
     rw [← getD_dropTake _ _ _ _ hj] at hr
     have hcj : Lg.closed (((cs.drop off).take (n * e)).getD j .any) = true := by
      rw [getD_of_lt _ _ (by omega)]
      exact List.all_eq_true.1 hall _ (List.getElem_mem _)
     exact up (hr.closed hcj)
    ·rw [getD_of_ge _ _ (by omega)]; exact .any _)
  rwa [hcl] at this
theorem frzP_rel (hC : Conc η S w H) {fz : List Nat} {S' : Nat → Prop} (hS : ∀ b, (S b ∨ ∃ (h : Nat) (ls : List L), fz.contains h = true ∧ η[h]? = some b ∧ H[h]? = some (some ls)) → S' b) {x : Value} {l : L} (hx : Rel S w η x l) : Rel S' w η x (frzP H fz l) := by
 have up : ∀ {η x l}, Rel S w η x l → Rel S' w η x l := fun h => h.mono (fun b hb => hS b (.inl hb)) (fun _ _ => rfl) (fun _ c _ fr h => ⟨c, fr, h, rfl⟩) (fun _ _ h => h)
 unfold frzP
 split
 rotate_left
 ·exact frz1_rel hC hS hx
 rename_i h off
 split
 rotate_left
 ·exact up hx
 rename_i hfz
 split
 rotate_left
 ·exact .any _
 rename_i cs hl
 split
 rotate_left
 ·exact .any _
 rename_i hall
 obtain ⟨b, rfl, hη, c0, t0, fr0, hb⟩ := hx.inv_ptr
 obtain ⟨c1, t1, fr1, q1, q2, q3, q4⟩ := hC.live hb hη (live_iff.1 hl)
 refine .pp (fun j => c1.getD (off + j) undef) (fun _ => hS b (.inr ⟨_, _, hfz, hη, live_iff.1 hl⟩)) (fun j hj => cell_of q1 (by simp at hj; omega)) (fun j => ?_)
 by_cases hj : off + j < cs.length
 ·have hr := q4 (off + j) hj
  have e : (cs.drop off).getD j .any = cs.getD (off + j) .any := by simp [List.getD_eq_getElem?_getD]
  rw [e]
  refine up (hr.closed ?_)
  rw [getD_of_lt _ _ hj]
  exact List.all_eq_true.1 hall _ (List.getElem_mem _)
 ·rw [getD_of_ge _ _ (by simp; omega)]; exact .any _
theorem map_getD_any {f : L → L} (hf : f .any = .any) {ls : List L} {j : Nat} : (ls.map f).getD j .any = f (ls.getD j .any) := by
 by_cases h : j < ls.length
 ·rw [getD_of_lt _ _ (by simpa using h), getD_of_lt _ _ h, List.getElem_map]
 ·rw [getD_of_ge _ _ (by simpa using h), getD_of_ge _ _ (by omega), hf]
theorem frz_rel (hC : Conc η S w H) {fz : List Nat} {S' : Nat → Prop} (hS : ∀ b, (S b ∨ ∃ (h : Nat) (ls : List L), fz.contains h = true ∧ η[h]? = some b ∧ H[h]? = some (some ls)) → S' b) {x : Value} {l : L} (hx : Rel S w η x l) : Rel S' w η x (frz H fz l) := by
 have up : ∀ {η x l}, Rel S w η x l → Rel S' w η x l := fun h => h.mono (fun b hb => hS b (.inl hb)) (fun _ _ => rfl) (fun _ c _ fr h => ⟨c, fr, h, rfl⟩) (fun _ _ h => h)
 unfold frz
 split
 ·rename_i cs
  obtain ⟨vs, rfl, h1, h2⟩ := hx.inv_agg
  exact .agg (by simpa using h1) fun j => by rw [map_getD_any rfl]; exact frz1_rel hC hS (h2 j)
 ·rename_i f ff cc
  obtain ⟨first, cap, rfl, h1, h2, r1, r2⟩ := hx.inv_fn
  exact .fn (by simpa using h1) (by simpa using h2) (fun j => by rw [map_getD_any rfl]; exact frzP_rel hC hS (r1 j)) (fun j => by rw [map_getD_any rfl]; exact frzP_rel hC hS (r2 j))
 ·exact frz1_rel hC hS hx
theorem frzH_length {H : Heap} {fz : List Nat} : ∀ {rs : Heap} {i : Nat}, (frzH H fz i rs).length = rs.length
 | [], _ => rfl
 | _ :: rs, i => by simp [frzH, frzH_length (rs := rs)]
theorem frzH_get {H : Heap} {fz : List Nat} : ∀ {rs : Heap} {i h : Nat} {ls : List L}, (frzH H fz i rs)[h]? = some (some ls) → ∃ ls0, rs[h]? = some (some ls0) ∧ fz.contains (i + h) = false ∧ ls = ls0.map (frz H fz)
 | [], i, h, ls, e => by simp [frzH] at e
 | r :: rs, i, 0, ls, e => by
  simp only [frzH, List.getElem?_cons_zero, Option.some.injEq] at e
  cases r with
  | none => simp [frzRow] at e
  | some ls0 =>
   simp only [frzRow] at e
   split at e
   ·simp at e
   ·rename_i hc
    simp at e
    exact ⟨ls0, by simp, by simpa using hc, e.symm⟩
 | r :: rs, i, h + 1, ls, e => by
  obtain ⟨ls0, h1, h2, h3⟩ := frzH_get (rs := rs) (i := i + 1) (h := h) (by simpa [frzH] using e)
  exact ⟨ls0, by simpa using h1, by rw [show i + (h + 1) = i + 1 + h by omega]; exact h2, h3⟩
theorem At.frz {n : Nat} {η₀ : List Nat} {S₀ : Nat → Prop} {w₀ : World} (h : At n ds η S w a E H) (hL : Le η₀ S₀ w₀ η S w) (fz : List Nat) :
  ∃ S', At n ds η S' w a (frzE H fz E) (frzH H fz 0 H) ∧ Le η₀ S₀ w₀ η S' w ∧ ∀ b, S' b → S b ∨ b ∈ η := by
 obtain ⟨ζ, hζ, hnew⟩ := hL.pre
 let S' : Nat → Prop := fun b => S b ∨ ∃ (h : Nat) (ls : List L), fz.contains h = true ∧ η[h]? = some b ∧ H[h]? = some (some ls)
 have hr : ∀ {x l}, Rel S w η x l → Rel S' w η x (Lg.frz H fz l) := fun hx => frz_rel h.conc (fun b hb => hb) hx
 refine ⟨S', ⟨⟨by rw [frzH_length]; exact h.conc.len, h.conc.lt, fun b hb => ?_, fun k b ls e1 e2 => ?_, fun k b ls e1 e2 => ?_⟩, fun t => ?_, h.size, h.defers⟩,
  ⟨hL.pre, fun b hb => .inl (hL.sub b hb), hL.keep, hL.shape, hL.size, hL.frame, fun b hb => ?_, hL.os, hL.tape, hL.output⟩, fun b hb => ?_⟩
 rotate_right
 ·rcases hb with hb | ⟨k, ls, -, e, -⟩
  ·exact .inl hb
  ·exact .inr (List.mem_of_getElem? e)
 ·rcases hb with hb | ⟨k, ls, -, e, -⟩
  ·exact h.conc.Slt b hb
  ·exact h.conc.lt b (List.mem_of_getElem? e)
 ·obtain ⟨ls0, f1, f2, rfl⟩ := frzH_get e2
  simp only [Nat.zero_add] at f2
  obtain ⟨p1, p2⟩ := h.conc.apart k b ls0 e1 f1
  refine ⟨fun hs => ?_, fun k' ls' g1 g2 => ?_⟩
  ·rcases hs with hs | ⟨k', ls', q1, q2, q3⟩
   ·exact p1 hs
   ·have := p2 k' ls' q2 q3
    subst this
    rw [q1] at f2; cases f2
  ·obtain ⟨ls1, f3, -, -⟩ := frzH_get g2
   exact p2 k' ls1 g1 f3
 ·obtain ⟨ls0, f1, f2, rfl⟩ := frzH_get e2
  rcases h.conc.liveAt k b ls0 e1 f1 with ⟨c, t, fr, g1, g2, g3, g4⟩ | ⟨kk, es, e, hm⟩ | ⟨rc, st, pd, ks, ts, e, r, g1, g2, g3, g4, g5, g6, g7, g8⟩ | ⟨kk, es, seen, e, m, g1, g2, g3⟩
  rotate_right
  ·exact .inr (.inr (.inr ⟨kk, es, seen, by rw [e]; rfl, m, g1, g2.mono (fun b hb => .inl hb) (fun _ _ => rfl) (fun _ c _ fr h => ⟨c, fr, h, rfl⟩) (fun _ _ h => h), g3⟩))
  ·refine .inl ⟨c, t, fr, g1, by simpa using g2, g3, fun j hj => ?_⟩
   simp at hj
   have := hr (g4 j hj)
   rw [getD_of_lt _ _ (by simpa using hj), List.getElem_map]
   rwa [getD_of_lt _ _ hj] at this
  ·exact .inr (.inl ⟨kk, es, by rw [e]; rfl, hm⟩)
  ·refine .inr (.inr (.inl ⟨rc, st, pd, ks, ts, by rw [e]; rfl, r, g1, g2, g3, g4, g5, g6, g7, fun j => (g8 j).mono (fun b hb => .inl hb) (fun _ _ => rfl) (fun _ c _ fr h => ⟨c, fr, h, rfl⟩) (fun _ _ h => h)⟩))
 ·have : lk (frzE H fz E) t = Lg.frz H fz (lk E t) := by
   clear hr
   clear h
   induction E with
   | nil => rfl
   | cons p E ih =>
    obtain ⟨k, l⟩ := p
    simp only [frzE, List.map_cons, lk] at ih ⊢
    split
    ·rfl
    ·exact ih
  rw [this]
  exact hr (h.env t)
 ·rcases hb with hb | ⟨k, ls, -, e, -⟩
  ·exact hL.new b hb
  ·have hm := List.mem_of_getElem? e
   rw [hζ] at hm
   rcases List.mem_append.1 hm with hm | hm
   ·exact .inr (.inl hm)
   ·exact .inr (hnew b hm)
theorem lk_frzE {H : Heap} {fz : List Nat} : ∀ {E : Env} {t : Nat}, lk (frzE H fz E) t = Lg.frz H fz (lk E t)
 | [], _ => rfl
 | (k, l) :: E, t => by
  simp only [frzE, List.map_cons, lk]
  split
  ·rfl
  ·exact lk_frzE
theorem compAs_frz {H : Heap} {fz : List Nat} {E : Env} : ∀ {ys : List Operand} {xs : List A}, compAs ys = some xs → (xs.map (arg E)).map (Lg.frz H fz) = xs.map (arg (frzE H fz E))
 | [], xs, h => by simp [compAs] at h; subst h; rfl
 | y :: ys, xs, h => by
  simp only [compAs, Option.bind_eq_some_iff, Option.map_eq_some_iff] at h
  obtain ⟨a, ha, as, has, rfl⟩ := h
  simp only [List.map_cons]
  rw [compAs_frz has]
  congr 1
  cases y with
  | tmp t => simp [compA] at ha; subst ha; exact lk_frzE.symm
  | const v =>
   simp [compA] at ha; subst ha
   cases v <;> first | rfl | skip
   simp only [arg, ofV, Lg.frz, List.map_map]
   congr 1
  | func f => simp [compA] at ha; subst ha; rfl
  | global g => simp [compA] at ha
theorem compOp_call {op : Op} {f : FuncId} {xs : List A} (hc : compOp P op = some (.call f xs)) : ∃ ys, compAs ys = some xs := by
 cases op
 case call c =>
  obtain ⟨callee, args, argTypes⟩ := c
  simp only [compOp] at hc
  unfold compCall at hc
  split at hc
  ·split at hc
   ·simp only [Option.map_eq_some_iff] at hc
    obtain ⟨ys, hys, he⟩ := hc
    cases he
    exact ⟨_, hys⟩
   ·simp at hc
  all_goals (exfalso; revert hc; (repeat' split) <;> simp [Option.bind_eq_some_iff])
 all_goals (exfalso; revert hc; simp only [compOp]; (repeat' split) <;> simp [Option.bind_eq_some_iff])
theorem lopE_sound {n : Nat} {o : Oper} {i : I} {K : Env → L → Heap → Prop} {next : Act → World → Prop} {Q : Exit → Act → World → Prop} (hc : compOp P o.op = some i) (hl : lopE P i E H K) (hA : At n ds η S w a E H)
  (hQ : ∀ v E' l' H1 S1 H' η' S' w', K E' l' H' → At n ds η S1 w a E' H1 → Le η S w η S1 w → Rel S' w' η' v l' → Conc η' S' w' H' → Le η S1 w η' S' w' → next (a.put o.dst v) w') : o.wpIn (FW ro) 0 P a w next Q := by
 have plain : lop P i E H (K E) → o.wpIn (FW ro) 0 P a w next Q := fun h => lop_sound hc h hA.conc hA.env fun v l' H' η' S' w' hK hr hC hL => hQ v E l' H S H' η' S' w' hK hA (Le.refl _ _ _) hr hC hL
 cases i with
 | call f xs =>
  rcases hl with hl | ⟨fz, hl⟩
  ·exact plain hl
  ·obtain ⟨S1, hA1, hL1, -⟩ := hA.frz (Le.refl _ _ _) fz
   obtain ⟨ys, hys⟩ := compOp_call hc
   rw [compAs_frz hys] at hl
   exact lop_sound hc (show lop P (.call f xs) (frzE H fz E) (frzH H fz 0 H) (K (frzE H fz E)) from hl) hA1.conc hA1.env fun v l' H' η' S' w' hK hr hC hL => hQ v _ l' _ S1 H' η' S' w' hK hA1 hL1 hr hC hL
 | _ => exact plain hl
theorem lops_sound {n : Nat} {ops : Array Oper} {Qf : Exit → Act → World → Prop} {K : Env → Heap → Prop} : ∀ {l : List Oper} {ol : List O} {E : Env} {H : Heap} {η : List Nat} {S : Nat → Prop} {w : World} {a : Act}, compOps P n ops l = some ol → lops P ol K E H → At n ds η S w a E H →
  (∀ E' H' η' S' w' a', K E' H' → At n ds η' S' w' a' E' H' → Le η S w η' S' w' → Qf .normal a' w') → wpListIn (FW ro) 0 P ops Qf l a w
 | [], ol, E, H, η, S, w, a, hc, hl, hA, hQ => by
  simp [compOps] at hc; subst hc
  exact hQ E H η S w a hl hA (Le.refl _ _ _)
 | o :: l, ol, E, H, η, S, w, a, hc, hl, hA, hQ => by
  simp only [compOps, Option.bind_eq_some_iff, Option.map_eq_some_iff] at hc
  obtain ⟨oo, ho, ol', hol, rfl⟩ := hc
  simp only [compO, Option.bind_eq_some_iff] at ho
  obtain ⟨i, hi, ho⟩ := ho
  split at ho
  rotate_left
  ·simp at ho
  rename_i hd
  have hd' : ∀ t, o.dst = some t → t < n := fun t ht => by rw [ht] at hd; simpa [dstOk] using hd
  have runIt : ∀ {E' : Env}, At n ds η S w a E' H → (lopE P i E' H fun E1 l H' => lops P ol' K (putE E1 o.dst l) H') → o.wpIn (FW ro) 0 P a w (wpListIn (FW ro) 0 P ops Qf l) Qf := fun {E'} hA' hl' => by
   refine lopE_sound hi hl' hA' ?_
   intro v E1 l' H1 S1 H' η' S' w' hK hA1 hL1 hr hC' hL
   exact lops_sound hol hK (hA1.put hd' hC' hL hr) (fun E2 H2 η2 S2 w2 a2 k1 k2 k3 => hQ E2 H2 η2 S2 w2 a2 k1 k2 ((hL1.trans hL).trans k3))
  have passIt : ∀ {E' : Env}, At n ds η S w a E' H → lops P ol' K (putE E' o.dst .no) H → wpListIn (FW ro) 0 P ops Qf l (a.put o.dst undef) w := fun {E'} hA' hl' =>
   lops_sound hol hl' (hA'.put hd' hA'.conc (Le.refl _ _ _) .no) hQ
  unfold wpListIn
  cases hg : o.guard with
  | none =>
   simp only [hg, Option.some.injEq] at ho
   subst ho
   have hw : Region.wanted o (yielded ops a.tmps) = true := by simp [Region.wanted, hg]
   rw [if_pos hw]
   exact (runIt hA hl)
  | some jb =>
   obtain ⟨j, b⟩ := jb
   simp only [hg, Option.map_eq_some_iff] at ho
   obtain ⟨s, hs, rfl⟩ := ho
   simp only [lops, lguard] at hl
   have hwant : ∀ x : Value, a.tmps.getD s undef = x → Region.wanted o (yielded ops a.tmps) = (match x with | .bool y => y == b | _ => false) := fun x hx => by
    simp only [Region.wanted, hg, yielded, hs, Option.bind_some]
    by_cases hlt : s < a.tmps.size
    ·rw [agetD_of_lt _ _ hlt] at hx
     simp only [Array.getElem?_eq_getElem hlt, hx]
     cases x <;> simp
    ·rw [agetD_of_ge _ _ (by omega)] at hx
     subst hx
     simp [Array.getElem?_eq_none (Nat.le_of_not_lt hlt), undef]
   have hE := hA.env s
   split at hl
   ·rename_i x e
    rw [e] at hE
    have hv := hE.inv_v
    rw [hwant _ hv]
    have again : ∀ c, x = c → At n ds η S w a ((s, .v (.bool c)) :: E) H := fun c hx => by
     subst hx
     refine ⟨hA.conc, fun u => ?_, hA.size, hA.defers⟩
     by_cases hu : u = s
     ·subst hu; simp only [lk, if_true]; rw [hv]; exact .v _
     ·simp only [lk, hu, if_false]; exact hA.env u
    by_cases hxb : x = b
    ·simp only [hxb, beq_self_eq_true, if_true]
     exact (runIt (again b hxb) (hl.1 hxb))
    ·have hxb' : x = !b := by cases x <;> cases b <;> simp_all
     simp only [beq_eq_false_iff_ne.2 hxb, Bool.false_eq_true, if_false]
     exact ⟨fun _ _ => trivial, passIt (again (!b) hxb') (hl.2 hxb')⟩
   ·rename_i e
    rw [e] at hE
    have hv := hE.inv_no
    rw [hwant _ hv]
    simp only [undef, Bool.false_eq_true, if_false]
    exact ⟨fun _ _ => trivial, passIt hA hl⟩
   ·exact hl.elim
theorem belowL_get {n : Nat} : ∀ {ls : List L}, belowL n ls = true → ∀ j, below n (ls.getD j .any) = true
 | [], _, j => by simp [below]
 | l :: ls, h, j => by
  simp only [belowL, Bool.and_eq_true] at h
  cases j with
  | zero => exact h.1
  | succ j => simpa using belowL_get h.2 j
theorem renL_getD {f : Nat → Nat} : ∀ {ls : List L} {j : Nat}, (renL f ls).getD j .any = ren f (ls.getD j .any)
 | [], j => by simp [renL, ren]
 | l :: ls, 0 => by simp [renL]
 | l :: ls, j + 1 => by simpa [renL] using renL_getD (ls := ls) (j := j)
theorem renL_length {f : Nat → Nat} : ∀ {ls : List L}, (renL f ls).length = ls.length
 | [] => rfl
 | l :: ls => by simp [renL, renL_length (ls := ls)]
theorem Rel.ren {S : Nat → Prop} {w : World} {η : List Nat} {x : Value} {l' : L} (h : Rel S w η x l') {n : Nat} {f : Nat → Nat} {η' : List Nat} (hη : ∀ h, h < n → η'[h]? = η[f h]?) : ∀ l, l' = Lg.ren f l → Lg.below n l = true → Rel S w η' x l := by
 induction h with
 | any v => intro l e _; cases l <;> simp only [Lg.ren] at e <;> first | (cases e; done) | exact .any _
 | no => intro l e _; cases l <;> simp only [Lg.ren] at e <;> first | (cases e; done) | exact .no
 | v x => intro l e _; cases l <;> simp only [Lg.ren] at e <;> first | (cases e; done) | (cases e; exact .v _)
 | sl0 h1 h2 => intro l e _; cases l <;> simp only [Lg.ren] at e <;> first | (cases e; done) | (cases e; exact .sl0 h1 h2)
 | sl cs h2 h3 h4 h5 hS hc hr _ => intro l e _; cases l <;> simp only [Lg.ren] at e <;> first | (cases e; done) | (cases e; exact .sl cs h2 h3 h4 h5 hS hc hr)
 | agg h hr ih =>
  intro l e hb; cases l <;> simp only [Lg.ren] at e <;> first | (cases e; done) | skip
  cases e
  simp only [Lg.below] at hb
  rw [renL_length] at h
  exact .agg h fun j => ih j hη _ renL_getD (belowL_get hb j)
 | tup h hr ih =>
  intro l e hb; cases l <;> simp only [Lg.ren] at e <;> first | (cases e; done) | skip
  cases e
  simp only [Lg.below] at hb
  rw [renL_length] at h
  exact .tup h fun j => ih j hη _ renL_getD (belowL_get hb j)
 | view0 => intro l e _; cases l <;> simp only [Lg.ren] at e <;> first | (cases e; done) | (cases e; exact .view0)
 | view hh hb hsz hn hm hcl =>
  intro l e hb'; cases l <;> simp only [Lg.ren] at e <;> first | (cases e; done) | skip
  cases e
  simp [Lg.below] at hb'
  exact .view (by rw [hη _ hb']; exact hh) hb hsz hn hm hcl
 | ptr hh hb =>
  intro l e hb'; cases l <;> simp only [Lg.ren] at e <;> first | (cases e; done) | skip
  cases e
  simp [Lg.below] at hb'
  exact .ptr (by rw [hη _ hb']; exact hh) hb
 | mref hh =>
  intro l e hb'; cases l <;> simp only [Lg.ren] at e <;> first | (cases e; done) | skip
  cases e
  simp [Lg.below] at hb'
  exact .mref (by rw [hη _ hb']; exact hh)
 | yl hh =>
  intro l e hb'; cases l <;> simp only [Lg.ren] at e <;> first | (cases e; done) | skip
  cases e
  simp [Lg.below] at hb'
  exact .yl (by rw [hη _ hb']; exact hh)
 | itp hh =>
  intro l e hb'; cases l <;> simp only [Lg.ren] at e <;> first | (cases e; done) | skip
  cases e
  simp [Lg.below] at hb'
  exact .itp (by rw [hη _ hb']; exact hh)
 | cm hS hm => intro l e _; cases l <;> simp only [Lg.ren] at e <;> first | (cases e; done) | (cases e; exact .cm hS hm)
 | pp cs hS hc hr _ => intro l e _; cases l <;> simp only [Lg.ren] at e <;> first | (cases e; done) | (cases e; exact .pp cs hS hc hr)
 | fn h1 h2 r1 r2 i1 i2 =>
  intro l e hb; cases l <;> simp only [Lg.ren] at e <;> first | (cases e; done) | skip
  cases e
  simp only [Lg.below, Bool.and_eq_true] at hb
  rw [renL_length] at h1 h2
  exact .fn h1 h2 (fun j => i1 j hη _ renL_getD (belowL_get hb.1 j)) (fun j => i2 j hη _ renL_getD (belowL_get hb.2 j))
theorem renL_it {f : Nat → Nat} {ls : List L} {k : KK} {es : List (MK × Value)} {seen : List Nat} (h : renL f ls = [.it k es seen]) : ls = [.it k es seen] := by
 cases ls with
 | nil => simp [renL] at h
 | cons l ls =>
  simp only [renL, List.cons.injEq] at h
  obtain ⟨h1, h2⟩ := h
  cases ls with
  | nil => cases l <;> simp only [ren] at h1 <;> first | (cases h1; done) | (cases h1; rfl)
  | cons l' ls => simp [renL] at h2
theorem renL_mp {f : Nat → Nat} {ls : List L} {k : KK} {es : List (MK × Value)} (h : renL f ls = [.mp k es]) : ls = [.mp k es] := by
 cases ls with
 | nil => simp [renL] at h
 | cons l ls =>
  simp only [renL, List.cons.injEq] at h
  obtain ⟨h1, h2⟩ := h
  cases ls with
  | nil => cases l <;> simp_all [Lg.ren]
  | cons => simp [renL] at h2
theorem renL_lp {f : Nat → Nat} {ls : List L} {rc : RC} {st : LoopState} {pd : Option Code} {ks : List Nat} {ts : List L} (h : renL f ls = [.lp rc st pd ks ts]) : ∃ ts', ls = [.lp rc st pd ks ts'] ∧ ts = renL f ts' := by
 cases ls with
 | nil => simp [renL] at h
 | cons l ls =>
  simp only [renL, List.cons.injEq] at h
  obtain ⟨h1, h2⟩ := h
  cases ls with
  | nil =>
   cases l <;> simp only [Lg.ren] at h1 <;> first | (cases h1; done) | skip
   cases h1
   exact ⟨_, rfl, rfl⟩
  | cons => simp [renL] at h2
theorem rowsOK_spec {H : Heap} {f : Nat → Nat} {n : Nat} : ∀ {ss : List Nat} {cs : Heap}, rowsOK H f n ss cs → ss.length = cs.length ∧ (∀ s ∈ ss, s < H.length) ∧ ∀ (i : Nat) s ls, ss[i]? = some s → cs[i]? = some (some ls) → H[s]? = some (some (renL f ls)) ∧ belowL n ls = true
 | [], [], _ => ⟨rfl, by simp, by simp⟩
 | s :: ss, c :: cs, h => by
  obtain ⟨⟨h1, h2⟩, h3⟩ := h
  obtain ⟨e1, e2, e3⟩ := rowsOK_spec h3
  refine ⟨by simp [e1], fun t ht => ?_, fun i t ls k1 k2 => ?_⟩
  ·rcases List.mem_cons.1 ht with rfl | ht
   ·exact h1
   ·exact e2 t ht
  ·cases i with
   | zero => simp at k1 k2; subst k1; subst k2; exact h2
   | succ i => exact e3 i t ls (by simpa using k1) (by simpa using k2)
 | [], _ :: _, h => h.elim
 | _ :: _, [], h => h.elim
theorem At.weak {n : Nat} {η₀ : List Nat} {S₀ : Nat → Prop} {w₀ : World} {E E' : Env} {H H' : Heap} {η S w a} (h : At n ds η S w a E H) (hL : Le η₀ S₀ w₀ η S w) (hw : Lg.weak η₀.length E H E' H') :
  ∃ η', At n ds η' S w a E' H' ∧ Le η₀ S₀ w₀ η' S w ∧ ∀ b ∈ η', b ∈ η := by
 obtain ⟨σ, w1, w2, w3, w4⟩ := hw
 obtain ⟨r1, r2, r3⟩ := rowsOK_spec w3
 obtain ⟨ζ, z1, z2⟩ := hL.pre
 have hget : ∀ {k b : Nat}, (σ.map fun s => η.getD s 0)[k]? = some b → ∃ s, σ[k]? = some s ∧ η[s]? = some b := fun {k b} e => by
  simp only [List.getElem?_map, Option.map_eq_some_iff] at e
  obtain ⟨s, h1, h2⟩ := e
  have hs := r2 s (List.mem_of_getElem? h1)
  rw [← h.conc.len] at hs
  refine ⟨s, h1, ?_⟩
  rw [List.getElem?_eq_getElem hs]
  simpa [List.getD, List.getElem?_eq_getElem hs] using h2
 have hη : ∀ i, i < H'.length → (σ.map fun s => η.getD s 0)[i]? = η[σ.getD i 0]? := fun i hi => by
  have hi' : i < σ.length := by omega
  have hs := r2 σ[i] (List.getElem_mem hi')
  rw [← h.conc.len] at hs
  simp [List.getD, List.getElem?_eq_getElem hi', List.getElem?_eq_getElem hs]
 have inj : ∀ {i j s : Nat}, σ[i]? = some s → σ[j]? = some s → i = j := fun {i j s} h1 h2 => by
  obtain ⟨a1, b1⟩ := List.getElem?_eq_some_iff.1 h1
  obtain ⟨a2, b2⟩ := List.getElem?_eq_some_iff.1 h2
  exact (List.getElem_inj w2).1 (b1.trans b2.symm)
 refine ⟨σ.map fun s => η.getD s 0, ⟨⟨by simp [r1], fun b hb => ?_, h.conc.Slt, ?_, ?_⟩, ?_, h.size, h.defers⟩, ?_, fun b hb => ?_⟩
 rotate_right
 ·obtain ⟨k, hk⟩ := List.getElem?_of_mem hb
  obtain ⟨s, -, hs⟩ := hget hk
  exact List.mem_of_getElem? hs
 ·obtain ⟨k, hk⟩ := List.getElem?_of_mem hb
  obtain ⟨s, -, hs⟩ := hget hk
  exact h.conc.lt b (List.mem_of_getElem? hs)
 ·intro k b ls e1 e2
  obtain ⟨s, s1, s2⟩ := hget e1
  obtain ⟨q1, -⟩ := r3 k s ls s1 e2
  obtain ⟨p1, p2⟩ := h.conc.apart s b _ s2 q1
  refine ⟨p1, fun k' ls' f1 f2 => ?_⟩
  obtain ⟨s', s1', s2'⟩ := hget f1
  obtain ⟨q1', -⟩ := r3 k' s' ls' s1' f2
  have := p2 s' _ s2' q1'
  subst this
  exact inj s1' s1
 ·intro k b ls e1 e2
  obtain ⟨s, s1, s2⟩ := hget e1
  obtain ⟨q1, q2⟩ := r3 k s ls s1 e2
  rcases h.conc.liveAt s b _ s2 q1 with ⟨c, t, fr, g1, g2, g3, g4⟩ | ⟨kk, es, e, hm⟩ | ⟨rc, st, pd, ks, ts, e, r, g1, g2, g3, g4, g5, g6, g7, g8⟩ | ⟨kk, es, seen, e, m, g1, g2, g3⟩
  rotate_left
  ·exact .inr (.inl ⟨kk, es, renL_mp e, hm⟩)
  ·obtain ⟨ts', rfl, rfl⟩ := renL_lp e
   simp only [belowL, Lg.below, Bool.and_true] at q2
   exact .inr (.inr (.inl ⟨rc, st, pd, ks, ts', rfl, r, g1, g2, g3, g4, g5, g6, g7, fun j => (g8 j).ren hη _ renL_getD (belowL_get q2 j)⟩))
  ·exact .inr (.inr (.inr ⟨kk, es, seen, renL_it e, m, g1, g2.ren hη _ rfl rfl, g3⟩))
  rw [renL_length] at g2
  refine .inl ⟨c, t, fr, g1, g2, g3, fun j hj => ?_⟩
  have := g4 j (by rw [renL_length]; exact hj)
  exact this.ren hη _ renL_getD (belowL_get q2 j)
 ·intro t
  have : ∀ (l : Env), (∀ p ∈ l, Lg.below H'.length p.2 = true ∧ (p.2 = .any ∨ lk E p.1 = Lg.ren (fun i => σ.getD i 0) p.2)) → Rel S w (σ.map fun s => η.getD s 0) (a.tmps.getD t undef) (lk l t) := by
   intro l
   induction l with
   | nil => intro _; exact .any _
   | cons p l ih =>
    intro hp
    obtain ⟨k, x⟩ := p
    simp only [lk]
    split
    ·rename_i e; subst e
     obtain ⟨h1, h2⟩ := hp (t, x) (by simp)
     rcases h2 with h2 | h2
     ·simp only at h2; rw [h2]; exact .any _
     ·exact (h.env t).ren hη x h2 h1
    ·exact ih fun p hq => hp p (by simp [hq])
  exact this E' w4
 ·refine ⟨⟨(σ.drop η₀.length).map fun s => η.getD s 0, ?_, fun b hb => ?_⟩, hL.sub, hL.keep, hL.shape, hL.size, hL.frame, hL.new, hL.os, hL.tape, hL.output⟩
  ·have e : σ = List.range η₀.length ++ σ.drop η₀.length := by rw [← w1]; exact (List.take_append_drop _ _).symm
   rw [e]
   simp only [List.map_append]
   congr 1
   ·refine List.ext_getElem? fun i => ?_
    by_cases hi : i < η₀.length
    ·rw [List.getElem?_map, List.getElem?_range hi]
     simp only [Option.map_some, List.getD, z1, List.getElem?_append_left hi, List.getElem?_eq_getElem hi, Option.getD_some]
    ·rw [List.getElem?_map, List.getElem?_eq_none (show (List.range η₀.length).length ≤ i by simp; omega), List.getElem?_eq_none (show η₀.length ≤ i by omega)]
     rfl
   ·have hl : η₀.length ≤ σ.length := by
     have := congrArg List.length w1
     simp at this; omega
    simp
  ·obtain ⟨s, hs, rfl⟩ := List.mem_map.1 hb
   have hs' : s < η.length := by rw [h.conc.len]; exact r2 s (List.mem_of_mem_drop hs)
   have hmem : η.getD s 0 ∈ η := by
    rw [show η.getD s 0 = η[s] by simp [List.getD, List.getElem?_eq_getElem hs']]
    exact List.getElem_mem hs'
   rw [z1] at hmem
   rcases List.mem_append.1 hmem with hm | hm
   ·rw [z1]; exact .inl hm
   ·rw [z1]; exact z2 _ hm
theorem findLab_ok {sel : Nat → Bool} {n : Nat} : ∀ {c : Code} {b : IR}, compS sel P n c = some b → ∀ {l : Nat} {rest : IR}, findLab b l = some rest → ∃ r, findLabel c l = some r ∧ compS sel P n r = some rest
 | .seq x y, b, h, l, rest, hf => by
  simp only [compS, Option.bind_eq_some_iff, Option.map_eq_some_iff] at h
  obtain ⟨b1, h1, b2, h2, rfl⟩ := h
  simp only [findLab] at hf
  cases e : findLab b1 l with
  | some r1 =>
   simp only [e, Option.some.injEq] at hf
   subst hf
   obtain ⟨r, g1, g2⟩ := findLab_ok h1 e
   exact ⟨.seq r y, by simp [findLabel, g1], by simp [compS, g2, h2]⟩
  | none =>
   simp only [e] at hf
   obtain ⟨r, g1, g2⟩ := findLab_ok h2 hf
   have : findLabel x l = none := by
    cases e' : findLabel x l with
    | none => rfl
    | some r' =>
     exfalso
     have key : ∀ {c : Code} {b : IR}, compS sel P n c = some b → ∀ r', findLabel c l = some r' → findLab b l ≠ none := by
      intro c
      induction c with
      | seq u v iu iv =>
       intro b hb r' hr'
       simp only [compS, Option.bind_eq_some_iff, Option.map_eq_some_iff] at hb
       obtain ⟨c1, k1, c2, k2, rfl⟩ := hb
       simp only [findLabel] at hr'
       simp only [findLab]
       cases e1 : findLabel u l with
       | some u' =>
        have := iu k1 u' e1
        cases e2 : findLab c1 l with
        | some _ => simp
        | none => exact absurd e2 this
       | none =>
        simp only [e1] at hr'
        have := iv k2 r' hr'
        cases e2 : findLab c1 l with
        | some _ => simp
        | none => simpa using this
      | label l' =>
       intro b hb r' hr'
       simp only [compS, Option.some.injEq] at hb
       subst hb
       simp only [findLabel] at hr'
       simp only [findLab]
       split at hr' <;> simp_all
      | _ => intro b hb r' hr'; simp [findLabel] at hr'
     exact key h1 r' e' e
   exact ⟨r, by simp [findLabel, this, g1], g2⟩
 | .label l', b, h, l, rest, hf => by
  simp only [compS, Option.some.injEq] at h
  subst h
  simp only [findLab] at hf
  split at hf
  ·rename_i e
   cases hf
   exact ⟨.skip, by simp [findLabel, e], by simp [compS]⟩
  ·simp at hf
 | .skip, b, h, l, rest, hf => by simp [compS] at h; subst h; simp [findLab] at hf
 | .region id ops d, b, h, l, rest, hf => by
  cases d
  ·simp only [compS] at h
   split at h
   ·simp only [Option.some.injEq] at h
    subst h; simp [findLab] at hf
   simp only [Option.map_eq_some_iff] at h
   obtain ⟨_, -, rfl⟩ := h; simp [findLab] at hf
  ·simp only [compS, Option.bind_eq_some_iff] at h
   obtain ⟨bs, -, h⟩ := h
   split at h
   ·simp only [Option.map_eq_some_iff] at h
    obtain ⟨_, -, rfl⟩ := h; simp [findLab] at hf
   split at h
   ·simp only [Option.map_eq_some_iff] at h
    obtain ⟨_, -, rfl⟩ := h; simp [findLab] at hf
   split at h
   ·simp only [Option.map_eq_some_iff] at h
    obtain ⟨_, -, rfl⟩ := h; simp [findLab] at hf
   ·simp only [Option.some.injEq] at h
    subst h; simp [findLab] at hf
 | .cond c x y, b, h, l, rest, hf => by
  simp only [compS, Option.bind_eq_some_iff, Option.map_eq_some_iff] at h
  obtain ⟨_, -, _, -, _, -, rfl⟩ := h; simp [findLab] at hf
 | .block id x, b, h, l, rest, hf => by
  simp only [compS, Option.map_eq_some_iff] at h
  obtain ⟨_, -, rfl⟩ := h; simp [findLab] at hf
 | .loop x, b, h, l, rest, hf => by
  simp only [compS, Option.map_eq_some_iff] at h
  obtain ⟨_, -, rfl⟩ := h; simp [findLab] at hf
 | .rangeFunc .., b, h, l, rest, hf => by
  simp only [compS, Option.map_eq_some_iff] at h
  obtain ⟨_, -, rfl⟩ := h; simp [findLab] at hf
 | .exit id, b, h, l, rest, hf => by simp [compS] at h; subst h; simp [findLab] at hf
 | .scope x, b, h, l, rest, hf => by
  simp only [compS, Option.bind_eq_some_iff] at h
  obtain ⟨_, -, h⟩ := h
  split at h
  ·simp at h
  ·simp only [Option.map_eq_some_iff] at h
   obtain ⟨_, -, rfl⟩ := h; simp [findLab] at hf
 | .goto l', b, h, l, rest, hf => by simp [compS] at h; subst h; simp [findLab] at hf
 | .ret, b, h, l, rest, hf => by simp [compS] at h; subst h; simp [findLab] at hf
 | .refuse _, b, h, l, rest, hf => by simp [compS] at h
end
end Lg


/- Own rows that are written no more. -/
namespace Lg
open Go
section
variable {P : Program} {η : List Nat} {S : Nat → Prop} {w : World} {H : Heap} {a : Act} {E : Env}
theorem Conc.frame (hC : Conc η S w H) {S' : Nat → Prop} {w' : World} (hsub : ∀ b, S b → S' b) (hlt : ∀ b, S' b → b < w'.heap.size) (hnot : ∀ b ∈ η, S' b → S b) (hsize : w.heap.size ≤ w'.heap.size) (hsame : ∀ b : Nat, b < w.heap.size → w'.heap[b]? = w.heap[b]?) : Conc η S' w' H := by
 refine ⟨hC.len, fun b hb => Nat.lt_of_lt_of_le (hC.lt b hb) hsize, hlt, fun h b ls e1 e2 => ?_, fun h b ls e1 e2 => ?_⟩
 ·obtain ⟨p1, p2⟩ := hC.apart h b ls e1 e2
  exact ⟨fun hs => p1 (hnot b (List.mem_of_getElem? e1) hs), p2⟩
 ·obtain ⟨o0, q1⟩ := (hC.liveAt h b ls e1 e2).some
  have lt_of : ∀ (b : Nat) o, w.heap[b]? = some o → b < w.heap.size := fun b o ho => by
   rcases Nat.lt_or_ge b w.heap.size with h | h
   ·exact h
   ·simp [Array.getElem?_eq_none h] at ho
  exact (hC.liveAt h b ls e1 e2).mono (hsame b (lt_of b _ q1)) fun _ _ hr => hr.mono hsub (fun b hb => hsame b (hC.Slt b hb)) (fun b c t fr hb => ⟨c, fr, by rw [hsame b (lt_of b _ hb)]; exact hb, rfl⟩) (fun _ _ h => h)
theorem mksl_shared {t e : TypeId} {i : TypeInfo} {z : Value} {x y : Value} {lx ly : L} {k k' : Int} (hC : Conc η S w H) (hu : P.underlying t = some (.slice e)) (hi : P.info? e = some i) (hz : i.zero = some z) (hz2 : z.cells.size = i.size)
  (hx : Rel S w η x lx) (hy : Rel S w η y ly) (ex : lx = .v (.int .i64 k)) (ey : ly = .v (.int .i64 k')) (hs : mkShared i.size i.bytes (ofV z).cells k k') :
  ∃ v w' S', (Instr.makeSlice t x y).run P w = .ok v w' ∧ Rel S' w' η v (.sl i.size true (chunk k.toNat i.size (zeros k.toNat (ofV z).cells))) ∧ Conc η S' w' H ∧ Le η S w η S' w' := by
 obtain ⟨rfl, h0, h1, h2, h3, h4, h5⟩ := hs
 subst ex ey
 have hmk : mkslL i.size i.bytes (ofV z).cells (.v (.int .i64 k)) (.v (.int .i64 k)) H = some (.view i.size H.length 0 k.toNat true, H ++ [some (zeros k.toNat (ofV z).cells)]) := by
  simp [mkslL, h0, h1, h2]
 obtain ⟨v, w', η', r1, r2, r3, r4, cells, rfl, rfl⟩ := mksl_fine (P := P) hC hu hi hz hz2 hx hy hmk
 have old : ∀ b : Nat, b < w.heap.size → (w.heap.push (Obj.cells cells e))[b]? = w.heap[b]? := fun b hb => by rw [Array.getElem?_push]; simp [Nat.ne_of_lt hb]
 have lt_of : ∀ (b : Nat) o, w.heap[b]? = some o → b < w.heap.size := fun b o ho => by
  rcases Nat.lt_or_ge b w.heap.size with h | h
  ·exact h
  ·simp [Array.getElem?_eq_none h] at ho
 have zl : (ofV z).cells.length = i.size := h4
 have hlen : (zeros k.toNat (ofV z).cells).length = k.toNat * i.size := by simp [zeros, zl]
 have hfrz : frz (H ++ [some (zeros k.toNat (ofV z).cells)]) [H.length] (.view i.size H.length 0 k.toNat true) = .sl i.size true (chunk k.toNat i.size (zeros k.toNat (ofV z).cells)) := by
  have hl : live (H ++ [some (zeros k.toNat (ofV z).cells)]) H.length = some (zeros k.toNat (ofV z).cells) := by simp [Lg.live]
  have hall : (((zeros k.toNat (ofV z).cells).drop 0).take (k.toNat * i.size)).all Lg.closed = true := by
   rw [List.drop_zero, List.take_of_length_le (by omega)]
   refine List.all_eq_true.2 fun c hc => ?_
   simp only [zeros, List.mem_flatten, List.mem_replicate] at hc
   obtain ⟨l, ⟨-, rfl⟩, hc⟩ := hc
   exact List.all_eq_true.1 h5 c hc
  simp only [frz, frz1]
  rw [if_pos (by simp), hl]
  simp only
  rw [if_pos ⟨by omega, h3, hall⟩, List.drop_zero, List.take_of_length_le (by omega)]
 have hrel := frz_rel (S' := fun b => S b ∨ b = w.heap.size) (fz := [H.length]) r3 (fun b hb => by
  rcases hb with hb | ⟨h, ls, q1, q2, -⟩
  ·exact .inl hb
  ·simp at q1
   subst q1
   rw [← hC.len] at q2
   simp at q2
   exact .inr q2.symm) r2
 rw [hfrz] at hrel
 refine ⟨_, _, _, r1, (hrel.closed rfl).nil, hC.frame (fun _ h => .inl h) (fun b hb => ?_) (fun b hb hs => ?_) (by simp) old,
  ⟨⟨[], by simp, by simp⟩, fun _ h => .inl h, fun b hb => old b (hC.Slt b hb), fun b c _ fr hb => ⟨c, fr, by simp only; rw [old b (lt_of b _ hb)]; exact hb, rfl⟩, by simp, fun b hb _ => old b hb, fun b hb => ?_, rfl, rfl, rfl⟩⟩
 ·rcases hb with hb | rfl
  ·have := hC.Slt b hb; simp; omega
  ·simp
 ·rcases hs with hs | rfl
  ·exact hs
  ·have := hC.lt _ hb; omega
 ·rcases hb with hb | rfl
  ·exact .inl hb
  ·exact .inr (.inr (Nat.le_refl _))
end
end Lg


/- Regions whose order of evaluation is open. -/
namespace Lg
open Go
section
variable {P : Program} {η : List Nat} {S : Nat → Prop} {w : World} {H : Heap} {a : Act} {E : Env}
theorem arg_congr {E E' : Env} {x : A} (h : ∀ t ∈ x.tmps, lk E t = lk E' t) : arg E x = arg E' x := by
 cases x with
 | t n => exact h n (by simp [A.tmps])
 | c l => rfl
theorem args_congr {E E' : Env} {xs : List A} (h : ∀ t ∈ xs.flatMap A.tmps, lk E t = lk E' t) : xs.map (arg E) = xs.map (arg E') :=
 List.map_congr_left fun x hx => arg_congr fun t ht => h t (List.mem_flatMap.2 ⟨x, hx, ht⟩)
theorem parts_congr {E E' : Env} {ps : List (Nat × Nat × A)} (h : ∀ t ∈ ps.flatMap fun p => p.2.2.tmps, lk E t = lk E' t) :
  (ps.map fun p => (p.1, p.2.1, arg E p.2.2)) = ps.map fun p => (p.1, p.2.1, arg E' p.2.2) :=
 List.map_congr_left fun x hx => by rw [arg_congr fun t ht => h t (List.mem_flatMap.2 ⟨x, hx, ht⟩)]
theorem oa_congr {E E' : Env} {x : Option A} (h : ∀ t ∈ oaTmps x, lk E t = lk E' t) : x.map (arg E) = x.map (arg E') := by
 cases x with
 | none => rfl
 | some x => simp [arg_congr h]
theorem lopO_congr {op : I} {E E' : Env} (h : ∀ t ∈ op.tmps, lk E t = lk E' t) : lopO op E H = lopO op E' H := by
 cases op <;> simp only [lopO, I.tmps, List.mem_append] at h ⊢
 case mov x => rw [arg_congr h]
 case b2s x => rw [arg_congr h]
 case s2ap n x => rw [arg_congr h]
 case mlen x => rw [arg_congr h]
 case r2s x => rw [arg_congr h]
 case cap x => rw [arg_congr h]
 case rng x => rw [arg_congr h]
 case ent x => rw [arg_congr h]
 case appz e b x y => rw [arg_congr (fun t ht => h t (.inl ht)), arg_congr (fun t ht => h t (.inr ht))]
 case mget k c z x y => rw [arg_congr (fun t ht => h t (.inl ht)), arg_congr (fun t ht => h t (.inr ht))]
 case mset k x y z => rw [arg_congr (fun t ht => h t (.inl ht)), arg_congr (fun t ht => h t (.inr (.inl ht))), arg_congr (fun t ht => h t (.inr (.inr ht)))]
 case eq2 k x y => rw [arg_congr (fun t ht => h t (.inl ht)), arg_congr (fun t ht => h t (.inr ht))]
 case pick c x y => rw [arg_congr (fun t ht => h t (.inl ht)), arg_congr (fun t ht => h t (.inr (.inl ht))), arg_congr (fun t ht => h t (.inr (.inr ht)))]
 case box x => rw [arg_congr h]
 case build z ps => rw [parts_congr h]
 case bslice e z n ps => rw [parts_congr h]
 case load s ag x => rw [arg_congr h]
 case store s x y => rw [arg_congr (fun t ht => h t (.inl ht)), arg_congr (fun t ht => h t (.inr ht))]
 case nilchk x => rw [arg_congr h]
 case bin op b x y => rw [arg_congr (fun t ht => h t (.inl ht)), arg_congr (fun t ht => h t (.inr ht))]
 case un op x => rw [arg_congr h]
 case conv k x => rw [arg_congr h]
 case sames x => rw [arg_congr h]
 case field o s ag x => rw [arg_congr h]
 case faddr o x => rw [arg_congr h]
 case iaddr e x i => rw [arg_congr (fun t ht => h t (.inl ht)), arg_congr (fun t ht => h t (.inr ht))]
 case iaddrA n e x i => rw [arg_congr (fun t ht => h t (.inl ht)), arg_congr (fun t ht => h t (.inr ht))]
 case idx n e ag x i => rw [arg_congr (fun t ht => h t (.inl ht)), arg_congr (fun t ht => h t (.inr ht))]
 case slice e x l hh m => rw [arg_congr (fun t ht => h t (.inl ht)), oa_congr (fun t ht => h t (.inr (.inl ht))), oa_congr (fun t ht => h t (.inr (.inr (.inl ht)))), oa_congr (fun t ht => h t (.inr (.inr (.inr ht))))]
 case sliceA n e x l hh m => rw [arg_congr (fun t ht => h t (.inl ht)), oa_congr (fun t ht => h t (.inr (.inl ht))), oa_congr (fun t ht => h t (.inr (.inr (.inl ht)))), oa_congr (fun t ht => h t (.inr (.inr (.inr ht))))]
 case mksl e b z n c => rw [arg_congr (fun t ht => h t (.inl ht)), arg_congr (fun t ht => h t (.inr ht))]
 case mkfn f x y => rw [args_congr (fun t ht => h t (.inl ht)), args_congr (fun t ht => h t (.inr ht))]
 case extract x i => rw [arg_congr h]
 case len s x => rw [arg_congr h]
 case append e b z x y => rw [arg_congr (fun t ht => h t (.inl ht)), arg_congr (fun t ht => h t (.inr ht))]
 case copy e x y => rw [arg_congr (fun t ht => h t (.inl ht)), arg_congr (fun t ht => h t (.inr ht))]
 case mm m x xs => rw [arg_congr (fun t ht => h t (.inl ht)), args_congr (fun t ht => h t (.inr ht))]
theorem lnew_congr {op : I} {E E' : Env} (h : ∀ t ∈ op.tmps, lk E t = lk E' t) : lnew op E = lnew op E' := by
 cases op <;> simp only [lnew, I.tmps] at h ⊢
 case box x => rw [arg_congr h]
 case bslice e z n ps => rw [parts_congr h]
 case append e b z x y => rw [arg_congr (fun t ht => h t (List.mem_append.2 (.inl ht))), arg_congr (fun t ht => h t (List.mem_append.2 (.inr ht)))]
theorem read_same {op : I} {l : L} {H' : Heap} (hr : isRead op = true) (h : lopO op E H = some (l, H')) : H' = H := by
  cases op <;> simp only [isRead, Bool.false_eq_true] at hr <;> simp only [lopO] at h
  case pick c x y => split at h <;> simp_all
  case nilchk x => split at h <;> simp_all
  case eq2 k x y =>
    split at h
    · split at h <;> simp_all
    · simp at h
  case s2ap n x =>
    split at h
    · split at h <;> simp_all
    · split at h <;> simp_all
    · simp at h
  case conv k x => split at h <;> simp_all
  case extract x i =>
    split at h
    · simp only [Option.map_eq_some_iff, Prod.mk.injEq] at h
      obtain ⟨_, _, _, h⟩ := h; exact h.symm
    · simp at h
  all_goals first
    | (simp only [Option.some.injEq, Prod.mk.injEq] at h; exact h.2.symm)
    | (simp only [Option.map_eq_some_iff, Prod.mk.injEq] at h
       obtain ⟨_, _, _, h⟩ := h; exact h.symm)
inductive Out where
 | skip
 | val (l : L)
 | new (cs : List L) (mk : Nat → L)
 | put (d : Nat) (l : L)
def Out.l : Out → L
 | .skip => .no
 | .val l => l
 | .new .. => .any
 | .put .. => .any
def runs (E : Env) (o : O) : Prop :=
 match o.guard with
 | none => True
 | some (s, b) => lk E s = .v (.bool b)
def passes (E : Env) (o : O) : Prop :=
 match o.guard with
 | none => False
 | some (s, b) => lk E s = .v (.bool (!b)) ∨ lk E s = .no
def OutOK (P : Program) (H : Heap) (E : Env) (o : O) : Out → Prop
 | .skip => passes E o
 | .val l => runs E o ∧ ((∃ f xs, o.op = .call f xs ∧ callV P f (xs.map (arg E)) H l) ∨ (∃ x xs f ff cc, o.op = .calld x xs ∧ arg E x = .fn (.func f) ff cc ∧ callV P f (ff ++ xs.map (arg E) ++ cc) H l) ∨ (∃ esz bytes z n c k k', o.op = .mksl esz bytes z n c ∧ arg E n = .v (.int .i64 k) ∧ arg E c = .v (.int .i64 k') ∧ mkShared esz bytes z k k' ∧ l = .sl esz true (chunk k.toNat esz (zeros k.toNat z))) ∨ (isRead o.op = true ∧ ∃ H', lopO o.op E H = some (l, H')) ∨ (emptyB o.op = true ∧ l = .sl (eszB o.op) true []) ∨ (∃ esz z n parts, o.op = .bslice esz z n parts ∧ bslV esz z n parts E = some l))
 | .new cs mk => runs E o ∧ lnew o.op E = some (cs, mk)
 | .put d l => runs E o ∧ o.dst = none ∧ ∃ s y, o.op = .store s (.t d) y ∧ y ≠ .t d ∧ arg E y = l ∧ topOK l = true ∧ l.cells.length = s
theorem bslV_congr {esz n : Nat} {z : List L} {parts : List (Nat × Nat × A)} {E E' : Env} (h : ∀ t ∈ (I.bslice esz z n parts).tmps, lk E t = lk E' t) : bslV esz z n parts E = bslV esz z n parts E' := by
 unfold bslV
 rw [List.map_congr_left fun p hp => by rw [arg_congr (E := E) (E' := E') fun t ht => h t (by simp only [I.tmps, List.mem_flatMap]; exact ⟨p, hp, ht⟩)]]
theorem OutOK.congr {o : O} {out : Out} {E E' : Env} (h : ∀ t ∈ o.names, lk E t = lk E' t) (k : OutOK P H E o out) : OutOK P H E' o out := by
 have hop : ∀ t ∈ o.op.tmps, lk E t = lk E' t := fun t ht => h t (by unfold O.names; split <;> simp [ht])
 have hg : ∀ s b, o.guard = some (s, b) → lk E s = lk E' s := fun s b e => h s (by unfold O.names; simp [e])
 have hruns : runs E o → runs E' o := by
  unfold runs
  cases e : o.guard with
  | none => exact id
  | some sb => obtain ⟨s, b⟩ := sb; simp only; rw [hg s b e]; exact id
 cases out with
 | skip =>
  simp only [OutOK, passes] at k ⊢
  cases e : o.guard with
  | none => simp [e] at k
  | some sb => obtain ⟨s, b⟩ := sb; simp only [e] at k ⊢; rwa [← hg s b e]
 | val l =>
  refine ⟨hruns k.1, ?_⟩
  rcases k.2 with ⟨f, xs, h1, h2⟩ | ⟨x, xs, f, ff, cc, h1, h3, h2⟩ | ⟨esz, bytes, z, n, c, k1, k2, h1, h2, h3, h4, h5⟩ | ⟨h1, H', h2⟩ | h1 | ⟨esz, z, n, parts, h1, h2⟩
  ·refine .inl ⟨f, xs, h1, ?_⟩
   rw [h1] at hop
   rwa [← args_congr hop]
  ·refine .inr (.inl ⟨x, xs, f, ff, cc, h1, ?_, ?_⟩)
   ·rw [h1] at hop
    rwa [← arg_congr (E := E) (fun t ht => hop t (by simp only [I.tmps, List.mem_append]; exact .inl ht))]
   ·rw [h1] at hop
    rwa [← args_congr (E := E) (fun t ht => hop t (by simp only [I.tmps, List.mem_append]; exact .inr ht))]
  ·refine .inr (.inr (.inl ⟨esz, bytes, z, n, c, k1, k2, h1, ?_, ?_, h4, h5⟩))
   ·rw [h1] at hop
    rwa [← arg_congr (E := E) (fun t ht => hop t (by simp only [I.tmps, List.mem_append]; exact .inl ht))]
   ·rw [h1] at hop
    rwa [← arg_congr (E := E) (fun t ht => hop t (by simp only [I.tmps, List.mem_append]; exact .inr ht))]
  ·exact .inr (.inr (.inr (.inl ⟨h1, H', by rw [← lopO_congr hop]; exact h2⟩)))
  ·exact .inr (.inr (.inr (.inr (.inl h1))))
  ·refine .inr (.inr (.inr (.inr (.inr ⟨esz, z, n, parts, h1, ?_⟩))))
   rw [h1] at hop
   rw [← bslV_congr hop]
   exact h2
 | new cs mk => exact ⟨hruns k.1, by rw [← lnew_congr hop]; exact k.2⟩
 | put d l =>
  obtain ⟨k1, k0, s, y, k2, k2', k3, k4, k5⟩ := k
  refine ⟨hruns k1, k0, s, y, k2, k2', ?_, k4, k5⟩
  rw [k2] at hop
  rw [← arg_congr (E := E) (fun t ht => hop t (by simp [I.tmps, ht]))]
  exact k3
def foldE (E : Env) : List O → List Out → Env
 | o :: os, out :: outs => foldE (putE E o.dst out.l) os outs
 | _, _ => E
def Runs (P : Program) (H : Heap) : Env → List O → List Out → Prop
 | _, [], [] => True
 | E, o :: os, out :: outs => OutOK P H E o out ∧ Runs P H (putE E o.dst out.l) os outs
 | _, _, _ => False
def newsOf : List O → List Out → List (Option Nat × List L × (Nat → L))
 | o :: os, .new cs mk :: outs => (o.dst, cs, mk) :: newsOf os outs
 | _ :: os, _ :: outs => newsOf os outs
 | _, _ => []
theorem lk_putE {d : Option Nat} {l : L} {t : Nat} : lk (putE E d l) t = if d = some t then l else lk E t := by
 cases d with
 | none => simp [putE]
 | some d =>
  simp only [putE, lk, Option.some.injEq]
  by_cases h : t = d
  ·simp [h]
  ·simp [h, Ne.symm h]
def putsTo : List Out → (Nat → Bool) → Option Nat → Option L
 | [], _, _ => none
 | .put d' l :: os, M, d => if M 0 = true ∧ d = some d' then some l else putsTo os (fun i => M (i + 1)) d
 | _ :: os, M, d => putsTo os (fun i => M (i + 1)) d
def afterPut (o : Option L) (cs : List L) : List L :=
 match o with
 | none => cs
 | some l => setCells cs 0 l.cells
def finNews (outs : List Out) (l : List (Option Nat × List L × (Nat → L))) : List (Option Nat × List L × (Nat → L)) := l.map fun e => (e.1, afterPut (putsTo outs (fun _ => true) e.1) e.2.1, e.2.2)
theorem putsTo_none {outs : List Out} : ∀ {M : Nat → Bool} {d : Option Nat}, (∀ (i : Nat) d' l, outs[i]? = some (.put d' l) → d = some d' → M i = false) → putsTo outs M d = none := by
 induction outs with
 | nil => intro M d _; rfl
 | cons o os ih =>
  intro M d h
  have h' := ih (M := fun i => M (i + 1)) (d := d) (fun i d' l e1 e2 => h (i + 1) d' l (by simpa using e1) e2)
  cases o with
  | put d' l =>
   simp only [putsTo]
   rw [if_neg (fun hc => by have := h 0 d' l rfl hc.2; rw [hc.1] at this; simp at this)]
   exact h'
  | _ => exact h'
theorem putsTo_congr {outs : List Out} : ∀ {M M' : Nat → Bool} {d : Option Nat}, (∀ (i : Nat) d' l, outs[i]? = some (.put d' l) → d = some d' → M i = M' i) → putsTo outs M d = putsTo outs M' d := by
 induction outs with
 | nil => intro M M' d _; rfl
 | cons o os ih =>
  intro M M' d h
  have h' := ih (M := fun i => M (i + 1)) (M' := fun i => M' (i + 1)) (d := d) (fun i d' l e1 e2 => h (i + 1) d' l (by simpa using e1) e2)
  cases o with
  | put d' l =>
   simp only [putsTo]
   by_cases hd : d = some d'
   ·rw [h 0 d' l rfl hd, h']
   ·simp [hd, h']
  | _ => exact h'
theorem putsTo_at {outs : List Out} : ∀ {M : Nat → Bool} {d : Nat} {l : L} {i : Nat}, outs[i]? = some (.put d l) → M i = true → (∀ (j : Nat) l', outs[j]? = some (.put d l') → j = i) → putsTo outs M (some d) = some l := by
 induction outs with
 | nil => intro M d l i h; simp at h
 | cons o os ih =>
  intro M d l i h hm hu
  cases i with
  | zero =>
   simp at h
   subst h
   simp [putsTo, hm]
  | succ i =>
   have h' := ih (M := fun i => M (i + 1)) (d := d) (l := l) (i := i) (by simpa using h) hm (fun j l' e => by have := hu (j + 1) l' (by simpa using e); omega)
   cases o with
   | put d' l' =>
    simp only [putsTo]
    rw [if_neg (fun hc => by have := hu 0 l' (by simp [Option.some.inj hc.2]); omega)]
    exact h'
   | _ => exact h'
structure PutsOK (blk : List O) (outs : List Out) (news : List (Option Nat × List L × (Nat → L))) : Prop where
 once : ∀ (i j : Nat) d l l', outs[i]? = some (.put d l) → outs[j]? = some (.put d l') → i = j
 made : ∀ (i : Nat) d l, outs[i]? = some (.put d l) → (∃ e ∈ news, e.1 = some d ∧ isP0 (e.2.2 0) = true ∧ l.cells.length ≤ e.2.1.length) ∨
  ∃ (k : Nat) (o : O) (cs : List L) (mk : Nat → L), k < i ∧ blk[k]? = some o ∧ outs[k]? = some (.new cs mk) ∧ o.dst = some d ∧ isP0 (mk 0) = true ∧ l.cells.length ≤ cs.length
def Comes (P : Program) (H : Heap) (K : Env → List (Option Nat × List L × (Nat → L)) → Prop) (E₀ : Env) (blk : List O) (news : List (Option Nat × List L × (Nat → L))) : Prop :=
 ∃ outs E', Runs P H E₀ blk outs ∧ (∀ t, lk E' t = lk (foldE E₀ blk outs) t) ∧ PutsOK blk outs news ∧ K E' (finNews outs (news ++ newsOf blk outs))
theorem PutsOK.other {blk : List O} {outs : List Out} {news : List (Option Nat × List L × (Nat → L))} (h : PutsOK blk outs news) {o : O} {out : Out} (hno : ∀ d l, out ≠ .put d l) : PutsOK (o :: blk) (out :: outs) news := by
  refine ⟨fun i j d l l' h1 h2 => ?_, fun i d l h1 => ?_⟩
  · cases i with
    | zero => simp at h1; exact absurd h1 (hno d l)
    | succ i => cases j with
      | zero => simp at h2; exact absurd h2 (hno d l')
      | succ j => have := h.once i j d l l' (by simpa using h1) (by simpa using h2); omega
  · cases i with
    | zero => simp at h1; exact absurd h1 (hno d l)
    | succ i => rcases h.made i d l (by simpa using h1) with h | ⟨k, o', cs, mk, k0, k1, k2, k3⟩
                · exact .inl h
                · exact .inr ⟨k + 1, o', cs, mk, by omega, by simpa using k1, by simpa using k2, k3⟩
theorem finNews_other {outs : List Out} {out : Out} {l : List (Option Nat × List L × (Nat → L))} (hno : ∀ d l, out ≠ .put d l) : finNews (out :: outs) l = finNews outs l := by
 unfold finNews
 refine List.map_congr_left fun e _ => ?_
 have : putsTo (out :: outs) (fun _ => true) e.1 = putsTo outs (fun _ => true) e.1 := by
  cases out with
  | put d l => exact absurd rfl (hno d l)
  | _ => rfl
 rw [this]
theorem Runs.put_op {P : Program} {H : Heap} : ∀ {blk : List O} {outs : List Out} {E : Env}, Runs P H E blk outs → outs.length = blk.length ∧ ∀ (i : Nat) d l, outs[i]? = some (.put d l) → ∃ o, blk[i]? = some o ∧ storesTo o = some d
 | [], [], E, _ => ⟨rfl, fun i d l h => by simp at h⟩
 | [], _ :: _, E, h => h.elim
 | _ :: _, [], E, h => h.elim
 | o :: blk, out :: outs, E, h => by
  obtain ⟨h1, h2⟩ := h
  obtain ⟨e0, e2⟩ := Runs.put_op h2
  refine ⟨by simp [e0], fun i d l ho => ?_⟩
  cases i with
  | zero =>
   simp at ho; subst ho
   obtain ⟨-, -, s, y, h3, -⟩ := h1
   exact ⟨o, rfl, by simp [storesTo, h3]⟩
  | succ i => simpa using e2 i d l (by simpa using ho)
theorem newsOf_dst : ∀ {blk : List O} {outs : List Out} {e}, e ∈ newsOf blk outs → ∃ o ∈ blk, e.1 = o.dst
 | o :: blk, out :: outs, e, h => by
  have old : e ∈ newsOf blk outs → ∃ o' ∈ o :: blk, e.1 = o'.dst := fun h => by
   obtain ⟨o', h1, h2⟩ := newsOf_dst h
   exact ⟨o', by simp [h1], h2⟩
  cases out with
  | new cs mk =>
   simp only [newsOf, List.mem_cons] at h
   rcases h with rfl | h
   ·exact ⟨o, by simp, rfl⟩
   ·exact old h
  | _ => exact old h
 | [], _, e, h => by simp [newsOf] at h
 | _ :: _, [], e, h => by simp [newsOf] at h
theorem lblk_runs {K : Env → List (Option Nat × List L × (Nat → L)) → Prop} : ∀ {blk : List O} {E E₀ : Env} {news : List (Option Nat × List L × (Nat → L))}, (∀ t, lk E t = lk E₀ t) → lblk P H blk K E news → Lg.Comes P H K E₀ blk news
 | [], E, E₀, news, he, h => ⟨[], E, trivial, he, ⟨fun i j d l l' h => by simp at h, fun i d l h => by simp at h⟩, by
   have : finNews [] (news ++ newsOf [] []) = news := by simp [finNews, newsOf, putsTo, afterPut]
   rw [this]; exact h⟩
 | o :: blk, E, E₀, news, he, h => by
  have put : ∀ {E E₀ : Env} {l}, (∀ t, lk E t = lk E₀ t) → ∀ t, lk (putE E o.dst l) t = lk (putE E₀ o.dst l) t := fun he t => by rw [lk_putE, lk_putE, he]
  have skip : ∀ {E : Env}, (∀ t, lk E t = lk E₀ t) → passes E₀ o → lblk P H blk K (putE E o.dst .no) news → Lg.Comes P H K E₀ (o :: blk) news := fun he hp hl => by
   obtain ⟨outs, E', h1, h2, hp', h3⟩ := lblk_runs (put he) hl
   exact ⟨.skip :: outs, E', ⟨hp, h1⟩, h2, hp'.other (by simp), by rw [finNews_other (by simp)]; exact h3⟩
  have run : ∀ {E : Env}, (∀ t, lk E t = lk E₀ t) → runs E₀ o → (lopD P o.op E H (fun l => lblk P H blk K (putE E o.dst l) news) (fun cs mk => lblk P H blk K (putE E o.dst .any) (news ++ [(o.dst, cs, mk)]))) →
    Lg.Comes P H K E₀ (o :: blk) news := fun {E} he hr hl => by
   have val : ∀ l, OutOK P H E₀ o (.val l) → lblk P H blk K (putE E o.dst l) news → Lg.Comes P H K E₀ (o :: blk) news := fun l hok hl => by
    obtain ⟨outs, E', h1, h2, hp', h3⟩ := lblk_runs (put he) hl
    exact ⟨.val l :: outs, E', ⟨hok, h1⟩, h2, hp'.other (by simp), by rw [finNews_other (by simp)]; exact h3⟩
   have simple : (if isNew o.op = true then optK (lnew o.op E) fun r => lblk P H blk K (putE E o.dst .any) (news ++ [(o.dst, r.1, r.2)]) else (isRead o.op = true ∧ optK (lopO o.op E H) fun r => lblk P H blk K (putE E o.dst r.1) news)) → Lg.Comes P H K E₀ (o :: blk) news := fun hl => by
    split at hl
    ·obtain ⟨⟨cs, mk⟩, e1, e2⟩ := hl
     obtain ⟨outs, E', h1, h2, hp', h3⟩ := lblk_runs (put he) e2
     refine ⟨.new cs mk :: outs, E', ⟨⟨hr, by rw [← lnew_congr (fun t _ => he t)]; exact e1⟩, h1⟩, h2, ⟨(hp'.other (o := o) (out := .new cs mk) (by simp)).once, fun i d l hi => ?_⟩, by rw [finNews_other (by simp)]; simpa [newsOf] using h3⟩
     cases i with
     | zero => simp at hi
     | succ i =>
      rcases hp'.made i d l (by simpa using hi) with ⟨e, m1, m2, m3, m4⟩ | ⟨k, o', cs', mk', k0, k1, k2, k3⟩
      ·rcases List.mem_append.1 m1 with m1 | m1
       ·exact .inl ⟨e, m1, m2, m3, m4⟩
       ·simp at m1
        subst m1
        exact .inr ⟨0, o, cs, mk, by omega, rfl, rfl, m2, m3, m4⟩
      ·exact .inr ⟨k + 1, o', cs', mk', by omega, by simpa using k1, by simpa using k2, k3⟩
    ·obtain ⟨hread, ⟨l, H'⟩, e1, e2⟩ := hl
     exact val l ⟨hr, .inr (.inr (.inr (.inl ⟨hread, H', by rw [← lopO_congr (fun t _ => he t)]; exact e1⟩)))⟩ e2
   cases hop : o.op with
   | call f xs =>
    rw [hop] at hl
    obtain ⟨r, e1, e2⟩ := hl
    exact val r ⟨hr, .inl ⟨f, xs, hop, by rw [← args_congr (fun t _ => he t)]; exact e1⟩⟩ e2
   | calld x xs =>
    rw [hop] at hl
    simp only [lopD] at hl
    split at hl
    ·rename_i f ff cc e
     obtain ⟨r, e1, e2⟩ := hl
     exact val r ⟨hr, .inr (.inl ⟨x, xs, f, ff, cc, hop, by rw [← arg_congr (fun t _ => he t)]; exact e, by rw [← args_congr (fun t _ => he t)]; exact e1⟩)⟩ e2
    ·exact hl.elim
   | mksl esz bytes z n c =>
    rw [hop] at hl
    simp only [lopD] at hl
    split at hl
    ·rename_i k k' e1 e2
     obtain ⟨e3, e4⟩ := hl
     exact val _ ⟨hr, .inr (.inr (.inl ⟨esz, bytes, z, n, c, k, k', hop, by rw [← arg_congr (fun t _ => he t)]; exact e1, by rw [← arg_congr (fun t _ => he t)]; exact e2, e3, rfl⟩))⟩ e4
    ·exact hl.elim
   | _ => rw [hop] at hl; exact simple (by rw [hop]; exact hl)
  have run' : ∀ {E : Env}, (∀ t, lk E t = lk E₀ t) → runs E₀ o → (match o.op with
    | .store s (.t d) y => (o.dst = none ∧ y ≠ .t d ∧ topOK (arg E y) = true ∧ (arg E y).cells.length = s ∧ putOK d s news = true ∧ restOK d blk = true) ∧ lblk P H blk K E (updNews d (arg E y) news)
    | op => match madeB op o.dst blk E with
     | some l => lblk P H blk K (putE E o.dst l) news
     | none => lopD P op E H (fun l => lblk P H blk K (putE E o.dst l) news) (fun cs mk => lblk P H blk K (putE E o.dst .any) (news ++ [(o.dst, cs, mk)]))) → Lg.Comes P H K E₀ (o :: blk) news := fun {E} he hr hl => by
   split at hl
   ·rename_i s d y hop
    obtain ⟨⟨g0, gy, g1, g2, g3, g4⟩, hl⟩ := hl
    obtain ⟨outs, E', h1, h2, hp', h3⟩ := lblk_runs he hl
    have hrest : ∀ o' ∈ blk, o'.dst ≠ some d ∧ storesTo o' ≠ some d := fun o' ho' => by
     have := List.all_eq_true.1 g4 o' ho'
     simpa using this
    have hnoput : ∀ (i : Nat) l', outs[i]? ≠ some (.put d l') := fun i l' hi => by
     obtain ⟨o', q1, q2⟩ := h1.put_op.2 i d l' hi
     exact (hrest o' (List.mem_of_getElem? q1)).2 q2
    have earg : arg E₀ y = arg E y := arg_congr fun t _ => (he t).symm
    refine ⟨.put d (arg E y) :: outs, E', ⟨⟨hr, g0, s, y, hop, gy, earg, g1, g2⟩, ?_⟩, fun t => ?_, ⟨fun i j d' l l' h1' h2' => ?_, fun i d' l hi => ?_⟩, ?_⟩
    ·have : putE E₀ o.dst (Out.put d (arg E y)).l = E₀ := by rw [g0]; rfl
     rw [this]; exact h1
    ·rw [h2]
     simp only [foldE]
     have : putE E₀ o.dst (Out.put d (arg E y)).l = E₀ := by rw [g0]; rfl
     rw [this]
    ·cases i with
     | zero => cases j with
      | zero => rfl
      | succ j =>
       simp at h1' h2'
       exact absurd (h1'.1 ▸ h2') (hnoput j l')
     | succ i => cases j with
      | zero =>
       simp at h1' h2'
       exact absurd (h2'.1 ▸ h1') (hnoput i l)
      | succ j => have := hp'.once i j d' l l' (by simpa using h1') (by simpa using h2'); omega
    ·cases i with
     | zero =>
      simp at hi
      obtain ⟨rfl, rfl⟩ := hi
      unfold putOK at g3
      obtain ⟨e, q1, q2⟩ := List.any_eq_true.1 g3
      simp at q2
      exact .inl ⟨e, q1, q2.1.1, q2.1.2, by omega⟩
     | succ i =>
      rcases hp'.made i d' l (by simpa using hi) with ⟨e, m1, m2, m3, m4⟩ | ⟨k, o', cs', mk', k0, k1, k2, k3⟩
      ·unfold updNews at m1
       obtain ⟨e', n1, rfl⟩ := List.mem_map.1 m1
       by_cases hd : e'.1 = some d
       ·rw [if_pos hd] at m2 m3 m4
        have hdd : d' = d := by simp only at m2; rw [hd] at m2; exact (Option.some.inj m2).symm
        subst hdd
        exact absurd (by simpa using hi) (hnoput i l)
       ·rw [if_neg hd] at m2 m3 m4
        exact .inl ⟨e', n1, m2, m3, m4⟩
      ·exact .inr ⟨k + 1, o', cs', mk', by omega, by simpa using k1, by simpa using k2, k3⟩
    ·have : finNews (.put d (arg E y) :: outs) (news ++ newsOf (o :: blk) (.put d (arg E y) :: outs)) = finNews outs (updNews d (arg E y) news ++ newsOf blk outs) := by
      have e1 : newsOf (o :: blk) (.put d (arg E y) :: outs) = newsOf blk outs := rfl
      have e2 : putsTo outs (fun _ => true) (some d) = none := putsTo_none fun i d' l hi hd => by
       cases hd; exact absurd hi (hnoput i l)
      rw [e1]
      simp only [finNews, List.map_append, updNews, List.map_map]
      congr 1
      ·refine List.map_congr_left fun e _ => ?_
       simp only [Function.comp, putsTo]
       by_cases hd : e.1 = some d
       ·simp [hd, e2, afterPut]
       ·simp [hd]
      ·refine List.map_congr_left fun e he' => ?_
       obtain ⟨o', q1, q2⟩ := newsOf_dst he'
       have : e.1 ≠ some d := by rw [q2]; exact (hrest o' q1).1
       simp [putsTo, this]
     rw [this]; exact h3
   ·split at hl
    ·rename_i l hem
     obtain ⟨outs, E', h1, h2, hp', h3⟩ := lblk_runs (put he) hl
     refine ⟨.val l :: outs, E', ⟨⟨hr, ?_⟩, h1⟩, h2, hp'.other (by simp), by rw [finNews_other (by simp)]; exact h3⟩
     unfold madeB at hem
     split at hem
     rotate_left
     ·simp at hem
     rename_i esz z n parts hop
     rw [hop]
     split at hem
     ·rename_i hc
      simp only [Option.some.injEq] at hem
      exact .inr (.inr (.inr (.inr (.inl ⟨(Bool.and_eq_true_iff.1 hc).1, hem.symm⟩))))
     ·split at hem
      ·exact .inr (.inr (.inr (.inr (.inr ⟨esz, z, n, parts, rfl, by rw [← bslV_congr (fun t _ => he t)]; exact hem⟩))))
      ·simp at hem
    ·exact run he hr hl
  simp only [lblk, lguard] at h
  cases hg : o.guard with
  | none => rw [hg] at h; exact run' he (by simp [runs, hg]) h
  | some sb =>
   obtain ⟨s, b⟩ := sb
   rw [hg] at h
   simp only at h
   split at h
   ·rename_i x e
    have ext : ∀ c, x = c → ∀ t, lk ((s, .v (.bool c)) :: E) t = lk E₀ t := fun c hx t => by
     subst hx
     simp only [lk]
     split
     ·rename_i ht; subst ht; rw [← he, e]
     ·exact he t
    by_cases hxb : x = b
    ·exact run' (ext b hxb) (by simp only [runs, hg]; rw [← he, e, hxb]) (h.1 hxb)
    ·have hxb' : x = !b := by cases x <;> cases b <;> simp_all
     exact skip (ext (!b) hxb') (by simp only [passes, hg]; left; rw [← he, e, hxb']) (h.2 hxb')
   ·rename_i e
    exact skip he (by simp only [passes, hg]; right; rw [← he, e]) h
   ·exact h.elim
end
end Lg


/- Regions whose order of evaluation is open: the orders. -/
namespace Lg
open Go
theorem mem_addAll : ∀ {ys xs : List Nat} {j : Nat}, j ∈ addAll xs ys → j ∈ xs ∨ j ∈ ys
 | [], xs, j, h => .inl h
 | y :: ys, xs, j, h => by
  simp only [addAll] at h
  rcases mem_addAll h with h | h
  ·split at h
   ·exact .inl h
   ·rcases List.mem_cons.1 h with rfl | h
    ·exact .inr (by simp)
    ·exact .inl h
  ·exact .inr (by simp [h])
theorem mem_fold {acc : List (List Nat)} : ∀ {es s : List Nat} {j : Nat}, j ∈ es.foldl (fun s e => addAll (addAll s [e]) (acc.getD e [])) s → j ∈ s ∨ j ∈ es ∨ ∃ e ∈ es, j ∈ acc.getD e []
 | [], s, j, h => .inl h
 | e :: es, s, j, h => by
  simp only [List.foldl_cons] at h
  rcases mem_fold h with h | h | ⟨e', h1, h2⟩
  ·rcases mem_addAll h with h | h
   ·rcases mem_addAll h with h | h
    ·exact .inl h
    ·simp at h; subst h; exact .inr (.inl (by simp))
   ·exact .inr (.inr ⟨e, by simp, h⟩)
  ·exact .inr (.inl (by simp [h]))
  ·exact .inr (.inr ⟨e', by simp [h1], h2⟩)
theorem ancs_prefix : ∀ (ops : List Oper) (acc : List (List Nat)), ∃ r, ancs ops acc = acc ++ r
 | [], acc => ⟨[], by simp [ancs]⟩
 | o :: ops, acc => by
  obtain ⟨r, hr⟩ := ancs_prefix ops (acc ++ [(edges o).foldl (fun s e => addAll (addAll s [e]) (acc.getD e [])) []])
  exact ⟨_, by simp only [ancs]; rw [hr, List.append_assoc]⟩
theorem ancs_spec : ∀ (ops : List Oper) (acc : List (List Nat)) (i : Nat) (o : Oper), ops[i]? = some o → ∀ j ∈ (ancs ops acc).getD (acc.length + i) [], j ∈ edges o ∨ ∃ e ∈ edges o, j ∈ (ancs ops acc).getD e []
 | [], acc, i, o, h => by simp at h
 | o' :: ops, acc, i, o, h => by
  intro j hj
  simp only [ancs] at hj ⊢
  cases i with
  | zero =>
   simp at h; subst h
   obtain ⟨r, hr⟩ := ancs_prefix ops (acc ++ [(edges o').foldl (fun s e => addAll (addAll s [e]) (acc.getD e [])) []])
   rw [hr] at hj ⊢
   have e1 : ((acc ++ [(edges o').foldl (fun s e => addAll (addAll s [e]) (acc.getD e [])) []]) ++ r).getD (acc.length + 0) [] = (edges o').foldl (fun s e => addAll (addAll s [e]) (acc.getD e [])) [] := by
    simp [List.getD]
   rw [e1] at hj
   rcases mem_fold hj with hj | hj | ⟨e, h1, h2⟩
   ·simp at hj
   ·exact .inl hj
   ·refine .inr ⟨e, h1, ?_⟩
    have hlt : e < acc.length := by
     rcases Nat.lt_or_ge e acc.length with h' | h'
     ·exact h'
     ·rw [getD_of_ge _ _ h'] at h2; simp at h2
    simp only [List.getD] at h2 ⊢
    rw [List.append_assoc, List.getElem?_append_left hlt]
    exact h2
  | succ i =>
   have := ancs_spec ops (acc ++ [(edges o').foldl (fun s e => addAll (addAll s [e]) (acc.getD e [])) []]) i o (by simpa using h) j (by
    rw [show (acc ++ [(edges o').foldl (fun s e => addAll (addAll s [e]) (acc.getD e [])) []]).length + i = acc.length + (i + 1) by simp; omega]; exact hj)
   exact this
def valAt (E : Env) (blk : List O) (outs : List Out) (M : Nat → Bool) (t : Nat) : Nat → L
 | 0 => lk E t
 | n + 1 => if M n = true ∧ (blk[n]?).bind (·.dst) = some t then ((outs[n]?).map Out.l).getD .any else valAt E blk outs M t n
theorem valAt_congr {E : Env} {blk : List O} {outs : List Out} {M M' : Nat → Bool} {t : Nat} : ∀ {n : Nat}, (∀ i, i < n → (blk[i]?).bind (·.dst) = some t → M i = M' i) → valAt E blk outs M t n = valAt E blk outs M' t n
 | 0, _ => rfl
 | n + 1, h => by
  simp only [valAt]
  rw [valAt_congr (fun i hi => h i (by omega))]
  by_cases hd : (blk[n]?).bind (·.dst) = some t
  ·rw [h n (by omega) hd]
  ·simp [hd]
theorem valAt_stop {E : Env} {blk : List O} {outs : List Out} {M : Nat → Bool} {t k : Nat} : ∀ {n : Nat}, k ≤ n → (∀ i, k ≤ i → i < n → (blk[i]?).bind (·.dst) = some t → M i = false) → valAt E blk outs M t n = valAt E blk outs M t k
 | 0, h, _ => by rw [Nat.le_zero.1 h]
 | n + 1, h, hn => by
  rcases Nat.lt_or_ge n k with h' | h'
  ·rw [show k = n + 1 by omega]
  ·simp only [valAt]
   rw [if_neg (fun hc => by have := hn n h' (by omega) hc.2; rw [hc.1] at this; simp at this)]
   exact valAt_stop h' (fun i h1 h2 => hn i h1 (by omega))
theorem foldE_snoc : ∀ {bs : List O} {os : List Out} {E : Env} {o : O} {out : Out}, bs.length = os.length → foldE E (bs ++ [o]) (os ++ [out]) = putE (foldE E bs os) o.dst out.l
 | [], [], E, o, out, _ => rfl
 | b :: bs, o' :: os, E, o, out, h => by simp only [List.cons_append, foldE]; exact foldE_snoc (by simpa using h)
 | [], _ :: _, _, _, _, h => by simp at h
 | _ :: _, [], _, _, _, h => by simp at h
theorem valAt_fold {E : Env} {blk : List O} {outs : List Out} (hl : outs.length = blk.length) {t : Nat} : ∀ {i : Nat}, i ≤ blk.length → valAt E blk outs (fun _ => true) t i = lk (foldE E (blk.take i) (outs.take i)) t
 | 0, _ => by simp [valAt, foldE]
 | i + 1, h => by
  have h1 : i < blk.length := by omega
  have h2 : i < outs.length := by omega
  rw [List.take_succ_eq_append_getElem h1, List.take_succ_eq_append_getElem h2, foldE_snoc (by simp; omega), lk_putE]
  simp only [valAt, List.getElem?_eq_getElem h1, List.getElem?_eq_getElem h2, Option.bind_some, Option.map_some, Option.getD_some, true_and]
  rw [valAt_fold hl (by omega)]
theorem Runs.at {P : Program} {H : Heap} : ∀ {blk : List O} {outs : List Out} {E : Env}, Runs P H E blk outs → outs.length = blk.length ∧ ∀ (i : Nat) o out, blk[i]? = some o → outs[i]? = some out → OutOK P H (foldE E (blk.take i) (outs.take i)) o out
 | [], [], E, _ => ⟨rfl, fun i o out h => by simp at h⟩
 | [], _ :: _, E, h => h.elim
 | _ :: _, [], E, h => h.elim
 | o :: blk, out :: outs, E, h => by
  obtain ⟨h1, h2⟩ := h
  obtain ⟨e1, e2⟩ := Runs.at h2
  refine ⟨by simp [e1], fun i o' out' hb ho => ?_⟩
  cases i with
  | zero => simp at hb ho; subst hb; subst ho; simpa [foldE] using h1
  | succ i => simpa [foldE] using e2 i o' out' (by simpa using hb) (by simpa using ho)
theorem countP_lt {α : Type} {p q : α → Bool} : ∀ {l : List α}, (∀ x ∈ l, q x = true → p x = true) → (∃ x ∈ l, p x = true ∧ q x = false) → l.countP q < l.countP p
 | [], _, h => by obtain ⟨x, hx, -⟩ := h; simp at hx
 | y :: l, hm, h => by
  have hle : ∀ {l : List α}, (∀ x ∈ l, q x = true → p x = true) → l.countP q ≤ l.countP p := by
   intro l
   induction l with
   | nil => intro _; simp
   | cons z l ih =>
    intro hm
    have := ih (fun x hx => hm x (by simp [hx]))
    have hz := hm z (by simp)
    simp only [List.countP_cons]
    cases hq : q z <;> cases hp : p z <;> simp_all <;> omega
  obtain ⟨x, hx, h1, h2⟩ := h
  simp only [List.countP_cons]
  rcases List.mem_cons.1 hx with rfl | hx
  ·have := hle (l := l) (fun x hx => hm x (by simp [hx]))
   simp [h1, h2]; omega
  ·have := countP_lt (l := l) (fun x hx => hm x (by simp [hx])) ⟨x, hx, h1, h2⟩
   have hy := hm y (by simp)
   cases hq : q y <;> cases hp : p y <;> simp_all <;> omega
section
variable {P : Program} {η : List Nat} {S : Nat → Prop} {w : World} {H : Heap} {a : Act} {E : Env}
theorem Conc.adopt (hC : Conc η S w H) {b : Nat} {c : Array Value} {t : TypeId} {fr : Nat × Nat} (hfr : fr.1 = fr.2 ∨ c.size ≤ fr.1) {ls : List L} (hb : w.heap[b]? = some (.cells c t fr)) (hS : ¬ S b) (hn : b ∉ η) (hz : ls.length ≤ c.size) (hr : ∀ j, j < ls.length → Rel S w η (c.getD j undef) (ls.getD j .any)) :
  Conc (η ++ [b]) S w (H ++ [some ls]) := by
 have up : ∀ {x l}, Rel S w η x l → Rel S w (η ++ [b]) x l := fun h => h.mono (fun _ h => h) (fun _ _ => rfl) (fun _ c _ fr h => ⟨c, fr, h, rfl⟩) (fun _ _ h => prefix_get h)
 have hblt : b < w.heap.size := by
  rcases Nat.lt_or_ge b w.heap.size with h | h
  ·exact h
  ·simp [Array.getElem?_eq_none h] at hb
 have split : ∀ {k b' : Nat} {ls' : List L}, (η ++ [b])[k]? = some b' → (H ++ [some ls])[k]? = some (some ls') → (η[k]? = some b' ∧ H[k]? = some (some ls')) ∨ (k = η.length ∧ b' = b ∧ ls' = ls) := fun {k b' ls'} e1 e2 => by
  by_cases hk : k < η.length
  ·rw [List.getElem?_append_left hk] at e1
   rw [List.getElem?_append_left (by rw [← hC.len]; exact hk)] at e2
   exact .inl ⟨e1, e2⟩
  ·rw [List.getElem?_append_right (by omega)] at e1
   rcases hm : k - η.length with _ | m
   ·simp [hm] at e1
    have : k = η.length := by omega
    subst this
    rw [List.getElem?_append_right (by rw [hC.len]; omega), hC.len] at e2
    simp at e2
    exact .inr ⟨rfl, e1.symm, e2.symm⟩
   ·simp [hm] at e1
 refine ⟨by simp [hC.len], fun b' hb' => ?_, hC.Slt, fun k b' ls' e1 e2 => ?_, fun k b' ls' e1 e2 => ?_⟩
 ·rcases List.mem_append.1 hb' with h | h
  ·exact hC.lt b' h
  ·simp at h; subst h; exact hblt
 ·rcases split e1 e2 with ⟨f1, f2⟩ | ⟨rfl, rfl, rfl⟩
  ·obtain ⟨g1, g2⟩ := hC.apart k b' ls' f1 f2
   refine ⟨g1, fun k' ls'' e3 e4 => ?_⟩
   rcases split e3 e4 with ⟨f3, f4⟩ | ⟨rfl, rfl, rfl⟩
   ·exact g2 k' ls'' f3 f4
   ·exact absurd (List.mem_of_getElem? f1) hn
  ·refine ⟨hS, fun k' ls'' e3 e4 => ?_⟩
   rcases split e3 e4 with ⟨f3, f4⟩ | ⟨rfl, -, -⟩
   ·exact absurd (List.mem_of_getElem? f3) hn
   ·rfl
 ·rcases split e1 e2 with ⟨f1, f2⟩ | ⟨rfl, rfl, rfl⟩
  ·exact (hC.liveAt k b' ls' f1 f2).mono rfl (fun _ _ h => up h)
  ·exact .inl ⟨c, t, fr, hb, hz, hfr, fun j hj => up (hr j hj)⟩
end
end Lg


/- Regions whose order of evaluation is open: soundness. -/
namespace Lg
open Go
section
variable {ds : List Deferred} {ro : Option Nat} {P : Program} {η : List Nat} {S : Nat → Prop} {w : World} {H : Heap} {a : Act} {E : Env}
theorem lnew_mk {op : I} {cs : List L} {mk : Nat → L} (h : lnew op E = some (cs, mk)) {β : Nat} {x : Value} (hx : Rel S w [β] x (mk 0)) : ∀ η, Rel S w (η ++ [β]) x (mk η.length) := by
 intro η
 have ptr : ∀ o, Rel S w [β] x (.ptr 0 o) → Rel S w (η ++ [β]) x (.ptr η.length o) := fun o h => by
  obtain ⟨b, rfl, hb, c0, t0, fr0, hb0⟩ := h.inv_ptr
  exact .ptr (by simpa using hb) hb0
 cases op <;> simp only [lnew] at h <;> first | (simp at h; done) | skip
 ·cases h; exact ptr 0 hx
 ·split at h
  ·cases h; exact ptr 0 hx
  ·simp at h
 ·simp only [Option.map_eq_some_iff, Prod.mk.injEq] at h
  obtain ⟨_, _, rfl, rfl⟩ := h
  rcases hx.inv_view with ⟨ad, rfl, h0⟩ | ⟨b, cap, c, t, fr, rfl, hη, hb, hsz, hn, hm, hcl⟩
  ·subst h0
   exact .view0
  ·exact .view (by simpa using hη) hb hsz hn hm hcl
 ·have key : ∃ e n, mk = fun h => .view e h 0 n false := by
   unfold appNew at h
   repeat' split at h
   all_goals first | (cases h; done) | (cases h; exact ⟨_, _, rfl⟩)
  obtain ⟨e, n, rfl⟩ := key
  rcases hx.inv_view with ⟨ad, rfl, h0⟩ | ⟨b, cap, c, t, fr, rfl, hη, hb, hsz, hn, hm, hcl⟩
  ·subst h0
   exact .view0
  ·exact .view (by simpa using hη) hb hsz hn hm hcl
theorem lnew_lop {op : I} {cs : List L} {mk : Nat → L} (h : lnew op E = some (cs, mk)) : lopO op E H = some (mk H.length, H ++ [some cs]) ∧ isNew op = true := by
 cases op <;> simp only [lnew] at h <;> first | (simp at h; done) | skip
 ·cases h; exact ⟨by simp [lopO], rfl⟩
 ·split at h
  ·rename_i ht; cases h; exact ⟨by simp [lopO, ht], rfl⟩
  ·simp at h
 ·simp only [Option.map_eq_some_iff, Prod.mk.injEq] at h
  obtain ⟨_, h1, rfl, rfl⟩ := h
  exact ⟨by simp [lopO, h1], rfl⟩
 ·refine ⟨?_, rfl⟩
  simp only [lopO]
  unfold appNew at h
  split at h
  ·cases h
  rename_i ys hys
  have hys' := lcells_none hys H
  unfold appendL
  rw [hys']
  simp only
  split at h
  rotate_left
  ·cases h
  rename_i hc
  rw [if_pos ⟨hc.1, hc.2.1⟩]
  split at h
  ·rename_i e
   split at h
   ·rename_i hb
    cases h
    simp only [e, if_neg hc.2.2, if_pos hb]
   ·cases h
  ·rename_i e
   split at h
   ·rename_i he
    split at h
    ·rename_i hb
     cases h
     simp only [e, if_pos he, if_neg hc.2.2, if_pos hb]
    ·cases h
   ·cases h
  ·cases h
structure Looked (n : Nat) (ops : Array Oper) (ol : List O) (anc : List (List Nat)) (P : Program) : Prop where
 len : ol.length = ops.size
 comp : ∀ (i : Nat) o oo, ops[i]? = some o → ol[i]? = some oo → compO P n ops o = some oo
 back : ∀ (i : Nat) o, ops[i]? = some o → ∀ j ∈ anc.getD i [], j ∈ edges o ∨ ∃ e ∈ edges o, j ∈ anc.getD e []
 edge : ∀ (i : Nat) o, ops[i]? = some o → ∀ e ∈ edges o, e < i
 t1 : ∀ (i j : Nat) x y d, i < j → ol[i]? = some x → ol[j]? = some y → x.dst = some d → (d ∈ y.names ∨ y.dst = some d) → i ∈ anc.getD j []
 t2 : ∀ (i j : Nat) x y d, i < j → ol[i]? = some x → ol[j]? = some y → y.dst = some d → d ∈ x.names → i ∈ anc.getD j []
 t3 : ∀ (i j : Nat) x y d, i ≠ j → ol[i]? = some x → ol[j]? = some y → isNew x.op = true → x.dst = some d → y.dst ≠ some d
 anclt : ∀ (k j : Nat), j ∈ anc.getD k [] → j < k
def DC (anc : List (List Nat)) (listed : Array Bool) : Prop := ∀ k, listed.getD k false = true → ∀ j ∈ anc.getD k [], listed.getD j false = true
theorem ready_iff {ops : Array Oper} {listed : Array Bool} {i : Nat} : i ∈ Region.ready .any ops listed ↔ listed.getD i true = false ∧ ∃ o, ops[i]? = some o ∧ ∀ e ∈ edges o, listed.getD e false = true := by
 rw [mem_ready]
 refine and_congr_right fun _ => exists_congr fun o => and_congr_right fun _ => ?_
 simp only [edges, List.mem_map, List.mem_filter]
 constructor
 ·rintro h e ⟨x, ⟨hx, hb⟩, rfl⟩; exact h x (by simpa using hx) hb
 ·intro h e he hb; exact h _ ⟨e, ⟨by simpa using he, hb⟩, rfl⟩
theorem set_getD {listed : Array Bool} {i : Nat} (hi : i < listed.size) (j : Nat) : (listed.setIfInBounds i true).getD j false = if j = i then true else listed.getD j false := by
 by_cases h : j = i
 ·subst h; simp [Array.getD_eq_getD_getElem?, hi]
 ·simp [Array.getD_eq_getD_getElem?, Ne.symm h, h]
theorem ready_anc {n : Nat} {ops : Array Oper} {ol : List O} {anc : List (List Nat)} (lk : Looked n ops ol anc P) {listed : Array Bool} (hdc : DC anc listed) {i : Nat} (hr : i ∈ Region.ready .any ops listed) : ∀ j ∈ anc.getD i [], listed.getD j false = true := by
 obtain ⟨-, o, ho, he⟩ := ready_iff.1 hr
 intro j hj
 rcases lk.back i o ho j hj with h | ⟨e, h1, h2⟩
 ·exact he j h
 ·exact hdc e (he e h1) j h2
theorem DC.step {n : Nat} {ops : Array Oper} {ol : List O} {anc : List (List Nat)} (lk : Looked n ops ol anc P) {listed : Array Bool} (hdc : DC anc listed) {i : Nat} (hr : i ∈ Region.ready .any ops listed) (hi : i < listed.size) : DC anc (listed.setIfInBounds i true) := by
 intro k hk j hj
 rw [set_getD hi] at hk ⊢
 by_cases hki : k = i
 ·subst hki
  have := ready_anc lk hdc hr j hj
  rw [this]; split <;> rfl
 ·rw [if_neg hki] at hk
  rw [hdc k hk j hj]; split <;> rfl
def Holds (η : List Nat) (S : Nat → Prop) (w : World) (b : Nat) (cs : List L) : Prop := ∃ c t fr, w.heap[b]? = some (.cells c t fr) ∧ (fr.1 = fr.2 ∨ c.size ≤ fr.1) ∧ cs.length ≤ c.size ∧ ∀ j, j < cs.length → Rel S w η (c.getD j undef) (cs.getD j .any)
theorem Holds.lt {b : Nat} {cs : List L} (h : Holds η S w b cs) : b < w.heap.size := by
 obtain ⟨c, t, fr, h1, -⟩ := h
 rcases Nat.lt_or_ge b w.heap.size with h | h
 ·exact h
 ·simp [Array.getElem?_eq_none h] at h1
structure Mid (n : Nat) (ds : List Deferred) (anc : List (List Nat)) (p : Nat) (blk : List O) (outs : List Out) (E : Env) (H : Heap) (wb : Nat) (β : Nat → Nat) (listed : Array Bool) (η : List Nat) (S : Nat → Prop) (w : World) (a : Act) : Prop where
 pre : ∀ j, j < p → listed.getD j false = true
 post : ∀ j, p + blk.length ≤ j → listed.getD j false = false
 dc : DC anc listed
 conc : Conc η S w H
 size : a.tmps.size = n
 defers : a.defers = ds
 rel : ∀ t, Rel S w η (a.tmps.getD t undef) (valAt E blk outs (fun i => listed.getD (p + i) false) t blk.length)
 wbd : wb ≤ w.heap.size ∧ ∀ b ∈ η, b < wb
 priv : ∀ (i : Nat) cs mk, outs[i]? = some (.new cs mk) → listed.getD (p + i) false = true → wb ≤ β i ∧ ¬ S (β i) ∧ Holds η S w (β i) (afterPut (putsTo outs (fun i => listed.getD (p + i) false) ((blk[i]?).bind (·.dst))) cs) ∧
  ∀ d, (blk[i]?).bind (·.dst) = some d → Rel S w [β i] (a.tmps.getD d undef) (mk 0)
 inj : ∀ (i i' : Nat) cs mk cs' mk', outs[i]? = some (.new cs mk) → outs[i']? = some (.new cs' mk') → listed.getD (p + i) false = true → listed.getD (p + i') false = true → β i = β i' → i = i'
theorem storesTo_names {o : O} {d : Nat} (h : storesTo o = some d) : d ∈ o.names := by
 unfold storesTo at h
 split at h
 ·rename_i s d' y e
  cases h
  unfold O.names
  rw [e]
  split <;> simp [I.tmps, A.tmps]
 ·simp at h
theorem put_getD {d : Option Nat} {v : Value} (hd : ∀ t, d = some t → t < a.tmps.size) (t : Nat) : (a.put d v).tmps.getD t undef = if d = some t then v else a.tmps.getD t undef := by
 cases d with
 | none => simp [Act.put]
 | some k =>
  have := hd k rfl
  simp only [Act.put, Option.some.injEq]
  by_cases h : t = k
  ·subst h; simp [Array.getD_eq_getD_getElem?, this]
  ·simp [Array.getD_eq_getD_getElem?, Ne.symm h]
theorem Mid.step {n : Nat} {ops : Array Oper} {ol : List O} {anc : List (List Nat)} (lkd : Looked n ops ol anc P) {p : Nat} {blk : List O} {outs : List Out} {wb : Nat} {β : Nat → Nat} {listed : Array Bool} (hM : Mid n ds anc p blk outs E H wb β listed η S w a)
  (hblk : ∀ (i : Nat) o, blk[i]? = some o → ol[p + i]? = some o) (hsz : listed.size = ops.size) {i : Nat} {o : O} {out : Out} (ho : blk[i]? = some o) (hout : outs[i]? = some out) (hr : p + i ∈ Region.ready .any ops listed) (hnew : ∀ (j : Nat) y cs mk, blk[j]? = some y → outs[j]? = some (.new cs mk) → isNew y.op = true)
  (hdst : ∀ t, o.dst = some t → t < n) {v : Value} {S' : Nat → Prop} {w' : World} (q : Le η S w η S' w') (qC : Conc η S' w' H) (hv : Rel S' w' η v out.l)
  (hpriv : ∀ cs mk, out = .new cs mk → w.heap.size < w'.heap.size ∧ ¬ S' w.heap.size ∧ (∃ c t, w'.heap[w.heap.size]? = some (.cells c t (0, 0)) ∧ cs.length ≤ c.size ∧ ∀ j, j < cs.length → Rel S' w' η (c.getD j undef) (cs.getD j .any)) ∧ Rel S' w' [w.heap.size] v (mk 0))
  (hnp : ∀ d l, out ≠ .put d l) (hputs : ∀ (k : Nat) d l, outs[k]? = some (.put d l) → ∃ y, blk[k]? = some y ∧ storesTo y = some d)
  (hbefore : ∀ (k : Nat) d l, outs[k]? = some (.put d l) → ∀ (j : Nat) cs mk, outs[j]? = some (.new cs mk) → (blk[j]?).bind (·.dst) = some d → k ≤ j → False) :
  Mid n ds anc p blk outs E H wb (fun k => if k = i then w.heap.size else β k) (listed.setIfInBounds (p + i) true) η S' w' (a.put o.dst v) := by
 have hib : i < blk.length := (List.getElem?_eq_some_iff.1 ho).1
 have hin : p + i < listed.size := by
  have := (List.getElem?_eq_some_iff.1 (hblk i o ho)).1
  rw [hsz, ← lkd.len]; exact this
 have hun : listed.getD (p + i) false = false := by
  have := (ready_iff.1 hr).1
  rw [agetD_of_lt _ _ hin] at this ⊢; exact this
 have hg : ∀ j, (listed.setIfInBounds (p + i) true).getD j false = if j = p + i then true else listed.getD j false := set_getD hin
 have hg' : ∀ j, (listed.setIfInBounds (p + i) true).getD (p + j) false = if j = i then true else listed.getD (p + j) false := fun j => by
  rw [hg]; by_cases h : j = i
  ·simp [h]
  ·rw [if_neg (by omega), if_neg h]
 have hput : ∀ t, (a.put o.dst v).tmps.getD t undef = if o.dst = some t then v else a.tmps.getD t undef := put_getD (fun t ht => by rw [hM.size]; exact hdst t ht)
 refine ⟨fun j hj => ?_, fun j hj => ?_, hM.dc.step lkd hr hin, qC, ?_, ?_, fun t => ?_, ⟨Nat.le_trans hM.wbd.1 q.size, hM.wbd.2⟩, ?_, ?_⟩
 ·rw [hg, if_neg (by omega)]; exact hM.pre j hj
 ·rw [hg, if_neg (by omega)]; exact hM.post j hj
 ·cases o.dst <;> simp [Act.put, hM.size]
 ·cases o.dst <;> exact hM.defers
 ·rw [hput]
  by_cases hd : o.dst = some t
  ·rw [if_pos hd]
   have hstop := valAt_stop (E := E) (blk := blk) (outs := outs) (M := fun j => (listed.setIfInBounds (p + i) true).getD (p + j) false) (t := t) (k := i + 1) (n := blk.length) (by omega) (fun j h1 h2 h3 => by
    rw [hg', if_neg (by omega)]
    cases hl : listed.getD (p + j) false with
    | false => rfl
    | true =>
     exfalso
     obtain ⟨y, hy⟩ : ∃ y, blk[j]? = some y := ⟨_, List.getElem?_eq_getElem h2⟩
     rw [hy] at h3
     have := lkd.t1 (p + i) (p + j) o y t (by omega) (hblk i o ho) (hblk j y hy) hd (.inr h3)
     have := hM.dc (p + j) hl _ this
     rw [hun] at this; simp at this)
   rw [hstop]
   simp only [valAt]
   rw [if_pos ⟨by rw [hg']; simp, by rw [ho]; exact hd⟩, hout]
   exact hv
  ·rw [if_neg hd]
   have := valAt_congr (E := E) (blk := blk) (outs := outs) (M := fun j => (listed.setIfInBounds (p + i) true).getD (p + j) false) (M' := fun j => listed.getD (p + j) false) (t := t) (n := blk.length) (fun j h1 h2 => by
    rw [hg', if_neg (fun e => by subst e; rw [ho] at h2; exact hd h2)])
   rw [this]
   exact (hM.rel t).le q
 ·intro j cs mk hj hl
  rw [hg'] at hl
  by_cases hji : j = i
  ·subst hji
   rw [hout] at hj; cases hj
   obtain ⟨k1, k2, ⟨c, t, k3, k3', k3''⟩, k4⟩ := hpriv cs mk rfl
   simp only [if_true]
   have hnone : putsTo outs (fun i => (listed.setIfInBounds (p + j) true).getD (p + i) false) ((blk[j]?).bind (·.dst)) = none := putsTo_none fun k d l hk hd => by
    rw [hg']
    have hkj : k ≠ j := fun e => by subst e; rw [hout] at hk; simp at hk
    rw [if_neg hkj]
    cases hlk : listed.getD (p + k) false with
    | false => rfl
    | true =>
     exfalso
     obtain ⟨y, hy, hst⟩ := hputs k d l hk
     rw [ho] at hd
     simp only [Option.bind_some] at hd
     have hny := storesTo_names hst
     rcases Nat.lt_or_ge j k with hlt | hge
     ·have := lkd.t1 (p + j) (p + k) o y d (by omega) (hblk j o ho) (hblk k y hy) hd (.inl hny)
      have := hM.dc _ hlk _ this
      rw [hun] at this; simp at this
     ·exact absurd hge (by
       have := lkd.t2 (p + k) (p + j) y o d (by omega) (hblk k y hy) (hblk j o ho) hd hny
       exact fun _ => hbefore k d l hk j cs mk hout (by rw [ho]; exact hd) hge)
   refine ⟨hM.wbd.1, k2, by rw [hnone]; exact ⟨c, t, (0, 0), k3, .inl rfl, k3', k3''⟩, fun d hd => ?_⟩
   rw [ho] at hd
   simp only [Option.bind_some] at hd
   rw [hput, if_pos hd]; exact k4
  ·rw [if_neg hji] at hl
   obtain ⟨k1, k2, k3, k6⟩ := hM.priv j cs mk hj hl
   simp only [hji, if_false]
   have hlt : β j < w.heap.size := k3.lt
   have hout' : β j ∉ η := fun hm => by have := hM.wbd.2 _ hm; omega
   have hsame : putsTo outs (fun k => (listed.setIfInBounds (p + i) true).getD (p + k) false) ((blk[j]?).bind (·.dst)) = putsTo outs (fun k => listed.getD (p + k) false) ((blk[j]?).bind (·.dst)) := putsTo_congr fun k d l hk hd => by
    rw [hg', if_neg (fun e => by subst e; rw [hout] at hk; exact hnp d l (Option.some.inj hk))]
   obtain ⟨c, t, fr, k3, k4', k4, k5⟩ := k3
   refine ⟨k1, fun hs => ?_, by rw [hsame]; exact ⟨c, t, fr, by rw [q.frame _ hlt hout']; exact k3, k4', k4, fun m hm => (k5 m hm).le q⟩, fun d hd => ?_⟩
   ·rcases q.new _ hs with h | h | h
    ·exact k2 h
    ·exact hout' h
    ·omega
   ·rw [hput]
    obtain ⟨y, hy⟩ : ∃ y, blk[j]? = some y := by
     cases e : blk[j]? with
     | none => simp [e] at hd
     | some y => exact ⟨y, rfl⟩
    rw [if_neg (fun e => ?_)]
    ·exact (k6 d hd).mono q.sub q.keep q.shape (fun _ _ h => h)
    ·rw [hy] at hd
     exact lkd.t3 (p + j) (p + i) y o d (by omega) (hblk j y hy) (hblk i o ho) (hnew j y cs mk hy hj) hd e
 ·intro j j' cs mk cs' mk' h1 h2 l1 l2 hb
  rw [hg'] at l1 l2
  have old : ∀ {j cs mk}, outs[j]? = some (.new cs mk) → listed.getD (p + j) false = true → β j < w.heap.size := fun {j cs mk} h1 l1 => by
   obtain ⟨-, -, k3, -⟩ := hM.priv j cs mk h1 l1
   exact k3.lt
  by_cases e1 : j = i <;> by_cases e2 : j' = i
  ·rw [e1, e2]
  ·rw [if_neg e2] at l2
   have := old h2 l2
   simp only [e1, if_true, e2, if_false] at hb
   omega
  ·rw [if_neg e1] at l1
   have := old h1 l1
   simp only [e1, if_false, e2, if_true] at hb
   omega
  ·rw [if_neg e1] at l1
   rw [if_neg e2] at l2
   simp only [e1, e2, if_false] at hb
   exact hM.inj j j' cs mk cs' mk' h1 h2 l1 l2 hb
theorem addNews_sound {tmps : Array Value} {K : Env → Heap → Prop} : ∀ {nl : List (Option Nat × List L × (Nat → L))} {E : Env} {H : Heap} {η : List Nat} (bs : List Nat), bs.length = nl.length → Conc η S w H → REnv η S w tmps E → addNews nl E H K →
  (∀ (i : Nat) b d cs mk, bs[i]? = some b → nl[i]? = some (d, cs, mk) → ¬ S b ∧ b ∉ η ∧ Holds η S w b cs ∧
   ∀ t, d = some t → ∀ η, Rel S w (η ++ [b]) (tmps.getD t undef) (mk η.length)) →
  (∀ (i i' : Nat) b, bs[i]? = some b → bs[i']? = some b → i = i') →
  ∃ E' H' η', K E' H' ∧ Conc η' S w H' ∧ REnv η' S w tmps E' ∧ η' = η ++ bs
 | [], E, H, η, bs, hl, hC, hE, hk, _, _ => by
  have : bs = [] := List.eq_nil_of_length_eq_zero hl
  subst this
  exact ⟨E, H, η, hk, hC, hE, by simp⟩
 | (d, cs, mk) :: nl, E, H, η, [], hl, _, _, _, _, _ => by simp at hl
 | (d, cs, mk) :: nl, E, H, η, b :: bs, hl, hC, hE, hk, hp, hi => by
  simp only [addNews] at hk
  obtain ⟨p1, p2, ⟨c, t, fr, p3, p4', p4, p5⟩, p6⟩ := hp 0 b d cs mk rfl rfl
  have hC' := hC.adopt p4' p3 p1 p2 p4 p5
  have up : ∀ {x l}, Rel S w η x l → Rel S w (η ++ [b]) x l := fun h => h.mono (fun _ h => h) (fun _ _ => rfl) (fun _ c _ fr h => ⟨c, fr, h, rfl⟩) (fun _ _ h => prefix_get h)
  obtain ⟨E', H', η', q1, q2, q3, q4⟩ := addNews_sound (η := η ++ [b]) bs (by simpa using hl) hC' (fun t => by
   rw [lk_putE]
   split
   ·rename_i e
    rw [← hC.len]
    exact p6 t e η
   ·exact up (hE t)) hk (fun i b' d' cs' mk' e1 e2 => by
   obtain ⟨r1, r2, ⟨c', t', fr', r3, r4', r4, r5⟩, r6⟩ := hp (i + 1) b' d' cs' mk' (by simpa using e1) (by simpa using e2)
   refine ⟨r1, fun hm => ?_, ⟨c', t', fr', r3, r4', r4, fun j hj => up (r5 j hj)⟩, r6⟩
   rcases List.mem_append.1 hm with h | h
   ·exact r2 h
   ·simp at h; subst h
    have := hi (i + 1) 0 b' (by simpa using e1) rfl
    omega) (fun i i' b' e1 e2 => by have := hi (i + 1) (i' + 1) b' (by simpa using e1) (by simpa using e2); omega)
  exact ⟨E', H', η', q1, q2, q3, by rw [q4]; simp⟩
def newBlocks (β : Nat → Nat) : Nat → List Out → List Nat
 | _, [] => []
 | i, .new _ _ :: outs => β i :: newBlocks β (i + 1) outs
 | i, _ :: outs => newBlocks β (i + 1) outs
theorem newBlocks_spec {β : Nat → Nat} : ∀ {blk : List O} {outs : List Out} (i : Nat), outs.length = blk.length → (newBlocks β i outs).length = (newsOf blk outs).length ∧
  ∀ (k : Nat) (b : Nat) (d : Option Nat) (cs : List L) (mk : Nat → L), (newBlocks β i outs)[k]? = some b → (newsOf blk outs)[k]? = some (d, cs, mk) → ∃ (j : Nat) (o : O), blk[j]? = some o ∧ outs[j]? = some (.new cs mk) ∧ b = β (i + j) ∧ d = o.dst
 | [], [], i, _ => by simp [newBlocks, newsOf]
 | [], _ :: _, i, h => by simp at h
 | _ :: _, [], i, h => by simp at h
 | o :: blk, out :: outs, i, h => by
  obtain ⟨e1, e2⟩ := newBlocks_spec (β := β) (blk := blk) (outs := outs) (i + 1) (by simpa using h)
  have old : ∀ (k : Nat) (b : Nat) (d : Option Nat) (cs : List L) (mk : Nat → L), (newBlocks β (i + 1) outs)[k]? = some b → (newsOf blk outs)[k]? = some (d, cs, mk) → ∃ (j : Nat) (o' : O), (o :: blk)[j]? = some o' ∧ (out :: outs)[j]? = some (.new cs mk) ∧ b = β (i + j) ∧ d = o'.dst := fun k b d cs mk h1 h2 => by
   obtain ⟨j, o', f1, f2, f3, f4⟩ := e2 k b d cs mk h1 h2
   exact ⟨j + 1, o', by simpa using f1, by simpa using f2, by rw [f3]; congr 1; omega, f4⟩
  cases out with
  | skip => exact ⟨e1, old⟩
  | val l => exact ⟨e1, old⟩
  | put d l => exact ⟨e1, old⟩
  | new cs mk =>
   refine ⟨by simp [newBlocks, newsOf, e1], fun k b d cs' mk' h1 h2 => ?_⟩
   cases k with
   | zero =>
    simp only [newBlocks, newsOf, List.getElem?_cons_zero, Option.some.injEq, Prod.mk.injEq] at h1 h2
    obtain ⟨rfl, rfl, rfl⟩ := h2
    exact ⟨0, o, rfl, rfl, h1.symm, rfl⟩
   | succ k => exact old k b d cs' mk' (by simpa [newBlocks] using h1) (by simpa [newsOf] using h2)
theorem newBlocks_at {β : Nat → Nat} : ∀ {outs : List Out} (i k b : Nat), (newBlocks β i outs)[k]? = some b → ∃ (j : Nat) (cs : List L) (mk : Nat → L), outs[j]? = some (.new cs mk) ∧ b = β (i + j) ∧ k = ((outs.take j).countP fun o => match o with | .new _ _ => true | _ => false)
 | [], i, k, b, h => by simp [newBlocks] at h
 | out :: outs, i, k, b, h => by
  cases out with
  | skip =>
   obtain ⟨j, cs, mk, h1, h2, h3⟩ := newBlocks_at (outs := outs) (i + 1) k b h
   exact ⟨j + 1, cs, mk, by simpa using h1, by rw [h2]; congr 1; omega, by simpa using h3⟩
  | val l =>
   obtain ⟨j, cs, mk, h1, h2, h3⟩ := newBlocks_at (outs := outs) (i + 1) k b h
   exact ⟨j + 1, cs, mk, by simpa using h1, by rw [h2]; congr 1; omega, by simpa using h3⟩
  | put d l =>
   obtain ⟨j, cs, mk, h1, h2, h3⟩ := newBlocks_at (outs := outs) (i + 1) k b h
   exact ⟨j + 1, cs, mk, by simpa using h1, by rw [h2]; congr 1; omega, by simpa using h3⟩
  | new cs mk =>
   cases k with
   | zero => simp [newBlocks] at h; exact ⟨0, cs, mk, rfl, h.symm, by simp⟩
   | succ k =>
    obtain ⟨j, cs', mk', h1, h2, h3⟩ := newBlocks_at (outs := outs) (i + 1) k b (by simpa [newBlocks] using h)
    exact ⟨j + 1, cs', mk', by simpa using h1, by rw [h2]; congr 1; omega, by simp [h3]⟩
theorem Mid.done {n : Nat} {anc : List (List Nat)} {p : Nat} {blk : List O} {outs : List Out} {wb : Nat} {β : Nat → Nat} {listed : Array Bool} (hM : Mid n ds anc p blk outs E H wb β listed η S w a) (hall : ∀ i, i < blk.length → listed.getD (p + i) false = true)
  (hruns : Runs P H E blk outs) {E' : Env} {K : Env → Heap → Prop} (he : ∀ t, lk E' t = lk (foldE E blk outs) t) (hk : addNews (finNews outs (newsOf blk outs)) E' H K) :
  ∃ E'' H'' η', K E'' H'' ∧ At n ds η' S w a E'' H'' ∧ ∃ ζ, η' = η ++ ζ ∧ ∀ b ∈ ζ, wb ≤ b := by
 obtain ⟨hl, hat⟩ := hruns.at
 obtain ⟨nb1, nb2⟩ := newBlocks_spec (β := β) (blk := blk) (outs := outs) 0 hl
 have hE : REnv η S w a.tmps E' := fun t => by
  rw [he t]
  have := valAt_fold (E := E) (blk := blk) (outs := outs) hl (t := t) (Nat.le_refl _)
  rw [List.take_length, ← hl, List.take_length] at this
  rw [← this, hl]
  rw [valAt_congr (M' := fun i => listed.getD (p + i) false) (fun i hi _ => (hall i hi).symm)]
  exact hM.rel t
 have mkOK : ∀ (j : Nat) o cs mk, blk[j]? = some o → outs[j]? = some (.new cs mk) → lnew o.op (foldE E (blk.take j) (outs.take j)) = some (cs, mk) := fun j o cs mk h1 h2 => (hat j o _ h1 h2).2
 obtain ⟨E'', H'', η', q1, q2, q3, q4⟩ := addNews_sound (tmps := a.tmps) (newBlocks β 0 outs) (by rw [nb1]; simp [finNews]) hM.conc hE hk (fun k b d cs mk h1 h2 => by
   obtain ⟨cs0, h2, hcs⟩ : ∃ cs0, (newsOf blk outs)[k]? = some (d, cs0, mk) ∧ cs = afterPut (putsTo outs (fun _ => true) d) cs0 := by
    unfold finNews at h2
    rw [List.getElem?_map] at h2
    obtain ⟨⟨d0, cs0, mk0⟩, g1, g2⟩ := Option.map_eq_some_iff.1 h2
    simp only [Prod.mk.injEq] at g2
    obtain ⟨rfl, rfl, rfl⟩ := g2
    exact ⟨cs0, g1, rfl⟩
   obtain ⟨j, o, f1, f2, f3, f4⟩ := nb2 k b d cs0 mk h1 h2
   have hj : j < blk.length := (List.getElem?_eq_some_iff.1 f1).1
   obtain ⟨g1, g2, g3, g4⟩ := hM.priv j cs0 mk f2 (hall j hj)
   rw [Nat.zero_add] at f3
   subst f3
   have hsame : putsTo outs (fun i => listed.getD (p + i) false) ((blk[j]?).bind (·.dst)) = putsTo outs (fun _ => true) d := by
    rw [f1, f4]
    exact putsTo_congr fun i d' l hi _ => hall i (by have := (List.getElem?_eq_some_iff.1 hi).1; omega)
   rw [hsame, ← hcs] at g3
   refine ⟨g2, fun hm => by have := hM.wbd.2 _ hm; omega, g3, fun t ht η₁ => ?_⟩
   have := g4 t (by rw [f1]; rw [← ht, f4]; rfl)
   exact lnew_mk (mkOK j o cs0 mk f1 f2) this η₁) (fun k k' b h1 h2 => by
   obtain ⟨j, cs, mk, f1, f2, f3⟩ := newBlocks_at (β := β) (outs := outs) 0 k b h1
   obtain ⟨j', cs', mk', g1, g2, g3⟩ := newBlocks_at (β := β) (outs := outs) 0 k' b h2
   rw [Nat.zero_add] at f2 g2
   have hj : j < blk.length := by have := (List.getElem?_eq_some_iff.1 f1).1; omega
   have hj' : j' < blk.length := by have := (List.getElem?_eq_some_iff.1 g1).1; omega
   have := hM.inj j j' cs mk cs' mk' f1 g1 (hall j hj) (hall j' hj') (by rw [← f2, ← g2])
   subst this
   rw [f3, g3])
 refine ⟨E'', H'', η', q1, ⟨q2, q3, hM.size, hM.defers⟩, _, q4, fun b hb => ?_⟩
 obtain ⟨k, hk', hkb⟩ := List.getElem_of_mem hb
 obtain ⟨j, cs, mk, f1, f2, -⟩ := newBlocks_at (β := β) (outs := outs) 0 k b (by rw [List.getElem?_eq_getElem hk', hkb])
 rw [Nat.zero_add] at f2
 have hj : j < blk.length := by have := (List.getElem?_eq_some_iff.1 f1).1; omega
 have := (hM.priv j cs mk f1 (hall j hj)).1
 omega
end
end Lg


/- Regions whose order of evaluation is open: all orders. -/
namespace Lg
open Go
theorem compOps_get {P : Program} {n : Nat} {ops : Array Oper} : ∀ {l : List Oper} {ol : List O}, compOps P n ops l = some ol → ol.length = l.length ∧ ∀ (i : Nat) o oo, l[i]? = some o → ol[i]? = some oo → compO P n ops o = some oo
 | [], ol, h => by simp [compOps] at h; subst h; simp
 | o :: l, ol, h => by
  simp only [compOps, Option.bind_eq_some_iff, Option.map_eq_some_iff] at h
  obtain ⟨x, h1, ol', h2, rfl⟩ := h
  obtain ⟨e1, e2⟩ := compOps_get h2
  refine ⟨by simp [e1], fun i o' oo ho hoo => ?_⟩
  cases i with
  | zero => simp at ho hoo; subst ho; subst hoo; exact h1
  | succ i => exact e2 i o' oo (by simpa using ho) (by simpa using hoo)
theorem tempsOK_spec {anc : List (List Nat)} {ol : List O} (h : tempsOK anc ol = true) {i j : Nat} {x y : O} (hij : i < j) (hx : ol[i]? = some x) (hy : ol[j]? = some y) :
  (∀ d, x.dst = some d → (d ∈ y.names ∨ y.dst = some d) → i ∈ anc.getD j []) ∧ (∀ d, y.dst = some d → d ∈ x.names → i ∈ anc.getD j []) := by
 unfold tempsOK at h
 have hj : j < ol.length := (List.getElem?_eq_some_iff.1 hy).1
 have h1 := List.all_eq_true.1 (List.all_eq_true.1 h j (List.mem_range.2 hj)) i (List.mem_range.2 hij)
 simp only [hx, hy, Bool.and_eq_true] at h1
 obtain ⟨h2, h3⟩ := h1
 refine ⟨fun d hd hn => ?_, fun d hd hn => ?_⟩
 ·rw [hd] at h2
  simp only [Bool.or_eq_true, Bool.not_eq_true', Bool.or_eq_false_iff] at h2
  rcases h2 with ⟨h4, h5⟩ | h4
  ·rcases hn with hn | hn
   ·have := List.contains_iff_mem.2 hn; rw [this] at h4; simp at h4
   ·rw [hn] at h5; simp at h5
  ·exact List.contains_iff_mem.1 h4
 ·rw [hd] at h3
  simp only [Bool.or_eq_true, Bool.not_eq_true'] at h3
  rcases h3 with h4 | h4
  ·have := List.contains_iff_mem.2 hn; rw [this] at h4; simp at h4
  ·exact List.contains_iff_mem.1 h4
theorem newsOK_spec {ol : List O} (h : newsOK ol = true) {i j : Nat} {x y : O} {d : Nat} (hij : i ≠ j) (hx : ol[i]? = some x) (hy : ol[j]? = some y) (hn : isNew x.op = true) (hd : x.dst = some d) : y.dst ≠ some d := by
 unfold newsOK at h
 have hi : i < ol.length := (List.getElem?_eq_some_iff.1 hx).1
 have hj : j < ol.length := (List.getElem?_eq_some_iff.1 hy).1
 have h1 := List.all_eq_true.1 (List.all_eq_true.1 h i (List.mem_range.2 hi)) j (List.mem_range.2 hj)
 simp only [hx, hy, Bool.or_eq_true, beq_iff_eq, hij, false_or, hd, Option.isNone_some, Bool.false_eq_true, or_false, bne_iff_ne, ne_eq] at h1
 rcases h1 with h1 | h1
 ·exfalso
  revert h1 hn
  cases x.op <;> simp [isNew]
 ·exact fun e => h1 e.symm
theorem edgesOK_spec {ops : List Oper} (h : edgesOK ops = true) {i : Nat} {o : Oper} (ho : ops[i]? = some o) : ∀ e ∈ edges o, e < i := by
 unfold edgesOK at h
 have hi : i < ops.length := (List.getElem?_eq_some_iff.1 ho).1
 have h1 := List.all_eq_true.1 h i (List.mem_range.2 hi)
 simp only [ho] at h1
 intro e he
 simpa using List.all_eq_true.1 h1 e he
theorem cutAt_spec {anc : List (List Nat)} {n p : Nat} (h : cutAt anc n p = true) {k j : Nat} (hk : k < n) (hpk : p ≤ k) (hj : j < p) : j ∈ anc.getD k [] := by
 unfold cutAt at h
 have h1 := List.all_eq_true.1 h k (List.mem_range.2 hk)
 simp only [Bool.or_eq_true, decide_eq_true_eq] at h1
 rcases h1 with h1 | h1
 ·omega
 ·exact List.contains_iff_mem.1 (List.all_eq_true.1 h1 j (List.mem_range.2 hj))
section
variable {ds : List Deferred} {ro : Option Nat} {P : Program}
def unl (N : Nat) (listed : Array Bool) : Nat := (List.range N).countP fun j => !listed.getD j false
theorem unl_step {N : Nat} {listed : Array Bool} {i : Nat} (hi : i < listed.size) (hN : i < N) (h : listed.getD i false = false) : unl N (listed.setIfInBounds i true) < unl N listed :=
 countP_lt (fun x _ hx => by
  rw [set_getD hi] at hx
  split at hx
  ·simp at hx
  ·exact hx) ⟨i, List.mem_range.2 hN, by rw [h]; rfl, by rw [set_getD hi, if_pos rfl]; rfl⟩
theorem unl_pos {N : Nat} {listed : Array Bool} {i : Nat} (hN : i < N) (h : listed.getD i false = false) : 0 < unl N listed :=
 List.countP_pos_iff.2 ⟨i, List.mem_range.2 hN, by rw [h]; rfl⟩
theorem least_ready {n : Nat} {ops : Array Oper} {ol : List O} {anc : List (List Nat)} (lkd : Looked n ops ol anc P) {listed : Array Bool} (hsz : listed.size = ops.size) {i : Nat} (hi : i < ops.size) (hu : listed.getD i false = false) (hl : ∀ j, j < i → listed.getD j false = true) :
  i ∈ Region.ready .any ops listed := by
 refine ready_iff.2 ⟨by rw [agetD_of_lt _ _ (by omega)] at hu ⊢; exact hu, _, Array.getElem?_eq_getElem hi, fun e he => hl e (lkd.edge i _ (Array.getElem?_eq_getElem hi) e he)⟩
theorem exists_first {p : Nat → Prop} {i : Nat} (h : p i) : ∃ k, k ≤ i ∧ p k ∧ ∀ j, j < k → ¬ p j := by
 induction i using Nat.strongRecOn with
 | _ i ih =>
  by_cases hx : ∃ j, j < i ∧ p j
  ·obtain ⟨j, hj, hp⟩ := hx
   obtain ⟨k, h1, h2, h3⟩ := ih j hj hp
   exact ⟨k, by omega, h2, h3⟩
  ·exact ⟨i, Nat.le_refl _, h, fun j hj hp => hx ⟨j, hj, hp⟩⟩
theorem single_sound {n : Nat} {ops : Array Oper} {o : Oper} {oo : O} {K : Env → Heap → Prop} {Q : Exit → Act → World → Prop} {next : Act → World → Prop} {E : Env} {H : Heap} {η : List Nat} {S : Nat → Prop} {w : World} {a : Act} (hc : compO P n ops o = some oo) (hl : lops P [oo] K E H)
  (hA : At n ds η S w a E H) (hn : ∀ E' H' η' S' w' a', K E' H' → At n ds η' S' w' a' E' H' → Le η S w η' S' w' → next a' w') {i : Nat} (hi : ops[i]? = some o) : wpOpIn (FW ro) 0 P ops Q i next a w := by
 simp only [compO, Option.bind_eq_some_iff] at hc
 obtain ⟨ii, hii, ho⟩ := hc
 split at ho
 rotate_left
 ·simp at ho
 rename_i hd
 have hd' : ∀ t, o.dst = some t → t < n := fun t ht => by rw [ht] at hd; simpa [dstOk] using hd
 have runIt : ∀ {E' : Env}, At n ds η S w a E' H → (lopE P ii E' H fun E1 l H' => K (putE E1 o.dst l) H') → o.wpIn (FW ro) 0 P a w next Q := fun {E'} hA' hl' => by
  refine lopE_sound hii hl' hA' ?_
  intro v E1 l' H1 S1 H' η' S' w' hK hA1 hL1 hr hC' hL
  exact hn _ _ _ _ _ _ hK (hA1.put hd' hC' hL hr) (hL1.trans hL)
 have passIt : ∀ {E' : Env}, At n ds η S w a E' H → K (putE E' o.dst .no) H → next (a.put o.dst undef) w := fun {E'} hA' hl' =>
  hn _ _ _ _ _ _ hl' (hA'.put hd' hA'.conc (Le.refl _ _ _) .no) (Le.refl _ _ _)
 unfold wpOpIn
 rw [hi]
 simp only
 cases hg : o.guard with
 | none =>
  simp only [hg, Option.some.injEq] at ho
  subst ho
  have hw : Region.wanted o (yielded ops a.tmps) = true := by simp [Region.wanted, hg]
  rw [if_pos hw]
  exact (runIt hA hl)
 | some jb =>
  obtain ⟨j, b⟩ := jb
  simp only [hg, Option.map_eq_some_iff] at ho
  obtain ⟨s, hs, rfl⟩ := ho
  simp only [lops, lguard] at hl
  have hwant : ∀ x : Value, a.tmps.getD s undef = x → Region.wanted o (yielded ops a.tmps) = (match x with | .bool y => y == b | _ => false) := fun x hx => by
   simp only [Region.wanted, hg, yielded, hs, Option.bind_some]
   by_cases hlt : s < a.tmps.size
   ·rw [agetD_of_lt _ _ hlt] at hx
    simp only [Array.getElem?_eq_getElem hlt, hx]
    cases x <;> simp
   ·rw [agetD_of_ge _ _ (by omega)] at hx
    subst hx
    simp [Array.getElem?_eq_none (Nat.le_of_not_lt hlt), undef]
  have hE := hA.env s
  split at hl
  ·rename_i x e
   rw [e] at hE
   have hv := hE.inv_v
   rw [hwant _ hv]
   have again : ∀ c, x = c → At n ds η S w a ((s, .v (.bool c)) :: E) H := fun c hx => by
    subst hx
    refine ⟨hA.conc, fun u => ?_, hA.size, hA.defers⟩
    by_cases hu : u = s
    ·subst hu; simp only [lk, if_true]; rw [hv]; exact .v _
    ·simp only [lk, hu, if_false]; exact hA.env u
   by_cases hxb : x = b
   ·simp only [hxb, beq_self_eq_true, if_true]
    exact (runIt (again b hxb) (hl.1 hxb))
   ·have hxb' : x = !b := by cases x <;> cases b <;> simp_all
    simp only [beq_eq_false_iff_ne.2 hxb, Bool.false_eq_true, if_false]
    exact ⟨fun _ _ => trivial, passIt (again (!b) hxb') (hl.2 hxb')⟩
  ·rename_i e
   rw [e] at hE
   have hv := hE.inv_no
   rw [hwant _ hv]
   simp only [undef, Bool.false_eq_true, if_false]
   exact ⟨fun _ _ => trivial, passIt hA hl⟩
  ·exact hl.elim
theorem append_new {t u e ty : TypeId} {i : TypeInfo} {z : Value} {x y : Value} {lx ly : L} {cs : List L} {mk : Nat → L} {H : Heap} {η : List Nat} {S : Nat → Prop} {w : World} (hC : Conc η S w H) (hu : P.underlying t = some (.slice e)) (hu2 : ∃ e', P.underlying u = some (.slice e')) (hi : P.info? e = some i) (hz : i.zero = some z)
  (hz2 : z.cells.size = i.size) (hb : i.bytes ≠ 0) (hs0 : i.size ≠ 0) (hx : Rel S w η x lx) (hy : Rel S w η y ly) (h : appNew i.size i.bytes lx ly = some (cs, mk)) :
  ∃ v c dr, (Builtin.append_ #[t, u] ty #[x, y]).run P w = .ok v { w with drawn := dr, heap := w.heap.push (.cells c e) } ∧ cs.length ≤ c.size ∧ (∀ j, Rel S w η (c.getD j undef) (cs.getD j .any)) ∧
   ∀ S' w', w'.heap[w.heap.size]? = some (.cells c e (0, 0)) → Rel S' w' [w.heap.size] v (mk 0) := by
 unfold appNew at h
 split at h
 ·cases h
 rename_i ys hys
 have hys' := lcells_none hys H
 split at h
 rotate_left
 ·cases h
 rename_i hcond
 obtain ⟨hdv, hsol, hne⟩ := hcond
 obtain ⟨ad', m, cap', rfl, hm, new, hn1, hn2, hn3⟩ := lcells_reads (P := P) hC hy hys'
 have hdiv : ys.length / i.size = m := by rw [hm, Nat.mul_div_cancel _ (by omega)]
 have hm0 : 0 < m := Nat.pos_of_ne_zero fun e => by subst e; omega
 have grow : ∀ {ad0 : Option Addr} {n0 cap0 : Nat} {os : List L} {old : Array Value}, cap0 < n0 + m → os.length = n0 * i.size → old.size = os.length → (∀ w' : World, w'.heap = w.heap → (Builtin.firstCells i.size n0 (.slice ad0 n0 cap0)).run P w' = .ok old w') → (∀ j, j < os.length → Rel S w η (old.getD j undef) (os.getD j .any)) → (os.length + ys.length) * i.bytes ≤ 70368744177664 →
   ∃ v c dr, (Builtin.append_ #[t, u] ty #[.slice ad0 n0 cap0, .slice ad' m cap']).run P w = .ok v { w with drawn := dr, heap := w.heap.push (.cells c e) } ∧ (os ++ ys).length ≤ c.size ∧ (∀ j, Rel S w η (c.getD j undef) ((os ++ ys).getD j .any)) ∧
   ∀ S' w', w'.heap[w.heap.size]? = some (.cells c e (0, 0)) → Rel S' w' [w.heap.size] v (.view i.size 0 0 (n0 + m) false) := fun {ad0 n0 cap0 os old} hcap ho1 ho2 ho3 ho4 hbd => by
  have hbd' : (n0 + m) * i.bytes ≤ 70368744177664 := by
   refine Nat.le_trans (Nat.mul_le_mul_right _ ?_) hbd
   have h1 := Nat.le_mul_of_pos_right n0 (show 0 < i.size by omega)
   have h2 := Nat.le_mul_of_pos_right m (show 0 < i.size by omega)
   omega
  obtain ⟨nc, hc1, hc2, hc3⟩ := (append_run (P := P) (ty := ty) hu hu2 hi hz hb ho3 hn2).2 hcap hbd'
  have hsize : (old ++ new ++ Builtin.zeroCells z.cells (nc - (n0 + m))).size = nc * i.size := by
   simp only [Array.size_append, ho2, ho1, hn1, hm, Builtin.zeroCells, Array.size_map, Array.size_range, hz2]
   rw [← Nat.add_mul, ← Nat.add_mul]; congr 1; omega
  have hle : (n0 + m) * i.size ≤ nc * i.size := Nat.mul_le_mul_right _ hc1
  refine ⟨_, _, _, hc3, by rw [hsize, List.length_append, ho1, hm, ← Nat.add_mul]; exact hle, fun j => ?_, fun S' w' hw => .view (b := w.heap.size) (by simp) hw (by rw [hsize]; omega) hc1 hc2 (by simp)⟩
  simp only [Array.getD_eq_getD_getElem?, List.getD]
  by_cases hj2 : j < os.length
  ·rw [Array.getElem?_append_left (by simp; omega), Array.getElem?_append_left (by omega), List.getElem?_append_left hj2]
   have := ho4 j hj2
   simpa [Array.getD_eq_getD_getElem?, List.getD] using this
  ·by_cases hj3 : j < os.length + ys.length
   ·rw [Array.getElem?_append_left (by simp; omega), Array.getElem?_append_right (by omega), List.getElem?_append_right (by omega), ho2]
    have := hn3 (j - os.length) (by omega)
    simpa [Array.getD_eq_getD_getElem?, List.getD] using this
   ·rw [List.getElem?_eq_none (l := os ++ ys) (by simp; omega)]
    exact .any _
 split at h
 ·-- nothing
  obtain ⟨ad0, n0, cap0, e0, ho1, old, ho2, ho3, ho4⟩ := lcells_reads (P := P) (esz := i.size) (ys := []) hC hx rfl
  have := hx.inv_v; subst this
  cases e0
  split at h
  ·rename_i hbd
   cases h
   have := grow (os := []) (by omega) (by simp) ho2 ho3 ho4 (by simpa using hbd)
   simpa [hdiv] using this
  ·cases h
 ·rename_i ee xs
  split at h
  rotate_left
  ·cases h
  rename_i he; subst he
  obtain ⟨ad0, n0, cap0, rfl, ho1, old, ho2, ho3, ho4⟩ := lcells_reads (P := P) (esz := i.size) (ys := flat i.size xs) hC hx (by simp [lcells])
  obtain ⟨ad1, cap1, e1, hx1, hx2, hx3, hx4, hx5⟩ := hx.inv_sl
  cases e1
  have hcap := hx3 rfl
  split at h
  ·rename_i hbd
   cases h
   have := grow (by omega) ho1 ho2 ho3 ho4 hbd
   simpa [hdiv] using this
  ·cases h
 ·cases h
theorem new_fine {o : Oper} {i : I} {cs : List L} {mk : Nat → L} {E : Env} {η : List Nat} {S : Nat → Prop} {w : World} {a : Act} (hc : compOp P o.op = some i) (hl : lnew i E = some (cs, mk)) (hE : REnv η S w a.tmps E) {H : Heap} (hC : Conc η S w H) :
  ∃ v c t dr, (execOp a.eval o).run P w = .ok (.value v) { w with drawn := dr, heap := w.heap.push (.cells c t) } ∧ cs.length ≤ c.size ∧ (∀ j, Rel S w η (c.getD j undef) (cs.getD j .any)) ∧
   ∀ S' w', w'.heap[w.heap.size]? = some (.cells c t (0, 0)) → Rel S' w' [w.heap.size] v (mk 0) := by
 obtain ⟨dst, op, ty, pos, after, guard⟩ := o
 cases op <;> simp only [compOp] at hc <;> first | (simp at hc; done) | skip
 case alloc t =>
  simp only [zeroOf, Option.map_eq_some_iff, Option.bind_eq_some_iff] at hc
  obtain ⟨z', ⟨z, ⟨i', hi, hz⟩, rfl⟩, rfl⟩ := hc
  simp only [lnew, Option.some.injEq, Prod.mk.injEq] at hl
  obtain ⟨rfl, rfl⟩ := hl
  obtain ⟨e1, e2⟩ := zero_cells (S := S) (w := w) (η := η) z
  refine ⟨.pointer (some ⟨w.heap.size, 0, none⟩), z.cells, t, w.drawn, ?_, by omega, e2, fun S' w' hw => .ptr (by simp) hw⟩
  simp only [execOp, Instr.alloc, Sem.run_bind, run_zero hi hz, Result.andThen_ok, newVar, newRow, run_newObj, Sem.run_pure]
 case box t x =>
  simp only [Option.map_eq_some_iff] at hc
  obtain ⟨y, hy, rfl⟩ := hc
  simp only [lnew] at hl
  split at hl
  ·rename_i htop
   simp only [Option.some.injEq, Prod.mk.injEq] at hl
   obtain ⟨rfl, rfl⟩ := hl
   obtain ⟨e1, e2⟩ := (compA_sound hy hE).cells htop
   refine ⟨.pointer (some ⟨w.heap.size, 0, none⟩), (a.eval x).cells, t, w.drawn, ?_, by omega, e2, fun S' w' hw => .ptr (by simp) hw⟩
   simp only [execOp, Instr.box, Sem.run_bind, newVar, newRow, run_newObj, Result.andThen_ok, Sem.run_pure]
  ·simp at hl
 case buildSlice t n parts =>
  have hparts : (parts.map fun (p : Nat × Operand) => (p.1, a.eval p.2)).toList = parts.toList.map fun p => (p.1, a.eval p.2) := by simp
  split at hc
  ·rename_i e hu
   simp only [Option.bind_eq_some_iff] at hc
   obtain ⟨i', hi, z, hz, hc⟩ := hc
   split at hc
   ·simp at hc
   ·rename_i hno
    simp only [not_or, Nat.not_lt] at hno
    obtain ⟨n1, n2, n3⟩ := hno
    simp only [Option.map_eq_some_iff] at hc
    obtain ⟨qs, hq, rfl⟩ := hc
    simp only [lnew, Option.map_eq_some_iff, Prod.mk.injEq] at hl
    obtain ⟨ls, hf, rfl, rfl⟩ := hl
    obtain ⟨e1, e2⟩ := zero_cells (S := S) (w := w) (η := η) z
    have hz2 : z.cells.size = i'.size := by omega
    have hsz : (Go.sizeOf e).run P w = .ok i'.size w := by simp [Go.sizeOf, run_info hi]
    obtain ⟨cs, g1, g2, g3⟩ := fill_fine (fun j => some (j * i'.size, i'.size)) (fun j => some (j * i'.size, i'.size)) (fun _ _ h => h) hE hq (cells := (Array.range (n * z.cells.size)).map (z.cells[· % z.cells.size]!)) (zs := zeros n (ofV z).cells)
     (by simp [zeros_length e1]) (fun j => by
      by_cases hj : j < n * z.cells.size
      ·exact rel_zeros e1 e2 n j hj
      ·rw [getD_of_ge _ _ (by rw [zeros_length e1]; omega)]; exact .any _) hf
    have hlen : ls.length = n * i'.size := by
     have : ∀ (ps : List (Nat × Nat × L)) (zs ls : List L), lfill zs ps = some ls → ls.length = zs.length := by
      intro ps
      induction ps with
      | nil => intro zs ls h; simp [lfill] at h; rw [h]
      | cons p ps ih =>
       intro zs ls h
       obtain ⟨o, s, l⟩ := p
       simp only [lfill] at h
       split at h
       ·rw [ih _ _ h, setCells_length]
       ·simp at h
     rw [this _ _ _ hf, zeros_length e1, hz2]
    refine ⟨.slice (some ⟨w.heap.size, 0, none⟩) n n, cs, e, w.drawn, ?_, by omega, g3, fun S' w' hw => ?_⟩
    ·simp only [execOp, Instr.buildSlice, Sem.run_bind, run_underlying hu, Result.andThen_ok, hsz]
     rw [if_neg (by omega)]
     by_cases h0 : n * i'.size = 0
     ·simp only [if_pos h0, Sem.run_bind, Sem.run_pure, Result.andThen_ok, hparts]
      have : Instr.fill (fun i => some (i * i'.size, i'.size)) ((Array.range (n * i'.size)).map (fun x => (#[] : Array Value)[x % (#[] : Array Value).size]!)) (parts.toList.map fun p => (p.1, a.eval p.2)) = some cs := by
       rw [← g1, hz2, h0]; simp [Array.range_zero']
      simp only [this, newRow, run_newObj, Sem.run_bind, Result.andThen_ok, Sem.run_pure]
     ·simp only [if_neg h0, Sem.run_bind, run_zero hi hz, Sem.run_pure, Result.andThen_ok, hparts]
      rw [hz2] at g1
      simp only [hz2, g1, newRow, run_newObj, Sem.run_bind, Result.andThen_ok, Sem.run_pure]
    ·have hcap : n ≤ maxLen := by
      have : n ≤ n * i'.size := Nat.le_mul_of_pos_right _ (by omega)
      simp only [maxLen]; omega
     exact .view (b := w.heap.size) (by simp) hw (by omega) (Nat.le_refl _) hcap (fun _ => rfl)
  ·simp at hc
 case call c =>
  by_cases hb : c.callee = .builtin .append
  ·have hcc := hc
   unfold compCall at hcc
   rw [hb] at hcc
   simp only at hcc
   split at hcc
   ·rename_i t u x y ht hx
    have ht := types2 ht
    obtain ⟨consts, hcb⟩ := call_builtin (a := a) (o := ⟨dst, .call c, ty, pos, after, guard⟩) rfl hb
    rw [hcb, ht, args2 hx]
    split at hcc
    ·rename_i e e' hu hu2
     simp only [Option.bind_eq_some_iff] at hcc
     obtain ⟨i', hi, z, hz, hcc⟩ := hcc
     split at hcc
     ·simp at hcc
     ·rename_i hno
      simp only [not_or] at hno
      simp only [Option.bind_eq_some_iff, Option.map_eq_some_iff] at hcc
      obtain ⟨x', hx', y', hy', rfl⟩ := hcc
      simp only [lnew] at hl
      obtain ⟨v, cs', dr, r1, r2, r3, r4⟩ := append_new (P := P) (ty := ty) hC hu ⟨e', hu2⟩ hi hz (by omega) hno.2.1 hno.1 (compA_sound hx' hE) (compA_sound hy' hE) hl
      exact ⟨v, cs', e, dr, run_val r1, r2, r3, r4⟩
    ·exfalso
     simp only [Option.bind_eq_some_iff] at hcc
     obtain ⟨i', hi, z, hz, hcc⟩ := hcc
     split at hcc
     ·simp at hcc
     ·simp only [Option.bind_eq_some_iff, Option.map_eq_some_iff] at hcc
      obtain ⟨x', hx', y', hy', rfl⟩ := hcc
      simp [lnew] at hl
    ·simp at hcc
   ·simp at hcc
  ·exfalso
   cases i <;> simp only [lnew] at hl <;> first | (cases hl; done) | ((revert hc; unfold compCall) <;> ((repeat' split) <;> simp_all [Option.bind_eq_some_iff]; done))
 all_goals (exfalso; cases i <;> simp only [lnew] at hl <;> first | (cases hl; done) | (revert hc; try unfold compCall) <;> ((repeat' split) <;> simp [Option.bind_eq_some_iff]; done))
theorem comp_mksl {op : Op} {esz bytes : Nat} {z : List L} {n c : A} (h : compOp P op = some (.mksl esz bytes z n c)) :
  ∃ t x y e i z0, op = .makeSlice t x y ∧ P.underlying t = some (.slice e) ∧ P.info? e = some i ∧ i.zero = some z0 ∧ z0.cells.size = i.size ∧ i.size ≠ 0 ∧ compA x = some n ∧ compA y = some c ∧ esz = i.size ∧ bytes = i.bytes ∧ z = (ofV z0).cells := by
 cases op <;> simp only [compOp] at h
 case makeSlice t x y =>
  split at h
  ·rename_i e hu
   simp only [Option.bind_eq_some_iff] at h
   obtain ⟨i, hi, z0, hz, h⟩ := h
   split at h
   ·simp at h
   ·rename_i hno
    simp only [not_or] at hno
    simp only [Option.bind_eq_some_iff, Option.map_eq_some_iff, I.mksl.injEq] at h
    obtain ⟨x', hx, y', hy, rfl, rfl, rfl, rfl, rfl⟩ := h
    exact ⟨t, x, y, e, i, z0, rfl, hu, hi, hz, by omega, hno.1, hx, hy, rfl, rfl, rfl⟩
  ·simp at h
 all_goals (exfalso; (revert h; try unfold compCall) <;> ((repeat' split) <;> simp [Option.bind_eq_some_iff]; done))
theorem Le.newBlock {H : Heap} {η : List Nat} {S : Nat → Prop} {w : World} (hC : Conc η S w H) (c : Array Value) (t : TypeId) (dr : Nat) : Le η S w η S { w with drawn := dr, heap := w.heap.push (.cells c t) } := by
 have old : ∀ b : Nat, b < w.heap.size → (w.heap.push (Obj.cells c t))[b]? = w.heap[b]? := fun b hb => by rw [Array.getElem?_push]; simp [Nat.ne_of_lt hb]
 have lt_of : ∀ (b : Nat) o, w.heap[b]? = some o → b < w.heap.size := fun b o ho => by
  rcases Nat.lt_or_ge b w.heap.size with h | h
  ·exact h
  ·simp [Array.getElem?_eq_none h] at ho
 exact ⟨⟨[], by simp, by simp⟩, fun _ h => h, fun b hb => old b (hC.Slt b hb), fun b c _ fr hb => ⟨c, fr, by simp only; rw [old b (lt_of b _ hb)]; exact hb, rfl⟩, by simp, fun b hb _ => old b hb, fun _ h => .inl h, rfl, rfl, rfl⟩
theorem Conc.newBlock {H : Heap} {η : List Nat} {S : Nat → Prop} {w : World} (hC : Conc η S w H) (c : Array Value) (t : TypeId) (dr : Nat) : Conc η S { w with drawn := dr, heap := w.heap.push (.cells c t) } H :=
 hC.frame (fun _ h => h) (fun b hb => by have := hC.Slt b hb; simp; omega) (fun _ _ h => h) (by simp) (fun b hb => by simp only; rw [Array.getElem?_push]; simp [Nat.ne_of_lt hb])
theorem frzS_new {η : List Nat} {S : Nat → Prop} {w : World} {H : Heap} (hC : Conc η S w H) {cs : List L} {c : Array Value} {t : TypeId} {dr esz n : Nat} {v : Value} {l : L} (h2 : cs.length ≤ c.size) (h3 : ∀ j, Rel S w η (c.getD j undef) (cs.getD j .any))
  (h4 : ∀ S' w', w'.heap[w.heap.size]? = some (.cells c t (0, 0)) → Rel S' w' [w.heap.size] v (.view esz 0 0 n true)) (hfz : frzS cs (.view esz 0 0 n true) = some l) :
  ∃ S', Rel S' { w with drawn := dr, heap := w.heap.push (.cells c t) } η v l ∧ Conc η S' { w with drawn := dr, heap := w.heap.push (.cells c t) } H ∧ Le η S w η S' { w with drawn := dr, heap := w.heap.push (.cells c t) } := by
 have old : ∀ b : Nat, b < w.heap.size → (w.heap.push (Obj.cells c t))[b]? = w.heap[b]? := fun b hb => by rw [Array.getElem?_push]; simp [Nat.ne_of_lt hb]
 have lt_of : ∀ (b : Nat) o, w.heap[b]? = some o → b < w.heap.size := fun b o ho => by
  rcases Nat.lt_or_ge b w.heap.size with h | h
  ·exact h
  ·simp [Array.getElem?_eq_none h] at ho
 obtain ⟨w', hw'⟩ : ∃ w', w' = { w with drawn := dr, heap := w.heap.push (.cells c t) } := ⟨_, rfl⟩
 rw [← hw']
 obtain ⟨hC2, -⟩ := hC.push c t cs h2 (fun j _ => h3 j) (w' := w') (by rw [hw']) (by rw [hw']) (by rw [hw']) (by rw [hw'])
 have hb : w'.heap[w.heap.size]? = some (.cells c t (0, 0)) := by rw [hw']; simp
 have hview : Rel S w' (η ++ [w.heap.size]) v (.view esz H.length 0 n true) := by
  rcases (h4 S w' hb).inv_view with ⟨ad, rfl, rfl⟩ | ⟨b, cap, c', t', fr', rfl, hη', hb', hsz, hn', hm, hcl⟩
  ·exact .view0
  ·simp at hη'
   subst hη'
   exact .view (by rw [← hC.len]; simp) hb' hsz hn' hm hcl
 have hrel := frz_rel (S' := fun b => S b ∨ b = w.heap.size) (fz := [H.length]) hC2 (fun b hb => by
  rcases hb with hb | ⟨h, ls, q1, q2, -⟩
  ·exact .inl hb
  ·simp at q1
   subst q1
   rw [← hC.len] at q2
   simp at q2
   exact .inr q2.symm) hview
 have hfe : frz (H ++ [some cs]) [H.length] (.view esz H.length 0 n true) = frz [some cs] [0] (.view esz 0 0 n true) := by
  have h1 : live (H ++ [some cs]) H.length = some cs := by simp [Lg.live]
  have h2 : live [some cs] 0 = some cs := by simp [Lg.live]
  simp only [frz, frz1, h1, h2]
  simp
 rw [hfe] at hrel
 have hl : frz [some cs] [0] (.view esz 0 0 n true) = l ∧ ∃ e c xs, l = .sl e c xs := by
  unfold frzS at hfz
  split at hfz
  ·rename_i e c xs he
   cases hfz
   exact ⟨he, _, _, _, rfl⟩
  ·simp at hfz
 rw [hl.1] at hrel
 obtain ⟨e, c0, xs, rfl⟩ := hl.2
 refine ⟨fun b => S b ∨ b = w.heap.size, (hrel.closed rfl).nil, hC.frame (fun _ h => .inl h) (fun b hb => ?_) (fun b hb hs => ?_) (by rw [hw']; simp) (fun b hb => by rw [hw']; exact old b hb),
  ⟨⟨[], by simp, by simp⟩, fun _ h => .inl h, fun b hb => by rw [hw']; exact old b (hC.Slt b hb), fun b c _ fr hb => ⟨c, fr, by rw [hw']; simp only; rw [old b (lt_of b _ hb)]; exact hb, rfl⟩, by rw [hw']; simp, fun b hb _ => by rw [hw']; exact old b hb, fun b hb => ?_, by rw [hw'], by rw [hw'], by rw [hw']⟩⟩
 ·rcases hb with hb | rfl
  ·have := hC.Slt b hb; rw [hw']; simp; omega
  ·rw [hw']; simp
 ·rcases hs with hs | rfl
  ·exact hs
  ·have := hC.lt _ hb; omega
 ·rcases hb with hb | rfl
  ·exact .inl hb
  ·exact .inr (.inr (Nat.le_refl _))
theorem piece_op {n : Nat} {ops : Array Oper} {o : Oper} {oo : O} {out : Out} {Q : Exit → Act → World → Prop} {next : Act → World → Prop} {E : Env} {H : Heap} {η : List Nat} {S : Nat → Prop} {w : World} {a : Act} (hc : compO P n ops o = some oo) (hok : OutOK P H E oo out) (hC : Conc η S w H)
  (hE : ∀ t ∈ oo.names, Rel S w η (a.tmps.getD t undef) (lk E t)) {i : Nat} (hi : ops[i]? = some o) (hnp : ∀ d l, out ≠ .put d l)
  (hn : ∀ v S' w', Le η S w η S' w' → Conc η S' w' H → Rel S' w' η v out.l → (∀ cs mk, out = .new cs mk → w.heap.size < w'.heap.size ∧ ¬ S' w.heap.size ∧ (∃ c t, w'.heap[w.heap.size]? = some (.cells c t (0, 0)) ∧ cs.length ≤ c.size ∧ ∀ j, j < cs.length → Rel S' w' η (c.getD j undef) (cs.getD j .any)) ∧ Rel S' w' [w.heap.size] v (mk 0)) →
   next (a.put o.dst v) w') : wpOpIn (FW ro) 0 P ops Q i next a w := by
 simp only [compO, Option.bind_eq_some_iff] at hc
 obtain ⟨ii, hii, hc⟩ := hc
 split at hc
 rotate_left
 ·simp at hc
 let E' : Env := oo.names.map fun t => (t, lk E t)
 have hE'lk : ∀ t ∈ oo.names, lk E' t = lk E t := by
  have : ∀ (l : List Nat) t, t ∈ l → lk (l.map fun t => (t, lk E t)) t = lk E t := by
   intro l
   induction l with
   | nil => intro t h; simp at h
   | cons x l ih =>
    intro t ht
    simp only [List.map_cons, lk]
    split
    ·rename_i e; rw [e]
    ·rename_i e
     exact ih t (by rcases List.mem_cons.1 ht with h | h; exact absurd h e; exact h)
  exact fun t ht => this _ t ht
 have hRE : REnv η S w a.tmps E' := by
  have : ∀ (l : List Nat), (∀ t ∈ l, Rel S w η (a.tmps.getD t undef) (lk E t)) → REnv η S w a.tmps (l.map fun t => (t, lk E t)) := by
   intro l
   induction l with
   | nil => intro _ t; exact .any _
   | cons x l ih =>
    intro h t
    simp only [List.map_cons, lk]
    split
    ·rename_i e; subst e; exact h t (by simp)
    ·exact ih (fun t ht => h t (by simp [ht])) t
  exact this _ hE
 have hok' : OutOK P H E' oo out := hok.congr fun t ht => (hE'lk t ht).symm
 have hooop : oo.op = ii ∧ oo.dst = o.dst := by
  cases hg : o.guard with
  | none => simp only [hg, Option.some.injEq] at hc; subst hc; exact ⟨rfl, rfl⟩
  | some jb => obtain ⟨j, b⟩ := jb; simp only [hg, Option.map_eq_some_iff] at hc; obtain ⟨s, -, rfl⟩ := hc; exact ⟨rfl, rfl⟩
 have hwant : (runs E' oo → Region.wanted o (yielded ops a.tmps) = true) ∧ (passes E' oo → Region.wanted o (yielded ops a.tmps) = false) := by
  cases hg : o.guard with
  | none =>
   simp only [hg, Option.some.injEq] at hc
   subst hc
   exact ⟨fun _ => by simp [Region.wanted, hg], fun h => by simp [passes] at h⟩
  | some jb =>
   obtain ⟨j, b⟩ := jb
   simp only [hg, Option.map_eq_some_iff] at hc
   obtain ⟨s, hs, rfl⟩ := hc
   have hw : ∀ x : Value, a.tmps.getD s undef = x → Region.wanted o (yielded ops a.tmps) = (match x with | .bool y => y == b | _ => false) := fun x hx => by
    simp only [Region.wanted, hg, yielded, hs, Option.bind_some]
    by_cases hlt : s < a.tmps.size
    ·rw [agetD_of_lt _ _ hlt] at hx
     simp only [Array.getElem?_eq_getElem hlt, hx]
     cases x <;> simp
    ·rw [agetD_of_ge _ _ (by omega)] at hx
     subst hx
     simp [Array.getElem?_eq_none (Nat.le_of_not_lt hlt), undef]
   have hE0 := hRE s
   refine ⟨fun h => ?_, fun h => ?_⟩
   ·simp only [runs] at h
    rw [h] at hE0
    rw [hw _ hE0.inv_v]; simp
   ·simp only [passes] at h
    rcases h with h | h
    ·rw [h] at hE0
     rw [hw _ hE0.inv_v]; cases b <;> rfl
    ·rw [h] at hE0
     rw [hw _ hE0.inv_no]; rfl
 unfold wpOpIn
 rw [hi]
 simp only
 cases out with
 | put d l => exact absurd rfl (hnp d l)
 | skip =>
  rw [if_neg (by rw [hwant.2 hok']; simp)]
  exact ⟨fun _ _ => trivial, hn undef S w (Le.refl _ _ _) hC .no (fun cs mk h => by simp at h)⟩
 | val l =>
  obtain ⟨hr, hv⟩ := hok'
  rw [if_pos (hwant.1 hr)]
  rw [hooop.1] at hv
  have hη : ∀ {η' : List Nat} {S' : Nat → Prop} {w' : World}, Conc η' S' w' H → Le η S w η' S' w' → η' = η := fun {η' S' w'} h1 h2 => by
   obtain ⟨ζ, e, -⟩ := h2.pre
   have := h1.len
   have h3 := hC.len
   subst e
   simp at this
   have : ζ = [] := List.eq_nil_of_length_eq_zero (by omega)
   simp [this]
  by_cases hmk : ∃ esz bytes z n c k k', ii = .mksl esz bytes z n c ∧ arg E' n = .v (.int .i64 k) ∧ arg E' c = .v (.int .i64 k') ∧ mkShared esz bytes z k k' ∧ l = .sl esz true (chunk k.toNat esz (zeros k.toNat z))
  ·obtain ⟨esz, bytes, z, n, c, k, k', he, e1, e2, e3, rfl⟩ := hmk
   subst he
   obtain ⟨t, lx, ly, e', i', z0, ho, hu, hi', hz, hz2, hz3, hcx, hcy, hesz, hbytes, hzz⟩ := comp_mksl hii
   subst hesz hbytes hzz
   obtain ⟨v, w', S', r1, r2, r3, r4⟩ := mksl_shared (P := P) hC hu hi' hz hz2 (compA_sound hcx hRE) (compA_sound hcy hRE) e1 e2 e3
   have hexec : (execOp a.eval o).run P w = .ok (.value v) w' := by
    obtain ⟨dst, op, ty', pos, after, guard⟩ := o
    simp only at ho
    subst ho
    exact run_val r1
   refine wpI_run (compOp_nd hii) hexec ?_
   rw [Oper.uponIn_value]
   exact hn v S' w' r4 r3 r2 (fun cs mk h => by simp at h)
  by_cases hem : emptyB ii = true ∧ l = .sl (eszB ii) true []
  ·obtain ⟨hem, rfl⟩ := hem
   have hnl : ∃ esz z, ii = .bslice esz z 0 [] ∧ lnew ii E' = some ([], fun h => .view esz h 0 0 true) := by
    cases ii with
    | bslice esz z n ps => cases n with
     | zero => cases ps with
      | nil => exact ⟨esz, z, rfl, by simp [lnew, lfill, zeros]⟩
      | cons => simp [emptyB] at hem
     | succ => simp [emptyB] at hem
    | _ => simp [emptyB] at hem
   obtain ⟨esz, z, rfl, hnl⟩ := hnl
   obtain ⟨v, c, t, dr, h1, h2, h3, h4⟩ := new_fine (a := a) hii hnl hRE hC
   refine wpI_run (compOp_nd hii) h1 ?_
   rw [Oper.uponIn_value]
   refine hn v S _ (Le.newBlock hC c t dr) (Conc.newBlock hC c t dr) ?_ (fun cs mk h => by simp at h)
   rcases (h4 S { w with drawn := dr, heap := w.heap.push (.cells c t) } (by simp)).inv_view with ⟨ad, rfl, h0⟩ | ⟨b, cap, c', t', fr', rfl, hη', hb', hsz, hn', hm, hcl⟩
   ·exact .sl0 (fun _ => rfl) (by simp [maxLen])
   ·exact .sl0 hcl hm
  by_cases hbl : ∃ esz z n parts, ii = .bslice esz z n parts ∧ bslV esz z n parts E' = some l
  ·obtain ⟨esz, z, n, parts, rfl, hbv⟩ := hbl
   simp only [bslV, Option.bind_eq_some_iff] at hbv
   obtain ⟨cs, hcs, hfz⟩ := hbv
   have hnl : lnew (.bslice esz z n parts) E' = some (cs, fun h => .view esz h 0 n true) := by simp only [lnew, hcs, Option.map_some]
   obtain ⟨v, c, t, dr, h1, h2, h3, h4⟩ := new_fine (a := a) hii hnl hRE hC
   refine wpI_run (compOp_nd hii) h1 ?_
   rw [Oper.uponIn_value]
   obtain ⟨S', g1, g2, g3⟩ := frzS_new hC h2 h3 h4 hfz
   exact hn v S' _ g3 g2 g1 (fun cs mk h => by simp at h)
  have hlop : lop P ii E' H (fun l' H' => l' = l ∧ H' = H) := by
   rcases hv with ⟨f, xs, he, hcall⟩ | ⟨x, xs, f, ff, cc, he, hx, hcall⟩ | ⟨esz, bytes, z, n, c, k, k', g1, g2, g3, g4, g5⟩ | ⟨hread, H', hlo⟩ | hem' | hbl'
   ·subst he; exact hcall
   ·subst he
    show callD P (arg E' x) (xs.map (arg E')) H _
    rw [hx]; exact hcall
   ·exact absurd ⟨esz, bytes, z, n, c, k, k', g1, g2, g3, g4, g5⟩ hmk
   ·have := read_same hread hlo
    subst this
    cases ii <;> first | (simp [isRead] at hread; done) | exact ⟨_, hlo, rfl, rfl⟩
   ·exact absurd hem' hem
   ·exact absurd hbl' hbl
  refine lop_sound hii hlop hC hRE ?_
  rintro v l' H' η' S' w' ⟨rfl, rfl⟩ h1 h2 h3
  have := hη h2 h3
  subst this
  exact hn v S' w' h3 h2 h1 (fun cs mk h => by simp at h)
 | new cs mk =>
  obtain ⟨hr, hv⟩ := hok'
  rw [if_pos (hwant.1 hr)]
  rw [hooop.1] at hv
  obtain ⟨v, c, t, dr, h1, h2, h3, h4⟩ := new_fine (a := a) hii hv hRE hC
  refine wpI_run (compOp_nd hii) h1 ?_
  rw [Oper.uponIn_value]
  have hL := Le.newBlock hC c t dr
  have hC' := Conc.newBlock hC c t dr
  refine hn v S _ hL hC' (.any _) ?_
  rintro cs' mk' he
  cases he
  exact ⟨by simp, fun hs => by have := hC.Slt _ hs; omega, ⟨c, t, by simp, h2, fun j hj => (h3 j).le hL⟩, h4 S _ (by simp)⟩
theorem comp_store {op : Op} {s d : Nat} {y : A} (h : compOp P op = some (.store s (.t d) y)) : ∃ t x y', op = .store t x y' ∧ szOf P t = some s ∧ compA x = some (.t d) ∧ compA y' = some y := by
 cases op <;> simp only [compOp] at h
 case store t x y' =>
  simp only [Option.bind_eq_some_iff, Option.map_eq_some_iff] at h
  obtain ⟨s', hs, x', hx, y'', hy, e⟩ := h
  simp only [I.store.injEq] at e
  obtain ⟨rfl, rfl, rfl⟩ := e
  exact ⟨t, x, y', rfl, hs, hx, hy⟩
 all_goals (exfalso; (revert h; try unfold compCall) <;> ((repeat' split) <;> simp [Option.bind_eq_some_iff]; done))
theorem piece_put {n : Nat} {ops : Array Oper} {o : Oper} {oo : O} {d : Nat} {l : L} {Q : Exit → Act → World → Prop} {next : Act → World → Prop} {E : Env} {H : Heap} {η : List Nat} {S : Nat → Prop} {w : World} {a : Act} (hc : compO P n ops o = some oo) (hok : OutOK P H E oo (.put d l)) (hC : Conc η S w H)
  (hE : ∀ t ∈ oo.names, Rel S w η (a.tmps.getD t undef) (lk E t)) {i : Nat} (hi : ops[i]? = some o) {β : Nat} {cs : List L} (hβ : Holds η S w β cs) (hβS : ¬ S β) (hβη : β ∉ η) (hptr : a.tmps.getD d undef = .pointer (some ⟨β, 0, none⟩)) (hlen : l.cells.length ≤ cs.length)
  (hn : ∀ w', Le (η ++ [β]) S w (η ++ [β]) S w' → (∀ b, b ≠ β → w'.heap[b]? = w.heap[b]?) → Conc η S w' H → Holds η S w' β (setCells cs 0 l.cells) → next a w') : wpOpIn (FW ro) 0 P ops Q i next a w := by
 simp only [compO, Option.bind_eq_some_iff] at hc
 obtain ⟨ii, hii, hc⟩ := hc
 split at hc
 rotate_left
 ·simp at hc
 obtain ⟨hr, hdn, s, y, hop, hyd, hy, htop, hs⟩ := hok
 have hooop : oo.op = ii ∧ oo.dst = o.dst := by
  cases hg : o.guard with
  | none => simp only [hg, Option.some.injEq] at hc; subst hc; exact ⟨rfl, rfl⟩
  | some jb => obtain ⟨j, b⟩ := jb; simp only [hg, Option.map_eq_some_iff] at hc; obtain ⟨s, -, rfl⟩ := hc; exact ⟨rfl, rfl⟩
 have hwant : Region.wanted o (yielded ops a.tmps) = true := by
  cases hg : o.guard with
  | none => simp [Region.wanted, hg]
  | some jb =>
   obtain ⟨j, b⟩ := jb
   simp only [hg, Option.map_eq_some_iff] at hc
   obtain ⟨s', hs', rfl⟩ := hc
   have hE0 := hE s' (by simp [O.names])
   simp only [runs] at hr
   rw [hr] at hE0
   have hx := hE0.inv_v
   simp only [Region.wanted, hg, yielded, hs', Option.bind_some]
   by_cases hlt : s' < a.tmps.size
   ·rw [agetD_of_lt _ _ hlt] at hx
    simp [Array.getElem?_eq_getElem hlt, hx]
   ·rw [agetD_of_ge _ _ (by omega)] at hx
    simp [undef] at hx
 have hnames : ∀ k, y = .t k → k ∈ oo.names := fun k hk => by
  unfold O.names; rw [hop, hk]; split <;> simp [I.tmps, A.tmps]
 obtain ⟨c, t, fr, h1, h2, h3, h4⟩ := hβ
 have hC1 := hC.adopt h2 h1 hβS hβη h3 h4
 rw [hooop.1] at hop
 rw [hop] at hii
 obtain ⟨ty, x, y', e1, e2, e3, e4⟩ := comp_store hii
 have hyR : Rel S w η (a.eval y') l := by
  rw [← hy]
  cases y with
  | c l0 => exact compA_sound (E := []) e4 (fun t => .any _)
  | t k =>
   have hRE : REnv η S w a.tmps [(k, lk E k)] := by
    intro t
    simp only [lk]
    split
    ·rename_i e; subst e; exact hE _ (hnames _ rfl)
    ·exact .any _
   have := compA_sound e4 hRE
   simpa [arg, lk] using this
 have hxv : a.eval x = .pointer (some ⟨β, 0, none⟩) := by
  have hRE : REnv [β] S w a.tmps [(d, .ptr 0 0)] := by
   intro t
   simp only [lk]
   split
   ·rename_i e; subst e; rw [hptr]; exact .ptr (by simp) h1
   ·exact .any _
  have := compA_sound e3 hRE
  simp only [arg, lk, if_true] at this
  obtain ⟨b, hb1, hb2, -⟩ := this.inv_ptr
  simp at hb2
  rw [hb1, hb2]
 obtain ⟨z1, z2⟩ := hyR.cells htop
 have hη1 : (η ++ [β])[η.length]? = some β := by simp
 have hH1 : (H ++ [some cs])[η.length]? = some (some cs) := by rw [hC.len]; simp
 have hst := hC1.store h1 hη1 hH1 (a.eval y').cells.toList l.cells (by simp [z1]) (off := 0) (by omega) (fun j hj => by
  have := (z2 j).mono (η' := η ++ [β]) (fun _ h => h) (fun _ _ => rfl) (fun _ c _ fr h => ⟨c, fr, h, rfl⟩) (fun _ _ h => prefix_get h)
  simpa [Array.getD_eq_getD_getElem?, List.getD] using this)
 have hrun := run_storeCells_own (P := P) hC1 h1 hη1 hH1 (a.eval y').cells.toList (off := 0) (by simp [z1]; omega) (hyR.cells_one htop)
 obtain ⟨f1, f2, f3, f4, f5, f6⟩ := setCells_heap β (a.eval y').cells.toList w 0 c t fr h1
 unfold wpOpIn
 rw [hi]
 simp only
 rw [if_pos hwant]
 have hgo : (Instr.storeAt ty (a.eval x) (a.eval y')).run P w = .ok () (w.setCells β 0 (a.eval y').cells.toList) := by
  rw [hxv]
  simp only [Instr.storeAt, Instr.sureAddr, pure_bind, storeVar, Sem.run_bind, run_sz e2, Result.andThen_ok]
  rw [if_neg (by omega)]
  simpa using hrun
 have hfin : next (a.put o.dst undef) (w.setCells β 0 (a.eval y').cells.toList) := by
  have : a.put o.dst undef = a := by rw [← hooop.2, hdn]; rfl
  rw [this]
  refine hn _ hst.2 f2 ⟨hC.len, fun b hb => by rw [f3]; exact hC.lt b hb, fun b hb => by rw [f3]; exact hC.Slt b hb, hC.apart, fun h b ls q1 q2 => ?_⟩ ⟨_, t, fr, f1, by rw [putArr_size]; exact h2, by rw [setCells_length, putArr_size]; exact h3, fun j hj => ?_⟩
  ·have hb : b ≠ β := fun e => hβη (e ▸ List.mem_of_getElem? q1)
   exact (hC.liveAt h b ls q1 q2).mono (f2 b hb) fun _ _ hr => hr.mono hst.2.sub hst.2.keep hst.2.shape (fun _ _ h => h)
  ·rw [setCells_length] at hj
   rw [putArr_get _ _ _ _ (by simp [z1]; omega), setCells_get _ _ _ _ (by omega)]
   by_cases hj2 : 0 ≤ j ∧ j < 0 + l.cells.length
   ·rw [if_pos (by simp [z1]; omega), if_pos hj2]
    have := (z2 (j - 0)).mono hst.2.sub hst.2.keep hst.2.shape (fun _ _ h => h)
    simpa [Array.getD_eq_getD_getElem?, List.getD] using this
   ·rw [if_neg (by simp [z1]; omega), if_neg hj2]
    exact (h4 j hj).mono hst.2.sub hst.2.keep hst.2.shape (fun _ _ h => h)
 have hexec : (execOp a.eval o).run P w = .ok .skip (w.setCells β 0 (a.eval y').cells.toList) := by
  obtain ⟨dst, op, ty', pos, after, guard⟩ := o
  simp only at e1
  subst e1
  simp only [execOp, Sem.run_bind, hgo, Result.andThen_ok, Sem.run_pure]
 refine wpI_run (compOp_nd hii) hexec ?_
 rw [Oper.uponIn_skip]
 exact hfin
end
end Lg


/- Regions whose order of evaluation is open: the whole region. -/
namespace Lg
open Go
theorem pieces_flatten {anc : List (List Nat)} {n : Nat} : ∀ {rest cur : List O} {p : Nat}, (pieces anc n p cur rest).flatten = cur ++ rest
 | [], cur, p => by simp [pieces]
 | o :: rest, cur, p => by
  simp only [pieces]
  split
  ·simp [pieces_flatten]
  ·rw [pieces_flatten]; simp
theorem Le.widen {η₀ : List Nat} {S₀ : Nat → Prop} {w₀ : World} {η : List Nat} {S : Nat → Prop} {w : World} (h : Le η₀ S₀ w₀ η S w) {ζ : List Nat} (hζ : ∀ b ∈ ζ, w₀.heap.size ≤ b) : Le η₀ S₀ w₀ (η ++ ζ) S w := by
 obtain ⟨ξ, e, hξ⟩ := h.pre
 refine ⟨⟨ξ ++ ζ, by rw [e, List.append_assoc], fun b hb => ?_⟩, h.sub, h.keep, h.shape, h.size, h.frame, h.new, h.os, h.tape, h.output⟩
 rcases List.mem_append.1 hb with hb | hb
 ·exact hξ b hb
 ·exact .inr (hζ b hb)
section
variable {ds : List Deferred} {ro : Option Nat} {P : Program} {n : Nat} {ops : Array Oper} {ol : List O} {anc : List (List Nat)} {K C : Env → Heap → Prop} {Q : Exit → Act → World → Prop} {η₀ : List Nat} {S₀ : Nat → Prop} {w₀ : World}
structure Lies (ops : Array Oper) (ol : List O) (anc : List (List Nat)) (p : Nat) (bs : List (List O)) (listed : Array Bool) : Prop where
 ok : piecesOK anc ol.length p bs = true
 eq : ol.drop p = bs.flatten
 size : listed.size = ops.size
def StartOK (ds : List Deferred) (ro : Option Nat) (P : Program) (n : Nat) (ops : Array Oper) (ol : List O) (anc : List (List Nat)) (C : Env → Heap → Prop) (Q : Exit → Act → World → Prop) (η₀ : List Nat) (S₀ : Nat → Prop) (w₀ : World) (f : Nat) (bs : List (List O)) : Prop :=
 ∀ p listed E H η S w a, Lies ops ol anc p bs listed → (∀ j, j < p → listed.getD j false = true) → (∀ j, p ≤ j → listed.getD j false = false) → unl ops.size listed ≤ f →
  C E H → At n ds η S w a E H → Le η₀ S₀ w₀ η S w → wpAnyIn (FW ro) 0 P .any ops Q f listed a w
def MidOK (ds : List Deferred) (ro : Option Nat) (P : Program) (n : Nat) (ops : Array Oper) (ol : List O) (anc : List (List Nat)) (C : Env → Heap → Prop) (Q : Exit → Act → World → Prop) (η₀ : List Nat) (S₀ : Nat → Prop) (w₀ : World) (f : Nat) (blk : List O) (bs : List (List O)) : Prop :=
 ∀ p listed E H outs E' wb β η S w a, Lies ops ol anc p (blk :: bs) listed → unl ops.size listed ≤ f → Mid n ds anc p blk outs E H wb β listed η S w a → Runs P H E blk outs → (∀ t, lk E' t = lk (foldE E blk outs) t) →
  PutsOK blk outs [] → addNews (finNews outs (newsOf blk outs)) E' H C → Le η₀ S₀ w₀ η S w → w₀.heap.size ≤ wb → wpAnyIn (FW ro) 0 P .any ops Q f listed a w
theorem Lies.next {p : Nat} {blk : List O} {bs : List (List O)} {listed listed' : Array Bool} (h : Lies ops ol anc p (blk :: bs) listed) (hs : listed'.size = listed.size) : Lies ops ol anc (p + blk.length) bs listed' := by
 refine ⟨?_, ?_, hs.trans h.size⟩
 ·have := h.ok
  simp only [piecesOK, Bool.and_eq_true] at this
  exact this.2
 ·have := congrArg (List.drop blk.length) h.eq
  simpa [List.drop_drop] using this
theorem Lies.get {p : Nat} {blk : List O} {bs : List (List O)} {listed : Array Bool} (h : Lies ops ol anc p (blk :: bs) listed) {i : Nat} {o : O} (ho : blk[i]? = some o) : ol[p + i]? = some o := by
 have := congrArg (·[i]?) h.eq
 simp only [List.getElem?_drop, List.flatten_cons] at this
 rw [this, List.getElem?_append_left (List.getElem?_eq_some_iff.1 ho).1]
 exact ho
theorem Lies.cut {p : Nat} {blk : List O} {bs : List (List O)} {listed : Array Bool} (h : Lies ops ol anc p (blk :: bs) listed) : cutAt anc ol.length (p + blk.length) = true := by
 have := h.ok
 simp only [piecesOK, Bool.and_eq_true] at this
 exact this.1.2
theorem Lies.pos {p : Nat} {blk : List O} {bs : List (List O)} {listed : Array Bool} (h : Lies ops ol anc p (blk :: bs) listed) : 0 < blk.length := by
 have := h.ok
 simp only [piecesOK, Bool.and_eq_true, Bool.not_eq_true', List.isEmpty_eq_false_iff] at this
 exact List.length_pos_iff.2 this.1.1
theorem ready_lt {listed : Array Bool} {i : Nat} (h : i ∈ Region.ready .any ops listed) : i < ops.size := by
 obtain ⟨-, o, ho, -⟩ := ready_iff.1 h
 rcases Nat.lt_or_ge i ops.size with h | h
 ·exact h
 ·simp [Array.getElem?_eq_none h] at ho
theorem ready_un {listed : Array Bool} (hs : listed.size = ops.size) {i : Nat} (h : i ∈ Region.ready .any ops listed) : listed.getD i false = false := by
 have h1 := (ready_iff.1 h).1
 have h2 := ready_lt h
 rw [agetD_of_lt _ _ (by omega)] at h1 ⊢; exact h1
theorem start_nil (hQ : ∀ E' H' η' S' w' a', K E' H' → At n ds η' S' w' a' E' H' → Le η₀ S₀ w₀ η' S' w' → Q .normal a' w') (lkd : Looked n ops ol anc P) (f : Nat) : StartOK ds ro P n ops ol anc K Q η₀ S₀ w₀ f [] := by
 intro p listed E H η S w a hl h1 h2 h3 hd hA hL
 have hq : Q .normal a w := hQ _ _ _ _ _ _ hd hA hL
 have hlen : ol.length ≤ p := by
  have := congrArg List.length hl.eq
  simp at this; omega
 have hr : Region.ready .any ops listed = [] := by
  refine List.eq_nil_iff_forall_not_mem.2 fun i hi => ?_
  have := ready_un hl.size hi
  have hlt := ready_lt hi
  rw [h1 i (by rw [← lkd.len] at hlt; omega)] at this
  simp at this
 cases f with
 | zero => exact ⟨hr, hq⟩
 | succ f => exact ⟨fun _ => hq, fun i hi => by rw [hr] at hi; simp at hi⟩
theorem Mid.put {p : Nat} {blk : List O} {outs : List Out} {E : Env} {H : Heap} {wb : Nat} {β : Nat → Nat} {listed : Array Bool} {η : List Nat} {S : Nat → Prop} {w : World} {a : Act} (lkd : Looked n ops ol anc P) (hM : Mid n ds anc p blk outs E H wb β listed η S w a)
  (hblk : ∀ (i : Nat) o, blk[i]? = some o → ol[p + i]? = some o) (hsz : listed.size = ops.size) {i : Nat} {o : O} {d : Nat} {l : L} (ho : blk[i]? = some o) (hout : outs[i]? = some (.put d l)) (hr : p + i ∈ Region.ready .any ops listed)
  {k : Nat} {ok : O} {cs : List L} {mk : Nat → L} (hk : blk[k]? = some ok) (hko : outs[k]? = some (.new cs mk)) (hkd : ok.dst = some d) (hone : ∀ (k' : Nat) o', blk[k']? = some o' → o'.dst = some d → k' = k) (honce : ∀ (j : Nat) l', outs[j]? = some (.put d l') → j = i) (hdn : o.dst = none)
  {w' : World} (q : Le (η ++ [β k]) S w (η ++ [β k]) S w') (hsame : ∀ b, b ≠ β k → w'.heap[b]? = w.heap[b]?) (qC : Conc η S w' H) (hnew : Holds η S w' (β k) (setCells cs 0 l.cells)) (hkl : listed.getD (p + k) false = true) :
  Mid n ds anc p blk outs E H wb β (listed.setIfInBounds (p + i) true) η S w' a := by
 have hib : i < blk.length := (List.getElem?_eq_some_iff.1 ho).1
 have hin : p + i < listed.size := by
  have := (List.getElem?_eq_some_iff.1 (hblk i o ho)).1
  rw [hsz, ← lkd.len]; exact this
 have hg : ∀ j, (listed.setIfInBounds (p + i) true).getD j false = if j = p + i then true else listed.getD j false := set_getD hin
 have hg' : ∀ j, (listed.setIfInBounds (p + i) true).getD (p + j) false = if j = i then true else listed.getD (p + j) false := fun j => by
  rw [hg]; by_cases h : j = i
  ·simp [h]
  ·rw [if_neg (by omega), if_neg h]
 have up : ∀ {x l}, Rel S w η x l → Rel S w' η x l := fun h => h.mono q.sub q.keep q.shape (fun _ _ h => h)
 have hnotnew : ∀ {j : Nat} {cs mk}, outs[j]? = some (.new cs mk) → j ≠ i := fun h e => by subst e; rw [hout] at h; simp at h
 refine ⟨fun j hj => ?_, fun j hj => ?_, hM.dc.step lkd hr hin, qC, hM.size, hM.defers, fun t => ?_, ⟨Nat.le_trans hM.wbd.1 q.size, hM.wbd.2⟩, fun j cs' mk' hj hl => ?_, fun j j' cs' mk' cs'' mk'' h1 h2 l1 l2 hb => ?_⟩
 ·rw [hg, if_neg (by omega)]; exact hM.pre j hj
 ·rw [hg, if_neg (by omega)]; exact hM.post j hj
 ·have := valAt_congr (E := E) (blk := blk) (outs := outs) (M := fun j => (listed.setIfInBounds (p + i) true).getD (p + j) false) (M' := fun j => listed.getD (p + j) false) (t := t) (n := blk.length) (fun j h1 h2 => by
   rw [hg', if_neg (fun e => by subst e; rw [ho] at h2; simp [hdn] at h2)])
  rw [this]
  exact up (hM.rel t)
 ·have hji := hnotnew hj
  rw [hg', if_neg hji] at hl
  obtain ⟨k1, k2, k3, k4⟩ := hM.priv j cs' mk' hj hl
  refine ⟨k1, k2, ?_, fun d' hd' => (k4 d' hd').mono q.sub q.keep q.shape (fun _ _ h => h)⟩
  by_cases hjk : j = k
  ·subst hjk
   rw [hko] at hj
   cases hj
   rw [hk]
   simp only [Option.bind_some, hkd]
   rw [putsTo_at hout (by rw [hg']; simp) honce]
   exact hnew
  ·have hsamep : putsTo outs (fun k => (listed.setIfInBounds (p + i) true).getD (p + k) false) ((blk[j]?).bind (·.dst)) = putsTo outs (fun k => listed.getD (p + k) false) ((blk[j]?).bind (·.dst)) := putsTo_congr fun m d' l' hm hd => by
    rw [hg', if_neg (fun e => ?_)]
    subst e
    rw [hout] at hm
    cases hm
    obtain ⟨oj, hoj⟩ : ∃ oj, blk[j]? = some oj := by
     cases e : blk[j]? with
     | none => simp [e] at hd
     | some oj => exact ⟨oj, rfl⟩
    rw [hoj] at hd
    exact hjk (hone j oj hoj hd)
   rw [hsamep]
   have hbne : β j ≠ β k := fun e => hjk (hM.inj j k cs' mk' cs mk hj hko hl hkl e)
   obtain ⟨c, t, fr, m1, m2, m3, m4⟩ := k3
   exact ⟨c, t, fr, by rw [hsame _ hbne]; exact m1, m2, m3, fun m hm => up (m4 m hm)⟩
 ·rw [hg', if_neg (hnotnew h1)] at l1
  rw [hg', if_neg (hnotnew h2)] at l2
  exact hM.inj j j' cs' mk' cs'' mk'' h1 h2 l1 l2 hb
theorem mid_op (lkd : Looked n ops ol anc P) {p : Nat} {blk : List O} {outs : List Out} {E : Env} {H : Heap} {wb : Nat} {β : Nat → Nat} {listed : Array Bool} {η : List Nat} {S : Nat → Prop} {w : World} {a : Act} {next : Act → World → Prop}
  (hget : ∀ (i : Nat) o, blk[i]? = some o → ol[p + i]? = some o) (hsz : listed.size = ops.size) (hm : Mid n ds anc p blk outs E H wb β listed η S w a) (hr : Runs P H E blk outs) (hpo : PutsOK blk outs []) {i' : Nat} (hi : p + i' ∈ Region.ready .any ops listed) (hi' : i' < blk.length)
  (hL : Le η₀ S₀ w₀ η S w) (hwb : w₀.heap.size ≤ wb) (hn : ∀ β' S' w' a', Mid n ds anc p blk outs E H wb β' (listed.setIfInBounds (p + i') true) η S' w' a' → Le η₀ S₀ w₀ η S' w' → next a' w') : wpOpIn (FW ro) 0 P ops Q (p + i') next a w := by
 have hun := ready_un hsz hi
 have hlt := ready_lt hi
 obtain ⟨hlen, hat⟩ := hr.at
 have ho := List.getElem?_eq_getElem hi'
 have hout := List.getElem?_eq_getElem (show i' < outs.length by omega)
 have hop := Array.getElem?_eq_getElem hlt
 have hc := lkd.comp _ _ _ hop (hget _ _ ho)
 have hok := hat i' _ _ ho hout
 have hnew : ∀ (j : Nat) y cs mk, blk[j]? = some y → outs[j]? = some (.new cs mk) → isNew y.op = true := fun j y cs mk h1 h2 => (lnew_lop (H := H) (hat j y _ h1 h2).2).2
 have hdst : blk[i'].dst = ops[p + i'].dst ∧ ∀ t, ops[p + i'].dst = some t → t < n := by
  simp only [compO, Option.bind_eq_some_iff] at hc
  obtain ⟨ii, hii, hc⟩ := hc
  split at hc
  rotate_left
  ·simp at hc
  rename_i hd
  refine ⟨?_, fun t ht => by rw [ht] at hd; simpa [dstOk] using hd⟩
  cases hg : ops[p + i'].guard with
  | none => simp only [hg, Option.some.injEq] at hc; rw [← hc]
  | some jb => obtain ⟨j, b⟩ := jb; simp only [hg, Option.map_eq_some_iff] at hc; obtain ⟨s, -, hc⟩ := hc; rw [← hc]
 have hputs : ∀ (k : Nat) d l, outs[k]? = some (.put d l) → ∃ y, blk[k]? = some y ∧ storesTo y = some d := hr.put_op.2
 have hone : ∀ (k k' : Nat) o o' cs mk d, blk[k]? = some o → blk[k']? = some o' → outs[k]? = some (.new cs mk) → o.dst = some d → o'.dst = some d → k' = k := fun k k' o o' cs mk d h1 h2 h3 h4 h5 => by
  apply Classical.byContradiction
  intro hne
  exact lkd.t3 (p + k) (p + k') o o' d (by omega) (hget _ _ h1) (hget _ _ h2) (hnew k o cs mk h1 h3) h4 h5
 have hbefore : ∀ (k : Nat) d l, outs[k]? = some (.put d l) → ∀ (j : Nat) cs mk, outs[j]? = some (.new cs mk) → (blk[j]?).bind (·.dst) = some d → k ≤ j → False := fun k d l h1 j cs mk h2 h3 h4 => by
  rcases hpo.made k d l h1 with ⟨e, he, -⟩ | ⟨k0, o0, cs0, mk0, g1, g2, g3, g4, g5⟩
  ·simp at he
  ·obtain ⟨oj, hoj⟩ : ∃ oj, blk[j]? = some oj := by
    cases e : blk[j]? with
    | none => simp [e] at h3
    | some oj => exact ⟨oj, rfl⟩
   rw [hoj] at h3
   have := hone k0 j o0 oj cs0 mk0 d g2 hoj g3 g4 h3
   omega
 have hRE : ∀ t ∈ blk[i'].names, Rel S w η (a.tmps.getD t undef) (lk (foldE E (blk.take i') (outs.take i')) t) := fun t ht => by
  have h1 := hm.rel t
  rw [valAt_stop (k := i') (by omega) (fun j h1 h2 h3 => by
   by_cases hji : j = i'
   ·subst hji; exact hun
   ·cases hlj : listed.getD (p + j) false with
    | false => rfl
    | true =>
     exfalso
     obtain ⟨y, hy⟩ : ∃ y, blk[j]? = some y := ⟨_, List.getElem?_eq_getElem h2⟩
     rw [hy] at h3
     have := lkd.t2 (p + i') (p + j) _ y t (by omega) (hget _ _ ho) (hget _ _ hy) h3 ht
     have := hm.dc _ hlj _ this
     rw [hun] at this; simp at this)] at h1
  rw [valAt_congr (M' := fun _ => true) (fun j h2 h3 => by
   obtain ⟨y, hy⟩ : ∃ y, blk[j]? = some y := ⟨_, List.getElem?_eq_getElem (show j < blk.length by omega)⟩
   rw [hy] at h3
   exact ready_anc lkd hm.dc hi _ (lkd.t1 (p + j) (p + i') y _ t (by omega) (hget _ _ hy) (hget _ _ ho) h3 (.inl ht))), valAt_fold hlen (by omega)] at h1
  exact h1
 by_cases hput : ∃ d l, outs[i'] = .put d l
 ·obtain ⟨d, l, hpl⟩ := hput
  have hout' : outs[i']? = some (.put d l) := by rw [hout, hpl]
  rw [hpl] at hok
  rcases hpo.made i' d l hout' with ⟨e, he, -⟩ | ⟨k, ok, cs, mk, g1, g2, g3, g4, g5, g6⟩
  ·simp at he
  obtain ⟨y, hy1, hy2⟩ := hputs i' d l hout'
  have hyo : y = blk[i'] := by rw [ho] at hy1; exact (Option.some.inj hy1).symm
  subst hyo
  have hkl : listed.getD (p + k) false = true := ready_anc lkd hm.dc hi _ (lkd.t1 (p + k) (p + i') ok _ d (by omega) (hget _ _ g2) (hget _ _ ho) g4 (.inl (storesTo_names hy2)))
  have hnone : putsTo outs (fun i => listed.getD (p + i) false) (some d) = none := putsTo_none fun j d' l' hj hd => by
   cases hd
   have := hpo.once j i' d l' l hj hout'
   subst this
   exact hun
  obtain ⟨p1, p2, p3, p4⟩ := hm.priv k cs mk g3 hkl
  rw [g2] at p3 p4
  simp only [Option.bind_some, g4] at p3 p4
  rw [hnone] at p3
  have hptr : a.tmps.getD d undef = .pointer (some ⟨β k, 0, none⟩) := by
   have := p4 d rfl
   have hm0 : mk 0 = .ptr 0 0 := by
    revert g5; unfold isP0; split
    ·rename_i e; intro _; exact e
    ·simp
   rw [hm0] at this
   obtain ⟨b, hb1, hb2, -⟩ := this.inv_ptr
   simp at hb2
   rw [hb1, hb2]
  have hβη : β k ∉ η := fun hm' => by have := hm.wbd.2 _ hm'; omega
  have hdn : ops[p + i'].dst = none := by
   obtain ⟨-, hd0, -⟩ := hok
   rw [← hdst.1]; exact hd0
  refine piece_put (E := foldE E (blk.take i') (outs.take i')) hc hok hm.conc hRE hop p3 p2 hβη hptr g6 ?_
  intro w' k1 k2 k3 k4
  have hm' := Mid.put lkd hm (fun i o h => hget _ _ h) hsz ho hout' hi g2 g3 g4 (fun k' o' h1 h2 => hone k k' ok o' cs mk d g2 h1 g3 g4 h2) (fun j l' hj => hpo.once j i' d l' l hj hout') (by rw [hdst.1, hdn]) k1 k2 k3 k4 hkl
  have hLb : Le η₀ S₀ w₀ η S w' := by
   have := (hL.widen (ζ := [β k]) (fun b hb => by simp at hb; omega)).trans k1
   exact ⟨hL.pre, this.sub, this.keep, this.shape, this.size, this.frame, this.new, this.os, this.tape, this.output⟩
  exact hn _ _ _ _ hm' hLb
 ·have hnp : ∀ d l, outs[i'] ≠ .put d l := fun d l e => hput ⟨d, l, e⟩
  refine piece_op (E := foldE E (blk.take i') (outs.take i')) hc hok hm.conc hRE hop hnp ?_
  intro v S' w' k1 k2 k3 k4
  rw [← hdst.1]
  have hm' := Mid.step lkd hm (fun i o h => hget _ _ h) hsz ho hout hi hnew (fun t ht => hdst.2 t (by rw [← hdst.1]; exact ht)) k1 k2 k3 k4 hnp hputs hbefore
  exact hn _ _ _ _ hm' (hL.trans k1)
theorem mid_step (lkd : Looked n ops ol anc P) {f : Nat} {blk : List O} {bs : List (List O)} (hS : StartOK ds ro P n ops ol anc C Q η₀ S₀ w₀ f bs) (hM : ∀ f', f = f' + 1 → MidOK ds ro P n ops ol anc C Q η₀ S₀ w₀ f' blk bs) : MidOK ds ro P n ops ol anc C Q η₀ S₀ w₀ f blk bs := by
 intro p listed E H outs E' wb β η S w a hl hf hm hr he hpo hk hL hwb
 by_cases hall : ∀ i, i < blk.length → listed.getD (p + i) false = true
 ·obtain ⟨E'', H'', η', k1, k2, ζ, rfl, k3⟩ := hm.done hall hr he hk
  refine hS (p + blk.length) listed E'' H'' _ S w a (hl.next rfl) (fun j hj => ?_) hm.post hf k1 k2 (hL.widen fun b hb => Nat.le_trans hwb (k3 b hb))
  by_cases hjp : j < p
  ·exact hm.pre j hjp
  ·have := hall (j - p) (by omega)
   rwa [show p + (j - p) = j by omega] at this
 ·have ⟨k, hk1, hk2⟩ : ∃ k, k < blk.length ∧ listed.getD (p + k) false = false := by
   apply Classical.byContradiction
   intro hno
   refine hall fun i hi => ?_
   cases h : listed.getD (p + i) false with
   | true => rfl
   | false => exact absurd ⟨i, hi, h⟩ hno
  have in_ol : ∀ i, i < blk.length → p + i < ops.size := fun i hi => by
   have := (List.getElem?_eq_some_iff.1 (hl.get (List.getElem?_eq_getElem hi))).1
   rw [← lkd.len]; exact this
  cases f with
  | zero =>
   exfalso
   have := unl_pos (N := ops.size) (in_ol k hk1) hk2
   omega
  | succ f =>
   refine ⟨fun hnil => ?_, fun i hi => ?_⟩
   ·exfalso
    obtain ⟨m, h1, h2, h3⟩ := exists_first (p := fun j => listed.getD j false = false) hk2
    have h4 := in_ol k hk1
    have := least_ready lkd hl.size (i := m) (by omega) h2 (fun j hj => by
     cases h : listed.getD j false with
     | true => rfl
     | false => exact absurd h (h3 j hj))
    rw [hnil] at this; simp at this
   ·have hun := ready_un hl.size hi
    have hlt := ready_lt hi
    have hp : p ≤ i := by
     rcases Nat.lt_or_ge i p with h | h
     ·rw [hm.pre i h] at hun; simp at hun
     ·exact h
    have hib : i < p + blk.length := by
     rcases Nat.lt_or_ge i (p + blk.length) with h | h
     ·exact h
     ·have hin := cutAt_spec hl.cut (k := i) (j := p + k) (by rw [lkd.len]; exact hlt) h (by omega)
      have := ready_anc lkd hm.dc hi _ hin
      rw [hk2] at this; simp at this
    obtain ⟨i', rfl⟩ : ∃ i', i = p + i' := ⟨i - p, by omega⟩
    have hi' : i' < blk.length := by omega
    refine mid_op lkd (fun i o h => hl.get h) hl.size hm hr hpo hi hi' hL hwb fun β' S' w' a' hm' hL' => ?_
    refine hM f rfl p _ E H outs E' wb β' η S' w' a' ⟨hl.ok, hl.eq, by simp [hl.size]⟩ ?_ hm' hr he hpo hk hL' hwb
    have := unl_step (N := ops.size) (i := p + i') (listed := listed) (by rw [hl.size]; exact hlt) hlt hun
    omega
theorem start_cons (lkd : Looked n ops ol anc P) {f : Nat} {blk : List O} {bs : List (List O)} (hM : MidOK ds ro P n ops ol anc C Q η₀ S₀ w₀ f blk bs) (hS : ∀ f', f = f' + 1 → StartOK ds ro P n ops ol anc C Q η₀ S₀ w₀ f' bs) : StartOK ds ro P n ops ol anc (ldraw P [blk] C) Q η₀ S₀ w₀ f (blk :: bs) := by
 intro p listed E H η S w a hl h1 h2 h3 hd hA hL
 have hpos := hl.pos
 have many : lblk P H blk (fun E news => addNews news E H C) E [] → wpAnyIn (FW ro) 0 P .any ops Q f listed a w := fun hd => by
  obtain ⟨outs, E', hr, he, hpo, hk⟩ := lblk_runs (fun _ => rfl) hd
  refine hM p listed E H outs E' w.heap.size (fun _ => 0) η S w a hl h3 ⟨h1, fun j hj => h2 j (by omega), ?_, hA.conc, hA.size, hA.defers, fun t => ?_, ⟨Nat.le_refl _, hA.conc.lt⟩, ?_, ?_⟩ hr he hpo (by simpa using hk) hL hL.size
  ·intro k hk' j hj
   have hkp : k < p := by
    rcases Nat.lt_or_ge k p with h | h
    ·exact h
    ·rw [h2 k h] at hk'; simp at hk'
   refine h1 j ?_
   have hkn : k < ops.size := by
    rcases Nat.lt_or_ge k listed.size with h | h
    ·rw [← hl.size]; exact h
    ·rw [agetD_of_ge _ _ h] at hk'; simp at hk'
   have hedge := fun e he => lkd.edge k _ (Array.getElem?_eq_getElem hkn) e he
   have : j < k := lkd.anclt k j hj
   omega
  ·rw [valAt_stop (k := 0) (by omega) (fun i _ hi _ => h2 _ (by omega))]
   exact hA.env t
  ·intro i cs mk _ hi
   rw [h2 _ (by omega)] at hi; simp at hi
  ·intro i i' cs mk cs' mk' _ _ hi
   rw [h2 _ (by omega)] at hi; simp at hi
 match blk, hl, hpos, hd, many with
 | [], _, hpos, _, _ => simp at hpos
 | o :: o' :: blk, hl, _, hd, many => exact many hd
 | [o], hl, _, hd, _ =>
  have ho : ol[p]? = some o := by have := hl.get (i := 0) (o := o) rfl; simpa using this
  have hp : p < ops.size := by
   have := (List.getElem?_eq_some_iff.1 ho).1
   rw [← lkd.len]; exact this
  have hun := h2 p (Nat.le_refl _)
  cases f with
  | zero =>
   exfalso
   have := unl_pos (N := ops.size) hp hun
   omega
  | succ f =>
   have hrp := least_ready lkd hl.size hp hun h1
   refine ⟨fun hnil => by rw [hnil] at hrp; simp at hrp, fun i hi => ?_⟩
   have huni := ready_un hl.size hi
   have hlt := ready_lt hi
   have hpi : p ≤ i := by
    rcases Nat.lt_or_ge i p with h | h
    ·rw [h1 i h] at huni; simp at huni
    ·exact h
   have hip : i = p := by
    rcases Nat.lt_or_ge i (p + 1) with h | h
    ·omega
    ·exfalso
     have hin := cutAt_spec hl.cut (k := i) (j := p) (by rw [lkd.len]; exact hlt) h (by simp)
     obtain ⟨-, oo, hoo, hee⟩ := ready_iff.1 hi
     rcases lkd.back i oo hoo p hin with h' | ⟨e, h', h''⟩
     ·rw [hee p h'] at hun; simp at hun
     ·have h5 := hee e h'
      have h6 : e < p := by
       rcases Nat.lt_or_ge e p with h | h
       ·exact h
       ·rw [h2 e h] at h5; simp at h5
      have := lkd.anclt e p h''
      omega
   subst hip
   have hc := lkd.comp _ _ _ (Array.getElem?_eq_getElem hp) ho
   refine single_sound hc hd hA (fun E' H' η' S' w' a' k1 k2 k3 => ?_) (Array.getElem?_eq_getElem hp)
   have hg := set_getD (listed := listed) (i := i) (by rw [hl.size]; exact hp)
   refine hS f rfl (i + 1) _ E' H' η' S' w' a' (hl.next (by simp)) (fun j hj => ?_) (fun j hj => ?_) ?_ k1 k2 (hL.trans k3)
   ·rw [hg]; split
    ·rfl
    ·exact h1 j (by omega)
   ·rw [hg, if_neg (by omega)]; exact h2 j (by omega)
   ·have := unl_step (N := ops.size) (i := i) (listed := listed) (by rw [hl.size]; exact hp) hp hun
    omega
theorem ldraw_split {blk : List O} {bs : List (List O)} {E : Env} {H : Heap} (h : ldraw P (blk :: bs) K E H) : ldraw P [blk] (ldraw P bs K) E H := by
 match blk, h with
 | [], h => exact h
 | [o], h => exact h
 | o :: o' :: blk, h => exact h
theorem draw_all (hQ : ∀ E' H' η' S' w' a', K E' H' → At n ds η' S' w' a' E' H' → Le η₀ S₀ w₀ η' S' w' → Q .normal a' w') (lkd : Looked n ops ol anc P) : ∀ f, (∀ bs, StartOK ds ro P n ops ol anc (ldraw P bs K) Q η₀ S₀ w₀ f bs) ∧ ∀ blk bs, MidOK ds ro P n ops ol anc (ldraw P bs K) Q η₀ S₀ w₀ f blk bs := by
 have nil : ∀ f, StartOK ds ro P n ops ol anc (ldraw P [] K) Q η₀ S₀ w₀ f [] := fun f => start_nil hQ lkd f
 have cons : ∀ f blk bs, StartOK ds ro P n ops ol anc (ldraw P [blk] (ldraw P bs K)) Q η₀ S₀ w₀ f (blk :: bs) → StartOK ds ro P n ops ol anc (ldraw P (blk :: bs) K) Q η₀ S₀ w₀ f (blk :: bs) := fun f blk bs h p listed E H η S w a h1 h2 h3 h4 h5 => h p listed E H η S w a h1 h2 h3 h4 (ldraw_split h5)
 intro f
 induction f with
 | zero =>
  have hs : ∀ bs, StartOK ds ro P n ops ol anc (ldraw P bs K) Q η₀ S₀ w₀ 0 bs := fun bs => by
   induction bs with
   | nil => exact nil 0
   | cons blk bs ih => exact cons _ _ _ (start_cons lkd (mid_step lkd ih (fun f' h => by omega)) (fun f' h => by omega))
  exact ⟨hs, fun blk bs => mid_step lkd (hs bs) (fun f' h => by omega)⟩
 | succ f ih =>
  have hs : ∀ bs, StartOK ds ro P n ops ol anc (ldraw P bs K) Q η₀ S₀ w₀ (f + 1) bs := fun bs => by
   induction bs with
   | nil => exact nil _
   | cons blk bs ih' => exact cons _ _ _ (start_cons lkd (mid_step lkd ih' (fun f' h => by cases h; exact ih.2 _ _)) (fun f' h => by cases h; exact ih.1 _))
  exact ⟨hs, fun blk bs => mid_step lkd (hs bs) (fun f' h => by cases h; exact ih.2 _ _)⟩
theorem draw_looked {bs : List (List O)} (hc : compDraw P n ops = some bs) : ∃ ol, Looked n ops ol (ancs ops.toList []) P ∧ P.follows .mixedOrders = true ∧ piecesOK (ancs ops.toList []) ol.length 0 bs = true ∧ bs.flatten = ol := by
 simp only [compDraw, Option.bind_eq_some_iff] at hc
 obtain ⟨ol, hol, hc⟩ := hc
 split at hc
 rotate_left
 ·simp at hc
 rename_i hok
 simp only [Bool.and_eq_true, beq_iff_eq] at hok
 obtain ⟨⟨⟨⟨⟨m1, m2⟩, m3⟩, m4⟩, m5⟩, m6⟩ := hok
 simp only [Option.some.injEq] at hc
 subst hc
 obtain ⟨c1, c2⟩ := compOps_get hol
 have hspec := ancs_spec ops.toList []
 have lkd : Looked n ops ol (ancs ops.toList []) P := by
  refine ⟨by simpa using c1, fun i o oo h1 h2 => c2 i o oo (by simpa using h1) h2, fun i o h j hj => by simpa using hspec i o (by simpa using h) j (by simpa using hj), fun i o h => edgesOK_spec m2 (by simpa using h),
   fun i j x y d h1 h2 h3 => (tempsOK_spec m3 h1 h2 h3).1 d, fun i j x y d h1 h2 h3 => (tempsOK_spec m3 h1 h2 h3).2 d, fun i j x y d h1 h2 h3 h4 h5 => newsOK_spec m4 h1 h2 h3 h4 h5, ?_⟩
  intro k
  induction k using Nat.strongRecOn with
  | _ k ih =>
   intro j hj
   by_cases hk : k < ops.toList.length
   ·have ho : ops.toList[k]? = some ops.toList[k] := List.getElem?_eq_getElem hk
    rcases hspec k _ ho j (by simpa using hj) with h | ⟨e, h1, h2⟩
    ·exact edgesOK_spec m2 ho j h
    ·have := edgesOK_spec m2 ho e h1
     have := ih e this j h2
     omega
   ·exfalso
    rw [getD_of_ge _ _ (by
     have : ∀ (l : List Oper) (acc : List (List Nat)), (ancs l acc).length = acc.length + l.length := by
      intro l
      induction l with
      | nil => intro acc; simp [ancs]
      | cons x l ih => intro acc; simp only [ancs]; rw [ih]; simp; omega
     rw [this]; simp at hk ⊢; omega)] at hj
    simp at hj
 exact ⟨ol, lkd, m1, m5, by simp [pieces_flatten]⟩
theorem draw_sound {bs : List (List O)} (hc : compDraw P n ops = some bs) {E : Env} {H : Heap} {η : List Nat} {S : Nat → Prop} {w : World} {a : Act} (hl : ldraw P bs K E H) (hA : At n ds η S w a E H) {id : Nat}
  (hQ : ∀ E' H' η' S' w' a', K E' H' → At n ds η' S' w' a' E' H' → Le η S w η' S' w' → Q .normal a' w') : (Code.region id ops true).wpIn (FW ro) 0 P Q a w := by
 simp only [compDraw, Option.bind_eq_some_iff] at hc
 obtain ⟨ol, hol, hc⟩ := hc
 split at hc
 rotate_left
 ·simp at hc
 rename_i hok
 simp only [Bool.and_eq_true, beq_iff_eq] at hok
 obtain ⟨⟨⟨⟨⟨m1, m2⟩, m3⟩, m4⟩, m5⟩, m6⟩ := hok
 simp only [Option.some.injEq] at hc
 subst hc
 obtain ⟨c1, c2⟩ := compOps_get hol
 have hspec := ancs_spec ops.toList []
 have lkd : Looked n ops ol (ancs ops.toList []) P := by
  refine ⟨by simpa using c1, fun i o oo h1 h2 => c2 i o oo (by simpa using h1) h2, fun i o h j hj => by simpa using hspec i o (by simpa using h) j (by simpa using hj), fun i o h => edgesOK_spec m2 (by simpa using h),
   fun i j x y d h1 h2 h3 => (tempsOK_spec m3 h1 h2 h3).1 d, fun i j x y d h1 h2 h3 => (tempsOK_spec m3 h1 h2 h3).2 d, fun i j x y d h1 h2 h3 h4 h5 => newsOK_spec m4 h1 h2 h3 h4 h5, ?_⟩
  intro k
  induction k using Nat.strongRecOn with
  | _ k ih =>
   intro j hj
   by_cases hk : k < ops.toList.length
   ·have ho : ops.toList[k]? = some ops.toList[k] := List.getElem?_eq_getElem hk
    rcases hspec k _ ho j (by simpa using hj) with h | ⟨e, h1, h2⟩
    ·exact edgesOK_spec m2 ho j h
    ·have := edgesOK_spec m2 ho e h1
     have := ih e this j h2
     omega
   ·exfalso
    rw [getD_of_ge _ _ (by
     have : ∀ (l : List Oper) (acc : List (List Nat)), (ancs l acc).length = acc.length + l.length := by
      intro l
      induction l with
      | nil => intro acc; simp [ancs]
      | cons x l ih => intro acc; simp only [ancs]; rw [ih]; simp; omega
     rw [this]; simp at hk ⊢; omega)] at hj
    simp at hj
 refine wpIn_region_any m1 ?_
 have hL : Le η S w η S { w with drawn := w.drawn + 1 } := Le.heap rfl rfl rfl rfl
 refine (draw_all (ro := ro) (K := K) (Q := Q) (η₀ := η) (S₀ := S) (w₀ := w) hQ lkd ops.size).1 _ 0 _ E H η S _ a ⟨m5, by simp [pieces_flatten], by simp⟩ (fun j hj => by omega) (fun j _ => ?_) ?_ hl ⟨hA.conc.heap rfl, fun t => (hA.env t).le hL, hA.size, hA.defers⟩ hL
 ·by_cases h : j < ops.size
  ·simp [Array.getD_eq_getD_getElem?, h]
  ·simp [Array.getD_eq_getD_getElem?, h]
 ·unfold unl
  exact Nat.le_trans List.countP_le_length (by simp)
end
end Lg


/- Regions whose order of evaluation is open: pieces that end with an operation that turns the own rows. -/
namespace Lg
open Go
theorem read_not_new {i : I} (h : isRead i = true) (k : isNew i = true) : False := by cases i <;> simp [isRead, isNew] at h k
theorem dropLast_get {α : Type} {l : List α} {i : Nat} (h : i < l.length - 1) : l.dropLast[i]? = l[i]? := by
 rw [List.getElem?_eq_getElem (by simp; exact h), List.getElem?_eq_getElem (by omega), List.getElem_dropLast]
theorem lk_mask {ms : List Nat} {E : Env} {t : Nat} : lk (ms.map (fun d => (d, L.any)) ++ E) t = if t ∈ ms then .any else lk E t := by
 induction ms with
 | nil => simp
 | cons m ms ih =>
  simp only [List.map_cons, List.cons_append, lk, List.mem_cons]
  by_cases h : t = m
  ·simp [h]
  ·rw [if_neg h, ih]
   simp [h]
theorem addNews_mask {K : Env → Heap → Prop} {ms : List Nat} : ∀ {nl : List (Option Nat × List L × (Nat → L))} {E Em : Env} {H : Heap}, (∀ t, lk Em t = if t ∈ ms then .any else lk E t) → (∀ e ∈ nl, ∀ d, e.1 = some d → d ∉ ms) → addNews nl E H K →
  addNews nl Em H (fun Em' H' => ∃ E', K E' H' ∧ ∀ t, lk Em' t = if t ∈ ms then .any else lk E' t)
 | [], E, Em, H, h, _, hk => ⟨E, hk, h⟩
 | (d, cs, mk) :: nl, E, Em, H, h, hn, hk => by
  simp only [addNews] at hk ⊢
  refine addNews_mask (E := putE E d (mk H.length)) (fun t => ?_) (fun e he => hn e (by simp [he])) hk
  rw [lk_putE, lk_putE]
  by_cases hd : d = some t
  ·have := hn (d, cs, mk) (by simp) t hd
   simp [hd, this]
  ·simp only [hd, if_false]; exact h t
section
variable {ds : List Deferred} {ro : Option Nat} {P : Program} {η : List Nat} {S : Nat → Prop} {w : World} {H : Heap} {a : Act} {E : Env}
theorem Mid.part {n : Nat} {anc : List (List Nat)} {p : Nat} {blk : List O} {outs : List Out} {wb : Nat} {β : Nat → Nat} {listed : Array Bool} (hM : Mid n ds anc p blk outs E H wb β listed η S w a) (ms : List Nat)
  (hlist : ∀ (i : Nat), (∃ cs mk, outs[i]? = some (.new cs mk)) ∨ (∃ d l, outs[i]? = some (.put d l)) → listed.getD (p + i) false = true)
  (hrel : ∀ (i : Nat) d, i < blk.length → listed.getD (p + i) false = false → (blk[i]?).bind (·.dst) = some d → d ∈ ms)
  (hnews : ∀ e ∈ newsOf blk outs, ∀ d, e.1 = some d → d ∉ ms)
  (hruns : Runs P H E blk outs) {E' : Env} {K : Env → Heap → Prop} (he : ∀ t, lk E' t = lk (foldE E blk outs) t) (hk : addNews (finNews outs (newsOf blk outs)) E' H K) :
  ∃ E'' H'' η' E1, K E1 H'' ∧ (∀ t, lk E'' t = if t ∈ ms then .any else lk E1 t) ∧ At n ds η' S w a E'' H'' ∧ ∃ ζ, η' = η ++ ζ ∧ ∀ b ∈ ζ, wb ≤ b := by
 obtain ⟨hl, hat⟩ := hruns.at
 obtain ⟨nb1, nb2⟩ := newBlocks_spec (β := β) (blk := blk) (outs := outs) 0 hl
 have hE : REnv η S w a.tmps (ms.map (fun d => (d, L.any)) ++ E') := fun t => by
  rw [lk_mask]
  split
  ·exact .any _
  ·rename_i ht
   rw [he t]
   have := valAt_fold (E := E) (blk := blk) (outs := outs) hl (t := t) (Nat.le_refl _)
   rw [List.take_length, ← hl, List.take_length] at this
   rw [← this, hl]
   rw [valAt_congr (M' := fun i => listed.getD (p + i) false) (fun i hi hd => by
    cases hli : listed.getD (p + i) false with
    | true => rfl
    | false => exact absurd (hrel i t hi hli hd) ht)]
   exact hM.rel t
 have hk' := addNews_mask (ms := ms) (Em := ms.map (fun d => (d, L.any)) ++ E') (fun t => lk_mask) (fun e he' => by
  unfold finNews at he'
  obtain ⟨e0, h0, rfl⟩ := List.mem_map.1 he'
  exact hnews e0 h0) hk
 have mkOK : ∀ (j : Nat) o cs mk, blk[j]? = some o → outs[j]? = some (.new cs mk) → lnew o.op (foldE E (blk.take j) (outs.take j)) = some (cs, mk) := fun j o cs mk h1 h2 => (hat j o _ h1 h2).2
 obtain ⟨E'', H'', η', q1, q2, q3, q4⟩ := addNews_sound (tmps := a.tmps) (newBlocks β 0 outs) (by rw [nb1]; simp [finNews]) hM.conc hE hk' (fun k b d cs mk h1 h2 => by
   obtain ⟨cs0, h2, hcs⟩ : ∃ cs0, (newsOf blk outs)[k]? = some (d, cs0, mk) ∧ cs = afterPut (putsTo outs (fun _ => true) d) cs0 := by
    unfold finNews at h2
    rw [List.getElem?_map] at h2
    obtain ⟨⟨d0, cs0, mk0⟩, g1, g2⟩ := Option.map_eq_some_iff.1 h2
    simp only [Prod.mk.injEq] at g2
    obtain ⟨rfl, rfl, rfl⟩ := g2
    exact ⟨cs0, g1, rfl⟩
   obtain ⟨j, o, f1, f2, f3, f4⟩ := nb2 k b d cs0 mk h1 h2
   obtain ⟨g1, g2, g3, g4⟩ := hM.priv j cs0 mk f2 (hlist j (.inl ⟨_, _, f2⟩))
   rw [Nat.zero_add] at f3
   subst f3
   have hsame : putsTo outs (fun i => listed.getD (p + i) false) ((blk[j]?).bind (·.dst)) = putsTo outs (fun _ => true) d := by
    rw [f1, f4]
    exact putsTo_congr fun i d' l hi _ => hlist i (.inr ⟨_, _, hi⟩)
   rw [hsame, ← hcs] at g3
   refine ⟨g2, fun hm => by have := hM.wbd.2 _ hm; omega, g3, fun t ht η₁ => ?_⟩
   have := g4 t (by rw [f1]; rw [← ht, f4]; rfl)
   exact lnew_mk (mkOK j o cs0 mk f1 f2) this η₁) (fun k k' b h1 h2 => by
   obtain ⟨j, cs, mk, f1, f2, f3⟩ := newBlocks_at (β := β) (outs := outs) 0 k b h1
   obtain ⟨j', cs', mk', g1, g2, g3⟩ := newBlocks_at (β := β) (outs := outs) 0 k' b h2
   rw [Nat.zero_add] at f2 g2
   have := hM.inj j j' cs mk cs' mk' f1 g1 (hlist j (.inl ⟨_, _, f1⟩)) (hlist j' (.inl ⟨_, _, g1⟩)) (by rw [← f2, ← g2])
   subst this
   rw [f3, g3])
 obtain ⟨E1, hE1, hE2⟩ := q1
 refine ⟨E'', H'', η', E1, hE1, hE2, ⟨q2, q3, hM.size, hM.defers⟩, _, q4, fun b hb => ?_⟩
 obtain ⟨k, hk', hkb⟩ := List.getElem_of_mem hb
 obtain ⟨j, cs, mk, f1, f2, -⟩ := newBlocks_at (β := β) (outs := outs) 0 k b (by rw [List.getElem?_eq_getElem hk', hkb])
 rw [Nat.zero_add] at f2
 have := (hM.priv j cs mk f1 (hlist j (.inl ⟨_, _, f1⟩))).1
 omega
end
section
variable {ds : List Deferred} {ro : Option Nat} {P : Program} {n : Nat} {ops : Array Oper} {ol : List O} {anc : List (List Nat)} {K C : Env → Heap → Prop} {Q : Exit → Act → World → Prop} {η₀ : List Nat} {S₀ : Nat → Prop} {w₀ : World}
theorem callAt_monoQ {f : FuncId} {ls : List L} {H : Heap} {K K' : L → Heap → Prop} (h : callAt P f ls H K) (hk : ∀ l H', K l H' → K' l H') : callAt P f ls H K' :=
 ⟨h.1, fun η S w vs hC hv => (h.2 η S w vs hC hv).mono fun _ _ ⟨v, l, H', η', S', a, b, c⟩ => ⟨v, l, H', η', S', a, hk _ _ b, c⟩⟩
theorem heavyL_last : ∀ {blk : List O} {news : List Nat}, heavyL news blk = true → ∃ o, blk[blk.length - 1]? = some o ∧ ((∃ e b z x y, o.op = .append e b z x y) ∨ (∃ e x y, o.op = .copy e x y) ∨ (∃ e b z x y, o.op = .mksl e b z x y) ∨ (∃ s d y, o.op = .store s (.t d) y) ∨ ∃ f xs, o.op = .call f xs)
 | [], _, h => by simp [heavyL] at h
 | [o], news, h => by
  refine ⟨o, rfl, ?_⟩
  simp only [heavyL] at h
  split at h
  ·rename_i e; exact .inl ⟨_, _, _, _, _, e⟩
  ·rename_i e; exact .inr (.inl ⟨_, _, _, e⟩)
  ·rename_i e; exact .inr (.inr (.inl ⟨_, _, _, _, _, e⟩))
  ·rename_i e; exact .inr (.inr (.inr (.inl ⟨_, _, _, e⟩)))
  ·rename_i e; exact .inr (.inr (.inr (.inr ⟨_, _, e⟩)))
  ·simp at h
 | o :: o' :: rest, news, h => by
  simp only [heavyL] at h
  obtain ⟨x, h1, h2⟩ := heavyL_last h
  exact ⟨x, by simpa using h1, h2⟩
theorem heavyP_len {blk : List O} (h : heavyP blk = true) : 2 ≤ blk.length ∧ heavyL [] blk = true := by
 match blk, h with
 | [], h => simp [heavyP] at h
 | [o], h => simp [heavyP] at h
 | o :: o' :: rest, h => exact ⟨by simp, h⟩
def PostOK (ds : List Deferred) (ro : Option Nat) (P : Program) (n : Nat) (ops : Array Oper) (ol : List O) (anc : List (List Nat)) (C : Env → Heap → Prop) (Q : Exit → Act → World → Prop) (η₀ : List Nat) (S₀ : Nat → Prop) (w₀ : World) (f : Nat) (fl : List Nat) (blk : List O) (bs : List (List O)) : Prop :=
 ∀ p listed E H η S w a, Lies ops ol anc p (blk :: bs) listed → unl ops.size listed ≤ f → (∀ j, j < p → listed.getD j false = true) → (∀ j, p + blk.length ≤ j → listed.getD j false = false) → DC anc listed →
  (∀ j, j < blk.length → listed.getD (p + j) false = false → j ∈ fl) → Conc η S w H → a.tmps.size = n → a.defers = ds →
  (∀ t, (∀ j, j < blk.length → listed.getD (p + j) false = false → (blk[j]?).bind (·.dst) ≠ some t) → Rel S w η (a.tmps.getD t undef) (lk E t)) →
  (∀ i ∈ fl, stable blk E H i) → C E H → Le η₀ S₀ w₀ η S w → wpAnyIn (FW ro) 0 P .any ops Q f listed a w
theorem floatOK_spec {blk : List O} {i : Nat} (h : floatOK blk i = true) : ∃ o d, blk[i]? = some o ∧ o.dst = some d ∧ isRead o.op = true ∧ o.guard = none ∧ (∀ (j : Nat) y, blk[j]? = some y → j ≠ i → y.dst ≠ some d) ∧ (∀ (j : Nat) y d', blk[j]? = some y → i ≤ j → y.dst = some d' → d' ∉ o.names) := by
 unfold floatOK at h
 split at h
 ·rename_i o ho
  simp only [Bool.and_eq_true, Option.isNone_iff_eq_none] at h
  obtain ⟨⟨⟨h1, h2⟩, h3⟩, h4⟩ := h
  obtain ⟨d, hd⟩ := Option.isSome_iff_exists.1 h3
  have hall := fun (j : Nat) y (hy : blk[j]? = some y) => by
   have hj : j < blk.length := (List.getElem?_eq_some_iff.1 hy).1
   have := List.all_eq_true.1 h4 j (List.mem_range.2 hj)
   rw [hy] at this
   exact this
  refine ⟨o, d, ho, hd, by cases hop : o.op <;> simp_all [isReadC, isRead], h2, fun j y hy hne => ?_, fun j y d' hy hij hd' => ?_⟩
  ·have := hall j y hy
   simp only [Bool.and_eq_true, Bool.or_eq_true, beq_iff_eq, bne_iff_ne] at this
   rcases this.1 with h | h
   ·exact absurd h hne
   ·rw [hd] at h; exact h
  ·have := hall j y hy
   simp only [Bool.and_eq_true, Bool.or_eq_true, decide_eq_true_eq, hd', Bool.not_eq_true'] at this
   rcases this.2 with h | h
   ·omega
   ·intro hm
    rw [List.contains_iff_mem.2 hm] at h
    simp at h
 ·simp at h
theorem post_step (lkd : Looked n ops ol anc P) {f : Nat} {fl : List Nat} {blk : List O} {bs : List (List O)} (hfl : ∀ i ∈ fl, floatOK blk i = true) (hS : StartOK ds ro P n ops ol anc C Q η₀ S₀ w₀ f bs) (hP : ∀ f', f = f' + 1 → PostOK ds ro P n ops ol anc C Q η₀ S₀ w₀ f' fl blk bs) : PostOK ds ro P n ops ol anc C Q η₀ S₀ w₀ f fl blk bs := by
 intro p listed E H η S w a hl hf hpre hpost hdc hun hC hsz hde hrel hst hc hL
 by_cases hall : ∀ i, i < blk.length → listed.getD (p + i) false = true
 ·refine hS (p + blk.length) listed E H η S w a (hl.next rfl) (fun j hj => ?_) hpost hf hc ⟨hC, fun t => hrel t fun j hj hlj => ?_, hsz, hde⟩ hL
  ·by_cases hjp : j < p
   ·exact hpre j hjp
   ·have := hall (j - p) (by omega)
    rwa [show p + (j - p) = j by omega] at this
  ·rw [hall j hj] at hlj; simp at hlj
 ·have ⟨k, hk1, hk2⟩ : ∃ k, k < blk.length ∧ listed.getD (p + k) false = false := by
   apply Classical.byContradiction
   intro hno
   refine hall fun i hi => ?_
   cases h : listed.getD (p + i) false with
   | true => rfl
   | false => exact absurd ⟨i, hi, h⟩ hno
  have in_ol : ∀ i, i < blk.length → p + i < ops.size := fun i hi => by
   have := (List.getElem?_eq_some_iff.1 (hl.get (List.getElem?_eq_getElem hi))).1
   rw [← lkd.len]; exact this
  cases f with
  | zero =>
   exfalso
   have := unl_pos (N := ops.size) (in_ol k hk1) hk2
   omega
  | succ f =>
   refine ⟨fun hnil => ?_, fun i hi => ?_⟩
   ·exfalso
    obtain ⟨m, h1, h2, h3⟩ := exists_first (p := fun j => listed.getD j false = false) hk2
    have h4 := in_ol k hk1
    have := least_ready lkd hl.size (i := m) (by omega) h2 (fun j hj => by
     cases h : listed.getD j false with
     | true => rfl
     | false => exact absurd h (h3 j hj))
    rw [hnil] at this; simp at this
   ·have huni := ready_un hl.size hi
    have hlt := ready_lt hi
    have hp : p ≤ i := by
     rcases Nat.lt_or_ge i p with h | h
     ·rw [hpre i h] at huni; simp at huni
     ·exact h
    have hib : i < p + blk.length := by
     rcases Nat.lt_or_ge i (p + blk.length) with h | h
     ·exact h
     ·have hin := cutAt_spec hl.cut (k := i) (j := p + k) (by rw [lkd.len]; exact hlt) h (by omega)
      have := ready_anc lkd hdc hi _ hin
      rw [hk2] at this; simp at this
    obtain ⟨i', rfl⟩ : ∃ i', i = p + i' := ⟨i - p, by omega⟩
    have hi' : i' < blk.length := by omega
    have himem := hun i' hi' huni
    obtain ⟨o, d, ho, hd, hread, hg, hodst, honame⟩ := floatOK_spec (hfl i' himem)
    have hsti := hst i' himem
    unfold stable at hsti
    rw [ho] at hsti
    simp only [hd] at hsti
    have hop := Array.getElem?_eq_getElem hlt
    have hcc := lkd.comp _ _ _ hop (hl.get ho)
    have hdst : o.dst = ops[p + i'].dst ∧ ∀ t, ops[p + i'].dst = some t → t < n := by
     simp only [compO, Option.bind_eq_some_iff] at hcc
     obtain ⟨ii, hii, hcc⟩ := hcc
     split at hcc
     rotate_left
     ·simp at hcc
     rename_i hdd
     refine ⟨?_, fun t ht => by rw [ht] at hdd; simpa [dstOk] using hdd⟩
     cases hg' : ops[p + i'].guard with
     | none => simp only [hg', Option.some.injEq] at hcc; rw [← hcc]
     | some jb => obtain ⟨j, b⟩ := jb; simp only [hg', Option.map_eq_some_iff] at hcc; obtain ⟨s, -, hcc⟩ := hcc; rw [← hcc]
    refine piece_op (E := E) (out := .val (lk E d)) hcc ⟨by simp [runs, hg], .inr (.inr (.inr (.inl ⟨hread, H, hsti⟩)))⟩ hC (fun t ht => hrel t fun j hj hlj hjd => ?_) hop (by simp) ?_
    ·obtain ⟨y, hy⟩ : ∃ y, blk[j]? = some y := ⟨_, List.getElem?_eq_getElem hj⟩
     rw [hy] at hjd
     rcases Nat.lt_or_ge j i' with h | h
     ·have := ready_anc lkd hdc hi _ (lkd.t1 (p + j) (p + i') y o t (by omega) (hl.get hy) (hl.get ho) hjd (.inl ht))
      rw [hlj] at this; simp at this
     ·exact honame j y t hy h hjd ht
    ·intro v S' w' k1 k2 k3 k4
     rw [← hdst.1, hd]
     have hin : p + i' < listed.size := by rw [hl.size]; exact hlt
     have hgs := set_getD (listed := listed) hin
     have hput : ∀ t, (a.put (some d) v).tmps.getD t undef = if d = t then v else a.tmps.getD t undef := fun t => by
      have := put_getD (a := a) (d := some d) (v := v) (fun t ht => by rw [hsz]; exact hdst.2 t (by rw [← hdst.1, hd]; exact ht)) t
      rw [this]; simp
     refine hP f rfl p _ E H η S' w' _ ⟨hl.ok, hl.eq, by simp [hl.size]⟩ ?_ (fun j hj => ?_) (fun j hj => ?_) (hdc.step lkd hi hin) (fun j hj hlj => ?_) k2 (by simp [Act.put, hsz]) (by exact hde) (fun t ht => ?_) hst hc (hL.trans k1)
     ·have := unl_step (N := ops.size) (i := p + i') (listed := listed) hin hlt huni
      omega
     ·rw [hgs]; split
      ·rfl
      ·exact hpre j hj
     ·rw [hgs, if_neg (by omega)]; exact hpost j hj
     ·rw [hgs] at hlj
      split at hlj
      ·simp at hlj
      ·exact hun j hj hlj
     ·rw [hput]
      by_cases hdt : d = t
      ·rw [if_pos hdt, ← hdt]; exact k3
      ·rw [if_neg hdt]
       refine (hrel t fun j hj hlj hjd => ?_).le k1
       by_cases hji : j = i'
       ·subst hji
        rw [ho] at hjd
        simp only [Option.bind_some, hd, Option.some.injEq] at hjd
        exact hdt hjd
       ·exact ht j hj (by rw [hgs, if_neg (by omega)]; exact hlj) hjd
def PreOK (ds : List Deferred) (ro : Option Nat) (P : Program) (n : Nat) (ops : Array Oper) (ol : List O) (anc : List (List Nat)) (C : Env → Heap → Prop) (Q : Exit → Act → World → Prop) (η₀ : List Nat) (S₀ : Nat → Prop) (w₀ : World) (f : Nat) (fl : Nat → List Nat) (blk : List O) (bs : List (List O)) : Prop :=
 ∀ p listed E H outs E' wb β η S w a, Lies ops ol anc p (blk :: bs) listed → (∀ i ∈ fl p, floatOK blk i = true) → (∀ i, i < blk.length - 1 → i ∉ fl p → p + i ∈ anc.getD (p + (blk.length - 1)) []) → (∀ i ∈ fl p, p + i ∉ anc.getD (p + (blk.length - 1)) []) → unl ops.size listed ≤ f → Mid n ds anc p blk.dropLast outs E H wb β listed η S w a → Runs P H E blk.dropLast outs → (∀ t, lk E' t = lk (foldE E blk.dropLast outs) t) →
  PutsOK blk.dropLast outs [] → addNews (finNews outs (newsOf blk.dropLast outs)) E' H (fun E1 H1 => lops P (blk.drop (blk.length - 1)) (fun E2 H2 => (∀ i ∈ fl p, stable blk E2 H2 i) ∧ C E2 H2) E1 H1) → Le η₀ S₀ w₀ η S w → w₀.heap.size ≤ wb → wpAnyIn (FW ro) 0 P .any ops Q f listed a w
theorem pre_step (lkd : Looked n ops ol anc P) {f : Nat} {fl : Nat → List Nat} {blk : List O} {bs : List (List O)} (hheavy : heavyP blk = true) (hlast : lastOK blk = true) (hP : ∀ f' p, f = f' + 1 → PostOK ds ro P n ops ol anc C Q η₀ S₀ w₀ f' (fl p) blk bs) (hM : ∀ f', f = f' + 1 → PreOK ds ro P n ops ol anc C Q η₀ S₀ w₀ f' fl blk bs) : PreOK ds ro P n ops ol anc C Q η₀ S₀ w₀ f fl blk bs := by
 intro p listed E H outs E' wb β η S w a hl hflo hanc hflnot hf hm hr he hpo hk hL hwb
 obtain ⟨hlen2, hhL⟩ := heavyP_len hheavy
 obtain ⟨h, hh, hkind⟩ := heavyL_last hhL
 have hdl : blk.dropLast.length = blk.length - 1 := by simp
 have hget : ∀ (i : Nat) o, blk.dropLast[i]? = some o → ol[p + i]? = some o := fun i o ho => by
  have hi : i < blk.length - 1 := by have := (List.getElem?_eq_some_iff.1 ho).1; omega
  rw [dropLast_get hi] at ho
  exact hl.get ho
 have in_ol : ∀ i, i < blk.length → p + i < ops.size := fun i hi => by
  have := (List.getElem?_eq_some_iff.1 (hl.get (List.getElem?_eq_getElem hi))).1
  rw [← lkd.len]; exact this
 have hunh : listed.getD (p + (blk.length - 1)) false = false := hm.post _ (by omega)
 cases f with
 | zero =>
  exfalso
  have := unl_pos (N := ops.size) (in_ol (blk.length - 1) (by omega)) hunh
  omega
 | succ f =>
  refine ⟨fun hnil => ?_, fun i hi => ?_⟩
  ·exfalso
   obtain ⟨m, h1, h2, h3⟩ := exists_first (p := fun j => listed.getD j false = false) hunh
   have h4 := in_ol (blk.length - 1) (by omega)
   have := least_ready lkd hl.size (i := m) (by omega) h2 (fun j hj => by
    cases h : listed.getD j false with
    | true => rfl
    | false => exact absurd h (h3 j hj))
   rw [hnil] at this; simp at this
  ·have hun := ready_un hl.size hi
   have hlt := ready_lt hi
   have hp : p ≤ i := by
    rcases Nat.lt_or_ge i p with h | h
    ·rw [hm.pre i h] at hun; simp at hun
    ·exact h
   have hib : i < p + blk.length := by
    rcases Nat.lt_or_ge i (p + blk.length) with h | h
    ·exact h
    ·have hin := cutAt_spec hl.cut (k := i) (j := p + (blk.length - 1)) (by rw [lkd.len]; exact hlt) h (by omega)
     have := ready_anc lkd hm.dc hi _ hin
     rw [hunh] at this; simp at this
   obtain ⟨i', rfl⟩ : ∃ i', i = p + i' := ⟨i - p, by omega⟩
   have hin : p + i' < listed.size := by rw [hl.size]; exact hlt
   by_cases hlasti : i' < blk.length - 1
   ·refine mid_op lkd hget hl.size hm hr hpo hi (by omega) hL hwb fun β' S' w' a' hm' hL' => ?_
    refine hM f rfl p _ E H outs E' wb β' η S' w' a' ⟨hl.ok, hl.eq, by simp [hl.size]⟩ hflo hanc hflnot ?_ hm' hr he hpo hk hL' hwb
    have := unl_step (N := ops.size) (i := p + i') (listed := listed) hin hlt hun
    omega
   ·have hil : i' = blk.length - 1 := by omega
    subst hil
    have hanclisted := ready_anc lkd hm.dc hi
    obtain ⟨hlen, hat⟩ := hr.at
    have nonfl : ∀ j, j < blk.length - 1 → listed.getD (p + j) false = false → j ∈ fl p := fun j hj hlj => by
     apply Classical.byContradiction
     intro hnot
     rw [hanclisted _ (hanc j hj hnot)] at hlj
     simp at hlj
    let ms : List Nat := (fl p).filterMap fun j => if listed.getD (p + j) false = true then none else (blk[j]?).bind (·.dst)
    have hms : ∀ d, d ∈ ms ↔ ∃ j ∈ fl p, listed.getD (p + j) false = false ∧ (blk[j]?).bind (·.dst) = some d := fun d => by
     simp only [ms, List.mem_filterMap]
     refine exists_congr fun j => and_congr_right fun _ => ?_
     cases listed.getD (p + j) false <;> simp
    have fl_lt : ∀ j ∈ fl p, j < blk.length - 1 := fun j hj => by
     obtain ⟨o, d, ho, hd, -, -, hodst, -⟩ := floatOK_spec (hflo j hj)
     have h1 := (List.getElem?_eq_some_iff.1 ho).1
     rcases Nat.lt_or_ge j (blk.length - 1) with h | h'
     ·exact h
     ·have : j = blk.length - 1 := by omega
      subst this
      rw [hh] at ho
      cases ho
      obtain ⟨o, d, ho, hd, hread, -⟩ := floatOK_spec (hflo _ hj)
      rw [hh] at ho
      cases ho
      rcases hkind with ⟨_, _, _, _, _, e⟩ | ⟨_, _, _, e⟩ | ⟨_, _, _, _, _, e⟩ | ⟨_, _, _, e⟩ | ⟨_, _, e⟩ <;> simp [e, isRead] at hread
    have outread : ∀ j ∈ fl p, ∀ out, outs[j]? = some out → (∀ cs mk, out ≠ .new cs mk) ∧ ∀ d l, out ≠ .put d l := fun j hj out hout => by
     obtain ⟨o, d, ho, hd, hread, -⟩ := floatOK_spec (hflo j hj)
     have hjl := fl_lt j hj
     have ho' : blk.dropLast[j]? = some o := by rw [dropLast_get hjl]; exact ho
     have hok := hat j o out ho' hout
     refine ⟨fun cs mk e => ?_, fun d l e => ?_⟩
     ·subst e
      have := (lnew_lop (H := H) hok.2).2
      exact (read_not_new hread this).elim
     ·subst e
      obtain ⟨-, -, s, y, hop, -⟩ := hok
      simp [hop, isRead] at hread
    obtain ⟨E'', H'', η', E1, hK, hE12, hA, ζ, hη', hζ⟩ := hm.part ms (fun j hj => by
      cases hlj : listed.getD (p + j) false with
      | true => rfl
      | false =>
       exfalso
       have hjl : j < blk.length - 1 := by
        rcases hj with ⟨_, _, hj⟩ | ⟨_, _, hj⟩ <;> (have := (List.getElem?_eq_some_iff.1 hj).1; omega)
       have := outread j (nonfl j hjl hlj)
       rcases hj with ⟨cs, mk, hj⟩ | ⟨d, l, hj⟩
       ·exact (this _ hj).1 cs mk rfl
       ·exact (this _ hj).2 d l rfl)
     (fun j d hj hlj hd => (hms d).2 ⟨j, nonfl j (by omega) hlj, hlj, by rw [← dropLast_get (by omega)]; exact hd⟩)
     (fun e he' d hd hdm => by
      obtain ⟨j, hj, hlj, hjd⟩ := (hms d).1 hdm
      obtain ⟨o, d', ho, hd', -, -, hodst, -⟩ := floatOK_spec (hflo j hj)
      rw [ho] at hjd
      simp only [Option.bind_some, hd', Option.some.injEq] at hjd
      subst hjd
      have hnew : ∀ (bl : List O) (ou : List Out) (e : Option Nat × List L × (Nat → L)), e ∈ newsOf bl ou → ∃ (k : Nat) (y : O) (cs : List L) (mk : Nat → L), bl[k]? = some y ∧ ou[k]? = some (.new cs mk) ∧ e.1 = y.dst := by
       intro bl
       induction bl with
       | nil => intro ou e he; simp [newsOf] at he
       | cons x bl ih =>
        intro ou e he
        cases ou with
        | nil => simp [newsOf] at he
        | cons u ou =>
         have old : e ∈ newsOf bl ou → ∃ (k : Nat) (y : O) (cs : List L) (mk : Nat → L), (x :: bl)[k]? = some y ∧ (u :: ou)[k]? = some (.new cs mk) ∧ e.1 = y.dst := fun he => by
          obtain ⟨k, y, cs, mk, h1, h2, h3⟩ := ih ou e he
          exact ⟨k + 1, y, cs, mk, by simpa using h1, by simpa using h2, h3⟩
         cases u with
         | new cs mk =>
          simp only [newsOf, List.mem_cons] at he
          rcases he with rfl | he
          ·exact ⟨0, x, cs, mk, rfl, rfl, rfl⟩
          ·exact old he
         | _ => exact old he
      obtain ⟨k, y, cs, mk, g1, g2, g3⟩ := hnew _ _ e he'
      have hk1 : k < blk.length - 1 := by have := (List.getElem?_eq_some_iff.1 g1).1; omega
      rw [dropLast_get hk1] at g1
      by_cases hkj : k = j
      ·subst hkj
       exact (outread k hj _ g2).1 cs mk rfl
      ·exact hodst k y g1 hkj (by rw [← g3, hd]))
     hr he hk
    have hdrop : blk.drop (blk.length - 1) = [h] := by
     have e1 : blk.length - 1 < blk.length := by omega
     rw [List.drop_eq_getElem_cons e1, show blk.length - 1 + 1 = blk.length by omega, List.drop_length]
     rw [List.getElem?_eq_getElem e1] at hh
     rw [Option.some.inj hh]
    rw [hdrop] at hK
    have hhg : h.guard = none := by
     unfold lastOK at hlast
     rw [hh] at hlast
     simpa using hlast
    have htm : ∀ t ∈ h.op.tmps, lk E1 t = lk E'' t := fun t ht => by
     rw [hE12]
     split
     ·rename_i hm'
      exfalso
      obtain ⟨j, hj, hlj, hjd⟩ := (hms t).1 hm'
      have hjl := fl_lt j hj
      obtain ⟨y, hy⟩ : ∃ y, blk[j]? = some y := ⟨_, List.getElem?_eq_getElem (by omega)⟩
      rw [hy] at hjd
      have := lkd.t1 (p + j) (p + (blk.length - 1)) y h t (by omega) (hl.get hy) (hl.get hh) hjd (.inl (by unfold O.names; rw [hhg]; exact ht))
      rw [hanclisted _ this] at hlj
      simp at hlj
     ·rfl
    have hlops : lops P [h] (fun E3 H3 => ∃ (l : L) (E4 : Env), (∀ t, lk E1 t = lk E'' t → lk E4 t = lk E3 t ∨ h.dst = some t) ∧ (∀ t, h.dst = some t → lk E3 t = l) ∧ ((∀ i ∈ fl p, stable blk (putE E4 h.dst l) H3 i) ∧ C (putE E4 h.dst l) H3)) E'' H'' := by
     have simpleCase : (∀ (E : Env) (K : Env → L → Heap → Prop), lopE P h.op E H'' K = optK (lopO h.op E H'') fun r => K E r.1 r.2) → lops P [h] (fun E3 H3 => ∃ (l : L) (E4 : Env), (∀ t, lk E1 t = lk E'' t → lk E4 t = lk E3 t ∨ h.dst = some t) ∧ (∀ t, h.dst = some t → lk E3 t = l) ∧ ((∀ i ∈ fl p, stable blk (putE E4 h.dst l) H3 i) ∧ C (putE E4 h.dst l) H3)) E'' H'' := fun hsimpleE => by
      simp only [lops, hhg, lguard, hsimpleE] at hK
      obtain ⟨⟨l, H2⟩, e1, e2, e3⟩ := hK
      rw [lopO_congr htm] at e1
      simp only [lops, hhg, lguard, hsimpleE]
      refine ⟨_, e1, l, E1, fun t ht => ?_, fun t ht => ?_, e2, e3⟩
      ·by_cases hd : h.dst = some t
       ·exact .inr hd
       ·left; rw [lk_putE, if_neg hd, ht]
      ·rw [lk_putE, if_pos ht]
     rcases hkind with ⟨_, _, _, _, _, e⟩ | ⟨_, _, _, e⟩ | ⟨_, _, _, _, _, e⟩ | ⟨_, _, _, e⟩ | ⟨f', xs, e⟩
     ·exact simpleCase fun E K => by rw [e]; rfl
     ·exact simpleCase fun E K => by rw [e]; rfl
     ·exact simpleCase fun E K => by rw [e]; rfl
     ·exact simpleCase fun E K => by rw [e]; rfl
     ·have hargs : xs.map (arg E1) = xs.map (arg E'') := List.map_congr_left fun x hx => arg_congr fun t ht => htm t (by rw [e]; exact List.mem_flatMap.2 ⟨x, hx, ht⟩)
      simp only [lops, hhg, lguard, e, lopE, hargs] at hK ⊢
      rcases hK with hK | ⟨fz, hK⟩
      ·refine .inl (callAt_monoQ hK fun l H2 hk => ⟨l, E1, fun t ht => ?_, fun t ht => ?_, hk⟩)
       ·by_cases hd : h.dst = some t
        ·exact .inr hd
        ·left; rw [lk_putE, if_neg hd, ht]
       ·rw [lk_putE, if_pos ht]
      ·refine .inr ⟨fz, callAt_monoQ hK fun l H2 hk => ⟨l, frzE H'' fz E1, fun t ht => ?_, fun t ht => ?_, hk⟩⟩
       ·by_cases hd : h.dst = some t
        ·exact .inr hd
        ·left; rw [lk_putE, if_neg hd, lk_frzE, lk_frzE, ht]
       ·rw [lk_putE, if_pos ht]
    have hop := Array.getElem?_eq_getElem hlt
    have hcc := lkd.comp _ _ _ hop (hl.get hh)
    refine single_sound hcc hlops hA ?_ hop
    rintro E3 H3 η3 S3 w3 a3 ⟨l, E4, hE4, hE3, e2, e3⟩ hA3 hL3
    have hgs := set_getD (listed := listed) hin
    have hLa : Le η₀ S₀ w₀ η' S w := by
     rw [hη']; exact hL.widen fun b hb => Nat.le_trans hwb (hζ b hb)
    refine hP f p rfl p _ (putE E4 h.dst l) _ η3 S3 w3 a3 ⟨hl.ok, hl.eq, by simp [hl.size]⟩ ?_ (fun j hj => ?_) (fun j hj => ?_) (hm.dc.step lkd hi hin) (fun j hj hlj => ?_) hA3.conc hA3.size hA3.defers (fun t ht => ?_) e2 e3 (hLa.trans hL3)
    ·have := unl_step (N := ops.size) (i := p + (blk.length - 1)) (listed := listed) hin hlt hun
     omega
    ·rw [hgs]; split
     ·rfl
     ·exact hm.pre j hj
    ·rw [hgs, if_neg (by omega)]; exact hm.post j (by omega)
    ·rw [hgs] at hlj
     split at hlj
     ·simp at hlj
     ·exact nonfl j (by omega) hlj
    ·have := hA3.env t
     rw [lk_putE]
     by_cases hdt : h.dst = some t
     ·rw [if_pos hdt]; rw [hE3 t hdt] at this; exact this
     ·rw [if_neg hdt]
      have hsame : lk E1 t = lk E'' t := by
       rw [hE12, if_neg]
       intro hm'
       obtain ⟨j, hj, hlj, hjd⟩ := (hms t).1 hm'
       have hjl := fl_lt j hj
       exact ht j (by omega) (by rw [hgs, if_neg (by omega)]; exact hlj) hjd
      rcases hE4 t hsame with h4 | h4
      ·rw [h4]; exact this
      ·exact absurd h4 hdt
def heavyC (P : Program) (fl : List Nat) (blk : List O) (C : Env → Heap → Prop) (E : Env) (H : Heap) : Prop :=
 lblk P H blk.dropLast (fun E news => addNews news E H fun E1 H1 => lops P (blk.drop (blk.length - 1)) (fun E2 H2 => (∀ i ∈ fl, stable blk E2 H2 i) ∧ C E2 H2) E1 H1) E []
theorem start_heavy (lkd : Looked n ops ol anc P) {f : Nat} {fl : List Nat} {blk : List O} {bs : List (List O)} (hheavy : heavyP blk = true) (hpos : ∀ p listed, Lies ops ol anc p (blk :: bs) listed → fl = floatsOf anc p blk) (hfo : ∀ i ∈ fl, floatOK blk i = true)
  (hM : PreOK ds ro P n ops ol anc C Q η₀ S₀ w₀ f (fun _ => fl) blk bs) : StartOK ds ro P n ops ol anc (heavyC P fl blk C) Q η₀ S₀ w₀ f (blk :: bs) := by
 intro p listed E H η S w a hl h1 h2 h3 hd hA hL
 obtain ⟨hlen2, -⟩ := heavyP_len hheavy
 have hfl := hpos p listed hl
 obtain ⟨outs, E', hr, he, hpo, hk⟩ := lblk_runs (fun _ => rfl) hd
 refine hM p listed E H outs E' w.heap.size (fun _ => 0) η S w a hl hfo (fun i hi hn => ?_) (fun i hi => ?_) h3 ⟨h1, fun j hj => h2 j (by simp at hj; omega), ?_, hA.conc, hA.size, hA.defers, fun t => ?_, ⟨Nat.le_refl _, hA.conc.lt⟩, ?_, ?_⟩ hr he hpo (by simpa using hk) hL hL.size
 ·simp only at hn
  rw [hfl] at hn
  unfold floatsOf at hn
  rw [if_pos hheavy] at hn
  simp only [List.mem_filter, List.mem_range, hi, true_and, Bool.not_eq_true', Bool.not_eq_false] at hn
  exact List.contains_iff_mem.1 hn
 ·simp only at hi
  rw [hfl] at hi
  unfold floatsOf at hi
  rw [if_pos hheavy] at hi
  simp only [List.mem_filter, List.mem_range, Bool.not_eq_true'] at hi
  intro hm
  have := List.contains_iff_mem.2 hm
  rw [hi.2] at this; simp at this
 ·intro k hk' j hj
  have hkp : k < p := by
   rcases Nat.lt_or_ge k p with h | h
   ·exact h
   ·rw [h2 k h] at hk'; simp at hk'
  have : j < k := lkd.anclt k j hj
  exact h1 j (by omega)
 ·rw [valAt_stop (k := 0) (by omega) (fun i _ hi _ => h2 _ (by omega))]
  exact hA.env t
 ·intro i cs mk _ hi
  rw [h2 _ (by omega)] at hi; simp at hi
 ·intro i i' cs mk cs' mk' _ _ hi
  rw [h2 _ (by omega)] at hi; simp at hi
structure Good (ol : List O) (anc : List (List Nat)) (bs : List (List Nat × List O)) : Prop where
 ok : floatsOK bs = true
 le : (bs.map (·.2)).flatten.length ≤ ol.length
 at_ : withFloats anc (ol.length - (bs.map (·.2)).flatten.length) (bs.map (·.2)) = bs
theorem Good.tail {b : List Nat × List O} {bs : List (List Nat × List O)} (h : Good ol anc (b :: bs)) : Good ol anc bs := by
 obtain ⟨h1, h2, h3⟩ := h
 simp only [List.map_cons, List.flatten_cons, List.length_append] at h2 h3
 simp only [withFloats, List.cons.injEq] at h3
 refine ⟨?_, by omega, ?_⟩
 ·simp only [floatsOK, List.all_cons, Bool.and_eq_true] at h1 ⊢; exact h1.2
 ·have := h3.2
  rwa [show ol.length - (b.2.length + (bs.map (·.2)).flatten.length) + b.2.length = ol.length - (bs.map (·.2)).flatten.length by omega] at this
theorem Good.head {b : List Nat × List O} {bs : List (List Nat × List O)} (h : Good ol anc (b :: bs)) (hh : heavyP b.2 = true) : lastOK b.2 = true ∧ (∀ i ∈ b.1, floatOK b.2 i = true) ∧ ∀ p listed, Lies ops ol anc p (b.2 :: bs.map (·.2)) listed → b.1 = floatsOf anc p b.2 := by
 obtain ⟨h1, h2, h3⟩ := h
 simp only [floatsOK, List.all_cons, Bool.and_eq_true, Bool.or_eq_true, hh, Bool.not_true, Bool.false_eq_true, false_or] at h1
 refine ⟨h1.1.1, fun i hi => List.all_eq_true.1 h1.1.2 i hi, fun p listed hl => ?_⟩
 have hlen := congrArg List.length hl.eq
 have hb := heavyP_len hh
 simp only [List.length_drop, List.flatten_cons, List.length_append] at hlen
 simp only [List.map_cons, List.flatten_cons, List.length_append] at h2 h3
 simp only [withFloats] at h3
 have hp : ol.length - (b.2.length + (bs.map (·.2)).flatten.length) = p := by omega
 rw [hp] at h3
 have := congrArg List.head? h3
 simp only [List.head?_cons, Option.some.injEq] at this
 exact (congrArg Prod.fst this).symm
theorem ldrawF_heavy {fl : List Nat} {blk : List O} {bs : List (List Nat × List O)} (h : heavyP blk = true) {E : Env} {H : Heap} : ldrawF P ((fl, blk) :: bs) K E H = heavyC P fl blk (ldrawF P bs K) E H := by
 simp only [ldrawF, if_pos h, heavyC]
theorem ldrawF_light {fl : List Nat} {blk : List O} {bs : List (List Nat × List O)} (h : ¬ heavyP blk = true) {E : Env} {H : Heap} : ldrawF P ((fl, blk) :: bs) K E H = ldraw P [blk] (ldrawF P bs K) E H := by
 simp only [ldrawF, if_neg h]
theorem drawF_all (hQ : ∀ E' H' η' S' w' a', K E' H' → At n ds η' S' w' a' E' H' → Le η₀ S₀ w₀ η' S' w' → Q .normal a' w') (lkd : Looked n ops ol anc P) : ∀ f, (∀ bs, Good ol anc bs → StartOK ds ro P n ops ol anc (ldrawF P bs K) Q η₀ S₀ w₀ f (bs.map (·.2))) ∧
  (∀ blk bs, Good ol anc bs → MidOK ds ro P n ops ol anc (ldrawF P bs K) Q η₀ S₀ w₀ f blk (bs.map (·.2))) ∧
  (∀ (b : List Nat × List O) bs, Good ol anc (b :: bs) → heavyP b.2 = true → PreOK ds ro P n ops ol anc (ldrawF P bs K) Q η₀ S₀ w₀ f (fun _ => b.1) b.2 (bs.map (·.2)) ∧ PostOK ds ro P n ops ol anc (ldrawF P bs K) Q η₀ S₀ w₀ f b.1 b.2 (bs.map (·.2))) := by
 have nil : ∀ f, StartOK ds ro P n ops ol anc (ldrawF P [] K) Q η₀ S₀ w₀ f [] := fun f p listed E H η S w a h1 h2 h3 h4 h5 h6 h7 => start_nil hQ lkd f p listed E H η S w a h1 h2 h3 h4 h5 h6 h7
 intro f
 induction f with
 | zero =>
  have hs : ∀ bs, Good ol anc bs → StartOK ds ro P n ops ol anc (ldrawF P bs K) Q η₀ S₀ w₀ 0 (bs.map (·.2)) := fun bs => by
   induction bs with
   | nil => exact fun _ => nil 0
   | cons b bs ih =>
    intro hg
    obtain ⟨fl, blk⟩ := b
    by_cases hh : heavyP blk = true
    ·obtain ⟨g1, g2, g3⟩ := hg.head (ops := ops) hh
     have : StartOK ds ro P n ops ol anc (heavyC P fl blk (ldrawF P bs K)) Q η₀ S₀ w₀ 0 (blk :: bs.map (·.2)) := start_heavy lkd hh g3 g2 (pre_step (f := 0) (C := ldrawF P bs K) lkd hh g1 (fun f' p h => by omega) (fun f' h => by omega))
     exact fun p listed E H η S w a h1 h2 h3 h4 h5 => this p listed E H η S w a h1 h2 h3 h4 (by rw [← ldrawF_heavy hh]; exact h5)
    ·have := start_cons lkd (mid_step (blk := blk) lkd (ih hg.tail) (fun f' h => by omega)) (fun f' h => by omega)
     exact fun p listed E H η S w a h1 h2 h3 h4 h5 => this p listed E H η S w a h1 h2 h3 h4 (by rw [← ldrawF_light hh]; exact h5)
  refine ⟨hs, fun blk bs hg => mid_step lkd (hs bs hg) (fun f' h => by omega), fun b bs hg hh => ?_⟩
  obtain ⟨g1, g2, g3⟩ := hg.head (ops := ops) hh
  exact ⟨pre_step lkd hh g1 (fun f' p h => by omega) (fun f' h => by omega), post_step lkd g2 (hs bs hg.tail) (fun f' h => by omega)⟩
 | succ f ih =>
  obtain ⟨i1, i2, i3⟩ := ih
  have hs : ∀ bs, Good ol anc bs → StartOK ds ro P n ops ol anc (ldrawF P bs K) Q η₀ S₀ w₀ (f + 1) (bs.map (·.2)) := fun bs => by
   induction bs with
   | nil => exact fun _ => nil _
   | cons b bs ih' =>
    intro hg
    obtain ⟨fl, blk⟩ := b
    by_cases hh : heavyP blk = true
    ·obtain ⟨g1, g2, g3⟩ := hg.head (ops := ops) hh
     have : StartOK ds ro P n ops ol anc (heavyC P fl blk (ldrawF P bs K)) Q η₀ S₀ w₀ (f + 1) (blk :: bs.map (·.2)) := start_heavy lkd hh g3 g2 (pre_step (f := f + 1) (C := ldrawF P bs K) lkd hh g1 (fun f' p h => by cases h; exact (i3 _ _ hg hh).2) (fun f' h => by cases h; exact (i3 _ _ hg hh).1))
     exact fun p listed E H η S w a h1 h2 h3 h4 h5 => this p listed E H η S w a h1 h2 h3 h4 (by rw [← ldrawF_heavy hh]; exact h5)
    ·have := start_cons lkd (mid_step (blk := blk) lkd (ih' hg.tail) (fun f' h => by cases h; exact i2 _ _ hg.tail)) (fun f' h => by cases h; exact i1 _ hg.tail)
     exact fun p listed E H η S w a h1 h2 h3 h4 h5 => this p listed E H η S w a h1 h2 h3 h4 (by rw [← ldrawF_light hh]; exact h5)
  refine ⟨hs, fun blk bs hg => mid_step lkd (hs bs hg) (fun f' h => by cases h; exact i2 _ _ hg), fun b bs hg hh => ?_⟩
  obtain ⟨g1, g2, g3⟩ := hg.head (ops := ops) hh
  exact ⟨pre_step lkd hh g1 (fun f' p h => by cases h; exact (i3 _ _ hg hh).2) (fun f' h => by cases h; exact (i3 _ _ hg hh).1), post_step lkd g2 (hs bs hg.tail) (fun f' h => by cases h; exact (i3 _ _ hg hh).2)⟩
theorem withFloats_map {anc : List (List Nat)} : ∀ {bs : List (List O)} {p : Nat}, (withFloats anc p bs).map (·.2) = bs
 | [], _ => rfl
 | b :: bs, p => by simp [withFloats, withFloats_map (bs := bs)]
theorem drawF_sound {fs : List (List Nat × List O)} (hc : compDrawF P n ops = some fs) {E : Env} {H : Heap} {η : List Nat} {S : Nat → Prop} {w : World} {a : Act} (hl : ldrawF P fs K E H) (hA : At n ds η S w a E H) {id : Nat}
  (hQ : ∀ E' H' η' S' w' a', K E' H' → At n ds η' S' w' a' E' H' → Le η S w η' S' w' → Q .normal a' w') : (Code.region id ops true).wpIn (FW ro) 0 P Q a w := by
 simp only [compDrawF, Option.bind_eq_some_iff] at hc
 obtain ⟨bs, hbs, hc⟩ := hc
 split at hc
 rotate_left
 ·simp at hc
 rename_i hfo
 simp only [Option.some.injEq] at hc
 subst hc
 obtain ⟨ol, lkd, m1, m5, hflat⟩ := draw_looked hbs
 refine wpIn_region_any m1 ?_
 have hL : Le η S w η S { w with drawn := w.drawn + 1 } := Le.heap rfl rfl rfl rfl
 have hg : Good ol (ancs ops.toList []) (withFloats (ancs ops.toList []) 0 bs) := ⟨hfo, by rw [withFloats_map, hflat]; omega, by rw [withFloats_map, hflat, Nat.sub_self]⟩
 have hall := (drawF_all (ro := ro) (K := K) (Q := Q) (η₀ := η) (S₀ := S) (w₀ := w) hQ lkd ops.size).1 _ hg
 rw [withFloats_map] at hall
 refine hall 0 _ E H η S _ a ⟨m5, by rw [hflat]; simp, by simp⟩ (fun j hj => by omega) (fun j _ => ?_) ?_ hl ⟨hA.conc.heap rfl, fun t => (hA.env t).le hL, hA.size, hA.defers⟩ hL
 ·by_cases h : j < ops.size
  ·simp [Array.getD_eq_getD_getElem?, h]
  ·simp [Array.getD_eq_getD_getElem?, h]
 ·unfold unl
  exact Nat.le_trans List.countP_le_length (by simp)
end
end Lg


/- Own rows that are written no more, at a loop's head. -/
namespace Lg
open Go
section
variable {ds : List Deferred} {ro : Option Nat} {P : Program} {η : List Nat} {S : Nat → Prop} {w : World} {H : Heap} {a : Act} {E : Env}
theorem Marks.sub {lo : Nat} {η' : List Nat} {S' : Nat → Prop} (h : Marks lo ds η S w) (h1 : ∀ b ∈ η', b ∈ η) (h2 : ∀ b, S' b → S b ∨ b ∈ η) : Marks lo ds η' S' w := by
 obtain ⟨Ds, k1, k2, k3⟩ := h
 refine ⟨Ds, k1, k2, fun D hD => ?_⟩
 obtain ⟨e0, e1, e2, e3⟩ := k3 D hD
 exact ⟨e0, e1, fun hm => e2 (h1 D hm), fun hs => (h2 D hs).elim e3 e2⟩
theorem At.weakZ {n : Nat} {η₀ : List Nat} {S₀ : Nat → Prop} {w₀ : World} {E' : Env} {H' : Heap} (h : At n ds η S w a E H) (hL : Le η₀ S₀ w₀ η S w) (hw : Lg.weakZ η₀.length E H E' H') :
  ∃ η' S', At n ds η' S' w a E' H' ∧ Le η₀ S₀ w₀ η' S' w ∧ (∀ b ∈ η', b ∈ η) ∧ ∀ b, S' b → S b ∨ b ∈ η := by
 rcases hw with hw | ⟨fz, hw⟩ | ⟨fz, fz', hw⟩
 ·obtain ⟨η', h1, h2, h3⟩ := h.weak hL hw
  exact ⟨η', S, h1, h2, h3, fun _ h => .inl h⟩
 ·obtain ⟨S', h1, h2, h5⟩ := h.frz hL fz
  obtain ⟨η', h3, h4, h6⟩ := h1.weak h2 hw
  exact ⟨η', S', h3, h4, h6, h5⟩
 ·obtain ⟨S', h1, h2, h7⟩ := h.frz hL fz
  obtain ⟨S'', h5, h6, h8⟩ := h1.frz h2 fz'
  obtain ⟨η', h3, h4, h9⟩ := h5.weak h6 hw
  exact ⟨η', S'', h3, h4, h9, fun b hb => (h8 b hb).elim (h7 b) .inr⟩
end
end Lg


/- Regions whose order is open: what reads alone comes first; the others in all orders. -/
namespace Lg
open Go
section
variable {ds : List Deferred} {ro : Option Nat} {P : Program}
theorem lop_congr {op : I} {E E' : Env} {H : Heap} {K : L → Heap → Prop} (h : ∀ t ∈ op.tmps, lk E t = lk E' t) (hl : lop P op E H K) : lop P op E' H K := by
 have simple : optK (lopO op E H) (fun r => K r.1 r.2) → optK (lopO op E' H) (fun r => K r.1 r.2) := fun hl => by rw [← lopO_congr h]; exact hl
 cases op with
 | call f xs =>
  have hl : callAt P f (xs.map (arg E)) H K := hl
  show callAt P f (xs.map (arg E')) H K
  rwa [← args_congr h]
 | calld x xs =>
  have hl : callD P (arg E x) (xs.map (arg E)) H K := hl
  show callD P (arg E' x) (xs.map (arg E')) H K
  rwa [← args_congr (E := E) (E' := E') (xs := xs) (fun t ht => h t (by simp only [I.tmps, List.mem_append]; exact .inr ht)), ← arg_congr (E := E) (E' := E') (x := x) (fun t ht => h t (by simp only [I.tmps, List.mem_append]; exact .inl ht))]
 | isnil neg x =>
  have e : arg E x = arg E' x := arg_congr h
  simp only [lop] at hl ⊢
  rw [← e]; exact hl
 | nxt x =>
  have e : arg E x = arg E' x := arg_congr h
  simp only [lop] at hl ⊢
  rw [← e]; exact hl
 | _ => exact simple hl
theorem masked_sound {n : Nat} {ops : Array Oper} {o : Oper} {oo : O} {K : Env → Heap → Prop} {Q : Exit → Act → World → Prop} {next : Act → World → Prop} {E Em : Env} {H : Heap} {η : List Nat} {S : Nat → Prop} {w : World} {a : Act} (hc : compO P n ops o = some oo) (hl : lops1 P oo K E H)
  (hm : ∀ t ∈ oo.names, lk E t = lk Em t) (hC : Conc η S w H) (hE : REnv η S w a.tmps Em)
  (hn : ∀ v l E1 H' η' S' w', (∀ t, lk E1 t = lk E t) → K (putE E1 oo.dst l) H' → Rel S' w' η' v l → Conc η' S' w' H' → Le η S w η' S' w' → next (a.put o.dst v) w') {i : Nat} (hi : ops[i]? = some o) : wpOpIn (FW ro) 0 P ops Q i next a w := by
 simp only [compO, Option.bind_eq_some_iff] at hc
 obtain ⟨ii, hii, ho⟩ := hc
 split at ho
 rotate_left
 ·simp at ho
 have hop : oo.op = ii ∧ oo.dst = o.dst := by
  cases hg : o.guard with
  | none => simp only [hg, Option.some.injEq] at ho; subst ho; exact ⟨rfl, rfl⟩
  | some jb => obtain ⟨j, b⟩ := jb; simp only [hg, Option.map_eq_some_iff] at ho; obtain ⟨s, -, rfl⟩ := ho; exact ⟨rfl, rfl⟩
 have hop1 := hop.1
 have hop2 := hop.2
 have runIt : ∀ {E1 : Env}, (∀ t, lk E1 t = lk E t) → (lop P oo.op E1 H fun l H' => K (putE E1 oo.dst l) H') → o.wpIn (FW ro) 0 P a w next Q := fun {E1} he hl' => by
  rw [hop1] at hl'
  have hl2 : lop P ii Em H fun l H' => K (putE E1 oo.dst l) H' := lop_congr (fun t ht => by
   rw [he t]
   exact hm t (by unfold O.names; rw [hop1]; split <;> simp [ht])) hl'
  refine lop_sound hii hl2 hC hE ?_
  intro v l' H' η' S' w' hK hr hC' hL
  exact hn v l' E1 H' η' S' w' he hK hr hC' hL
 have passIt : ∀ {E1 : Env}, (∀ t, lk E1 t = lk E t) → K (putE E1 oo.dst .no) H → next (a.put o.dst undef) w := fun {E1} he hl' =>
  hn undef .no E1 H η S w he hl' .no hC (Le.refl _ _ _)
 unfold wpOpIn
 rw [hi]
 simp only
 cases hg : o.guard with
 | none =>
  simp only [hg, Option.some.injEq] at ho
  have hgo : oo.guard = none := by rw [← ho]
  simp only [lops1, lguard, hgo] at hl
  have hw : Region.wanted o (yielded ops a.tmps) = true := by simp [Region.wanted, hg]
  rw [if_pos hw]
  exact (runIt (fun _ => rfl) hl)
 | some jb =>
  obtain ⟨j, b⟩ := jb
  simp only [hg, Option.map_eq_some_iff] at ho
  obtain ⟨s, hs, ho⟩ := ho
  have hgo : oo.guard = some (s, b) := by rw [← ho]
  simp only [lops1, lguard, hgo] at hl
  have hwant : ∀ x : Value, a.tmps.getD s undef = x → Region.wanted o (yielded ops a.tmps) = (match x with | .bool y => y == b | _ => false) := fun x hx => by
   simp only [Region.wanted, hg, yielded, hs, Option.bind_some]
   by_cases hlt : s < a.tmps.size
   ·rw [agetD_of_lt _ _ hlt] at hx
    simp only [Array.getElem?_eq_getElem hlt, hx]
    cases x <;> simp
   ·rw [agetD_of_ge _ _ (by omega)] at hx
    subst hx
    simp [Array.getElem?_eq_none (Nat.le_of_not_lt hlt), undef]
  have hE0 := hE s
  rw [← hm s (by unfold O.names; rw [hgo]; simp)] at hE0
  split at hl
  ·rename_i x e
   rw [e] at hE0
   have hv := hE0.inv_v
   rw [hwant _ hv]
   have again : ∀ c, x = c → ∀ t, lk ((s, .v (.bool c)) :: E) t = lk E t := fun c hx t => by
    subst hx
    simp only [lk]
    split
    ·rename_i ht; subst ht; exact e.symm
    ·rfl
   by_cases hxb : x = b
   ·simp only [hxb, beq_self_eq_true, if_true]
    exact (runIt (again b hxb) (hl.1 hxb))
   ·have hxb' : x = !b := by cases x <;> cases b <;> simp_all
    simp only [beq_eq_false_iff_ne.2 hxb, Bool.false_eq_true, if_false]
    exact ⟨fun _ _ => trivial, passIt (again (!b) hxb') (hl.2 hxb')⟩
  ·rename_i e
   rw [e] at hE0
   have hv := hE0.inv_no
   rw [hwant _ hv]
   simp only [undef, Bool.false_eq_true, if_false]
   exact ⟨fun _ _ => trivial, passIt (fun _ => rfl) hl⟩
  ·exact hl.elim
structure Pures (ol : List O) (pu : List Nat) : Prop where
 at_ : ∀ p ∈ pu, ∃ o d, ol[p]? = some o ∧ isReadC o.op = true ∧ o.guard = none ∧ o.dst = some d
 one : ∀ p ∈ pu, ∀ (j : Nat) o x d, ol[p]? = some o → ol[j]? = some x → o.dst = some d → j ≠ p → x.dst ≠ some d
 from_ : ∀ p ∈ pu, ∀ (j : Nat) o x d, ol[p]? = some o → ol[j]? = some x → x.dst = some d → d ∈ o.names → j ∈ pu ∧ j < p
 ahead : ∀ p ∈ pu, ∀ (j : Nat) o x d, ol[p]? = some o → ol[j]? = some x → o.dst = some d → j ≤ p → d ∉ x.names
theorem pureOK_spec {ol : List O} {pu : List Nat} (h : pureOK ol pu = true) : Pures ol pu := by
 have key : ∀ p ∈ pu, ∃ o d, ol[p]? = some o ∧ isReadC o.op = true ∧ o.guard = none ∧ o.dst = some d ∧ ∀ (j : Nat) x, ol[j]? = some x →
   (j = p ∨ x.dst ≠ some d) ∧ (∀ e, x.dst = some e → e ∈ o.names → j ∈ pu ∧ j < p) ∧ (p < j ∨ d ∉ x.names) := fun p hp => by
  have h1 := List.all_eq_true.1 h p hp
  split at h1
  rotate_left
  ·simp at h1
  rename_i o ho
  simp only [Bool.and_eq_true] at h1
  obtain ⟨⟨⟨h2, h3⟩, h4⟩, h5⟩ := h1
  obtain ⟨d, hd⟩ := Option.isSome_iff_exists.1 h4
  refine ⟨o, d, ho, h2, by simpa using h3, hd, fun j x hx => ?_⟩
  have hj : j < ol.length := (List.getElem?_eq_some_iff.1 hx).1
  have h6 := List.all_eq_true.1 h5 j (List.mem_range.2 hj)
  rw [hx] at h6
  simp only [Bool.and_eq_true, Bool.or_eq_true, beq_iff_eq, bne_iff_ne, ne_eq, decide_eq_true_eq, hd] at h6
  obtain ⟨a1, a2, a3⟩ := h6
  refine ⟨a1, fun e he hn => ?_, ?_⟩
  ·rw [he] at a2
   simp only [Bool.or_eq_true, Bool.not_eq_true', Bool.and_eq_true, decide_eq_true_eq] at a2
   rcases a2 with a2 | a2
   ·have := List.contains_iff_mem.2 hn; rw [this] at a2; simp at a2
   ·exact ⟨List.contains_iff_mem.1 a2.1, a2.2⟩
  ·rcases a3 with a3 | a3
   ·exact .inl a3
   ·refine .inr fun hn => ?_
    have := List.contains_iff_mem.2 hn; rw [this] at a3; simp at a3
 refine ⟨fun p hp => ?_, fun p hp j o x d h1 h2 h3 h4 => ?_, fun p hp j o x d h1 h2 h3 h4 => ?_, fun p hp j o x d h1 h2 h3 h4 => ?_⟩
 ·obtain ⟨o, d, k1, k2, k3, k4, -⟩ := key p hp
  exact ⟨o, d, k1, k2, k3, k4⟩
 all_goals
  obtain ⟨o', d', k1, k2, k3, k4, k5⟩ := key p hp
  rw [h1] at k1; cases k1
 ·rw [h3] at k4; cases k4
  exact (k5 j x h2).1.resolve_left h4
 ·exact (k5 j x h2).2.1 d h3 h4
 ·rw [h3] at k4; cases k4
  exact (k5 j x h2).2.2.resolve_left (by omega)
theorem lot_alt {ol : List O} {anc : List (List Nat)} {f : Nat} {rem : List Nat} {st K : Env → Heap → Prop} {E : Env} {H : Heap} {i : Nat} {o : O} (hr : (anc.getD i []).all (fun j => !rem.contains j) = true) (ho : ol[i]? = some o) :
  ∀ {l : List Nat}, i ∈ l → lot P st (l.foldr (fun i more => if (anc.getD i []).all fun j => !rem.contains j then (match ol[i]? with
  | some o => .alt o (mkTree ol anc f (rem.erase i)) more
  | none => more) else more) .none) K E H → lops1 P o (fun E' H' => st E' H' ∧ lot P st (mkTree ol anc f (rem.erase i)) K E' H') E H
 | [], hi, _ => by simp at hi
 | j :: l, hi, h => by
  simp only [List.foldr_cons] at h
  by_cases hij : i = j
  ·subst hij
   rw [if_pos hr, ho] at h
   exact h.1
  ·have hi : i ∈ l := by rcases List.mem_cons.1 hi with h | h; exact absurd h hij; exact h
   split at h
   ·split at h
    ·exact lot_alt hr ho hi h.2
    ·exact lot_alt hr ho hi h
   ·exact lot_alt hr ho hi h
def slotsOf (ol : List O) (pu : List Nat) (listed : Array Bool) : List Nat := (pu.filter fun p => !listed.getD p false).filterMap fun p => (ol[p]?).bind (·.dst)
theorem slotsOf_mem {ol : List O} {pu : List Nat} {listed : Array Bool} {t : Nat} : t ∈ slotsOf ol pu listed ↔ ∃ p ∈ pu, listed.getD p false = false ∧ ∃ o, ol[p]? = some o ∧ o.dst = some t := by
 unfold slotsOf
 simp only [List.mem_filterMap, List.mem_filter, Bool.not_eq_true', Option.bind_eq_some_iff]
 constructor
 ·rintro ⟨p, ⟨h1, h2⟩, o, h3, h4⟩; exact ⟨p, h1, h2, o, h3, h4⟩
 ·rintro ⟨p, h1, h2, o, h3, h4⟩; exact ⟨p, ⟨h1, h2⟩, o, h3, h4⟩
theorem drawN_all {n : Nat} {ops : Array Oper} {ol : List O} {anc : List (List Nat)} {pu : List Nat} {K : Env → Heap → Prop} {Q : Exit → Act → World → Prop} {η₀ : List Nat} {S₀ : Nat → Prop} {w₀ : World}
  (hQ : ∀ E' H' η' S' w' a', K E' H' → At n ds η' S' w' a' E' H' → Le η₀ S₀ w₀ η' S' w' → Q .normal a' w') (lkd : Looked n ops ol anc P) (hp : Pures ol pu) :
  ∀ (fuel : Nat) (listed : Array Bool) (rem : List Nat) (E : Env) (H : Heap) (η : List Nat) (S : Nat → Prop) (w : World) (a : Act),
   DC anc listed → listed.size = ops.size → unl ops.size listed ≤ fuel → rem.Nodup → (∀ i, i ∈ rem ↔ i < ops.size ∧ i ∉ pu ∧ listed.getD i false = false) →
   (∀ p ∈ pu, ∀ o, ol[p]? = some o → stableO o E H) →
   lot P (fun E2 H2 => ∀ o ∈ pu.filterMap (ol[·]?), stableO o E2 H2) (mkTree ol anc rem.length rem) K E H →
   Conc η S w H → (∀ t, t ∉ slotsOf ol pu listed → Rel S w η (a.tmps.getD t undef) (lk E t)) → a.tmps.size = n → a.defers = ds → Le η₀ S₀ w₀ η S w →
   wpAnyIn (FW ro) 0 P .any ops Q fuel listed a w := by
 intro fuel
 induction fuel with
 | zero =>
  intro listed rem E H η S w a hdc hsz hu hnd hrem hst hlot hC hR hta htd hL
  have hall : ∀ i, i < ops.size → listed.getD i false = true := fun i hi => by
   cases h : listed.getD i false
   ·have := unl_pos (N := ops.size) hi h; omega
   ·rfl
  have hrn : rem = [] := List.eq_nil_iff_forall_not_mem.2 fun i hi => by
   obtain ⟨h1, -, h3⟩ := (hrem i).1 hi
   rw [hall i h1] at h3; simp at h3
  have hsl : ∀ t, t ∉ slotsOf ol pu listed := fun t ht => by
   obtain ⟨p, h1, h2, o, h3, -⟩ := slotsOf_mem.1 ht
   have : p < ol.length := (List.getElem?_eq_some_iff.1 h3).1
   rw [hall p (by rw [← lkd.len]; exact this)] at h2; simp at h2
  subst hrn
  refine ⟨List.eq_nil_iff_forall_not_mem.2 fun i hi => ?_, hQ _ _ _ _ _ _ hlot ⟨hC, fun t => hR t (hsl t), hta, htd⟩ hL⟩
  obtain ⟨h1, o, h2, -⟩ := ready_iff.1 hi
  have hi' : i < ops.size := (Array.getElem?_eq_some_iff.1 h2).1
  have := hall i hi'
  rw [agetD_of_lt _ _ (by omega)] at h1 this
  rw [h1] at this; simp at this
 | succ fuel ih =>
  intro listed rem E H η S w a hdc hsz hu hnd hrem hst hlot hC hR hta htd hL
  refine ⟨fun hre => ?_, fun i hir => ?_⟩
  ·-- nothing is ready: all has run
   have hall : ∀ i, i < ops.size → listed.getD i false = true := fun i hi => by
    cases h : listed.getD i false with
    | true => rfl
    | false =>
     exfalso
     obtain ⟨k, hk, hku, hkl⟩ := exists_first (p := fun i => i < ops.size ∧ listed.getD i false = false) ⟨hi, h⟩
     have : k ∈ Region.ready .any ops listed := least_ready lkd hsz hku.1 hku.2 fun j hj => by
      cases hj2 : listed.getD j false with
      | true => rfl
      | false => exact absurd ⟨by omega, hj2⟩ (hkl j hj)
     rw [hre] at this; simp at this
   have hrn : rem = [] := List.eq_nil_iff_forall_not_mem.2 fun i hi => by
    obtain ⟨h1, -, h3⟩ := (hrem i).1 hi
    rw [hall i h1] at h3; simp at h3
   have hsl : ∀ t, t ∉ slotsOf ol pu listed := fun t ht => by
    obtain ⟨p, h1, h2, o, h3, -⟩ := slotsOf_mem.1 ht
    have : p < ol.length := (List.getElem?_eq_some_iff.1 h3).1
    rw [hall p (by rw [← lkd.len]; exact this)] at h2; simp at h2
   subst hrn
   exact hQ _ _ _ _ _ _ hlot ⟨hC, fun t => hR t (hsl t), hta, htd⟩ hL
  ·obtain ⟨hi1, o, hop, hedge⟩ := ready_iff.1 hir
   have hi : i < ops.size := (Array.getElem?_eq_some_iff.1 hop).1
   have hil : i < listed.size := by omega
   have hif : listed.getD i false = false := by rw [agetD_of_lt _ _ hil] at hi1 ⊢; exact hi1
   have hanc := ready_anc lkd hdc hir
   obtain ⟨oo, hoo⟩ : ∃ oo, ol[i]? = some oo := ⟨_, List.getElem?_eq_getElem (by rw [lkd.len]; exact hi)⟩
   have hc := lkd.comp i o oo hop hoo
   have hdst : oo.dst = o.dst ∧ ∀ t, oo.dst = some t → t < n := by
    simp only [compO, Option.bind_eq_some_iff] at hc
    obtain ⟨ii, -, hc⟩ := hc
    split at hc
    rotate_left
    ·simp at hc
    rename_i hd
    have : oo.dst = o.dst := by
     cases hg : o.guard with
     | none => simp only [hg, Option.some.injEq] at hc; subst hc; rfl
     | some jb => obtain ⟨j, b⟩ := jb; simp only [hg, Option.map_eq_some_iff] at hc; obtain ⟨s, -, rfl⟩ := hc; rfl
    exact ⟨this, fun t ht => by rw [this] at ht; rw [ht] at hd; simpa [dstOk] using hd⟩
   have hnames : ∀ t ∈ oo.names, t ∉ slotsOf ol pu listed := fun t ht hs => by
    obtain ⟨q, q1, q2, x, q3, q4⟩ := slotsOf_mem.1 hs
    by_cases hqi : q < i
    ·have := hanc q (lkd.t1 q i x oo t hqi q3 hoo q4 (.inl ht))
     rw [this] at q2; simp at q2
    ·exact hp.ahead q q1 i x oo t q3 hoo q4 (by omega) ht
   have hmask : ∀ t ∈ oo.names, lk E t = lk ((slotsOf ol pu listed).map (fun d => (d, L.any)) ++ E) t := fun t ht => by rw [lk_mask, if_neg (hnames t ht)]
   have hRE : REnv η S w a.tmps ((slotsOf ol pu listed).map (fun d => (d, L.any)) ++ E) := fun t => by
    rw [lk_mask]
    split
    ·exact .any _
    ·rename_i h; exact hR t h
   have hput : ∀ (v : Value) (t : Nat), (a.put o.dst v).tmps.getD t undef = if oo.dst = some t then v else a.tmps.getD t undef := fun v t => by
    rw [hdst.1]
    cases hd : o.dst with
    | none => simp [Act.put]
    | some d =>
     have hdn : d < a.tmps.size := by rw [hta]; exact hdst.2 d (by rw [hdst.1]; exact hd)
     simp only [Act.put, Option.some.injEq]
     by_cases e : d = t
     ·subst e; simp [Array.getD_eq_getD_getElem?, hdn]
     ·simp [Array.getD_eq_getD_getElem?, e]
   have hput2 : ∀ v, (a.put o.dst v).tmps.size = n ∧ (a.put o.dst v).defers = ds := fun v => by
    cases o.dst <;> simp [Act.put, hta, htd]
   have hunl : unl ops.size (listed.setIfInBounds i true) ≤ fuel := by have := unl_step hil hi hif; omega
   have hdc' := hdc.step lkd hir hil
   by_cases hpi : i ∈ pu
   ·-- a read
    obtain ⟨oo', d, k1, k2, k3, k4⟩ := hp.at_ i hpi
    rw [hoo] at k1; cases k1
    have hs := hst i hpi oo hoo
    unfold stableO at hs
    rw [k4] at hs
    simp only at hs
    have hl1 : lops1 P oo (fun E' H' => lk E' d = lk E d ∧ H' = H) E H := by
     simp only [lops1, lguard, k3, k4]
     have e0 : lk (putE E (some d) (lk E d)) d = lk E d := by simp [putE, lk]
     cases hopp : oo.op <;> rw [hopp] at hs k2 <;> first | (simp [isReadC] at k2; done) | exact ⟨_, hs, e0, rfl⟩
    refine masked_sound hc hl1 hmask hC hRE ?_ hop
    intro v l E1 H' η' S' w' he hK hr hC' hL'
    obtain ⟨hK1, rfl⟩ := hK
    have hl : l = lk E d := by rw [← hK1, k4]; simp [putE, lk]
    subst hl
    refine ih _ rem E H' η' S' w' (a.put o.dst v) hdc' (by simp [hsz]) hunl hnd (fun j => ?_) hst hlot hC' (fun t ht => ?_) (hput2 v).1 (hput2 v).2 (hL.trans hL')
    ·rw [hrem j, set_getD hil]
     by_cases hji : j = i
     ·subst hji; simp [hpi]
     ·simp [hji]
    ·rw [hput]
     by_cases e : oo.dst = some t
     ·rw [if_pos e]
      rw [k4] at e; cases e
      exact hr
     ·rw [if_neg e]
      refine (hR t fun hs' => ht ?_).le hL'
      obtain ⟨q, q1, q2, x, q3, q4⟩ := slotsOf_mem.1 hs'
      refine slotsOf_mem.2 ⟨q, q1, ?_, x, q3, q4⟩
      rw [set_getD hil]
      by_cases hqi : q = i
      ·subst hqi; rw [hoo] at q3; cases q3; exact absurd q4 e
      ·rw [if_neg hqi]; exact q2
   ·-- one of the others
    have hir2 : i ∈ rem := (hrem i).2 ⟨hi, hpi, hif⟩
    obtain ⟨f, hf⟩ : ∃ f, rem.length = f + 1 := ⟨rem.length - 1, by have := List.length_pos_of_mem hir2; omega⟩
    rw [hf] at hlot
    have hl1 := lot_alt (P := P) (ol := ol) (anc := anc) (f := f) (rem := rem) (i := i) (o := oo) (List.all_eq_true.2 fun j hj => by
     have := hanc j hj
     cases hcj : rem.contains j
     ·rfl
     ·have := ((hrem j).1 (List.contains_iff_mem.1 hcj)).2.2
      simp_all) hoo hir2 hlot
    refine masked_sound hc hl1 hmask hC hRE ?_ hop
    intro v l E1 H' η' S' w' he hK hr hC' hL'
    obtain ⟨hK1, hK2⟩ := hK
    have hlen : f = (rem.erase i).length := by rw [List.length_erase_of_mem hir2]; omega
    rw [hlen] at hK2
    refine ih _ (rem.erase i) (putE E1 oo.dst l) H' η' S' w' (a.put o.dst v) hdc' (by simp [hsz]) hunl (hnd.erase i) (fun j => ?_) (fun p hpp x hx => hK1 x (List.mem_filterMap.2 ⟨p, hpp, hx⟩)) hK2 hC' (fun t ht => ?_) (hput2 v).1 (hput2 v).2 (hL.trans hL')
    ·rw [hnd.mem_erase_iff, hrem j, set_getD hil]
     by_cases hji : j = i
     ·subst hji; simp
     ·simp [hji]
    ·rw [hput, lk_putE]
     by_cases e : oo.dst = some t
     ·rw [if_pos e, if_pos e]; exact hr
     ·rw [if_neg e, if_neg e, he]
      refine (hR t fun hs' => ht ?_).le hL'
      obtain ⟨q, q1, q2, x, q3, q4⟩ := slotsOf_mem.1 hs'
      refine slotsOf_mem.2 ⟨q, q1, ?_, x, q3, q4⟩
      rw [set_getD hil, if_neg (fun e : q = i => hpi (e ▸ q1))]; exact q2
theorem lops_reads {K : Env → Heap → Prop} : ∀ {l : List O} {E : Env} {H : Heap}, (∀ o ∈ l, o.guard = none ∧ isReadC o.op = true) → lops P l K E H →
  ∃ E' H', K E' H' ∧ ∀ t, (∀ o ∈ l, o.dst ≠ some t) → lk E' t = lk E t
 | [], E, H, _, h => ⟨E, H, h, fun _ _ => rfl⟩
 | o :: l, E, H, hr, h => by
  obtain ⟨hg, hrd⟩ := hr o List.mem_cons_self
  simp only [lops, lguard, hg] at h
  have key : ∃ x H1, lops P l K (putE E o.dst x) H1 := by
   cases hopp : o.op <;> rw [hopp] at h hrd <;> first | (simp [isReadC] at hrd; done) | exact ⟨_, _, h.choose_spec.2⟩
  obtain ⟨x, H1, h1⟩ := key
  obtain ⟨E', H', k1, k2⟩ := lops_reads (fun o ho => hr o (List.mem_cons_of_mem _ ho)) h1
  refine ⟨E', H', k1, fun t ht => ?_⟩
  rw [k2 t fun o ho => ht o (List.mem_cons_of_mem _ ho), lk_putE, if_neg (ht o List.mem_cons_self)]
theorem drawN_sound {n : Nat} {ops : Array Oper} {bs : List (List O)} (hbs : compDraw P n ops = some bs) {r : List O × OT} {ex : Nat → Bool} (hr : nOf ex ops bs = some r) {K : X → Env → Heap → Prop} {Q : Exit → Act → World → Prop}
  {E : Env} {H : Heap} {η η₀ : List Nat} {S S₀ : Nat → Prop} {w w₀ : World} {a : Act} (hl : lwp P η₀.length (.drawN r.1 r.2) K E H) (hA : At n ds η S w a E H) (hL : Le η₀ S₀ w₀ η S w) {id : Nat}
  (hQ : ∀ E' H' η' S' w' a', K .normal E' H' → At n ds η' S' w' a' E' H' → Le η₀ S₀ w₀ η' S' w' → (Marks w₀.heap.size ds η S w → Marks w₀.heap.size ds η' S' w') → Q .normal a' w') : (Code.region id ops true).wpIn (FW ro) 0 P Q a w := by
 obtain ⟨ol, lkd, m1, m5, hflat⟩ := draw_looked hbs
 unfold nOf at hr
 simp only [hflat] at hr
 split at hr
 rotate_left
 ·simp at hr
 rename_i hpo
 have hp := pureOK_spec hpo
 simp only [Option.some.injEq] at hr
 subst hr
 simp only [lwp] at hl
 have hmem : ∀ o ∈ (pureOf ex ol).filterMap (ol[·]?), ∃ p ∈ pureOf ex ol, ol[p]? = some o := fun o ho => List.mem_filterMap.1 ho
 obtain ⟨E', H', ⟨rfl, hst, I, hlot, hI⟩, hE⟩ := lops_reads (fun o ho => by
  obtain ⟨p, hpp, h1⟩ := hmem o ho
  obtain ⟨o', d, k1, k2, k3, -⟩ := hp.at_ p hpp
  rw [h1] at k1; cases k1
  exact ⟨k3, k2⟩) hl
 refine wpIn_region_any m1 ?_
 have hL1 : Le η S w η S { w with drawn := w.drawn + 1 } := Le.heap rfl rfl rfl rfl
 refine drawN_all (K := fun E1 H1 => I E1 H1 ∨ ∃ E2 H2, weakZ η₀.length E1 H1 E2 H2 ∧ I E2 H2) (η₀ := η) (S₀ := S) (w₀ := w) (fun E1 H1 η1 S1 w1 a1 hK hA1 hLe1 => ?_) lkd hp ops.size _
  ((List.range ol.length).filter fun i => !(pureOf ex ol).contains i) E' H' η S _ a (fun j hj => ?_) (by simp) ?_ (List.nodup_range.filter _) (fun i => ?_) (fun p hpp o ho => hst o (List.mem_filterMap.2 ⟨p, hpp, ho⟩))
  hlot (hA.conc.heap rfl) (fun t ht => ?_) hA.size hA.defers hL1
 ·rcases hK with hK | ⟨E2, H2, hw, hI2⟩
  ·exact hQ _ _ _ _ _ _ (hI _ _ hK) hA1 (hL.trans hLe1) (fun h => h.le hLe1)
  obtain ⟨η2, S2, k1, k2, k3, k4⟩ := hA1.weakZ (hL.trans hLe1) hw
  exact hQ _ _ _ _ _ _ (hI _ _ hI2) k1 k2 (fun h => (h.le hLe1).sub k3 k4)
 ·exfalso
  rw [Array.getD_eq_getD_getElem?] at hj
  by_cases h : j < ops.size <;> simp [h] at hj
 ·unfold unl
  exact Nat.le_trans List.countP_le_length (by simp)
 ·have hz : (Array.replicate ops.size false).getD i false = false := by
   by_cases h : i < ops.size <;> simp [Array.getD_eq_getD_getElem?, h]
  simp [hz, lkd.len]
 ·rw [hE t fun o ho e => ht ?_]
  ·exact (hA.env t).le hL1
  ·obtain ⟨p, hpp, h1⟩ := hmem o ho
   refine slotsOf_mem.2 ⟨p, hpp, ?_, o, h1, e⟩
   by_cases h : p < ops.size <;> simp [Array.getD_eq_getD_getElem?, h]
end
end Lg


/- Regions whose order is open: what reads alone, or makes a list that nobody writes, comes first; the others in all orders. -/
namespace Lg
open Go
section
variable {ds : List Deferred} {ro : Option Nat} {P : Program}
theorem frzS_spec {cs : List L} {l0 l : L} (h : frzS cs l0 = some l) : frz [some cs] [0] l0 = l ∧ ∃ e c xs, l = .sl e c xs := by
 unfold frzS at h
 split at h
 ·rename_i e c xs he
  cases h
  exact ⟨he, _, _, _, rfl⟩
 ·simp at h
theorem frz_end {H : Heap} {cs : List L} {e n : Nat} {c : Bool} : frz (H ++ [some cs]) [H.length] (.view e H.length 0 n c) = frz [some cs] [0] (.view e 0 0 n c) := by
 have h1 : live (H ++ [some cs]) H.length = some cs := by simp [live]
 have h2 : live [some cs] 0 = some cs := by simp [live]
 simp only [frz, frz1, h1, h2]
 simp
theorem make_lop {op : I} {E : Env} {l : L} (hm : isMakeC op = true) (hs : lopS op E = some l) (H : Heap) :
  lop P op E H (fun l' H' => (l' = l ∧ H' = H) ∨ (∃ cs, H' = H ++ [some cs] ∧ frz H' [H.length] l' = l ∧ ∃ e c xs, l = .sl e c xs)) := by
 cases op with
 | bslice esz z n parts =>
  simp only [lopS, bslV, Option.bind_eq_some_iff] at hs
  obtain ⟨cs, h1, h2⟩ := hs
  obtain ⟨h3, h4⟩ := frzS_spec h2
  simp only [lop, lopO, h1, Option.map_some]
  exact ⟨_, rfl, .inr ⟨cs, rfl, by rw [frz_end]; exact h3, h4⟩⟩
 | append esz bytes z x y =>
  simp only [lopS, Option.bind_eq_some_iff] at hs
  obtain ⟨r, h1, h2⟩ := hs
  simp only [lop, lopO]
  have key : ∃ l' H', appendL esz bytes (arg E x) (arg E y) H = some (l', H') ∧ ((l' = l ∧ H' = H) ∨ (∃ cs, H' = H ++ [some cs] ∧ frz H' [H.length] l' = l ∧ ∃ e c xs, l = .sl e c xs)) := by
   generalize arg E x = X at h1
   generalize arg E y = Y at h1
   unfold appendL at h1 ⊢
   have hlc : ∀ ys, lcells esz [] Y = some ys → lcells esz H Y = some ys := fun ys hy => by
    cases Y with
    | view e h off n c => simp [lcells, live] at hy
    | v x =>
     unfold lcells at hy ⊢
     split at hy
     ·rename_i e; cases e
     ·exact hy
     ·rename_i e; cases e
     ·simp at hy
    | _ => simp_all [lcells]
   cases hY : lcells esz [] Y with
   | none => rw [hY] at h1; simp at h1
   | some ys =>
    rw [hY] at h1
    rw [hlc ys hY]
    simp only at h1 ⊢
    split at h1
    rotate_left
    ·simp at h1
    rename_i hc
    rw [if_pos hc]
    split at h1
    ·-- nil
     split at h1
     ·rename_i h0
      simp only [Option.some.injEq] at h1; subst h1
      simp only [Option.some.injEq] at h2
      subst h2
      rw [if_pos h0]
      exact ⟨_, _, rfl, .inl ⟨rfl, rfl⟩⟩
     ·rename_i h0
      rw [if_neg h0]
      split at h1
      ·rename_i h3
       simp only [Option.some.injEq] at h1; subst h1
       rw [if_pos h3]
       obtain ⟨k1, k2⟩ := frzS_spec h2
       exact ⟨_, _, rfl, .inr ⟨ys, rfl, by rw [frz_end]; exact k1, k2⟩⟩
      ·simp at h1
    ·-- a list whose capacity is at its end
     split at h1
     rotate_left
     ·simp at h1
     rename_i he
     rw [if_pos he]
     split at h1
     ·rename_i h0
      simp only [Option.some.injEq] at h1; subst h1
      simp only [Option.some.injEq] at h2
      subst h2
      rw [if_pos h0]
      exact ⟨_, _, rfl, .inl ⟨rfl, rfl⟩⟩
     ·rename_i h0
      rw [if_neg h0]
      split at h1
      ·rename_i h3
       simp only [Option.some.injEq] at h1; subst h1
       rw [if_pos h3]
       obtain ⟨k1, k2⟩ := frzS_spec h2
       exact ⟨_, _, rfl, .inr ⟨_, rfl, by rw [frz_end]; exact k1, k2⟩⟩
      ·simp at h1
    ·-- an own row: there is none
     split at h1
     ·simp [live] at h1
     ·simp at h1
    ·simp at h1
  obtain ⟨l', H', k1, k2⟩ := key
  rw [k1]
  exact ⟨_, rfl, k2⟩
 | _ => simp [isMakeC] at hm
mutual
theorem ren_idQ {n : Nat} {f : Nat → Nat} (hf : ∀ i, i < n → f i = i) : ∀ l : L, below n l = true → ren f l = l
 | .view e h off k c, hb => by simp [below] at hb; simp [ren, hf h hb]
 | .ptr h off, hb => by simp [below] at hb; simp [ren, hf h hb]
 | .mref h, hb => by simp [below] at hb; simp [ren, hf h hb]
 | .yl h, hb => by simp [below] at hb; simp [ren, hf h hb]
 | .itp h, hb => by simp [below] at hb; simp [ren, hf h hb]
 | .cm .., _ => rfl
 | .it .., _ => rfl
 | .lp rc st pd ks ts, hb => by simp [below] at hb; simp [ren, renL_idQ hf ts hb]
 | .agg cs, hb => by simp [below] at hb; simp [ren, renL_idQ hf cs hb]
 | .tup cs, hb => by simp [below] at hb; simp [ren, renL_idQ hf cs hb]
 | .fn g a b, hb => by simp [below] at hb; simp [ren, renL_idQ hf a hb.1, renL_idQ hf b hb.2]
 | .v _, _ => rfl
 | .sl .., _ => rfl
 | .pp _, _ => rfl
 | .mp .., _ => rfl
 | .no, _ => rfl
 | .any, _ => rfl
theorem renL_idQ {n : Nat} {f : Nat → Nat} (hf : ∀ i, i < n → f i = i) : ∀ ls : List L, belowL n ls = true → renL f ls = ls
 | [], _ => rfl
 | l :: ls, hb => by simp [belowL] at hb; simp [renL, ren_idQ hf l hb.1, renL_idQ hf ls hb.2]
end
theorem frz1_below {H : Heap} {n : Nat} {x : L} (h : below n x = true) : Lg.frz1 H [n] x = x := by
 cases x with
 | view e k off m c =>
  simp [below] at h
  have : ¬ n = k := by omega
  simp [Lg.frz1]
  intro e'
  omega
 | mref k =>
  simp [below] at h
  have : ¬ n = k := by omega
  simp [Lg.frz1]
  intro e'
  omega
 | _ => rfl
theorem frzP_below {H : Heap} {n : Nat} {x : L} (h : below n x = true) : Lg.frzP H [n] x = x := by
 cases x with
 | ptr k off =>
  simp [below] at h
  have : ¬ n = k := by omega
  simp [Lg.frzP]
  intro e'
  omega
 | _ => exact frz1_below (H := H) h
theorem mapB {f : L → L} {n : Nat} (hf : ∀ x, below n x = true → f x = x) : ∀ {ls : List L}, belowL n ls = true → ls.map f = ls
 | [], _ => rfl
 | l :: ls, h => by
  simp only [belowL, Bool.and_eq_true] at h
  rw [List.map_cons, hf l h.1, mapB hf h.2]
theorem frz_below {H : Heap} {n : Nat} {x : L} (h : below n x = true) : Lg.frz H [n] x = x := by
 cases x with
 | agg cs =>
  simp only [below] at h
  simp only [Lg.frz]
  rw [mapB (fun x hx => frz1_below hx) h]
 | fn f a b =>
  simp only [below, Bool.and_eq_true] at h
  simp only [Lg.frz]
  rw [mapB (fun x hx => frzP_below hx) h.1, mapB (fun x hx => frzP_below hx) h.2]
 | _ => exact frz1_below (H := H) h
theorem frzL_below {H : Heap} {n : Nat} : ∀ {ls : List L}, belowL n ls = true → ls.map (Lg.frz H [n]) = ls
 | [], _ => rfl
 | l :: ls, h => by
  simp [belowL] at h
  rw [List.map_cons, frz_below h.1, frzL_below h.2]
theorem make_conc (a : Act) {η η' : List Nat} {S S' : Nat → Prop} {w w' : World} {H : Heap} {cs : List L} {l' l : L} {v : Value} (hlen : η.length = H.length) (hC' : Conc η' S' w' (H ++ [some cs])) (hL : Le η S w η' S' w') (hv : Rel S' w' η' v l')
  (hfz : Lg.frz (H ++ [some cs]) [H.length] l' = l) (hl : ∃ e c xs, l = .sl e c xs) (hb : belowH H = true) : ∃ S'', Conc η S'' w' H ∧ Rel S'' w' η v l ∧ Le η S w η S'' w' := by
 have hA : At 1 a.defers η' S' w' { a with tmps := #[v] } [(0, l')] (H ++ [some cs]) := ⟨hC', fun t => by
  by_cases ht : t = 0
  ·subst ht; simpa [lk] using hv
  ·have : lk [(0, l')] t = .any := by simp [lk, ht]
   rw [this]; exact .any _, rfl, rfl⟩
 have hw : Lg.weak η.length (frzE (H ++ [some cs]) [H.length] [(0, l')]) (frzH (H ++ [some cs]) [H.length] 0 (H ++ [some cs])) [(0, l)] H := by
  refine ⟨List.range H.length, by rw [hlen, List.take_of_length_le (by simp)], List.nodup_range, ?_, fun p hp => ?_⟩
  ·have rows : ∀ (σ : List Nat) (G : Heap) (k : Nat), σ = List.range' k G.length → k + G.length = H.length → (∀ j, j < G.length → G[j]? = H[k + j]?) → rowsOK (frzH (H ++ [some cs]) [H.length] 0 (H ++ [some cs])) (fun i => (List.range H.length).getD i 0) H.length σ G := fun σ G => by
    induction G generalizing σ with
    | nil => intro k hσ _ _; subst hσ; trivial
    | cons c G ih =>
     intro k hσ hk hg
     rw [List.length_cons, List.range'_succ] at hσ
     subst hσ
     simp only [List.length_cons] at hk
     refine ⟨⟨by rw [frzH_length]; simp; omega, ?_⟩, ih _ (k + 1) rfl (by omega) fun j hj => by
      have := hg (j + 1) (by simp; omega)
      rw [List.getElem?_cons_succ] at this
      rw [this]; congr 1; omega⟩
     have h0 := hg 0 (by simp)
     rw [List.getElem?_cons_zero, Nat.add_zero] at h0
     cases c with
     | none => trivial
     | some ls =>
      have hbl : belowL H.length ls = true := by
       have := List.all_eq_true.1 hb (some ls) (List.mem_of_getElem? h0.symm)
       exact this
      refine ⟨?_, hbl⟩
      have hget : ∀ (rs : Heap) (i k : Nat) (ls : List L), rs[k]? = some (some ls) → ([H.length].contains (i + k)) = false → (frzH (H ++ [some cs]) [H.length] i rs)[k]? = some (some (ls.map (Lg.frz (H ++ [some cs]) [H.length]))) := fun rs => by
       induction rs with
       | nil => intro i k ls h; simp at h
       | cons r rs ihr =>
        intro i k ls h hcn
        cases k with
        | zero =>
         rw [List.getElem?_cons_zero] at h
         cases h
         simp only [frzH, List.getElem?_cons_zero, frzRow]
         rw [if_neg (by simpa using hcn)]
        | succ k =>
         rw [List.getElem?_cons_succ] at h
         simp only [frzH, List.getElem?_cons_succ]
         exact ihr (i + 1) k ls h (by rw [show i + 1 + k = i + (k + 1) by omega]; exact hcn)
      have hk2 : (H ++ [some cs])[k]? = some (some ls) := by rw [List.getElem?_append_left (by omega)]; exact h0.symm
      rw [hget _ 0 k ls hk2 (by simp; omega), frzL_below hbl]
      rw [renL_idQ (n := H.length) (fun i hi => by simp [hi]) ls hbl]
   exact rows _ H 0 List.range_eq_range' (by simp) (fun j _ => by rw [Nat.zero_add])
  ·simp only [List.mem_singleton] at hp
   subst hp
   obtain ⟨e, c, xs, rfl⟩ := hl
   refine ⟨rfl, .inr ?_⟩
   rw [lk_frzE]
   simp only [lk, if_true]
   rw [hfz]
   rfl
 obtain ⟨η2, S2, k1, k2, -, -⟩ := hA.weakZ hL (.inr (.inl ⟨[H.length], hw⟩))
 have hη : η2 = η := by
  obtain ⟨ζ, hζ, -⟩ := k2.pre
  have h1 := k1.conc.len
  rw [hζ, List.length_append] at h1
  have : ζ = [] := List.eq_nil_of_length_eq_zero (by omega)
  rw [hζ, this, List.append_nil]
 subst hη
 refine ⟨S2, k1.conc, ?_, k2⟩
 have := k1.env 0
 simpa [lk] using this
theorem lop_mono' {op : I} {E : Env} {H : Heap} {K K' : L → Heap → Prop} (hk : ∀ l H, K l H → K' l H) (h : lop P op E H K) (hm : isMakeC op = true := by assumption) : lop P op E H K' := by
 cases op <;> first | (simp [isMakeC] at hm; done) | (obtain ⟨r, h1, h2⟩ := h; exact ⟨r, h1, hk _ _ h2⟩)
structure PuresM (ol : List O) (pu : List Nat) : Prop where
 at_ : ∀ p ∈ pu, ∃ o d, ol[p]? = some o ∧ (isReadC o.op || isMakeC o.op) = true ∧ o.guard = none ∧ o.dst = some d
 one : ∀ p ∈ pu, ∀ (j : Nat) o x d, ol[p]? = some o → ol[j]? = some x → o.dst = some d → j ≠ p → x.dst ≠ some d
 from_ : ∀ p ∈ pu, ∀ (j : Nat) o x d, ol[p]? = some o → ol[j]? = some x → x.dst = some d → d ∈ o.names → j ∈ pu ∧ j < p
 ahead : ∀ p ∈ pu, ∀ (j : Nat) o x d, ol[p]? = some o → ol[j]? = some x → o.dst = some d → j ≤ p → d ∉ x.names
theorem pureOKM_spec {ol : List O} {pu : List Nat} (h : pureOKM ol pu = true) : PuresM ol pu := by
 have key : ∀ p ∈ pu, ∃ o d, ol[p]? = some o ∧ (isReadC o.op || isMakeC o.op) = true ∧ o.guard = none ∧ o.dst = some d ∧ ∀ (j : Nat) x, ol[j]? = some x →
   (j = p ∨ x.dst ≠ some d) ∧ (∀ e, x.dst = some e → e ∈ o.names → j ∈ pu ∧ j < p) ∧ (p < j ∨ d ∉ x.names) := fun p hp => by
  have h1 := List.all_eq_true.1 h p hp
  split at h1
  rotate_left
  ·simp at h1
  rename_i o ho
  simp only [Bool.and_eq_true] at h1
  obtain ⟨⟨⟨h2, h3⟩, h4⟩, h5⟩ := h1
  obtain ⟨d, hd⟩ := Option.isSome_iff_exists.1 h4
  refine ⟨o, d, ho, h2, by simpa using h3, hd, fun j x hx => ?_⟩
  have hj : j < ol.length := (List.getElem?_eq_some_iff.1 hx).1
  have h6 := List.all_eq_true.1 h5 j (List.mem_range.2 hj)
  rw [hx] at h6
  simp only [Bool.and_eq_true, Bool.or_eq_true, beq_iff_eq, bne_iff_ne, ne_eq, decide_eq_true_eq, hd] at h6
  obtain ⟨a1, a2, a3⟩ := h6
  refine ⟨a1, fun e he hn => ?_, ?_⟩
  ·rw [he] at a2
   simp only [Bool.or_eq_true, Bool.not_eq_true', Bool.and_eq_true, decide_eq_true_eq] at a2
   rcases a2 with a2 | a2
   ·have := List.contains_iff_mem.2 hn; rw [this] at a2; simp at a2
   ·exact ⟨List.contains_iff_mem.1 a2.1, a2.2⟩
  ·rcases a3 with a3 | a3
   ·exact .inl a3
   ·refine .inr fun hn => ?_
    have := List.contains_iff_mem.2 hn; rw [this] at a3; simp at a3
 refine ⟨fun p hp => ?_, fun p hp j o x d h1 h2 h3 h4 => ?_, fun p hp j o x d h1 h2 h3 h4 => ?_, fun p hp j o x d h1 h2 h3 h4 => ?_⟩
 ·obtain ⟨o, d, k1, k2, k3, k4, -⟩ := key p hp
  exact ⟨o, d, k1, k2, k3, k4⟩
 all_goals
  obtain ⟨o', d', k1, k2, k3, k4, k5⟩ := key p hp
  rw [h1] at k1; cases k1
 ·rw [h3] at k4; cases k4
  exact (k5 j x h2).1.resolve_left h4
 ·exact (k5 j x h2).2.1 d h3 h4
 ·rw [h3] at k4; cases k4
  exact (k5 j x h2).2.2.resolve_left (by omega)
theorem lopsP_reads {K : Env → Prop} : ∀ {l : List O} {E : Env} {H : Heap}, lopsP l K E H → ∃ E', K E' ∧ ∀ t, (∀ o ∈ l, o.dst ≠ some t) → lk E' t = lk E t
 | [], E, _, h => ⟨E, h, fun _ _ => rfl⟩
 | o :: l, E, H, h => by
  obtain ⟨x, -, h⟩ := h
  obtain ⟨E', k1, k2⟩ := lopsP_reads h
  refine ⟨E', k1, fun t ht => ?_⟩
  rw [k2 t fun o ho => ht o (List.mem_cons_of_mem _ ho), lk_putE, if_neg (ht o List.mem_cons_self)]
theorem drawS_all {n : Nat} {ops : Array Oper} {ol : List O} {anc : List (List Nat)} {pu : List Nat} {K : Env → Heap → Prop} {Q : Exit → Act → World → Prop} {η₀ : List Nat} {S₀ : Nat → Prop} {w₀ : World}
  (hQ : ∀ E' H' η' S' w' a', K E' H' → At n ds η' S' w' a' E' H' → Le η₀ S₀ w₀ η' S' w' → Q .normal a' w') (lkd : Looked n ops ol anc P) (hp : PuresM ol pu) :
  ∀ (fuel : Nat) (listed : Array Bool) (rem : List Nat) (E : Env) (H : Heap) (η : List Nat) (S : Nat → Prop) (w : World) (a : Act),
   DC anc listed → listed.size = ops.size → unl ops.size listed ≤ fuel → rem.Nodup → (∀ i, i ∈ rem ↔ i < ops.size ∧ i ∉ pu ∧ listed.getD i false = false) →
   ((∀ p ∈ pu, ∀ o, ol[p]? = some o → stableP o E H) ∧ belowH H = true) →
   lot P (stP (pu.filterMap (ol[·]?))) (mkTree ol anc rem.length rem) K E H →
   Conc η S w H → (∀ t, t ∉ slotsOf ol pu listed → Rel S w η (a.tmps.getD t undef) (lk E t)) → a.tmps.size = n → a.defers = ds → Le η₀ S₀ w₀ η S w →
   wpAnyIn (FW ro) 0 P .any ops Q fuel listed a w := by
 intro fuel
 induction fuel with
 | zero =>
  intro listed rem E H η S w a hdc hsz hu hnd hrem hst hlot hC hR hta htd hL
  have hall : ∀ i, i < ops.size → listed.getD i false = true := fun i hi => by
   cases h : listed.getD i false
   ·have := unl_pos (N := ops.size) hi h; omega
   ·rfl
  have hrn : rem = [] := List.eq_nil_iff_forall_not_mem.2 fun i hi => by
   obtain ⟨h1, -, h3⟩ := (hrem i).1 hi
   rw [hall i h1] at h3; simp at h3
  have hsl : ∀ t, t ∉ slotsOf ol pu listed := fun t ht => by
   obtain ⟨p, h1, h2, o, h3, -⟩ := slotsOf_mem.1 ht
   have : p < ol.length := (List.getElem?_eq_some_iff.1 h3).1
   rw [hall p (by rw [← lkd.len]; exact this)] at h2; simp at h2
  subst hrn
  refine ⟨List.eq_nil_iff_forall_not_mem.2 fun i hi => ?_, hQ _ _ _ _ _ _ hlot ⟨hC, fun t => hR t (hsl t), hta, htd⟩ hL⟩
  obtain ⟨h1, o, h2, -⟩ := ready_iff.1 hi
  have hi' : i < ops.size := (Array.getElem?_eq_some_iff.1 h2).1
  have := hall i hi'
  rw [agetD_of_lt _ _ (by omega)] at h1 this
  rw [h1] at this; simp at this
 | succ fuel ih =>
  intro listed rem E H η S w a hdc hsz hu hnd hrem hst hlot hC hR hta htd hL
  refine ⟨fun hre => ?_, fun i hir => ?_⟩
  ·-- nothing is ready: all has run
   have hall : ∀ i, i < ops.size → listed.getD i false = true := fun i hi => by
    cases h : listed.getD i false with
    | true => rfl
    | false =>
     exfalso
     obtain ⟨k, hk, hku, hkl⟩ := exists_first (p := fun i => i < ops.size ∧ listed.getD i false = false) ⟨hi, h⟩
     have : k ∈ Region.ready .any ops listed := least_ready lkd hsz hku.1 hku.2 fun j hj => by
      cases hj2 : listed.getD j false with
      | true => rfl
      | false => exact absurd ⟨by omega, hj2⟩ (hkl j hj)
     rw [hre] at this; simp at this
   have hrn : rem = [] := List.eq_nil_iff_forall_not_mem.2 fun i hi => by
    obtain ⟨h1, -, h3⟩ := (hrem i).1 hi
    rw [hall i h1] at h3; simp at h3
   have hsl : ∀ t, t ∉ slotsOf ol pu listed := fun t ht => by
    obtain ⟨p, h1, h2, o, h3, -⟩ := slotsOf_mem.1 ht
    have : p < ol.length := (List.getElem?_eq_some_iff.1 h3).1
    rw [hall p (by rw [← lkd.len]; exact this)] at h2; simp at h2
   subst hrn
   exact hQ _ _ _ _ _ _ hlot ⟨hC, fun t => hR t (hsl t), hta, htd⟩ hL
  ·obtain ⟨hi1, o, hop, hedge⟩ := ready_iff.1 hir
   have hi : i < ops.size := (Array.getElem?_eq_some_iff.1 hop).1
   have hil : i < listed.size := by omega
   have hif : listed.getD i false = false := by rw [agetD_of_lt _ _ hil] at hi1 ⊢; exact hi1
   have hanc := ready_anc lkd hdc hir
   obtain ⟨oo, hoo⟩ : ∃ oo, ol[i]? = some oo := ⟨_, List.getElem?_eq_getElem (by rw [lkd.len]; exact hi)⟩
   have hc := lkd.comp i o oo hop hoo
   have hdst : oo.dst = o.dst ∧ ∀ t, oo.dst = some t → t < n := by
    simp only [compO, Option.bind_eq_some_iff] at hc
    obtain ⟨ii, -, hc⟩ := hc
    split at hc
    rotate_left
    ·simp at hc
    rename_i hd
    have : oo.dst = o.dst := by
     cases hg : o.guard with
     | none => simp only [hg, Option.some.injEq] at hc; subst hc; rfl
     | some jb => obtain ⟨j, b⟩ := jb; simp only [hg, Option.map_eq_some_iff] at hc; obtain ⟨s, -, rfl⟩ := hc; rfl
    exact ⟨this, fun t ht => by rw [this] at ht; rw [ht] at hd; simpa [dstOk] using hd⟩
   have hnames : ∀ t ∈ oo.names, t ∉ slotsOf ol pu listed := fun t ht hs => by
    obtain ⟨q, q1, q2, x, q3, q4⟩ := slotsOf_mem.1 hs
    by_cases hqi : q < i
    ·have := hanc q (lkd.t1 q i x oo t hqi q3 hoo q4 (.inl ht))
     rw [this] at q2; simp at q2
    ·exact hp.ahead q q1 i x oo t q3 hoo q4 (by omega) ht
   have hmask : ∀ t ∈ oo.names, lk E t = lk ((slotsOf ol pu listed).map (fun d => (d, L.any)) ++ E) t := fun t ht => by rw [lk_mask, if_neg (hnames t ht)]
   have hRE : REnv η S w a.tmps ((slotsOf ol pu listed).map (fun d => (d, L.any)) ++ E) := fun t => by
    rw [lk_mask]
    split
    ·exact .any _
    ·rename_i h; exact hR t h
   have hput : ∀ (v : Value) (t : Nat), (a.put o.dst v).tmps.getD t undef = if oo.dst = some t then v else a.tmps.getD t undef := fun v t => by
    rw [hdst.1]
    cases hd : o.dst with
    | none => simp [Act.put]
    | some d =>
     have hdn : d < a.tmps.size := by rw [hta]; exact hdst.2 d (by rw [hdst.1]; exact hd)
     simp only [Act.put, Option.some.injEq]
     by_cases e : d = t
     ·subst e; simp [Array.getD_eq_getD_getElem?, hdn]
     ·simp [Array.getD_eq_getD_getElem?, e]
   have hput2 : ∀ v, (a.put o.dst v).tmps.size = n ∧ (a.put o.dst v).defers = ds := fun v => by
    cases o.dst <;> simp [Act.put, hta, htd]
   have hunl : unl ops.size (listed.setIfInBounds i true) ≤ fuel := by have := unl_step hil hi hif; omega
   have hdc' := hdc.step lkd hir hil
   by_cases hpi : i ∈ pu
   ·-- a read
    obtain ⟨oo', d, k1, k2, k3, k4⟩ := hp.at_ i hpi
    rw [hoo] at k1; cases k1
    have hs := hst.1 i hpi oo hoo
    unfold stableP at hs
    rw [k4] at hs
    simp only at hs
    have behind : ∀ (v : Value) (S' : Nat → Prop) (w' : World), Conc η S' w' H → Rel S' w' η v (lk E d) → Le η S w η S' w' → wpAnyIn (FW ro) 0 P .any ops Q fuel (listed.setIfInBounds i true) (a.put o.dst v) w' := fun v S' w' hC' hr hL' => by
     refine ih _ rem E H η S' w' (a.put o.dst v) hdc' (by simp [hsz]) hunl hnd (fun j => ?_) hst hlot hC' (fun t ht => ?_) (hput2 v).1 (hput2 v).2 (hL.trans hL')
     ·rw [hrem j, set_getD hil]
      by_cases hji : j = i
      ·subst hji; simp [hpi]
      ·simp [hji]
     ·rw [hput]
      by_cases e : oo.dst = some t
      ·rw [if_pos e]
       rw [k4] at e; cases e
       exact hr
      ·rw [if_neg e]
       refine (hR t fun hs' => ht ?_).le hL'
       obtain ⟨q, q1, q2, x, q3, q4⟩ := slotsOf_mem.1 hs'
       refine slotsOf_mem.2 ⟨q, q1, ?_, x, q3, q4⟩
       rw [set_getD hil]
       by_cases hqi : q = i
       ·subst hqi; rw [hoo] at q3; cases q3; exact absurd q4 e
       ·rw [if_neg hqi]; exact q2
    by_cases hmk : isMakeC oo.op = true
    ·rw [if_pos hmk] at hs
     have hl1 : lops1 P oo (fun E' H' => ∃ l', lk E' d = l' ∧ ((l' = lk E d ∧ H' = H) ∨ (∃ cs, H' = H ++ [some cs] ∧ frz H' [H.length] l' = lk E d ∧ ∃ e c xs, lk E d = .sl e c xs))) E H := by
      simp only [lops1, lguard, k3, k4]
      refine lop_mono' (fun l' H' hk => ⟨l', by simp [putE, lk], hk⟩) (make_lop hmk hs H)
     refine masked_sound hc hl1 hmask hC hRE ?_ hop
     intro v l E1 H' η' S' w' he hK hr hC' hL'
     obtain ⟨l', hl', hK⟩ := hK
     have hll : l = l' := by rw [← hl', k4]; simp [putE, lk]
     subst hll
     rcases hK with ⟨e1, e2⟩ | ⟨cs, e1, e2, e3⟩
     ·subst e1; subst e2
      have hη : η' = η := by
       obtain ⟨ζ, hζ, -⟩ := hL'.pre
       have h1 := hC'.len
       have h2 := hC.len
       rw [hζ, List.length_append] at h1
       have : ζ = [] := List.eq_nil_of_length_eq_zero (by omega)
       rw [hζ, this, List.append_nil]
      subst hη
      exact behind v S' w' hC' hr hL'
     ·subst e1
      obtain ⟨S'', m1, m2, m3⟩ := make_conc a hC.len hC' hL' hr e2 e3 hst.2
      exact behind v S'' w' m1 m2 m3
    ·rw [if_neg hmk] at hs
     have k2' : isReadC oo.op = true := by simpa [hmk] using k2
     have hl1 : lops1 P oo (fun E' H' => lk E' d = lk E d ∧ H' = H) E H := by
      simp only [lops1, lguard, k3, k4]
      have e0 : lk (putE E (some d) (lk E d)) d = lk E d := by simp [putE, lk]
      cases hopp : oo.op <;> rw [hopp] at hs k2' <;> first | (simp [isReadC] at k2'; done) | exact ⟨_, hs, e0, rfl⟩
     refine masked_sound hc hl1 hmask hC hRE ?_ hop
     intro v l E1 H' η' S' w' he hK hr hC' hL'
     obtain ⟨hK1, rfl⟩ := hK
     have hl : l = lk E d := by rw [← hK1, k4]; simp [putE, lk]
     subst hl
     have hη : η' = η := by
      obtain ⟨ζ, hζ, -⟩ := hL'.pre
      have h1 := hC'.len
      have h2 := hC.len
      rw [hζ, List.length_append] at h1
      have : ζ = [] := List.eq_nil_of_length_eq_zero (by omega)
      rw [hζ, this, List.append_nil]
     subst hη
     exact behind v S' w' hC' hr hL'
   ·-- one of the others
    have hir2 : i ∈ rem := (hrem i).2 ⟨hi, hpi, hif⟩
    obtain ⟨f, hf⟩ : ∃ f, rem.length = f + 1 := ⟨rem.length - 1, by have := List.length_pos_of_mem hir2; omega⟩
    rw [hf] at hlot
    have hl1 := lot_alt (P := P) (ol := ol) (anc := anc) (f := f) (rem := rem) (i := i) (o := oo) (List.all_eq_true.2 fun j hj => by
     have := hanc j hj
     cases hcj : rem.contains j
     ·rfl
     ·have := ((hrem j).1 (List.contains_iff_mem.1 hcj)).2.2
      simp_all) hoo hir2 hlot
    refine masked_sound hc hl1 hmask hC hRE ?_ hop
    intro v l E1 H' η' S' w' he hK hr hC' hL'
    obtain ⟨hK1, hK2⟩ := hK
    have hlen : f = (rem.erase i).length := by rw [List.length_erase_of_mem hir2]; omega
    rw [hlen] at hK2
    refine ih _ (rem.erase i) (putE E1 oo.dst l) H' η' S' w' (a.put o.dst v) hdc' (by simp [hsz]) hunl (hnd.erase i) (fun j => ?_) ⟨fun p hpp x hx => hK1.1 x (List.mem_filterMap.2 ⟨p, hpp, hx⟩), hK1.2⟩ hK2 hC' (fun t ht => ?_) (hput2 v).1 (hput2 v).2 (hL.trans hL')
    ·rw [hnd.mem_erase_iff, hrem j, set_getD hil]
     by_cases hji : j = i
     ·subst hji; simp
     ·simp [hji]
    ·rw [hput, lk_putE]
     by_cases e : oo.dst = some t
     ·rw [if_pos e, if_pos e]; exact hr
     ·rw [if_neg e, if_neg e, he]
      refine (hR t fun hs' => ht ?_).le hL'
      obtain ⟨q, q1, q2, x, q3, q4⟩ := slotsOf_mem.1 hs'
      refine slotsOf_mem.2 ⟨q, q1, ?_, x, q3, q4⟩
      rw [set_getD hil, if_neg (fun e : q = i => hpi (e ▸ q1))]; exact q2
theorem drawS_sound {n : Nat} {ops : Array Oper} {bs : List (List O)} (hbs : compDraw P n ops = some bs) {mk : Nat → Bool} {r : List O × OT} (hr : nOfM mk ops bs = some r) {K : X → Env → Heap → Prop} {Q : Exit → Act → World → Prop}
  {E : Env} {H : Heap} {η η₀ : List Nat} {S S₀ : Nat → Prop} {w w₀ : World} {a : Act} (hl : lwp P η₀.length (.drawS r.1 r.2) K E H) (hA : At n ds η S w a E H) (hL : Le η₀ S₀ w₀ η S w) {id : Nat}
  (hQ : ∀ E' H' η' S' w' a', K .normal E' H' → At n ds η' S' w' a' E' H' → Le η₀ S₀ w₀ η' S' w' → (Marks w₀.heap.size ds η S w → Marks w₀.heap.size ds η' S' w') → Q .normal a' w') : (Code.region id ops true).wpIn (FW ro) 0 P Q a w := by
 obtain ⟨ol, lkd, m1, m5, hflat⟩ := draw_looked hbs
 unfold nOfM at hr
 simp only [hflat] at hr
 split at hr
 rotate_left
 ·simp at hr
 rename_i hpo
 have hp := pureOKM_spec hpo
 simp only [Option.some.injEq] at hr
 subst hr
 simp only [lwp] at hl
 have hmem : ∀ o ∈ (pureOfM mk ol).filterMap (ol[·]?), ∃ p ∈ pureOfM mk ol, ol[p]? = some o := fun o ho => List.mem_filterMap.1 ho
 obtain ⟨E', ⟨⟨hst, hbel⟩, I, hlot, hI⟩, hE⟩ := lopsP_reads hl
 refine wpIn_region_any m1 ?_
 have hL1 : Le η S w η S { w with drawn := w.drawn + 1 } := Le.heap rfl rfl rfl rfl
 refine drawS_all (K := fun E1 H1 => I E1 H1 ∨ ∃ E2 H2, weakZ η₀.length E1 H1 E2 H2 ∧ I E2 H2) (η₀ := η) (S₀ := S) (w₀ := w) (fun E1 H1 η1 S1 w1 a1 hK hA1 hLe1 => ?_) lkd hp ops.size _
  ((List.range ol.length).filter fun i => !(pureOfM mk ol).contains i) E' H η S _ a (fun j hj => ?_) (by simp) ?_ (List.nodup_range.filter _) (fun i => ?_) ⟨fun p hpp o ho => hst o (List.mem_filterMap.2 ⟨p, hpp, ho⟩), hbel⟩
  hlot (hA.conc.heap rfl) (fun t ht => ?_) hA.size hA.defers hL1
 ·rcases hK with hK | ⟨E2, H2, hw, hI2⟩
  ·exact hQ _ _ _ _ _ _ (hI _ _ hK) hA1 (hL.trans hLe1) (fun h => h.le hLe1)
  obtain ⟨η2, S2, k1, k2, k3, k4⟩ := hA1.weakZ (hL.trans hLe1) hw
  exact hQ _ _ _ _ _ _ (hI _ _ hI2) k1 k2 (fun h => (h.le hLe1).sub k3 k4)
 ·exfalso
  rw [Array.getD_eq_getD_getElem?] at hj
  by_cases h : j < ops.size <;> simp [h] at hj
 ·unfold unl
  exact Nat.le_trans List.countP_le_length (by simp)
 ·have hz : (Array.replicate ops.size false).getD i false = false := by
   by_cases h : i < ops.size <;> simp [Array.getD_eq_getD_getElem?, h]
  simp [hz, lkd.len]
 ·rw [hE t fun o ho e => ht ?_]
  ·exact (hA.env t).le hL1
  ·obtain ⟨p, hpp, h1⟩ := hmem o ho
   refine slotsOf_mem.2 ⟨p, hpp, ?_, o, h1, e⟩
   by_cases h : p < ops.size <;> simp [Array.getD_eq_getD_getElem?, h]
end
end Lg

