/- Regions whose order is open: what reads alone comes first; the others in all orders. -/
import Derived.Test.YtaegmmeppkgnkaaLgQ6
import Derived.Test.YtaegmmeppkgnkaaLgM3
namespace Lg
open Go

section
variable {ds : List Deferred} {ro : Option Nat} {P : Program}

theorem lop_congr {op : I} {E E' : Env} {H : Heap} {K : L → Heap → Prop} (h : ∀ t ∈ op.tmps, lk E t = lk E' t) (hl : lop P op E H K) : lop P op E' H K := by
  have simple : optK (lopO op E H) (fun r => K r.1 r.2) → optK (lopO op E' H) (fun r => K r.1 r.2) := fun hl => by rw [← lopO_congr h]; exact hl
  cases op with
  | call f xs =>
    have hl : callAt P f (xs.map (arg E)) H K := hl
    show callAt P f (xs.map (arg E')) H K
    rwa [← args_congr h]
  | calld x xs =>
    have hl : callD P (arg E x) (xs.map (arg E)) H K := hl
    show callD P (arg E' x) (xs.map (arg E')) H K
    rwa [← args_congr (E := E) (E' := E') (xs := xs) (fun t ht => h t (by simp only [I.tmps, List.mem_append]; exact .inr ht)), ← arg_congr (E := E) (E' := E') (x := x) (fun t ht => h t (by simp only [I.tmps, List.mem_append]; exact .inl ht))]
  | isnil neg x =>
    have e : arg E x = arg E' x := arg_congr h
    simp only [lop] at hl ⊢
    rw [← e]; exact hl
  | _ => exact simple hl

/-- One operation in a state of which some slots are not known. -/
theorem masked_sound {n : Nat} {ops : Array Oper} {o : Oper} {oo : O} {K : Env → Heap → Prop} {Q : Exit → Act → World → Prop} {next : Act → World → Prop} {E Em : Env} {H : Heap} {η : List Nat} {S : Nat → Prop} {w : World} {a : Act} (hc : compO P n ops o = some oo) (hl : lops P [oo] K E H)
    (hm : ∀ t ∈ oo.names, lk E t = lk Em t) (hC : Conc η S w H) (hE : REnv η S w a.tmps Em)
    (hn : ∀ v l E1 H' η' S' w', (∀ t, lk E1 t = lk E t) → K (putE E1 oo.dst l) H' → Rel S' w' η' v l → Conc η' S' w' H' → Le η S w η' S' w' → next (a.put o.dst v) w') {i : Nat} (hi : ops[i]? = some o) : wpOpIn (FW ro) 0 P ops Q i next a w := by
  simp only [compO, Option.bind_eq_some_iff] at hc
  obtain ⟨ii, hii, ho⟩ := hc
  split at ho
  rotate_left
  · simp at ho
  have hop : oo.op = ii ∧ oo.dst = o.dst := by
    cases hg : o.guard with
    | none => simp only [hg, Option.some.injEq] at ho; subst ho; exact ⟨rfl, rfl⟩
    | some jb => obtain ⟨j, b⟩ := jb; simp only [hg, Option.map_eq_some_iff] at ho; obtain ⟨s, -, rfl⟩ := ho; exact ⟨rfl, rfl⟩
  have hop1 := hop.1
  have hop2 := hop.2
  have runIt : ∀ {E1 : Env}, (∀ t, lk E1 t = lk E t) → (lop P oo.op E1 H fun l H' => K (putE E1 oo.dst l) H') → o.wpIn (FW ro) 0 P a w next Q := fun {E1} he hl' => by
    rw [hop1] at hl'
    have hl2 : lop P ii Em H fun l H' => K (putE E1 oo.dst l) H' := lop_congr (fun t ht => by
      rw [he t]
      exact hm t (by unfold O.names; rw [hop1]; split <;> simp [ht])) hl'
    refine lop_sound hii hl2 hC hE ?_
    intro v l' H' η' S' w' hK hr hC' hL
    exact hn v l' E1 H' η' S' w' he hK hr hC' hL
  have passIt : ∀ {E1 : Env}, (∀ t, lk E1 t = lk E t) → K (putE E1 oo.dst .no) H → next (a.put o.dst undef) w := fun {E1} he hl' =>
    hn undef .no E1 H η S w he hl' .no hC (Le.refl _ _ _)
  unfold wpOpIn
  rw [hi]
  simp only
  cases hg : o.guard with
  | none =>
    simp only [hg, Option.some.injEq] at ho
    have hgo : oo.guard = none := by rw [← ho]
    simp only [lops, lguard, hgo] at hl
    have hw : Region.wanted o (yielded ops a.tmps) = true := by simp [Region.wanted, hg]
    rw [if_pos hw]
    exact (runIt (fun _ => rfl) hl)
  | some jb =>
    obtain ⟨j, b⟩ := jb
    simp only [hg, Option.map_eq_some_iff] at ho
    obtain ⟨s, hs, ho⟩ := ho
    have hgo : oo.guard = some (s, b) := by rw [← ho]
    simp only [lops, lguard, hgo] at hl
    have hwant : ∀ x : Value, a.tmps.getD s undef = x → Region.wanted o (yielded ops a.tmps) = (match x with | .bool y => y == b | _ => false) := fun x hx => by
      simp only [Region.wanted, hg, yielded, hs, Option.bind_some]
      by_cases hlt : s < a.tmps.size
      · rw [agetD_of_lt _ _ hlt] at hx
        simp only [Array.getElem?_eq_getElem hlt, hx]
        cases x <;> simp
      · rw [agetD_of_ge _ _ (by omega)] at hx
        subst hx
        simp [Array.getElem?_eq_none (Nat.le_of_not_lt hlt), undef]
    have hE0 := hE s
    rw [← hm s (by unfold O.names; rw [hgo]; simp)] at hE0
    split at hl
    · rename_i x e
      rw [e] at hE0
      have hv := hE0.inv_v
      rw [hwant _ hv]
      have again : ∀ c, x = c → ∀ t, lk ((s, .v (.bool c)) :: E) t = lk E t := fun c hx t => by
        subst hx
        simp only [lk]
        split
        · rename_i ht; subst ht; exact e.symm
        · rfl
      by_cases hxb : x = b
      · simp only [hxb, beq_self_eq_true, if_true]
        exact (runIt (again b hxb) (hl.1 hxb))
      · have hxb' : x = !b := by cases x <;> cases b <;> simp_all
        simp only [beq_eq_false_iff_ne.2 hxb, Bool.false_eq_true, if_false]
        exact ⟨fun _ _ => trivial, passIt (again (!b) hxb') (hl.2 hxb')⟩
    · rename_i e
      rw [e] at hE0
      have hv := hE0.inv_no
      rw [hwant _ hv]
      simp only [undef, Bool.false_eq_true, if_false]
      exact ⟨fun _ _ => trivial, passIt (fun _ => rfl) hl⟩
    · exact hl.elim

/-- What the compiler has looked at: the operations that read alone. -/
structure Pures (ol : List O) (pu : List Nat) : Prop where
  at_ : ∀ p ∈ pu, ∃ o d, ol[p]? = some o ∧ isReadC o.op = true ∧ o.guard = none ∧ o.dst = some d
  one : ∀ p ∈ pu, ∀ (j : Nat) o x d, ol[p]? = some o → ol[j]? = some x → o.dst = some d → j ≠ p → x.dst ≠ some d
  from_ : ∀ p ∈ pu, ∀ (j : Nat) o x d, ol[p]? = some o → ol[j]? = some x → x.dst = some d → d ∈ o.names → j ∈ pu ∧ j < p
  ahead : ∀ p ∈ pu, ∀ (j : Nat) o x d, ol[p]? = some o → ol[j]? = some x → o.dst = some d → j ≤ p → d ∉ x.names

theorem pureOK_spec {ol : List O} {pu : List Nat} (h : pureOK ol pu = true) : Pures ol pu := by
  have key : ∀ p ∈ pu, ∃ o d, ol[p]? = some o ∧ isReadC o.op = true ∧ o.guard = none ∧ o.dst = some d ∧ ∀ (j : Nat) x, ol[j]? = some x →
      (j = p ∨ x.dst ≠ some d) ∧ (∀ e, x.dst = some e → e ∈ o.names → j ∈ pu ∧ j < p) ∧ (p < j ∨ d ∉ x.names) := fun p hp => by
    have h1 := List.all_eq_true.1 h p hp
    split at h1
    rotate_left
    · simp at h1
    rename_i o ho
    simp only [Bool.and_eq_true] at h1
    obtain ⟨⟨⟨h2, h3⟩, h4⟩, h5⟩ := h1
    obtain ⟨d, hd⟩ := Option.isSome_iff_exists.1 h4
    refine ⟨o, d, ho, h2, by simpa using h3, hd, fun j x hx => ?_⟩
    have hj : j < ol.length := (List.getElem?_eq_some_iff.1 hx).1
    have h6 := List.all_eq_true.1 h5 j (List.mem_range.2 hj)
    rw [hx] at h6
    simp only [Bool.and_eq_true, Bool.or_eq_true, beq_iff_eq, bne_iff_ne, ne_eq, decide_eq_true_eq, hd] at h6
    obtain ⟨a1, a2, a3⟩ := h6
    refine ⟨a1, fun e he hn => ?_, ?_⟩
    · rw [he] at a2
      simp only [Bool.or_eq_true, Bool.not_eq_true', Bool.and_eq_true, decide_eq_true_eq] at a2
      rcases a2 with a2 | a2
      · have := List.contains_iff_mem.2 hn; rw [this] at a2; simp at a2
      · exact ⟨List.contains_iff_mem.1 a2.1, a2.2⟩
    · rcases a3 with a3 | a3
      · exact .inl a3
      · refine .inr fun hn => ?_
        have := List.contains_iff_mem.2 hn; rw [this] at a3; simp at a3
  refine ⟨fun p hp => ?_, fun p hp j o x d h1 h2 h3 h4 => ?_, fun p hp j o x d h1 h2 h3 h4 => ?_, fun p hp j o x d h1 h2 h3 h4 => ?_⟩
  · obtain ⟨o, d, k1, k2, k3, k4, -⟩ := key p hp
    exact ⟨o, d, k1, k2, k3, k4⟩
  all_goals
    obtain ⟨o', d', k1, k2, k3, k4, k5⟩ := key p hp
    rw [h1] at k1; cases k1
  · rw [h3] at k4; cases k4
    exact (k5 j x h2).1.resolve_left h4
  · exact (k5 j x h2).2.1 d h3 h4
  · rw [h3] at k4; cases k4
    exact (k5 j x h2).2.2.resolve_left (by omega)

theorem lot_alt {ol : List O} {anc : List (List Nat)} {f : Nat} {rem : List Nat} {st K : Env → Heap → Prop} {E : Env} {H : Heap} {i : Nat} {o : O} (hr : (anc.getD i []).all (fun j => !rem.contains j) = true) (ho : ol[i]? = some o) :
    ∀ {l : List Nat}, i ∈ l → lot P st (l.foldr (fun i more => if (anc.getD i []).all fun j => !rem.contains j then (match ol[i]? with
    | some o => .alt o (mkTree ol anc f (rem.erase i)) more
    | none => more) else more) .none) K E H → lops P [o] (fun E' H' => st E' H' ∧ lot P st (mkTree ol anc f (rem.erase i)) K E' H') E H
  | [], hi, _ => by simp at hi
  | j :: l, hi, h => by
    simp only [List.foldr_cons] at h
    by_cases hij : i = j
    · subst hij
      rw [if_pos hr, ho] at h
      exact h.1
    · have hi : i ∈ l := by rcases List.mem_cons.1 hi with h | h; exact absurd h hij; exact h
      split at h
      · split at h
        · exact lot_alt hr ho hi h.2
        · exact lot_alt hr ho hi h
      · exact lot_alt hr ho hi h

theorem isReadC_read {i : I} (h : isReadC i = true) : isRead i = true := by cases i <;> simp_all [isReadC, isRead]

/-- The slots of what has not been read yet. -/
def slotsOf (ol : List O) (pu : List Nat) (listed : Array Bool) : List Nat := (pu.filter fun p => !listed.getD p false).filterMap fun p => (ol[p]?).bind (·.dst)
theorem slotsOf_mem {ol : List O} {pu : List Nat} {listed : Array Bool} {t : Nat} : t ∈ slotsOf ol pu listed ↔ ∃ p ∈ pu, listed.getD p false = false ∧ ∃ o, ol[p]? = some o ∧ o.dst = some t := by
  unfold slotsOf
  simp only [List.mem_filterMap, List.mem_filter, Bool.not_eq_true', Option.bind_eq_some_iff]
  constructor
  · rintro ⟨p, ⟨h1, h2⟩, o, h3, h4⟩; exact ⟨p, h1, h2, o, h3, h4⟩
  · rintro ⟨p, h1, h2, o, h3, h4⟩; exact ⟨p, ⟨h1, h2⟩, o, h3, h4⟩

theorem stableO_congr {o : O} {E E' : Env} {H : Heap} {d : Nat} (hd : o.dst = some d) (h : ∀ t ∈ o.op.tmps, lk E t = lk E' t) (h2 : lk E d = lk E' d) (hs : stableO o E H) : stableO o E' H := by
  unfold stableO at hs ⊢
  rw [hd] at hs ⊢
  simp only at hs ⊢
  rw [← lopO_congr h, ← h2]; exact hs

theorem drawN_all {n : Nat} {ops : Array Oper} {ol : List O} {anc : List (List Nat)} {pu : List Nat} {K : Env → Heap → Prop} {Q : Exit → Act → World → Prop} {η₀ : List Nat} {S₀ : Nat → Prop} {w₀ : World}
    (hQ : ∀ E' H' η' S' w' a', K E' H' → At n ds η' S' w' a' E' H' → Le η₀ S₀ w₀ η' S' w' → Q .normal a' w') (lkd : Looked n ops ol anc P) (hp : Pures ol pu) :
    ∀ (fuel : Nat) (listed : Array Bool) (rem : List Nat) (E : Env) (H : Heap) (η : List Nat) (S : Nat → Prop) (w : World) (a : Act),
      DC anc listed → listed.size = ops.size → unl ops.size listed ≤ fuel → rem.Nodup → (∀ i, i ∈ rem ↔ i < ops.size ∧ i ∉ pu ∧ listed.getD i false = false) →
      (∀ p ∈ pu, ∀ o, ol[p]? = some o → stableO o E H) →
      lot P (fun E2 H2 => ∀ o ∈ pu.filterMap (ol[·]?), stableO o E2 H2) (mkTree ol anc rem.length rem) K E H →
      Conc η S w H → (∀ t, t ∉ slotsOf ol pu listed → Rel S w η (a.tmps.getD t undef) (lk E t)) → a.tmps.size = n → a.defers = ds → Le η₀ S₀ w₀ η S w →
      wpAnyIn (FW ro) 0 P .any ops Q fuel listed a w := by
  intro fuel
  induction fuel with
  | zero =>
    intro listed rem E H η S w a hdc hsz hu hnd hrem hst hlot hC hR hta htd hL
    have hall : ∀ i, i < ops.size → listed.getD i false = true := fun i hi => by
      cases h : listed.getD i false
      · have := unl_pos (N := ops.size) hi h; omega
      · rfl
    have hrn : rem = [] := List.eq_nil_iff_forall_not_mem.2 fun i hi => by
      obtain ⟨h1, -, h3⟩ := (hrem i).1 hi
      rw [hall i h1] at h3; simp at h3
    have hsl : ∀ t, t ∉ slotsOf ol pu listed := fun t ht => by
      obtain ⟨p, h1, h2, o, h3, -⟩ := slotsOf_mem.1 ht
      have : p < ol.length := (List.getElem?_eq_some_iff.1 h3).1
      rw [hall p (by rw [← lkd.len]; exact this)] at h2; simp at h2
    subst hrn
    refine ⟨List.eq_nil_iff_forall_not_mem.2 fun i hi => ?_, hQ _ _ _ _ _ _ hlot ⟨hC, fun t => hR t (hsl t), hta, htd⟩ hL⟩
    obtain ⟨h1, o, h2, -⟩ := ready_iff.1 hi
    have hi' : i < ops.size := (Array.getElem?_eq_some_iff.1 h2).1
    have := hall i hi'
    rw [agetD_of_lt _ _ (by omega)] at h1 this
    rw [h1] at this; simp at this
  | succ fuel ih =>
    intro listed rem E H η S w a hdc hsz hu hnd hrem hst hlot hC hR hta htd hL
    refine ⟨fun hre => ?_, fun i hir => ?_⟩
    · -- nothing is ready: all has run
      have hall : ∀ i, i < ops.size → listed.getD i false = true := fun i hi => by
        cases h : listed.getD i false with
        | true => rfl
        | false =>
          exfalso
          obtain ⟨k, hk, hku, hkl⟩ := exists_first (p := fun i => i < ops.size ∧ listed.getD i false = false) ⟨hi, h⟩
          have : k ∈ Region.ready .any ops listed := least_ready lkd hsz hku.1 hku.2 fun j hj => by
            cases hj2 : listed.getD j false with
            | true => rfl
            | false => exact absurd ⟨by omega, hj2⟩ (hkl j hj)
          rw [hre] at this; simp at this
      have hrn : rem = [] := List.eq_nil_iff_forall_not_mem.2 fun i hi => by
        obtain ⟨h1, -, h3⟩ := (hrem i).1 hi
        rw [hall i h1] at h3; simp at h3
      have hsl : ∀ t, t ∉ slotsOf ol pu listed := fun t ht => by
        obtain ⟨p, h1, h2, o, h3, -⟩ := slotsOf_mem.1 ht
        have : p < ol.length := (List.getElem?_eq_some_iff.1 h3).1
        rw [hall p (by rw [← lkd.len]; exact this)] at h2; simp at h2
      subst hrn
      exact hQ _ _ _ _ _ _ hlot ⟨hC, fun t => hR t (hsl t), hta, htd⟩ hL
    · obtain ⟨hi1, o, hop, hedge⟩ := ready_iff.1 hir
      have hi : i < ops.size := (Array.getElem?_eq_some_iff.1 hop).1
      have hil : i < listed.size := by omega
      have hif : listed.getD i false = false := by rw [agetD_of_lt _ _ hil] at hi1 ⊢; exact hi1
      have hanc := ready_anc lkd hdc hir
      obtain ⟨oo, hoo⟩ : ∃ oo, ol[i]? = some oo := ⟨_, List.getElem?_eq_getElem (by rw [lkd.len]; exact hi)⟩
      have hc := lkd.comp i o oo hop hoo
      have hdst : oo.dst = o.dst ∧ ∀ t, oo.dst = some t → t < n := by
        simp only [compO, Option.bind_eq_some_iff] at hc
        obtain ⟨ii, -, hc⟩ := hc
        split at hc
        rotate_left
        · simp at hc
        rename_i hd
        have : oo.dst = o.dst := by
          cases hg : o.guard with
          | none => simp only [hg, Option.some.injEq] at hc; subst hc; rfl
          | some jb => obtain ⟨j, b⟩ := jb; simp only [hg, Option.map_eq_some_iff] at hc; obtain ⟨s, -, rfl⟩ := hc; rfl
        exact ⟨this, fun t ht => by rw [this] at ht; rw [ht] at hd; simpa [dstOk] using hd⟩
      -- what it names is known
      have hnames : ∀ t ∈ oo.names, t ∉ slotsOf ol pu listed := fun t ht hs => by
        obtain ⟨q, q1, q2, x, q3, q4⟩ := slotsOf_mem.1 hs
        by_cases hqi : q < i
        · have := hanc q (lkd.t1 q i x oo t hqi q3 hoo q4 (.inl ht))
          rw [this] at q2; simp at q2
        · exact hp.ahead q q1 i x oo t q3 hoo q4 (by omega) ht
      have hmask : ∀ t ∈ oo.names, lk E t = lk ((slotsOf ol pu listed).map (fun d => (d, L.any)) ++ E) t := fun t ht => by rw [lk_mask, if_neg (hnames t ht)]
      have hRE : REnv η S w a.tmps ((slotsOf ol pu listed).map (fun d => (d, L.any)) ++ E) := fun t => by
        rw [lk_mask]
        split
        · exact .any _
        · rename_i h; exact hR t h
      have hput : ∀ (v : Value) (t : Nat), (a.put o.dst v).tmps.getD t undef = if oo.dst = some t then v else a.tmps.getD t undef := fun v t => by
        rw [hdst.1]
        cases hd : o.dst with
        | none => simp [Act.put]
        | some d =>
          have hdn : d < a.tmps.size := by rw [hta]; exact hdst.2 d (by rw [hdst.1]; exact hd)
          simp only [Act.put, Option.some.injEq]
          by_cases e : d = t
          · subst e; simp [Array.getD_eq_getD_getElem?, hdn]
          · simp [Array.getD_eq_getD_getElem?, e]
      have hput2 : ∀ v, (a.put o.dst v).tmps.size = n ∧ (a.put o.dst v).defers = ds := fun v => by
        cases o.dst <;> simp [Act.put, hta, htd]
      have hunl : unl ops.size (listed.setIfInBounds i true) ≤ fuel := by have := unl_step hil hi hif; omega
      have hdc' := hdc.step lkd hir hil
      by_cases hpi : i ∈ pu
      · -- a read
        obtain ⟨oo', d, k1, k2, k3, k4⟩ := hp.at_ i hpi
        rw [hoo] at k1; cases k1
        have hs := hst i hpi oo hoo
        unfold stableO at hs
        rw [k4] at hs
        simp only at hs
        have hl1 : lops P [oo] (fun E' H' => lk E' d = lk E d ∧ H' = H) E H := by
          simp only [lops, lguard, k3, k4]
          have e0 : lk (putE E (some d) (lk E d)) d = lk E d := by simp [putE, lk]
          cases hopp : oo.op <;> rw [hopp] at hs k2 <;> first | (simp [isReadC] at k2; done) | exact ⟨_, hs, e0, rfl⟩
        refine masked_sound hc hl1 hmask hC hRE ?_ hop
        intro v l E1 H' η' S' w' he hK hr hC' hL'
        obtain ⟨hK1, rfl⟩ := hK
        have hl : l = lk E d := by rw [← hK1, k4]; simp [putE, lk]
        subst hl
        refine ih _ rem E H' η' S' w' (a.put o.dst v) hdc' (by simp [hsz]) hunl hnd (fun j => ?_) hst hlot hC' (fun t ht => ?_) (hput2 v).1 (hput2 v).2 (hL.trans hL')
        · rw [hrem j, set_getD hil]
          by_cases hji : j = i
          · subst hji; simp [hpi]
          · simp [hji]
        · rw [hput]
          by_cases e : oo.dst = some t
          · rw [if_pos e]
            rw [k4] at e; cases e
            exact hr
          · rw [if_neg e]
            refine (hR t fun hs' => ht ?_).le hL'
            obtain ⟨q, q1, q2, x, q3, q4⟩ := slotsOf_mem.1 hs'
            refine slotsOf_mem.2 ⟨q, q1, ?_, x, q3, q4⟩
            rw [set_getD hil]
            by_cases hqi : q = i
            · subst hqi; rw [hoo] at q3; cases q3; exact absurd q4 e
            · rw [if_neg hqi]; exact q2
      · -- one of the others
        have hir2 : i ∈ rem := (hrem i).2 ⟨hi, hpi, hif⟩
        obtain ⟨f, hf⟩ : ∃ f, rem.length = f + 1 := ⟨rem.length - 1, by have := List.length_pos_of_mem hir2; omega⟩
        rw [hf] at hlot
        have hl1 := lot_alt (P := P) (ol := ol) (anc := anc) (f := f) (rem := rem) (i := i) (o := oo) (List.all_eq_true.2 fun j hj => by
          have := hanc j hj
          cases hcj : rem.contains j
          · rfl
          · have := ((hrem j).1 (List.contains_iff_mem.1 hcj)).2.2
            simp_all) hoo hir2 hlot
        refine masked_sound hc hl1 hmask hC hRE ?_ hop
        intro v l E1 H' η' S' w' he hK hr hC' hL'
        obtain ⟨hK1, hK2⟩ := hK
        have hlen : f = (rem.erase i).length := by rw [List.length_erase_of_mem hir2]; omega
        rw [hlen] at hK2
        refine ih _ (rem.erase i) (putE E1 oo.dst l) H' η' S' w' (a.put o.dst v) hdc' (by simp [hsz]) hunl (hnd.erase i) (fun j => ?_) (fun p hpp x hx => hK1 x (List.mem_filterMap.2 ⟨p, hpp, hx⟩)) hK2 hC' (fun t ht => ?_) (hput2 v).1 (hput2 v).2 (hL.trans hL')
        · rw [hnd.mem_erase_iff, hrem j, set_getD hil]
          by_cases hji : j = i
          · subst hji; simp
          · simp [hji]
        · rw [hput, lk_putE]
          by_cases e : oo.dst = some t
          · rw [if_pos e, if_pos e]; exact hr
          · rw [if_neg e, if_neg e, he]
            refine (hR t fun hs' => ht ?_).le hL'
            obtain ⟨q, q1, q2, x, q3, q4⟩ := slotsOf_mem.1 hs'
            refine slotsOf_mem.2 ⟨q, q1, ?_, x, q3, q4⟩
            rw [set_getD hil, if_neg (fun e : q = i => hpi (e ▸ q1))]; exact q2

/-- Reads, one after another: nothing but their slots is new. -/
theorem lops_reads {K : Env → Heap → Prop} : ∀ {l : List O} {E : Env} {H : Heap}, (∀ o ∈ l, o.guard = none ∧ isReadC o.op = true) → lops P l K E H →
    ∃ E' H', K E' H' ∧ ∀ t, (∀ o ∈ l, o.dst ≠ some t) → lk E' t = lk E t
  | [], E, H, _, h => ⟨E, H, h, fun _ _ => rfl⟩
  | o :: l, E, H, hr, h => by
    obtain ⟨hg, hrd⟩ := hr o List.mem_cons_self
    simp only [lops, lguard, hg] at h
    have key : ∃ x H1, lops P l K (putE E o.dst x) H1 := by
      cases hopp : o.op <;> rw [hopp] at h hrd <;> first | (simp [isReadC] at hrd; done) | exact ⟨_, _, h.choose_spec.2⟩
    obtain ⟨x, H1, h1⟩ := key
    obtain ⟨E', H', k1, k2⟩ := lops_reads (fun o ho => hr o (List.mem_cons_of_mem _ ho)) h1
    refine ⟨E', H', k1, fun t ht => ?_⟩
    rw [k2 t fun o ho => ht o (List.mem_cons_of_mem _ ho), lk_putE, if_neg (ht o List.mem_cons_self)]

theorem drawN_sound {n : Nat} {ops : Array Oper} {bs : List (List O)} (hbs : compDraw P n ops = some bs) {r : List O × OT} (hr : nOf ops bs = some r) {K : X → Env → Heap → Prop} {Q : Exit → Act → World → Prop}
    {E : Env} {H : Heap} {η η₀ : List Nat} {S S₀ : Nat → Prop} {w w₀ : World} {a : Act} (hl : lwp P η₀.length (.drawN r.1 r.2) K E H) (hA : At n ds η S w a E H) (hL : Le η₀ S₀ w₀ η S w) {id : Nat}
    (hQ : ∀ E' H' η' S' w' a', K .normal E' H' → At n ds η' S' w' a' E' H' → Le η₀ S₀ w₀ η' S' w' → (Marks w₀.heap.size ds η S w → Marks w₀.heap.size ds η' S' w') → Q .normal a' w') : (Code.region id ops true).wpIn (FW ro) 0 P Q a w := by
  obtain ⟨ol, lkd, m1, m5, hflat⟩ := draw_looked hbs
  unfold nOf at hr
  simp only [hflat] at hr
  split at hr
  rotate_left
  · simp at hr
  rename_i hpo
  have hp := pureOK_spec hpo
  simp only [Option.some.injEq] at hr
  subst hr
  simp only [lwp] at hl
  have hmem : ∀ o ∈ (pureOf ol).filterMap (ol[·]?), ∃ p ∈ pureOf ol, ol[p]? = some o := fun o ho => List.mem_filterMap.1 ho
  obtain ⟨E', H', ⟨rfl, hst, I, hlot, hI⟩, hE⟩ := lops_reads (fun o ho => by
    obtain ⟨p, hpp, h1⟩ := hmem o ho
    obtain ⟨o', d, k1, k2, k3, -⟩ := hp.at_ p hpp
    rw [h1] at k1; cases k1
    exact ⟨k3, k2⟩) hl
  refine wpIn_region_any m1 ?_
  have hL1 : Le η S w η S { w with drawn := w.drawn + 1 } := Le.heap rfl rfl rfl rfl
  refine drawN_all (K := fun E1 H1 => I E1 H1 ∨ ∃ E2 H2, weakZ η₀.length E1 H1 E2 H2 ∧ I E2 H2) (η₀ := η) (S₀ := S) (w₀ := w) (fun E1 H1 η1 S1 w1 a1 hK hA1 hLe1 => ?_) lkd hp ops.size _
    ((List.range ol.length).filter fun i => !(pureOf ol).contains i) E' H' η S _ a (fun j hj => ?_) (by simp) ?_ (List.nodup_range.filter _) (fun i => ?_) (fun p hpp o ho => hst o (List.mem_filterMap.2 ⟨p, hpp, ho⟩))
    hlot (hA.conc.heap rfl) (fun t ht => ?_) hA.size hA.defers hL1
  · rcases hK with hK | ⟨E2, H2, hw, hI2⟩
    · exact hQ _ _ _ _ _ _ (hI _ _ hK) hA1 (hL.trans hLe1) (fun h => h.le hLe1)
    obtain ⟨η2, S2, k1, k2, k3, k4⟩ := hA1.weakZ (hL.trans hLe1) hw
    exact hQ _ _ _ _ _ _ (hI _ _ hI2) k1 k2 (fun h => (h.le hLe1).sub k3 k4)
  · exfalso
    rw [Array.getD_eq_getD_getElem?] at hj
    by_cases h : j < ops.size <;> simp [h] at hj
  · unfold unl
    exact Nat.le_trans List.countP_le_length (by simp)
  · have hz : (Array.replicate ops.size false).getD i false = false := by
      by_cases h : i < ops.size <;> simp [Array.getD_eq_getD_getElem?, h]
    simp [hz, lkd.len]
  · rw [hE t fun o ho e => ht ?_]
    · exact (hA.env t).le hL1
    · obtain ⟨p, hpp, h1⟩ := hmem o ho
      refine slotsOf_mem.2 ⟨p, hpp, ?_, o, h1, e⟩
      by_cases h : p < ops.size <;> simp [Array.getD_eq_getD_getElem?, h]

end
end Lg
