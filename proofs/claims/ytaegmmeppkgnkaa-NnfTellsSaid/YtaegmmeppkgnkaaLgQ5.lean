/- Regions whose order of evaluation is open: the whole region. -/
import Derived.Test.YtaegmmeppkgnkaaLgQ4
namespace Lg
open Go

theorem pieces_flatten {anc : List (List Nat)} {n : Nat} : ∀ {rest cur : List O} {p : Nat}, (pieces anc n p cur rest).flatten = cur ++ rest
  | [], cur, p => by simp [pieces]
  | o :: rest, cur, p => by
    simp only [pieces]
    split
    · simp [pieces_flatten]
    · rw [pieces_flatten]; simp

theorem Le.widen {η₀ : List Nat} {S₀ : Nat → Prop} {w₀ : World} {η : List Nat} {S : Nat → Prop} {w : World} (h : Le η₀ S₀ w₀ η S w) {ζ : List Nat} (hζ : ∀ b ∈ ζ, w₀.heap.size ≤ b) : Le η₀ S₀ w₀ (η ++ ζ) S w := by
  obtain ⟨ξ, e, hξ⟩ := h.pre
  refine ⟨⟨ξ ++ ζ, by rw [e, List.append_assoc], fun b hb => ?_⟩, h.sub, h.keep, h.shape, h.size, h.frame, h.new, h.os, h.tape, h.output⟩
  rcases List.mem_append.1 hb with hb | hb
  · exact hξ b hb
  · exact .inr (hζ b hb)

section
variable {ds : List Deferred} {ro : Option Nat} {P : Program} {n : Nat} {ops : Array Oper} {ol : List O} {anc : List (List Nat)} {K C : Env → Heap → Prop} {Q : Exit → Act → World → Prop} {η₀ : List Nat} {S₀ : Nat → Prop} {w₀ : World}

/-- The pieces that are left lie behind place p. -/
structure Lies (ops : Array Oper) (ol : List O) (anc : List (List Nat)) (p : Nat) (bs : List (List O)) (listed : Array Bool) : Prop where
  ok : piecesOK anc ol.length p bs = true
  eq : ol.drop p = bs.flatten
  size : listed.size = ops.size

def StartOK (ds : List Deferred) (ro : Option Nat) (P : Program) (n : Nat) (ops : Array Oper) (ol : List O) (anc : List (List Nat)) (C : Env → Heap → Prop) (Q : Exit → Act → World → Prop) (η₀ : List Nat) (S₀ : Nat → Prop) (w₀ : World) (f : Nat) (bs : List (List O)) : Prop :=
  ∀ p listed E H η S w a, Lies ops ol anc p bs listed → (∀ j, j < p → listed.getD j false = true) → (∀ j, p ≤ j → listed.getD j false = false) → unl ops.size listed ≤ f →
    C E H → At n ds η S w a E H → Le η₀ S₀ w₀ η S w → wpAnyIn (FW ro) 0 P .any ops Q f listed a w

def MidOK (ds : List Deferred) (ro : Option Nat) (P : Program) (n : Nat) (ops : Array Oper) (ol : List O) (anc : List (List Nat)) (C : Env → Heap → Prop) (Q : Exit → Act → World → Prop) (η₀ : List Nat) (S₀ : Nat → Prop) (w₀ : World) (f : Nat) (blk : List O) (bs : List (List O)) : Prop :=
  ∀ p listed E H outs E' wb β η S w a, Lies ops ol anc p (blk :: bs) listed → unl ops.size listed ≤ f → Mid n ds anc p blk outs E H wb β listed η S w a → Runs P H E blk outs → (∀ t, lk E' t = lk (foldE E blk outs) t) →
    PutsOK blk outs [] → addNews (finNews outs (newsOf blk outs)) E' H C → Le η₀ S₀ w₀ η S w → w₀.heap.size ≤ wb → wpAnyIn (FW ro) 0 P .any ops Q f listed a w

theorem Lies.next {p : Nat} {blk : List O} {bs : List (List O)} {listed listed' : Array Bool} (h : Lies ops ol anc p (blk :: bs) listed) (hs : listed'.size = listed.size) : Lies ops ol anc (p + blk.length) bs listed' := by
  refine ⟨?_, ?_, hs.trans h.size⟩
  · have := h.ok
    simp only [piecesOK, Bool.and_eq_true] at this
    exact this.2
  · have := congrArg (List.drop blk.length) h.eq
    simpa [List.drop_drop] using this

theorem Lies.get {p : Nat} {blk : List O} {bs : List (List O)} {listed : Array Bool} (h : Lies ops ol anc p (blk :: bs) listed) {i : Nat} {o : O} (ho : blk[i]? = some o) : ol[p + i]? = some o := by
  have := congrArg (·[i]?) h.eq
  simp only [List.getElem?_drop, List.flatten_cons] at this
  rw [this, List.getElem?_append_left (List.getElem?_eq_some_iff.1 ho).1]
  exact ho

theorem Lies.cut {p : Nat} {blk : List O} {bs : List (List O)} {listed : Array Bool} (h : Lies ops ol anc p (blk :: bs) listed) : cutAt anc ol.length (p + blk.length) = true := by
  have := h.ok
  simp only [piecesOK, Bool.and_eq_true] at this
  exact this.1.2

theorem Lies.pos {p : Nat} {blk : List O} {bs : List (List O)} {listed : Array Bool} (h : Lies ops ol anc p (blk :: bs) listed) : 0 < blk.length := by
  have := h.ok
  simp only [piecesOK, Bool.and_eq_true, Bool.not_eq_true', List.isEmpty_eq_false_iff] at this
  exact List.length_pos_iff.2 this.1.1

theorem ready_lt {listed : Array Bool} {i : Nat} (h : i ∈ Region.ready .any ops listed) : i < ops.size := by
  obtain ⟨-, o, ho, -⟩ := ready_iff.1 h
  rcases Nat.lt_or_ge i ops.size with h | h
  · exact h
  · simp [Array.getElem?_eq_none h] at ho

theorem ready_un {listed : Array Bool} (hs : listed.size = ops.size) {i : Nat} (h : i ∈ Region.ready .any ops listed) : listed.getD i false = false := by
  have h1 := (ready_iff.1 h).1
  have h2 := ready_lt h
  rw [agetD_of_lt _ _ (by omega)] at h1 ⊢; exact h1

theorem start_nil (hQ : ∀ E' H' η' S' w' a', K E' H' → At n ds η' S' w' a' E' H' → Le η₀ S₀ w₀ η' S' w' → Q .normal a' w') (lkd : Looked n ops ol anc P) (f : Nat) : StartOK ds ro P n ops ol anc K Q η₀ S₀ w₀ f [] := by
  intro p listed E H η S w a hl h1 h2 h3 hd hA hL
  have hq : Q .normal a w := hQ _ _ _ _ _ _ hd hA hL
  have hlen : ol.length ≤ p := by
    have := congrArg List.length hl.eq
    simp at this; omega
  have hr : Region.ready .any ops listed = [] := by
    refine List.eq_nil_iff_forall_not_mem.2 fun i hi => ?_
    have := ready_un hl.size hi
    have hlt := ready_lt hi
    rw [h1 i (by rw [← lkd.len] at hlt; omega)] at this
    simp at this
  cases f with
  | zero => exact ⟨hr, hq⟩
  | succ f => exact ⟨fun _ => hq, fun i hi => by rw [hr] at hi; simp at hi⟩

/-- A store to a row that was made in the piece has run. -/
theorem Mid.put {p : Nat} {blk : List O} {outs : List Out} {E : Env} {H : Heap} {wb : Nat} {β : Nat → Nat} {listed : Array Bool} {η : List Nat} {S : Nat → Prop} {w : World} {a : Act} (lkd : Looked n ops ol anc P) (hM : Mid n ds anc p blk outs E H wb β listed η S w a)
    (hblk : ∀ (i : Nat) o, blk[i]? = some o → ol[p + i]? = some o) (hsz : listed.size = ops.size) {i : Nat} {o : O} {d : Nat} {l : L} (ho : blk[i]? = some o) (hout : outs[i]? = some (.put d l)) (hr : p + i ∈ Region.ready .any ops listed)
    {k : Nat} {ok : O} {cs : List L} {mk : Nat → L} (hk : blk[k]? = some ok) (hko : outs[k]? = some (.new cs mk)) (hkd : ok.dst = some d) (hone : ∀ (k' : Nat) o', blk[k']? = some o' → o'.dst = some d → k' = k) (honce : ∀ (j : Nat) l', outs[j]? = some (.put d l') → j = i) (hdn : o.dst = none)
    {w' : World} (q : Le (η ++ [β k]) S w (η ++ [β k]) S w') (hsame : ∀ b, b ≠ β k → w'.heap[b]? = w.heap[b]?) (qC : Conc η S w' H) (hnew : Holds η S w' (β k) (setCells cs 0 l.cells)) (hkl : listed.getD (p + k) false = true) :
    Mid n ds anc p blk outs E H wb β (listed.setIfInBounds (p + i) true) η S w' a := by
  have hib : i < blk.length := (List.getElem?_eq_some_iff.1 ho).1
  have hin : p + i < listed.size := by
    have := (List.getElem?_eq_some_iff.1 (hblk i o ho)).1
    rw [hsz, ← lkd.len]; exact this
  have hg : ∀ j, (listed.setIfInBounds (p + i) true).getD j false = if j = p + i then true else listed.getD j false := set_getD hin
  have hg' : ∀ j, (listed.setIfInBounds (p + i) true).getD (p + j) false = if j = i then true else listed.getD (p + j) false := fun j => by
    rw [hg]; by_cases h : j = i
    · simp [h]
    · rw [if_neg (by omega), if_neg h]
  have up : ∀ {x l}, Rel S w η x l → Rel S w' η x l := fun h => h.mono q.sub q.keep q.shape (fun _ _ h => h)
  have hnotnew : ∀ {j : Nat} {cs mk}, outs[j]? = some (.new cs mk) → j ≠ i := fun h e => by subst e; rw [hout] at h; simp at h
  refine ⟨fun j hj => ?_, fun j hj => ?_, hM.dc.step lkd hr hin, qC, hM.size, hM.defers, fun t => ?_, ⟨Nat.le_trans hM.wbd.1 q.size, hM.wbd.2⟩, fun j cs' mk' hj hl => ?_, fun j j' cs' mk' cs'' mk'' h1 h2 l1 l2 hb => ?_⟩
  · rw [hg, if_neg (by omega)]; exact hM.pre j hj
  · rw [hg, if_neg (by omega)]; exact hM.post j hj
  · have := valAt_congr (E := E) (blk := blk) (outs := outs) (M := fun j => (listed.setIfInBounds (p + i) true).getD (p + j) false) (M' := fun j => listed.getD (p + j) false) (t := t) (n := blk.length) (fun j h1 h2 => by
      rw [hg', if_neg (fun e => by subst e; rw [ho] at h2; simp [hdn] at h2)])
    rw [this]
    exact up (hM.rel t)
  · have hji := hnotnew hj
    rw [hg', if_neg hji] at hl
    obtain ⟨k1, k2, k3, k4⟩ := hM.priv j cs' mk' hj hl
    refine ⟨k1, k2, ?_, fun d' hd' => (k4 d' hd').mono q.sub q.keep q.shape (fun _ _ h => h)⟩
    by_cases hjk : j = k
    · subst hjk
      rw [hko] at hj
      cases hj
      rw [hk]
      simp only [Option.bind_some, hkd]
      rw [putsTo_at hout (by rw [hg']; simp) honce]
      exact hnew
    · have hsamep : putsTo outs (fun k => (listed.setIfInBounds (p + i) true).getD (p + k) false) ((blk[j]?).bind (·.dst)) = putsTo outs (fun k => listed.getD (p + k) false) ((blk[j]?).bind (·.dst)) := putsTo_congr fun m d' l' hm hd => by
        rw [hg', if_neg (fun e => ?_)]
        subst e
        rw [hout] at hm
        cases hm
        obtain ⟨oj, hoj⟩ : ∃ oj, blk[j]? = some oj := by
          cases e : blk[j]? with
          | none => simp [e] at hd
          | some oj => exact ⟨oj, rfl⟩
        rw [hoj] at hd
        exact hjk (hone j oj hoj hd)
      rw [hsamep]
      have hbne : β j ≠ β k := fun e => hjk (hM.inj j k cs' mk' cs mk hj hko hl hkl e)
      obtain ⟨c, t, fr, m1, m2, m3, m4⟩ := k3
      exact ⟨c, t, fr, by rw [hsame _ hbne]; exact m1, m2, m3, fun m hm => up (m4 m hm)⟩
  · rw [hg', if_neg (hnotnew h1)] at l1
    rw [hg', if_neg (hnotnew h2)] at l2
    exact hM.inj j j' cs' mk' cs'' mk'' h1 h2 l1 l2 hb

/-- One more operation of a piece. -/
theorem mid_op (lkd : Looked n ops ol anc P) {p : Nat} {blk : List O} {outs : List Out} {E : Env} {H : Heap} {wb : Nat} {β : Nat → Nat} {listed : Array Bool} {η : List Nat} {S : Nat → Prop} {w : World} {a : Act} {next : Act → World → Prop}
    (hget : ∀ (i : Nat) o, blk[i]? = some o → ol[p + i]? = some o) (hsz : listed.size = ops.size) (hm : Mid n ds anc p blk outs E H wb β listed η S w a) (hr : Runs P H E blk outs) (hpo : PutsOK blk outs []) {i' : Nat} (hi : p + i' ∈ Region.ready .any ops listed) (hi' : i' < blk.length)
    (hL : Le η₀ S₀ w₀ η S w) (hwb : w₀.heap.size ≤ wb) (hn : ∀ β' S' w' a', Mid n ds anc p blk outs E H wb β' (listed.setIfInBounds (p + i') true) η S' w' a' → Le η₀ S₀ w₀ η S' w' → next a' w') : wpOpIn (FW ro) 0 P ops Q (p + i') next a w := by
  have hun := ready_un hsz hi
  have hlt := ready_lt hi
  obtain ⟨hlen, hat⟩ := hr.at
  have ho := List.getElem?_eq_getElem hi'
  have hout := List.getElem?_eq_getElem (show i' < outs.length by omega)
  have hop := Array.getElem?_eq_getElem hlt
  have hc := lkd.comp _ _ _ hop (hget _ _ ho)
  have hok := hat i' _ _ ho hout
  have hnew : ∀ (j : Nat) y cs mk, blk[j]? = some y → outs[j]? = some (.new cs mk) → isNew y.op = true := fun j y cs mk h1 h2 => (lnew_lop (H := H) (hat j y _ h1 h2).2).2
  have hdst : blk[i'].dst = ops[p + i'].dst ∧ ∀ t, ops[p + i'].dst = some t → t < n := by
    simp only [compO, Option.bind_eq_some_iff] at hc
    obtain ⟨ii, hii, hc⟩ := hc
    split at hc
    rotate_left
    · simp at hc
    rename_i hd
    refine ⟨?_, fun t ht => by rw [ht] at hd; simpa [dstOk] using hd⟩
    cases hg : ops[p + i'].guard with
    | none => simp only [hg, Option.some.injEq] at hc; rw [← hc]
    | some jb => obtain ⟨j, b⟩ := jb; simp only [hg, Option.map_eq_some_iff] at hc; obtain ⟨s, -, hc⟩ := hc; rw [← hc]
  have hputs : ∀ (k : Nat) d l, outs[k]? = some (.put d l) → ∃ y, blk[k]? = some y ∧ storesTo y = some d := hr.put_op.2
  have hone : ∀ (k k' : Nat) o o' cs mk d, blk[k]? = some o → blk[k']? = some o' → outs[k]? = some (.new cs mk) → o.dst = some d → o'.dst = some d → k' = k := fun k k' o o' cs mk d h1 h2 h3 h4 h5 => by
    apply Classical.byContradiction
    intro hne
    exact lkd.t3 (p + k) (p + k') o o' d (by omega) (hget _ _ h1) (hget _ _ h2) (hnew k o cs mk h1 h3) h4 h5
  have hbefore : ∀ (k : Nat) d l, outs[k]? = some (.put d l) → ∀ (j : Nat) cs mk, outs[j]? = some (.new cs mk) → (blk[j]?).bind (·.dst) = some d → k ≤ j → False := fun k d l h1 j cs mk h2 h3 h4 => by
    rcases hpo.made k d l h1 with ⟨e, he, -⟩ | ⟨k0, o0, cs0, mk0, g1, g2, g3, g4, g5⟩
    · simp at he
    · obtain ⟨oj, hoj⟩ : ∃ oj, blk[j]? = some oj := by
        cases e : blk[j]? with
        | none => simp [e] at h3
        | some oj => exact ⟨oj, rfl⟩
      rw [hoj] at h3
      have := hone k0 j o0 oj cs0 mk0 d g2 hoj g3 g4 h3
      omega
  have hRE : ∀ t ∈ blk[i'].names, Rel S w η (a.tmps.getD t undef) (lk (foldE E (blk.take i') (outs.take i')) t) := fun t ht => by
    have h1 := hm.rel t
    rw [valAt_stop (k := i') (by omega) (fun j h1 h2 h3 => by
      by_cases hji : j = i'
      · subst hji; exact hun
      · cases hlj : listed.getD (p + j) false with
        | false => rfl
        | true =>
          exfalso
          obtain ⟨y, hy⟩ : ∃ y, blk[j]? = some y := ⟨_, List.getElem?_eq_getElem h2⟩
          rw [hy] at h3
          have := lkd.t2 (p + i') (p + j) _ y t (by omega) (hget _ _ ho) (hget _ _ hy) h3 ht
          have := hm.dc _ hlj _ this
          rw [hun] at this; simp at this)] at h1
    rw [valAt_congr (M' := fun _ => true) (fun j h2 h3 => by
      obtain ⟨y, hy⟩ : ∃ y, blk[j]? = some y := ⟨_, List.getElem?_eq_getElem (show j < blk.length by omega)⟩
      rw [hy] at h3
      exact ready_anc lkd hm.dc hi _ (lkd.t1 (p + j) (p + i') y _ t (by omega) (hget _ _ hy) (hget _ _ ho) h3 (.inl ht))), valAt_fold hlen (by omega)] at h1
    exact h1
  by_cases hput : ∃ d l, outs[i'] = .put d l
  · obtain ⟨d, l, hpl⟩ := hput
    have hout' : outs[i']? = some (.put d l) := by rw [hout, hpl]
    rw [hpl] at hok
    rcases hpo.made i' d l hout' with ⟨e, he, -⟩ | ⟨k, ok, cs, mk, g1, g2, g3, g4, g5, g6⟩
    · simp at he
    obtain ⟨y, hy1, hy2⟩ := hputs i' d l hout'
    have hyo : y = blk[i'] := by rw [ho] at hy1; exact (Option.some.inj hy1).symm
    subst hyo
    have hkl : listed.getD (p + k) false = true := ready_anc lkd hm.dc hi _ (lkd.t1 (p + k) (p + i') ok _ d (by omega) (hget _ _ g2) (hget _ _ ho) g4 (.inl (storesTo_names hy2)))
    have hnone : putsTo outs (fun i => listed.getD (p + i) false) (some d) = none := putsTo_none fun j d' l' hj hd => by
      cases hd
      have := hpo.once j i' d l' l hj hout'
      subst this
      exact hun
    obtain ⟨p1, p2, p3, p4⟩ := hm.priv k cs mk g3 hkl
    rw [g2] at p3 p4
    simp only [Option.bind_some, g4] at p3 p4
    rw [hnone] at p3
    have hptr : a.tmps.getD d undef = .pointer (some ⟨β k, 0, none⟩) := by
      have := p4 d rfl
      have hm0 : mk 0 = .ptr 0 0 := by
        revert g5; unfold isP0; split
        · rename_i e; intro _; exact e
        · simp
      rw [hm0] at this
      obtain ⟨b, hb1, hb2, -⟩ := this.inv_ptr
      simp at hb2
      rw [hb1, hb2]
    have hβη : β k ∉ η := fun hm' => by have := hm.wbd.2 _ hm'; omega
    have hdn : ops[p + i'].dst = none := by
      obtain ⟨-, hd0, -⟩ := hok
      rw [← hdst.1]; exact hd0
    refine piece_put (E := foldE E (blk.take i') (outs.take i')) hc hok hm.conc hRE hop p3 p2 hβη hptr g6 ?_
    intro w' k1 k2 k3 k4
    have hm' := Mid.put lkd hm (fun i o h => hget _ _ h) hsz ho hout' hi g2 g3 g4 (fun k' o' h1 h2 => hone k k' ok o' cs mk d g2 h1 g3 g4 h2) (fun j l' hj => hpo.once j i' d l' l hj hout') (by rw [hdst.1, hdn]) k1 k2 k3 k4 hkl
    have hLb : Le η₀ S₀ w₀ η S w' := by
      have := (hL.widen (ζ := [β k]) (fun b hb => by simp at hb; omega)).trans k1
      exact ⟨hL.pre, this.sub, this.keep, this.shape, this.size, this.frame, this.new, this.os, this.tape, this.output⟩
    exact hn _ _ _ _ hm' hLb
  · have hnp : ∀ d l, outs[i'] ≠ .put d l := fun d l e => hput ⟨d, l, e⟩
    refine piece_op (E := foldE E (blk.take i') (outs.take i')) hc hok hm.conc hRE hop hnp ?_
    intro v S' w' k1 k2 k3 k4
    rw [← hdst.1]
    have hm' := Mid.step lkd hm (fun i o h => hget _ _ h) hsz ho hout hi hnew (fun t ht => hdst.2 t (by rw [← hdst.1]; exact ht)) k1 k2 k3 k4 hnp hputs hbefore
    exact hn _ _ _ _ hm' (hL.trans k1)

theorem mid_step (lkd : Looked n ops ol anc P) {f : Nat} {blk : List O} {bs : List (List O)} (hS : StartOK ds ro P n ops ol anc C Q η₀ S₀ w₀ f bs) (hM : ∀ f', f = f' + 1 → MidOK ds ro P n ops ol anc C Q η₀ S₀ w₀ f' blk bs) : MidOK ds ro P n ops ol anc C Q η₀ S₀ w₀ f blk bs := by
  intro p listed E H outs E' wb β η S w a hl hf hm hr he hpo hk hL hwb
  by_cases hall : ∀ i, i < blk.length → listed.getD (p + i) false = true
  · obtain ⟨E'', H'', η', k1, k2, ζ, rfl, k3⟩ := hm.done hall hr he hk
    refine hS (p + blk.length) listed E'' H'' _ S w a (hl.next rfl) (fun j hj => ?_) hm.post hf k1 k2 (hL.widen fun b hb => Nat.le_trans hwb (k3 b hb))
    by_cases hjp : j < p
    · exact hm.pre j hjp
    · have := hall (j - p) (by omega)
      rwa [show p + (j - p) = j by omega] at this
  · have ⟨k, hk1, hk2⟩ : ∃ k, k < blk.length ∧ listed.getD (p + k) false = false := by
      apply Classical.byContradiction
      intro hno
      refine hall fun i hi => ?_
      cases h : listed.getD (p + i) false with
      | true => rfl
      | false => exact absurd ⟨i, hi, h⟩ hno
    have in_ol : ∀ i, i < blk.length → p + i < ops.size := fun i hi => by
      have := (List.getElem?_eq_some_iff.1 (hl.get (List.getElem?_eq_getElem hi))).1
      rw [← lkd.len]; exact this
    cases f with
    | zero =>
      exfalso
      have := unl_pos (N := ops.size) (in_ol k hk1) hk2
      omega
    | succ f =>
      refine ⟨fun hnil => ?_, fun i hi => ?_⟩
      · exfalso
        obtain ⟨m, h1, h2, h3⟩ := exists_first (p := fun j => listed.getD j false = false) hk2
        have h4 := in_ol k hk1
        have := least_ready lkd hl.size (i := m) (by omega) h2 (fun j hj => by
          cases h : listed.getD j false with
          | true => rfl
          | false => exact absurd h (h3 j hj))
        rw [hnil] at this; simp at this
      · have hun := ready_un hl.size hi
        have hlt := ready_lt hi
        have hp : p ≤ i := by
          rcases Nat.lt_or_ge i p with h | h
          · rw [hm.pre i h] at hun; simp at hun
          · exact h
        have hib : i < p + blk.length := by
          rcases Nat.lt_or_ge i (p + blk.length) with h | h
          · exact h
          · have hin := cutAt_spec hl.cut (k := i) (j := p + k) (by rw [lkd.len]; exact hlt) h (by omega)
            have := ready_anc lkd hm.dc hi _ hin
            rw [hk2] at this; simp at this
        obtain ⟨i', rfl⟩ : ∃ i', i = p + i' := ⟨i - p, by omega⟩
        have hi' : i' < blk.length := by omega
        refine mid_op lkd (fun i o h => hl.get h) hl.size hm hr hpo hi hi' hL hwb fun β' S' w' a' hm' hL' => ?_
        refine hM f rfl p _ E H outs E' wb β' η S' w' a' ⟨hl.ok, hl.eq, by simp [hl.size]⟩ ?_ hm' hr he hpo hk hL' hwb
        have := unl_step (N := ops.size) (i := p + i') (listed := listed) (by rw [hl.size]; exact hlt) hlt hun
        omega

theorem start_cons (lkd : Looked n ops ol anc P) {f : Nat} {blk : List O} {bs : List (List O)} (hM : MidOK ds ro P n ops ol anc C Q η₀ S₀ w₀ f blk bs) (hS : ∀ f', f = f' + 1 → StartOK ds ro P n ops ol anc C Q η₀ S₀ w₀ f' bs) : StartOK ds ro P n ops ol anc (ldraw P [blk] C) Q η₀ S₀ w₀ f (blk :: bs) := by
  intro p listed E H η S w a hl h1 h2 h3 hd hA hL
  have hpos := hl.pos
  have many : lblk P H blk (fun E news => addNews news E H C) E [] → wpAnyIn (FW ro) 0 P .any ops Q f listed a w := fun hd => by
    obtain ⟨outs, E', hr, he, hpo, hk⟩ := lblk_runs (fun _ => rfl) hd
    refine hM p listed E H outs E' w.heap.size (fun _ => 0) η S w a hl h3 ⟨h1, fun j hj => h2 j (by omega), ?_, hA.conc, hA.size, hA.defers, fun t => ?_, ⟨Nat.le_refl _, hA.conc.lt⟩, ?_, ?_⟩ hr he hpo (by simpa using hk) hL hL.size
    · intro k hk' j hj
      have hkp : k < p := by
        rcases Nat.lt_or_ge k p with h | h
        · exact h
        · rw [h2 k h] at hk'; simp at hk'
      refine h1 j ?_
      have hkn : k < ops.size := by
        rcases Nat.lt_or_ge k listed.size with h | h
        · rw [← hl.size]; exact h
        · rw [agetD_of_ge _ _ h] at hk'; simp at hk'
      have hedge := fun e he => lkd.edge k _ (Array.getElem?_eq_getElem hkn) e he
      have : j < k := lkd.anclt k j hj
      omega
    · rw [valAt_stop (k := 0) (by omega) (fun i _ hi _ => h2 _ (by omega))]
      exact hA.env t
    · intro i cs mk _ hi
      rw [h2 _ (by omega)] at hi; simp at hi
    · intro i i' cs mk cs' mk' _ _ hi
      rw [h2 _ (by omega)] at hi; simp at hi
  match blk, hl, hpos, hd, many with
  | [], _, hpos, _, _ => simp at hpos
  | o :: o' :: blk, hl, _, hd, many => exact many hd
  | [o], hl, _, hd, _ =>
    have ho : ol[p]? = some o := by have := hl.get (i := 0) (o := o) rfl; simpa using this
    have hp : p < ops.size := by
      have := (List.getElem?_eq_some_iff.1 ho).1
      rw [← lkd.len]; exact this
    have hun := h2 p (Nat.le_refl _)
    cases f with
    | zero =>
      exfalso
      have := unl_pos (N := ops.size) hp hun
      omega
    | succ f =>
      have hrp := least_ready lkd hl.size hp hun h1
      refine ⟨fun hnil => by rw [hnil] at hrp; simp at hrp, fun i hi => ?_⟩
      have huni := ready_un hl.size hi
      have hlt := ready_lt hi
      have hpi : p ≤ i := by
        rcases Nat.lt_or_ge i p with h | h
        · rw [h1 i h] at huni; simp at huni
        · exact h
      have hip : i = p := by
        rcases Nat.lt_or_ge i (p + 1) with h | h
        · omega
        · exfalso
          have hin := cutAt_spec hl.cut (k := i) (j := p) (by rw [lkd.len]; exact hlt) h (by simp)
          obtain ⟨-, oo, hoo, hee⟩ := ready_iff.1 hi
          rcases lkd.back i oo hoo p hin with h' | ⟨e, h', h''⟩
          · rw [hee p h'] at hun; simp at hun
          · have h5 := hee e h'
            have h6 : e < p := by
              rcases Nat.lt_or_ge e p with h | h
              · exact h
              · rw [h2 e h] at h5; simp at h5
            have := lkd.anclt e p h''
            omega
      subst hip
      have hc := lkd.comp _ _ _ (Array.getElem?_eq_getElem hp) ho
      refine single_sound hc hd hA (fun E' H' η' S' w' a' k1 k2 k3 => ?_) (Array.getElem?_eq_getElem hp)
      have hg := set_getD (listed := listed) (i := i) (by rw [hl.size]; exact hp)
      refine hS f rfl (i + 1) _ E' H' η' S' w' a' (hl.next (by simp)) (fun j hj => ?_) (fun j hj => ?_) ?_ k1 k2 (hL.trans k3)
      · rw [hg]; split
        · rfl
        · exact h1 j (by omega)
      · rw [hg, if_neg (by omega)]; exact h2 j (by omega)
      · have := unl_step (N := ops.size) (i := i) (listed := listed) (by rw [hl.size]; exact hp) hp hun
        omega

theorem ldraw_split {blk : List O} {bs : List (List O)} {E : Env} {H : Heap} (h : ldraw P (blk :: bs) K E H) : ldraw P [blk] (ldraw P bs K) E H := by
  match blk, h with
  | [], h => exact h
  | [o], h => exact h
  | o :: o' :: blk, h => exact h

theorem draw_all (hQ : ∀ E' H' η' S' w' a', K E' H' → At n ds η' S' w' a' E' H' → Le η₀ S₀ w₀ η' S' w' → Q .normal a' w') (lkd : Looked n ops ol anc P) : ∀ f, (∀ bs, StartOK ds ro P n ops ol anc (ldraw P bs K) Q η₀ S₀ w₀ f bs) ∧ ∀ blk bs, MidOK ds ro P n ops ol anc (ldraw P bs K) Q η₀ S₀ w₀ f blk bs := by
  have nil : ∀ f, StartOK ds ro P n ops ol anc (ldraw P [] K) Q η₀ S₀ w₀ f [] := fun f => start_nil hQ lkd f
  have cons : ∀ f blk bs, StartOK ds ro P n ops ol anc (ldraw P [blk] (ldraw P bs K)) Q η₀ S₀ w₀ f (blk :: bs) → StartOK ds ro P n ops ol anc (ldraw P (blk :: bs) K) Q η₀ S₀ w₀ f (blk :: bs) := fun f blk bs h p listed E H η S w a h1 h2 h3 h4 h5 => h p listed E H η S w a h1 h2 h3 h4 (ldraw_split h5)
  intro f
  induction f with
  | zero =>
    have hs : ∀ bs, StartOK ds ro P n ops ol anc (ldraw P bs K) Q η₀ S₀ w₀ 0 bs := fun bs => by
      induction bs with
      | nil => exact nil 0
      | cons blk bs ih => exact cons _ _ _ (start_cons lkd (mid_step lkd ih (fun f' h => by omega)) (fun f' h => by omega))
    exact ⟨hs, fun blk bs => mid_step lkd (hs bs) (fun f' h => by omega)⟩
  | succ f ih =>
    have hs : ∀ bs, StartOK ds ro P n ops ol anc (ldraw P bs K) Q η₀ S₀ w₀ (f + 1) bs := fun bs => by
      induction bs with
      | nil => exact nil _
      | cons blk bs ih' => exact cons _ _ _ (start_cons lkd (mid_step lkd ih' (fun f' h => by cases h; exact ih.2 _ _)) (fun f' h => by cases h; exact ih.1 _))
    exact ⟨hs, fun blk bs => mid_step lkd (hs bs) (fun f' h => by cases h; exact ih.2 _ _)⟩

theorem draw_looked {bs : List (List O)} (hc : compDraw P n ops = some bs) : ∃ ol, Looked n ops ol (ancs ops.toList []) P ∧ P.follows .mixedOrders = true ∧ piecesOK (ancs ops.toList []) ol.length 0 bs = true ∧ bs.flatten = ol := by
  simp only [compDraw, Option.bind_eq_some_iff] at hc
  obtain ⟨ol, hol, hc⟩ := hc
  split at hc
  rotate_left
  · simp at hc
  rename_i hok
  simp only [Bool.and_eq_true, beq_iff_eq] at hok
  obtain ⟨⟨⟨⟨⟨m1, m2⟩, m3⟩, m4⟩, m5⟩, m6⟩ := hok
  simp only [Option.some.injEq] at hc
  subst hc
  obtain ⟨c1, c2⟩ := compOps_get hol
  have hspec := ancs_spec ops.toList []
  have lkd : Looked n ops ol (ancs ops.toList []) P := by
    refine ⟨by simpa using c1, fun i o oo h1 h2 => c2 i o oo (by simpa using h1) h2, fun i o h j hj => by simpa using hspec i o (by simpa using h) j (by simpa using hj), fun i o h => edgesOK_spec m2 (by simpa using h),
      fun i j x y d h1 h2 h3 => (tempsOK_spec m3 h1 h2 h3).1 d, fun i j x y d h1 h2 h3 => (tempsOK_spec m3 h1 h2 h3).2 d, fun i j x y d h1 h2 h3 h4 h5 => newsOK_spec m4 h1 h2 h3 h4 h5, ?_⟩
    intro k
    induction k using Nat.strongRecOn with
    | _ k ih =>
      intro j hj
      by_cases hk : k < ops.toList.length
      · have ho : ops.toList[k]? = some ops.toList[k] := List.getElem?_eq_getElem hk
        rcases hspec k _ ho j (by simpa using hj) with h | ⟨e, h1, h2⟩
        · exact edgesOK_spec m2 ho j h
        · have := edgesOK_spec m2 ho e h1
          have := ih e this j h2
          omega
      · exfalso
        rw [getD_of_ge _ _ (by
          have : ∀ (l : List Oper) (acc : List (List Nat)), (ancs l acc).length = acc.length + l.length := by
            intro l
            induction l with
            | nil => intro acc; simp [ancs]
            | cons x l ih => intro acc; simp only [ancs]; rw [ih]; simp; omega
          rw [this]; simp at hk ⊢; omega)] at hj
        simp at hj
  exact ⟨ol, lkd, m1, m5, by simp [pieces_flatten]⟩

theorem draw_sound {bs : List (List O)} (hc : compDraw P n ops = some bs) {E : Env} {H : Heap} {η : List Nat} {S : Nat → Prop} {w : World} {a : Act} (hl : ldraw P bs K E H) (hA : At n ds η S w a E H) {id : Nat}
    (hQ : ∀ E' H' η' S' w' a', K E' H' → At n ds η' S' w' a' E' H' → Le η S w η' S' w' → Q .normal a' w') : (Code.region id ops true).wpIn (FW ro) 0 P Q a w := by
  simp only [compDraw, Option.bind_eq_some_iff] at hc
  obtain ⟨ol, hol, hc⟩ := hc
  split at hc
  rotate_left
  · simp at hc
  rename_i hok
  simp only [Bool.and_eq_true, beq_iff_eq] at hok
  obtain ⟨⟨⟨⟨⟨m1, m2⟩, m3⟩, m4⟩, m5⟩, m6⟩ := hok
  simp only [Option.some.injEq] at hc
  subst hc
  obtain ⟨c1, c2⟩ := compOps_get hol
  have hspec := ancs_spec ops.toList []
  have lkd : Looked n ops ol (ancs ops.toList []) P := by
    refine ⟨by simpa using c1, fun i o oo h1 h2 => c2 i o oo (by simpa using h1) h2, fun i o h j hj => by simpa using hspec i o (by simpa using h) j (by simpa using hj), fun i o h => edgesOK_spec m2 (by simpa using h),
      fun i j x y d h1 h2 h3 => (tempsOK_spec m3 h1 h2 h3).1 d, fun i j x y d h1 h2 h3 => (tempsOK_spec m3 h1 h2 h3).2 d, fun i j x y d h1 h2 h3 h4 h5 => newsOK_spec m4 h1 h2 h3 h4 h5, ?_⟩
    intro k
    induction k using Nat.strongRecOn with
    | _ k ih =>
      intro j hj
      by_cases hk : k < ops.toList.length
      · have ho : ops.toList[k]? = some ops.toList[k] := List.getElem?_eq_getElem hk
        rcases hspec k _ ho j (by simpa using hj) with h | ⟨e, h1, h2⟩
        · exact edgesOK_spec m2 ho j h
        · have := edgesOK_spec m2 ho e h1
          have := ih e this j h2
          omega
      · exfalso
        rw [getD_of_ge _ _ (by
          have : ∀ (l : List Oper) (acc : List (List Nat)), (ancs l acc).length = acc.length + l.length := by
            intro l
            induction l with
            | nil => intro acc; simp [ancs]
            | cons x l ih => intro acc; simp only [ancs]; rw [ih]; simp; omega
          rw [this]; simp at hk ⊢; omega)] at hj
        simp at hj
  refine wpIn_region_any m1 ?_
  have hL : Le η S w η S { w with drawn := w.drawn + 1 } := Le.heap rfl rfl rfl rfl
  refine (draw_all (ro := ro) (K := K) (Q := Q) (η₀ := η) (S₀ := S) (w₀ := w) hQ lkd ops.size).1 _ 0 _ E H η S _ a ⟨m5, by simp [pieces_flatten], by simp⟩ (fun j hj => by omega) (fun j _ => ?_) ?_ hl ⟨hA.conc.heap rfl, fun t => (hA.env t).le hL, hA.size, hA.defers⟩ hL
  · by_cases h : j < ops.size
    · simp [Array.getD_eq_getD_getElem?, h]
    · simp [Array.getD_eq_getD_getElem?, h]
  · unfold unl
    exact Nat.le_trans List.countP_le_length (by simp)

end
end Lg
