/- Regions whose order of evaluation is open: pieces that end with an operation that turns the own rows. -/
import Derived.Test.YtaegmmeppkgnkaaLgQ5
namespace Lg
open Go

theorem read_not_new {i : I} (h : isRead i = true) (k : isNew i = true) : False := by cases i <;> simp [isRead, isNew] at h k

theorem dropLast_get {α : Type} {l : List α} {i : Nat} (h : i < l.length - 1) : l.dropLast[i]? = l[i]? := by
  rw [List.getElem?_eq_getElem (by simp; exact h), List.getElem?_eq_getElem (by omega), List.getElem_dropLast]

theorem lk_mask {ms : List Nat} {E : Env} {t : Nat} : lk (ms.map (fun d => (d, L.any)) ++ E) t = if t ∈ ms then .any else lk E t := by
  induction ms with
  | nil => simp
  | cons m ms ih =>
    simp only [List.map_cons, List.cons_append, lk, List.mem_cons]
    by_cases h : t = m
    · simp [h]
    · rw [if_neg h, ih]
      simp [h]

/-- Slots that are not told are not told behind either. -/
theorem addNews_mask {K : Env → Heap → Prop} {ms : List Nat} : ∀ {nl : List (Option Nat × List L × (Nat → L))} {E Em : Env} {H : Heap}, (∀ t, lk Em t = if t ∈ ms then .any else lk E t) → (∀ e ∈ nl, ∀ d, e.1 = some d → d ∉ ms) → addNews nl E H K →
    addNews nl Em H (fun Em' H' => ∃ E', K E' H' ∧ ∀ t, lk Em' t = if t ∈ ms then .any else lk E' t)
  | [], E, Em, H, h, _, hk => ⟨E, hk, h⟩
  | (d, cs, mk) :: nl, E, Em, H, h, hn, hk => by
    simp only [addNews] at hk ⊢
    refine addNews_mask (E := putE E d (mk H.length)) (fun t => ?_) (fun e he => hn e (by simp [he])) hk
    rw [lk_putE, lk_putE]
    by_cases hd : d = some t
    · have := hn (d, cs, mk) (by simp) t hd
      simp [hd, this]
    · simp only [hd, if_false]; exact h t

section
variable {ds : List Deferred} {ro : Option Nat} {P : Program} {η : List Nat} {S : Nat → Prop} {w : World} {H : Heap} {a : Act} {E : Env}

/-- A piece of which some operations have not run: none of them made a row, or stored. -/
theorem Mid.part {n : Nat} {anc : List (List Nat)} {p : Nat} {blk : List O} {outs : List Out} {wb : Nat} {β : Nat → Nat} {listed : Array Bool} (hM : Mid n ds anc p blk outs E H wb β listed η S w a) (ms : List Nat)
    (hlist : ∀ (i : Nat), (∃ cs mk, outs[i]? = some (.new cs mk)) ∨ (∃ d l, outs[i]? = some (.put d l)) → listed.getD (p + i) false = true)
    (hrel : ∀ (i : Nat) d, i < blk.length → listed.getD (p + i) false = false → (blk[i]?).bind (·.dst) = some d → d ∈ ms)
    (hnews : ∀ e ∈ newsOf blk outs, ∀ d, e.1 = some d → d ∉ ms)
    (hruns : Runs P H E blk outs) {E' : Env} {K : Env → Heap → Prop} (he : ∀ t, lk E' t = lk (foldE E blk outs) t) (hk : addNews (finNews outs (newsOf blk outs)) E' H K) :
    ∃ E'' H'' η' E1, K E1 H'' ∧ (∀ t, lk E'' t = if t ∈ ms then .any else lk E1 t) ∧ At n ds η' S w a E'' H'' ∧ ∃ ζ, η' = η ++ ζ ∧ ∀ b ∈ ζ, wb ≤ b := by
  obtain ⟨hl, hat⟩ := hruns.at
  obtain ⟨nb1, nb2⟩ := newBlocks_spec (β := β) (blk := blk) (outs := outs) 0 hl
  have hE : REnv η S w a.tmps (ms.map (fun d => (d, L.any)) ++ E') := fun t => by
    rw [lk_mask]
    split
    · exact .any _
    · rename_i ht
      rw [he t]
      have := valAt_fold (E := E) (blk := blk) (outs := outs) hl (t := t) (Nat.le_refl _)
      rw [List.take_length, ← hl, List.take_length] at this
      rw [← this, hl]
      rw [valAt_congr (M' := fun i => listed.getD (p + i) false) (fun i hi hd => by
        cases hli : listed.getD (p + i) false with
        | true => rfl
        | false => exact absurd (hrel i t hi hli hd) ht)]
      exact hM.rel t
  have hk' := addNews_mask (ms := ms) (Em := ms.map (fun d => (d, L.any)) ++ E') (fun t => lk_mask) (fun e he' => by
    unfold finNews at he'
    obtain ⟨e0, h0, rfl⟩ := List.mem_map.1 he'
    exact hnews e0 h0) hk
  have mkOK : ∀ (j : Nat) o cs mk, blk[j]? = some o → outs[j]? = some (.new cs mk) → lnew o.op (foldE E (blk.take j) (outs.take j)) = some (cs, mk) := fun j o cs mk h1 h2 => (hat j o _ h1 h2).2
  obtain ⟨E'', H'', η', q1, q2, q3, q4⟩ := addNews_sound (tmps := a.tmps) (newBlocks β 0 outs) (by rw [nb1]; simp [finNews]) hM.conc hE hk' (fun k b d cs mk h1 h2 => by
      obtain ⟨cs0, h2, hcs⟩ : ∃ cs0, (newsOf blk outs)[k]? = some (d, cs0, mk) ∧ cs = afterPut (putsTo outs (fun _ => true) d) cs0 := by
        unfold finNews at h2
        rw [List.getElem?_map] at h2
        obtain ⟨⟨d0, cs0, mk0⟩, g1, g2⟩ := Option.map_eq_some_iff.1 h2
        simp only [Prod.mk.injEq] at g2
        obtain ⟨rfl, rfl, rfl⟩ := g2
        exact ⟨cs0, g1, rfl⟩
      obtain ⟨j, o, f1, f2, f3, f4⟩ := nb2 k b d cs0 mk h1 h2
      obtain ⟨g1, g2, g3, g4⟩ := hM.priv j cs0 mk f2 (hlist j (.inl ⟨_, _, f2⟩))
      rw [Nat.zero_add] at f3
      subst f3
      have hsame : putsTo outs (fun i => listed.getD (p + i) false) ((blk[j]?).bind (·.dst)) = putsTo outs (fun _ => true) d := by
        rw [f1, f4]
        exact putsTo_congr fun i d' l hi _ => hlist i (.inr ⟨_, _, hi⟩)
      rw [hsame, ← hcs] at g3
      refine ⟨g2, fun hm => by have := hM.wbd.2 _ hm; omega, g3, fun t ht η₁ => ?_⟩
      have := g4 t (by rw [f1]; rw [← ht, f4]; rfl)
      exact lnew_mk (mkOK j o cs0 mk f1 f2) this η₁) (fun k k' b h1 h2 => by
      obtain ⟨j, cs, mk, f1, f2, f3⟩ := newBlocks_at (β := β) (outs := outs) 0 k b h1
      obtain ⟨j', cs', mk', g1, g2, g3⟩ := newBlocks_at (β := β) (outs := outs) 0 k' b h2
      rw [Nat.zero_add] at f2 g2
      have := hM.inj j j' cs mk cs' mk' f1 g1 (hlist j (.inl ⟨_, _, f1⟩)) (hlist j' (.inl ⟨_, _, g1⟩)) (by rw [← f2, ← g2])
      subst this
      rw [f3, g3])
  obtain ⟨E1, hE1, hE2⟩ := q1
  refine ⟨E'', H'', η', E1, hE1, hE2, ⟨q2, q3, hM.size, hM.defers⟩, _, q4, fun b hb => ?_⟩
  obtain ⟨k, hk', hkb⟩ := List.getElem_of_mem hb
  obtain ⟨j, cs, mk, f1, f2, -⟩ := newBlocks_at (β := β) (outs := outs) 0 k b (by rw [List.getElem?_eq_getElem hk', hkb])
  rw [Nat.zero_add] at f2
  have := (hM.priv j cs mk f1 (hlist j (.inl ⟨_, _, f1⟩))).1
  omega
end

section
variable {ds : List Deferred} {ro : Option Nat} {P : Program} {n : Nat} {ops : Array Oper} {ol : List O} {anc : List (List Nat)} {K C : Env → Heap → Prop} {Q : Exit → Act → World → Prop} {η₀ : List Nat} {S₀ : Nat → Prop} {w₀ : World}

theorem heavyL_last : ∀ {blk : List O} {news : List Nat}, heavyL news blk = true → ∃ o, blk[blk.length - 1]? = some o ∧ ((∃ e b z x y, o.op = .append e b z x y) ∨ (∃ e x y, o.op = .copy e x y) ∨ (∃ e b z x y, o.op = .mksl e b z x y) ∨ ∃ s d y, o.op = .store s (.t d) y)
  | [], _, h => by simp [heavyL] at h
  | [o], news, h => by
    refine ⟨o, rfl, ?_⟩
    simp only [heavyL] at h
    split at h
    · rename_i e; exact .inl ⟨_, _, _, _, _, e⟩
    · rename_i e; exact .inr (.inl ⟨_, _, _, e⟩)
    · rename_i e; exact .inr (.inr (.inl ⟨_, _, _, _, _, e⟩))
    · rename_i e; exact .inr (.inr (.inr ⟨_, _, _, e⟩))
    · simp at h
  | o :: o' :: rest, news, h => by
    simp only [heavyL] at h
    obtain ⟨x, h1, h2⟩ := heavyL_last h
    exact ⟨x, by simpa using h1, h2⟩

theorem heavyP_len {blk : List O} (h : heavyP blk = true) : 2 ≤ blk.length ∧ heavyL [] blk = true := by
  match blk, h with
  | [], h => simp [heavyP] at h
  | [o], h => simp [heavyP] at h
  | o :: o' :: rest, h => exact ⟨by simp, h⟩

/-- Behind the last operation of such a piece. -/
def PostOK (ds : List Deferred) (ro : Option Nat) (P : Program) (n : Nat) (ops : Array Oper) (ol : List O) (anc : List (List Nat)) (C : Env → Heap → Prop) (Q : Exit → Act → World → Prop) (η₀ : List Nat) (S₀ : Nat → Prop) (w₀ : World) (f : Nat) (fl : List Nat) (blk : List O) (bs : List (List O)) : Prop :=
  ∀ p listed E H η S w a, Lies ops ol anc p (blk :: bs) listed → unl ops.size listed ≤ f → (∀ j, j < p → listed.getD j false = true) → (∀ j, p + blk.length ≤ j → listed.getD j false = false) → DC anc listed →
    (∀ j, j < blk.length → listed.getD (p + j) false = false → j ∈ fl) → Conc η S w H → a.tmps.size = n → a.defers = ds →
    (∀ t, (∀ j, j < blk.length → listed.getD (p + j) false = false → (blk[j]?).bind (·.dst) ≠ some t) → Rel S w η (a.tmps.getD t undef) (lk E t)) →
    (∀ i ∈ fl, stable blk E H i) → C E H → Le η₀ S₀ w₀ η S w → wpAnyIn (FW ro) 0 P .any ops Q f listed a w

theorem floatOK_spec {blk : List O} {i : Nat} (h : floatOK blk i = true) : ∃ o d, blk[i]? = some o ∧ o.dst = some d ∧ isRead o.op = true ∧ o.guard = none ∧ (∀ (j : Nat) y, blk[j]? = some y → j ≠ i → y.dst ≠ some d) ∧ (∀ (j : Nat) y d', blk[j]? = some y → i ≤ j → y.dst = some d' → d' ∉ o.names) := by
  unfold floatOK at h
  split at h
  · rename_i o ho
    simp only [Bool.and_eq_true, Option.isNone_iff_eq_none] at h
    obtain ⟨⟨⟨h1, h2⟩, h3⟩, h4⟩ := h
    obtain ⟨d, hd⟩ := Option.isSome_iff_exists.1 h3
    have hall := fun (j : Nat) y (hy : blk[j]? = some y) => by
      have hj : j < blk.length := (List.getElem?_eq_some_iff.1 hy).1
      have := List.all_eq_true.1 h4 j (List.mem_range.2 hj)
      rw [hy] at this
      exact this
    refine ⟨o, d, ho, hd, by cases hop : o.op <;> simp_all [isReadC, isRead], h2, fun j y hy hne => ?_, fun j y d' hy hij hd' => ?_⟩
    · have := hall j y hy
      simp only [Bool.and_eq_true, Bool.or_eq_true, beq_iff_eq, bne_iff_ne] at this
      rcases this.1 with h | h
      · exact absurd h hne
      · rw [hd] at h; exact h
    · have := hall j y hy
      simp only [Bool.and_eq_true, Bool.or_eq_true, decide_eq_true_eq, hd', Bool.not_eq_true'] at this
      rcases this.2 with h | h
      · omega
      · intro hm
        rw [List.contains_iff_mem.2 hm] at h
        simp at h
  · simp at h

theorem post_step (lkd : Looked n ops ol anc P) {f : Nat} {fl : List Nat} {blk : List O} {bs : List (List O)} (hfl : ∀ i ∈ fl, floatOK blk i = true) (hS : StartOK ds ro P n ops ol anc C Q η₀ S₀ w₀ f bs) (hP : ∀ f', f = f' + 1 → PostOK ds ro P n ops ol anc C Q η₀ S₀ w₀ f' fl blk bs) : PostOK ds ro P n ops ol anc C Q η₀ S₀ w₀ f fl blk bs := by
  intro p listed E H η S w a hl hf hpre hpost hdc hun hC hsz hde hrel hst hc hL
  by_cases hall : ∀ i, i < blk.length → listed.getD (p + i) false = true
  · refine hS (p + blk.length) listed E H η S w a (hl.next rfl) (fun j hj => ?_) hpost hf hc ⟨hC, fun t => hrel t fun j hj hlj => ?_, hsz, hde⟩ hL
    · by_cases hjp : j < p
      · exact hpre j hjp
      · have := hall (j - p) (by omega)
        rwa [show p + (j - p) = j by omega] at this
    · rw [hall j hj] at hlj; simp at hlj
  · have ⟨k, hk1, hk2⟩ : ∃ k, k < blk.length ∧ listed.getD (p + k) false = false := by
      apply Classical.byContradiction
      intro hno
      refine hall fun i hi => ?_
      cases h : listed.getD (p + i) false with
      | true => rfl
      | false => exact absurd ⟨i, hi, h⟩ hno
    have in_ol : ∀ i, i < blk.length → p + i < ops.size := fun i hi => by
      have := (List.getElem?_eq_some_iff.1 (hl.get (List.getElem?_eq_getElem hi))).1
      rw [← lkd.len]; exact this
    cases f with
    | zero =>
      exfalso
      have := unl_pos (N := ops.size) (in_ol k hk1) hk2
      omega
    | succ f =>
      refine ⟨fun hnil => ?_, fun i hi => ?_⟩
      · exfalso
        obtain ⟨m, h1, h2, h3⟩ := exists_first (p := fun j => listed.getD j false = false) hk2
        have h4 := in_ol k hk1
        have := least_ready lkd hl.size (i := m) (by omega) h2 (fun j hj => by
          cases h : listed.getD j false with
          | true => rfl
          | false => exact absurd h (h3 j hj))
        rw [hnil] at this; simp at this
      · have huni := ready_un hl.size hi
        have hlt := ready_lt hi
        have hp : p ≤ i := by
          rcases Nat.lt_or_ge i p with h | h
          · rw [hpre i h] at huni; simp at huni
          · exact h
        have hib : i < p + blk.length := by
          rcases Nat.lt_or_ge i (p + blk.length) with h | h
          · exact h
          · have hin := cutAt_spec hl.cut (k := i) (j := p + k) (by rw [lkd.len]; exact hlt) h (by omega)
            have := ready_anc lkd hdc hi _ hin
            rw [hk2] at this; simp at this
        obtain ⟨i', rfl⟩ : ∃ i', i = p + i' := ⟨i - p, by omega⟩
        have hi' : i' < blk.length := by omega
        have himem := hun i' hi' huni
        obtain ⟨o, d, ho, hd, hread, hg, hodst, honame⟩ := floatOK_spec (hfl i' himem)
        have hsti := hst i' himem
        unfold stable at hsti
        rw [ho] at hsti
        simp only [hd] at hsti
        have hop := Array.getElem?_eq_getElem hlt
        have hcc := lkd.comp _ _ _ hop (hl.get ho)
        have hdst : o.dst = ops[p + i'].dst ∧ ∀ t, ops[p + i'].dst = some t → t < n := by
          simp only [compO, Option.bind_eq_some_iff] at hcc
          obtain ⟨ii, hii, hcc⟩ := hcc
          split at hcc
          rotate_left
          · simp at hcc
          rename_i hdd
          refine ⟨?_, fun t ht => by rw [ht] at hdd; simpa [dstOk] using hdd⟩
          cases hg' : ops[p + i'].guard with
          | none => simp only [hg', Option.some.injEq] at hcc; rw [← hcc]
          | some jb => obtain ⟨j, b⟩ := jb; simp only [hg', Option.map_eq_some_iff] at hcc; obtain ⟨s, -, hcc⟩ := hcc; rw [← hcc]
        refine piece_op (E := E) (out := .val (lk E d)) hcc ⟨by simp [runs, hg], .inr (.inr (.inr (.inl ⟨hread, H, hsti⟩)))⟩ hC (fun t ht => hrel t fun j hj hlj hjd => ?_) hop (by simp) ?_
        · obtain ⟨y, hy⟩ : ∃ y, blk[j]? = some y := ⟨_, List.getElem?_eq_getElem hj⟩
          rw [hy] at hjd
          rcases Nat.lt_or_ge j i' with h | h
          · have := ready_anc lkd hdc hi _ (lkd.t1 (p + j) (p + i') y o t (by omega) (hl.get hy) (hl.get ho) hjd (.inl ht))
            rw [hlj] at this; simp at this
          · exact honame j y t hy h hjd ht
        · intro v S' w' k1 k2 k3 k4
          rw [← hdst.1, hd]
          have hin : p + i' < listed.size := by rw [hl.size]; exact hlt
          have hgs := set_getD (listed := listed) hin
          have hput : ∀ t, (a.put (some d) v).tmps.getD t undef = if d = t then v else a.tmps.getD t undef := fun t => by
            have := put_getD (a := a) (d := some d) (v := v) (fun t ht => by rw [hsz]; exact hdst.2 t (by rw [← hdst.1, hd]; exact ht)) t
            rw [this]; simp
          refine hP f rfl p _ E H η S' w' _ ⟨hl.ok, hl.eq, by simp [hl.size]⟩ ?_ (fun j hj => ?_) (fun j hj => ?_) (hdc.step lkd hi hin) (fun j hj hlj => ?_) k2 (by simp [Act.put, hsz]) (by exact hde) (fun t ht => ?_) hst hc (hL.trans k1)
          · have := unl_step (N := ops.size) (i := p + i') (listed := listed) hin hlt huni
            omega
          · rw [hgs]; split
            · rfl
            · exact hpre j hj
          · rw [hgs, if_neg (by omega)]; exact hpost j hj
          · rw [hgs] at hlj
            split at hlj
            · simp at hlj
            · exact hun j hj hlj
          · rw [hput]
            by_cases hdt : d = t
            · rw [if_pos hdt, ← hdt]; exact k3
            · rw [if_neg hdt]
              refine (hrel t fun j hj hlj hjd => ?_).le k1
              by_cases hji : j = i'
              · subst hji
                rw [ho] at hjd
                simp only [Option.bind_some, hd, Option.some.injEq] at hjd
                exact hdt hjd
              · exact ht j hj (by rw [hgs, if_neg (by omega)]; exact hlj) hjd

/-- Such a piece ahead of its last operation. -/
def PreOK (ds : List Deferred) (ro : Option Nat) (P : Program) (n : Nat) (ops : Array Oper) (ol : List O) (anc : List (List Nat)) (C : Env → Heap → Prop) (Q : Exit → Act → World → Prop) (η₀ : List Nat) (S₀ : Nat → Prop) (w₀ : World) (f : Nat) (fl : Nat → List Nat) (blk : List O) (bs : List (List O)) : Prop :=
  ∀ p listed E H outs E' wb β η S w a, Lies ops ol anc p (blk :: bs) listed → (∀ i ∈ fl p, floatOK blk i = true) → (∀ i, i < blk.length - 1 → i ∉ fl p → p + i ∈ anc.getD (p + (blk.length - 1)) []) → (∀ i ∈ fl p, p + i ∉ anc.getD (p + (blk.length - 1)) []) → unl ops.size listed ≤ f → Mid n ds anc p blk.dropLast outs E H wb β listed η S w a → Runs P H E blk.dropLast outs → (∀ t, lk E' t = lk (foldE E blk.dropLast outs) t) →
    PutsOK blk.dropLast outs [] → addNews (finNews outs (newsOf blk.dropLast outs)) E' H (fun E1 H1 => lops P (blk.drop (blk.length - 1)) (fun E2 H2 => (∀ i ∈ fl p, stable blk E2 H2 i) ∧ C E2 H2) E1 H1) → Le η₀ S₀ w₀ η S w → w₀.heap.size ≤ wb → wpAnyIn (FW ro) 0 P .any ops Q f listed a w

theorem pre_step (lkd : Looked n ops ol anc P) {f : Nat} {fl : Nat → List Nat} {blk : List O} {bs : List (List O)} (hheavy : heavyP blk = true) (hlast : lastOK blk = true) (hP : ∀ f' p, f = f' + 1 → PostOK ds ro P n ops ol anc C Q η₀ S₀ w₀ f' (fl p) blk bs) (hM : ∀ f', f = f' + 1 → PreOK ds ro P n ops ol anc C Q η₀ S₀ w₀ f' fl blk bs) : PreOK ds ro P n ops ol anc C Q η₀ S₀ w₀ f fl blk bs := by
  intro p listed E H outs E' wb β η S w a hl hflo hanc hflnot hf hm hr he hpo hk hL hwb
  obtain ⟨hlen2, hhL⟩ := heavyP_len hheavy
  obtain ⟨h, hh, hkind⟩ := heavyL_last hhL
  have hdl : blk.dropLast.length = blk.length - 1 := by simp
  have hget : ∀ (i : Nat) o, blk.dropLast[i]? = some o → ol[p + i]? = some o := fun i o ho => by
    have hi : i < blk.length - 1 := by have := (List.getElem?_eq_some_iff.1 ho).1; omega
    rw [dropLast_get hi] at ho
    exact hl.get ho
  have in_ol : ∀ i, i < blk.length → p + i < ops.size := fun i hi => by
    have := (List.getElem?_eq_some_iff.1 (hl.get (List.getElem?_eq_getElem hi))).1
    rw [← lkd.len]; exact this
  have hunh : listed.getD (p + (blk.length - 1)) false = false := hm.post _ (by omega)
  cases f with
  | zero =>
    exfalso
    have := unl_pos (N := ops.size) (in_ol (blk.length - 1) (by omega)) hunh
    omega
  | succ f =>
    refine ⟨fun hnil => ?_, fun i hi => ?_⟩
    · exfalso
      obtain ⟨m, h1, h2, h3⟩ := exists_first (p := fun j => listed.getD j false = false) hunh
      have h4 := in_ol (blk.length - 1) (by omega)
      have := least_ready lkd hl.size (i := m) (by omega) h2 (fun j hj => by
        cases h : listed.getD j false with
        | true => rfl
        | false => exact absurd h (h3 j hj))
      rw [hnil] at this; simp at this
    · have hun := ready_un hl.size hi
      have hlt := ready_lt hi
      have hp : p ≤ i := by
        rcases Nat.lt_or_ge i p with h | h
        · rw [hm.pre i h] at hun; simp at hun
        · exact h
      have hib : i < p + blk.length := by
        rcases Nat.lt_or_ge i (p + blk.length) with h | h
        · exact h
        · have hin := cutAt_spec hl.cut (k := i) (j := p + (blk.length - 1)) (by rw [lkd.len]; exact hlt) h (by omega)
          have := ready_anc lkd hm.dc hi _ hin
          rw [hunh] at this; simp at this
      obtain ⟨i', rfl⟩ : ∃ i', i = p + i' := ⟨i - p, by omega⟩
      have hin : p + i' < listed.size := by rw [hl.size]; exact hlt
      by_cases hlasti : i' < blk.length - 1
      · refine mid_op lkd hget hl.size hm hr hpo hi (by omega) hL hwb fun β' S' w' a' hm' hL' => ?_
        refine hM f rfl p _ E H outs E' wb β' η S' w' a' ⟨hl.ok, hl.eq, by simp [hl.size]⟩ hflo hanc hflnot ?_ hm' hr he hpo hk hL' hwb
        have := unl_step (N := ops.size) (i := p + i') (listed := listed) hin hlt hun
        omega
      · have hil : i' = blk.length - 1 := by omega
        subst hil
        have hanclisted := ready_anc lkd hm.dc hi
        obtain ⟨hlen, hat⟩ := hr.at
        have nonfl : ∀ j, j < blk.length - 1 → listed.getD (p + j) false = false → j ∈ fl p := fun j hj hlj => by
          apply Classical.byContradiction
          intro hnot
          rw [hanclisted _ (hanc j hj hnot)] at hlj
          simp at hlj
        let ms : List Nat := (fl p).filterMap fun j => if listed.getD (p + j) false = true then none else (blk[j]?).bind (·.dst)
        have hms : ∀ d, d ∈ ms ↔ ∃ j ∈ fl p, listed.getD (p + j) false = false ∧ (blk[j]?).bind (·.dst) = some d := fun d => by
          simp only [ms, List.mem_filterMap]
          refine exists_congr fun j => and_congr_right fun _ => ?_
          cases listed.getD (p + j) false <;> simp
        have fl_lt : ∀ j ∈ fl p, j < blk.length - 1 := fun j hj => by
          obtain ⟨o, d, ho, hd, -, -, hodst, -⟩ := floatOK_spec (hflo j hj)
          have h1 := (List.getElem?_eq_some_iff.1 ho).1
          rcases Nat.lt_or_ge j (blk.length - 1) with h | h'
          · exact h
          · have : j = blk.length - 1 := by omega
            subst this
            rw [hh] at ho
            cases ho
            obtain ⟨o, d, ho, hd, hread, -⟩ := floatOK_spec (hflo _ hj)
            rw [hh] at ho
            cases ho
            rcases hkind with ⟨_, _, _, _, _, e⟩ | ⟨_, _, _, e⟩ | ⟨_, _, _, _, _, e⟩ | ⟨_, _, _, e⟩ <;> simp [e, isRead] at hread
        have outread : ∀ j ∈ fl p, ∀ out, outs[j]? = some out → (∀ cs mk, out ≠ .new cs mk) ∧ ∀ d l, out ≠ .put d l := fun j hj out hout => by
          obtain ⟨o, d, ho, hd, hread, -⟩ := floatOK_spec (hflo j hj)
          have hjl := fl_lt j hj
          have ho' : blk.dropLast[j]? = some o := by rw [dropLast_get hjl]; exact ho
          have hok := hat j o out ho' hout
          refine ⟨fun cs mk e => ?_, fun d l e => ?_⟩
          · subst e
            have := (lnew_lop (H := H) hok.2).2
            exact (read_not_new hread this).elim
          · subst e
            obtain ⟨-, -, s, y, hop, -⟩ := hok
            simp [hop, isRead] at hread
        obtain ⟨E'', H'', η', E1, hK, hE12, hA, ζ, hη', hζ⟩ := hm.part ms (fun j hj => by
            cases hlj : listed.getD (p + j) false with
            | true => rfl
            | false =>
              exfalso
              have hjl : j < blk.length - 1 := by
                rcases hj with ⟨_, _, hj⟩ | ⟨_, _, hj⟩ <;> (have := (List.getElem?_eq_some_iff.1 hj).1; omega)
              have := outread j (nonfl j hjl hlj)
              rcases hj with ⟨cs, mk, hj⟩ | ⟨d, l, hj⟩
              · exact (this _ hj).1 cs mk rfl
              · exact (this _ hj).2 d l rfl)
          (fun j d hj hlj hd => (hms d).2 ⟨j, nonfl j (by omega) hlj, hlj, by rw [← dropLast_get (by omega)]; exact hd⟩)
          (fun e he' d hd hdm => by
            obtain ⟨j, hj, hlj, hjd⟩ := (hms d).1 hdm
            obtain ⟨o, d', ho, hd', -, -, hodst, -⟩ := floatOK_spec (hflo j hj)
            rw [ho] at hjd
            simp only [Option.bind_some, hd', Option.some.injEq] at hjd
            subst hjd
            -- the new row's operation
            have hnew : ∀ (bl : List O) (ou : List Out) (e : Option Nat × List L × (Nat → L)), e ∈ newsOf bl ou → ∃ (k : Nat) (y : O) (cs : List L) (mk : Nat → L), bl[k]? = some y ∧ ou[k]? = some (.new cs mk) ∧ e.1 = y.dst := by
              intro bl
              induction bl with
              | nil => intro ou e he; simp [newsOf] at he
              | cons x bl ih =>
                intro ou e he
                cases ou with
                | nil => simp [newsOf] at he
                | cons u ou =>
                  have old : e ∈ newsOf bl ou → ∃ (k : Nat) (y : O) (cs : List L) (mk : Nat → L), (x :: bl)[k]? = some y ∧ (u :: ou)[k]? = some (.new cs mk) ∧ e.1 = y.dst := fun he => by
                    obtain ⟨k, y, cs, mk, h1, h2, h3⟩ := ih ou e he
                    exact ⟨k + 1, y, cs, mk, by simpa using h1, by simpa using h2, h3⟩
                  cases u with
                  | new cs mk =>
                    simp only [newsOf, List.mem_cons] at he
                    rcases he with rfl | he
                    · exact ⟨0, x, cs, mk, rfl, rfl, rfl⟩
                    · exact old he
                  | _ => exact old he
            obtain ⟨k, y, cs, mk, g1, g2, g3⟩ := hnew _ _ e he'
            have hk1 : k < blk.length - 1 := by have := (List.getElem?_eq_some_iff.1 g1).1; omega
            rw [dropLast_get hk1] at g1
            by_cases hkj : k = j
            · subst hkj
              exact (outread k hj _ g2).1 cs mk rfl
            · exact hodst k y g1 hkj (by rw [← g3, hd]))
          hr he hk
        have hdrop : blk.drop (blk.length - 1) = [h] := by
          have e1 : blk.length - 1 < blk.length := by omega
          rw [List.drop_eq_getElem_cons e1, show blk.length - 1 + 1 = blk.length by omega, List.drop_length]
          rw [List.getElem?_eq_getElem e1] at hh
          rw [Option.some.inj hh]
        rw [hdrop] at hK
        have hhg : h.guard = none := by
          unfold lastOK at hlast
          rw [hh] at hlast
          simpa using hlast
        have htm : ∀ t ∈ h.op.tmps, lk E1 t = lk E'' t := fun t ht => by
          rw [hE12]
          split
          · rename_i hm'
            exfalso
            obtain ⟨j, hj, hlj, hjd⟩ := (hms t).1 hm'
            have hjl := fl_lt j hj
            obtain ⟨y, hy⟩ : ∃ y, blk[j]? = some y := ⟨_, List.getElem?_eq_getElem (by omega)⟩
            rw [hy] at hjd
            have := lkd.t1 (p + j) (p + (blk.length - 1)) y h t (by omega) (hl.get hy) (hl.get hh) hjd (.inl (by unfold O.names; rw [hhg]; exact ht))
            rw [hanclisted _ this] at hlj
            simp at hlj
          · rfl
        have hsimple : ∀ (E : Env) (K : L → Heap → Prop), lop P h.op E H'' K = optK (lopO h.op E H'') fun r => K r.1 r.2 := fun E K => by
          rcases hkind with ⟨_, _, _, _, _, e⟩ | ⟨_, _, _, e⟩ | ⟨_, _, _, _, _, e⟩ | ⟨_, _, _, e⟩ <;> rw [e] <;> rfl
        simp only [lops, hhg, lguard, hsimple] at hK
        obtain ⟨⟨l, H2⟩, e1, e2, e3⟩ := hK
        rw [lopO_congr htm] at e1
        have hlops : lops P [h] (fun E3 H3 => E3 = putE E'' h.dst l ∧ H3 = H2) E'' H'' := by
          simp only [lops, hhg, lguard, hsimple]
          exact ⟨_, e1, rfl, rfl⟩
        have hop := Array.getElem?_eq_getElem hlt
        have hcc := lkd.comp _ _ _ hop (hl.get hh)
        refine single_sound hcc hlops hA ?_ hop
        rintro E3 H3 η3 S3 w3 a3 ⟨rfl, rfl⟩ hA3 hL3
        have hgs := set_getD (listed := listed) hin
        have hLa : Le η₀ S₀ w₀ η' S w := by
          rw [hη']; exact hL.widen fun b hb => Nat.le_trans hwb (hζ b hb)
        refine hP f p rfl p _ (putE E1 h.dst l) _ η3 S3 w3 a3 ⟨hl.ok, hl.eq, by simp [hl.size]⟩ ?_ (fun j hj => ?_) (fun j hj => ?_) (hm.dc.step lkd hi hin) (fun j hj hlj => ?_) hA3.conc hA3.size hA3.defers (fun t ht => ?_) e2 e3 (hLa.trans hL3)
        · have := unl_step (N := ops.size) (i := p + (blk.length - 1)) (listed := listed) hin hlt hun
          omega
        · rw [hgs]; split
          · rfl
          · exact hm.pre j hj
        · rw [hgs, if_neg (by omega)]; exact hm.post j (by omega)
        · rw [hgs] at hlj
          split at hlj
          · simp at hlj
          · exact nonfl j (by omega) hlj
        · have := hA3.env t
          rw [lk_putE] at this ⊢
          by_cases hdt : h.dst = some t
          · simp only [hdt, if_true] at this ⊢; exact this
          · simp only [hdt, if_false] at this ⊢
            rw [hE12, if_neg] at this
            · exact this
            · intro hm'
              obtain ⟨j, hj, hlj, hjd⟩ := (hms t).1 hm'
              have hjl := fl_lt j hj
              exact ht j (by omega) (by rw [hgs, if_neg (by omega)]; exact hlj) hjd

/-- What such a piece comes to. -/
def heavyC (P : Program) (fl : List Nat) (blk : List O) (C : Env → Heap → Prop) (E : Env) (H : Heap) : Prop :=
  lblk P H blk.dropLast (fun E news => addNews news E H fun E1 H1 => lops P (blk.drop (blk.length - 1)) (fun E2 H2 => (∀ i ∈ fl, stable blk E2 H2 i) ∧ C E2 H2) E1 H1) E []

theorem start_heavy (lkd : Looked n ops ol anc P) {f : Nat} {fl : List Nat} {blk : List O} {bs : List (List O)} (hheavy : heavyP blk = true) (hpos : ∀ p listed, Lies ops ol anc p (blk :: bs) listed → fl = floatsOf anc p blk) (hfo : ∀ i ∈ fl, floatOK blk i = true)
    (hM : PreOK ds ro P n ops ol anc C Q η₀ S₀ w₀ f (fun _ => fl) blk bs) : StartOK ds ro P n ops ol anc (heavyC P fl blk C) Q η₀ S₀ w₀ f (blk :: bs) := by
  intro p listed E H η S w a hl h1 h2 h3 hd hA hL
  obtain ⟨hlen2, -⟩ := heavyP_len hheavy
  have hfl := hpos p listed hl
  obtain ⟨outs, E', hr, he, hpo, hk⟩ := lblk_runs (fun _ => rfl) hd
  refine hM p listed E H outs E' w.heap.size (fun _ => 0) η S w a hl hfo (fun i hi hn => ?_) (fun i hi => ?_) h3 ⟨h1, fun j hj => h2 j (by simp at hj; omega), ?_, hA.conc, hA.size, hA.defers, fun t => ?_, ⟨Nat.le_refl _, hA.conc.lt⟩, ?_, ?_⟩ hr he hpo (by simpa using hk) hL hL.size
  · simp only at hn
    rw [hfl] at hn
    unfold floatsOf at hn
    rw [if_pos hheavy] at hn
    simp only [List.mem_filter, List.mem_range, hi, true_and, Bool.not_eq_true', Bool.not_eq_false] at hn
    exact List.contains_iff_mem.1 hn
  · simp only at hi
    rw [hfl] at hi
    unfold floatsOf at hi
    rw [if_pos hheavy] at hi
    simp only [List.mem_filter, List.mem_range, Bool.not_eq_true'] at hi
    intro hm
    have := List.contains_iff_mem.2 hm
    rw [hi.2] at this; simp at this
  · intro k hk' j hj
    have hkp : k < p := by
      rcases Nat.lt_or_ge k p with h | h
      · exact h
      · rw [h2 k h] at hk'; simp at hk'
    have : j < k := lkd.anclt k j hj
    exact h1 j (by omega)
  · rw [valAt_stop (k := 0) (by omega) (fun i _ hi _ => h2 _ (by omega))]
    exact hA.env t
  · intro i cs mk _ hi
    rw [h2 _ (by omega)] at hi; simp at hi
  · intro i i' cs mk cs' mk' _ _ hi
    rw [h2 _ (by omega)] at hi; simp at hi

/-- The pieces lie where their floats say. -/
structure Good (ol : List O) (anc : List (List Nat)) (bs : List (List Nat × List O)) : Prop where
  ok : floatsOK bs = true
  le : (bs.map (·.2)).flatten.length ≤ ol.length
  at_ : withFloats anc (ol.length - (bs.map (·.2)).flatten.length) (bs.map (·.2)) = bs

theorem Good.tail {b : List Nat × List O} {bs : List (List Nat × List O)} (h : Good ol anc (b :: bs)) : Good ol anc bs := by
  obtain ⟨h1, h2, h3⟩ := h
  simp only [List.map_cons, List.flatten_cons, List.length_append] at h2 h3
  simp only [withFloats, List.cons.injEq] at h3
  refine ⟨?_, by omega, ?_⟩
  · simp only [floatsOK, List.all_cons, Bool.and_eq_true] at h1 ⊢; exact h1.2
  · have := h3.2
    rwa [show ol.length - (b.2.length + (bs.map (·.2)).flatten.length) + b.2.length = ol.length - (bs.map (·.2)).flatten.length by omega] at this

theorem Good.head {b : List Nat × List O} {bs : List (List Nat × List O)} (h : Good ol anc (b :: bs)) (hh : heavyP b.2 = true) : lastOK b.2 = true ∧ (∀ i ∈ b.1, floatOK b.2 i = true) ∧ ∀ p listed, Lies ops ol anc p (b.2 :: bs.map (·.2)) listed → b.1 = floatsOf anc p b.2 := by
  obtain ⟨h1, h2, h3⟩ := h
  simp only [floatsOK, List.all_cons, Bool.and_eq_true, Bool.or_eq_true, hh, Bool.not_true, Bool.false_eq_true, false_or] at h1
  refine ⟨h1.1.1, fun i hi => List.all_eq_true.1 h1.1.2 i hi, fun p listed hl => ?_⟩
  have hlen := congrArg List.length hl.eq
  have hb := heavyP_len hh
  simp only [List.length_drop, List.flatten_cons, List.length_append] at hlen
  simp only [List.map_cons, List.flatten_cons, List.length_append] at h2 h3
  simp only [withFloats] at h3
  have hp : ol.length - (b.2.length + (bs.map (·.2)).flatten.length) = p := by omega
  rw [hp] at h3
  have := congrArg List.head? h3
  simp only [List.head?_cons, Option.some.injEq] at this
  exact (congrArg Prod.fst this).symm

theorem ldrawF_heavy {fl : List Nat} {blk : List O} {bs : List (List Nat × List O)} (h : heavyP blk = true) {E : Env} {H : Heap} : ldrawF P ((fl, blk) :: bs) K E H = heavyC P fl blk (ldrawF P bs K) E H := by
  simp only [ldrawF, if_pos h, heavyC]
theorem ldrawF_light {fl : List Nat} {blk : List O} {bs : List (List Nat × List O)} (h : ¬ heavyP blk = true) {E : Env} {H : Heap} : ldrawF P ((fl, blk) :: bs) K E H = ldraw P [blk] (ldrawF P bs K) E H := by
  simp only [ldrawF, if_neg h]

theorem drawF_all (hQ : ∀ E' H' η' S' w' a', K E' H' → At n ds η' S' w' a' E' H' → Le η₀ S₀ w₀ η' S' w' → Q .normal a' w') (lkd : Looked n ops ol anc P) : ∀ f, (∀ bs, Good ol anc bs → StartOK ds ro P n ops ol anc (ldrawF P bs K) Q η₀ S₀ w₀ f (bs.map (·.2))) ∧
    (∀ blk bs, Good ol anc bs → MidOK ds ro P n ops ol anc (ldrawF P bs K) Q η₀ S₀ w₀ f blk (bs.map (·.2))) ∧
    (∀ (b : List Nat × List O) bs, Good ol anc (b :: bs) → heavyP b.2 = true → PreOK ds ro P n ops ol anc (ldrawF P bs K) Q η₀ S₀ w₀ f (fun _ => b.1) b.2 (bs.map (·.2)) ∧ PostOK ds ro P n ops ol anc (ldrawF P bs K) Q η₀ S₀ w₀ f b.1 b.2 (bs.map (·.2))) := by
  have nil : ∀ f, StartOK ds ro P n ops ol anc (ldrawF P [] K) Q η₀ S₀ w₀ f [] := fun f p listed E H η S w a h1 h2 h3 h4 h5 h6 h7 => start_nil hQ lkd f p listed E H η S w a h1 h2 h3 h4 h5 h6 h7
  intro f
  induction f with
  | zero =>
    have hs : ∀ bs, Good ol anc bs → StartOK ds ro P n ops ol anc (ldrawF P bs K) Q η₀ S₀ w₀ 0 (bs.map (·.2)) := fun bs => by
      induction bs with
      | nil => exact fun _ => nil 0
      | cons b bs ih =>
        intro hg
        obtain ⟨fl, blk⟩ := b
        by_cases hh : heavyP blk = true
        · obtain ⟨g1, g2, g3⟩ := hg.head (ops := ops) hh
          have : StartOK ds ro P n ops ol anc (heavyC P fl blk (ldrawF P bs K)) Q η₀ S₀ w₀ 0 (blk :: bs.map (·.2)) := start_heavy lkd hh g3 g2 (pre_step (f := 0) (C := ldrawF P bs K) lkd hh g1 (fun f' p h => by omega) (fun f' h => by omega))
          exact fun p listed E H η S w a h1 h2 h3 h4 h5 => this p listed E H η S w a h1 h2 h3 h4 (by rw [← ldrawF_heavy hh]; exact h5)
        · have := start_cons lkd (mid_step (blk := blk) lkd (ih hg.tail) (fun f' h => by omega)) (fun f' h => by omega)
          exact fun p listed E H η S w a h1 h2 h3 h4 h5 => this p listed E H η S w a h1 h2 h3 h4 (by rw [← ldrawF_light hh]; exact h5)
    refine ⟨hs, fun blk bs hg => mid_step lkd (hs bs hg) (fun f' h => by omega), fun b bs hg hh => ?_⟩
    obtain ⟨g1, g2, g3⟩ := hg.head (ops := ops) hh
    exact ⟨pre_step lkd hh g1 (fun f' p h => by omega) (fun f' h => by omega), post_step lkd g2 (hs bs hg.tail) (fun f' h => by omega)⟩
  | succ f ih =>
    obtain ⟨i1, i2, i3⟩ := ih
    have hs : ∀ bs, Good ol anc bs → StartOK ds ro P n ops ol anc (ldrawF P bs K) Q η₀ S₀ w₀ (f + 1) (bs.map (·.2)) := fun bs => by
      induction bs with
      | nil => exact fun _ => nil _
      | cons b bs ih' =>
        intro hg
        obtain ⟨fl, blk⟩ := b
        by_cases hh : heavyP blk = true
        · obtain ⟨g1, g2, g3⟩ := hg.head (ops := ops) hh
          have : StartOK ds ro P n ops ol anc (heavyC P fl blk (ldrawF P bs K)) Q η₀ S₀ w₀ (f + 1) (blk :: bs.map (·.2)) := start_heavy lkd hh g3 g2 (pre_step (f := f + 1) (C := ldrawF P bs K) lkd hh g1 (fun f' p h => by cases h; exact (i3 _ _ hg hh).2) (fun f' h => by cases h; exact (i3 _ _ hg hh).1))
          exact fun p listed E H η S w a h1 h2 h3 h4 h5 => this p listed E H η S w a h1 h2 h3 h4 (by rw [← ldrawF_heavy hh]; exact h5)
        · have := start_cons lkd (mid_step (blk := blk) lkd (ih' hg.tail) (fun f' h => by cases h; exact i2 _ _ hg.tail)) (fun f' h => by cases h; exact i1 _ hg.tail)
          exact fun p listed E H η S w a h1 h2 h3 h4 h5 => this p listed E H η S w a h1 h2 h3 h4 (by rw [← ldrawF_light hh]; exact h5)
    refine ⟨hs, fun blk bs hg => mid_step lkd (hs bs hg) (fun f' h => by cases h; exact i2 _ _ hg), fun b bs hg hh => ?_⟩
    obtain ⟨g1, g2, g3⟩ := hg.head (ops := ops) hh
    exact ⟨pre_step lkd hh g1 (fun f' p h => by cases h; exact (i3 _ _ hg hh).2) (fun f' h => by cases h; exact (i3 _ _ hg hh).1), post_step lkd g2 (hs bs hg.tail) (fun f' h => by cases h; exact (i3 _ _ hg hh).2)⟩

theorem withFloats_map {anc : List (List Nat)} : ∀ {bs : List (List O)} {p : Nat}, (withFloats anc p bs).map (·.2) = bs
  | [], _ => rfl
  | b :: bs, p => by simp [withFloats, withFloats_map (bs := bs)]

theorem drawF_sound {fs : List (List Nat × List O)} (hc : compDrawF P n ops = some fs) {E : Env} {H : Heap} {η : List Nat} {S : Nat → Prop} {w : World} {a : Act} (hl : ldrawF P fs K E H) (hA : At n ds η S w a E H) {id : Nat}
    (hQ : ∀ E' H' η' S' w' a', K E' H' → At n ds η' S' w' a' E' H' → Le η S w η' S' w' → Q .normal a' w') : (Code.region id ops true).wpIn (FW ro) 0 P Q a w := by
  simp only [compDrawF, Option.bind_eq_some_iff] at hc
  obtain ⟨bs, hbs, hc⟩ := hc
  split at hc
  rotate_left
  · simp at hc
  rename_i hfo
  simp only [Option.some.injEq] at hc
  subst hc
  obtain ⟨ol, lkd, m1, m5, hflat⟩ := draw_looked hbs
  refine wpIn_region_any m1 ?_
  have hL : Le η S w η S { w with drawn := w.drawn + 1 } := Le.heap rfl rfl rfl rfl
  have hg : Good ol (ancs ops.toList []) (withFloats (ancs ops.toList []) 0 bs) := ⟨hfo, by rw [withFloats_map, hflat]; omega, by rw [withFloats_map, hflat, Nat.sub_self]⟩
  have hall := (drawF_all (ro := ro) (K := K) (Q := Q) (η₀ := η) (S₀ := S) (w₀ := w) hQ lkd ops.size).1 _ hg
  rw [withFloats_map] at hall
  refine hall 0 _ E H η S _ a ⟨m5, by rw [hflat]; simp, by simp⟩ (fun j hj => by omega) (fun j _ => ?_) ?_ hl ⟨hA.conc.heap rfl, fun t => (hA.env t).le hL, hA.size, hA.defers⟩ hL
  · by_cases h : j < ops.size
    · simp [Array.getD_eq_getD_getElem?, h]
    · simp [Array.getD_eq_getD_getElem?, h]
  · unfold unl
    exact Nat.le_trans List.countP_le_length (by simp)

end
end Lg
