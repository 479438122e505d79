/- Regions whose order of evaluation is open: soundness. -/
import Derived.Test.YtaegmmeppkgnkaaLgQ2
import Derived.Orders
namespace Lg
open Go

section
variable {ds : List Deferred} {ro : Option Nat} {P : Program} {η : List Nat} {S : Nat → Prop} {w : World} {H : Heap} {a : Act} {E : Env}

/-- What an operation that makes a row gives, by the row's number. -/
theorem lnew_mk {op : I} {cs : List L} {mk : Nat → L} (h : lnew op E = some (cs, mk)) {β : Nat} {x : Value} (hx : Rel S w [β] x (mk 0)) : ∀ η, Rel S w (η ++ [β]) x (mk η.length) := by
  intro η
  have ptr : ∀ o, Rel S w [β] x (.ptr 0 o) → Rel S w (η ++ [β]) x (.ptr η.length o) := fun o h => by
    obtain ⟨b, rfl, hb, c0, t0, fr0, hb0⟩ := h.inv_ptr
    exact .ptr (by simpa using hb) hb0
  cases op <;> simp only [lnew] at h <;> first | (simp at h; done) | skip
  · cases h; exact ptr 0 hx
  · split at h
    · cases h; exact ptr 0 hx
    · simp at h
  · simp only [Option.map_eq_some_iff, Prod.mk.injEq] at h
    obtain ⟨_, _, rfl, rfl⟩ := h
    rcases hx.inv_view with ⟨ad, rfl, h0⟩ | ⟨b, cap, c, t, fr, rfl, hη, hb, hsz, hn, hm, hcl⟩
    · subst h0
      exact .view0
    · exact .view (by simpa using hη) hb hsz hn hm hcl
  · have key : ∃ e n, mk = fun h => .view e h 0 n false := by
      unfold appNew at h
      repeat' split at h
      all_goals first | (cases h; done) | (cases h; exact ⟨_, _, rfl⟩)
    obtain ⟨e, n, rfl⟩ := key
    rcases hx.inv_view with ⟨ad, rfl, h0⟩ | ⟨b, cap, c, t, fr, rfl, hη, hb, hsz, hn, hm, hcl⟩
    · subst h0
      exact .view0
    · exact .view (by simpa using hη) hb hsz hn hm hcl

/-- An operation that makes a row is one. -/
theorem lnew_lop {op : I} {cs : List L} {mk : Nat → L} (h : lnew op E = some (cs, mk)) : lopO op E H = some (mk H.length, H ++ [some cs]) ∧ isNew op = true := by
  cases op <;> simp only [lnew] at h <;> first | (simp at h; done) | skip
  · cases h; exact ⟨by simp [lopO], rfl⟩
  · split at h
    · rename_i ht; cases h; exact ⟨by simp [lopO, ht], rfl⟩
    · simp at h
  · simp only [Option.map_eq_some_iff, Prod.mk.injEq] at h
    obtain ⟨_, h1, rfl, rfl⟩ := h
    exact ⟨by simp [lopO, h1], rfl⟩
  · refine ⟨?_, rfl⟩
    simp only [lopO]
    unfold appNew at h
    split at h
    · cases h
    rename_i ys hys
    have hys' := lcells_none hys H
    unfold appendL
    rw [hys']
    simp only
    split at h
    rotate_left
    · cases h
    rename_i hc
    rw [if_pos ⟨hc.1, hc.2.1⟩]
    split at h
    · rename_i e
      split at h
      · rename_i hb
        cases h
        simp only [e, if_neg hc.2.2, if_pos hb]
      · cases h
    · rename_i e
      split at h
      · rename_i he
        split at h
        · rename_i hb
          cases h
          simp only [e, if_pos he, if_neg hc.2.2, if_pos hb]
        · cases h
      · cases h
    · cases h

/-- The facts on a region that the compiler has looked at. -/
structure Looked (n : Nat) (ops : Array Oper) (ol : List O) (anc : List (List Nat)) (P : Program) : Prop where
  len : ol.length = ops.size
  comp : ∀ (i : Nat) o oo, ops[i]? = some o → ol[i]? = some oo → compO P n ops o = some oo
  back : ∀ (i : Nat) o, ops[i]? = some o → ∀ j ∈ anc.getD i [], j ∈ edges o ∨ ∃ e ∈ edges o, j ∈ anc.getD e []
  edge : ∀ (i : Nat) o, ops[i]? = some o → ∀ e ∈ edges o, e < i
  t1 : ∀ (i j : Nat) x y d, i < j → ol[i]? = some x → ol[j]? = some y → x.dst = some d → (d ∈ y.names ∨ y.dst = some d) → i ∈ anc.getD j []
  t2 : ∀ (i j : Nat) x y d, i < j → ol[i]? = some x → ol[j]? = some y → y.dst = some d → d ∈ x.names → i ∈ anc.getD j []
  t3 : ∀ (i j : Nat) x y d, i ≠ j → ol[i]? = some x → ol[j]? = some y → isNew x.op = true → x.dst = some d → y.dst ≠ some d
  anclt : ∀ (k j : Nat), j ∈ anc.getD k [] → j < k

/-- What has run so far, downward closed. -/
def DC (anc : List (List Nat)) (listed : Array Bool) : Prop := ∀ k, listed.getD k false = true → ∀ j ∈ anc.getD k [], listed.getD j false = true

theorem ready_iff {ops : Array Oper} {listed : Array Bool} {i : Nat} : i ∈ Region.ready .any ops listed ↔ listed.getD i true = false ∧ ∃ o, ops[i]? = some o ∧ ∀ e ∈ edges o, listed.getD e false = true := by
  rw [mem_ready]
  refine and_congr_right fun _ => exists_congr fun o => and_congr_right fun _ => ?_
  simp only [edges, List.mem_map, List.mem_filter]
  constructor
  · rintro h e ⟨x, ⟨hx, hb⟩, rfl⟩; exact h x (by simpa using hx) hb
  · intro h e he hb; exact h _ ⟨e, ⟨by simpa using he, hb⟩, rfl⟩

theorem set_getD {listed : Array Bool} {i : Nat} (hi : i < listed.size) (j : Nat) : (listed.setIfInBounds i true).getD j false = if j = i then true else listed.getD j false := by
  by_cases h : j = i
  · subst h; simp [Array.getD_eq_getD_getElem?, hi]
  · simp [Array.getD_eq_getD_getElem?, Ne.symm h, h]

theorem ready_anc {n : Nat} {ops : Array Oper} {ol : List O} {anc : List (List Nat)} (lk : Looked n ops ol anc P) {listed : Array Bool} (hdc : DC anc listed) {i : Nat} (hr : i ∈ Region.ready .any ops listed) : ∀ j ∈ anc.getD i [], listed.getD j false = true := by
  obtain ⟨-, o, ho, he⟩ := ready_iff.1 hr
  intro j hj
  rcases lk.back i o ho j hj with h | ⟨e, h1, h2⟩
  · exact he j h
  · exact hdc e (he e h1) j h2

theorem DC.step {n : Nat} {ops : Array Oper} {ol : List O} {anc : List (List Nat)} (lk : Looked n ops ol anc P) {listed : Array Bool} (hdc : DC anc listed) {i : Nat} (hr : i ∈ Region.ready .any ops listed) (hi : i < listed.size) : DC anc (listed.setIfInBounds i true) := by
  intro k hk j hj
  rw [set_getD hi] at hk ⊢
  by_cases hki : k = i
  · subst hki
    have := ready_anc lk hdc hr j hj
    rw [this]; split <;> rfl
  · rw [if_neg hki] at hk
    rw [hdc k hk j hj]; split <;> rfl

/-- A block's cells read as these. -/
def Holds (η : List Nat) (S : Nat → Prop) (w : World) (b : Nat) (cs : List L) : Prop := ∃ c t fr, w.heap[b]? = some (.cells c t fr) ∧ (fr.1 = fr.2 ∨ c.size ≤ fr.1) ∧ cs.length ≤ c.size ∧ ∀ j, j < cs.length → Rel S w η (c.getD j undef) (cs.getD j .any)

theorem Holds.lt {b : Nat} {cs : List L} (h : Holds η S w b cs) : b < w.heap.size := by
  obtain ⟨c, t, fr, h1, -⟩ := h
  rcases Nat.lt_or_ge b w.heap.size with h | h
  · exact h
  · simp [Array.getElem?_eq_none h] at h1

/-- A piece in the middle. -/
structure Mid (n : Nat) (ds : List Deferred) (anc : List (List Nat)) (p : Nat) (blk : List O) (outs : List Out) (E : Env) (H : Heap) (wb : Nat) (β : Nat → Nat) (listed : Array Bool) (η : List Nat) (S : Nat → Prop) (w : World) (a : Act) : Prop where
  pre : ∀ j, j < p → listed.getD j false = true
  post : ∀ j, p + blk.length ≤ j → listed.getD j false = false
  dc : DC anc listed
  conc : Conc η S w H
  size : a.tmps.size = n
  defers : a.defers = ds
  rel : ∀ t, Rel S w η (a.tmps.getD t undef) (valAt E blk outs (fun i => listed.getD (p + i) false) t blk.length)
  wbd : wb ≤ w.heap.size ∧ ∀ b ∈ η, b < wb
  priv : ∀ (i : Nat) cs mk, outs[i]? = some (.new cs mk) → listed.getD (p + i) false = true → wb ≤ β i ∧ ¬ S (β i) ∧ Holds η S w (β i) (afterPut (putsTo outs (fun i => listed.getD (p + i) false) ((blk[i]?).bind (·.dst))) cs) ∧
    ∀ d, (blk[i]?).bind (·.dst) = some d → Rel S w [β i] (a.tmps.getD d undef) (mk 0)
  inj : ∀ (i i' : Nat) cs mk cs' mk', outs[i]? = some (.new cs mk) → outs[i']? = some (.new cs' mk') → listed.getD (p + i) false = true → listed.getD (p + i') false = true → β i = β i' → i = i'

theorem storesTo_names {o : O} {d : Nat} (h : storesTo o = some d) : d ∈ o.names := by
  unfold storesTo at h
  split at h
  · rename_i s d' y e
    cases h
    unfold O.names
    rw [e]
    split <;> simp [I.tmps, A.tmps]
  · simp at h

theorem put_getD {d : Option Nat} {v : Value} (hd : ∀ t, d = some t → t < a.tmps.size) (t : Nat) : (a.put d v).tmps.getD t undef = if d = some t then v else a.tmps.getD t undef := by
  cases d with
  | none => simp [Act.put]
  | some k =>
    have := hd k rfl
    simp only [Act.put, Option.some.injEq]
    by_cases h : t = k
    · subst h; simp [Array.getD_eq_getD_getElem?, this]
    · simp [Array.getD_eq_getD_getElem?, Ne.symm h]

/-- One more operation of a piece has run. -/
theorem Mid.step {n : Nat} {ops : Array Oper} {ol : List O} {anc : List (List Nat)} (lkd : Looked n ops ol anc P) {p : Nat} {blk : List O} {outs : List Out} {wb : Nat} {β : Nat → Nat} {listed : Array Bool} (hM : Mid n ds anc p blk outs E H wb β listed η S w a)
    (hblk : ∀ (i : Nat) o, blk[i]? = some o → ol[p + i]? = some o) (hsz : listed.size = ops.size) {i : Nat} {o : O} {out : Out} (ho : blk[i]? = some o) (hout : outs[i]? = some out) (hr : p + i ∈ Region.ready .any ops listed) (hnew : ∀ (j : Nat) y cs mk, blk[j]? = some y → outs[j]? = some (.new cs mk) → isNew y.op = true)
    (hdst : ∀ t, o.dst = some t → t < n) {v : Value} {S' : Nat → Prop} {w' : World} (q : Le η S w η S' w') (qC : Conc η S' w' H) (hv : Rel S' w' η v out.l)
    (hpriv : ∀ cs mk, out = .new cs mk → w.heap.size < w'.heap.size ∧ ¬ S' w.heap.size ∧ (∃ c t, w'.heap[w.heap.size]? = some (.cells c t (0, 0)) ∧ cs.length ≤ c.size ∧ ∀ j, j < cs.length → Rel S' w' η (c.getD j undef) (cs.getD j .any)) ∧ Rel S' w' [w.heap.size] v (mk 0))
    (hnp : ∀ d l, out ≠ .put d l) (hputs : ∀ (k : Nat) d l, outs[k]? = some (.put d l) → ∃ y, blk[k]? = some y ∧ storesTo y = some d)
    (hbefore : ∀ (k : Nat) d l, outs[k]? = some (.put d l) → ∀ (j : Nat) cs mk, outs[j]? = some (.new cs mk) → (blk[j]?).bind (·.dst) = some d → k ≤ j → False) :
    Mid n ds anc p blk outs E H wb (fun k => if k = i then w.heap.size else β k) (listed.setIfInBounds (p + i) true) η S' w' (a.put o.dst v) := by
  have hib : i < blk.length := (List.getElem?_eq_some_iff.1 ho).1
  have hin : p + i < listed.size := by
    have := (List.getElem?_eq_some_iff.1 (hblk i o ho)).1
    rw [hsz, ← lkd.len]; exact this
  have hun : listed.getD (p + i) false = false := by
    have := (ready_iff.1 hr).1
    rw [agetD_of_lt _ _ hin] at this ⊢; exact this
  have hg : ∀ j, (listed.setIfInBounds (p + i) true).getD j false = if j = p + i then true else listed.getD j false := set_getD hin
  have hg' : ∀ j, (listed.setIfInBounds (p + i) true).getD (p + j) false = if j = i then true else listed.getD (p + j) false := fun j => by
    rw [hg]; by_cases h : j = i
    · simp [h]
    · rw [if_neg (by omega), if_neg h]
  have hput : ∀ t, (a.put o.dst v).tmps.getD t undef = if o.dst = some t then v else a.tmps.getD t undef := put_getD (fun t ht => by rw [hM.size]; exact hdst t ht)
  refine ⟨fun j hj => ?_, fun j hj => ?_, hM.dc.step lkd hr hin, qC, ?_, ?_, fun t => ?_, ⟨Nat.le_trans hM.wbd.1 q.size, hM.wbd.2⟩, ?_, ?_⟩
  · rw [hg, if_neg (by omega)]; exact hM.pre j hj
  · rw [hg, if_neg (by omega)]; exact hM.post j hj
  · cases o.dst <;> simp [Act.put, hM.size]
  · cases o.dst <;> exact hM.defers
  · rw [hput]
    by_cases hd : o.dst = some t
    · rw [if_pos hd]
      have hstop := valAt_stop (E := E) (blk := blk) (outs := outs) (M := fun j => (listed.setIfInBounds (p + i) true).getD (p + j) false) (t := t) (k := i + 1) (n := blk.length) (by omega) (fun j h1 h2 h3 => by
        rw [hg', if_neg (by omega)]
        cases hl : listed.getD (p + j) false with
        | false => rfl
        | true =>
          exfalso
          obtain ⟨y, hy⟩ : ∃ y, blk[j]? = some y := ⟨_, List.getElem?_eq_getElem h2⟩
          rw [hy] at h3
          have := lkd.t1 (p + i) (p + j) o y t (by omega) (hblk i o ho) (hblk j y hy) hd (.inr h3)
          have := hM.dc (p + j) hl _ this
          rw [hun] at this; simp at this)
      rw [hstop]
      simp only [valAt]
      rw [if_pos ⟨by rw [hg']; simp, by rw [ho]; exact hd⟩, hout]
      exact hv
    · rw [if_neg hd]
      have := valAt_congr (E := E) (blk := blk) (outs := outs) (M := fun j => (listed.setIfInBounds (p + i) true).getD (p + j) false) (M' := fun j => listed.getD (p + j) false) (t := t) (n := blk.length) (fun j h1 h2 => by
        rw [hg', if_neg (fun e => by subst e; rw [ho] at h2; exact hd h2)])
      rw [this]
      exact (hM.rel t).le q
  · intro j cs mk hj hl
    rw [hg'] at hl
    by_cases hji : j = i
    · subst hji
      rw [hout] at hj; cases hj
      obtain ⟨k1, k2, ⟨c, t, k3, k3', k3''⟩, k4⟩ := hpriv cs mk rfl
      simp only [if_true]
      have hnone : putsTo outs (fun i => (listed.setIfInBounds (p + j) true).getD (p + i) false) ((blk[j]?).bind (·.dst)) = none := putsTo_none fun k d l hk hd => by
        rw [hg']
        have hkj : k ≠ j := fun e => by subst e; rw [hout] at hk; simp at hk
        rw [if_neg hkj]
        cases hlk : listed.getD (p + k) false with
        | false => rfl
        | true =>
          exfalso
          obtain ⟨y, hy, hst⟩ := hputs k d l hk
          rw [ho] at hd
          simp only [Option.bind_some] at hd
          have hny := storesTo_names hst
          rcases Nat.lt_or_ge j k with hlt | hge
          · have := lkd.t1 (p + j) (p + k) o y d (by omega) (hblk j o ho) (hblk k y hy) hd (.inl hny)
            have := hM.dc _ hlk _ this
            rw [hun] at this; simp at this
          · exact absurd hge (by
              have := lkd.t2 (p + k) (p + j) y o d (by omega) (hblk k y hy) (hblk j o ho) hd hny
              exact fun _ => hbefore k d l hk j cs mk hout (by rw [ho]; exact hd) hge)
      refine ⟨hM.wbd.1, k2, by rw [hnone]; exact ⟨c, t, (0, 0), k3, .inl rfl, k3', k3''⟩, fun d hd => ?_⟩
      rw [ho] at hd
      simp only [Option.bind_some] at hd
      rw [hput, if_pos hd]; exact k4
    · rw [if_neg hji] at hl
      obtain ⟨k1, k2, k3, k6⟩ := hM.priv j cs mk hj hl
      simp only [hji, if_false]
      have hlt : β j < w.heap.size := k3.lt
      have hout' : β j ∉ η := fun hm => by have := hM.wbd.2 _ hm; omega
      have hsame : putsTo outs (fun k => (listed.setIfInBounds (p + i) true).getD (p + k) false) ((blk[j]?).bind (·.dst)) = putsTo outs (fun k => listed.getD (p + k) false) ((blk[j]?).bind (·.dst)) := putsTo_congr fun k d l hk hd => by
        rw [hg', if_neg (fun e => by subst e; rw [hout] at hk; exact hnp d l (Option.some.inj hk))]
      obtain ⟨c, t, fr, k3, k4', k4, k5⟩ := k3
      refine ⟨k1, fun hs => ?_, by rw [hsame]; exact ⟨c, t, fr, by rw [q.frame _ hlt hout']; exact k3, k4', k4, fun m hm => (k5 m hm).le q⟩, fun d hd => ?_⟩
      · rcases q.new _ hs with h | h | h
        · exact k2 h
        · exact hout' h
        · omega
      · rw [hput]
        obtain ⟨y, hy⟩ : ∃ y, blk[j]? = some y := by
          cases e : blk[j]? with
          | none => simp [e] at hd
          | some y => exact ⟨y, rfl⟩
        rw [if_neg (fun e => ?_)]
        · exact (k6 d hd).mono q.sub q.keep q.shape (fun _ _ h => h)
        · rw [hy] at hd
          exact lkd.t3 (p + j) (p + i) y o d (by omega) (hblk j y hy) (hblk i o ho) (hnew j y cs mk hy hj) hd e
  · intro j j' cs mk cs' mk' h1 h2 l1 l2 hb
    rw [hg'] at l1 l2
    have old : ∀ {j cs mk}, outs[j]? = some (.new cs mk) → listed.getD (p + j) false = true → β j < w.heap.size := fun {j cs mk} h1 l1 => by
      obtain ⟨-, -, k3, -⟩ := hM.priv j cs mk h1 l1
      exact k3.lt
    by_cases e1 : j = i <;> by_cases e2 : j' = i
    · rw [e1, e2]
    · rw [if_neg e2] at l2
      have := old h2 l2
      simp only [e1, if_true, e2, if_false] at hb
      omega
    · rw [if_neg e1] at l1
      have := old h1 l1
      simp only [e1, if_false, e2, if_true] at hb
      omega
    · rw [if_neg e1] at l1
      rw [if_neg e2] at l2
      simp only [e1, e2, if_false] at hb
      exact hM.inj j j' cs mk cs' mk' h1 h2 l1 l2 hb


/-- The rows that were made become own rows, one by one. -/
theorem addNews_sound {tmps : Array Value} {K : Env → Heap → Prop} : ∀ {nl : List (Option Nat × List L × (Nat → L))} {E : Env} {H : Heap} {η : List Nat} (bs : List Nat), bs.length = nl.length → Conc η S w H → REnv η S w tmps E → addNews nl E H K →
    (∀ (i : Nat) b d cs mk, bs[i]? = some b → nl[i]? = some (d, cs, mk) → ¬ S b ∧ b ∉ η ∧ Holds η S w b cs ∧
      ∀ t, d = some t → ∀ η, Rel S w (η ++ [b]) (tmps.getD t undef) (mk η.length)) →
    (∀ (i i' : Nat) b, bs[i]? = some b → bs[i']? = some b → i = i') →
    ∃ E' H' η', K E' H' ∧ Conc η' S w H' ∧ REnv η' S w tmps E' ∧ η' = η ++ bs
  | [], E, H, η, bs, hl, hC, hE, hk, _, _ => by
    have : bs = [] := List.eq_nil_of_length_eq_zero hl
    subst this
    exact ⟨E, H, η, hk, hC, hE, by simp⟩
  | (d, cs, mk) :: nl, E, H, η, [], hl, _, _, _, _, _ => by simp at hl
  | (d, cs, mk) :: nl, E, H, η, b :: bs, hl, hC, hE, hk, hp, hi => by
    simp only [addNews] at hk
    obtain ⟨p1, p2, ⟨c, t, fr, p3, p4', p4, p5⟩, p6⟩ := hp 0 b d cs mk rfl rfl
    have hC' := hC.adopt p4' p3 p1 p2 p4 p5
    have up : ∀ {x l}, Rel S w η x l → Rel S w (η ++ [b]) x l := fun h => h.mono (fun _ h => h) (fun _ _ => rfl) (fun _ c _ fr h => ⟨c, fr, h, rfl⟩) (fun _ _ h => prefix_get h)
    obtain ⟨E', H', η', q1, q2, q3, q4⟩ := addNews_sound (η := η ++ [b]) bs (by simpa using hl) hC' (fun t => by
      rw [lk_putE]
      split
      · rename_i e
        rw [← hC.len]
        exact p6 t e η
      · exact up (hE t)) hk (fun i b' d' cs' mk' e1 e2 => by
      obtain ⟨r1, r2, ⟨c', t', fr', r3, r4', r4, r5⟩, r6⟩ := hp (i + 1) b' d' cs' mk' (by simpa using e1) (by simpa using e2)
      refine ⟨r1, fun hm => ?_, ⟨c', t', fr', r3, r4', r4, fun j hj => up (r5 j hj)⟩, r6⟩
      rcases List.mem_append.1 hm with h | h
      · exact r2 h
      · simp at h; subst h
        have := hi (i + 1) 0 b' (by simpa using e1) rfl
        omega) (fun i i' b' e1 e2 => by have := hi (i + 1) (i' + 1) b' (by simpa using e1) (by simpa using e2); omega)
    exact ⟨E', H', η', q1, q2, q3, by rw [q4]; simp⟩

/-- The blocks of the rows that were made, in the text's order. -/
def newBlocks (β : Nat → Nat) : Nat → List Out → List Nat
  | _, [] => []
  | i, .new _ _ :: outs => β i :: newBlocks β (i + 1) outs
  | i, _ :: outs => newBlocks β (i + 1) outs

theorem newBlocks_spec {β : Nat → Nat} : ∀ {blk : List O} {outs : List Out} (i : Nat), outs.length = blk.length → (newBlocks β i outs).length = (newsOf blk outs).length ∧
    ∀ (k : Nat) (b : Nat) (d : Option Nat) (cs : List L) (mk : Nat → L), (newBlocks β i outs)[k]? = some b → (newsOf blk outs)[k]? = some (d, cs, mk) → ∃ (j : Nat) (o : O), blk[j]? = some o ∧ outs[j]? = some (.new cs mk) ∧ b = β (i + j) ∧ d = o.dst
  | [], [], i, _ => by simp [newBlocks, newsOf]
  | [], _ :: _, i, h => by simp at h
  | _ :: _, [], i, h => by simp at h
  | o :: blk, out :: outs, i, h => by
    obtain ⟨e1, e2⟩ := newBlocks_spec (β := β) (blk := blk) (outs := outs) (i + 1) (by simpa using h)
    have old : ∀ (k : Nat) (b : Nat) (d : Option Nat) (cs : List L) (mk : Nat → L), (newBlocks β (i + 1) outs)[k]? = some b → (newsOf blk outs)[k]? = some (d, cs, mk) → ∃ (j : Nat) (o' : O), (o :: blk)[j]? = some o' ∧ (out :: outs)[j]? = some (.new cs mk) ∧ b = β (i + j) ∧ d = o'.dst := fun k b d cs mk h1 h2 => by
      obtain ⟨j, o', f1, f2, f3, f4⟩ := e2 k b d cs mk h1 h2
      exact ⟨j + 1, o', by simpa using f1, by simpa using f2, by rw [f3]; congr 1; omega, f4⟩
    cases out with
    | skip => exact ⟨e1, old⟩
    | val l => exact ⟨e1, old⟩
    | put d l => exact ⟨e1, old⟩
    | new cs mk =>
      refine ⟨by simp [newBlocks, newsOf, e1], fun k b d cs' mk' h1 h2 => ?_⟩
      cases k with
      | zero =>
        simp only [newBlocks, newsOf, List.getElem?_cons_zero, Option.some.injEq, Prod.mk.injEq] at h1 h2
        obtain ⟨rfl, rfl, rfl⟩ := h2
        exact ⟨0, o, rfl, rfl, h1.symm, rfl⟩
      | succ k => exact old k b d cs' mk' (by simpa [newBlocks] using h1) (by simpa [newsOf] using h2)

theorem newBlocks_at {β : Nat → Nat} : ∀ {outs : List Out} (i k b : Nat), (newBlocks β i outs)[k]? = some b → ∃ (j : Nat) (cs : List L) (mk : Nat → L), outs[j]? = some (.new cs mk) ∧ b = β (i + j) ∧ k = ((outs.take j).countP fun o => match o with | .new _ _ => true | _ => false)
  | [], i, k, b, h => by simp [newBlocks] at h
  | out :: outs, i, k, b, h => by
    cases out with
    | skip =>
      obtain ⟨j, cs, mk, h1, h2, h3⟩ := newBlocks_at (outs := outs) (i + 1) k b h
      exact ⟨j + 1, cs, mk, by simpa using h1, by rw [h2]; congr 1; omega, by simpa using h3⟩
    | val l =>
      obtain ⟨j, cs, mk, h1, h2, h3⟩ := newBlocks_at (outs := outs) (i + 1) k b h
      exact ⟨j + 1, cs, mk, by simpa using h1, by rw [h2]; congr 1; omega, by simpa using h3⟩
    | put d l =>
      obtain ⟨j, cs, mk, h1, h2, h3⟩ := newBlocks_at (outs := outs) (i + 1) k b h
      exact ⟨j + 1, cs, mk, by simpa using h1, by rw [h2]; congr 1; omega, by simpa using h3⟩
    | new cs mk =>
      cases k with
      | zero => simp [newBlocks] at h; exact ⟨0, cs, mk, rfl, h.symm, by simp⟩
      | succ k =>
        obtain ⟨j, cs', mk', h1, h2, h3⟩ := newBlocks_at (outs := outs) (i + 1) k b (by simpa [newBlocks] using h)
        exact ⟨j + 1, cs', mk', by simpa using h1, by rw [h2]; congr 1; omega, by simp [h3]⟩

/-- A piece has run whole. -/
theorem Mid.done {n : Nat} {anc : List (List Nat)} {p : Nat} {blk : List O} {outs : List Out} {wb : Nat} {β : Nat → Nat} {listed : Array Bool} (hM : Mid n ds anc p blk outs E H wb β listed η S w a) (hall : ∀ i, i < blk.length → listed.getD (p + i) false = true)
    (hruns : Runs P H E blk outs) {E' : Env} {K : Env → Heap → Prop} (he : ∀ t, lk E' t = lk (foldE E blk outs) t) (hk : addNews (finNews outs (newsOf blk outs)) E' H K) :
    ∃ E'' H'' η', K E'' H'' ∧ At n ds η' S w a E'' H'' ∧ ∃ ζ, η' = η ++ ζ ∧ ∀ b ∈ ζ, wb ≤ b := by
  obtain ⟨hl, hat⟩ := hruns.at
  obtain ⟨nb1, nb2⟩ := newBlocks_spec (β := β) (blk := blk) (outs := outs) 0 hl
  have hE : REnv η S w a.tmps E' := fun t => by
    rw [he t]
    have := valAt_fold (E := E) (blk := blk) (outs := outs) hl (t := t) (Nat.le_refl _)
    rw [List.take_length, ← hl, List.take_length] at this
    rw [← this, hl]
    rw [valAt_congr (M' := fun i => listed.getD (p + i) false) (fun i hi _ => (hall i hi).symm)]
    exact hM.rel t
  have mkOK : ∀ (j : Nat) o cs mk, blk[j]? = some o → outs[j]? = some (.new cs mk) → lnew o.op (foldE E (blk.take j) (outs.take j)) = some (cs, mk) := fun j o cs mk h1 h2 => (hat j o _ h1 h2).2
  obtain ⟨E'', H'', η', q1, q2, q3, q4⟩ := addNews_sound (tmps := a.tmps) (newBlocks β 0 outs) (by rw [nb1]; simp [finNews]) hM.conc hE hk (fun k b d cs mk h1 h2 => by
      obtain ⟨cs0, h2, hcs⟩ : ∃ cs0, (newsOf blk outs)[k]? = some (d, cs0, mk) ∧ cs = afterPut (putsTo outs (fun _ => true) d) cs0 := by
        unfold finNews at h2
        rw [List.getElem?_map] at h2
        obtain ⟨⟨d0, cs0, mk0⟩, g1, g2⟩ := Option.map_eq_some_iff.1 h2
        simp only [Prod.mk.injEq] at g2
        obtain ⟨rfl, rfl, rfl⟩ := g2
        exact ⟨cs0, g1, rfl⟩
      obtain ⟨j, o, f1, f2, f3, f4⟩ := nb2 k b d cs0 mk h1 h2
      have hj : j < blk.length := (List.getElem?_eq_some_iff.1 f1).1
      obtain ⟨g1, g2, g3, g4⟩ := hM.priv j cs0 mk f2 (hall j hj)
      rw [Nat.zero_add] at f3
      subst f3
      have hsame : putsTo outs (fun i => listed.getD (p + i) false) ((blk[j]?).bind (·.dst)) = putsTo outs (fun _ => true) d := by
        rw [f1, f4]
        exact putsTo_congr fun i d' l hi _ => hall i (by have := (List.getElem?_eq_some_iff.1 hi).1; omega)
      rw [hsame, ← hcs] at g3
      refine ⟨g2, fun hm => by have := hM.wbd.2 _ hm; omega, g3, fun t ht η₁ => ?_⟩
      have := g4 t (by rw [f1]; rw [← ht, f4]; rfl)
      exact lnew_mk (mkOK j o cs0 mk f1 f2) this η₁) (fun k k' b h1 h2 => by
      obtain ⟨j, cs, mk, f1, f2, f3⟩ := newBlocks_at (β := β) (outs := outs) 0 k b h1
      obtain ⟨j', cs', mk', g1, g2, g3⟩ := newBlocks_at (β := β) (outs := outs) 0 k' b h2
      rw [Nat.zero_add] at f2 g2
      have hj : j < blk.length := by have := (List.getElem?_eq_some_iff.1 f1).1; omega
      have hj' : j' < blk.length := by have := (List.getElem?_eq_some_iff.1 g1).1; omega
      have := hM.inj j j' cs mk cs' mk' f1 g1 (hall j hj) (hall j' hj') (by rw [← f2, ← g2])
      subst this
      rw [f3, g3])
  refine ⟨E'', H'', η', q1, ⟨q2, q3, hM.size, hM.defers⟩, _, q4, fun b hb => ?_⟩
  obtain ⟨k, hk', hkb⟩ := List.getElem_of_mem hb
  obtain ⟨j, cs, mk, f1, f2, -⟩ := newBlocks_at (β := β) (outs := outs) 0 k b (by rw [List.getElem?_eq_getElem hk', hkb])
  rw [Nat.zero_add] at f2
  have hj : j < blk.length := by have := (List.getElem?_eq_some_iff.1 f1).1; omega
  have := (hM.priv j cs mk f1 (hall j hj)).1
  omega

end
end Lg
