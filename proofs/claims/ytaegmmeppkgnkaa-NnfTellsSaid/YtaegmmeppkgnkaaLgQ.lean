/- Regions whose order of evaluation is open. -/
import Derived.Test.YtaegmmeppkgnkaaLgM2
namespace Lg
open Go

section
variable {P : Program} {η : List Nat} {S : Nat → Prop} {w : World} {H : Heap} {a : Act} {E : Env}

theorem arg_congr {E E' : Env} {x : A} (h : ∀ t ∈ x.tmps, lk E t = lk E' t) : arg E x = arg E' x := by
  cases x with
  | t n => exact h n (by simp [A.tmps])
  | c l => rfl

theorem args_congr {E E' : Env} {xs : List A} (h : ∀ t ∈ xs.flatMap A.tmps, lk E t = lk E' t) : xs.map (arg E) = xs.map (arg E') :=
  List.map_congr_left fun x hx => arg_congr fun t ht => h t (List.mem_flatMap.2 ⟨x, hx, ht⟩)

theorem parts_congr {E E' : Env} {ps : List (Nat × Nat × A)} (h : ∀ t ∈ ps.flatMap fun p => p.2.2.tmps, lk E t = lk E' t) :
    (ps.map fun p => (p.1, p.2.1, arg E p.2.2)) = ps.map fun p => (p.1, p.2.1, arg E' p.2.2) :=
  List.map_congr_left fun x hx => by rw [arg_congr fun t ht => h t (List.mem_flatMap.2 ⟨x, hx, ht⟩)]

theorem oa_congr {E E' : Env} {x : Option A} (h : ∀ t ∈ oaTmps x, lk E t = lk E' t) : x.map (arg E) = x.map (arg E') := by
  cases x with
  | none => rfl
  | some x => simp [arg_congr h]

theorem lopO_congr {op : I} {E E' : Env} (h : ∀ t ∈ op.tmps, lk E t = lk E' t) : lopO op E H = lopO op E' H := by
  cases op <;> simp only [lopO, I.tmps, List.mem_append] at h ⊢
  case mov x => rw [arg_congr h]
  case b2s x => rw [arg_congr h]
  case s2ap n x => rw [arg_congr h]
  case mlen x => rw [arg_congr h]
  case r2s x => rw [arg_congr h]
  case mget k c z x y => rw [arg_congr (fun t ht => h t (.inl ht)), arg_congr (fun t ht => h t (.inr ht))]
  case mset k x y z => rw [arg_congr (fun t ht => h t (.inl ht)), arg_congr (fun t ht => h t (.inr (.inl ht))), arg_congr (fun t ht => h t (.inr (.inr ht)))]
  case eq2 k x y => rw [arg_congr (fun t ht => h t (.inl ht)), arg_congr (fun t ht => h t (.inr ht))]
  case pick c x y => rw [arg_congr (fun t ht => h t (.inl ht)), arg_congr (fun t ht => h t (.inr (.inl ht))), arg_congr (fun t ht => h t (.inr (.inr ht)))]
  case box x => rw [arg_congr h]
  case build z ps => rw [parts_congr h]
  case bslice e z n ps => rw [parts_congr h]
  case load s ag x => rw [arg_congr h]
  case store s x y => rw [arg_congr (fun t ht => h t (.inl ht)), arg_congr (fun t ht => h t (.inr ht))]
  case nilchk x => rw [arg_congr h]
  case bin op b x y => rw [arg_congr (fun t ht => h t (.inl ht)), arg_congr (fun t ht => h t (.inr ht))]
  case un op x => rw [arg_congr h]
  case conv k x => rw [arg_congr h]
  case sames x => rw [arg_congr h]
  case field o s ag x => rw [arg_congr h]
  case faddr o x => rw [arg_congr h]
  case iaddr e x i => rw [arg_congr (fun t ht => h t (.inl ht)), arg_congr (fun t ht => h t (.inr ht))]
  case iaddrA n e x i => rw [arg_congr (fun t ht => h t (.inl ht)), arg_congr (fun t ht => h t (.inr ht))]
  case idx n e ag x i => rw [arg_congr (fun t ht => h t (.inl ht)), arg_congr (fun t ht => h t (.inr ht))]
  case slice e x l hh m => rw [arg_congr (fun t ht => h t (.inl ht)), oa_congr (fun t ht => h t (.inr (.inl ht))), oa_congr (fun t ht => h t (.inr (.inr (.inl ht)))), oa_congr (fun t ht => h t (.inr (.inr (.inr ht))))]
  case sliceA n e x l hh m => rw [arg_congr (fun t ht => h t (.inl ht)), oa_congr (fun t ht => h t (.inr (.inl ht))), oa_congr (fun t ht => h t (.inr (.inr (.inl ht)))), oa_congr (fun t ht => h t (.inr (.inr (.inr ht))))]
  case mksl e b z n c => rw [arg_congr (fun t ht => h t (.inl ht)), arg_congr (fun t ht => h t (.inr ht))]
  case mkfn f x y => rw [args_congr (fun t ht => h t (.inl ht)), args_congr (fun t ht => h t (.inr ht))]
  case extract x i => rw [arg_congr h]
  case len s x => rw [arg_congr h]
  case append e b z x y => rw [arg_congr (fun t ht => h t (.inl ht)), arg_congr (fun t ht => h t (.inr ht))]
  case copy e x y => rw [arg_congr (fun t ht => h t (.inl ht)), arg_congr (fun t ht => h t (.inr ht))]
  case mm m x xs => rw [arg_congr (fun t ht => h t (.inl ht)), args_congr (fun t ht => h t (.inr ht))]

theorem lnew_congr {op : I} {E E' : Env} (h : ∀ t ∈ op.tmps, lk E t = lk E' t) : lnew op E = lnew op E' := by
  cases op <;> simp only [lnew, I.tmps] at h ⊢
  case box x => rw [arg_congr h]
  case bslice e z n ps => rw [parts_congr h]
  case append e b z x y => rw [arg_congr (fun t ht => h t (List.mem_append.2 (.inl ht))), arg_congr (fun t ht => h t (List.mem_append.2 (.inr ht)))]

/-- What reads leaves the own rows. -/
theorem read_same {op : I} {l : L} {H' : Heap} (hr : isRead op = true) (h : lopO op E H = some (l, H')) : H' = H := by
  cases op <;> simp only [isRead, Bool.false_eq_true] at hr <;> simp only [lopO] at h
  case pick c x y => split at h <;> simp_all
  case nilchk x => split at h <;> simp_all
  case eq2 k x y =>
    split at h
    · split at h <;> simp_all
    · simp at h
  case s2ap n x =>
    split at h
    · split at h <;> simp_all
    · split at h <;> simp_all
    · simp at h
  case conv k x => split at h <;> simp_all
  case extract x i =>
    split at h
    · simp only [Option.map_eq_some_iff, Prod.mk.injEq] at h
      obtain ⟨_, _, _, h⟩ := h; exact h.symm
    · simp at h
  all_goals first
    | (simp only [Option.some.injEq, Prod.mk.injEq] at h; exact h.2.symm)
    | (simp only [Option.map_eq_some_iff, Prod.mk.injEq] at h
       obtain ⟨_, _, _, h⟩ := h; exact h.symm)

/-- What becomes of an operation whose order is open. -/
inductive Out where
  | skip
  | val (l : L)
  | new (cs : List L) (mk : Nat → L)
  | put (d : Nat) (l : L)

def Out.l : Out → L
  | .skip => .no
  | .val l => l
  | .new .. => .any
  | .put .. => .any

def runs (E : Env) (o : O) : Prop :=
  match o.guard with
  | none => True
  | some (s, b) => lk E s = .v (.bool b)

def passes (E : Env) (o : O) : Prop :=
  match o.guard with
  | none => False
  | some (s, b) => lk E s = .v (.bool (!b)) ∨ lk E s = .no

def OutOK (P : Program) (H : Heap) (E : Env) (o : O) : Out → Prop
  | .skip => passes E o
  | .val l => runs E o ∧ ((∃ f xs, o.op = .call f xs ∧ callV P f (xs.map (arg E)) H l) ∨ (∃ x xs f ff cc, o.op = .calld x xs ∧ arg E x = .fn (.func f) ff cc ∧ callV P f (ff ++ xs.map (arg E) ++ cc) H l) ∨ (∃ esz bytes z n c k k', o.op = .mksl esz bytes z n c ∧ arg E n = .v (.int .i64 k) ∧ arg E c = .v (.int .i64 k') ∧ mkShared esz bytes z k k' ∧ l = .sl esz true (chunk k.toNat esz (zeros k.toNat z))) ∨ (isRead o.op = true ∧ ∃ H', lopO o.op E H = some (l, H')) ∨ (emptyB o.op = true ∧ l = .sl (eszB o.op) true []))
  | .new cs mk => runs E o ∧ lnew o.op E = some (cs, mk)
  | .put d l => runs E o ∧ o.dst = none ∧ ∃ s y, o.op = .store s (.t d) y ∧ y ≠ .t d ∧ arg E y = l ∧ topOK l = true ∧ l.cells.length = s

theorem OutOK.congr {o : O} {out : Out} {E E' : Env} (h : ∀ t ∈ o.names, lk E t = lk E' t) (k : OutOK P H E o out) : OutOK P H E' o out := by
  have hop : ∀ t ∈ o.op.tmps, lk E t = lk E' t := fun t ht => h t (by unfold O.names; split <;> simp [ht])
  have hg : ∀ s b, o.guard = some (s, b) → lk E s = lk E' s := fun s b e => h s (by unfold O.names; simp [e])
  have hruns : runs E o → runs E' o := by
    unfold runs
    cases e : o.guard with
    | none => exact id
    | some sb => obtain ⟨s, b⟩ := sb; simp only; rw [hg s b e]; exact id
  cases out with
  | skip =>
    simp only [OutOK, passes] at k ⊢
    cases e : o.guard with
    | none => simp [e] at k
    | some sb => obtain ⟨s, b⟩ := sb; simp only [e] at k ⊢; rwa [← hg s b e]
  | val l =>
    refine ⟨hruns k.1, ?_⟩
    rcases k.2 with ⟨f, xs, h1, h2⟩ | ⟨x, xs, f, ff, cc, h1, h3, h2⟩ | ⟨esz, bytes, z, n, c, k1, k2, h1, h2, h3, h4, h5⟩ | ⟨h1, H', h2⟩ | h1
    · refine .inl ⟨f, xs, h1, ?_⟩
      rw [h1] at hop
      rwa [← args_congr hop]
    · refine .inr (.inl ⟨x, xs, f, ff, cc, h1, ?_, ?_⟩)
      · rw [h1] at hop
        rwa [← arg_congr (E := E) (fun t ht => hop t (by simp only [I.tmps, List.mem_append]; exact .inl ht))]
      · rw [h1] at hop
        rwa [← args_congr (E := E) (fun t ht => hop t (by simp only [I.tmps, List.mem_append]; exact .inr ht))]
    · refine .inr (.inr (.inl ⟨esz, bytes, z, n, c, k1, k2, h1, ?_, ?_, h4, h5⟩))
      · rw [h1] at hop
        rwa [← arg_congr (E := E) (fun t ht => hop t (by simp only [I.tmps, List.mem_append]; exact .inl ht))]
      · rw [h1] at hop
        rwa [← arg_congr (E := E) (fun t ht => hop t (by simp only [I.tmps, List.mem_append]; exact .inr ht))]
    · exact .inr (.inr (.inr (.inl ⟨h1, H', by rw [← lopO_congr hop]; exact h2⟩)))
    · exact .inr (.inr (.inr (.inr h1)))
  | new cs mk => exact ⟨hruns k.1, by rw [← lnew_congr hop]; exact k.2⟩
  | put d l =>
    obtain ⟨k1, k0, s, y, k2, k2', k3, k4, k5⟩ := k
    refine ⟨hruns k1, k0, s, y, k2, k2', ?_, k4, k5⟩
    rw [k2] at hop
    rw [← arg_congr (E := E) (fun t ht => hop t (by simp [I.tmps, ht]))]
    exact k3

/-- The slots behind some operations in the text's order. -/
def foldE (E : Env) : List O → List Out → Env
  | o :: os, out :: outs => foldE (putE E o.dst out.l) os outs
  | _, _ => E

/-- All operations of a piece, in the text's order. -/
def Runs (P : Program) (H : Heap) : Env → List O → List Out → Prop
  | _, [], [] => True
  | E, o :: os, out :: outs => OutOK P H E o out ∧ Runs P H (putE E o.dst out.l) os outs
  | _, _, _ => False

def newsOf : List O → List Out → List (Option Nat × List L × (Nat → L))
  | o :: os, .new cs mk :: outs => (o.dst, cs, mk) :: newsOf os outs
  | _ :: os, _ :: outs => newsOf os outs
  | _, _ => []

theorem lk_putE {d : Option Nat} {l : L} {t : Nat} : lk (putE E d l) t = if d = some t then l else lk E t := by
  cases d with
  | none => simp [putE]
  | some d =>
    simp only [putE, lk, Option.some.injEq]
    by_cases h : t = d
    · simp [h]
    · simp [h, Ne.symm h]

/-- What was stored to the row of a slot. -/
def putsTo : List Out → (Nat → Bool) → Option Nat → Option L
  | [], _, _ => none
  | .put d' l :: os, M, d => if M 0 = true ∧ d = some d' then some l else putsTo os (fun i => M (i + 1)) d
  | _ :: os, M, d => putsTo os (fun i => M (i + 1)) d

def afterPut (o : Option L) (cs : List L) : List L :=
  match o with
  | none => cs
  | some l => setCells cs 0 l.cells

/-- The rows behind all that was stored. -/
def finNews (outs : List Out) (l : List (Option Nat × List L × (Nat → L))) : List (Option Nat × List L × (Nat → L)) := l.map fun e => (e.1, afterPut (putsTo outs (fun _ => true) e.1) e.2.1, e.2.2)

theorem putsTo_none {outs : List Out} : ∀ {M : Nat → Bool} {d : Option Nat}, (∀ (i : Nat) d' l, outs[i]? = some (.put d' l) → d = some d' → M i = false) → putsTo outs M d = none := by
  induction outs with
  | nil => intro M d _; rfl
  | cons o os ih =>
    intro M d h
    have h' := ih (M := fun i => M (i + 1)) (d := d) (fun i d' l e1 e2 => h (i + 1) d' l (by simpa using e1) e2)
    cases o with
    | put d' l =>
      simp only [putsTo]
      rw [if_neg (fun hc => by have := h 0 d' l rfl hc.2; rw [hc.1] at this; simp at this)]
      exact h'
    | _ => exact h'

theorem putsTo_congr {outs : List Out} : ∀ {M M' : Nat → Bool} {d : Option Nat}, (∀ (i : Nat) d' l, outs[i]? = some (.put d' l) → d = some d' → M i = M' i) → putsTo outs M d = putsTo outs M' d := by
  induction outs with
  | nil => intro M M' d _; rfl
  | cons o os ih =>
    intro M M' d h
    have h' := ih (M := fun i => M (i + 1)) (M' := fun i => M' (i + 1)) (d := d) (fun i d' l e1 e2 => h (i + 1) d' l (by simpa using e1) e2)
    cases o with
    | put d' l =>
      simp only [putsTo]
      by_cases hd : d = some d'
      · rw [h 0 d' l rfl hd, h']
      · simp [hd, h']
    | _ => exact h'

theorem putsTo_at {outs : List Out} : ∀ {M : Nat → Bool} {d : Nat} {l : L} {i : Nat}, outs[i]? = some (.put d l) → M i = true → (∀ (j : Nat) l', outs[j]? = some (.put d l') → j = i) → putsTo outs M (some d) = some l := by
  induction outs with
  | nil => intro M d l i h; simp at h
  | cons o os ih =>
    intro M d l i h hm hu
    cases i with
    | zero =>
      simp at h
      subst h
      simp [putsTo, hm]
    | succ i =>
      have h' := ih (M := fun i => M (i + 1)) (d := d) (l := l) (i := i) (by simpa using h) hm (fun j l' e => by have := hu (j + 1) l' (by simpa using e); omega)
      cases o with
      | put d' l' =>
        simp only [putsTo]
        rw [if_neg (fun hc => by have := hu 0 l' (by simp [Option.some.inj hc.2]); omega)]
        exact h'
      | _ => exact h'

/-- What is stored is stored once, to a row that was made in the piece. -/
structure PutsOK (blk : List O) (outs : List Out) (news : List (Option Nat × List L × (Nat → L))) : Prop where
  once : ∀ (i j : Nat) d l l', outs[i]? = some (.put d l) → outs[j]? = some (.put d l') → i = j
  made : ∀ (i : Nat) d l, outs[i]? = some (.put d l) → (∃ e ∈ news, e.1 = some d ∧ isP0 (e.2.2 0) = true ∧ l.cells.length ≤ e.2.1.length) ∨
    ∃ (k : Nat) (o : O) (cs : List L) (mk : Nat → L), k < i ∧ blk[k]? = some o ∧ outs[k]? = some (.new cs mk) ∧ o.dst = some d ∧ isP0 (mk 0) = true ∧ l.cells.length ≤ cs.length

/-- What a piece comes to. -/
def Comes (P : Program) (H : Heap) (K : Env → List (Option Nat × List L × (Nat → L)) → Prop) (E₀ : Env) (blk : List O) (news : List (Option Nat × List L × (Nat → L))) : Prop :=
  ∃ outs E', Runs P H E₀ blk outs ∧ (∀ t, lk E' t = lk (foldE E₀ blk outs) t) ∧ PutsOK blk outs news ∧ K E' (finNews outs (news ++ newsOf blk outs))

theorem PutsOK.other {blk : List O} {outs : List Out} {news : List (Option Nat × List L × (Nat → L))} (h : PutsOK blk outs news) {o : O} {out : Out} (hno : ∀ d l, out ≠ .put d l) : PutsOK (o :: blk) (out :: outs) news := by
  refine ⟨fun i j d l l' h1 h2 => ?_, fun i d l h1 => ?_⟩
  · cases i with
    | zero => simp at h1; exact absurd h1 (hno d l)
    | succ i => cases j with
      | zero => simp at h2; exact absurd h2 (hno d l')
      | succ j => have := h.once i j d l l' (by simpa using h1) (by simpa using h2); omega
  · cases i with
    | zero => simp at h1; exact absurd h1 (hno d l)
    | succ i => rcases h.made i d l (by simpa using h1) with h | ⟨k, o', cs, mk, k0, k1, k2, k3⟩
                · exact .inl h
                · exact .inr ⟨k + 1, o', cs, mk, by omega, by simpa using k1, by simpa using k2, k3⟩

theorem finNews_other {outs : List Out} {out : Out} {l : List (Option Nat × List L × (Nat → L))} (hno : ∀ d l, out ≠ .put d l) : finNews (out :: outs) l = finNews outs l := by
  unfold finNews
  refine List.map_congr_left fun e _ => ?_
  have : putsTo (out :: outs) (fun _ => true) e.1 = putsTo outs (fun _ => true) e.1 := by
    cases out with
    | put d l => exact absurd rfl (hno d l)
    | _ => rfl
  rw [this]

theorem Runs.put_op {P : Program} {H : Heap} : ∀ {blk : List O} {outs : List Out} {E : Env}, Runs P H E blk outs → outs.length = blk.length ∧ ∀ (i : Nat) d l, outs[i]? = some (.put d l) → ∃ o, blk[i]? = some o ∧ storesTo o = some d
  | [], [], E, _ => ⟨rfl, fun i d l h => by simp at h⟩
  | [], _ :: _, E, h => h.elim
  | _ :: _, [], E, h => h.elim
  | o :: blk, out :: outs, E, h => by
    obtain ⟨h1, h2⟩ := h
    obtain ⟨e0, e2⟩ := Runs.put_op h2
    refine ⟨by simp [e0], fun i d l ho => ?_⟩
    cases i with
    | zero =>
      simp at ho; subst ho
      obtain ⟨-, -, s, y, h3, -⟩ := h1
      exact ⟨o, rfl, by simp [storesTo, h3]⟩
    | succ i => simpa using e2 i d l (by simpa using ho)

theorem newsOf_dst : ∀ {blk : List O} {outs : List Out} {e}, e ∈ newsOf blk outs → ∃ o ∈ blk, e.1 = o.dst
  | o :: blk, out :: outs, e, h => by
    have old : e ∈ newsOf blk outs → ∃ o' ∈ o :: blk, e.1 = o'.dst := fun h => by
      obtain ⟨o', h1, h2⟩ := newsOf_dst h
      exact ⟨o', by simp [h1], h2⟩
    cases out with
    | new cs mk =>
      simp only [newsOf, List.mem_cons] at h
      rcases h with rfl | h
      · exact ⟨o, by simp, rfl⟩
      · exact old h
    | _ => exact old h
  | [], _, e, h => by simp [newsOf] at h
  | _ :: _, [], e, h => by simp [newsOf] at h

theorem lblk_runs {K : Env → List (Option Nat × List L × (Nat → L)) → Prop} : ∀ {blk : List O} {E E₀ : Env} {news : List (Option Nat × List L × (Nat → L))}, (∀ t, lk E t = lk E₀ t) → lblk P H blk K E news → Lg.Comes P H K E₀ blk news
  | [], E, E₀, news, he, h => ⟨[], E, trivial, he, ⟨fun i j d l l' h => by simp at h, fun i d l h => by simp at h⟩, by
      have : finNews [] (news ++ newsOf [] []) = news := by simp [finNews, newsOf, putsTo, afterPut]
      rw [this]; exact h⟩
  | o :: blk, E, E₀, news, he, h => by
    have put : ∀ {E E₀ : Env} {l}, (∀ t, lk E t = lk E₀ t) → ∀ t, lk (putE E o.dst l) t = lk (putE E₀ o.dst l) t := fun he t => by rw [lk_putE, lk_putE, he]
    have skip : ∀ {E : Env}, (∀ t, lk E t = lk E₀ t) → passes E₀ o → lblk P H blk K (putE E o.dst .no) news → Lg.Comes P H K E₀ (o :: blk) news := fun he hp hl => by
      obtain ⟨outs, E', h1, h2, hp', h3⟩ := lblk_runs (put he) hl
      exact ⟨.skip :: outs, E', ⟨hp, h1⟩, h2, hp'.other (by simp), by rw [finNews_other (by simp)]; exact h3⟩
    have run : ∀ {E : Env}, (∀ t, lk E t = lk E₀ t) → runs E₀ o → (lopD P o.op E H (fun l => lblk P H blk K (putE E o.dst l) news) (fun cs mk => lblk P H blk K (putE E o.dst .any) (news ++ [(o.dst, cs, mk)]))) →
        Lg.Comes P H K E₀ (o :: blk) news := fun {E} he hr hl => by
      have val : ∀ l, OutOK P H E₀ o (.val l) → lblk P H blk K (putE E o.dst l) news → Lg.Comes P H K E₀ (o :: blk) news := fun l hok hl => by
        obtain ⟨outs, E', h1, h2, hp', h3⟩ := lblk_runs (put he) hl
        exact ⟨.val l :: outs, E', ⟨hok, h1⟩, h2, hp'.other (by simp), by rw [finNews_other (by simp)]; exact h3⟩
      have simple : (if isNew o.op = true then optK (lnew o.op E) fun r => lblk P H blk K (putE E o.dst .any) (news ++ [(o.dst, r.1, r.2)]) else (isRead o.op = true ∧ optK (lopO o.op E H) fun r => lblk P H blk K (putE E o.dst r.1) news)) → Lg.Comes P H K E₀ (o :: blk) news := fun hl => by
        split at hl
        · obtain ⟨⟨cs, mk⟩, e1, e2⟩ := hl
          obtain ⟨outs, E', h1, h2, hp', h3⟩ := lblk_runs (put he) e2
          refine ⟨.new cs mk :: outs, E', ⟨⟨hr, by rw [← lnew_congr (fun t _ => he t)]; exact e1⟩, h1⟩, h2, ⟨(hp'.other (o := o) (out := .new cs mk) (by simp)).once, fun i d l hi => ?_⟩, by rw [finNews_other (by simp)]; simpa [newsOf] using h3⟩
          cases i with
          | zero => simp at hi
          | succ i =>
            rcases hp'.made i d l (by simpa using hi) with ⟨e, m1, m2, m3, m4⟩ | ⟨k, o', cs', mk', k0, k1, k2, k3⟩
            · rcases List.mem_append.1 m1 with m1 | m1
              · exact .inl ⟨e, m1, m2, m3, m4⟩
              · simp at m1
                subst m1
                exact .inr ⟨0, o, cs, mk, by omega, rfl, rfl, m2, m3, m4⟩
            · exact .inr ⟨k + 1, o', cs', mk', by omega, by simpa using k1, by simpa using k2, k3⟩
        · obtain ⟨hread, ⟨l, H'⟩, e1, e2⟩ := hl
          exact val l ⟨hr, .inr (.inr (.inr (.inl ⟨hread, H', by rw [← lopO_congr (fun t _ => he t)]; exact e1⟩)))⟩ e2
      cases hop : o.op with
      | call f xs =>
        rw [hop] at hl
        obtain ⟨r, e1, e2⟩ := hl
        exact val r ⟨hr, .inl ⟨f, xs, hop, by rw [← args_congr (fun t _ => he t)]; exact e1⟩⟩ e2
      | calld x xs =>
        rw [hop] at hl
        simp only [lopD] at hl
        split at hl
        · rename_i f ff cc e
          obtain ⟨r, e1, e2⟩ := hl
          exact val r ⟨hr, .inr (.inl ⟨x, xs, f, ff, cc, hop, by rw [← arg_congr (fun t _ => he t)]; exact e, by rw [← args_congr (fun t _ => he t)]; exact e1⟩)⟩ e2
        · exact hl.elim
      | mksl esz bytes z n c =>
        rw [hop] at hl
        simp only [lopD] at hl
        split at hl
        · rename_i k k' e1 e2
          obtain ⟨e3, e4⟩ := hl
          exact val _ ⟨hr, .inr (.inr (.inl ⟨esz, bytes, z, n, c, k, k', hop, by rw [← arg_congr (fun t _ => he t)]; exact e1, by rw [← arg_congr (fun t _ => he t)]; exact e2, e3, rfl⟩))⟩ e4
        · exact hl.elim
      | _ => rw [hop] at hl; exact simple (by rw [hop]; exact hl)
    have run' : ∀ {E : Env}, (∀ t, lk E t = lk E₀ t) → runs E₀ o → (match o.op with
        | .store s (.t d) y => (o.dst = none ∧ y ≠ .t d ∧ topOK (arg E y) = true ∧ (arg E y).cells.length = s ∧ putOK d s news = true ∧ restOK d blk = true) ∧ lblk P H blk K E (updNews d (arg E y) news)
        | op => if (emptyB op && blk.any (appTo o.dst)) = true then lblk P H blk K (putE E o.dst (.sl (eszB op) true [])) news else lopD P op E H (fun l => lblk P H blk K (putE E o.dst l) news) (fun cs mk => lblk P H blk K (putE E o.dst .any) (news ++ [(o.dst, cs, mk)]))) → Lg.Comes P H K E₀ (o :: blk) news := fun {E} he hr hl => by
      split at hl
      · rename_i s d y hop
        obtain ⟨⟨g0, gy, g1, g2, g3, g4⟩, hl⟩ := hl
        obtain ⟨outs, E', h1, h2, hp', h3⟩ := lblk_runs he hl
        have hrest : ∀ o' ∈ blk, o'.dst ≠ some d ∧ storesTo o' ≠ some d := fun o' ho' => by
          have := List.all_eq_true.1 g4 o' ho'
          simpa using this
        have hnoput : ∀ (i : Nat) l', outs[i]? ≠ some (.put d l') := fun i l' hi => by
          obtain ⟨o', q1, q2⟩ := h1.put_op.2 i d l' hi
          exact (hrest o' (List.mem_of_getElem? q1)).2 q2
        have earg : arg E₀ y = arg E y := arg_congr fun t _ => (he t).symm
        refine ⟨.put d (arg E y) :: outs, E', ⟨⟨hr, g0, s, y, hop, gy, earg, g1, g2⟩, ?_⟩, fun t => ?_, ⟨fun i j d' l l' h1' h2' => ?_, fun i d' l hi => ?_⟩, ?_⟩
        · have : putE E₀ o.dst (Out.put d (arg E y)).l = E₀ := by rw [g0]; rfl
          rw [this]; exact h1
        · rw [h2]
          simp only [foldE]
          have : putE E₀ o.dst (Out.put d (arg E y)).l = E₀ := by rw [g0]; rfl
          rw [this]
        · cases i with
          | zero => cases j with
            | zero => rfl
            | succ j =>
              simp at h1' h2'
              exact absurd (h1'.1 ▸ h2') (hnoput j l')
          | succ i => cases j with
            | zero =>
              simp at h1' h2'
              exact absurd (h2'.1 ▸ h1') (hnoput i l)
            | succ j => have := hp'.once i j d' l l' (by simpa using h1') (by simpa using h2'); omega
        · cases i with
          | zero =>
            simp at hi
            obtain ⟨rfl, rfl⟩ := hi
            unfold putOK at g3
            obtain ⟨e, q1, q2⟩ := List.any_eq_true.1 g3
            simp at q2
            exact .inl ⟨e, q1, q2.1.1, q2.1.2, by omega⟩
          | succ i =>
            rcases hp'.made i d' l (by simpa using hi) with ⟨e, m1, m2, m3, m4⟩ | ⟨k, o', cs', mk', k0, k1, k2, k3⟩
            · unfold updNews at m1
              obtain ⟨e', n1, rfl⟩ := List.mem_map.1 m1
              by_cases hd : e'.1 = some d
              · rw [if_pos hd] at m2 m3 m4
                have hdd : d' = d := by simp only at m2; rw [hd] at m2; exact (Option.some.inj m2).symm
                subst hdd
                exact absurd (by simpa using hi) (hnoput i l)
              · rw [if_neg hd] at m2 m3 m4
                exact .inl ⟨e', n1, m2, m3, m4⟩
            · exact .inr ⟨k + 1, o', cs', mk', by omega, by simpa using k1, by simpa using k2, k3⟩
        · have : finNews (.put d (arg E y) :: outs) (news ++ newsOf (o :: blk) (.put d (arg E y) :: outs)) = finNews outs (updNews d (arg E y) news ++ newsOf blk outs) := by
            have e1 : newsOf (o :: blk) (.put d (arg E y) :: outs) = newsOf blk outs := rfl
            have e2 : putsTo outs (fun _ => true) (some d) = none := putsTo_none fun i d' l hi hd => by
              cases hd; exact absurd hi (hnoput i l)
            rw [e1]
            simp only [finNews, List.map_append, updNews, List.map_map]
            congr 1
            · refine List.map_congr_left fun e _ => ?_
              simp only [Function.comp, putsTo]
              by_cases hd : e.1 = some d
              · simp [hd, e2, afterPut]
              · simp [hd]
            · refine List.map_congr_left fun e he' => ?_
              obtain ⟨o', q1, q2⟩ := newsOf_dst he'
              have : e.1 ≠ some d := by rw [q2]; exact (hrest o' q1).1
              simp [putsTo, this]
          rw [this]; exact h3
      · split at hl
        · rename_i hem
          obtain ⟨outs, E', h1, h2, hp', h3⟩ := lblk_runs (put he) hl
          exact ⟨.val _ :: outs, E', ⟨⟨hr, .inr (.inr (.inr (.inr ⟨(Bool.and_eq_true_iff.1 hem).1, rfl⟩)))⟩, h1⟩, h2, hp'.other (by simp), by rw [finNews_other (by simp)]; exact h3⟩
        · exact run he hr hl
    simp only [lblk, lguard] at h
    cases hg : o.guard with
    | none => rw [hg] at h; exact run' he (by simp [runs, hg]) h
    | some sb =>
      obtain ⟨s, b⟩ := sb
      rw [hg] at h
      simp only at h
      split at h
      · rename_i x e
        have ext : ∀ c, x = c → ∀ t, lk ((s, .v (.bool c)) :: E) t = lk E₀ t := fun c hx t => by
          subst hx
          simp only [lk]
          split
          · rename_i ht; subst ht; rw [← he, e]
          · exact he t
        by_cases hxb : x = b
        · exact run' (ext b hxb) (by simp only [runs, hg]; rw [← he, e, hxb]) (h.1 hxb)
        · have hxb' : x = !b := by cases x <;> cases b <;> simp_all
          exact skip (ext (!b) hxb') (by simp only [passes, hg]; left; rw [← he, e, hxb']) (h.2 hxb')
      · rename_i e
        exact skip he (by simp only [passes, hg]; right; rw [← he, e]) h
      · exact h.elim

end
end Lg
