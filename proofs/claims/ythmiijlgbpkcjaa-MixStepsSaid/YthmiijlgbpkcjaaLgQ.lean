/- Regions whose order of evaluation is open. -/
import Derived.Test.YthmiijlgbpkcjaaLgM
namespace Lg
open Go

section
variable {P : Program} {η : List Nat} {S : Nat → Prop} {w : World} {H : Heap} {a : Act} {E : Env}

theorem arg_congr {E E' : Env} {x : A} (h : ∀ t ∈ x.tmps, lk E t = lk E' t) : arg E x = arg E' x := by
  cases x with
  | t n => exact h n (by simp [A.tmps])
  | c l => rfl

theorem args_congr {E E' : Env} {xs : List A} (h : ∀ t ∈ xs.flatMap A.tmps, lk E t = lk E' t) : xs.map (arg E) = xs.map (arg E') :=
  List.map_congr_left fun x hx => arg_congr fun t ht => h t (List.mem_flatMap.2 ⟨x, hx, ht⟩)

theorem parts_congr {E E' : Env} {ps : List (Nat × Nat × A)} (h : ∀ t ∈ ps.flatMap fun p => p.2.2.tmps, lk E t = lk E' t) :
    (ps.map fun p => (p.1, p.2.1, arg E p.2.2)) = ps.map fun p => (p.1, p.2.1, arg E' p.2.2) :=
  List.map_congr_left fun x hx => by rw [arg_congr fun t ht => h t (List.mem_flatMap.2 ⟨x, hx, ht⟩)]

theorem oa_congr {E E' : Env} {x : Option A} (h : ∀ t ∈ oaTmps x, lk E t = lk E' t) : x.map (arg E) = x.map (arg E') := by
  cases x with
  | none => rfl
  | some x => simp [arg_congr h]

theorem lopO_congr {op : I} {E E' : Env} (h : ∀ t ∈ op.tmps, lk E t = lk E' t) : lopO op E H = lopO op E' H := by
  cases op <;> simp only [lopO, I.tmps, List.mem_append] at h ⊢
  case mov x => rw [arg_congr h]
  case pick c x y => rw [arg_congr (fun t ht => h t (.inl ht)), arg_congr (fun t ht => h t (.inr (.inl ht))), arg_congr (fun t ht => h t (.inr (.inr ht)))]
  case box x => rw [arg_congr h]
  case build z ps => rw [parts_congr h]
  case bslice e z n ps => rw [parts_congr h]
  case load s ag x => rw [arg_congr h]
  case store s x y => rw [arg_congr (fun t ht => h t (.inl ht)), arg_congr (fun t ht => h t (.inr ht))]
  case nilchk x => rw [arg_congr h]
  case bin op b x y => rw [arg_congr (fun t ht => h t (.inl ht)), arg_congr (fun t ht => h t (.inr ht))]
  case un op x => rw [arg_congr h]
  case conv k x => rw [arg_congr h]
  case sames x => rw [arg_congr h]
  case field o s ag x => rw [arg_congr h]
  case faddr o x => rw [arg_congr h]
  case iaddr e x i => rw [arg_congr (fun t ht => h t (.inl ht)), arg_congr (fun t ht => h t (.inr ht))]
  case iaddrA n e x i => rw [arg_congr (fun t ht => h t (.inl ht)), arg_congr (fun t ht => h t (.inr ht))]
  case idx n e ag x i => rw [arg_congr (fun t ht => h t (.inl ht)), arg_congr (fun t ht => h t (.inr ht))]
  case slice e x l hh m => rw [arg_congr (fun t ht => h t (.inl ht)), oa_congr (fun t ht => h t (.inr (.inl ht))), oa_congr (fun t ht => h t (.inr (.inr (.inl ht)))), oa_congr (fun t ht => h t (.inr (.inr (.inr ht))))]
  case sliceA n e x l hh m => rw [arg_congr (fun t ht => h t (.inl ht)), oa_congr (fun t ht => h t (.inr (.inl ht))), oa_congr (fun t ht => h t (.inr (.inr (.inl ht)))), oa_congr (fun t ht => h t (.inr (.inr (.inr ht))))]
  case mksl e b z n c => rw [arg_congr (fun t ht => h t (.inl ht)), arg_congr (fun t ht => h t (.inr ht))]
  case mkfn f x y => rw [args_congr (fun t ht => h t (.inl ht)), args_congr (fun t ht => h t (.inr ht))]
  case extract x i => rw [arg_congr h]
  case len s x => rw [arg_congr h]
  case append e b z x y => rw [arg_congr (fun t ht => h t (.inl ht)), arg_congr (fun t ht => h t (.inr ht))]
  case copy e x y => rw [arg_congr (fun t ht => h t (.inl ht)), arg_congr (fun t ht => h t (.inr ht))]
  case mm m x xs => rw [arg_congr (fun t ht => h t (.inl ht)), args_congr (fun t ht => h t (.inr ht))]

theorem lnew_congr {op : I} {E E' : Env} (h : ∀ t ∈ op.tmps, lk E t = lk E' t) : lnew op E = lnew op E' := by
  cases op <;> simp only [lnew, I.tmps] at h ⊢
  case box x => rw [arg_congr h]
  case bslice e z n ps => rw [parts_congr h]

/-- What reads leaves the own rows. -/
theorem read_same {op : I} {l : L} {H' : Heap} (hr : isRead op = true) (h : lopO op E H = some (l, H')) : H' = H := by
  cases op <;> simp only [isRead, Bool.false_eq_true] at hr <;> simp only [lopO] at h
  case pick c x y => split at h <;> simp_all
  case nilchk x => split at h <;> simp_all
  case conv k x => split at h <;> simp_all
  case extract x i =>
    split at h
    · simp only [Option.map_eq_some_iff, Prod.mk.injEq] at h
      obtain ⟨_, _, _, h⟩ := h; exact h.symm
    · simp at h
  all_goals first
    | (simp only [Option.some.injEq, Prod.mk.injEq] at h; exact h.2.symm)
    | (simp only [Option.map_eq_some_iff, Prod.mk.injEq] at h
       obtain ⟨_, _, _, h⟩ := h; exact h.symm)

/-- What becomes of an operation whose order is open. -/
inductive Out where
  | skip
  | val (l : L)
  | new (cs : List L) (mk : Nat → L)

def Out.l : Out → L
  | .skip => .no
  | .val l => l
  | .new .. => .any

def runs (E : Env) (o : O) : Prop :=
  match o.guard with
  | none => True
  | some (s, b) => lk E s = .v (.bool b)

def passes (E : Env) (o : O) : Prop :=
  match o.guard with
  | none => False
  | some (s, b) => lk E s = .v (.bool (!b)) ∨ lk E s = .no

def OutOK (P : Program) (H : Heap) (E : Env) (o : O) : Out → Prop
  | .skip => passes E o
  | .val l => runs E o ∧ ((∃ f xs, o.op = .call f xs ∧ callV P f (xs.map (arg E)) H l) ∨ (isRead o.op = true ∧ ∃ H', lopO o.op E H = some (l, H')))
  | .new cs mk => runs E o ∧ lnew o.op E = some (cs, mk)

theorem OutOK.congr {o : O} {out : Out} {E E' : Env} (h : ∀ t ∈ o.names, lk E t = lk E' t) (k : OutOK P H E o out) : OutOK P H E' o out := by
  have hop : ∀ t ∈ o.op.tmps, lk E t = lk E' t := fun t ht => h t (by unfold O.names; split <;> simp [ht])
  have hg : ∀ s b, o.guard = some (s, b) → lk E s = lk E' s := fun s b e => h s (by unfold O.names; simp [e])
  have hruns : runs E o → runs E' o := by
    unfold runs
    cases e : o.guard with
    | none => exact id
    | some sb => obtain ⟨s, b⟩ := sb; simp only; rw [hg s b e]; exact id
  cases out with
  | skip =>
    simp only [OutOK, passes] at k ⊢
    cases e : o.guard with
    | none => simp [e] at k
    | some sb => obtain ⟨s, b⟩ := sb; simp only [e] at k ⊢; rwa [← hg s b e]
  | val l =>
    refine ⟨hruns k.1, ?_⟩
    rcases k.2 with ⟨f, xs, h1, h2⟩ | ⟨h1, H', h2⟩
    · refine .inl ⟨f, xs, h1, ?_⟩
      rw [h1] at hop
      rwa [← args_congr hop]
    · exact .inr ⟨h1, H', by rw [← lopO_congr hop]; exact h2⟩
  | new cs mk => exact ⟨hruns k.1, by rw [← lnew_congr hop]; exact k.2⟩

/-- The slots behind some operations in the text's order. -/
def foldE (E : Env) : List O → List Out → Env
  | o :: os, out :: outs => foldE (putE E o.dst out.l) os outs
  | _, _ => E

/-- All operations of a piece, in the text's order. -/
def Runs (P : Program) (H : Heap) : Env → List O → List Out → Prop
  | _, [], [] => True
  | E, o :: os, out :: outs => OutOK P H E o out ∧ Runs P H (putE E o.dst out.l) os outs
  | _, _, _ => False

def newsOf : List O → List Out → List (Option Nat × List L × (Nat → L))
  | o :: os, .new cs mk :: outs => (o.dst, cs, mk) :: newsOf os outs
  | _ :: os, _ :: outs => newsOf os outs
  | _, _ => []

theorem lk_putE {d : Option Nat} {l : L} {t : Nat} : lk (putE E d l) t = if d = some t then l else lk E t := by
  cases d with
  | none => simp [putE]
  | some d =>
    simp only [putE, lk, Option.some.injEq]
    by_cases h : t = d
    · simp [h]
    · simp [h, Ne.symm h]

/-- What a piece comes to. -/
def Comes (P : Program) (H : Heap) (K : Env → List (Option Nat × List L × (Nat → L)) → Prop) (E₀ : Env) (blk : List O) (news : List (Option Nat × List L × (Nat → L))) : Prop :=
  ∃ outs E', Runs P H E₀ blk outs ∧ (∀ t, lk E' t = lk (foldE E₀ blk outs) t) ∧ K E' (news ++ newsOf blk outs)

theorem lblk_runs {K : Env → List (Option Nat × List L × (Nat → L)) → Prop} : ∀ {blk : List O} {E E₀ : Env} {news : List (Option Nat × List L × (Nat → L))}, (∀ t, lk E t = lk E₀ t) → lblk P H blk K E news → Lg.Comes P H K E₀ blk news
  | [], E, E₀, news, he, h => ⟨[], E, trivial, he, by simpa [newsOf, lblk] using h⟩
  | o :: blk, E, E₀, news, he, h => by
    have put : ∀ {E E₀ : Env} {l}, (∀ t, lk E t = lk E₀ t) → ∀ t, lk (putE E o.dst l) t = lk (putE E₀ o.dst l) t := fun he t => by rw [lk_putE, lk_putE, he]
    have skip : ∀ {E : Env}, (∀ t, lk E t = lk E₀ t) → passes E₀ o → lblk P H blk K (putE E o.dst .no) news → Lg.Comes P H K E₀ (o :: blk) news := fun he hp hl => by
      obtain ⟨outs, E', h1, h2, h3⟩ := lblk_runs (put he) hl
      exact ⟨.skip :: outs, E', ⟨hp, h1⟩, h2, h3⟩
    have run : ∀ {E : Env}, (∀ t, lk E t = lk E₀ t) → runs E₀ o → (lopD P o.op E H (fun l => lblk P H blk K (putE E o.dst l) news) (fun cs mk => lblk P H blk K (putE E o.dst .any) (news ++ [(o.dst, cs, mk)]))) →
        Lg.Comes P H K E₀ (o :: blk) news := fun {E} he hr hl => by
      have val : ∀ l, OutOK P H E₀ o (.val l) → lblk P H blk K (putE E o.dst l) news → Lg.Comes P H K E₀ (o :: blk) news := fun l hok hl => by
        obtain ⟨outs, E', h1, h2, h3⟩ := lblk_runs (put he) hl
        exact ⟨.val l :: outs, E', ⟨hok, h1⟩, h2, h3⟩
      have simple : (if isNew o.op = true then optK (lnew o.op E) fun r => lblk P H blk K (putE E o.dst .any) (news ++ [(o.dst, r.1, r.2)]) else (isRead o.op = true ∧ optK (lopO o.op E H) fun r => lblk P H blk K (putE E o.dst r.1) news)) → Lg.Comes P H K E₀ (o :: blk) news := fun hl => by
        split at hl
        · obtain ⟨⟨cs, mk⟩, e1, e2⟩ := hl
          obtain ⟨outs, E', h1, h2, h3⟩ := lblk_runs (put he) e2
          exact ⟨.new cs mk :: outs, E', ⟨⟨hr, by rw [← lnew_congr (fun t _ => he t)]; exact e1⟩, h1⟩, h2, by simpa [newsOf] using h3⟩
        · obtain ⟨hread, ⟨l, H'⟩, e1, e2⟩ := hl
          exact val l ⟨hr, .inr ⟨hread, H', by rw [← lopO_congr (fun t _ => he t)]; exact e1⟩⟩ e2
      cases hop : o.op with
      | call f xs =>
        rw [hop] at hl
        obtain ⟨r, e1, e2⟩ := hl
        exact val r ⟨hr, .inl ⟨f, xs, hop, by rw [← args_congr (fun t _ => he t)]; exact e1⟩⟩ e2
      | _ => rw [hop] at hl; exact simple (by rw [hop]; exact hl)
    simp only [lblk, lguard] at h
    cases hg : o.guard with
    | none => rw [hg] at h; exact run he (by simp [runs, hg]) h
    | some sb =>
      obtain ⟨s, b⟩ := sb
      rw [hg] at h
      simp only at h
      split at h
      · rename_i x e
        have ext : ∀ c, x = c → ∀ t, lk ((s, .v (.bool c)) :: E) t = lk E₀ t := fun c hx t => by
          subst hx
          simp only [lk]
          split
          · rename_i ht; subst ht; rw [← he, e]
          · exact he t
        by_cases hxb : x = b
        · exact run (ext b hxb) (by simp only [runs, hg]; rw [← he, e, hxb]) (h.1 hxb)
        · have hxb' : x = !b := by cases x <;> cases b <;> simp_all
          exact skip (ext (!b) hxb') (by simp only [passes, hg]; left; rw [← he, e, hxb']) (h.2 hxb')
      · rename_i e
        exact skip he (by simp only [passes, hg]; right; rw [← he, e]) h
      · exact h.elim

end
end Lg
