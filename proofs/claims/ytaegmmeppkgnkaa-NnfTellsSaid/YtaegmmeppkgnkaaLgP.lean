/- Words for proofs on logical states. -/
import Derived.Test.YtaegmmeppkgnkaaLgO
namespace Lg
open Go

section
variable {P : Program} {k : Nat} {Q : X → Env → Heap → Prop} {E : Env} {H : Heap}

/-- An equation that is used step by step. -/
theorem eqOf {α : Sort _} {a b : α} (h : a = b) : a = b := h

theorem lwp_skip : lwp P k .skip Q E H = Q .normal E H := eqOf rfl
theorem lwp_ops {l} : lwp P k (.ops l) Q E H = lops P l (Q .normal) E H := eqOf rfl
theorem lwp_seq {a b} : lwp P k (.seq a b) Q E H = lwp P k a (X.then (lwp P k b Q) Q) E H := eqOf rfl
theorem lwp_block {id b} : lwp P k (.block id b) Q E H = lwp P k b (X.inBlock id Q) E H := eqOf rfl
theorem lwp_exit {id} : lwp P k (.exit id) Q E H = Q (.exit id) E H := eqOf rfl
theorem lwp_ret : lwp P k .ret Q E H = Q .ret E H := eqOf rfl
theorem lwp_label {l} : lwp P k (.label l) Q E H = Q .normal E H := eqOf rfl
theorem lwp_goto {l} : lwp P k (.goto l) Q E H = Q (.goto l) E H := eqOf rfl
def lcond (P : Program) (k : Nat) (c : L) (a b : IR) (Q : X → Env → Heap → Prop) (E : Env) (H : Heap) : Prop :=
  match c with
  | .v (.bool t) => (t = true → lwp P k a Q E H) ∧ (t = false → lwp P k b Q E H)
  | _ => False
theorem lwp_cond {c a b} : lwp P k (.cond c a b) Q E H = lcond P k (arg E c) a b Q E H := eqOf rfl
theorem lcond_bool {t a b} : lcond P k (.v (.bool t)) a b Q E H = ((t = true → lwp P k a Q E H) ∧ (t = false → lwp P k b Q E H)) := eqOf rfl

theorem then_normal {n} : X.then n Q .normal = n := eqOf rfl
theorem then_exit {n id} : X.then n Q (.exit id) = Q (.exit id) := eqOf rfl
theorem then_goto {n id} : X.then n Q (.goto id) = Q (.goto id) := eqOf rfl
theorem then_ret {n} : X.then n Q .ret = Q .ret := eqOf rfl
theorem inBlock_normal {n} : X.inBlock n Q .normal = Q .normal := eqOf rfl
theorem inBlock_exit {n id} : X.inBlock n Q (.exit id) = fun E H => if id = n then Q .normal E H else Q (.exit id) E H := eqOf rfl
theorem inBlock_goto {n id} : X.inBlock n Q (.goto id) = Q (.goto id) := eqOf rfl
theorem inBlock_ret {n} : X.inBlock n Q .ret = Q .ret := eqOf rfl
theorem fnPost_normal {res K} : fnPost res K .normal = fun E H => optK (resL E H res) fun ls => K (res1 ls) H := eqOf rfl
theorem fnPost_ret {res K} : fnPost res K .ret = fun E H => optK (resL E H res) fun ls => K (res1 ls) H := eqOf rfl

theorem lops_nil {K} : lops P [] K E H = K E H := eqOf rfl
theorem lops_cons {dst op rest K} : lops P (⟨dst, op, none⟩ :: rest) K E H = lop P op E H fun l H' => lops P rest K (putE E dst l) H' := eqOf rfl
def lguardD (v : L) (s : Nat) (b : Bool) (E : Env) (run skip : Env → Prop) : Prop :=
  match v with
  | .v (.bool x) => (x = b → run ((s, .v (.bool b)) :: E)) ∧ (x = (!b) → skip ((s, .v (.bool (!b))) :: E))
  | .no => skip E
  | _ => False
theorem lops_guard {dst op rest K s b} : lops P (⟨dst, op, some (s, b)⟩ :: rest) K E H = lguardD (lk E s) s b E (fun E => lop P op E H fun l H' => lops P rest K (putE E dst l) H') (fun E => lops P rest K (putE E dst .no) H) := eqOf rfl
theorem lguardD_bool {x s b run skip} : lguardD (.v (.bool x)) s b E run skip = ((x = b → run ((s, .v (.bool b)) :: E)) ∧ (x = (!b) → skip ((s, .v (.bool (!b))) :: E))) := eqOf rfl
theorem lguardD_no {s b run skip} : lguardD .no s b E run skip = skip E := eqOf rfl
theorem lop_call {f xs K} : lop P (.call f xs) E H K = callAt P f (xs.map (arg E)) H K := eqOf rfl
theorem lop_calld {x xs K} : lop P (.calld x xs) E H K = callD P (arg E x) (xs.map (arg E)) H K := eqOf rfl
theorem callY_mono {h : Nat} {ls : List L} {K K' : L → Heap → Prop} (hk : ∀ l H, K l H → K' l H) (hy : callY P h ls H K) : callY P h ls H K' := fun η S w vs hC hv => by
  obtain ⟨b, h1, f, tmps, assign, body, h2, h3⟩ := hy η S w vs hC hv
  exact ⟨b, h1, f, tmps, assign, body, h2, h3.mono fun e w' ⟨v, l, H', η', S', e1, e2, e3⟩ => ⟨v, l, H', η', S', e1, hk _ _ e2, e3⟩⟩
theorem callD_yl {h ls K} : callD P (.yl h) ls H K = callY P h ls H K := eqOf rfl
theorem callD_fn {f a b ls K} : callD P (.fn (.func f) a b) ls H K = callAt P f (a ++ ls ++ b) H K := eqOf rfl

theorem lop_mono {op : I} {K K' : L → Heap → Prop} (hk : ∀ l H, K l H → K' l H) (h : lop P op E H K) : lop P op E H K' := by
  have simple : optK (lopO op E H) (fun r => K r.1 r.2) → optK (lopO op E H) (fun r => K' r.1 r.2) := fun ⟨r, h1, h2⟩ => ⟨r, h1, hk _ _ h2⟩
  cases op with
  | call f xs => exact callAt_mono h hk
  | calld x xs =>
    have h : callD P (arg E x) (xs.map (arg E)) H K := h
    show callD P (arg E x) (xs.map (arg E)) H K'
    revert h
    generalize arg E x = y
    unfold callD
    split
    · exact fun h => callAt_mono h hk
    · exact fun h => callY_mono hk h
    · exact id
  | isnil neg x =>
    simp only [lop] at h ⊢
    split
    · rename_i e; simp only [e] at h; exact hk _ _ h
    · rename_i e; simp only [e] at h; exact ⟨hk _ _ h.1, fun hx => hk _ _ (h.2 hx)⟩
    · rename_i e; simp only [e] at h; exact ⟨hk _ _ h.1, fun hx => hk _ _ (h.2 hx)⟩
    · rename_i h1 h2 h3
      split at h
      · rename_i e; exact absurd e h1
      · rename_i e; exact absurd e (h2 _ _ _)
      · rename_i e; exact absurd e (h3 _ _ _ _ _)
      · exact h
  | _ => exact simple h

theorem lops_mono {K K' : Env → Heap → Prop} (hk : ∀ E H, K E H → K' E H) : ∀ {l : List O} {E : Env} {H : Heap}, lops P l K E H → lops P l K' E H
  | [], _, _, h => hk _ _ h
  | o :: l, E, H, h => by
    simp only [lops] at h ⊢
    unfold lguard at h ⊢
    split
    · rename_i e
      simp only [e] at h
      exact lop_mono (fun _ _ h => lops_mono hk h) h
    · rename_i s b e
      simp only [e] at h
      split
      · rename_i x e'
        simp only [e'] at h
        exact ⟨fun hx => lop_mono (fun _ _ h => lops_mono hk h) (h.1 hx), fun hx => lops_mono hk (h.2 hx)⟩
      · rename_i e'
        simp only [e'] at h
        exact lops_mono hk h
      · rename_i h1 h2
        split at h
        · rename_i e'; exact absurd e' (h1 _)
        · rename_i e'; exact absurd e' h2
        · exact h

theorem lguard_mono {g : Option (Nat × Bool)} {run run' skip skip' : Env → Prop} (hr : ∀ E, run E → run' E) (hs : ∀ E, skip E → skip' E) {E : Env} (h : lguard g E run skip) : lguard g E run' skip' := by
  unfold lguard at h ⊢
  split
  · exact hr _ h
  · rename_i s b
    simp only at h
    split
    · rename_i e
      simp only [e] at h
      exact ⟨fun hx => hr _ (h.1 hx), fun hx => hs _ (h.2 hx)⟩
    · rename_i e
      simp only [e] at h
      exact hs _ h
    · rename_i h1 h2
      split at h
      · rename_i e'; exact absurd e' (h1 _)
      · rename_i e'; exact absurd e' h2
      · exact h

theorem lopD_mono {op : I} {K K' : L → Prop} {N N' : List L → (Nat → L) → Prop} (hk : ∀ l, K l → K' l) (hn : ∀ cs mk, N cs mk → N' cs mk) (h : lopD P op E H K N) : lopD P op E H K' N' := by
  have simple : (if isNew op = true then optK (lnew op E) fun r => N r.1 r.2 else (isRead op = true ∧ optK (lopO op E H) fun r => K r.1)) → (if isNew op = true then optK (lnew op E) fun r => N' r.1 r.2 else (isRead op = true ∧ optK (lopO op E H) fun r => K' r.1)) := fun h => by
    split at h
    · rename_i e; rw [if_pos e]
      obtain ⟨r, h1, h2⟩ := h; exact ⟨r, h1, hn _ _ h2⟩
    · rename_i e; rw [if_neg e]
      obtain ⟨h0, r, h1, h2⟩ := h; exact ⟨h0, r, h1, hk _ h2⟩
  cases op with
  | call f xs => obtain ⟨r, h1, h2⟩ := h; exact ⟨r, h1, hk _ h2⟩
  | calld x xs =>
    simp only [lopD] at h ⊢
    split at h
    · obtain ⟨r, h1, h2⟩ := h; exact ⟨r, h1, hk _ h2⟩
    · exact h.elim
  | mksl esz bytes z n c =>
    simp only [lopD] at h ⊢
    split at h
    · exact ⟨h.1, hk _ h.2⟩
    · exact h.elim
  | _ => exact simple h

theorem lblk_mono {K K' : Env → List (Option Nat × List L × (Nat → L)) → Prop} (hk : ∀ E n, K E n → K' E n) : ∀ {l : List O} {E : Env} {news : List (Option Nat × List L × (Nat → L))}, lblk P H l K E news → lblk P H l K' E news
  | [], _, _, h => hk _ _ h
  | o :: _, E, _, h => by
    simp only [lblk] at h ⊢
    refine lguard_mono (fun E h => ?_) (fun _ h => lblk_mono hk h) h
    split at h
    · rename_i e
      exact ⟨h.1, lblk_mono hk h.2⟩
    · split
      · rename_i e; rw [if_pos e] at h; exact lblk_mono hk h
      rename_i e; rw [if_neg e] at h
      exact lopD_mono (fun _ h => lblk_mono hk h) (fun _ _ h => lblk_mono hk h) h

theorem addNews_mono {K K' : Env → Heap → Prop} (hk : ∀ E H, K E H → K' E H) : ∀ {l : List (Option Nat × List L × (Nat → L))} {E : Env} {H : Heap}, addNews l E H K → addNews l E H K'
  | [], _, _, h => hk _ _ h
  | (_, _, _) :: l, _, _, h => addNews_mono (l := l) hk h

theorem ldraw_mono {K K' : Env → Heap → Prop} (hk : ∀ E H, K E H → K' E H) : ∀ {bs : List (List O)} {E : Env} {H : Heap}, ldraw P bs K E H → ldraw P bs K' E H
  | [], _, _, h => hk _ _ h
  | [] :: bs, E, H, h => by
    have h : ldraw P bs K E H := h
    show ldraw P bs K' E H
    exact ldraw_mono hk h
  | [o] :: bs, _, _, h => lops_mono (fun _ _ h => ldraw_mono hk h) h
  | (o :: o' :: blk) :: bs, E, H, h => by
    have h : lblk P H (o :: o' :: blk) (fun E news => addNews news E H (ldraw P bs K)) E [] := h
    show lblk P H (o :: o' :: blk) (fun E news => addNews news E H (ldraw P bs K')) E []
    exact lblk_mono (fun _ _ h => addNews_mono (fun _ _ h => ldraw_mono hk h) h) h

/-- The words below keep what comes behind a step as data, so that nothing looks into it too early. -/
def stepT (P : Program) (rest : List O) (K : Env → Heap → Prop) (dst : Option Nat) (E : Env) (o : Option (L × Heap)) : Prop := optK o fun r => lops P rest K (putE E dst r.1) r.2
def callT (P : Program) (f : FuncId) (ls : List L) (H : Heap) (dst : Option Nat) (rest : List O) (K : Env → Heap → Prop) (E : Env) : Prop := callAt P f ls H fun l H' => lops P rest K (putE E dst l) H'
def calldT (P : Program) (x : L) (ls : List L) (H : Heap) (dst : Option Nat) (rest : List O) (K : Env → Heap → Prop) (E : Env) : Prop := callD P x ls H fun l H' => lops P rest K (putE E dst l) H'
def isCallI : I → Bool
  | .call .. | .calld .. | .isnil .. => true
  | _ => false

/-- A slice compared to nil. -/
def nilT (P : Program) (neg : Bool) (x : L) (dst : Option Nat) (rest : List O) (K : Env → Heap → Prop) (E : Env) (H : Heap) : Prop :=
  match x with
  | .v (.slice none 0 0) => lops P rest K (putE E dst (.v (.bool (!neg)))) H
  | .sl _ _ xs => lops P rest K (putE E dst (.v (.bool neg))) H ∧ (xs = [] → lops P rest K (putE E dst (.v (.bool (!neg)))) H)
  | .view _ _ _ n _ => lops P rest K (putE E dst (.v (.bool neg))) H ∧ (n = 0 → lops P rest K (putE E dst (.v (.bool (!neg)))) H)
  | _ => False
theorem lops_isnil {neg x dst rest K} : lops P (⟨dst, .isnil neg x, none⟩ :: rest) K E H = nilT P neg (arg E x) dst rest K E H := by
  simp only [lops, lguard, lop, nilT]
  rfl
theorem nilT_nil {neg dst rest K} : nilT P neg (.v (.slice none 0 0)) dst rest K E H = lops P rest K (putE E dst (.v (.bool (!neg)))) H := eqOf rfl
theorem nilT_sl {neg e c xs dst rest K} : nilT P neg (.sl e c xs) dst rest K E H = (lops P rest K (putE E dst (.v (.bool neg))) H ∧ (xs = [] → lops P rest K (putE E dst (.v (.bool (!neg)))) H)) := eqOf rfl
theorem nilT_view {neg e h o n c dst rest K} : nilT P neg (.view e h o n c) dst rest K E H = (lops P rest K (putE E dst (.v (.bool neg))) H ∧ (n = 0 → lops P rest K (putE E dst (.v (.bool (!neg)))) H)) := eqOf rfl
theorem lops_call {f xs dst rest K} : lops P (⟨dst, .call f xs, none⟩ :: rest) K E H = callT P f (xs.map (arg E)) H dst rest K E := eqOf rfl
theorem lops_calld {x xs dst rest K} : lops P (⟨dst, .calld x xs, none⟩ :: rest) K E H = calldT P (arg E x) (xs.map (arg E)) H dst rest K E := eqOf rfl
theorem lops_op {op : I} {dst rest K} (h : isCallI op = false) : lops P (⟨dst, op, none⟩ :: rest) K E H = stepT P rest K dst E (lopO op E H) := by
  cases op <;> first | rfl | simp [isCallI] at h
theorem stepT_some {rest K dst l} : stepT P rest K dst E (some (l, H)) = lops P rest K (putE E dst l) H := by simp [stepT]
theorem stepT_none {rest K dst} : stepT P rest K dst E none = False := by simp [stepT]
theorem stepT_ite {rest K dst o} {c : Prop} [Decidable c] : stepT P rest K dst E (if c then o else none) = (c ∧ stepT P rest K dst E o) := by simp [stepT]
theorem stepT_none_ite {rest K dst o} {c : Prop} [Decidable c] : stepT P rest K dst E (if c then none else o) = (¬ c ∧ stepT P rest K dst E o) := by simp [stepT]
theorem stepT_ites {rest K dst o o'} {c : Prop} [Decidable c] : stepT P rest K dst E (if c then o else o') = ((c → stepT P rest K dst E o) ∧ (¬ c → stepT P rest K dst E o')) := by
  by_cases h : c <;> simp [h]
theorem map_ite {α β : Type} (f : α → β) (c : Prop) [Decidable c] (a b : Option α) : (if c then a else b).map f = if c then a.map f else b.map f := by by_cases h : c <;> simp [h]
theorem calldT_fn {f a b ls dst rest K} : calldT P (.fn (.func f) a b) ls H dst rest K E = callT P f (a ++ ls ++ b) H dst rest K E := eqOf rfl
def yieldK (P : Program) (rest : List O) (K : Env → Heap → Prop) (dst : Option Nat) (E : Env) (l : L) (H' : Heap) : Prop := lops P rest K (putE E dst l) H'
def yieldT (P : Program) (h : Nat) (ls : List L) (H : Heap) (dst : Option Nat) (rest : List O) (K : Env → Heap → Prop) (E : Env) : Prop := callY P h ls H (yieldK P rest K dst E)
theorem calldT_yl {h ls dst rest K} : calldT P (.yl h) ls H dst rest K E = yieldT P h ls H dst rest K E := eqOf rfl
theorem yieldK_eq {rest K dst l} : yieldK P rest K dst E l H = lops P rest K (putE E dst l) H := eqOf rfl
def rangeT (P : Program) (f : FuncId) (ls : List L) (H : Heap) (h : Nat) (Q : X → Env → Heap → Prop) (E : Env) : Prop := callAt P f ls H fun _ H' => rangeK h Q E H'
def lrange (P : Program) (n : Nat) (x : L) (rc : RC) (Q : X → Env → Heap → Prop) (E : Env) (H : Heap) : Prop :=
  match x with
  | .fn (.func f) first cap => callAt P f (first ++ [.yl H.length] ++ cap) (H ++ [some [.lp rc .ready none ((List.range n).map (lk E))]]) fun _ H' => rangeK H.length Q E H'
  | _ => False
theorem lwp_range {n g rc} : lwp P k (.range n g rc) Q E H = lrange P n (arg E g) rc Q E H := eqOf rfl
theorem lrange_fn {n f a b rc} : lrange P n (.fn (.func f) a b) rc Q E H = rangeT P f (a ++ [.yl H.length] ++ b) (H ++ [some [.lp rc .ready none ((List.range n).map (lk E))]]) H.length Q E := eqOf rfl
theorem rangeK_eq {h} : rangeK h Q E H = rangeW h Q E H H[h]? := eqOf rfl
theorem rangeW_some {h rc st pd ts} : rangeW h Q E H (some (some [.lp rc st pd ts])) = (st ≠ .busy ∧ pendQ Q pd E (H.set h none)) := eqOf rfl
theorem pendQ_none : pendQ Q none = Q .normal := eqOf rfl
theorem pendQ_ret : pendQ Q (some .ret) = Q .ret := eqOf rfl
theorem pendQ_exit {id} : pendQ Q (some (.exit id)) = Q (.exit id) := eqOf rfl
theorem pendQ_goto {l} : pendQ Q (some (.goto l)) = Q (.goto l) := eqOf rfl
theorem beginK_eq {bd h K} : beginK P k bd h K E H = beginW P k bd h K E H H[h]? := eqOf rfl
theorem beginW_some {bd h K rc ts} : beginW P k bd h K E H (some (some [.lp rc .ready none ts])) = lwp P k bd (roundK h K) E (H.set h (some [.lp rc .busy none ts])) := eqOf rfl
theorem roundK_eq {h K x} : roundK h K x E H = roundW h K x H H[h]? := eqOf rfl
theorem roundW_normal {h K rc ts} : roundW h K .normal H (some (some [.lp rc .busy none ts])) = K (.v (.bool true)) (H.set h (some [.lp rc .ready none ts])) := eqOf rfl
theorem roundW_ret {h K rc ts} : roundW h K .ret H (some (some [.lp rc .busy none ts])) = K (.v (.bool false)) (H.set h (some [.lp rc .done (some .ret) ts])) := eqOf rfl
theorem roundW_exit {h K rc ts id} : roundW h K (.exit id) H (some (some [.lp rc .busy none ts])) = K (.v (.bool false)) (H.set h (some [.lp rc .done (some (.exit id)) ts])) := eqOf rfl
theorem roundW_goto {h K rc ts l} : roundW h K (.goto l) H (some (some [.lp rc .busy none ts])) = K (.v (.bool false)) (H.set h (some [.lp rc .done (some (.goto l)) ts])) := eqOf rfl
theorem roundE_cons {p ps l ls} : roundE (p :: ps) (l :: ls) E = roundE ps ls ((p, l) :: E) := eqOf rfl
theorem roundE_nil {ls} : roundE [] ls E = E := eqOf rfl
/-- A round of a loop over a function: its code is walked. -/
theorem yieldT_of {sel : Nat → Bool} {h : Nat} {ls : List L} {rc : RC} {ps : List Nat} {as bd : IR} {ts : List L} {dst rest K} (hok : RcOK sel P ts.length rc ps as bd) (hH : H[h]? = some (some [.lp rc .ready none ts])) (hlen : ls.length = ps.length)
    (hw : lwp P H.length as (X.then (beginK P H.length bd h (yieldK P rest K dst E)) noX) (roundE ps ls (params 0 ts)) H) : yieldT P h ls H dst rest K E := callY_of hH hok hlen hw
def guardT (P : Program) (v : L) (s : Nat) (b : Bool) (dst : Option Nat) (op : I) (rest : List O) (K : Env → Heap → Prop) (E : Env) (H : Heap) : Prop :=
  lguardD v s b E (fun E => lops P (⟨dst, op, none⟩ :: rest) K E H) (fun E => lops P rest K (putE E dst .no) H)
theorem lops_guardT {dst op rest K s b} : lops P (⟨dst, op, some (s, b)⟩ :: rest) K E H = guardT P (lk E s) s b dst op rest K E H := eqOf rfl
theorem guardT_bool {x s b dst op rest K} : guardT P (.v (.bool x)) s b dst op rest K E H = ((x = b → lops P (⟨dst, op, none⟩ :: rest) K ((s, .v (.bool b)) :: E) H) ∧ (x = (!b) → lops P rest K (putE ((s, .v (.bool (!b))) :: E) dst .no) H)) := eqOf rfl
theorem guardT_no {s b dst op rest K} : guardT P .no s b dst op rest K E H = lops P rest K (putE E dst .no) H := eqOf rfl

theorem guardT_tt {s dst op rest K} : guardT P (.v (.bool true)) s true dst op rest K E H = lops P (⟨dst, op, none⟩ :: rest) K ((s, .v (.bool true)) :: E) H := by simp [guardT_bool]
theorem guardT_ff {s dst op rest K} : guardT P (.v (.bool false)) s false dst op rest K E H = lops P (⟨dst, op, none⟩ :: rest) K ((s, .v (.bool false)) :: E) H := by simp [guardT_bool]
theorem guardT_tf {s dst op rest K} : guardT P (.v (.bool true)) s false dst op rest K E H = lops P rest K (putE ((s, .v (.bool true)) :: E) dst .no) H := by simp [guardT_bool]
theorem guardT_ft {s dst op rest K} : guardT P (.v (.bool false)) s true dst op rest K E H = lops P rest K (putE ((s, .v (.bool false)) :: E) dst .no) H := by simp [guardT_bool]
theorem lcond_true {a b} : lcond P k (.v (.bool true)) a b Q E H = lwp P k a Q E H := by simp [lcond_bool]
theorem lcond_false {a b} : lcond P k (.v (.bool false)) a b Q E H = lwp P k b Q E H := by simp [lcond_bool]

abbrev News := List (Option Nat × List L × (Nat → L))
def blkT (P : Program) (H : Heap) (l : List O) (bs : List (List O)) (K : Env → Heap → Prop) (E : Env) (news : News) : Prop := lblk P H l (fun E news => addNews news E H (ldraw P bs K)) E news
def bcallT (P : Program) (H : Heap) (f : FuncId) (ls : List L) (dst : Option Nat) (l : List O) (bs : List (List O)) (K : Env → Heap → Prop) (E : Env) (news : News) : Prop := ∃ r, callV P f ls H r ∧ blkT P H l bs K (putE E dst r) news
def bnewT (P : Program) (H : Heap) (o : Option (List L × (Nat → L))) (dst : Option Nat) (l : List O) (bs : List (List O)) (K : Env → Heap → Prop) (E : Env) (news : News) : Prop := optK o fun r => blkT P H l bs K (putE E dst .any) (news ++ [(dst, r.1, r.2)])
def breadT (P : Program) (H : Heap) (o : Option (L × Heap)) (dst : Option Nat) (l : List O) (bs : List (List O)) (K : Env → Heap → Prop) (E : Env) (news : News) : Prop := optK o fun r => blkT P H l bs K (putE E dst r.1) news
theorem ldraw_blk {o o' blk bs K} : ldraw P ((o :: o' :: blk) :: bs) K E H = blkT P H (o :: o' :: blk) bs K E [] := eqOf rfl
theorem blkT_nil {bs K news} : blkT P H [] bs K E news = addNews news E H (ldraw P bs K) := eqOf rfl
theorem blkT_call {f xs dst l bs K news} : blkT P H (⟨dst, .call f xs, none⟩ :: l) bs K E news = bcallT P H f (xs.map (arg E)) dst l bs K E news := eqOf rfl
def bcalldT (P : Program) (H : Heap) (x : L) (ls : List L) (dst : Option Nat) (l : List O) (bs : List (List O)) (K : Env → Heap → Prop) (E : Env) (news : News) : Prop :=
  match x with
  | .fn (.func f) first cap => bcallT P H f (first ++ ls ++ cap) dst l bs K E news
  | _ => False
theorem blkT_calld {x xs dst l bs K news} : blkT P H (⟨dst, .calld x xs, none⟩ :: l) bs K E news = bcalldT P H (arg E x) (xs.map (arg E)) dst l bs K E news := eqOf rfl
theorem bcalldT_fn {f a b ls dst l bs K news} : bcalldT P H (.fn (.func f) a b) ls dst l bs K E news = bcallT P H f (a ++ ls ++ b) dst l bs K E news := eqOf rfl
def bmkT (P : Program) (H : Heap) (esz bytes : Nat) (z : List L) (x y : L) (dst : Option Nat) (l : List O) (bs : List (List O)) (K : Env → Heap → Prop) (E : Env) (news : News) : Prop :=
  match x, y with
  | .v (.int .i64 k), .v (.int .i64 k') => mkShared esz bytes z k k' ∧ blkT P H l bs K (putE E dst (.sl esz true (chunk k.toNat esz (zeros k.toNat z)))) news
  | _, _ => False
theorem blkT_mksl {esz bytes z n c dst l bs K news} : blkT P H (⟨dst, .mksl esz bytes z n c, none⟩ :: l) bs K E news = bmkT P H esz bytes z (arg E n) (arg E c) dst l bs K E news := eqOf rfl
theorem bmkT_int {esz bytes z k k' dst l bs K news} : bmkT P H esz bytes z (.v (.int .i64 k)) (.v (.int .i64 k')) dst l bs K E news = (mkShared esz bytes z k k' ∧ blkT P H l bs K (putE E dst (.sl esz true (chunk k.toNat esz (zeros k.toNat z)))) news) := eqOf rfl
theorem blkT_new {op dst l bs K news} (h : isNew op = true) (h2 : (emptyB op && l.any (appTo dst)) = false) : blkT P H (⟨dst, op, none⟩ :: l) bs K E news = bnewT P H (lnew op E) dst l bs K E news := by
  cases op <;> first | rfl | (simp [isNew] at h; done) | skip
  show (if _ then _ else _) = _
  rw [if_neg (by rw [h2]; simp)]; rfl
theorem blkT_read {op dst l bs K news} (h : isRead op = true) : blkT P H (⟨dst, op, none⟩ :: l) bs K E news = breadT P H (lopO op E H) dst l bs K E news := by
  have e : isNew op = false := by cases op <;> first | rfl | simp [isRead] at h
  have e2 : ∀ (N : List L → (Nat → L) → Prop) (M : L → Prop), (if isNew op = true then optK (lnew op E) fun r => N r.1 r.2 else (isRead op = true ∧ optK (lopO op E H) fun r => M r.1)) = optK (lopO op E H) fun r => M r.1 := fun N M => by simp [e, h]
  cases op <;> first | (exact e2 (fun cs mk => blkT P H l bs K (putE E dst .any) (news ++ [(dst, cs, mk)])) (fun v => blkT P H l bs K (putE E dst v) news)) | simp [isRead] at h
theorem bnewT_some {cs mk dst l bs K news} : bnewT P H (some (cs, mk)) dst l bs K E news = blkT P H l bs K (putE E dst .any) (news ++ [(dst, cs, mk)]) := by simp [bnewT]
theorem breadT_some {v H' dst l bs K news} : breadT P H (some (v, H')) dst l bs K E news = blkT P H l bs K (putE E dst v) news := by simp [breadT]
theorem breadT_none {dst l bs K news} : breadT P H none dst l bs K E news = False := by simp [breadT]
theorem breadT_ite {dst l bs K news o} {c : Prop} [Decidable c] : breadT P H (if c then o else none) dst l bs K E news = (c ∧ breadT P H o dst l bs K E news) := by simp [breadT]
theorem breadT_none_ite {dst l bs K news o} {c : Prop} [Decidable c] : breadT P H (if c then none else o) dst l bs K E news = (¬ c ∧ breadT P H o dst l bs K E news) := by simp [breadT]
theorem bnewT_ite {dst l bs K news o} {c : Prop} [Decidable c] : bnewT P H (if c then o else none) dst l bs K E news = (c ∧ bnewT P H o dst l bs K E news) := by simp [bnewT]
def bguardT (P : Program) (v : L) (s : Nat) (b : Bool) (dst : Option Nat) (op : I) (H : Heap) (l : List O) (bs : List (List O)) (K : Env → Heap → Prop) (E : Env) (news : News) : Prop :=
  lguardD v s b E (fun E => blkT P H (⟨dst, op, none⟩ :: l) bs K E news) (fun E => blkT P H l bs K (putE E dst .no) news)
theorem blkT_guard {dst op l bs K news s b} : blkT P H (⟨dst, op, some (s, b)⟩ :: l) bs K E news = bguardT P (lk E s) s b dst op H l bs K E news := eqOf rfl
theorem bguardT_bool {x s b dst op l bs K news} : bguardT P (.v (.bool x)) s b dst op H l bs K E news = ((x = b → blkT P H (⟨dst, op, none⟩ :: l) bs K ((s, .v (.bool b)) :: E) news) ∧ (x = (!b) → blkT P H l bs K (putE ((s, .v (.bool (!b))) :: E) dst .no) news)) := eqOf rfl
theorem bguardT_tt {s dst op l bs K news} : bguardT P (.v (.bool true)) s true dst op H l bs K E news = blkT P H (⟨dst, op, none⟩ :: l) bs K ((s, .v (.bool true)) :: E) news := by simp [bguardT_bool]
theorem bguardT_ff {s dst op l bs K news} : bguardT P (.v (.bool false)) s false dst op H l bs K E news = blkT P H (⟨dst, op, none⟩ :: l) bs K ((s, .v (.bool false)) :: E) news := by simp [bguardT_bool]
theorem bguardT_tf {s dst op l bs K news} : bguardT P (.v (.bool true)) s false dst op H l bs K E news = blkT P H l bs K (putE ((s, .v (.bool true)) :: E) dst .no) news := by simp [bguardT_bool]
theorem bguardT_ft {s dst op l bs K news} : bguardT P (.v (.bool false)) s true dst op H l bs K E news = blkT P H l bs K (putE ((s, .v (.bool false)) :: E) dst .no) news := by simp [bguardT_bool]
theorem bguardT_no {s b dst op l bs K news} : bguardT P .no s b dst op H l bs K E news = blkT P H l bs K (putE E dst .no) news := eqOf rfl

theorem lops_mov {v0 dst rest K} : lops P (⟨dst, .mov v0, none⟩ :: rest) K E H = stepT P rest K dst E (lopO (.mov v0) E H) := eqOf rfl
theorem blkT_mov {v0 dst l bs K news} : blkT P H (⟨dst, .mov v0, none⟩ :: l) bs K E news = breadT P H (lopO (.mov v0) E H) dst l bs K E news := blkT_read rfl
theorem lops_pick {v0 v1 v2 dst rest K} : lops P (⟨dst, .pick v0 v1 v2, none⟩ :: rest) K E H = stepT P rest K dst E (lopO (.pick v0 v1 v2) E H) := eqOf rfl
theorem blkT_pick {v0 v1 v2 dst l bs K news} : blkT P H (⟨dst, .pick v0 v1 v2, none⟩ :: l) bs K E news = breadT P H (lopO (.pick v0 v1 v2) E H) dst l bs K E news := blkT_read rfl
theorem lops_alloc {v0 dst rest K} : lops P (⟨dst, .alloc v0, none⟩ :: rest) K E H = stepT P rest K dst E (lopO (.alloc v0) E H) := eqOf rfl
theorem blkT_alloc {v0 dst l bs K news} : blkT P H (⟨dst, .alloc v0, none⟩ :: l) bs K E news = bnewT P H (lnew (.alloc v0) E) dst l bs K E news := eqOf rfl
theorem lops_box {v0 dst rest K} : lops P (⟨dst, .box v0, none⟩ :: rest) K E H = stepT P rest K dst E (lopO (.box v0) E H) := eqOf rfl
theorem blkT_box {v0 dst l bs K news} : blkT P H (⟨dst, .box v0, none⟩ :: l) bs K E news = bnewT P H (lnew (.box v0) E) dst l bs K E news := eqOf rfl
theorem lops_build {v0 v1 dst rest K} : lops P (⟨dst, .build v0 v1, none⟩ :: rest) K E H = stepT P rest K dst E (lopO (.build v0 v1) E H) := eqOf rfl
theorem blkT_build {v0 v1 dst l bs K news} : blkT P H (⟨dst, .build v0 v1, none⟩ :: l) bs K E news = breadT P H (lopO (.build v0 v1) E H) dst l bs K E news := blkT_read rfl
theorem lops_bslice {v0 v1 v2 v3 dst rest K} : lops P (⟨dst, .bslice v0 v1 v2 v3, none⟩ :: rest) K E H = stepT P rest K dst E (lopO (.bslice v0 v1 v2 v3) E H) := eqOf rfl
/-- A row of some elements; one of none, to which the piece appends. -/
def bsliceT (P : Program) (H : Heap) (e : Nat) (z : List L) (n : Nat) (ps : List (Nat × Nat × A)) (dst : Option Nat) (l : List O) (bs : List (List O)) (K : Env → Heap → Prop) (E : Env) (news : News) : Bool → Prop
  | true => blkT P H l bs K (putE E dst (.sl e true [])) news
  | false => bnewT P H (lnew (.bslice e z n ps) E) dst l bs K E news
def appN (dst : Option Nat) (l : List O) : Bool := l.any (appTo dst)
theorem appN_nil {dst : Option Nat} : appN dst [] = false := eqOf rfl
theorem appN_cons {dst d : Option Nat} {op : I} {g} {l} : appN dst (⟨d, op, g⟩ :: l) = ((match op with | .append _ _ _ (.t t) _ => dst == some t | _ => false) || appN dst l) := eqOf rfl
theorem blkT_bslice {v0 v1 v2 v3 dst l bs K news} : blkT P H (⟨dst, .bslice v0 v1 v2 v3, none⟩ :: l) bs K E news = bsliceT P H v0 v1 v2 v3 dst l bs K E news (v2 == 0 && (v3.isEmpty && appN dst l)) := by
  cases v2 with
  | succ n => exact eqOf rfl
  | zero => cases v3 with
    | cons p ps => exact eqOf rfl
    | nil =>
      show (if (true && l.any (appTo dst)) = true then _ else _) = bsliceT P H v0 v1 0 [] dst l bs K E news (true && (true && appN dst l))
      unfold appN
      cases h : l.any (appTo dst) <;> rfl
theorem bsliceT_true {v0 v1 v2 v3 dst l bs K news} : bsliceT P H v0 v1 v2 v3 dst l bs K E news true = blkT P H l bs K (putE E dst (.sl v0 true [])) news := eqOf rfl
theorem bsliceT_false {v0 v1 v2 v3 dst l bs K news} : bsliceT P H v0 v1 v2 v3 dst l bs K E news false = bnewT P H (lnew (.bslice v0 v1 v2 v3) E) dst l bs K E news := eqOf rfl
theorem blkT_append {v0 v1 v2 v3 v4 dst l bs K news} : blkT P H (⟨dst, .append v0 v1 v2 v3 v4, none⟩ :: l) bs K E news = bnewT P H (lnew (.append v0 v1 v2 v3 v4) E) dst l bs K E news := eqOf rfl
theorem lops_load {v0 v1 v2 dst rest K} : lops P (⟨dst, .load v0 v1 v2, none⟩ :: rest) K E H = stepT P rest K dst E (lopO (.load v0 v1 v2) E H) := eqOf rfl
theorem blkT_load {v0 v1 v2 dst l bs K news} : blkT P H (⟨dst, .load v0 v1 v2, none⟩ :: l) bs K E news = breadT P H (lopO (.load v0 v1 v2) E H) dst l bs K E news := blkT_read rfl
theorem lops_store {v0 v1 v2 dst rest K} : lops P (⟨dst, .store v0 v1 v2, none⟩ :: rest) K E H = stepT P rest K dst E (lopO (.store v0 v1 v2) E H) := eqOf rfl
theorem blkT_store {s d y dst l bs K news} : blkT P H (⟨dst, .store s (.t d) y, none⟩ :: l) bs K E news = ((dst = none ∧ y ≠ .t d ∧ topOK (arg E y) = true ∧ (arg E y).cells.length = s ∧ putOK d s news = true ∧ restOK d l = true) ∧ blkT P H l bs K E (updNews d (arg E y) news)) := eqOf rfl
theorem lops_nilchk {v0 dst rest K} : lops P (⟨dst, .nilchk v0, none⟩ :: rest) K E H = stepT P rest K dst E (lopO (.nilchk v0) E H) := eqOf rfl
theorem blkT_nilchk {v0 dst l bs K news} : blkT P H (⟨dst, .nilchk v0, none⟩ :: l) bs K E news = breadT P H (lopO (.nilchk v0) E H) dst l bs K E news := blkT_read rfl
theorem lops_bin {v0 v1 v2 v3 dst rest K} : lops P (⟨dst, .bin v0 v1 v2 v3, none⟩ :: rest) K E H = stepT P rest K dst E (lopO (.bin v0 v1 v2 v3) E H) := eqOf rfl
theorem blkT_bin {v0 v1 v2 v3 dst l bs K news} : blkT P H (⟨dst, .bin v0 v1 v2 v3, none⟩ :: l) bs K E news = breadT P H (lopO (.bin v0 v1 v2 v3) E H) dst l bs K E news := blkT_read rfl
theorem lops_un {v0 v1 dst rest K} : lops P (⟨dst, .un v0 v1, none⟩ :: rest) K E H = stepT P rest K dst E (lopO (.un v0 v1) E H) := eqOf rfl
theorem blkT_un {v0 v1 dst l bs K news} : blkT P H (⟨dst, .un v0 v1, none⟩ :: l) bs K E news = breadT P H (lopO (.un v0 v1) E H) dst l bs K E news := blkT_read rfl
theorem lops_conv {v0 v1 dst rest K} : lops P (⟨dst, .conv v0 v1, none⟩ :: rest) K E H = stepT P rest K dst E (lopO (.conv v0 v1) E H) := eqOf rfl
theorem blkT_conv {v0 v1 dst l bs K news} : blkT P H (⟨dst, .conv v0 v1, none⟩ :: l) bs K E news = breadT P H (lopO (.conv v0 v1) E H) dst l bs K E news := blkT_read rfl
theorem lops_sames {v0 dst rest K} : lops P (⟨dst, .sames v0, none⟩ :: rest) K E H = stepT P rest K dst E (lopO (.sames v0) E H) := eqOf rfl
theorem lops_field {v0 v1 v2 v3 dst rest K} : lops P (⟨dst, .field v0 v1 v2 v3, none⟩ :: rest) K E H = stepT P rest K dst E (lopO (.field v0 v1 v2 v3) E H) := eqOf rfl
theorem blkT_field {v0 v1 v2 v3 dst l bs K news} : blkT P H (⟨dst, .field v0 v1 v2 v3, none⟩ :: l) bs K E news = breadT P H (lopO (.field v0 v1 v2 v3) E H) dst l bs K E news := blkT_read rfl
theorem lops_faddr {v0 v1 dst rest K} : lops P (⟨dst, .faddr v0 v1, none⟩ :: rest) K E H = stepT P rest K dst E (lopO (.faddr v0 v1) E H) := eqOf rfl
theorem blkT_faddr {v0 v1 dst l bs K news} : blkT P H (⟨dst, .faddr v0 v1, none⟩ :: l) bs K E news = breadT P H (lopO (.faddr v0 v1) E H) dst l bs K E news := blkT_read rfl
theorem lops_iaddr {v0 v1 v2 dst rest K} : lops P (⟨dst, .iaddr v0 v1 v2, none⟩ :: rest) K E H = stepT P rest K dst E (lopO (.iaddr v0 v1 v2) E H) := eqOf rfl
theorem blkT_iaddr {v0 v1 v2 dst l bs K news} : blkT P H (⟨dst, .iaddr v0 v1 v2, none⟩ :: l) bs K E news = breadT P H (lopO (.iaddr v0 v1 v2) E H) dst l bs K E news := blkT_read rfl
theorem lops_iaddrA {v0 v1 v2 v3 dst rest K} : lops P (⟨dst, .iaddrA v0 v1 v2 v3, none⟩ :: rest) K E H = stepT P rest K dst E (lopO (.iaddrA v0 v1 v2 v3) E H) := eqOf rfl
theorem blkT_iaddrA {v0 v1 v2 v3 dst l bs K news} : blkT P H (⟨dst, .iaddrA v0 v1 v2 v3, none⟩ :: l) bs K E news = breadT P H (lopO (.iaddrA v0 v1 v2 v3) E H) dst l bs K E news := blkT_read rfl
theorem lops_idx {v0 v1 v2 v3 v4 dst rest K} : lops P (⟨dst, .idx v0 v1 v2 v3 v4, none⟩ :: rest) K E H = stepT P rest K dst E (lopO (.idx v0 v1 v2 v3 v4) E H) := eqOf rfl
theorem blkT_idx {v0 v1 v2 v3 v4 dst l bs K news} : blkT P H (⟨dst, .idx v0 v1 v2 v3 v4, none⟩ :: l) bs K E news = breadT P H (lopO (.idx v0 v1 v2 v3 v4) E H) dst l bs K E news := blkT_read rfl
theorem lops_slice {v0 v1 v2 v3 v4 dst rest K} : lops P (⟨dst, .slice v0 v1 v2 v3 v4, none⟩ :: rest) K E H = stepT P rest K dst E (lopO (.slice v0 v1 v2 v3 v4) E H) := eqOf rfl
theorem blkT_slice {v0 v1 v2 v3 v4 dst l bs K news} : blkT P H (⟨dst, .slice v0 v1 v2 v3 v4, none⟩ :: l) bs K E news = breadT P H (lopO (.slice v0 v1 v2 v3 v4) E H) dst l bs K E news := blkT_read rfl
theorem lops_sliceA {v0 v1 v2 v3 v4 v5 dst rest K} : lops P (⟨dst, .sliceA v0 v1 v2 v3 v4 v5, none⟩ :: rest) K E H = stepT P rest K dst E (lopO (.sliceA v0 v1 v2 v3 v4 v5) E H) := eqOf rfl
theorem blkT_sliceA {v0 v1 v2 v3 v4 v5 dst l bs K news} : blkT P H (⟨dst, .sliceA v0 v1 v2 v3 v4 v5, none⟩ :: l) bs K E news = breadT P H (lopO (.sliceA v0 v1 v2 v3 v4 v5) E H) dst l bs K E news := blkT_read rfl
theorem lops_mksl {v0 v1 v2 v3 v4 dst rest K} : lops P (⟨dst, .mksl v0 v1 v2 v3 v4, none⟩ :: rest) K E H = stepT P rest K dst E (lopO (.mksl v0 v1 v2 v3 v4) E H) := eqOf rfl
theorem lops_mkfn {v0 v1 v2 dst rest K} : lops P (⟨dst, .mkfn v0 v1 v2, none⟩ :: rest) K E H = stepT P rest K dst E (lopO (.mkfn v0 v1 v2) E H) := eqOf rfl
theorem blkT_mkfn {v0 v1 v2 dst l bs K news} : blkT P H (⟨dst, .mkfn v0 v1 v2, none⟩ :: l) bs K E news = breadT P H (lopO (.mkfn v0 v1 v2) E H) dst l bs K E news := blkT_read rfl
theorem lops_extract {v0 v1 dst rest K} : lops P (⟨dst, .extract v0 v1, none⟩ :: rest) K E H = stepT P rest K dst E (lopO (.extract v0 v1) E H) := eqOf rfl
theorem blkT_extract {v0 v1 dst l bs K news} : blkT P H (⟨dst, .extract v0 v1, none⟩ :: l) bs K E news = breadT P H (lopO (.extract v0 v1) E H) dst l bs K E news := blkT_read rfl
theorem lops_len {v0 v1 dst rest K} : lops P (⟨dst, .len v0 v1, none⟩ :: rest) K E H = stepT P rest K dst E (lopO (.len v0 v1) E H) := eqOf rfl
theorem blkT_len {v0 v1 dst l bs K news} : blkT P H (⟨dst, .len v0 v1, none⟩ :: l) bs K E news = breadT P H (lopO (.len v0 v1) E H) dst l bs K E news := blkT_read rfl
theorem lops_append {v0 v1 v2 v3 v4 dst rest K} : lops P (⟨dst, .append v0 v1 v2 v3 v4, none⟩ :: rest) K E H = stepT P rest K dst E (lopO (.append v0 v1 v2 v3 v4) E H) := eqOf rfl
theorem lops_copy {v0 v1 v2 dst rest K} : lops P (⟨dst, .copy v0 v1 v2, none⟩ :: rest) K E H = stepT P rest K dst E (lopO (.copy v0 v1 v2) E H) := eqOf rfl
theorem lops_mm {v0 v1 v2 dst rest K} : lops P (⟨dst, .mm v0 v1 v2, none⟩ :: rest) K E H = stepT P rest K dst E (lopO (.mm v0 v1 v2) E H) := eqOf rfl
theorem blkT_mm {v0 v1 v2 dst l bs K news} : blkT P H (⟨dst, .mm v0 v1 v2, none⟩ :: l) bs K E news = breadT P H (lopO (.mm v0 v1 v2) E H) dst l bs K E news := blkT_read rfl
theorem lops_b2s {v0 dst rest K} : lops P (⟨dst, .b2s v0, none⟩ :: rest) K E H = stepT P rest K dst E (lopO (.b2s v0) E H) := eqOf rfl
theorem lops_mkmap {v0 dst rest K} : lops P (⟨dst, .mkmap v0, none⟩ :: rest) K E H = stepT P rest K dst E (lopO (.mkmap v0) E H) := eqOf rfl
theorem lops_mset {v0 v1 v2 v3 dst rest K} : lops P (⟨dst, .mset v0 v1 v2 v3, none⟩ :: rest) K E H = stepT P rest K dst E (lopO (.mset v0 v1 v2 v3) E H) := eqOf rfl
theorem lops_mget {v0 v1 v2 v3 v4 dst rest K} : lops P (⟨dst, .mget v0 v1 v2 v3 v4, none⟩ :: rest) K E H = stepT P rest K dst E (lopO (.mget v0 v1 v2 v3 v4) E H) := eqOf rfl
theorem blkT_mget {v0 v1 v2 v3 v4 dst l bs K news} : blkT P H (⟨dst, .mget v0 v1 v2 v3 v4, none⟩ :: l) bs K E news = breadT P H (lopO (.mget v0 v1 v2 v3 v4) E H) dst l bs K E news := blkT_read rfl
theorem lops_mlen {v0 dst rest K} : lops P (⟨dst, .mlen v0, none⟩ :: rest) K E H = stepT P rest K dst E (lopO (.mlen v0) E H) := eqOf rfl
theorem blkT_mlen {v0 dst l bs K news} : blkT P H (⟨dst, .mlen v0, none⟩ :: l) bs K E news = breadT P H (lopO (.mlen v0) E H) dst l bs K E news := blkT_read rfl
theorem lops_r2s {v0 dst rest K} : lops P (⟨dst, .r2s v0, none⟩ :: rest) K E H = stepT P rest K dst E (lopO (.r2s v0) E H) := eqOf rfl
theorem blkT_r2s {v0 dst l bs K news} : blkT P H (⟨dst, .r2s v0, none⟩ :: l) bs K E news = breadT P H (lopO (.r2s v0) E H) dst l bs K E news := blkT_read rfl
theorem lops_eq2 {v0 v1 v2 dst rest K} : lops P (⟨dst, .eq2 v0 v1 v2, none⟩ :: rest) K E H = stepT P rest K dst E (lopO (.eq2 v0 v1 v2) E H) := eqOf rfl
theorem blkT_eq2 {v0 v1 v2 dst l bs K news} : blkT P H (⟨dst, .eq2 v0 v1 v2, none⟩ :: l) bs K E news = breadT P H (lopO (.eq2 v0 v1 v2) E H) dst l bs K E news := blkT_read rfl
theorem lops_s2ap {v0 v1 dst rest K} : lops P (⟨dst, .s2ap v0 v1, none⟩ :: rest) K E H = stepT P rest K dst E (lopO (.s2ap v0 v1) E H) := eqOf rfl
theorem blkT_s2ap {v0 v1 dst l bs K news} : blkT P H (⟨dst, .s2ap v0 v1, none⟩ :: l) bs K E news = breadT P H (lopO (.s2ap v0 v1) E H) dst l bs K E news := blkT_read rfl
theorem lops_sidx {v0 v1 dst rest K} : lops P (⟨dst, .sidx v0 v1, none⟩ :: rest) K E H = stepT P rest K dst E (lopO (.sidx v0 v1) E H) := eqOf rfl

theorem closed_any : closed .any = true := eqOf rfl
theorem solid_any : solid .any = false := eqOf rfl
theorem topOK_any : topOK .any = solid .any := eqOf rfl
theorem plain_any : plain .any = true := eqOf rfl
theorem plainR_any : plainR .any = plain .any := eqOf rfl
theorem cells_any : L.cells .any = [.any] := eqOf rfl
theorem below_any {n : Nat} : below n .any = true := by simp [below]
theorem ren_any {f' : Nat → Nat} : ren f' .any = .any := by simp [ren]
theorem closed_no : closed .no = true := eqOf rfl
theorem solid_no : solid .no = false := eqOf rfl
theorem topOK_no : topOK .no = solid .no := eqOf rfl
theorem plain_no : plain .no = true := eqOf rfl
theorem plainR_no : plainR .no = plain .no := eqOf rfl
theorem cells_no : L.cells .no = [.no] := eqOf rfl
theorem below_no {n : Nat} : below n .no = true := by simp [below]
theorem ren_no {f' : Nat → Nat} : ren f' .no = .no := by simp [ren]
theorem closed_v {x} : closed (.v x) = true := eqOf rfl
theorem solid_v {x} : solid (.v x) = x.oneCell' := eqOf rfl
theorem topOK_v {x} : topOK (.v x) = solid (.v x) := eqOf rfl
theorem plain_v {x} : plain (.v x) = true := eqOf rfl
theorem plainR_v {x} : plainR (.v x) = plain (.v x) := eqOf rfl
theorem cells_v {x} : L.cells (.v x) = [(.v x)] := eqOf rfl
theorem below_v {n : Nat} {x} : below n (.v x) = true := by simp [below]
theorem ren_v {f' : Nat → Nat} {x} : ren f' (.v x) = (.v x) := by simp [ren]
theorem closed_sl {e c xs} : closed (.sl e c xs) = true := eqOf rfl
theorem solid_sl {e c xs} : solid (.sl e c xs) = true := eqOf rfl
theorem topOK_sl {e c xs} : topOK (.sl e c xs) = solid (.sl e c xs) := eqOf rfl
theorem plain_sl {e c xs} : plain (.sl e c xs) = false := eqOf rfl
theorem plainR_sl {e c xs} : plainR (.sl e c xs) = plain (.sl e c xs) := eqOf rfl
theorem cells_sl {e c xs} : L.cells (.sl e c xs) = [(.sl e c xs)] := eqOf rfl
theorem below_sl {n : Nat} {e c xs} : below n (.sl e c xs) = true := by simp [below]
theorem ren_sl {f' : Nat → Nat} {e c xs} : ren f' (.sl e c xs) = (.sl e c xs) := by simp [ren]
theorem closed_agg {cs} : closed (.agg cs) = false := eqOf rfl
theorem solid_agg {cs} : solid (.agg cs) = false := eqOf rfl
theorem topOK_agg {cs} : topOK (.agg cs) = cs.all solid := eqOf rfl
theorem plain_agg {cs} : plain (.agg cs) = false := eqOf rfl
theorem plainR_agg {cs} : plainR (.agg cs) = cs.all plain := eqOf rfl
theorem cells_agg {cs} : L.cells (.agg cs) = cs := eqOf rfl
theorem closed_tup {cs} : closed (.tup cs) = false := eqOf rfl
theorem solid_tup {cs} : solid (.tup cs) = false := eqOf rfl
theorem topOK_tup {cs} : topOK (.tup cs) = solid (.tup cs) := eqOf rfl
theorem plain_tup {cs} : plain (.tup cs) = false := eqOf rfl
theorem plainR_tup {cs} : plainR (.tup cs) = cs.all plain := eqOf rfl
theorem cells_tup {cs} : L.cells (.tup cs) = [(.tup cs)] := eqOf rfl
theorem closed_view {e h o n c} : closed (.view e h o n c) = false := eqOf rfl
theorem solid_view {e h o n c} : solid (.view e h o n c) = true := eqOf rfl
theorem topOK_view {e h o n c} : topOK (.view e h o n c) = solid (.view e h o n c) := eqOf rfl
theorem plain_view {e h o n c} : plain (.view e h o n c) = false := eqOf rfl
theorem plainR_view {e h o n c} : plainR (.view e h o n c) = plain (.view e h o n c) := eqOf rfl
theorem cells_view {e h o n c} : L.cells (.view e h o n c) = [(.view e h o n c)] := eqOf rfl
theorem closed_ptr {h o} : closed (.ptr h o) = false := eqOf rfl
theorem solid_ptr {h o} : solid (.ptr h o) = true := eqOf rfl
theorem topOK_ptr {h o} : topOK (.ptr h o) = solid (.ptr h o) := eqOf rfl
theorem plain_ptr {h o} : plain (.ptr h o) = false := eqOf rfl
theorem plainR_ptr {h o} : plainR (.ptr h o) = plain (.ptr h o) := eqOf rfl
theorem cells_ptr {h o} : L.cells (.ptr h o) = [(.ptr h o)] := eqOf rfl
theorem closed_pp {cs} : closed (.pp cs) = true := eqOf rfl
theorem solid_pp {cs} : solid (.pp cs) = true := eqOf rfl
theorem topOK_pp {cs} : topOK (.pp cs) = solid (.pp cs) := eqOf rfl
theorem plain_pp {cs} : plain (.pp cs) = false := eqOf rfl
theorem plainR_pp {cs} : plainR (.pp cs) = plain (.pp cs) := eqOf rfl
theorem cells_pp {cs} : L.cells (.pp cs) = [(.pp cs)] := eqOf rfl
theorem below_pp {n : Nat} {cs} : below n (.pp cs) = true := by simp [below]
theorem ren_pp {f' : Nat → Nat} {cs} : ren f' (.pp cs) = (.pp cs) := by simp [ren]
theorem closed_fn {f a b} : closed (.fn f a b) = false := eqOf rfl
theorem solid_fn {f a b} : solid (.fn f a b) = true := eqOf rfl
theorem topOK_fn {f a b} : topOK (.fn f a b) = solid (.fn f a b) := eqOf rfl
theorem plain_fn {f a b} : plain (.fn f a b) = false := eqOf rfl
theorem plainR_fn {f a b} : plainR (.fn f a b) = plain (.fn f a b) := eqOf rfl
theorem cells_fn {f a b} : L.cells (.fn f a b) = [(.fn f a b)] := eqOf rfl
theorem below_agg {n : Nat} {cs} : below n (.agg cs) = belowL n cs := by simp [below]
theorem below_tup {n : Nat} {cs} : below n (.tup cs) = belowL n cs := by simp [below]
theorem below_fn {n : Nat} {f a b} : below n (.fn f a b) = (belowL n a && belowL n b) := by simp [below]
theorem below_view {n : Nat} {e h o m c} : below n (.view e h o m c) = decide (h < n) := by simp [below]
theorem below_ptr {n : Nat} {h o} : below n (.ptr h o) = decide (h < n) := by simp [below]
theorem ren_agg {f' : Nat → Nat} {cs} : ren f' (.agg cs) = .agg (renL f' cs) := by simp [ren]
theorem ren_tup {f' : Nat → Nat} {cs} : ren f' (.tup cs) = .tup (renL f' cs) := by simp [ren]
theorem ren_fn {f' : Nat → Nat} {f a b} : ren f' (.fn f a b) = .fn f (renL f' a) (renL f' b) := by simp [ren]
theorem ren_view {f' : Nat → Nat} {e h o m c} : ren f' (.view e h o m c) = .view e (f' h) o m c := by simp [ren]
theorem ren_ptr {f' : Nat → Nat} {h o} : ren f' (.ptr h o) = .ptr (f' h) o := by simp [ren]

theorem blkT_b2s {v0 dst l bs K news} : blkT P H (⟨dst, .b2s v0, none⟩ :: l) bs K E news = breadT P H (lopO (.b2s v0) E H) dst l bs K E news := blkT_read rfl
theorem toBytes_nil : toBytes [] = some [] := eqOf rfl
theorem toBytes_cons {n ls} : toBytes (.v (.int .u8 n) :: ls) = (toBytes ls).map (UInt8.ofNat n.toNat :: ·) := eqOf rfl
theorem toBytes_map {α : Type} {f : α → Int} : ∀ {xs : List α}, toBytes (xs.map fun z => .v (.int .u8 (f z))) = some (xs.map fun z => UInt8.ofNat (f z).toNat)
  | [] => rfl
  | x :: xs => by simp [toBytes, toBytes_map (xs := xs)]
theorem toBytes_map1 : ∀ {xs : List Int}, toBytes (xs.map fun z => .v (.int .u8 z)) = some (xs.map fun z => UInt8.ofNat z.toNat)
  | [] => rfl
  | x :: xs => by simp [toBytes, toBytes_map1 (xs := xs)]
theorem toBytes_other {x : L} {ls : List L} (h : ∀ n, x ≠ .v (.int .u8 n)) : toBytes (x :: ls) = none := by
  unfold toBytes
  split
  · rename_i e; cases e
  · rename_i n ls' e; cases e; exact absurd rfl (h n)
  · rfl
theorem toBytes_append : ∀ {xs ys : List L}, toBytes (xs ++ ys) = (toBytes xs).bind fun a => (toBytes ys).map (a ++ ·)
  | [], ys => by cases h : toBytes ys <;> simp [toBytes_nil, h]
  | x :: xs, ys => by
    by_cases hx : ∃ n, x = .v (.int .u8 n)
    · obtain ⟨n, rfl⟩ := hx
      simp only [List.cons_append, toBytes_cons]
      rw [toBytes_append]
      cases h : toBytes xs <;> cases h2 : toBytes ys <;> simp
    · have hx' : ∀ n, x ≠ .v (.int .u8 n) := fun n e => hx ⟨n, e⟩
      simp only [List.cons_append]
      rw [toBytes_other hx', toBytes_other hx']
      rfl

theorem bytes_toList (l : List UInt8) : (⟨l.toArray⟩ : ByteArray).toList = l := by
  have key : ∀ (n : Nat) (i : Nat) (r : List UInt8), l.length - i = n → ByteArray.toList.loop ⟨l.toArray⟩ i r = r.reverse ++ l.drop i := by
    intro n
    induction n with
    | zero =>
      intro i r h
      unfold ByteArray.toList.loop
      rw [if_neg (by simp [ByteArray.size]; omega), List.drop_eq_nil_of_le (by omega)]
      simp
    | succ n ih =>
      intro i r h
      unfold ByteArray.toList.loop
      rw [if_pos (by simp [ByteArray.size]; omega), ih (i + 1) _ (by omega)]
      have hi : i < l.length := by omega
      rw [List.drop_eq_getElem_cons hi]
      simp [ByteArray.get!, hi]
  have := key _ 0 [] rfl
  rw [List.reverse_nil, List.nil_append, List.drop_zero] at this
  exact this
theorem binStr_eql {a b : List UInt8} : binStr .eql ⟨a.toArray⟩ ⟨b.toArray⟩ = some (.v (.bool (decide (a = b)))) := by simp only [binStr, bytes_toList]
theorem binStr_neq {a b : List UInt8} : binStr .neq ⟨a.toArray⟩ ⟨b.toArray⟩ = some (.v (.bool (decide (a ≠ b)))) := by simp only [binStr, bytes_toList]
/-- Numbers that are bytes. -/
def isByte (z : Int) : Prop := 0 ≤ z ∧ z ≤ 255
theorem bytes_inj : ∀ {xs ys : List Int}, (∀ z ∈ xs, isByte z) → (∀ z ∈ ys, isByte z) → (xs.map (fun z => UInt8.ofNat z.toNat) = ys.map (fun z => UInt8.ofNat z.toNat) ↔ xs = ys)
  | [], [], _, _ => by simp
  | [], y :: ys, _, _ => by simp
  | x :: xs, [], _, _ => by simp
  | x :: xs, y :: ys, h1, h2 => by
    have hx := h1 x (by simp)
    have hy := h2 y (by simp)
    have ih := bytes_inj (xs := xs) (ys := ys) (fun z hz => h1 z (by simp [hz])) (fun z hz => h2 z (by simp [hz]))
    simp only [List.map_cons, List.cons.injEq, ih]
    refine and_congr_left fun _ => ⟨fun h => ?_, fun h => by rw [h]⟩
    have := congrArg UInt8.toNat h
    simp only [UInt8.toNat_ofNat'] at this
    obtain ⟨a1, a2⟩ := hx
    obtain ⟨b1, b2⟩ := hy
    omega

theorem ldrawF_mono {K K' : Env → Heap → Prop} (hk : ∀ E H, K E H → K' E H) : ∀ {bs : List (List Nat × List O)} {E : Env} {H : Heap}, ldrawF P bs K E H → ldrawF P bs K' E H
  | [], _, _, h => hk _ _ h
  | (fl, blk) :: bs, E, H, h => by
    simp only [ldrawF] at h ⊢
    split
    · rename_i e
      rw [if_pos e] at h
      exact lblk_mono (fun _ _ h => addNews_mono (fun _ _ h => lops_mono (fun _ _ h => ⟨h.1, ldrawF_mono hk h.2⟩) h) h) h
    · rename_i e
      rw [if_neg e] at h
      exact ldraw_mono (fun _ _ h => ldrawF_mono hk h) h

/-- A piece, by whether it ends with an operation that turns the own rows. -/
def dfT (P : Program) (b : Bool) (fl : List Nat) (blk : List O) (bs : List (List Nat × List O)) (K : Env → Heap → Prop) (E : Env) (H : Heap) : Prop := if b = true then heavyC P fl blk (ldrawF P bs K) E H else ldraw P [blk] (ldrawF P bs K) E H
def sK (P : Program) (fl : List Nat) (blk : List O) (bs : List (List Nat × List O)) (K : Env → Heap → Prop) (E2 : Env) (H2 : Heap) : Prop := (∀ i ∈ fl, stable blk E2 H2 i) ∧ ldrawF P bs K E2 H2
def hK (P : Program) (fl : List Nat) (blk : List O) (bs : List (List Nat × List O)) (K : Env → Heap → Prop) (E1 : Env) (H1 : Heap) : Prop := lops P (blk.drop (blk.length - 1)) (sK P fl blk bs K) E1 H1
theorem lwp_drawF {bs} : lwp P k (.drawF bs) Q E H = ldrawF P bs (Q .normal) E H := eqOf rfl
theorem ldrawF_nil {K} : ldrawF P [] K E H = K E H := eqOf rfl
theorem ldrawF_cons {fl blk bs K} : ldrawF P ((fl, blk) :: bs) K E H = dfT P (heavyP blk) fl blk bs K E H := by simp only [ldrawF, dfT, heavyC]
theorem dfT_true {fl blk bs K} : dfT P true fl blk bs K E H = blkT P H blk.dropLast [] (hK P fl blk bs K) E [] := by simp only [dfT, if_true]; rfl
theorem dfT_false {fl blk bs K} : dfT P false fl blk bs K E H = ldraw P [blk] (ldrawF P bs K) E H := by simp [dfT]
theorem hK_eq {fl blk bs K} : hK P fl blk bs K E H = lops P (blk.drop (blk.length - 1)) (sK P fl blk bs K) E H := eqOf rfl
theorem sK_eq {fl blk bs K} : sK P fl blk bs K E H = ((∀ i ∈ fl, stable blk E H i) ∧ ldrawF P bs K E H) := eqOf rfl
theorem lwp_draw {bs} : lwp P k (.draw bs) Q E H = ldraw P bs (Q .normal) E H := eqOf rfl
theorem ldraw_nil {K} : ldraw P [] K E H = K E H := eqOf rfl
theorem ldraw_one {o bs K} : ldraw P ([o] :: bs) K E H = lops P [o] (ldraw P bs K) E H := eqOf rfl
theorem ldraw_more {o o' blk bs K} : ldraw P ((o :: o' :: blk) :: bs) K E H = lblk P H (o :: o' :: blk) (fun E news => addNews news E H (ldraw P bs K)) E [] := eqOf rfl
theorem lblk_nil {K news} : lblk P H [] K E news = K E news := eqOf rfl
theorem addNews_nil {K} : addNews [] E H K = K E H := eqOf rfl
theorem addNews_cons {d cs mk rest K} : addNews ((d, cs, mk) :: rest) E H K = addNews rest (putE E d (mk H.length)) (H ++ [some cs]) K := eqOf rfl

theorem lot_mono {st K K' : Env → Heap → Prop} (hk : ∀ E H, K E H → K' E H) : ∀ {t : OT} {E : Env} {H : Heap}, lot P st t K E H → lot P st t K' E H
  | .done, _, _, h => hk _ _ h
  | .none, _, _, h => h
  | .alt _ _ _, _, _, h => ⟨lops_mono (fun _ _ h => ⟨h.1, lot_mono hk h.2⟩) h.1, lot_mono hk h.2⟩

theorem lwp_mono : ∀ {b : IR} {Q Q' : X → Env → Heap → Prop}, (∀ e E H, Q e E H → Q' e E H) → ∀ {E H}, lwp P k b Q E H → lwp P k b Q' E H
  | .skip, _, _, hq, _, _, h => hq _ _ _ h
  | .range n g rc, Q, Q', hq, E, H, h => by
    simp only [lwp] at h ⊢
    split
    · rename_i e
      simp only [e] at h
      refine callAt_mono h fun _ H' hk => ?_
      unfold rangeK at hk ⊢
      generalize H'[H.length]? = o at hk
      unfold rangeW at hk ⊢
      split at hk
      · refine ⟨hk.1, ?_⟩
        have hk := hk.2
        unfold pendQ at hk ⊢
        split at hk <;> first | exact hq _ _ _ hk | exact hk.elim
      · exact hk.elim
    · rename_i hne
      split at h
      · rename_i e; exact absurd e (hne _ _ _)
      · exact h
  | .ops l, _, _, hq, _, _, h => lops_mono (hq _) h
  | .draw _, _, _, hq, _, _, h => ldraw_mono (hq _) h
  | .drawF _, _, _, hq, _, _, h => ldrawF_mono (hq _) h
  | .drawN _ _, _, _, hq, _, _, h => lops_mono (fun _ _ ⟨h1, h2, I, h3, h4⟩ => ⟨h1, h2, I, h3, fun E2 H2 hI => hq _ _ _ (h4 E2 H2 hI)⟩) h
  | .seq a b, Q, Q', hq, _, _, h => by
    refine lwp_mono (b := a) ?_ h
    intro e E H h
    cases e with
    | normal => exact lwp_mono (b := b) hq h
    | _ => exact hq _ _ _ h
  | .cond c a b, _, _, hq, E, H, h => by
    simp only [lwp] at h ⊢
    split
    · rename_i t e
      simp only [e] at h
      exact ⟨fun ht => lwp_mono (b := a) hq (h.1 ht), fun ht => lwp_mono (b := b) hq (h.2 ht)⟩
    · rename_i hne
      split at h
      · rename_i e; exact absurd e (hne _)
      · exact h
  | .block id b, _, _, hq, _, _, h => by
    refine lwp_mono (b := b) ?_ h
    intro e E H h
    cases e with
    | exit id' =>
      simp only [X.inBlock] at h ⊢
      split
      · rename_i e; rw [if_pos e] at h; exact hq _ _ _ h
      · rename_i e; rw [if_neg e] at h; exact hq _ _ _ h
    | _ => exact hq _ _ _ h
  | .loop b, _, _, hq, _, _, h => by
    obtain ⟨I, m, h1, h2⟩ := h
    refine ⟨I, m, h1, fun E H m hI => lwp_mono (b := b) ?_ (h2 E H m hI)⟩
    intro e E H h
    cases e with
    | normal => exact h
    | _ => exact hq _ _ _ h
  | .exit id, _, _, hq, _, _, h => hq _ _ _ h
  | .ret, _, _, hq, _, _, h => hq _ _ _ h
  | .label _, _, _, hq, _, _, h => hq _ _ _ h
  | .goto _, _, _, hq, _, _, h => hq _ _ _ h
  | .scope l b rest, _, _, hq, _, _, h => by
    obtain ⟨I, h1, h2⟩ := h
    refine ⟨I, lwp_mono (b := b) ?_ h1, fun E H m hI => lwp_mono (b := rest) ?_ (h2 E H m hI)⟩ <;>
    · intro e E H h
      cases e with
      | goto l => exact h
      | _ => exact hq _ _ _ h

/-- Behind a round. -/
def nextT (k : Nat) {ι : Type} (mk : ι → Env) (hp : ι → Heap) (m : ι → Nat) (inv : ι → Prop) (x : ι) (E : Env) (H : Heap) : Prop := ∃ x', inv x' ∧ m x' < m x ∧ weak k E H (mk x') (hp x')

theorem lwp_loop {b : IR} {ι : Type} (mk : ι → Env) (hp : ι → Heap) (m : ι → Nat) (inv : ι → Prop) (x0 : ι) (h0 : inv x0) (hw : weak k E H (mk x0) (hp x0))
    (round : ∀ x, inv x → lwp P k b (X.then (nextT k mk hp m inv x) Q) (mk x) (hp x)) : lwp P k (.loop b) Q E H := by
  refine ⟨fun E H n => ∃ x, inv x ∧ E = mk x ∧ H = hp x ∧ n = m x, m x0, ⟨mk x0, hp x0, .inl hw, x0, h0, rfl, rfl, rfl⟩, ?_⟩
  rintro E H n ⟨x, hx, rfl, rfl, rfl⟩
  refine lwp_mono ?_ (round x hx)
  intro e E' H' hq
  cases e with
  | normal =>
    obtain ⟨x', h1, h2, h3⟩ := hq
    exact ⟨mk x', hp x', m x', .inl h3, h2, x', h1, rfl, rfl, rfl⟩
  | _ => exact hq

/-- Behind a round, some rows written no more. -/
def nextF (k : Nat) {ι : Type} (mk : ι → Env) (hp : ι → Heap) (m : ι → Nat) (inv : ι → Prop) (x : ι) (E : Env) (H : Heap) : Prop := ∃ x', inv x' ∧ m x' < m x ∧ ∃ fz, weak k (frzE H fz E) (frzH H fz 0 H) (mk x') (hp x')

theorem lwp_loopF {b : IR} {ι : Type} (mk : ι → Env) (hp : ι → Heap) (m : ι → Nat) (inv : ι → Prop) (x0 : ι) (h0 : inv x0) (fz : List Nat) (hw : weak k (frzE H fz E) (frzH H fz 0 H) (mk x0) (hp x0))
    (round : ∀ x, inv x → lwp P k b (X.then (nextF k mk hp m inv x) Q) (mk x) (hp x)) : lwp P k (.loop b) Q E H := by
  refine ⟨fun E H n => ∃ x, inv x ∧ E = mk x ∧ H = hp x ∧ n = m x, m x0, ⟨mk x0, hp x0, .inr (.inl ⟨fz, hw⟩), x0, h0, rfl, rfl, rfl⟩, ?_⟩
  rintro E H n ⟨x, hx, rfl, rfl, rfl⟩
  refine lwp_mono ?_ (round x hx)
  intro e E' H' hq
  cases e with
  | normal =>
    obtain ⟨x', h1, h2, fz, h3⟩ := hq
    exact ⟨mk x', hp x', m x', .inr (.inl ⟨fz, h3⟩), h2, x', h1, rfl, rfl, rfl⟩
  | _ => exact hq

/-- At the loop's head two sets of rows, one behind the other, are written no more. -/
theorem lwp_loopG {b : IR} {ι : Type} (mk : ι → Env) (hp : ι → Heap) (m : ι → Nat) (inv : ι → Prop) (x0 : ι) (h0 : inv x0) (fz fz' : List Nat) (hw : weak k (frzE (frzH H fz 0 H) fz' (frzE H fz E)) (frzH (frzH H fz 0 H) fz' 0 (frzH H fz 0 H)) (mk x0) (hp x0))
    (round : ∀ x, inv x → lwp P k b (X.then (nextF k mk hp m inv x) Q) (mk x) (hp x)) : lwp P k (.loop b) Q E H := by
  refine ⟨fun E H n => ∃ x, inv x ∧ E = mk x ∧ H = hp x ∧ n = m x, m x0, ⟨mk x0, hp x0, .inr (.inr ⟨fz, fz', hw⟩), x0, h0, rfl, rfl, rfl⟩, ?_⟩
  rintro E H n ⟨x, hx, rfl, rfl, rfl⟩
  refine lwp_mono ?_ (round x hx)
  intro e E' H' hq
  cases e with
  | normal =>
    obtain ⟨x', h1, h2, fz, h3⟩ := hq
    exact ⟨mk x', hp x', m x', .inr (.inl ⟨fz, h3⟩), h2, x', h1, rfl, rfl, rfl⟩
  | _ => exact hq

/-- Where a scope's label is come to. -/
def enterT (k : Nat) {ι : Type} (mk : ι → Env) (hp : ι → Heap) (inv : ι → Prop) (E : Env) (H : Heap) : Prop := ∃ x, inv x ∧ weak k E H (mk x) (hp x)

theorem lot_done {st K} : lot P st .done K E H = K E H := eqOf rfl
theorem lot_none {st K} : lot P st .none K E H = True := eqOf rfl
theorem lot_alts {st K o t more} : lot P st (.alt o t more) K E H = (lops P [o] (fun E' H' => st E' H' ∧ lot P st t K E' H') E H ∧ lot P st more K E H) := eqOf rfl

/-- A region in all orders: the state behind it, given by a word that goes round no more. -/
theorem lwp_drawN {pu : List O} {t : OT} {ι : Type} (mk : ι → Env) (hp : ι → Heap) (inv : ι → Prop)
    (reads : lops P pu (fun E' H' => H' = H ∧ (∀ o ∈ pu, stableO o E' H') ∧ lot P (fun E2 H2 => ∀ o ∈ pu, stableO o E2 H2) t (enterT k mk hp inv) E' H') E H)
    (next : ∀ x, inv x → Q .normal (mk x) (hp x)) : lwp P k (.drawN pu t) Q E H :=
  lops_mono (fun _ _ ⟨h1, h2, h3⟩ => ⟨h1, h2, fun E2 H2 => ∃ x, inv x ∧ E2 = mk x ∧ H2 = hp x,
    lot_mono (fun _ _ ⟨x, hx, hw⟩ => .inr ⟨_, _, .inl hw, x, hx, rfl, rfl⟩) h3, fun _ _ ⟨x, hx, e1, e2⟩ => by subst e1; subst e2; exact next x hx⟩) reads

/-- A region that goes in one order alone: as it stands. -/
theorem lwp_drawN1 {pu : List O} {t : OT} (reads : lops P pu (fun E' H' => H' = H ∧ (∀ o ∈ pu, stableO o E' H') ∧ lot P (fun E2 H2 => ∀ o ∈ pu, stableO o E2 H2) t (Q .normal) E' H') E H) : lwp P k (.drawN pu t) Q E H :=
  lops_mono (fun _ _ ⟨h1, h2, h3⟩ => ⟨h1, h2, Q .normal, lot_mono (fun _ _ h => .inl h) h3, fun _ _ h => h⟩) reads

theorem lwp_scope {l : Nat} {b rest : IR} {ι : Type} (mk : ι → Env) (hp : ι → Heap) (m : ι → Nat) (inv : ι → Prop) (first : lwp P k b (X.jump l (enterT k mk hp inv) Q) E H)
    (round : ∀ x, inv x → lwp P k rest (X.jump l (nextT k mk hp m inv x) Q) (mk x) (hp x)) : lwp P k (.scope l b rest) Q E H := by
  refine ⟨fun E H n => ∃ x, inv x ∧ E = mk x ∧ H = hp x ∧ n = m x, lwp_mono ?_ first, ?_⟩
  · intro e E' H' hq
    cases e with
    | goto l' =>
      obtain ⟨h0, x', h1, h3⟩ := hq
      exact ⟨h0, mk x', hp x', m x', .inl h3, x', h1, rfl, rfl, rfl⟩
    | _ => exact hq
  · rintro E H n ⟨x, hx, rfl, rfl, rfl⟩
    refine lwp_mono ?_ (round x hx)
    intro e E' H' hq
    cases e with
    | goto l' =>
      obtain ⟨h0, x', h1, h2, h3⟩ := hq
      exact ⟨h0, mk x', hp x', m x', .inl h3, h2, x', h1, rfl, rfl, rfl⟩
    | _ => exact hq

theorem jump_normal {l J} : X.jump l J Q .normal = Q .normal := eqOf rfl
theorem jump_exit {l J id} : X.jump l J Q (.exit id) = Q (.exit id) := eqOf rfl
theorem jump_ret {l J} : X.jump l J Q .ret = Q .ret := eqOf rfl
theorem jump_goto {l J l'} : X.jump l J Q (.goto l') E H = (l' = l ∧ J E H) := eqOf rfl

/-- A call by a contract: what it gives has no list in it. -/
theorem callT_plain {f : FuncId} {ls ls' : List L} {r : L} {dst rest K} (h : PC P f ls' r) (hp : plainR r = true) (hr : mapO (reso H 4) ls = some ls') (hk : lops P rest K (putE E dst r) H) : callT P f ls H dst rest K E := callAt_plain h hp hr hk
theorem callT_closed {f : FuncId} {ls : List L} {r : L} {dst rest K} (h : PC P f ls r) (hr : mapO (reso [] 4) ls = some ls) (hk : lops P rest K (putE E dst r) H) : callT P f ls H dst rest K E := callAt_closed h hr hk
theorem bcallT_plain {f : FuncId} {ls ls' : List L} {r : L} {dst l bs K news} (h : PC P f ls' r) (hp : plainR r = true) (hr : mapO (reso H 4) ls = some ls') (hk : blkT P H l bs K (putE E dst r) news) : bcallT P H f ls dst l bs K E news := ⟨r, callAt_plain h hp hr ⟨rfl, rfl⟩, hk⟩
theorem bcallT_closed {f : FuncId} {ls : List L} {r : L} {dst l bs K news} (h : PC P f ls r) (hr : mapO (reso [] 4) ls = some ls) (hk : blkT P H l bs K (putE E dst r) news) : bcallT P H f ls dst l bs K E news := ⟨r, callAt_closed h hr ⟨rfl, rfl⟩, hk⟩

theorem optK_map {α β : Type} (f : α → β) (o : Option α) (K : β → Prop) : optK (o.map f) K = optK o (fun a => K (f a)) := by cases o <;> simp
theorem optK_get {α : Type} {l : List α} {i : Nat} (h : i < l.length) (K : α → Prop) : optK l[i]? K = K l[i] := by simp [h]

end

theorem renL_map {α : Type} {f : Nat → Nat} {g : α → L} : ∀ {xs : List α}, renL f (xs.map g) = xs.map fun x => ren f (g x)
  | [] => rfl
  | x :: xs => by simp [renL, renL_map (xs := xs)]
theorem renL_append {f : Nat → Nat} : ∀ {xs ys : List L}, renL f (xs ++ ys) = renL f xs ++ renL f ys
  | [], ys => rfl
  | x :: xs, ys => by simp [renL, renL_append (xs := xs)]
theorem belowL_map {α : Type} {n : Nat} {g : α → L} : ∀ {xs : List α}, (belowL n (xs.map g) = true) = (∀ x ∈ xs, below n (g x) = true)
  | [] => by simp [belowL]
  | x :: xs => by simp [belowL, belowL_map (xs := xs)]
theorem belowL_append {n : Nat} : ∀ {xs ys : List L}, belowL n (xs ++ ys) = (belowL n xs && belowL n ys)
  | [], ys => by simp [belowL]
  | x :: xs, ys => by simp [belowL, belowL_append (xs := xs), Bool.and_assoc]

theorem range1 : List.range 1 = [0] := eqOf rfl
theorem range2 : List.range 2 = [0, 1] := eqOf rfl
theorem range3 : List.range 3 = [0, 1, 2] := eqOf rfl
theorem range4 : List.range 4 = [0, 1, 2, 3] := eqOf rfl
theorem range5 : List.range 5 = [0, 1, 2, 3, 4] := eqOf rfl
theorem range6 : List.range 6 = [0, 1, 2, 3, 4, 5] := eqOf rfl
theorem range7 : List.range 7 = [0, 1, 2, 3, 4, 5, 6] := eqOf rfl
theorem range8 : List.range 8 = [0, 1, 2, 3, 4, 5, 6, 7] := eqOf rfl
theorem range9 : List.range 9 = [0, 1, 2, 3, 4, 5, 6, 7, 8] := eqOf rfl
theorem range10 : List.range 10 = [0, 1, 2, 3, 4, 5, 6, 7, 8, 9] := eqOf rfl
theorem range11 : List.range 11 = [0, 1, 2, 3, 4, 5, 6, 7, 8, 9, 10] := eqOf rfl
theorem range12 : List.range 12 = [0, 1, 2, 3, 4, 5, 6, 7, 8, 9, 10, 11] := eqOf rfl

theorem frz_v {H fz x} : frz H fz (.v x) = .v x := eqOf rfl
theorem frz_any {H fz} : frz H fz .any = .any := eqOf rfl
theorem frz_no {H fz} : frz H fz .no = .no := eqOf rfl
theorem frz_sl {H fz e c xs} : frz H fz (.sl e c xs) = .sl e c xs := eqOf rfl
theorem frz_agg {H fz cs} : frz H fz (.agg cs) = .agg cs := eqOf rfl
theorem frz_tup {H fz cs} : frz H fz (.tup cs) = .tup cs := eqOf rfl
theorem frz_ptr {H fz h o} : frz H fz (.ptr h o) = .ptr h o := eqOf rfl
theorem frz_pp {H fz cs} : frz H fz (.pp cs) = .pp cs := eqOf rfl
theorem frz_fn {H fz f a b} : frz H fz (.fn f a b) = .fn f a b := eqOf rfl
theorem frz_mref {H fz h} : frz H fz (.mref h) = .mref h := eqOf rfl
theorem frz_mp {H fz k es} : frz H fz (.mp k es) = .mp k es := eqOf rfl
theorem frz_view {H fz e h off n c} : frz H fz (.view e h off n c) = if fz.contains h = true then (match live H h with
    | some cs => if off + n * e ≤ cs.length ∧ e ≠ 0 ∧ ((cs.drop off).take (n * e)).all closed = true then .sl e c (chunk n e ((cs.drop off).take (n * e))) else .any
    | none => .any) else .view e h off n c := eqOf rfl
attribute [simp] frz_v frz_any frz_no frz_sl frz_agg frz_tup frz_ptr frz_pp frz_fn frz_mref frz_mp frz_view frzE frzH frzRow

theorem closed_mref {h} : closed (.mref h) = false := eqOf rfl
theorem solid_mref {h} : solid (.mref h) = false := eqOf rfl
theorem topOK_mref {h} : topOK (.mref h) = false := eqOf rfl
theorem plain_mref {h} : plain (.mref h) = false := eqOf rfl
theorem plainR_mref {h} : plainR (.mref h) = false := eqOf rfl
theorem cells_mref {h} : (L.mref h).cells = [.mref h] := eqOf rfl
theorem below_mref {n h} : below n (.mref h) = decide (h < n) := eqOf rfl
theorem ren_mref {f h} : ren f (.mref h) = .mref (f h) := eqOf rfl
theorem closed_mp {k es} : closed (.mp k es) = false := eqOf rfl
theorem solid_mp {k es} : solid (.mp k es) = false := eqOf rfl
theorem topOK_mp {k es} : topOK (.mp k es) = false := eqOf rfl
theorem below_mp {n k es} : below n (.mp k es) = true := eqOf rfl
theorem ren_mp {f k es} : ren f (.mp k es) = .mp k es := eqOf rfl
theorem closed_yl {h} : closed (.yl h) = false := eqOf rfl
theorem solid_yl {h} : solid (.yl h) = false := eqOf rfl
theorem topOK_yl {h} : topOK (.yl h) = false := eqOf rfl
theorem plain_yl {h} : plain (.yl h) = false := eqOf rfl
theorem plainR_yl {h} : plainR (.yl h) = false := eqOf rfl
theorem cells_yl {h} : (L.yl h).cells = [.yl h] := eqOf rfl
theorem below_yl {n h} : below n (.yl h) = decide (h < n) := eqOf rfl
theorem ren_yl {f h} : ren f (.yl h) = .yl (f h) := eqOf rfl
theorem closed_lp {rc st pd ts} : closed (.lp rc st pd ts) = false := eqOf rfl
theorem below_lp {n rc st pd ts} : below n (.lp rc st pd ts) = belowL n ts := by simp [below]
theorem ren_lp {f rc st pd ts} : ren f (.lp rc st pd ts) = .lp rc st pd (renL f ts) := by simp [ren]
theorem frz_yl {H fz h} : frz H fz (.yl h) = .yl h := eqOf rfl
theorem frz_lp {H fz rc st pd ts} : frz H fz (.lp rc st pd ts) = .lp rc st pd ts := eqOf rfl
attribute [simp] closed_yl solid_yl topOK_yl plain_yl plainR_yl cells_yl below_yl ren_yl closed_lp below_lp ren_lp frz_yl frz_lp
attribute [simp] calldT_yl yieldK_eq lwp_range lrange_fn rangeK_eq rangeW_some pendQ_none pendQ_ret pendQ_exit pendQ_goto beginK_eq beginW_some roundK_eq roundW_normal roundW_ret roundW_exit roundW_goto roundE_cons roundE_nil
theorem mrow_mref {k h H} : mrow k H (.mref h) = (match live H h with | some [.mp k' es] => if k' = k then some (h, es) else none | _ => none) := eqOf rfl
theorem anyMrow_mref {h H} : anyMrow H (.mref h) = (match live H h with | some [.mp _ es] => some es | _ => none) := eqOf rfl
theorem keyOf_str {s} : keyOf (.v (.string s)) = some (.s s.data.toList) := eqOf rfl
theorem keyOf_int {k n} : keyOf (.v (.int k n)) = some (.i k n) := eqOf rfl
theorem keyOf_agg {k a b} : keyOf (.agg [.v (.int k a), .v (.int k b)]) = some (.p k a b) := by simp [keyOf]
theorem scalar_bool {b} : scalar (.v (.bool b)) = some (.bool b) := eqOf rfl
theorem scalar_int {k n} : scalar (.v (.int k n)) = some (.int k n) := eqOf rfl
theorem kind_s {bs} : (MK.s bs).kind = .s := eqOf rfl
theorem kind_i {k n} : (MK.i k n).kind = .i k := eqOf rfl
theorem kind_p {k a b} : (MK.p k a b).kind = .p k := eqOf rfl
theorem mgetR_ite {comma z o} : mgetR comma z o = match o with
  | some v => if comma = true then .tup [.v v, .v (.bool true)] else .v v
  | none => if comma = true then .tup [.v z, .v (.bool false)] else .v z := by cases o <;> rfl
/-- What a look-up gives. -/
theorem mgetR_comma {z o} : mgetR true z o = .tup [.v (o.getD z), .v (.bool o.isSome)] := by cases o <;> rfl
theorem mgetR_one {z o} : mgetR false z o = .v (o.getD z) := by cases o <;> rfl
theorem r2sL_int {k n} : r2sL (.v (.int k n)) = if 0 ≤ n ∧ n < 128 then some (.v (.string ⟨#[UInt8.ofNat n.toNat]⟩)) else none := eqOf rfl
theorem binStr_add {a b} : binStr .add a b = if a.size + b.size ≤ 9223372036854775807 then some (.v (.string ⟨(a.data.toList ++ b.data.toList).toArray⟩)) else none := eqOf rfl

attribute [simp] closed_mref solid_mref topOK_mref plain_mref plainR_mref cells_mref below_mref ren_mref closed_mp solid_mp topOK_mp below_mp ren_mp mrow_mref anyMrow_mref keyOf_str keyOf_int keyOf_agg scalar_bool scalar_int kind_s kind_i kind_p mgetR_comma mgetR_one r2sL_int binStr_add msetL mgetL
attribute [simp] lops_mkmap lops_mset lops_mget blkT_mget lops_mlen blkT_mlen lops_r2s blkT_r2s blkT_calld bcalldT_fn blkT_mksl bmkT_int mkShared
attribute [simp] lops_mov blkT_mov lops_pick blkT_pick lops_alloc blkT_alloc lops_box blkT_box lops_build blkT_build lops_bslice blkT_bslice lops_load blkT_load lops_store blkT_store lops_nilchk blkT_nilchk lops_bin blkT_bin lops_un blkT_un lops_conv blkT_conv lops_sames lops_field blkT_field lops_faddr blkT_faddr lops_iaddr blkT_iaddr lops_iaddrA blkT_iaddrA lops_idx blkT_idx lops_slice blkT_slice lops_sliceA blkT_sliceA lops_mksl lops_mkfn blkT_mkfn lops_extract blkT_extract lops_len blkT_len lops_append lops_copy lops_mm blkT_mm lops_b2s lops_s2ap blkT_s2ap lops_eq2 blkT_eq2 lops_sidx
attribute [simp] closed_any solid_any topOK_any plain_any plainR_any cells_any below_any ren_any closed_no solid_no topOK_no plain_no plainR_no cells_no below_no ren_no closed_v solid_v topOK_v plain_v plainR_v cells_v below_v ren_v closed_sl solid_sl topOK_sl plain_sl plainR_sl cells_sl below_sl ren_sl closed_agg solid_agg topOK_agg plain_agg plainR_agg cells_agg closed_tup solid_tup topOK_tup plain_tup plainR_tup cells_tup closed_view solid_view topOK_view plain_view plainR_view cells_view closed_ptr solid_ptr topOK_ptr plain_ptr plainR_ptr cells_ptr closed_pp solid_pp topOK_pp plain_pp plainR_pp cells_pp below_pp ren_pp closed_fn solid_fn topOK_fn plain_fn plainR_fn cells_fn below_agg below_tup below_fn below_view below_ptr ren_agg ren_tup ren_fn ren_view ren_ptr
attribute [simp] List.take_of_length_le
attribute [simp low] stepT_ites guardT_bool bguardT_bool lcond_bool
attribute [simp] lwp_drawF ldrawF_nil ldrawF_cons dfT_true dfT_false hK_eq sK_eq stable heavyP heavyL
attribute [simp] putOK restOK storesTo isP0 updNews bsliceT_true bsliceT_false appN_nil appN_cons blkT_append appNew
attribute [simp] jump_normal jump_exit jump_ret jump_goto blkT_b2s toBytes_nil toBytes_cons toBytes_map toBytes_map1 toBytes_append binStr_eql binStr_neq
theorem range13 : List.range 13 = [0, 1, 2, 3, 4, 5, 6, 7, 8, 9, 10, 11, 12] := eqOf rfl
theorem range14 : List.range 14 = [0, 1, 2, 3, 4, 5, 6, 7, 8, 9, 10, 11, 12, 13] := eqOf rfl
theorem range15 : List.range 15 = [0, 1, 2, 3, 4, 5, 6, 7, 8, 9, 10, 11, 12, 13, 14] := eqOf rfl
theorem range16 : List.range 16 = [0, 1, 2, 3, 4, 5, 6, 7, 8, 9, 10, 11, 12, 13, 14, 15] := eqOf rfl
theorem range17 : List.range 17 = [0, 1, 2, 3, 4, 5, 6, 7, 8, 9, 10, 11, 12, 13, 14, 15, 16] := eqOf rfl
theorem range18 : List.range 18 = [0, 1, 2, 3, 4, 5, 6, 7, 8, 9, 10, 11, 12, 13, 14, 15, 16, 17] := eqOf rfl
theorem range19 : List.range 19 = [0, 1, 2, 3, 4, 5, 6, 7, 8, 9, 10, 11, 12, 13, 14, 15, 16, 17, 18] := eqOf rfl
theorem range20 : List.range 20 = [0, 1, 2, 3, 4, 5, 6, 7, 8, 9, 10, 11, 12, 13, 14, 15, 16, 17, 18, 19] := eqOf rfl
attribute [simp] range13 range14 range15 range16 range17 range18 range19 range20
attribute [simp] range1 range2 range3 range4 range5 range6 range7 range8 range9 range10 range11 range12 rowsOK renL weakBy renL_map renL_append belowL_map belowL_append lwp_draw ldraw_nil ldraw_one ldraw_blk blkT_nil blkT_call blkT_guard bnewT_some breadT_some breadT_none breadT_ite breadT_none_ite bnewT_ite bguardT_no addNews_nil addNews_cons isNew isRead lnew lopO isCallI lwp_skip lwp_ops lwp_seq lwp_block lwp_exit lwp_ret lwp_label lwp_goto lwp_cond then_normal then_exit then_goto then_ret inBlock_normal inBlock_exit inBlock_goto inBlock_ret fnPost_normal fnPost_ret
  lops_nil lops_call lops_calld lops_isnil nilT_nil nilT_sl nilT_view lops_guardT guardT_no guardT_tt guardT_ff guardT_tf guardT_ft lcond_true lcond_false bguardT_tt bguardT_ff bguardT_tf bguardT_ft stepT_some stepT_none stepT_ite stepT_none_ite map_ite calldT_fn arg lk putE params binL binInt binBool unL lenL iaddrL iaddrAL idxL loadL storeL fieldL faddrL resL res1 live setCells
  optK_map optK_ite belowL mapO reso lfill appendL lcells flat sliceL sliceAL bnds mkslL copyL mmL zeros chunk Value.oneCell'

end Lg
