import Derived.Test.YtjoffkghcjfbeaaLibMove
import Derived.Test.YtjoffkghcjfbeaaLibTakes
import Derived.Test.YtjoffkghcjfbeaaLibAtD1
import Derived.Test.YtjoffkghcjfbeaaLibSemF
/- Rows of pairs of numbers, and maps whose keys they are. -/
namespace Lg
open Go
abbrev prL (k : IntKind) (p : Int × Int) : L := .agg [.v (.int k p.1), .v (.int k p.2)]
def prC (k : IntKind) (l : List (Int × Int)) : List L := l.flatMap fun p => [.v (.int k p.1), .v (.int k p.2)]
abbrev prsL (k : IntKind) (l : List (Int × Int)) : L := .sl 2 false (l.map (prL k))
section
variable {k : IntKind} {l m : List (Int × Int)}
@[simp] theorem prC_length : (prC k l).length = l.length * 2 := by
 induction l with
 | nil => rfl
 | cons p l ih => simp only [prC, List.flatMap_cons, List.length_append, List.length_cons] at ih ⊢; rw [ih]; simp; omega
theorem prC_append : prC k (l ++ m) = prC k l ++ prC k m := by simp [prC]
theorem prC_one {p : Int × Int} : prC k [p] = [.v (.int k p.1), .v (.int k p.2)] := by simp [prC]
theorem prC_cons {p : Int × Int} : prC k (p :: l) = .v (.int k p.1) :: .v (.int k p.2) :: prC k l := by simp [prC]
@[simp] theorem prC_closed : (prC k l).all closed = true := by rw [List.all_eq_true]; intro x hx; simp [prC] at hx; obtain ⟨a, b, -, rfl | rfl⟩ := hx <;> rfl
@[simp] theorem prC_solid : (prC k l).all solid = true := by rw [List.all_eq_true]; intro x hx; simp [prC] at hx; obtain ⟨a, b, -, rfl | rfl⟩ := hx <;> rfl
theorem prC_closedM : ∀ x ∈ prC k l, closed x = true := List.all_eq_true.1 prC_closed
@[simp] theorem prC_below {n : Nat} : belowL n (prC k l) = true := by
 induction l with
 | nil => rfl
 | cons p l ih => rw [prC_cons]; simp [belowL, ih]
@[simp] theorem prC_ren {f : Nat → Nat} : renL f (prC k l) = prC k l := by
 induction l with
 | nil => rfl
 | cons p l ih => rw [prC_cons]; simp [renL, ih]
@[simp] theorem prC_frz {H : Heap} {fz : List Nat} : (prC k l).map (frz H fz) = prC k l := by
 induction l with
 | nil => rfl
 | cons p l ih => rw [prC_cons]; simp [ih]
@[simp] theorem prC_chunk : (List.range l.length).map (fun i => L.agg (((prC k l).drop (i * 2)).take 2)) = l.map (prL k) := by
 induction l with
 | nil => rfl
 | cons p l ih =>
  rw [List.length_cons, List.range_succ_eq_map, List.map_cons, List.map_map, prC_cons, List.map_cons]
  congr 1
  rw [← ih]
  refine List.map_congr_left fun i _ => ?_
  simp only [Function.comp]
  rw [show (i + 1) * 2 = i * 2 + 1 + 1 by omega, List.drop_succ_cons, List.drop_succ_cons]
@[simp] theorem chunk_prC {n : Nat} (h : n = l.length) : chunk n 2 (prC k l) = l.map (prL k) := by
 subst h; unfold chunk; rw [if_neg (by decide)]; exact prC_chunk
end
def prE (h : Nat) (l : List (Int × Int)) : L := if l = [] then .v (.slice none 0 0) else .view 2 h 0 l.length false
def prH (k : IntKind) (l : List (Int × Int)) : Heap := if l = [] then [] else [some (prC k l)]
@[simp] theorem prE_nil {h : Nat} : prE h [] = .v (.slice none 0 0) := rfl
@[simp] theorem prH_nil {k : IntKind} : prH k [] = [] := rfl
theorem prE_ne {h : Nat} {l : List (Int × Int)} (e : l ≠ []) : prE h l = .view 2 h 0 l.length false := if_neg e
theorem prH_ne {k : IntKind} {l : List (Int × Int)} (e : l ≠ []) : prH k l = [some (prC k l)] := if_neg e
def onM (k : IntKind) (D : List (Int × Int)) : List (MK × Value) := D.map fun p => (.p k p.1 p.2, .bool true)
theorem onM_length {k : IntKind} {D : List (Int × Int)} : (onM k D).length = D.length := by simp [onM]
theorem look_onM {k : IntKind} {p : Int × Int} : ∀ {D : List (Int × Int)}, mlook (onM k D) (.p k p.1 p.2) = if p ∈ D then some (.bool true) else none
 | [] => by simp [onM, mlook]
 | x :: D => by
  have ih := look_onM (k := k) (p := p) (D := D)
  simp only [onM, List.map_cons, mlook] at ih ⊢
  by_cases hx : x = p
  ·subst hx; simp
  ·have : ¬ (MK.p k x.1 x.2 = MK.p k p.1 p.2) := fun e => hx (by simp only [MK.p.injEq, true_and] at e; exact Prod.ext e.1 e.2)
   rw [if_neg this, ih]
   simp [Ne.symm hx]
theorem put_onM {k : IntKind} {p : Int × Int} : ∀ {D : List (Int × Int)}, mput (onM k D) (.p k p.1 p.2) (.bool true) = onM k (if p ∈ D then D else D ++ [p])
 | [] => by simp [onM, mput]
 | x :: D => by
  have ih := put_onM (k := k) (p := p) (D := D)
  by_cases hx : x = p
  ·subst hx
   simp [onM, mput]
  ·have : ¬ (MK.p k x.1 x.2 = MK.p k p.1 p.2) := fun e => hx (by simp only [MK.p.injEq, true_and] at e; exact Prod.ext e.1 e.2)
   simp only [onM, List.map_cons, mput] at ih ⊢
   rw [if_neg this, ih]
   by_cases h : p ∈ D
   ·simp [h]
   ·simp [h, Ne.symm hx]
def atM (k : IntKind) (D : List (Int × Int)) (n : Nat) : List (MK × Value) := match D with
 | [] => []
 | p :: D => (.p k p.1 p.2, .int .i64 (n : Nat)) :: atM k D (n + 1)
theorem look_atM {k : IntKind} {p : Int × Int} : ∀ {D : List (Int × Int)} {n : Nat}, mlook (atM k D n) (.p k p.1 p.2) = if p ∈ D then some (.int .i64 ((n + D.idxOf p : Nat) : Int)) else none
 | [], _ => by simp [atM, mlook]
 | x :: D, n => by
  have ih := look_atM (k := k) (p := p) (D := D) (n := n + 1)
  simp only [atM, mlook]
  by_cases hx : x = p
  ·subst hx; simp [List.idxOf_cons]
  ·have : ¬ (MK.p k x.1 x.2 = MK.p k p.1 p.2) := fun e => hx (by simp only [MK.p.injEq, true_and] at e; exact Prod.ext e.1 e.2)
   rw [if_neg this, ih]
   by_cases h : p ∈ D
   ·have hb : (x == p) = false := by simpa using hx
    simp [h, List.idxOf_cons, hb]; omega
   ·simp [h, Ne.symm hx]
theorem put_atM {k : IntKind} {p : Int × Int} : ∀ {D : List (Int × Int)} {n : Nat}, p ∉ D → mput (atM k D n) (.p k p.1 p.2) (.int .i64 ((n + D.length : Nat) : Int)) = atM k (D ++ [p]) n
 | [], n, _ => by simp [atM, mput]
 | x :: D, n, h => by
  have hx : ¬ x = p := fun e => h (by simp [e])
  have this : ¬ (MK.p k x.1 x.2 = MK.p k p.1 p.2) := fun e => hx (by simp only [MK.p.injEq, true_and] at e; exact Prod.ext e.1 e.2)
  have ih := put_atM (k := k) (p := p) (D := D) (n := n + 1) (fun e => h (by simp [e]))
  simp only [atM, List.cons_append, mput, if_neg this]
  rw [← ih]
  simp only [List.length_cons]
  congr 3
  omega
theorem nodup_length {α : Type} : ∀ {l m : List α}, l.Nodup → (∀ x ∈ l, x ∈ m) → l.length ≤ m.length
 | [], _, _, _ => by simp
 | x :: l, m, hn, hs => by
  classical
  obtain ⟨a, b, rfl⟩ := List.append_of_mem (hs x (by simp))
  rw [List.nodup_cons] at hn
  have := nodup_length (l := l) (m := a ++ b) hn.2 fun y hy => by
   have h1 := hs y (by simp [hy])
   rw [List.mem_append, List.mem_cons] at h1
   rw [List.mem_append]
   rcases h1 with h | h | h
   ·exact .inl h
   ·exact absurd (h ▸ hy) hn.1
   ·exact .inr h
  simp at this ⊢
  omega
theorem nodup_lt {l : List Nat} {n : Nat} (hn : l.Nodup) (h : ∀ x ∈ l, x < n) : l.length ≤ n := by
 have := nodup_length (m := List.range n) hn (fun x hx => List.mem_range.2 (h x hx))
 simpa using this
end Lg


/- Places of a word with states: where each leads, and from which one comes to some. -/
namespace Lg
open Go
abbrev pInt (p : Nat × Nat) : Int × Int := ((p.1 : Int), (p.2 : Int))
def nxtP (a : Aut) (w : Word) (D : List (Int × Int)) (p : Nat × Nat) : List (Int × Int) := ((a.next.getD p.2 []).map fun s => ((w.nxt p.1 : Int), s)).filter fun x => decide (x ∈ D)
def gridC (a : Aut) (w : Word) (D : List (Int × Int)) : List L := a.cells ++ (w.cells ++ [.cm (.p .i64) (onM .i64 D)])
theorem nextP_gen {P : Program} {f : Nat} (ir : compF P f = some irNextP) {a : Aut} {w : Word} {D : List (Int × Int)} {p : Nat × Nat} (hr : w.right = true) (hw : w.v.length ≤ 1000000) (h1 : p.1 < w.v.length) (h2 : p.2 < a.next.length) (h3 : (a.next.getD p.2 []).length ≤ 1000000) :
  PC P f [.agg (gridC a w D), prL .i64 (pInt p)] (prsL .i64 (nxtP a w D p)) := by
 obtain ⟨i, q⟩ := p
 simp only at h1 h2 h3
 obtain ⟨r, hrow⟩ : ∃ r, a.next[q] = r := ⟨_, rfl⟩
 have hrd : a.next.getD q [] = r := by simp [List.getD, h2, hrow]
 rw [hrd] at h3
 have hnw : IntKind.i64.wrap ((i : Int) + 1) = ((i + 1 : Nat) : Int) := wrap_id (by omega) (by omega)
 have hwl : IntKind.i64.wrap (w.v.length : Int) = w.v.length := wrap_id (by omega) (by omega)
 have hloop : 0 ≤ w.loop := by
  simp only [Word.right, Bool.and_eq_true, decide_eq_true_eq] at hr
  exact hr.1.2
 let out : Nat → List (Int × Int) := fun k => ((r.take k).map fun s => ((w.nxt i : Int), s)).filter fun x => decide (x ∈ D)
 have out_succ : ∀ k (hk : k < r.length), out (k + 1) = out k ++ if ((w.nxt i : Int), r[k]) ∈ D then [((w.nxt i : Int), r[k])] else [] := fun k hk => by
  simp only [out]
  rw [List.take_succ_eq_append_getElem hk, List.map_append, List.filter_append]
  congr 1
  by_cases e : ((w.nxt i : Int), r[k]) ∈ D <;> simp [e]
 have out_len : ∀ k, (out k).length ≤ r.length := fun k => by
  simp only [out]
  refine Nat.le_trans (List.length_filter_le _ _) ?_
  simp; omega
 have out_all : out r.length = nxtP a w D (i, q) := by simp only [out, List.take_length, nxtP, hrd]
 have out0 : out 0 = [] := by simp [out]
 rw [← out_all]
 clear_value out
 refine pc_of_call' (callAt_enter ir (by simp [irNextP]) ?_)
 by_cases hlast : i + 1 = w.v.length
 ·have en : w.loop = (w.nxt i : Int) := by unfold Word.nxt; rw [if_pos hlast]; omega
  have hl' : (i : Int) + 1 = (w.v.length : Int) := by omega
  simp [irNextP, gridC, Aut.cells, Word.cells, hwl, hl', h2, hrow]
  refine lwp_loop (fun k : Nat => [(2, .ptr 0 0), (5, intL (w.nxt i : Nat)), (28, .sl 1 false (r.map intL)), (29, intL r.length), (30, intL k), (6, prE 2 (out k))]) (fun k => [some (gridC a w D), some [intL i, intL q]] ++ prH .i64 (out k)) (fun k => r.length - k) (fun k => k ≤ r.length) 0 (by omega) ⟨[0, 1], ?_⟩ ?_
  ·simp [gridC, Aut.cells, Word.cells, out0, en]
  intro k hk
  by_cases h : k < r.length
  ·have hw' : IntKind.i64.wrap ((k : Int) + 1) = ((k + 1 : Nat) : Int) := wrap_id (by omega) (by omega)
   have ho := out_succ k h
   have hol := out_len k
   have look := look_onM (k := .i64) (p := ((w.nxt i : Int), r[k])) (D := D)
   by_cases hD : ((w.nxt i : Int), r[k]) ∈ D
   ·rw [if_pos hD] at ho look
    by_cases e : out k = []
    ·rw [e, List.nil_append] at ho
     simp [gridC, Aut.cells, Word.cells, h, e, look, hw']
     refine ⟨k + 1, by omega, by simp only; omega, [0, 1, 4], ?_⟩
     dsimp only
     rw [ho, prE_ne (by simp), prH_ne (by simp), prC_one]
     simp []
    ·have hsz : (out k).length * 2 + 2 = (out k).length * 2 + 2 := rfl
     rw [prE_ne e, prH_ne e]
     simp [gridC, Aut.cells, Word.cells, h, look, hw']
     refine ⟨by omega, k + 1, by omega, by simp only; omega, [0, 1, 5], ?_⟩
     dsimp only
     rw [ho, prE_ne (by simp), prH_ne (by simp), prC_append, prC_one]
     simp []
   ·rw [if_neg hD, List.append_nil] at ho
    rw [if_neg hD] at look
    by_cases e : out k = []
    ·simp [gridC, Aut.cells, Word.cells, h, e, look, hw']
     refine ⟨k + 1, by omega, by simp only; omega, [0, 1], ?_⟩
     dsimp only
     rw [ho, e]
     simp []
    ·rw [prE_ne e, prH_ne e]
     simp [gridC, Aut.cells, Word.cells, h, look, hw']
     refine ⟨k + 1, by omega, by simp only; omega, [0, 1, 2], ?_⟩
     dsimp only
     rw [ho, prE_ne e, prH_ne e]
     simp []
  ·obtain rfl : k = r.length := by omega
   by_cases e : out r.length = []
   ·simp [gridC, Aut.cells, Word.cells, e, reso]
    exact .nil _ _
   ·rw [prE_ne e, prH_ne e]
    simp [gridC, Aut.cells, Word.cells, reso]
    exact .refl _
 ·have en : (i : Int) + 1 = (w.nxt i : Int) := by unfold Word.nxt; rw [if_neg hlast]; omega
  have hl' : ¬ (i : Int) + 1 = (w.v.length : Int) := by omega
  simp [irNextP, gridC, Aut.cells, Word.cells, hnw, hl', h2, hrow]
  refine lwp_loop (fun k : Nat => [(2, .ptr 0 0), (5, intL (w.nxt i : Nat)), (28, .sl 1 false (r.map intL)), (29, intL r.length), (30, intL k), (6, prE 2 (out k))]) (fun k => [some (gridC a w D), some [intL i, intL q]] ++ prH .i64 (out k)) (fun k => r.length - k) (fun k => k ≤ r.length) 0 (by omega) ⟨[0, 1], ?_⟩ ?_
  ·simp [gridC, Aut.cells, Word.cells, out0, en]
  intro k hk
  by_cases h : k < r.length
  ·have hw' : IntKind.i64.wrap ((k : Int) + 1) = ((k + 1 : Nat) : Int) := wrap_id (by omega) (by omega)
   have ho := out_succ k h
   have hol := out_len k
   have look := look_onM (k := .i64) (p := ((w.nxt i : Int), r[k])) (D := D)
   by_cases hD : ((w.nxt i : Int), r[k]) ∈ D
   ·rw [if_pos hD] at ho look
    by_cases e : out k = []
    ·rw [e, List.nil_append] at ho
     simp [gridC, Aut.cells, Word.cells, h, e, look, hw']
     refine ⟨k + 1, by omega, by simp only; omega, [0, 1, 4], ?_⟩
     dsimp only
     rw [ho, prE_ne (by simp), prH_ne (by simp), prC_one]
     simp []
    ·have hsz : (out k).length * 2 + 2 = (out k).length * 2 + 2 := rfl
     rw [prE_ne e, prH_ne e]
     simp [gridC, Aut.cells, Word.cells, h, look, hw']
     refine ⟨by omega, k + 1, by omega, by simp only; omega, [0, 1, 5], ?_⟩
     dsimp only
     rw [ho, prE_ne (by simp), prH_ne (by simp), prC_append, prC_one]
     simp []
   ·rw [if_neg hD, List.append_nil] at ho
    rw [if_neg hD] at look
    by_cases e : out k = []
    ·simp [gridC, Aut.cells, Word.cells, h, e, look, hw']
     refine ⟨k + 1, by omega, by simp only; omega, [0, 1], ?_⟩
     dsimp only
     rw [ho, e]
     simp []
    ·rw [prE_ne e, prH_ne e]
     simp [gridC, Aut.cells, Word.cells, h, look, hw']
     refine ⟨k + 1, by omega, by simp only; omega, [0, 1, 2], ?_⟩
     dsimp only
     rw [ho, prE_ne e, prH_ne e]
     simp []
  ·obtain rfl : k = r.length := by omega
   by_cases e : out r.length = []
   ·simp [gridC, Aut.cells, Word.cells, e, reso]
    exact .nil _ _
   ·rw [prE_ne e, prH_ne e]
    simp [gridC, Aut.cells, Word.cells, reso]
    exact .refl _
theorem tk1_gen {P : Program} {f con idx : Nat} (ir : compF P f = some (irTk1 con)) (ic : compF P con = some (irConV idx)) (ii : compF P idx = some irIdxV) {c : Bool} {set : List Int} (hl : set.length ≤ 17592186044416) (p : Int × Int) :
  PC P f [prL .i64 p, .pp [.sl 1 c (set.map intL)]] (boolL (decide (p.2 ∈ set))) := by
 refine pc_of_call (callAt_enter ir (by simp [irTk1]) ?_)
 simp [irTk1]
 refine callT_plain (conV_gen ic ii (c := c) hl p.2) rfl (by simp [reso, mapO]) ?_
 simp
def re1H (tk1 : Nat) (c : Bool) (set : List Int) (out : List (Int × Int)) : Heap := [some [.mref 2], some [.fn (.func tk1) [] [.pp [.sl 1 c (set.map intL)]]], some [.mp (.p .i64) (onM .i64 out)]]
def hitP (set : List Int) (out : List (Int × Int)) (p : Int × Int) : Bool := decide (p ∈ out ∨ p.2 ∈ set)
theorem re1_own {P : Program} {f tk1 con idx : Nat} (ir : compF P f = some irRe1) (it : compF P tk1 = some (irTk1 con)) (ic : compF P con = some (irConV idx)) (ii : compF P idx = some irIdxV) {c : Bool} {set : List Int} (hl : set.length ≤ 17592186044416) (out : List (Int × Int)) (p : Int × Int) :
  callAt P f [prL .i64 p, .ptr 0 0, .ptr 1 0] (re1H tk1 c set out) (fun l R => l = boolL (hitP set out p) ∧ R = re1H tk1 c set out) := by
 refine callAt_exitK (callAt_enter ir (by simp [irRe1]) ?_)
 have look := look_onM (k := .i64) (p := p) (D := out)
 by_cases h : p ∈ out
 ·rw [if_pos h] at look
  simp [irRe1, re1H, look]
  refine exitK_of [0, 1, 2] _ _ ⟨rfl, rfl⟩ ?_ ?_ ?_ ?_ ?_ <;> simp [hitP, h]
 ·rw [if_neg h] at look
  simp [irRe1, re1H, look]
  refine callT_plain (tk1_gen it ic ii (c := c) hl p) rfl (by simp [reso, mapO]) ?_
  simp
  refine exitK_of [0, 1, 2] _ _ ⟨rfl, rfl⟩ ?_ ?_ ?_ ?_ ?_ <;> simp [hitP, h]
def idxP (q : Int × Int → Bool) : List (Int × Int) → Int → Int
 | [], _ => -1
 | t :: l, i => if q t = true then i else idxP q l (i + 1)
theorem idxP_any {q : Int × Int → Bool} : ∀ {l : List (Int × Int)} {i : Int}, 0 ≤ i → (0 ≤ idxP q l i ↔ l.any q = true)
 | [], i, _ => by simp [idxP]
 | t :: l, i, h => by
  rw [idxP]
  by_cases hp : q t = true
  ·simp [hp, h]
  ·rw [if_neg hp, idxP_any (by omega)]
   simp [hp]
theorem idxP_own {P : Program} {f r1 tk1 con idx : Nat} (ir : compF P f = some irIdxP) (i1 : compF P r1 = some irRe1) (it : compF P tk1 = some (irTk1 con)) (ic : compF P con = some (irConV idx)) (ii : compF P idx = some irIdxV) {c : Bool} {set : List Int} (hs : set.length ≤ 17592186044416) (out l : List (Int × Int)) (hl : l.length ≤ 1000000) :
  callAt P f [prsL .i64 l, .fn (.func r1) [] [.ptr 0 0, .ptr 1 0]] (re1H tk1 c set out) (fun x R => x = intL (idxP (hitP set out) l 0) ∧ R = re1H tk1 c set out) := by
 refine callAt_exitK (callAt_enter ir (by simp [irIdxP]) ?_)
 simp [irIdxP]
 refine lwp_loop (fun i : Nat => [(0, prsL .i64 l), (1, .fn (.func r1) [] [.ptr 0 0, .ptr 1 0]), (7, intL l.length), (8, intL i)]) (fun _ => re1H tk1 c set out) (fun i => l.length - i) (fun i => i ≤ l.length ∧ idxP (hitP set out) l 0 = idxP (hitP set out) (l.drop i) i) 0 ⟨by omega, by simp⟩ ⟨[0, 1, 2], ?_⟩ ?_
 ·simp [re1H]
 ·rintro i ⟨hi, he⟩
  by_cases hlt : i < l.length
  ·have hnw : IntKind.i64.wrap ((i : Int) + 1) = ((i + 1 : Nat) : Int) := by rw [wrap_id (by omega) (by omega)]; rfl
   rw [List.drop_eq_getElem_cons hlt, idxP] at he
   simp [hlt]
   refine callT_frame [0, 1, 2] (re1_own i1 it ic ii (c := c) hs out l[i]) (by simp) (by simp [re1H]) (by simp [re1H]) (by simp) (by simp [re1H]) ?_
   rintro _ _ ⟨rfl, rfl⟩
   cases hp : hitP set out l[i]
   ·rw [if_neg (by rw [hp]; decide)] at he
    simp [mergeH, setRows, upN, re1H, hnw]
    refine ⟨i + 1, ⟨by omega, ?_⟩, by show l.length - (i + 1) < l.length - i; omega, [0, 1, 2], ?_⟩
    ·rw [he]; rfl
    ·simp []
   ·rw [if_pos hp] at he
    simp [mergeH, setRows, upN, re1H, he]
    refine exitK_of [0, 1, 2] _ _ ⟨rfl, rfl⟩ ?_ ?_ ?_ ?_ ?_ <;> simp []
  ·have : i = l.length := by omega
   subst this
   rw [List.drop_length, idxP] at he
   simp [he]
   refine exitK_of [0, 1, 2] _ _ ⟨rfl, rfl⟩ ?_ ?_ ?_ ?_ ?_ <;> simp [re1H]
theorem conP_own {P : Program} {f ip r1 tk1 con idx : Nat} (ir : compF P f = some (irConP ip)) (iip : compF P ip = some irIdxP) (i1 : compF P r1 = some irRe1) (it : compF P tk1 = some (irTk1 con)) (ic : compF P con = some (irConV idx)) (ii : compF P idx = some irIdxV) {c : Bool} {set : List Int} (hs : set.length ≤ 17592186044416) (out l : List (Int × Int)) (hl : l.length ≤ 1000000) :
  callAt P f [prsL .i64 l, .fn (.func r1) [] [.ptr 0 0, .ptr 1 0]] (re1H tk1 c set out) (fun x R => x = boolL (l.any (hitP set out)) ∧ R = re1H tk1 c set out) := by
 refine callAt_exitK (callAt_enter ir (by simp [irConP]) ?_)
 simp [irConP]
 refine callT_frame [0, 1, 2] (idxP_own iip i1 it ic ii (c := c) hs out l hl) (by simp) (by simp [re1H]) (by simp [re1H]) (by simp) (by simp [re1H]) ?_
 rintro _ _ ⟨rfl, rfl⟩
 have := idxP_any (q := hitP set out) (l := l) (i := 0) (by omega)
 simp [mergeH, setRows, upN, re1H]
 refine exitK_of [0, 1, 2] _ _ ⟨rfl, rfl⟩ ?_ ?_ ?_ ?_ ?_ <;> simp []
 rw [Bool.eq_iff_iff, decide_eq_true_eq, this]
end Lg


/- The places from which one comes, in a step or more, to some. -/
namespace Lg
open Go
inductive RP (nx : Int × Int → List (Int × Int)) (S : Int × Int → Prop) : Int × Int → Prop
 | one {p x} (h : x ∈ nx p) (hs : S x) : RP nx S p
 | more {p x} (h : x ∈ nx p) (hr : RP nx S x) : RP nx S p
def nxI (a : Aut) (w : Word) (D : List (Int × Int)) (p : Int × Int) : List (Int × Int) := nxtP a w D (p.1.toNat, p.2.toNat)
def isPl (a : Aut) (w : Word) (p : Int × Int) : Prop := ∃ i q : Nat, p = ((i : Int), (q : Int)) ∧ i < w.v.length ∧ q < a.next.length
def inS (set : List Int) (x : Int × Int) : Prop := x.2 ∈ set
theorem nxI_mem {a : Aut} {w : Word} {D : List (Int × Int)} {p x : Int × Int} (h : x ∈ nxI a w D p) : x ∈ D := by
 simp only [nxI, nxtP, List.mem_filter, decide_eq_true_eq] at h
 exact h.2
theorem RP.found {nx : Int × Int → List (Int × Int)} {set : List Int} {D out : List (Int × Int)} (hc : ∀ p ∈ D, p ∈ out ∨ (nx p).any (hitP set out) = false) (hn : ∀ p x, x ∈ nx p → x ∈ D) {p : Int × Int} (h : RP nx (inS set) p) : p ∈ D → p ∈ out := by
 induction h with
 | one h hs =>
  intro hp
  rcases hc _ hp with hc | hc
  ·exact hc
  ·rw [List.any_eq_false] at hc
   exact absurd (decide_eq_true (.inr hs)) (hc _ h)
 | more h hr ih =>
  intro hp
  rcases hc _ hp with hc | hc
  ·exact hc
  ·rw [List.any_eq_false] at hc
   exact absurd (decide_eq_true (.inl (ih (hn _ _ h)))) (hc _ h)
theorem onM_get {k : IntKind} {D : List (Int × Int)} {i : Nat} (h : i < D.length) : (onM k D)[i]? = some (.p k D[i].1 D[i].2, .bool true) := by simp [onM, h]
def reachR (a : Aut) (w : Word) (D : List (Int × Int)) (set : List Int) (r : L) : Prop := ∃ D', r = .cm (.p .i64) (onM .i64 D') ∧ D'.Nodup ∧ ∀ p, p ∈ D' ↔ p ∈ D ∧ RP (nxI a w D) (inS set) p
def ReOk (a : Aut) (w : Word) (D : List (Int × Int)) (set : List Int) (out : List (Int × Int)) : Prop := out.Nodup ∧ (∀ p ∈ out, p ∈ D) ∧ ∀ p ∈ out, RP (nxI a w D) (inS set) p
def ReShut (a : Aut) (w : Word) (D : List (Int × Int)) (set : List Int) (out : List (Int × Int)) : Prop := ∀ p ∈ D, p ∈ out ∨ (nxI a w D p).any (hitP set out) = false
def ReSeen (a : Aut) (w : Word) (D : List (Int × Int)) (set : List Int) (out : List (Int × Int)) (seen : List Nat) : Prop := ∀ i ∈ seen, ∀ h : i < D.length, D[i] ∈ out ∨ (nxI a w D D[i]).any (hitP set out) = false
def NumOk (n : Nat) (seen : List Nat) : Prop := seen.Nodup ∧ ∀ i ∈ seen, i < n
theorem NumOk.add {n : Nat} {seen : List Nat} (h : NumOk n seen) {i : Nat} (hi : i < n) (hn : i ∉ seen) : NumOk n (seen ++ [i]) := by
 refine ⟨?_, fun j hj => ?_⟩
 ·rw [List.nodup_append]
  exact ⟨h.1, by simp, fun a ha b hb e => by simp at hb; subst hb; subst e; exact hn ha⟩
 ·rcases List.mem_append.1 hj with hj | hj
  ·exact h.2 j hj
  ·simp at hj; omega
theorem NumOk.len {n : Nat} {seen : List Nat} (h : NumOk n seen) : seen.length ≤ n := nodup_lt h.1 h.2
theorem ReOk.add {a : Aut} {w : Word} {D : List (Int × Int)} {set : List Int} {out : List (Int × Int)} (h : ReOk a w D set out) {p : Int × Int} (hp : p ∈ D) (hn : p ∉ out) (hh : (nxI a w D p).any (hitP set out) = true) : ReOk a w D set (out ++ [p]) := by
 obtain ⟨h1, h2, h3⟩ := h
 refine ⟨?_, fun q hq => ?_, fun q hq => ?_⟩
 ·rw [List.nodup_append]
  exact ⟨h1, by simp, fun a ha b hb e => by simp at hb; subst hb; subst e; exact hn ha⟩
 ·rcases List.mem_append.1 hq with hq | hq
  ·exact h2 q hq
  ·rw [List.mem_singleton.1 hq]; exact hp
 ·rcases List.mem_append.1 hq with hq | hq
  ·exact h3 q hq
  ·rw [List.mem_singleton.1 hq]
   obtain ⟨x, hx, hx2⟩ := List.any_eq_true.1 hh
   rcases of_decide_eq_true hx2 with hx3 | hx3
   ·exact .more hx (h3 x hx3)
   ·exact .one hx hx3
theorem reach_gen {P : Program} {f nx con2 ip r1 tk1 con idx : Nat} (ir : compF P f = some (irReach nx r1 con2)) (inx : compF P nx = some irNextP) (ic2 : compF P con2 = some (irConP ip)) (iip : compF P ip = some irIdxP) (i1 : compF P r1 = some irRe1)
  (it : compF P tk1 = some (irTk1 con)) (ic : compF P con = some (irConV idx)) (ii : compF P idx = some irIdxV) {c : Bool} {set : List Int} (hs : set.length ≤ 17592186044416) {a : Aut} {w : Word} {D : List (Int × Int)} (hr : w.right = true) (hw : w.v.length ≤ 1000000)
  (hrow : ∀ q, (a.next.getD q []).length ≤ 1000000) (hD : ∀ p ∈ D, isPl a w p) : PCE P f [.agg (gridC a w D), .fn (.func tk1) [] [.pp [.sl 1 c (set.map intL)]]] (reachR a w D set) := by
 have hnl : ∀ p, (nxI a w D p).length ≤ 1000000 := fun p => by
  simp only [nxI, nxtP]
  refine Nat.le_trans (List.length_filter_le _ _) ?_
  rw [List.length_map]; exact hrow _
 refine pce_of_call (callAt_enter ir (by simp [irReach]) ?_)
 simp [irReach, gridC, Aut.cells, Word.cells]
 refine lwp_loop (fun x : List (Int × Int) × Bool => [(2, .ptr 0 0), (3, .ptr 1 0), (5, .ptr 3 0), (6, boolL x.2)])
  (fun x => [some (gridC a w D), some [.fn (.func tk1) [] [.pp [.sl 1 c (set.map intL)]]], some [.mp (.p .i64) (onM .i64 x.1)], some [.mref 2]]) (fun x => 2 * (D.length - x.1.length) + if x.2 = true then 1 else 0)
  (fun x => ReOk a w D set x.1 ∧ (x.2 = false → ReShut a w D set x.1)) ([], true) ⟨⟨.nil, by simp, by simp⟩, by simp⟩ ⟨[0, 1, 2, 3], ?_⟩ ?_
 ·simp [gridC, Aut.cells, Word.cells, onM]
 ·rintro ⟨out, more⟩ ⟨ho1, ho2⟩
  simp only at ho1 ho2
  cases more with
  | false =>
   simp
   exact ⟨_, _, ⟨out, rfl, ho1.1, fun p => ⟨fun h => ⟨ho1.2.1 p h, ho1.2.2 p h⟩, fun h => h.2.found (ho2 rfl) (fun _ _ h => nxI_mem h) h.1⟩⟩, rfl, .refl _⟩
  | true =>
   simp [gridC, Aut.cells, Word.cells]
   refine lwp_loop (fun x : List (Int × Int) × Bool × List Nat => [(2, .ptr 0 0), (3, .ptr 1 0), (5, .ptr 3 0), (6, boolL x.2.1), (12, .itp 4)])
    (fun x => [some (gridC a w D), some [.fn (.func tk1) [] [.pp [.sl 1 c (set.map intL)]]], some [.mp (.p .i64) (onM .i64 x.1)], some [.mref 2], some [.it (.p .i64) (onM .i64 D) x.2.2]]) (fun x => D.length - x.2.2.length)
    (fun x => ReOk a w D set x.1 ∧ NumOk D.length x.2.2 ∧ ((x.2.1 = false ∧ x.1 = out ∧ ReSeen a w D set out x.2.2) ∨ (x.2.1 = true ∧ out.length < x.1.length)))
    (out, false, []) ⟨ho1, ⟨.nil, by simp⟩, .inl ⟨rfl, rfl, fun i hi => by simp at hi⟩⟩ ⟨[0, 1, 2, 3, 4], ?_⟩ ?_
   ·simp [gridC, Aut.cells, Word.cells]
   ·rintro ⟨out', more, seen⟩ ⟨p1, q1, hm⟩
    simp only at p1 q1 hm
    simp [onM_length]
    refine ⟨fun i hi hn => ?_, fun hall => ?_⟩
    ·have hget := onM_get (k := .i64) hi
     have hseen := q1.add hi hn
     have hlen := hseen.len
     rw [List.length_append, List.length_singleton] at hlen
     have look := look_onM (k := .i64) (p := D[i]) (D := out')
     obtain ⟨pi, pq, hpp, hp1, hp2⟩ := hD D[i] (List.getElem_mem hi)
     by_cases hin : D[i] ∈ out'
     ·rw [if_pos hin] at look
      simp [entL, hget, gridC, Aut.cells, Word.cells, look]
      refine ⟨(out', more, seen ++ [i]), ⟨p1, hseen, ?_⟩, by simp only [List.length_append, List.length_singleton]; omega, [0, 1, 2, 3, 4], ?_⟩
      ·rcases hm with ⟨rfl, rfl, hm⟩ | hm
       ·refine .inl ⟨rfl, rfl, fun j hj hjl => ?_⟩
        rcases List.mem_append.1 hj with hj | hj
        ·exact hm j hj hjl
        ·simp at hj; subst hj; exact .inl hin
       ·exact .inr hm
      ·simp []
     ·rw [if_neg hin] at look
      have hput := put_onM (k := .i64) (p := D[i]) (D := out')
      rw [if_neg hin] at hput
      have hnx : nxtP a w D (pi, pq) = nxI a w D D[i] := by simp only [nxI, hpp, Int.toNat_natCast]
      have hcall := nextP_gen inx (a := a) (D := D) (p := (pi, pq)) hr hw hp1 hp2 (hrow _)
      rw [hnx, show pInt (pi, pq) = D[i] from hpp.symm] at hcall
      simp [entL, hget, gridC, Aut.cells, Word.cells, look]
      refine callT_closed hcall (by simp [reso, mapO]) ?_
      simp []
      refine callT_frame [3, 1, 2] (conP_own ic2 iip i1 it ic ii (c := c) hs out' (nxI a w D D[i]) (hnl _)) (by simp) (by simp [re1H]) (by simp [re1H]) (by simp) (by simp [re1H]) ?_
      rintro _ _ ⟨rfl, rfl⟩
      cases hany : (nxI a w D D[i]).any (hitP set out')
      ·simp [mergeH, setRows, upN, re1H]
       refine ⟨(out', more, seen ++ [i]), ⟨p1, hseen, ?_⟩, by simp only [List.length_append, List.length_singleton]; omega, [0, 1, 2, 3, 4], ?_⟩
       ·rcases hm with ⟨rfl, rfl, hm⟩ | hm
        ·refine .inl ⟨rfl, rfl, fun j hj hjl => ?_⟩
         rcases List.mem_append.1 hj with hj | hj
         ·exact hm j hj hjl
         ·simp at hj; subst hj; exact .inr hany
        ·exact .inr hm
       ·simp []
      ·simp [mergeH, setRows, upN, re1H, hput]
       refine ⟨(out' ++ [D[i]], true, seen ++ [i]), ⟨p1.add (List.getElem_mem hi) hin hany, hseen, .inr ⟨rfl, ?_⟩⟩, by simp only [List.length_append, List.length_singleton]; omega, [0, 1, 2, 3, 4], ?_⟩
       ·simp only [List.length_append, List.length_singleton]
        rcases hm with ⟨-, rfl, -⟩ | ⟨-, hm⟩ <;> omega
       ·simp []
    ·have hlen := nodup_length p1.1 p1.2.1
     refine ⟨(out', more), ⟨p1, fun hf => ?_⟩, ?_, [0, 1, 2, 3], ?_⟩
     ·rcases hm with ⟨-, rfl, hm⟩ | ⟨hm, -⟩
      ·intro p hp
       obtain ⟨i, hi, rfl⟩ := List.getElem_of_mem hp
       exact hm i (hall i hi) hi
      ·simp only at hf; rw [hf] at hm; simp at hm
     ·rcases hm with ⟨rfl, rfl, -⟩ | ⟨rfl, hm⟩
      ·simp
      ·simp; omega
     ·simp [gridC, Aut.cells, Word.cells]
end Lg


/- The places of a word with states, taken out till none is: the same words are taken. -/
namespace Lg
open Go
def setsOf (a : Aut) : List (List Int) := if a.acc = [] then [(List.range a.lits.length).map fun (x : Nat) => (x : Int)] else a.acc
def plOf (a : Aut) (j : Nat) : Int × Int := ((j / a.lits.length : Nat), (j % a.lits.length : Nat))
def nN (a : Aut) (w : Word) : Nat := w.v.length * a.lits.length
def ZD (a : Aut) (w : Word) (D : List (Int × Int)) (j : Nat) : Prop := j < nN a w ∧ plOf a j ∈ D
def FitD (a : Aut) (w : Word) (D : List (Int × Int)) : Prop := D.Nodup ∧ ∀ p, p ∈ D ↔ ∃ j, j < nN a w ∧ p = plOf a j ∧ nodeOn a w j = true
structure AutOk (a : Aut) (w : Word) : Prop where
 right : a.right = true
 wright : w.right = true
section
variable {a : Aut} {w : Word} {D : List (Int × Int)}
theorem AutOk.next (h : AutOk a w) : a.next.length = a.lits.length := by
 have := h.right
 simp only [Aut.right, Bool.and_eq_true, decide_eq_true_eq] at this
 exact this.1.1.2
theorem AutOk.row (h : AutOk a w) {q : Nat} : ∀ s ∈ a.next.getD q [], 0 ≤ s ∧ s < (a.lits.length : Int) := by
 have hr := h.right
 have hn := h.next
 intro s hs
 by_cases hq : q < a.lits.length
 ·simp only [Aut.right, Bool.and_eq_true, decide_eq_true_eq] at hr
  have := List.all_eq_true.1 hr.1.2 q (by simp; omega)
  simp only [rowOk, Bool.and_eq_true] at this
  have := List.all_eq_true.1 this.1 s hs
  simpa using this
 ·simp [List.getD, List.getElem?_eq_none (show a.next.length ≤ q by omega)] at hs
theorem AutOk.set (h : AutOk a w) {r : List Int} (hr : r ∈ a.acc) : ∀ s ∈ r, 0 ≤ s ∧ s < (a.lits.length : Int) := by
 have hr' := h.right
 simp only [Aut.right, Bool.and_eq_true] at hr'
 have := List.all_eq_true.1 hr'.2 r hr
 intro s hs
 have := List.all_eq_true.1 this s hs
 simpa using this
theorem AutOk.init (h : AutOk a w) : ∀ s ∈ a.init, 0 ≤ s ∧ s < (a.lits.length : Int) := by
 have hr' := h.right
 simp only [Aut.right, Bool.and_eq_true] at hr'
 intro s hs
 have := List.all_eq_true.1 hr'.1.1.1 s hs
 simpa using this
theorem plOf_inj (hn : 0 < a.lits.length) {i j : Nat} (h : plOf a i = plOf a j) : i = j := by
 simp only [plOf, Prod.mk.injEq] at h
 have h1 := Nat.div_add_mod i a.lits.length
 have h2 := Nat.div_add_mod j a.lits.length
 have e1 : i / a.lits.length = j / a.lits.length := by omega
 have e2 : i % a.lits.length = j % a.lits.length := by omega
 rw [← h1, ← h2, e1, e2]
theorem node_div {n i q : Nat} (hq : q < n) : (i * n + q) / n = i ∧ (i * n + q) % n = q := by
 have hn : 0 < n := by omega
 rw [Nat.mul_comm]
 exact ⟨by rw [Nat.mul_add_div hn, Nat.div_eq_of_lt hq]; omega, by rw [Nat.mul_add_mod, Nat.mod_eq_of_lt hq]⟩
theorem nN_div {j : Nat} (hj : j < nN a w) : j / a.lits.length < w.v.length ∧ j % a.lits.length < a.lits.length ∧ 0 < a.lits.length := by
 have hn : 0 < a.lits.length := by
  rcases Nat.eq_zero_or_pos a.lits.length with h | h
  ·rw [nN, h] at hj; simp at hj
  ·exact h
 exact ⟨by rw [Nat.div_lt_iff_lt_mul hn]; exact hj, Nat.mod_lt _ hn, hn⟩
theorem nN_lt {i q : Nat} (hi : i < w.v.length) (hq : q < a.lits.length) : i * a.lits.length + q < nN a w := by
 unfold nN
 have : (i + 1) * a.lits.length ≤ w.v.length * a.lits.length := Nat.mul_le_mul_right _ hi
 rw [Nat.add_mul] at this
 omega
theorem nxf_mem (h : AutOk a w) {j x : Nat} (hj : j < nN a w) : x ∈ nxf (takesG a w) j ↔ ∃ s : Nat, (s : Int) ∈ a.next.getD (j % a.lits.length) [] ∧ x = w.nxt (j / a.lits.length) * a.lits.length + s := by
 have e : nxf (takesG a w) j = (nodeRow a w j).map Int.toNat := by
  simp only [nxf, takesG, nodeRows, List.getD, List.getElem?_map]
  rw [List.getElem?_range (show j < w.v.length * a.lits.length from hj)]
  rfl
 rw [e, List.mem_map]
 simp only [nodeRow, edgeRow, List.mem_map]
 constructor
 ·rintro ⟨_, ⟨s, hs, rfl⟩, rfl⟩
  have := h.row s hs
  refine ⟨s.toNat, by rw [Int.toNat_of_nonneg this.1]; exact hs, ?_⟩
  omega
 ·rintro ⟨s, hs, rfl⟩
  exact ⟨_, ⟨(s : Int), hs, rfl⟩, by omega⟩
theorem nxI_iff (h : AutOk a w) {j : Nat} (hj : j < nN a w) {y : Int × Int} : y ∈ nxI a w D (plOf a j) ↔ ∃ x ∈ nxf (takesG a w) j, y = plOf a x ∧ ZD a w D x := by
 have key : ∀ s : Nat, s < a.lits.length → plOf a (w.nxt (j / a.lits.length) * a.lits.length + s) = ((w.nxt (j / a.lits.length) : Int), (s : Int)) := fun s hs => by
  unfold plOf
  rw [(node_div hs).1, (node_div hs).2]
 simp only [nxI, nxtP, plOf, Int.toNat_natCast, List.mem_filter, List.mem_map, decide_eq_true_eq]
 constructor
 ·rintro ⟨⟨s, hs, rfl⟩, hD⟩
  have hr := h.row s hs
  have hs' : ((s.toNat : Nat) : Int) = s := Int.toNat_of_nonneg hr.1
  refine ⟨_, (nxf_mem h hj).2 ⟨s.toNat, by rw [hs']; exact hs, rfl⟩, ?_, nN_lt (Word.nxt_lt h.wright (nN_div hj).1) (by omega), ?_⟩
  ·have := key s.toNat (by omega); unfold plOf at this; rw [this, hs']
  ·rw [key s.toNat (by omega), hs']; exact hD
 ·rintro ⟨x, hx, he, hz⟩
  obtain ⟨s, hs, rfl⟩ := (nxf_mem h hj).1 hx
  have hr := h.row _ hs
  have hk := key s (by omega)
  have he' : y = plOf a (w.nxt (j / a.lits.length) * a.lits.length + s) := he
  rw [he', hk]
  exact ⟨⟨s, hs, rfl⟩, by rw [← hk]; exact hz.2⟩
theorem sk_iff (h : AutOk a w) {k x : Nat} (hk : k < (setsOf a).length) (hx : x < nN a w) : Sk (takesG a w) k x ↔ inS ((setsOf a).getD k []) (plOf a x) := by
 have hn := (nN_div hx).2
 unfold setsOf at hk ⊢
 by_cases hacc : a.acc = []
 ·rw [if_pos hacc] at hk ⊢
  simp at hk
  subst hk
  simp only [Sk, takesG, if_pos hacc, inS, plOf]
  constructor
  ·intro _
   simp only [List.getD_cons_zero, List.mem_map, List.mem_range]
   exact ⟨_, hn.1, rfl⟩
  ·intro _
   simp only [List.getD_cons_zero, on]
   rw [List.getD, List.getElem?_replicate, if_pos (show x < w.v.length * a.lits.length from hx)]
   rfl
 ·rw [if_neg hacc] at hk ⊢
  simp only [Sk, takesG, if_neg hacc, inS, plOf]
  have e : (accRows a (w.v.length * a.lits.length) a.acc.length).getD k [] = setRow a (w.v.length * a.lits.length) k := by
   simp [accRows, List.getD, List.getElem?_map, List.getElem?_range hk]
  rw [e]
  have e2 : (setRow a (w.v.length * a.lits.length) k)[x]? = some (decide (((x % a.lits.length : Nat) : Int) ∈ a.acc.getD k [])) := by
   unfold setRow
   rw [List.getElem?_map, List.getElem?_range (show x < w.v.length * a.lits.length from hx)]
   rfl
  show (setRow a (w.v.length * a.lits.length) k).getD x false = true ↔ _
  rw [show (setRow a (w.v.length * a.lits.length) k).getD x false = decide (((x % a.lits.length : Nat) : Int) ∈ a.acc.getD k []) by rw [List.getD, e2]; rfl, decide_eq_true_eq]
theorem sets_length : (takesG a w).sets.length = (setsOf a).length := by
 unfold takesG setsOf
 by_cases hacc : a.acc = []
 ·simp [hacc]
 ·simp [hacc]
theorem rp_rch (h : AutOk a w) {k : Nat} (hk : k < (setsOf a).length) {p : Int × Int} (hr : RP (nxI a w D) (inS ((setsOf a).getD k [])) p) : ∀ j, j < nN a w → p = plOf a j → Rch (nxf (takesG a w)) (ZD a w D) (Sk (takesG a w) k) j := by
 induction hr with
 | one hx hs =>
  rintro j hj rfl
  obtain ⟨x, h1, rfl, h2⟩ := (nxI_iff h hj).1 hx
  exact .one h1 h2 ((sk_iff h hk h2.1).2 hs)
 | more hx hr ih =>
  rintro j hj rfl
  obtain ⟨x, h1, rfl, h2⟩ := (nxI_iff h hj).1 hx
  exact .more h1 h2 (ih x h2.1 rfl)
theorem rch_rp (h : AutOk a w) {k : Nat} (hk : k < (setsOf a).length) {j : Nat} (hr : Rch (nxf (takesG a w)) (ZD a w D) (Sk (takesG a w) k) j) : j < nN a w → RP (nxI a w D) (inS ((setsOf a).getD k [])) (plOf a j) := by
 induction hr with
 | one h1 h2 hs =>
  intro hj
  exact .one ((nxI_iff h hj).2 ⟨_, h1, rfl, h2⟩) ((sk_iff h hk h2.1).1 hs)
 | more h1 h2 hr ih =>
  intro hj
  exact .more ((nxI_iff h hj).2 ⟨_, h1, rfl, h2⟩) (ih h2.1)
structure Kept (a : Aut) (w : Word) (D : List (Int × Int)) : Prop where
 nodup : D.Nodup
 fits : ∀ p ∈ D, ∃ j, j < nN a w ∧ p = plOf a j ∧ nodeOn a w j = true
 fair : ∀ j, FairN (takesG a w) (nodeOns a w (nN a w)) j → ZD a w D j
theorem onsOn {j : Nat} : on (nodeOns a w (nN a w)) j ↔ j < nN a w ∧ nodeOn a w j = true := by
 by_cases hj : j < nN a w
 ·simp only [on, nodeOns, List.getD, List.getElem?_map]
  rw [List.getElem?_range hj]
  simp [hj]
 ·simp only [on, nodeOns, List.getD]
  rw [List.getElem?_eq_none (by simp; omega)]
  simp [hj]
theorem FitD.kept (h : FitD a w D) : Kept a w D := by
 refine ⟨h.1, fun p hp => (h.2 p).1 hp, fun j ⟨Z, hZ, hj⟩ => ?_⟩
 obtain ⟨h1, h2⟩ := onsOn.1 (hZ j hj).1
 exact ⟨h1, (h.2 _).2 ⟨j, h1, rfl, h2⟩⟩
theorem Kept.isPl (h : Kept a w D) (ho : AutOk a w) : ∀ p ∈ D, isPl a w p := fun p hp => by
 obtain ⟨j, hj, rfl, -⟩ := h.fits p hp
 have := nN_div hj
 exact ⟨_, _, rfl, this.1, by rw [ho.next]; exact this.2.1⟩
theorem Kept.step (h : Kept a w D) (ho : AutOk a w) {k : Nat} (hk : k < (setsOf a).length) {D' : List (Int × Int)} (hn : D'.Nodup) (hD : ∀ p, p ∈ D' ↔ p ∈ D ∧ RP (nxI a w D) (inS ((setsOf a).getD k [])) p) : Kept a w D' := by
 refine ⟨hn, fun p hp => h.fits p ((hD p).1 hp).1, fun j hj => ?_⟩
 have hz := h.fair j hj
 refine ⟨hz.1, (hD _).2 ⟨hz.2, ?_⟩⟩
 obtain ⟨Z, hZ, hZj⟩ := hj
 refine rch_rp ho hk (((hZ j hZj).2 k (by rw [sets_length]; exact hk)).mono fun x hx => h.fair x ⟨Z, hZ, hx⟩) hz.1
theorem same_members {α : Type} {l m : List α} (hl : l.Nodup) (hs : ∀ x ∈ l, x ∈ m) (he : m.length ≤ l.length) : ∀ x ∈ m, x ∈ l := by
 classical
 intro x hx
 by_cases hn : x ∈ l
 ·exact hn
 ·have := nodup_length (l := x :: l) (m := m) (by rw [List.nodup_cons]; exact ⟨hn, hl⟩) (fun y hy => by
   rcases List.mem_cons.1 hy with rfl | hy
   ·exact hx
   ·exact hs y hy)
  simp at this
  omega
theorem nxI_same {D' : List (Int × Int)} (h : ∀ p, p ∈ D ↔ p ∈ D') : nxI a w D = nxI a w D' := by
 funext p
 simp only [nxI, nxtP]
 refine List.filter_congr fun x _ => ?_
 simp only [h x]
def Met (a : Aut) (w : Word) (D : List (Int × Int)) (m : Nat) : Prop := ∀ k, k < m → ∀ p ∈ D, RP (nxI a w D) (inS ((setsOf a).getD k [])) p
theorem Met.step {m : Nat} (h : Met a w D m) {D' : List (Int × Int)} (hn : D.Nodup) (hn' : D'.Nodup) (hD : ∀ p, p ∈ D' ↔ p ∈ D ∧ RP (nxI a w D) (inS ((setsOf a).getD m [])) p) (hl : D'.length = D.length) : Met a w D' (m + 1) := by
 have hs := same_members hn' (fun x hx => ((hD x).1 hx).1) (by omega)
 have hm : ∀ p, p ∈ D ↔ p ∈ D' := fun p => ⟨hs p, fun hp => ((hD p).1 hp).1⟩
 intro k hk p hp
 rw [← nxI_same hm]
 rcases Nat.lt_or_ge k m with h' | h'
 ·exact h k h' p ((hm p).2 hp)
 ·obtain rfl : k = m := by omega
  exact ((hD p).1 hp).2
theorem Kept.done (h : Kept a w D) (ho : AutOk a w) (hm : Met a w D (setsOf a).length) {j : Nat} : ZD a w D j ↔ FairN (takesG a w) (nodeOns a w (nN a w)) j := by
 refine ⟨fun hj => ⟨ZD a w D, fun i hi => ?_, hj⟩, h.fair j⟩
 refine ⟨?_, fun k hk => ?_⟩
 ·obtain ⟨x, hx, he, hf⟩ := h.fits _ hi.2
  have := plOf_inj (nN_div hi.1).2.2 he
  subst this
  exact onsOn.2 ⟨hi.1, hf⟩
 ·rw [sets_length] at hk
  exact rp_rch ho hk (hm k hk _ hi.2) i hi.1 rfl
theorem Kept.takes (h : Kept a w D) (ho : AutOk a w) (hm : Met a w D (setsOf a).length) : (a.init.any fun q => decide (((0 : Int), q) ∈ D)) = a.takes w := by
 have h1 : 0 < w.v.length := by
  have := ho.wright
  simp only [Word.right, Bool.and_eq_true, decide_eq_true_eq] at this
  omega
 rw [Bool.eq_iff_iff, takes_iff, List.any_eq_true]
 unfold Takes
 refine exists_congr fun q => and_congr_right fun hq => ?_
 have hqr := ho.init q hq
 have hd := h.done ho hm (j := q.toNat)
 change decide _ = true ↔ FairN (takesG a w) (nodeOns a w (nN a w)) q.toNat
 rw [← hd, decide_eq_true_eq]
 have hlt : q.toNat < a.lits.length := by omega
 have e : plOf a q.toNat = ((0 : Int), q) := by
  unfold plOf
  rw [Nat.div_eq_of_lt hlt, Nat.mod_eq_of_lt hlt, Int.toNat_of_nonneg hqr.1]; rfl
 have hN := nN_lt (a := a) (w := w) (i := 0) (q := q.toNat) h1 hlt
 simp only [Nat.zero_mul, Nat.zero_add] at hN
 unfold ZD
 rw [e]
 exact ⟨fun h => ⟨hN, h⟩, fun h => h.2⟩
end
end Lg


/- Which words an automaton takes: the program's. -/
namespace Lg
open Go
def OnAt (a : Aut) (w : Word) (m : Nat) (D : List (Int × Int)) : Prop := D.Nodup ∧ ∀ p, p ∈ D ↔ ∃ j, j < m ∧ p = plOf a j ∧ nodeOn a w j = true
theorem OnAt.zero {a : Aut} {w : Word} : OnAt a w 0 [] := ⟨.nil, fun p => by simp⟩
theorem OnAt.no {a : Aut} {w : Word} {m : Nat} {D : List (Int × Int)} (h : OnAt a w m D) (hf : nodeOn a w m = false) : OnAt a w (m + 1) D := by
 refine ⟨h.1, fun p => (h.2 p).trans ⟨fun ⟨j, h1, h2⟩ => ⟨j, by omega, h2⟩, fun ⟨j, h1, h2, h3⟩ => ⟨j, ?_, h2, h3⟩⟩⟩
 rcases Nat.lt_or_ge j m with h' | h'
 ·exact h'
 ·obtain rfl : j = m := by omega
  rw [hf] at h3; simp at h3
theorem OnAt.new {a : Aut} {w : Word} (hn : 0 < a.lits.length) {m : Nat} {D : List (Int × Int)} (h : OnAt a w m D) : plOf a m ∉ D := fun hm => by
 obtain ⟨j, h1, h2, -⟩ := (h.2 _).1 hm
 have := plOf_inj hn h2
 omega
theorem OnAt.yes {a : Aut} {w : Word} (hn : 0 < a.lits.length) {m : Nat} {D : List (Int × Int)} (h : OnAt a w m D) (hf : nodeOn a w m = true) : OnAt a w (m + 1) (D ++ [plOf a m]) := by
 refine ⟨?_, fun p => ?_⟩
 ·rw [List.nodup_append]
  exact ⟨h.1, by simp, fun x hx y hy e => by simp at hy; subst hy; subst e; exact h.new hn hx⟩
 ·rw [List.mem_append, h.2 p, List.mem_singleton]
  constructor
  ·rintro (⟨j, h1, h2⟩ | rfl)
   ·exact ⟨j, by omega, h2⟩
   ·exact ⟨m, by omega, rfl, hf⟩
  ·rintro ⟨j, h1, h2, h3⟩
   rcases Nat.lt_or_ge j m with h' | h'
   ·exact .inl ⟨j, h', h2, h3⟩
   ·obtain rfl : j = m := by omega
    exact .inr h2
theorem tk2_gen {P : Program} {f : Nat} (ir : compF P f = some irTk2) {a : Aut} {w : Word} {D : List (Int × Int)} (q : Int) : PC P f [intL q, .pp (gridC a w D)] (boolL (decide (((0 : Int), q) ∈ D))) := by
 refine pc_of_call (callAt_enter ir (by simp [irTk2]) ?_)
 have look := look_onM (k := .i64) (p := ((0 : Int), q)) (D := D)
 simp [irTk2, gridC, Aut.cells, Word.cells, look]
 by_cases h : ((0 : Int), q) ∈ D <;> simp [h]
def irTk6 (reach t1 : Nat) : IR := (.seq (.seq (.ops [⟨some 65,.mov (.t 12),none⟩,⟨some 66,.faddr 6 (.t 5),none⟩,⟨some 67,.load 1 false (.t 66),none⟩,⟨some 68,.mlen (.t 67),none⟩,⟨some 69,.bin .neq false (.t 65) (.t 68),none⟩]) (.cond (.t 69) .skip (.exit 6))) (.block 7 (.seq (.ops [⟨some 70,.faddr 6 (.t 5),none⟩,⟨some 71,.load 1 false (.t 70),none⟩,⟨some 72,.mlen (.t 71),none⟩,⟨some 12,.mov (.t 72),none⟩]) (.seq (.ops [⟨some 73,.mov (.t 9),none⟩,⟨some 74,.len false (.t 73),none⟩,⟨some 75,.mov (.c (.v (.int .i64 0))),none⟩]) (.block 8 (.loop (.seq (.ops [⟨some 76,.bin .lss false (.t 75) (.t 74),none⟩]) (.seq (.cond (.t 76) .skip (.exit 8)) (.seq (.block 9 (.seq (.ops [⟨some 77,.iaddr 1 (.t 73) (.t 75),none⟩,⟨some 78,.load 1 false (.t 77),none⟩,⟨some 14,.alloc (.v (.slice none 0 0)),none⟩,⟨none,.store 1 (.t 14) (.t 78),none⟩]) (.ops [⟨some 79,.load 7 true (.t 5),none⟩,⟨some 80,.mkfn (.func t1) [] [(.t 14)],none⟩,⟨some 81,.call reach [(.t 79),(.t 80)],none⟩,⟨some 82,.faddr 6 (.t 5),none⟩,⟨none,.store 1 (.t 82) (.t 81),none⟩]))) (.ops [⟨some 83,.bin .add false (.t 75) (.c (.v (.int .i64 1))),none⟩,⟨some 75,.mov (.t 83),none⟩]))))))))))
abbrev setsL (c c' : Bool) (ss : List (List Int)) : L := .sl 1 c (ss.map fun s => .sl 1 c' (s.map intL))
theorem takes_turn {P : Program} {reach t1 nx conp ip r1 con idx : Nat} (irr : compF P reach = some (irReach nx r1 conp)) (inx : compF P nx = some irNextP) (icp : compF P conp = some (irConP ip)) (iip : compF P ip = some irIdxP) (i1 : compF P r1 = some irRe1)
  (it1 : compF P t1 = some (irTk1 con)) (ic : compF P con = some (irConV idx)) (ii : compF P idx = some irIdxV) {a : Aut} {w : Word} (ho : AutOk a w) (hn : a.lits.length ≤ 1000000) (hl : w.v.length ≤ 500) (hrow : ∀ q, (a.next.getD q []).length ≤ 1000000)
  (hset : ∀ s ∈ setsOf a, s.length ≤ 17592186044416) (hsl : (setsOf a).length ≤ 5864062014805) {c c' : Bool} {Q : X → Env → Heap → Prop}
  (hQ : ∀ E D, Kept a w D → Met a w D (setsOf a).length → lk E 2 = .ptr 0 0 → lk E 5 = .ptr 2 0 → Q (.exit 6) E [some a.cells, some w.cells, some (gridC a w D)]) :
  ∀ x : List (Int × Int) × Int, (Kept a w x.1 ∧ (x.2 = x.1.length → Met a w x.1 (setsOf a).length)) →
   lwp P 0 (irTk6 reach t1) (X.then (nextF 0 (fun x : List (Int × Int) × Int => [(2, .ptr 0 0), (5, .ptr 2 0), (9, setsL c c' (setsOf a)), (12, intL x.2)]) (fun x => [some a.cells, some w.cells, some (gridC a w x.1)]) (fun x => 2 * x.1.length + if x.2 = x.1.length then 0 else 1)
    (fun x => Kept a w x.1 ∧ (x.2 = x.1.length → Met a w x.1 (setsOf a).length)) x) Q) [(2, .ptr 0 0), (5, .ptr 2 0), (9, setsL c c' (setsOf a)), (12, intL x.2)] [some a.cells, some w.cells, some (gridC a w x.1)] := by
 rintro ⟨D, n⟩ ⟨hk, hm⟩
 simp only at hk hm
 have hlen := onM_length (k := .i64) (D := D)
 by_cases he : n = (D.length : Int)
 ·simp [irTk6, gridC, Aut.cells, Word.cells, hlen, he]
  have := hQ [(69, .v (.bool false)), (68, intL D.length), (67, .cm (.p .i64) (onM .i64 D)), (66, .ptr 2 6), (65, intL D.length), (2, .ptr 0 0), (5, .ptr 2 0), (9, setsL c c' (setsOf a)), (12, intL D.length)] D hk (hm he) (by simp) (by simp)
  simpa [gridC, Aut.cells, Word.cells] using this
 ·simp [irTk6, gridC, Aut.cells, Word.cells, hlen, he]
  refine lwp_loop (fun x : Nat × List (Int × Int) => [(2, .ptr 0 0), (5, .ptr 2 0), (9, setsL c c' (setsOf a)), (12, intL D.length), (73, setsL c c' (setsOf a)), (74, intL (setsOf a).length), (75, intL x.1)]) (fun x => [some a.cells, some w.cells, some (gridC a w x.2)]) (fun x => (setsOf a).length - x.1)
   (fun x => x.1 ≤ (setsOf a).length ∧ Kept a w x.2 ∧ x.2.length ≤ D.length ∧ (x.2.length = D.length → Met a w x.2 x.1)) (0, D) ⟨by simp, hk, Nat.le_refl _, fun _ k hk => by simp at hk⟩ ⟨[0, 1, 2], ?_⟩ ?_
  ·simp [gridC, Aut.cells, Word.cells]
  rintro ⟨k, D'⟩ ⟨p1, p2, p3, p4⟩
  simp only at p1 p2 p3 p4
  by_cases h : k < (setsOf a).length
  ·have hw : IntKind.i64.wrap ((k : Int) + 1) = ((k + 1 : Nat) : Int) := wrap_id (by omega) (by omega)
   have hg : (setsOf a).getD k [] = (setsOf a)[k] := by simp [List.getD, h]
   have hcall := reach_gen irr inx icp iip i1 it1 ic ii (c := c') (set := (setsOf a)[k]) (hset _ (List.getElem_mem h)) (a := a) (w := w) (D := D') ho.wright (by omega) hrow (p2.isPl ho)
   simp [gridC, Aut.cells, Word.cells, h]
   refine callT_letE [3] hcall ?_ ?_ ?_
   ·simp [gridC, Aut.cells, Word.cells]
   ·simp [gridC, Aut.cells, Word.cells, reso, mapO]
   rintro _ ⟨D2, rfl, hd1, hd2⟩
   rw [← hg] at hd2
   have hle : D2.length ≤ D'.length := nodup_length hd1 fun x hx => ((hd2 x).1 hx).1
   simp [hw]
   refine ⟨(k + 1, D2), ⟨by omega, p2.step ho h hd1 hd2, Nat.le_trans hle p3, fun hl => ?_⟩, by simp only; omega, [0, 1, 2], by simp [gridC, Aut.cells, Word.cells]⟩
   have hl2 : D2.length = D.length := hl
   exact (p4 (by omega)).step p2.nodup hd1 hd2 (by omega)
  ·obtain rfl : k = (setsOf a).length := by omega
   simp [gridC, Aut.cells, Word.cells]
   refine ⟨(D', (D.length : Int)), ⟨p2, fun hl => p4 (by simp only at hl; omega)⟩, ?_, [], [0, 1, 2], ?_⟩
   ·simp only
    rw [if_neg he]
    split <;> omega
   ·simp [gridC, Aut.cells, Word.cells]
theorem takesP_gen {P : Program} {f fit reach t1 t2 con2 idx2 nx conp ip r1 con idx : Nat} (ir : compF P f = some (irTakesP fit reach t1 t2 con2)) (irr : compF P reach = some (irReach nx r1 conp)) (inx : compF P nx = some irNextP) (icp : compF P conp = some (irConP ip)) (iip : compF P ip = some irIdxP) (i1 : compF P r1 = some irRe1)
  (it1 : compF P t1 = some (irTk1 con)) (ic : compF P con = some (irConV idx)) (ii : compF P idx = some irIdxV) (it2 : compF P t2 = some irTk2) (ic2 : compF P con2 = some (irConI idx2)) (ii2 : compF P idx2 = some irIdxI)
  {a : Aut} {w : Word} (ha : a.Ok) (hw : w.Ok) (ho : AutOk a w) (hn : a.lits.length ≤ 1000000) (hl : w.v.length ≤ 500) (hrow : ∀ q, (a.next.getD q []).length ≤ 1000000)
  (hfit : ∀ q, q < a.lits.length → ∀ i (h : i < w.v.length), PC P fit [a.L, intL q, intsL w.v[i]] (boolL (a.fits q w.v[i]))) : PC P f [a.L, w.L] (boolL (a.takes w)) := by
 obtain ⟨n, hne⟩ : ∃ n, n = a.lits.length := ⟨_, rfl⟩
 refine pc_of_call (callAt_enter ir (by simp [irTakesP]) ?_)
 simp [irTakesP, Aut.L, Word.L, Aut.cells, Word.cells]
 refine lwp_loop (fun x : Nat × List (Int × Int) => [(2, .ptr 0 0), (3, .ptr 1 0), (5, .ptr 3 0), (20, .sl 1 false (w.v.map intsL)), (21, intL w.v.length), (22, intL x.1)])
  (fun x => [some a.cells, some w.cells, some [.mp (.p .i64) (onM .i64 x.2)], some (a.cells ++ w.cells ++ [.mref 2])]) (fun x => w.v.length - x.1)
  (fun x => x.1 ≤ w.v.length ∧ OnAt a w (x.1 * a.lits.length) x.2) (0, []) ⟨by simp, by rw [Nat.zero_mul]; exact .zero⟩ ⟨[0, 1, 2, 3], ?_⟩ ?_
 ·simp [Aut.cells, Word.cells, onM]
 rintro ⟨i, D⟩ ⟨hi, hD⟩
 simp only at hi hD
 by_cases h : i < w.v.length
 ·have hwi : IntKind.i64.wrap ((i : Int) + 1) = ((i + 1 : Nat) : Int) := wrap_id (by omega) (by omega)
  simp [h, Aut.cells, Word.cells]
  refine lwp_loop (fun x : Nat × List (Int × Int) => [(2, .ptr 0 0), (3, .ptr 1 0), (5, .ptr 3 0), (6, intL i), (7, intsL w.v[i]), (20, .sl 1 false (w.v.map intsL)), (21, intL w.v.length), (22, intL i), (29, intL a.lits.length), (30, intL x.1)])
   (fun x => [some a.cells, some w.cells, some [.mp (.p .i64) (onM .i64 x.2)], some (a.cells ++ w.cells ++ [.mref 2])]) (fun x => a.lits.length - x.1)
   (fun x => x.1 ≤ a.lits.length ∧ OnAt a w (i * a.lits.length + x.1) x.2) (0, D) ⟨by simp, hD⟩ ⟨[0, 1, 2, 3], ?_⟩ ?_
  ·simp [Aut.cells, Word.cells]
  rintro ⟨q, D⟩ ⟨hq, hD⟩
  simp only at hq hD
  by_cases h2 : q < a.lits.length
  ·have hwq : IntKind.i64.wrap ((q : Int) + 1) = ((q + 1 : Nat) : Int) := wrap_id (by omega) (by omega)
   obtain ⟨e1, e2⟩ := node_div (i := i) h2
   have hon : nodeOn a w (i * a.lits.length + q) = a.fits q w.v[i] := by
    unfold nodeOn
    rw [e1, e2]
    simp [List.getD, h]
   have hpl : plOf a (i * a.lits.length + q) = ((i : Int), (q : Int)) := by unfold plOf; rw [e1, e2]
   simp [h2, Aut.cells, Word.cells]
   refine callT_plain (hfit q h2 i h) rfl (by simp [Aut.L, Aut.cells, reso, mapO]) ?_
   cases hf : a.fits q w.v[i]
   ·rw [hf] at hon
    simp [hwq]
    refine ⟨(q + 1, D), ⟨by omega, hD.no hon⟩, by simp only; omega, [0, 1, 2, 3], by simp [Aut.cells, Word.cells]⟩
   ·rw [hf] at hon
    have hnew := hD.new (a := a) (by omega)
    have hput := put_onM (k := .i64) (p := plOf a (i * a.lits.length + q)) (D := D)
    rw [if_neg hnew] at hput
    rw [hpl] at hput
    simp [hwq, hput]
    refine ⟨(q + 1, D ++ [((i : Int), (q : Int))]), ⟨by omega, ?_⟩, by simp only; omega, [0, 1, 2, 3], by simp [Aut.cells, Word.cells]⟩
    rw [← hpl]
    exact hD.yes (by omega) hon
  ·obtain rfl : q = a.lits.length := by omega
   simp [hwi]
   refine ⟨(i + 1, D), ⟨by omega, ?_⟩, by simp only; omega, [0, 1, 2, 3], by simp [Aut.cells, Word.cells]⟩
   rw [Nat.add_mul, Nat.one_mul]; exact hD
 ·obtain rfl : i = w.v.length := by omega
  have hkept : Kept a w D := FitD.kept hD
  have hexit : ∀ {Q : X → Env → Heap → Prop}, (∀ E H, Q (.exit 6) E H = lwp P 0 (.seq (.ops [⟨some 84, .faddr 2 (.t 2), none⟩, ⟨some 85, .load 1 false (.t 84), none⟩, ⟨some 86, .mkfn (.func t2) [] [(.t 5)], none⟩, ⟨some 87, .call con2 [(.t 85), (.t 86)], none⟩, ⟨some 4, .mov (.t 87), none⟩]) .ret)
    (fnPost [RV.t 4] fun l H' => reso H' 4 l = some (boolL (a.takes w))) E H) →
    ∀ E D, Kept a w D → Met a w D (setsOf a).length → lk E 2 = .ptr 0 0 → lk E 5 = .ptr 2 0 → Q (.exit 6) E [some a.cells, some w.cells, some (gridC a w D)] := by
   intro Q hQ E D hk hm h2 h5
   rw [hQ]
   simp [h2, h5, Aut.cells]
   refine callT_plain (conI_gen ic2 ii2 (c := false) (cc := gridC a w D) ha.init (p := fun q => decide (((0 : Int), q) ∈ D)) fun q _ => tk2_gen it2 q) rfl (by simp [gridC, Aut.cells, Word.cells, reso, mapO]) ?_
   rw [hk.takes ho hm]
   simp [reso]
  simp [Aut.cells, Word.cells]
  refine ⟨fun hacc => ?_, fun hacc => ?_⟩
  ·have hso : setsOf a = [(List.range a.lits.length).map fun (x : Nat) => (x : Int)] := if_pos hacc
   refine ⟨by omega, ?_⟩
   refine lwp_loop (fun k : Nat => [(2, .ptr 0 0), (3, .ptr 1 0), (5, .ptr 3 0), (10, .view 1 4 0 a.lits.length true), (54, intL a.lits.length), (55, intL k)])
    (fun k => [some a.cells, some w.cells, some [.mp (.p .i64) (onM .i64 D)], some (a.cells ++ w.cells ++ [.mref 2]), some ((List.range k).map (fun (x : Nat) => intL x) ++ List.replicate (a.lits.length - k) (intL 0))]) (fun k => a.lits.length - k) (fun k => k ≤ a.lits.length) 0 (by simp) ⟨[0, 1, 2, 3, 4], ?_⟩ ?_
   ·simp [Aut.cells, Word.cells]
    exact belowL_repl (by simp)
   ·intro k hk
    by_cases h : k < a.lits.length
    ·have hw : IntKind.i64.wrap ((k : Int) + 1) = ((k + 1 : Nat) : Int) := wrap_id (by omega) (by omega)
     have hset : (List.replicate (a.lits.length - k) (intL 0)).set 0 (intL k) = intL k :: List.replicate (a.lits.length - (k + 1)) (intL 0) := by
      rw [show a.lits.length - k = a.lits.length - (k + 1) + 1 by omega, List.replicate_succ, List.set_cons_zero]
     have hb : ∀ n, belowL 5 (List.replicate n (intL 0)) = true := fun n => belowL_repl (by simp)
     simp [h]
     refine ⟨by omega, k + 1, by omega, by simp only; omega, [0, 1, 2, 3, 4], ?_⟩
     dsimp only
     rw [hset]
     simp [Aut.cells, Word.cells, hw, hb, List.range_succ]
    ·obtain rfl : k = a.lits.length := by omega
     simp
     refine lwp_loopG (fun x : List (Int × Int) × Int => [(2, .ptr 0 0), (5, .ptr 2 0), (9, setsL true true (setsOf a)), (12, intL x.2)]) (fun x => [some a.cells, some w.cells, some (gridC a w x.1)]) (fun x => 2 * x.1.length + if x.2 = x.1.length then 0 else 1)
      (fun x => Kept a w x.1 ∧ (x.2 = x.1.length → Met a w x.1 (setsOf a).length)) (D, -1) ⟨hkept, fun h => by simp only at h; omega⟩ [2, 4] [5] ⟨[0, 1, 3], ?_⟩ ?_
     ·simp [gridC, Aut.cells, Word.cells, hso]
     ·refine takes_turn irr inx icp iip i1 it1 ic ii ho hn hl hrow (fun s hs => ?_) (by rw [hso]; simp) (hexit fun E H => ?_)
      ·rw [hso] at hs
       rw [List.mem_singleton.1 hs]
       simp; omega
      ·simp
  ·have hso : setsOf a = a.acc := if_neg hacc
   refine lwp_loopF (fun x : List (Int × Int) × Int => [(2, .ptr 0 0), (5, .ptr 2 0), (9, setsL false false (setsOf a)), (12, intL x.2)]) (fun x => [some a.cells, some w.cells, some (gridC a w x.1)]) (fun x => 2 * x.1.length + if x.2 = x.1.length then 0 else 1)
    (fun x => Kept a w x.1 ∧ (x.2 = x.1.length → Met a w x.1 (setsOf a).length)) (D, -1) ⟨hkept, fun h => by simp only at h; omega⟩ [2] ⟨[0, 1, 3], ?_⟩ ?_
   ·simp [gridC, Aut.cells, Word.cells, hso]
   ·refine takes_turn irr inx icp iip i1 it1 ic ii ho hn hl hrow (fun s hs => ha.set s (hso ▸ hs)) (by rw [hso]; exact ha.acc) (hexit fun E H => ?_)
    simp
end Lg

