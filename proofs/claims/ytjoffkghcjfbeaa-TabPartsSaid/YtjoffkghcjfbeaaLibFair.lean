/- Nodes of a graph from which an endless way goes that meets each set again and again. -/
import Derived.Test.YtjoffkghcjfbeaaLibMix
import Derived.Test.YtjoffkghcjfbeaaLgNX
namespace Lg
open Go
def irFairb7 : IR := (.seq (.ops [⟨some 13,.mov (.c (.v (.int .i64 0))),none⟩]) (.block 8 (.loop (.seq (.seq (.ops [⟨some 36,.mov (.t 13),none⟩,⟨some 37,.mov (.t 0),none⟩,⟨some 38,.mov (.t 12),none⟩,⟨some 39,.iaddr 1 (.t 37) (.t 38),none⟩,⟨some 40,.load 1 false (.t 39),none⟩,⟨some 41,.len false (.t 40),none⟩,⟨some 42,.bin .lss false (.t 36) (.t 41),none⟩,⟨some 43,.mov (.t 42),none⟩,⟨some 44,.mov (.t 7),some (43,true)⟩,⟨some 45,.mov (.t 12),some (43,true)⟩,⟨some 46,.iaddr 1 (.t 44) (.t 45),some (43,true)⟩,⟨some 47,.load 1 false (.t 46),some (43,true)⟩,⟨some 48,.pick (.t 43) (.t 47) (.c (.v (.bool false))),none⟩,⟨some 49,.mov (.t 48),none⟩,⟨some 50,.mov (.t 10),some (49,true)⟩,⟨some 51,.mov (.t 12),some (49,true)⟩,⟨some 52,.iaddr 1 (.t 50) (.t 51),some (49,true)⟩,⟨some 53,.load 1 false (.t 52),some (49,true)⟩,⟨some 54,.un .not (.t 53),some (49,true)⟩,⟨some 55,.pick (.t 49) (.t 54) (.c (.v (.bool false))),none⟩]) (.cond (.t 55) .skip (.exit 8))) (.seq (.block 9 (.seq (.ops [⟨some 58,.mov (.t 0),none⟩,⟨some 59,.mov (.t 12),none⟩,⟨some 60,.iaddr 1 (.t 58) (.t 59),none⟩,⟨some 61,.load 1 false (.t 60),none⟩,⟨some 62,.mov (.t 13),none⟩,⟨some 63,.iaddr 1 (.t 61) (.t 62),none⟩,⟨some 64,.load 1 false (.t 63),none⟩,⟨some 14,.mov (.t 64),none⟩]) (.seq (.ops [⟨some 65,.mov (.t 7),none⟩,⟨some 66,.mov (.t 14),none⟩,⟨some 67,.iaddr 1 (.t 65) (.t 66),none⟩,⟨some 68,.load 1 false (.t 67),none⟩,⟨some 69,.mov (.t 68),none⟩,⟨some 70,.mov (.t 2),some (69,true)⟩,⟨some 71,.mov (.t 9),some (69,true)⟩,⟨some 72,.iaddr 1 (.t 70) (.t 71),some (69,true)⟩,⟨some 73,.load 1 false (.t 72),some (69,true)⟩,⟨some 74,.mov (.t 14),some (69,true)⟩,⟨some 75,.iaddr 1 (.t 73) (.t 74),some (69,true)⟩,⟨some 76,.load 1 false (.t 75),some (69,true)⟩,⟨some 77,.mov (.t 76),some (69,true)⟩,⟨some 78,.mov (.t 10),some (77,false)⟩,⟨some 79,.mov (.t 14),some (77,false)⟩,⟨some 80,.iaddr 1 (.t 78) (.t 79),some (77,false)⟩,⟨some 81,.load 1 false (.t 80),some (77,false)⟩,⟨some 82,.pick (.t 77) (.c (.v (.bool true))) (.t 81),some (69,true)⟩,⟨some 83,.pick (.t 69) (.t 82) (.c (.v (.bool false))),none⟩]) (.cond (.t 83) (.seq (.ops [⟨some 84,.mov (.t 10),none⟩,⟨some 85,.mov (.t 12),none⟩,⟨some 86,.iaddr 1 (.t 84) (.t 85),none⟩,⟨none,.store 1 (.t 86) (.c (.v (.bool true))),none⟩]) (.ops [⟨some 11,.mov (.c (.v (.bool true))),none⟩])) .skip)))) (.ops [⟨some 56,.mov (.t 13),none⟩,⟨some 57,.bin .add false (.t 56) (.c (.v (.int .i64 1))),none⟩,⟨some 13,.mov (.t 57),none⟩]))))))
def irFairb5 : IR := (.seq (.ops [⟨some 11,.mov (.c (.v (.bool false))),none⟩]) (.seq (.ops [⟨some 12,.mov (.c (.v (.int .i64 0))),none⟩]) (.block 6 (.loop (.seq (.seq (.ops [⟨some 30,.mov (.t 12),none⟩,⟨some 31,.mov (.t 0),none⟩,⟨some 32,.len false (.t 31),none⟩,⟨some 33,.bin .lss false (.t 30) (.t 32),none⟩]) (.cond (.t 33) .skip (.exit 6))) (.seq (.block 7 irFairb7) (.ops [⟨some 34,.mov (.t 12),none⟩,⟨some 35,.bin .add false (.t 34) (.c (.v (.int .i64 1))),none⟩,⟨some 12,.mov (.t 35),none⟩])))))))
def irFairb3 : IR := (.seq (.ops [⟨some 26,.mov (.t 0),none⟩,⟨some 27,.len false (.t 26),none⟩,⟨some 28,.mksl 1 1 [(.v (.bool false))] (.t 27) (.t 27),none⟩,⟨some 10,.mov (.t 28),none⟩]) (.seq (.seq (.ops [⟨some 11,.mov (.c (.v (.bool true))),none⟩]) (.block 4 (.loop (.seq (.seq (.ops [⟨some 29,.mov (.t 11),none⟩]) (.cond (.t 29) .skip (.exit 4))) (.block 5 irFairb5))))) (.seq (.ops [⟨some 15,.mov (.c (.v (.int .i64 0))),none⟩]) (.block 10 (.loop (.seq (.seq (.ops [⟨some 87,.mov (.t 15),none⟩,⟨some 88,.mov (.t 7),none⟩,⟨some 89,.len false (.t 88),none⟩,⟨some 90,.bin .lss false (.t 87) (.t 89),none⟩]) (.cond (.t 90) .skip (.exit 10))) (.seq (.block 11 (.seq (.ops [⟨some 93,.mov (.t 7),none⟩,⟨some 94,.mov (.t 15),none⟩,⟨some 95,.iaddr 1 (.t 93) (.t 94),none⟩,⟨some 96,.load 1 false (.t 95),none⟩,⟨some 97,.mov (.t 96),none⟩,⟨some 98,.mov (.t 10),some (97,true)⟩,⟨some 99,.mov (.t 15),some (97,true)⟩,⟨some 100,.iaddr 1 (.t 98) (.t 99),some (97,true)⟩,⟨some 101,.load 1 false (.t 100),some (97,true)⟩,⟨some 102,.un .not (.t 101),some (97,true)⟩,⟨some 103,.pick (.t 97) (.t 102) (.c (.v (.bool false))),none⟩]) (.cond (.t 103) (.seq (.ops [⟨some 104,.mov (.t 7),none⟩,⟨some 105,.mov (.t 15),none⟩,⟨some 106,.iaddr 1 (.t 104) (.t 105),none⟩,⟨none,.store 1 (.t 106) (.c (.v (.bool false))),none⟩]) (.ops [⟨some 8,.mov (.c (.v (.bool true))),none⟩])) .skip))) (.ops [⟨some 91,.mov (.t 15),none⟩,⟨some 92,.bin .add false (.t 91) (.c (.v (.int .i64 1))),none⟩,⟨some 15,.mov (.t 92),none⟩]))))))))
def irFairb1 : IR := (.seq (.ops [⟨some 8,.mov (.c (.v (.bool false))),none⟩]) (.seq (.ops [⟨some 9,.mov (.c (.v (.int .i64 0))),none⟩]) (.block 2 (.loop (.seq (.seq (.ops [⟨some 20,.mov (.t 9),none⟩,⟨some 21,.mov (.t 2),none⟩,⟨some 22,.len false (.t 21),none⟩,⟨some 23,.bin .lss false (.t 20) (.t 22),none⟩]) (.cond (.t 23) .skip (.exit 2))) (.seq (.block 3 irFairb3) (.ops [⟨some 24,.mov (.t 9),none⟩,⟨some 25,.bin .add false (.t 24) (.c (.v (.int .i64 1))),none⟩,⟨some 9,.mov (.t 25),none⟩])))))))
def irFair : FnIR := ⟨108,[.t 6],(.seq (.ops [⟨some 6,.mov (.c (.v (.slice none 0 0))),none⟩]) (.seq (.ops [⟨some 16,.bslice 1 [(.v (.bool false))] 0 [],none⟩,⟨some 17,.mov (.t 1),none⟩,⟨some 18,.append 1 1 [(.v (.bool false))] (.t 16) (.t 17),none⟩,⟨some 7,.mov (.t 18),none⟩]) (.seq (.seq (.ops [⟨some 8,.mov (.c (.v (.bool true))),none⟩]) (.block 0 (.loop (.seq (.seq (.ops [⟨some 19,.mov (.t 8),none⟩]) (.cond (.t 19) .skip (.exit 0))) (.block 1 irFairb1))))) (.seq (.ops [⟨some 107,.mov (.t 7),none⟩,⟨some 6,.mov (.t 107),none⟩]) .ret))))⟩
@[simp] theorem renL_set {f : Nat → Nat} : ∀ {l : List L} {i : Nat} {x : L}, renL f (l.set i x) = (renL f l).set i (ren f x)
 | [], _, _ => rfl
 | y :: l, 0, x => by simp [renL]
 | y :: l, i + 1, x => by simp [renL, renL_set (l := l)]
@[simp] theorem renL_repl {f : Nat → Nat} {x : L} : ∀ {n : Nat}, renL f (List.replicate n x) = List.replicate n (ren f x)
 | 0 => rfl
 | n + 1 => by simp [List.replicate_succ, renL, renL_repl (n := n)]
theorem belowL_repl {m : Nat} {x : L} (h : below m x = true) : ∀ {n : Nat}, belowL m (List.replicate n x) = true
 | 0 => rfl
 | n + 1 => by simp [List.replicate_succ, belowL, h, belowL_repl h (n := n)]
theorem belowL_set {n : Nat} : ∀ {l : List L} {i : Nat} {x : L}, belowL n l = true → below n x = true → belowL n (l.set i x) = true
 | [], _, _, h, _ => h
 | y :: l, 0, x, h, hx => by simp [belowL] at h ⊢; exact ⟨hx, h.2⟩
 | y :: l, i + 1, x, h, hx => by simp [belowL] at h ⊢; exact ⟨h.1, belowL_set h.2 hx⟩
inductive Rch (nx : Nat → List Nat) (Z S : Nat → Prop) : Nat → Prop
 | one {i j : Nat} (h : j ∈ nx i) (hz : Z j) (hs : S j) : Rch nx Z S i
 | more {i j : Nat} (h : j ∈ nx i) (hz : Z j) (hr : Rch nx Z S j) : Rch nx Z S i
theorem Rch.mono {nx : Nat → List Nat} {Z Z' S : Nat → Prop} (hZ : ∀ i, Z i → Z' i) {i : Nat} (h : Rch nx Z S i) : Rch nx Z' S i := by
 induction h with
 | one h hz hs => exact .one h (hZ _ hz) hs
 | more h hz _ ih => exact .more h (hZ _ hz) ih
abbrev on (z : List Bool) (i : Nat) : Prop := z.getD i false = true
theorem on_lt {z : List Bool} {i : Nat} (h : on z i) : i < z.length := by
 by_cases hi : i < z.length
 ·exact hi
 ·simp [on, List.getD, List.getElem?_eq_none (Nat.le_of_not_lt hi)] at h
theorem on_iff {z : List Bool} {i : Nat} (h : i < z.length) : on z i ↔ z[i] = true := by simp [on, List.getD, h]
def hitB (row : List Nat) (z s to : List Bool) : Bool := row.any fun x => z.getD x false && (s.getD x false || to.getD x false)
def rowN (r : List Nat) : L := .sl 1 false (r.map fun (x : Nat) => intL x)
def boolsL (b : List Bool) : L := .sl 1 false (b.map boolL)
attribute [local simp] rowN boolsL
structure FG where
 c1 : Bool
 c3 : Bool
 nx : List (List Nat)
 sets : List (List Bool)
structure FG.Ok (g : FG) (n : Nat) : Prop where
 len : g.nx.length = n
 small : n ≤ 1000000000
 rows : ∀ r ∈ g.nx, r.length ≤ 1000000000 ∧ ∀ x ∈ r, x < n
 sets : ∀ s ∈ g.sets, s.length = n
 many : g.sets.length ≤ 1000000000
def FG.nxL (g : FG) : L := .sl 1 g.c1 (g.nx.map rowN)
def FG.setsL (g : FG) : L := .sl 1 g.c3 (g.sets.map boolsL)
def hitC (g : FG) (k : Nat) (z to : List Bool) (i : Nat) : Bool := z.getD i false && !(to.getD i false) && hitB (g.nx.getD i []) z (g.sets.getD k []) to
theorem fair_j {P : Program} {g : FG} {n : Nat} (hg : g.Ok n) {z to : List Bool} (hz : z.length = n) (hto : to.length = n) {k i : Nat} (hk : k < g.sets.length) (hi : i < n) {more turn : Bool} {Q : X → Env → Heap → Prop} {E : Env}
  (h0 : lk E 0 = g.nxL) (h2 : lk E 2 = g.setsL) (h7 : lk E 7 = .view 1 0 0 n false) (h8 : lk E 8 = boolL turn) (h9 : lk E 9 = intL k) (h10 : lk E 10 = .view 1 1 0 n true) (h11 : lk E 11 = boolL more) (h12 : lk E 12 = intL i)
  (hQ : ∀ E', lk E' 0 = g.nxL → lk E' 2 = g.setsL → lk E' 7 = .view 1 0 0 n false → lk E' 8 = boolL turn → lk E' 9 = intL k → lk E' 10 = .view 1 1 0 n true → lk E' 12 = intL i →
   lk E' 11 = boolL (more || hitC g k z to i) →
   Q .normal E' [some (z.map boolL), some ((if hitC g k z to i = true then to.set i true else to).map boolL)]) :
  lwp P 0 irFairb7 Q E [some (z.map boolL), some (to.map boolL)] := by
 obtain ⟨hlen, hsmall, hrows, hsets, hmany⟩ := hg
 have hi' : i < g.nx.length := by omega
 have hrow := hrows _ (List.getElem_mem hi')
 have hset := hsets _ (List.getElem_mem hk)
 have er : g.nx.getD i [] = g.nx[i] := by simp [List.getD, hi']
 have es : g.sets.getD k [] = g.sets[k] := by simp [List.getD, hk]
 have ez : z.getD i false = z[i] := by simp [List.getD, show i < z.length by omega]
 have eto : to.getD i false = to[i] := by simp [List.getD, show i < to.length by omega]
 have ec : hitC g k z to i = (z[i] && !(to[i]) && hitB g.nx[i] z g.sets[k] to) := by unfold hitC; rw [er, es, ez, eto]
 rw [ec] at hQ
 obtain ⟨r, hr⟩ : ∃ r, g.nx[i] = r := ⟨_, rfl⟩
 obtain ⟨st, hs⟩ : ∃ st, g.sets[k] = st := ⟨_, rfl⟩
 rw [hr] at hQ hrow
 rw [hs] at hQ hset
 obtain ⟨hrl, hrx⟩ := hrow
 have fin : ∀ hit : Bool, hit = (z[i] && !(to[i]) && hitB r z st to) → ∀ E', lk E' 0 = g.nxL → lk E' 2 = g.setsL → lk E' 7 = .view 1 0 0 n false → lk E' 8 = boolL turn → lk E' 9 = intL k → lk E' 10 = .view 1 1 0 n true → lk E' 12 = intL i →
   lk E' 11 = boolL (more || hit) → Q .normal E' [some (z.map boolL), some (if hit = true then (to.map boolL).set i (boolL true) else to.map boolL)] := by
  intro hit e E' a0 a2 a7 a8 a9 a10 a12 a11
  subst e
  have := hQ E' a0 a2 a7 a8 a9 a10 a12 a11
  split at this <;> rename_i h <;> simp only [h, if_true] <;> simpa using this
 clear hQ
 simp only [irFairb7]
 simp
 refine lwp_loop (fun x : Nat × Bool => [(0, g.nxL), (2, g.setsL), (7, .view 1 0 0 n false), (8, boolL turn), (9, intL k), (10, .view 1 1 0 n true), (11, boolL (more || x.2)), (12, intL i), (13, intL x.1)])
  (fun x => [some (z.map boolL), some (if x.2 = true then (to.map boolL).set i (boolL true) else to.map boolL)]) (fun x => r.length - x.1)
  (fun x => x.1 ≤ r.length ∧ (x.2 = true → z[i] = true ∧ to[i] = false ∧ hitB r z st to = true) ∧ (x.2 = false → z[i] = true → to[i] = false → hitB (r.take x.1) z st to = false)) (0, false) (by simp [hitB]) ⟨[0, 1], ?_⟩ ?_
 ·simp [h0, h2, h7, h8, h9, h10, h11, h12, FG.nxL, FG.setsL]
 ·rintro ⟨j, hit⟩ ⟨hj, hyes, hno⟩
  simp only at hj hyes hno
  have hiz : i < z.length := by omega
  have hito : i < to.length := by omega
  cases hit with
  | true =>
   obtain ⟨y1, y2, y3⟩ := hyes rfl
   have fin' := fun E' a0 a2 a7 a8 a9 a10 a12 a11 => fin true (by simp [y1, y2, y3]) E' a0 a2 a7 a8 a9 a10 a12 a11
   simp at fin'
   simp [FG.nxL, FG.setsL, hi, hi', hr, hiz, hito, y1]
   refine ⟨fun hlt => fin' _ ?_ ?_ ?_ ?_ ?_ ?_ ?_ ?_, fun hge => fin' _ ?_ ?_ ?_ ?_ ?_ ?_ ?_ ?_⟩ <;> simp [FG.nxL, FG.setsL]
  | false =>
   have hno' := hno rfl
   have stop : (r.length ≤ j ∨ z[i] = false ∨ to[i] = true) → false = (z[i] && !(to[i]) && hitB r z st to) := by
    intro h
    cases e1 : z[i]
    ·rfl
    ·cases e2 : to[i]
     ·rcases h with h | h | h
      ·have := hno' e1 e2
       rw [List.take_of_length_le h] at this
       simp [this]
      ·simp [e1] at h
      ·simp [e2] at h
     ·rfl
   by_cases hlt : j < r.length
   ·have hlt' : ¬ r.length ≤ j := by omega
    cases e1 : z[i]
    ·have fin' := fun E' a0 a2 a7 a8 a9 a10 a12 a11 => fin false (stop (.inr (.inl e1))) E' a0 a2 a7 a8 a9 a10 a12 a11
     simp at fin'
     simp [FG.nxL, FG.setsL, hi, hi', hr, hiz, hlt, e1]
     refine fin' _ ?_ ?_ ?_ ?_ ?_ ?_ ?_ ?_ <;> simp [FG.nxL, FG.setsL]
    ·cases e2 : to[i]
     ·have hxr := hrx _ (List.getElem_mem hlt)
      have hxz : r[j] < z.length := by omega
      have hxs : r[j] < st.length := by omega
      have hxt : r[j] < to.length := by omega
      have hnext : hitB (r.take (j + 1)) z st to = (z[r[j]] && (st[r[j]] || to[r[j]])) := by
       rw [List.take_succ_eq_append_getElem hlt]
       have := hno' e1 e2
       unfold hitB at this ⊢
       rw [List.any_append, this]
       simp [List.getD, hxz, hxs, hxt]
      have hw : IntKind.i64.wrap ((j : Int) + 1) = ((j + 1 : Nat) : Int) := wrap_id (by omega) (by omega)
      have hhit : (z[r[j]] && (st[r[j]] || to[r[j]])) = true → hitB r z st to = true := fun h => by
       unfold hitB
       rw [List.any_eq_true]
       exact ⟨r[j], List.getElem_mem hlt, by simpa [List.getD, hxz, hxs, hxt] using h⟩
      have hi2 : i + 1 ≤ to.length := by omega
      cases a1 : z[r[j]]
      ·rw [a1] at hnext
       simp [FG.nxL, FG.setsL, hi, hi', hr, hiz, hito, hlt, e1, e2, hxz, a1, hxr]
       refine ⟨(j + 1, false), ⟨by omega, by simp, fun _ => by simpa using hnext⟩, by simp <;> omega, [0, 1], ?_⟩
       simp [hw]
      ·cases a2 : st[r[j]]
       ·cases a3 : to[r[j]]
        ·rw [a1, a2, a3] at hnext
         simp [FG.nxL, FG.setsL, hi, hi', hr, hs, hk, hiz, hito, hlt, e1, e2, hxz, hxs, hxt, a1, a2, a3, hxr]
         refine ⟨(j + 1, false), ⟨by omega, by simp, fun _ => by simpa using hnext⟩, by simp <;> omega, [0, 1], ?_⟩
         simp [hw]
        ·simp [FG.nxL, FG.setsL, hi, hi', hr, hs, hk, hiz, hito, hlt, e1, e2, hxz, hxs, hxt, a1, a2, a3, hxr, hi2]
         refine ⟨(j + 1, true), ⟨by omega, fun _ => hhit (by simp [a1, a2, a3]), by simp⟩, by simp <;> omega, [0, 1], ?_⟩
         simp [hw]
         exact belowL_set (by rw [belowL_map]; simp) (by simp)
       ·simp [FG.nxL, FG.setsL, hi, hi', hr, hs, hk, hiz, hito, hlt, e1, e2, hxz, hxs, a1, a2, hxr, hi2]
        refine ⟨(j + 1, true), ⟨by omega, fun _ => hhit (by simp [a1, a2]), by simp⟩, by simp <;> omega, [0, 1], ?_⟩
        simp [hw]
        exact belowL_set (by rw [belowL_map]; simp) (by simp)
     ·have fin' := fun E' a0 a2 a7 a8 a9 a10 a12 a11 => fin false (stop (.inr (.inr e2))) E' a0 a2 a7 a8 a9 a10 a12 a11
      simp at fin'
      simp [FG.nxL, FG.setsL, hi, hi', hr, hiz, hito, hlt, e1, e2]
      refine fin' _ ?_ ?_ ?_ ?_ ?_ ?_ ?_ ?_ <;> simp [FG.nxL, FG.setsL]
   ·have hge : r.length ≤ j := by omega
    have fin' := fun E' a0 a2 a7 a8 a9 a10 a12 a11 => fin false (stop (.inl hge)) E' a0 a2 a7 a8 a9 a10 a12 a11
    simp at fin'
    simp [FG.nxL, FG.setsL, hi', hr, hlt]
    refine fin' _ ?_ ?_ ?_ ?_ ?_ ?_ ?_ ?_ <;> simp [FG.nxL, FG.setsL]
def fstep (g : FG) (k : Nat) (z : List Bool) (x : List Bool × Bool) (i : Nat) : List Bool × Bool :=
 if hitC g k z x.1 i = true then (x.1.set i true, true) else x
theorem fstep_length {g : FG} {k : Nat} {z : List Bool} {x : List Bool × Bool} {i : Nat} : (fstep g k z x i).1.length = x.1.length := by unfold fstep; split <;> simp
theorem fpass_length {g : FG} {k : Nat} {z : List Bool} : ∀ {l : List Nat} {x : List Bool × Bool}, (l.foldl (fstep g k z) x).1.length = x.1.length
 | [], _ => rfl
 | i :: l, x => by rw [List.foldl_cons, fpass_length, fstep_length]
theorem fair_i {P : Program} {g : FG} {n : Nat} (hg : g.Ok n) {z to : List Bool} (hz : z.length = n) (hto : to.length = n) {k : Nat} (hk : k < g.sets.length) {turn : Bool} {Q : X → Env → Heap → Prop} {E : Env}
  (h0 : lk E 0 = g.nxL) (h2 : lk E 2 = g.setsL) (h7 : lk E 7 = .view 1 0 0 n false) (h8 : lk E 8 = boolL turn) (h9 : lk E 9 = intL k) (h10 : lk E 10 = .view 1 1 0 n true)
  (hQ : ∀ E', lk E' 0 = g.nxL → lk E' 2 = g.setsL → lk E' 7 = .view 1 0 0 n false → lk E' 8 = boolL turn → lk E' 9 = intL k → lk E' 10 = .view 1 1 0 n true →
   lk E' 11 = boolL ((List.range n).foldl (fstep g k z) (to, false)).2 → Q .normal E' [some (z.map boolL), some (((List.range n).foldl (fstep g k z) (to, false)).1.map boolL)]) :
  lwp P 0 irFairb5 Q E [some (z.map boolL), some (to.map boolL)] := by
 simp only [irFairb5]
 simp
 refine lwp_loop (fun i : Nat => [(0, g.nxL), (2, g.setsL), (7, .view 1 0 0 n false), (8, boolL turn), (9, intL k), (10, .view 1 1 0 n true), (11, boolL ((List.range i).foldl (fstep g k z) (to, false)).2), (12, intL i)])
  (fun i => [some (z.map boolL), some (((List.range i).foldl (fstep g k z) (to, false)).1.map boolL)]) (fun i => n - i) (fun i => i ≤ n) 0 (by simp) ⟨[0, 1], ?_⟩ ?_
 ·simp [h0, h2, h7, h8, h9, h10]
  simp [FG.nxL, FG.setsL]
 ·intro i hi
  have hto' : ((List.range i).foldl (fstep g k z) (to, false)).1.length = n := by rw [fpass_length]; exact hto
  have hstep : (List.range (i + 1)).foldl (fstep g k z) (to, false) = fstep g k z ((List.range i).foldl (fstep g k z) (to, false)) i := by rw [List.range_succ, List.foldl_append]; rfl
  have hw : i ≤ n → n ≤ 1000000000 → IntKind.i64.wrap ((i : Int) + 1) = ((i + 1 : Nat) : Int) := fun h1 h2 => wrap_id (by omega) (by omega)
  generalize hx : (List.range i).foldl (fstep g k z) (to, false) = x at hto' hstep
  obtain ⟨t, m⟩ := x
  simp only at hto'
  by_cases hlt : i < n
  ·simp [FG.nxL, FG.setsL, hg.len, hlt]
   refine fair_j hg hz hto' hk hlt (more := m) (turn := turn) (by simp [FG.nxL]) (by simp [FG.setsL]) (by simp) (by simp) (by simp) (by simp) (by simp) (by simp) fun E' a0 a2 a7 a8 a9 a10 a12 a11 => ?_
   simp [a12, hw hi hg.small]
   refine ⟨i + 1, by omega, by simp <;> omega, [0, 1], ?_⟩
   have e1 : fstep g k z (t, m) i = (if hitC g k z t i = true then t.set i true else t, m || hitC g k z t i) := by
    unfold fstep
    simp only
    split <;> rename_i h <;> simp [h]
   rw [e1] at hstep
   simp only [hstep]
   generalize hitC g k z t i = c at a11
   cases c <;> simp [a0, a2, a7, a8, a9, a10, a11, FG.nxL, FG.setsL]
   exact belowL_set (by rw [belowL_map]; simp) (by simp)
  ·have hin : i = n := by omega
   subst hin
   simp [FG.nxL, hg.len]
   have hQ' := hQ
   rw [show (List.range i).foldl (fstep g k z) (to, false) = (t, m) from hx] at hQ'
   refine hQ' _ ?_ ?_ ?_ ?_ ?_ ?_ ?_ <;> simp [FG.nxL, FG.setsL]
/-! ### What passes and prunings do, in plain terms -/
def cnt (l : List Bool) : Nat := l.countP id
theorem cnt_le (l : List Bool) : cnt l ≤ l.length := List.countP_le_length
theorem cnt_set_true : ∀ {l : List Bool} {i : Nat}, l[i]? = some false → cnt (l.set i true) = cnt l + 1
 | [], _, h => by simp at h
 | b :: l, 0, h => by simp at h; subst h; simp [cnt]
 | b :: l, i + 1, h => by
  have := cnt_set_true (l := l) (i := i) (by simpa using h)
  simp only [cnt, List.set_cons_succ, List.countP_cons] at this ⊢
  omega
theorem cnt_set_false : ∀ {l : List Bool} {i : Nat}, l[i]? = some true → cnt (l.set i false) + 1 = cnt l
 | [], _, h => by simp at h
 | b :: l, 0, h => by simp at h; subst h; simp [cnt]
 | b :: l, i + 1, h => by
  have := cnt_set_false (l := l) (i := i) (by simpa using h)
  simp only [cnt, List.set_cons_succ, List.countP_cons] at this ⊢
  omega
theorem on_set {l : List Bool} {i j : Nat} {b : Bool} (hi : i < l.length) : on (l.set i b) j ↔ if j = i then b = true else on l j := by
 simp only [on, List.getD, List.getElem?_set]
 by_cases h : i = j
 ·subst h; simp [hi]
 ·simp [h, Ne.symm h]
def nxf (g : FG) (i : Nat) : List Nat := g.nx.getD i []
def Sk (g : FG) (k i : Nat) : Prop := on (g.sets.getD k []) i
theorem hitC_iff {g : FG} {k : Nat} {z to : List Bool} {i : Nat} : hitC g k z to i = true ↔ on z i ∧ ¬ on to i ∧ ∃ j ∈ nxf g i, on z j ∧ (Sk g k j ∨ on to j) := by
 unfold hitC hitB nxf Sk on
 simp [List.any_eq_true, and_assoc]
def Sound (g : FG) (k : Nat) (z to : List Bool) : Prop := ∀ i, on to i → on z i ∧ Rch (nxf g) (on z) (Sk g k) i
theorem fstep_sound {g : FG} {k : Nat} {z : List Bool} {x : List Bool × Bool} {i : Nat} (hi : i < x.1.length) (h : Sound g k z x.1) : Sound g k z (fstep g k z x i).1 := by
 unfold fstep
 split
 ·rename_i hc
  obtain ⟨h1, h2, j, hj, hz, hs⟩ := hitC_iff.1 hc
  intro m hm
  rw [on_set hi] at hm
  by_cases e : m = i
  ·subst e
   refine ⟨h1, ?_⟩
   rcases hs with hs | hs
   ·exact .one hj hz hs
   ·exact .more hj hz (h j hs).2
  ·rw [if_neg e] at hm; exact h m hm
 ·exact h
theorem fpass_sound {g : FG} {k : Nat} {z : List Bool} : ∀ {l : List Nat} {x : List Bool × Bool}, (∀ i ∈ l, i < x.1.length) → Sound g k z x.1 → Sound g k z (l.foldl (fstep g k z) x).1
 | [], _, _, h => h
 | i :: l, x, hl, h => by
  rw [List.foldl_cons]
  exact fpass_sound (fun j hj => by rw [fstep_length]; exact hl j (by simp [hj])) (fstep_sound (hl i (by simp)) h)
theorem fstep_cnt {g : FG} {k : Nat} {z : List Bool} {x : List Bool × Bool} {i : Nat} (hi : i < x.1.length) : ((fstep g k z x i) = x ∧ hitC g k z x.1 i = false) ∨ ((fstep g k z x i).2 = true ∧ cnt (fstep g k z x i).1 = cnt x.1 + 1) := by
 unfold fstep
 split
 ·rename_i hc
  obtain ⟨h1, h2, -⟩ := hitC_iff.1 hc
  refine .inr ⟨rfl, cnt_set_true ?_⟩
  have : x.1.getD i false = false := by simpa [on] using h2
  simpa [List.getD, hi] using this
 ·rename_i hc
  exact .inl ⟨rfl, by simpa using hc⟩
theorem fpass_cnt {g : FG} {k : Nat} {z : List Bool} : ∀ {l : List Nat} {x : List Bool × Bool}, (∀ i ∈ l, i < x.1.length) → x.2 = false →
  ((l.foldl (fstep g k z) x) = x ∧ ∀ i ∈ l, hitC g k z x.1 i = false) ∨ ((l.foldl (fstep g k z) x).2 = true ∧ cnt x.1 < cnt (l.foldl (fstep g k z) x).1)
 | [], _, _, _ => .inl ⟨rfl, by simp⟩
 | i :: l, x, hl, hx => by
  rw [List.foldl_cons]
  have grow : ∀ (l : List Nat) (y : List Bool × Bool), (∀ i ∈ l, i < y.1.length) → y.2 = true → (l.foldl (fstep g k z) y).2 = true ∧ cnt y.1 ≤ cnt (l.foldl (fstep g k z) y).1 := by
   intro l
   induction l with
   | nil => exact fun y _ h => ⟨h, Nat.le_refl _⟩
   | cons j l ih =>
    intro y hy h
    rw [List.foldl_cons]
    have hy' : ∀ i ∈ l, i < (fstep g k z y j).1.length := fun i hi => by rw [fstep_length]; exact hy i (by simp [hi])
    rcases fstep_cnt (g := g) (k := k) (z := z) (hy j (by simp)) with ⟨e, -⟩ | ⟨e1, e2⟩
    ·rw [e]; exact ih y (fun i hi => hy i (by simp [hi])) h
    ·have := ih _ hy' e1
     exact ⟨this.1, by omega⟩
  rcases fstep_cnt (g := g) (k := k) (z := z) (hl i (by simp)) with ⟨e, e'⟩ | ⟨e1, e2⟩
  ·rw [e]
   rcases fpass_cnt (l := l) (fun j hj => hl j (by simp [hj])) hx with ⟨h1, h2⟩ | h
   ·exact .inl ⟨h1, fun j hj => by
     rcases List.mem_cons.1 hj with rfl | hj
     ·exact e'
     ·exact h2 j hj⟩
   ·exact .inr h
  ·have := grow l _ (fun j hj => by rw [fstep_length]; exact hl j (by simp [hj])) e1
   exact .inr ⟨this.1, by omega⟩
theorem closed_all {g : FG} {k : Nat} {z to : List Bool} (h : ∀ i, i < z.length → hitC g k z to i = false) {i : Nat} (hr : Rch (nxf g) (on z) (Sk g k) i) : on z i → on to i := by
 have key : ∀ {i j : Nat}, on z i → j ∈ nxf g i → on z j → (Sk g k j ∨ on to j) → on to i := fun {i j} hi hj hz hs => by
  by_cases ht : on to i
  ·exact ht
  ·have := h i (on_lt hi)
   rw [hitC_iff.2 ⟨hi, ht, j, hj, hz, hs⟩] at this
   exact absurd this (by simp)
 induction hr with
 | one hj hz hs => exact fun hi => key hi hj hz (.inl hs)
 | more hj hz _ ih => exact fun hi => key hi hj hz (.inr (ih hz))
def pstep (to : List Bool) (x : List Bool × Bool) (i : Nat) : List Bool × Bool := if (x.1.getD i false && !(to.getD i false)) = true then (x.1.set i false, true) else x
theorem pstep_length {to : List Bool} {x : List Bool × Bool} {i : Nat} : (pstep to x i).1.length = x.1.length := by unfold pstep; split <;> simp
theorem ppass_length {to : List Bool} : ∀ {l : List Nat} {x : List Bool × Bool}, (l.foldl (pstep to) x).1.length = x.1.length
 | [], _ => rfl
 | i :: l, x => by rw [List.foldl_cons, ppass_length, pstep_length]
theorem ppass_on {to : List Bool} : ∀ {l : List Nat} {x : List Bool × Bool} (j : Nat), on (l.foldl (pstep to) x).1 j ↔ on x.1 j ∧ (j ∈ l → on to j)
 | [], _, _ => by simp
 | i :: l, x, j => by
  rw [List.foldl_cons, ppass_on]
  unfold pstep
  split
  ·rename_i hc
   have hi : i < x.1.length := on_lt (z := x.1) (by simp at hc; simpa [on] using hc.1)
   rw [on_set hi]
   have hto : ¬ on to i := by simp at hc; simpa [on] using hc.2
   by_cases e : j = i
   ·subst e; exact ⟨fun h => by simp at h, fun h => absurd (h.2 (by simp)) hto⟩
   ·simp [e]
  ·rename_i hc
   have hto : on x.1 i → on to i := by simpa [on] using hc
   by_cases e : j = i
   ·subst e; exact ⟨fun h => ⟨h.1, fun _ => hto h.1⟩, fun h => ⟨h.1, fun _ => h.2 (by simp)⟩⟩
   ·simp [e]
theorem ppass_cnt {to : List Bool} : ∀ {l : List Nat} {x : List Bool × Bool}, cnt (l.foldl (pstep to) x).1 ≤ cnt x.1 ∧
  ((l.foldl (pstep to) x = x) ∨ ((l.foldl (pstep to) x).2 = true ∧ cnt (l.foldl (pstep to) x).1 < cnt x.1))
 | [], _ => ⟨Nat.le_refl _, .inl rfl⟩
 | i :: l, x => by
  rw [List.foldl_cons]
  obtain ⟨h1, h2⟩ := ppass_cnt (to := to) (l := l) (x := pstep to x i)
  by_cases hc : (x.1.getD i false && !(to.getD i false)) = true
  ·have e : pstep to x i = (x.1.set i false, true) := by unfold pstep; rw [if_pos hc]
   have hon : on x.1 i := by simp at hc; simpa [on] using hc.1
   have hcnt := cnt_set_false (l := x.1) (i := i) (by have := on_lt hon; rw [on_iff this] at hon; simp [this, hon])
   have e1 : cnt (pstep to x i).1 + 1 = cnt x.1 := by rw [e]; exact hcnt
   refine ⟨by omega, .inr ⟨?_, by omega⟩⟩
   rcases h2 with h2 | h2
   ·rw [h2, e]
   ·exact h2.1
  ·have e : pstep to x i = x := by unfold pstep; rw [if_neg hc]
   rw [e] at h1 h2 ⊢
   exact ⟨h1, h2⟩
theorem fair_b3 {P : Program} {g : FG} {n : Nat} (hg : g.Ok n) {z : List Bool} (hz : z.length = n) {k : Nat} (hk : k < g.sets.length) {turn : Bool} {Q : X → Env → Heap → Prop} {E : Env}
  (h0 : lk E 0 = g.nxL) (h2 : lk E 2 = g.setsL) (h7 : lk E 7 = .view 1 0 0 n false) (h8 : lk E 8 = boolL turn) (h9 : lk E 9 = intL k)
  (hQ : ∀ (E' : Env) (z' to : List Bool) (turn' : Bool), lk E' 0 = g.nxL → lk E' 2 = g.setsL → lk E' 7 = .view 1 0 0 n false → lk E' 8 = boolL turn' → lk E' 9 = intL k → z'.length = n →
   (∀ i, on z' i ↔ on z i ∧ Rch (nxf g) (on z) (Sk g k) i) → ((z' = z ∧ turn' = turn) ∨ (turn' = true ∧ cnt z' < cnt z)) → Q .normal E' [some (z'.map boolL), some (to.map boolL)]) :
  lwp P 0 irFairb3 Q E [some (z.map boolL)] := by
 have hsm := hg.small
 simp only [irFairb3]
 simp [h0, FG.nxL, hg.len]
 refine ⟨by omega, ?_⟩
 refine lwp_loop (fun x : List Bool × Bool => [(0, g.nxL), (2, g.setsL), (7, .view 1 0 0 n false), (8, boolL turn), (9, intL k), (10, .view 1 1 0 n true), (11, boolL x.2)])
  (fun x => [some (z.map boolL), some (x.1.map boolL)]) (fun x => 2 * (n - cnt x.1) + if x.2 = true then 1 else 0) (fun x => x.1.length = n ∧ Sound g k z x.1 ∧ (x.2 = false → ∀ i, i < z.length → hitC g k z x.1 i = false)) (List.replicate n false, true) ?_ ⟨[0, 1], ?_⟩ ?_
 ·refine ⟨by simp, fun i hi => ?_, by simp⟩
  simp only [on, List.getD, List.getElem?_replicate] at hi
  split at hi <;> simp at hi
 ·simp [h0, h2, h7, h8, h9, FG.nxL, FG.setsL]
  exact belowL_repl (by simp)
 ·rintro ⟨to, more⟩ ⟨hto, hsound, hclosed⟩
  simp only at hto hsound hclosed
  cases more with
  | true =>
   simp
   refine fair_i hg hz hto hk (turn := turn) (by simp) (by simp) (by simp) (by simp) (by simp) (by simp) fun E' a0 a2 a7 a8 a9 a10 a11 => ?_
   have hlt : ∀ i ∈ List.range n, i < ((to, false) : List Bool × Bool).1.length := fun i hi => by simp at hi ⊢; omega
   have hp1 := fpass_sound (g := g) (k := k) (z := z) hlt hsound
   have hp2 := fpass_cnt (g := g) (k := k) (z := z) hlt rfl
   have hp3 := fpass_length (g := g) (k := k) (z := z) (l := List.range n) (x := (to, false))
   generalize (List.range n).foldl (fstep g k z) (to, false) = y at a11 hp1 hp2 hp3
   obtain ⟨to', more'⟩ := y
   simp only at a11 hp1 hp2 hp3
   have hc' := cnt_le to'
   refine ⟨(to', more'), ⟨by show to'.length = n; omega, hp1, fun hm i hi => ?_⟩, ?_, [0, 1], ?_⟩
   ·rcases hp2 with ⟨h1, h2⟩ | ⟨h1, -⟩
    ·cases h1
     exact h2 i (by simp; omega)
    ·simp only at hm; rw [hm] at h1; simp at h1
   ·rcases hp2 with ⟨h1, h2⟩ | ⟨h1, h3⟩
    ·cases h1
     simp
    ·rw [h1]
     simp
     omega
   ·simp [a0, a2, a7, a8, a9, a10, a11, FG.nxL, FG.setsL]
  | false =>
   have hall : ∀ i, on z i → (on to i ↔ Rch (nxf g) (on z) (Sk g k) i) := fun i hi => ⟨fun h => (hsound i h).2, fun h => closed_all (hclosed rfl) h hi⟩
   have hfin := ppass_on (to := to) (l := List.range n) (x := (z, turn))
   have hcnt := ppass_cnt (to := to) (l := List.range n) (x := (z, turn))
   have hlen := ppass_length (to := to) (l := List.range n) (x := (z, turn))
   simp
   refine lwp_loop (fun i : Nat => [(0, g.nxL), (2, g.setsL), (7, .view 1 0 0 n false), (8, boolL ((List.range i).foldl (pstep to) (z, turn)).2), (9, intL k), (10, .view 1 1 0 n true), (15, intL i)])
    (fun i => [some (((List.range i).foldl (pstep to) (z, turn)).1.map boolL), some (to.map boolL)]) (fun i => n - i) (fun i => i ≤ n) 0 (by simp) ⟨[0, 1], ?_⟩ ?_
   ·simp [FG.nxL, FG.setsL]
   ·intro i hi
    have hzl := ppass_length (to := to) (l := List.range i) (x := (z, turn))
    have hstep : (List.range (i + 1)).foldl (pstep to) (z, turn) = pstep to ((List.range i).foldl (pstep to) (z, turn)) i := by rw [List.range_succ, List.foldl_append]; rfl
    have hw : i ≤ n → n ≤ 1000000000 → IntKind.i64.wrap ((i : Int) + 1) = ((i + 1 : Nat) : Int) := fun h1 h2 => wrap_id (by omega) (by omega)
    generalize hy : (List.range i).foldl (pstep to) (z, turn) = y at hzl hstep
    obtain ⟨zi, ti⟩ := y
    simp only at hzl
    by_cases hlt : i < n
    ·have h1 : i < zi.length := by omega
     have h2 : i < to.length := by omega
     have h3 : i + 1 ≤ zi.length := by omega
     cases a1 : zi[i]
     ·have e : pstep to (zi, ti) i = (zi, ti) := by unfold pstep; simp [List.getD, h1, a1]
      rw [e] at hstep
      simp [FG.nxL, FG.setsL, hlt, h1, a1]
      refine ⟨i + 1, by omega, by simp <;> omega, [0, 1], ?_⟩
      simp [hstep, hw hi hsm]
     ·cases a2 : to[i]
      ·have e : pstep to (zi, ti) i = (zi.set i false, true) := by unfold pstep; simp [List.getD, h1, a1, h2, a2]
       rw [e] at hstep
       simp [FG.nxL, FG.setsL, hlt, h1, a1, h2, a2, h3]
       refine ⟨i + 1, by omega, by simp <;> omega, [0, 1], ?_⟩
       simp [hstep, hw hi hsm]
       exact belowL_set (by rw [belowL_map]; simp) (by simp)
      ·have e : pstep to (zi, ti) i = (zi, ti) := by unfold pstep; simp [List.getD, h1, a1, h2, a2]
       rw [e] at hstep
       simp [FG.nxL, FG.setsL, hlt, h1, a1, h2, a2]
       refine ⟨i + 1, by omega, by simp <;> omega, [0, 1], ?_⟩
       simp [hstep, hw hi hsm]
    ·have hin : i = n := by omega
     subst hin
     rw [hy] at hfin hcnt hlen
     simp at hfin hcnt hlen
     simp
     refine hQ _ zi to ti ?_ ?_ ?_ ?_ ?_ (by omega) (fun j => ?_) ?_
     ·simp
     ·simp
     ·simp
     ·simp
     ·simp
     ·rw [show on zi j ↔ _ from hfin j]
      constructor
      ·rintro ⟨h1, h2⟩
       exact ⟨h1, (hall j h1).1 (h2 (by have := on_lt h1; omega))⟩
      ·rintro ⟨h1, h2⟩
       exact ⟨h1, fun _ => (hall j h1).2 h2⟩
     ·rcases hcnt.2 with h | h
      ·exact .inl h
      ·exact .inr h
def PostFix (g : FG) (o : List Bool) (Z : Nat → Prop) : Prop := ∀ i, Z i → on o i ∧ ∀ k, k < g.sets.length → Rch (nxf g) Z (Sk g k) i
def FairN (g : FG) (o : List Bool) (i : Nat) : Prop := ∃ Z : Nat → Prop, PostFix g o Z ∧ Z i
theorem fair_gen {P : Program} {f : Nat} (ir : compF P f = some irFair) {g : FG} {n : Nat} (hg : g.Ok n) {c : Bool} {o : List Bool} (ho : o.length = n) :
  ∃ z : List Bool, PC P f [g.nxL, .sl 1 c (o.map boolL), g.setsL] (.sl 1 false (z.map boolL)) ∧ z.length = n ∧ ∀ i, on z i ↔ FairN g o i := by
 have hsm := hg.small
 have hmany := hg.many
 have uniq : ∃ z : List Bool, z.length = n ∧ ∀ i, on z i ↔ FairN g o i := by
  classical
  refine ⟨(List.range n).map fun i => decide (FairN g o i), by simp, fun i => ?_⟩
  constructor
  ·intro h
   have hi := on_lt h
   rw [on_iff hi] at h
   simpa using h
  ·intro h
   have hi : i < n := by obtain ⟨Z, hZ, hi⟩ := h; have := on_lt (hZ i hi).1; omega
   rw [on_iff (by simpa using hi)]
   simpa using h
 obtain ⟨zz, hzz, hon⟩ := uniq
 refine ⟨zz, ?_, hzz, hon⟩
 refine pc_of_call (callAt_enter ir (by simp [irFair]) ?_)
 simp [irFair]
 refine ⟨by omega, ?_⟩
 refine lwp_loop (fun x : List Bool × Bool => [(0, g.nxL), (2, g.setsL), (7, .view 1 0 0 n false), (8, boolL x.2)])
  (fun x => [some (x.1.map boolL)]) (fun x => 2 * cnt x.1 + if x.2 = true then 1 else 0)
  (fun x => x.1.length = n ∧ (∀ i, on x.1 i → on o i) ∧ (∀ i, FairN g o i → on x.1 i) ∧ (x.2 = false → PostFix g o (on x.1))) (o, true) ⟨ho, fun _ h => h, fun i ⟨Z, hZ, hi⟩ => (hZ i hi).1, by simp⟩ ⟨[1], ?_⟩ ?_
 ·simp [ho, FG.nxL, FG.setsL]
 ·rintro ⟨z, turn⟩ ⟨hz, hsub, hmax, hpost⟩
  simp only at hz hsub hmax hpost
  cases turn with
  | true =>
   simp
   simp only [irFairb1]
   simp
   refine lwp_loop (fun x : Nat × List Bool × Bool => [(0, g.nxL), (2, g.setsL), (7, .view 1 0 0 n false), (8, boolL x.2.2), (9, intL x.1)])
    (fun x => [some (x.2.1.map boolL)]) (fun x => g.sets.length - x.1)
    (fun x => x.1 ≤ g.sets.length ∧ x.2.1.length = n ∧ (∀ i, on x.2.1 i → on o i) ∧ (∀ i, FairN g o i → on x.2.1 i) ∧ ((x.2.2 = false ∧ x.2.1 = z ∧ ∀ k, k < x.1 → ∀ i, on z i → Rch (nxf g) (on z) (Sk g k) i) ∨ (x.2.2 = true ∧ cnt x.2.1 < cnt z)))
    (0, z, false) ⟨by simp, hz, hsub, hmax, .inl ⟨rfl, rfl, by simp⟩⟩ ⟨[0], ?_⟩ ?_
   ·simp [FG.nxL, FG.setsL]
   ·rintro ⟨k, y, t⟩ ⟨hk, hy, hys, hym, hyc⟩
    simp only at hk hy hys hym hyc
    by_cases hlt : k < g.sets.length
    ·have hw : IntKind.i64.wrap ((k : Int) + 1) = ((k + 1 : Nat) : Int) := wrap_id (by omega) (by omega)
     simp [FG.setsL, hlt]
     refine fair_b3 hg hy hlt (turn := t) (by simp) (by simp [FG.setsL]) (by simp) (by simp) (by simp) fun E' z' to t' a0 a2 a7 a8 a9 hz' hiff hch => ?_
     simp [a9, hw]
     refine ⟨(k + 1, z', t'), ⟨by omega, hz', fun i hi => hys i ((hiff i).1 hi).1, fun i hi => ?_, ?_⟩, by simp <;> omega, [0], ?_⟩
     ·refine (hiff i).2 ⟨hym i hi, ?_⟩
      obtain ⟨Z, hZ, hZi⟩ := hi
      exact ((hZ i hZi).2 k hlt).mono fun j hj => hym j ⟨Z, hZ, hj⟩
     ·rcases hch with ⟨rfl, rfl⟩ | ⟨rfl, hc⟩
      ·rcases hyc with ⟨h1, h2, h3⟩ | h
       ·refine .inl ⟨h1, h2, fun k' hk' i hi => ?_⟩
        subst h2
        by_cases e : k' = k
        ·subst e; exact ((hiff i).1 hi).2
        ·exact h3 k' (by simp only at hk'; omega) i hi
       ·exact .inr h
      ·rcases hyc with ⟨h1, h2, h3⟩ | h
       ·subst h2; exact .inr ⟨rfl, hc⟩
       ·exact .inr ⟨rfl, by simp only; omega⟩
     ·simp [a0, a2, a7, a8, FG.nxL, FG.setsL]
    ·have hge : g.sets.length ≤ k := by omega
     simp [FG.setsL, hlt]
     refine ⟨(y, t), ⟨hy, hys, hym, fun ht => ?_⟩, ?_, [0], ?_⟩
     ·rcases hyc with ⟨h1, h2, h3⟩ | h
      ·subst h2
       exact fun i hi => ⟨hys i hi, fun k' hk' => h3 k' (by omega) i hi⟩
      ·simp only at ht; rw [ht] at h; simp at h
     ·rcases hyc with ⟨h1, h2, h3⟩ | h
      ·simp [h1, h2]
      ·simp [h.1]; omega
     ·simp [FG.nxL]
  | false =>
   have e : z = zz := by
    refine List.ext_getElem (by omega) fun i h1 h2 => ?_
    have a := on_iff (z := z) h1
    have b := on_iff (z := zz) h2
    rw [hon i] at b
    have c : on z i ↔ FairN g o i := ⟨fun h => ⟨on z, hpost rfl, h⟩, hmax i⟩
    rw [a, b] at c
    rwa [Bool.eq_iff_iff]
   subst e
   simp [hz]
end Lg

