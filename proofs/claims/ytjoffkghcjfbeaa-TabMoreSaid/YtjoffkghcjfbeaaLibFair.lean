/- Nodes of a graph from which an endless way goes that meets each set again and again. -/
import Derived.Test.YtjoffkghcjfbeaaLibMix
import Derived.Test.YtjoffkghcjfbeaaLgNX
namespace Lg
open Go
@[simp] theorem renL_set {f : Nat → Nat} : ∀ {l : List L} {i : Nat} {x : L}, renL f (l.set i x) = (renL f l).set i (ren f x)
 | [], _, _ => rfl
 | y :: l, 0, x => by simp [renL]
 | y :: l, i + 1, x => by simp [renL, renL_set (l := l)]
@[simp] theorem renL_repl {f : Nat → Nat} {x : L} : ∀ {n : Nat}, renL f (List.replicate n x) = List.replicate n (ren f x)
 | 0 => rfl
 | n + 1 => by simp [List.replicate_succ, renL, renL_repl (n := n)]
theorem belowL_repl {m : Nat} {x : L} (h : below m x = true) : ∀ {n : Nat}, belowL m (List.replicate n x) = true
 | 0 => rfl
 | n + 1 => by simp [List.replicate_succ, belowL, h, belowL_repl h (n := n)]
theorem belowL_set {n : Nat} : ∀ {l : List L} {i : Nat} {x : L}, belowL n l = true → below n x = true → belowL n (l.set i x) = true
 | [], _, _, h, _ => h
 | y :: l, 0, x, h, hx => by simp [belowL] at h ⊢; exact ⟨hx, h.2⟩
 | y :: l, i + 1, x, h, hx => by simp [belowL] at h ⊢; exact ⟨h.1, belowL_set h.2 hx⟩
inductive Rch (nx : Nat → List Nat) (Z S : Nat → Prop) : Nat → Prop
 | one {i j : Nat} (h : j ∈ nx i) (hz : Z j) (hs : S j) : Rch nx Z S i
 | more {i j : Nat} (h : j ∈ nx i) (hz : Z j) (hr : Rch nx Z S j) : Rch nx Z S i
theorem Rch.mono {nx : Nat → List Nat} {Z Z' S : Nat → Prop} (hZ : ∀ i, Z i → Z' i) {i : Nat} (h : Rch nx Z S i) : Rch nx Z' S i := by
 induction h with
 | one h hz hs => exact .one h (hZ _ hz) hs
 | more h hz _ ih => exact .more h (hZ _ hz) ih
abbrev on (z : List Bool) (i : Nat) : Prop := z.getD i false = true
def rowN (r : List Nat) : L := .sl 1 false (r.map fun (x : Nat) => intL x)
def boolsL (b : List Bool) : L := .sl 1 false (b.map boolL)
attribute [local simp] rowN boolsL
structure FG where
 c1 : Bool
 c3 : Bool
 nx : List (List Nat)
 sets : List (List Bool)
/-! ### What passes and prunings do, in plain terms -/
def nxf (g : FG) (i : Nat) : List Nat := g.nx.getD i []
def Sk (g : FG) (k i : Nat) : Prop := on (g.sets.getD k []) i
def PostFix (g : FG) (o : List Bool) (Z : Nat → Prop) : Prop := ∀ i, Z i → on o i ∧ ∀ k, k < g.sets.length → Rch (nxf g) Z (Sk g k) i
def FairN (g : FG) (o : List Bool) (i : Nat) : Prop := ∃ Z : Nat → Prop, PostFix g o Z ∧ Z i
end Lg

