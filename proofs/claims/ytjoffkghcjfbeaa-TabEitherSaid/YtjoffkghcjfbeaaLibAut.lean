/- Automata and words: what the functions of the document's answer on them compute. -/
import Derived.Test.YtjoffkghcjfbeaaLibTreeC
import Derived.Test.YtjoffkghcjfbeaaLibFair
namespace Lg
open Go
def irRight17 : FnIR := ⟨20,[.t 2],(.seq (.ops [⟨some 1,.box (.t 0),none⟩,⟨some 2,.mov (.c (.v (.bool false))),none⟩]) (.seq (.ops [⟨some 3,.faddr 0 (.t 1),none⟩,⟨some 4,.load 1 false (.t 3),none⟩,⟨some 5,.len false (.t 4),none⟩,⟨some 6,.bin .geq false (.t 5) (.c (.v (.int .i64 1))),none⟩,⟨some 7,.mov (.t 6),none⟩,⟨some 8,.faddr 1 (.t 1),some (7,true)⟩,⟨some 9,.load 1 false (.t 8),some (7,true)⟩,⟨some 10,.bin .geq false (.t 9) (.c (.v (.int .i64 0))),some (7,true)⟩,⟨some 11,.pick (.t 7) (.t 10) (.c (.v (.bool false))),none⟩,⟨some 12,.mov (.t 11),none⟩,⟨some 13,.faddr 1 (.t 1),some (12,true)⟩,⟨some 14,.load 1 false (.t 13),some (12,true)⟩,⟨some 15,.faddr 0 (.t 1),some (12,true)⟩,⟨some 16,.load 1 false (.t 15),some (12,true)⟩,⟨some 17,.len false (.t 16),some (12,true)⟩,⟨some 18,.bin .lss false (.t 14) (.t 17),some (12,true)⟩,⟨some 19,.pick (.t 12) (.t 18) (.c (.v (.bool false))),none⟩,⟨some 2,.mov (.t 19),none⟩]) .ret))⟩
abbrev intsL (xs : List Int) : L := .sl 1 false (xs.map intL)
abbrev treesL (l : List T) : L := .sl 4 false (l.map T.toL)
structure Aut where
 lits : List (List T)
 next : List (List Int)
 init : List Int
 acc : List (List Int)
def Aut.cells (a : Aut) : List L := [.sl 1 false (a.lits.map treesL), .sl 1 false (a.next.map intsL), intsL a.init, .sl 1 false (a.acc.map intsL)]
def Aut.L (a : Aut) : L := .agg a.cells
structure Aut.Ok (a : Aut) : Prop where
 lits : a.lits.length ≤ 5864062014805
 lit : ∀ l ∈ a.lits, l.length ≤ 2932031007403 ∧ ∀ t ∈ l, t.Ok
 next : a.next.length ≤ 5864062014805
 row : ∀ r ∈ a.next, r.length ≤ 17592186044416
 init : a.init.length ≤ 17592186044416
 acc : a.acc.length ≤ 5864062014805
 set : ∀ r ∈ a.acc, r.length ≤ 17592186044416
def Aut.may (a : Aut) (vars : Int) : Bool := a.lits.all fun l => l.all fun t => t.may vars
def statesB (xs : List Int) (n : Nat) : Bool := xs.all fun x => decide (0 ≤ x ∧ x < (n : Int))
def rowOk (a : Aut) (q : Nat) : Bool := statesB (a.next.getD q []) a.lits.length && (a.lits.getD q []).all T.lit
def Aut.right (a : Aut) : Bool := statesB a.init a.lits.length && decide (a.next.length = a.lits.length) && (List.range a.lits.length).all (rowOk a) && a.acc.all fun r => statesB r a.lits.length
def Aut.fits (a : Aut) (q : Nat) (v : List Int) : Bool := (a.lits.getD q []).all fun t => decide (t.eval v = 1)
structure Word where
 v : List (List Int)
 loop : Int
def Word.cells (w : Word) : List L := [.sl 1 false (w.v.map intsL), intL w.loop]
def Word.L (w : Word) : L := .agg w.cells
structure Word.Ok (w : Word) : Prop where
 v : w.v.length ≤ 5864062014805
 row : ∀ r ∈ w.v, r.length ≤ 17592186044416
def Word.right (w : Word) : Bool := decide (1 ≤ w.v.length) && decide (0 ≤ w.loop) && decide (w.loop < w.v.length)
def Word.nxt (w : Word) (i : Nat) : Nat := if i + 1 = w.v.length then w.loop.toNat else i + 1
theorem right17_gen {P : Program} {f : Nat} (ir : compF P f = some irRight17) (w : Word) : PC P f [w.L] (boolL w.right) := by
 refine pc_of_call (callAt_enter ir (by simp [irRight17]) ?_)
 by_cases h1 : 1 ≤ w.v.length
 ·have h1' : (1 : Int) ≤ w.v.length := by omega
  by_cases h2 : 0 ≤ w.loop
  ·simp [irRight17, Word.L, Word.cells, Word.right, h1, h1', h2]
  ·simp [irRight17, Word.L, Word.cells, Word.right, h1, h1', h2]
 ·have h1' : ¬ (1 : Int) ≤ w.v.length := by omega
  simp [irRight17, Word.L, Word.cells, Word.right, h1, h1']
end Lg

