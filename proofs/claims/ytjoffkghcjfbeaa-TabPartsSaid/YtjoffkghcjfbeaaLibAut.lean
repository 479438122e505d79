/- Automata and words: what the functions of the document's answer on them compute. -/
import Derived.Test.YtjoffkghcjfbeaaLibTreeC
import Derived.Test.YtjoffkghcjfbeaaLibFair
namespace Lg
open Go
def irStates : FnIR := ⟨25,[.t 4],(.seq (.ops [⟨some 4,.mov (.c (.v (.bool false))),none⟩]) (.seq (.seq (.ops [⟨some 5,.mov (.c (.v (.int .i64 0))),none⟩]) (.block 0 (.loop (.seq (.seq (.ops [⟨some 6,.mov (.t 5),none⟩,⟨some 7,.mov (.t 0),none⟩,⟨some 8,.len false (.t 7),none⟩,⟨some 9,.bin .lss false (.t 6) (.t 8),none⟩]) (.cond (.t 9) .skip (.exit 0))) (.seq (.block 1 (.seq (.ops [⟨some 12,.mov (.t 0),none⟩,⟨some 13,.mov (.t 5),none⟩,⟨some 14,.iaddr 1 (.t 12) (.t 13),none⟩,⟨some 15,.load 1 false (.t 14),none⟩,⟨some 16,.bin .lss false (.t 15) (.c (.v (.int .i64 0))),none⟩,⟨some 17,.mov (.t 16),none⟩,⟨some 18,.mov (.t 0),some (17,false)⟩,⟨some 19,.mov (.t 5),some (17,false)⟩,⟨some 20,.iaddr 1 (.t 18) (.t 19),some (17,false)⟩,⟨some 21,.load 1 false (.t 20),some (17,false)⟩,⟨some 22,.mov (.t 1),some (17,false)⟩,⟨some 23,.bin .geq false (.t 21) (.t 22),some (17,false)⟩,⟨some 24,.pick (.t 17) (.c (.v (.bool true))) (.t 23),none⟩]) (.cond (.t 24) (.seq (.ops [⟨some 4,.mov (.c (.v (.bool false))),none⟩]) .ret) .skip))) (.ops [⟨some 10,.mov (.t 5),none⟩,⟨some 11,.bin .add false (.t 10) (.c (.v (.int .i64 1))),none⟩,⟨some 5,.mov (.t 11),none⟩])))))) (.seq (.ops [⟨some 4,.mov (.c (.v (.bool true))),none⟩]) .ret)))⟩
def irIn : FnIR := ⟨18,[.t 4],(.seq (.ops [⟨some 4,.mov (.c (.v (.bool false))),none⟩]) (.seq (.seq (.ops [⟨some 5,.mov (.c (.v (.int .i64 0))),none⟩]) (.block 0 (.loop (.seq (.seq (.ops [⟨some 6,.mov (.t 5),none⟩,⟨some 7,.mov (.t 0),none⟩,⟨some 8,.len false (.t 7),none⟩,⟨some 9,.bin .lss false (.t 6) (.t 8),none⟩]) (.cond (.t 9) .skip (.exit 0))) (.seq (.block 1 (.seq (.ops [⟨some 12,.mov (.t 0),none⟩,⟨some 13,.mov (.t 5),none⟩,⟨some 14,.iaddr 1 (.t 12) (.t 13),none⟩,⟨some 15,.load 1 false (.t 14),none⟩,⟨some 16,.mov (.t 1),none⟩,⟨some 17,.bin .eql false (.t 15) (.t 16),none⟩]) (.cond (.t 17) (.seq (.ops [⟨some 4,.mov (.c (.v (.bool true))),none⟩]) .ret) .skip))) (.ops [⟨some 10,.mov (.t 5),none⟩,⟨some 11,.bin .add false (.t 10) (.c (.v (.int .i64 1))),none⟩,⟨some 5,.mov (.t 11),none⟩])))))) (.seq (.ops [⟨some 4,.mov (.c (.v (.bool false))),none⟩]) .ret)))⟩
def irRight18 (st li : Nat) : FnIR := ⟨78,[.t 2],(.seq (.ops [⟨some 1,.box (.t 0),none⟩,⟨some 2,.mov (.c (.v (.bool false))),none⟩]) (.seq (.ops [⟨some 11,.faddr 0 (.t 1),none⟩,⟨some 12,.load 1 false (.t 11),none⟩,⟨some 13,.len false (.t 12),none⟩,⟨some 3,.mov (.t 13),none⟩]) (.seq (.ops [⟨some 14,.faddr 2 (.t 1),none⟩,⟨some 15,.load 1 false (.t 14),none⟩,⟨some 16,.mov (.t 3),none⟩,⟨some 17,.call st [(.t 15),(.t 16)],none⟩,⟨some 4,.mov (.t 17),none⟩]) (.seq (.seq (.ops [⟨some 18,.mov (.t 4),none⟩,⟨some 19,.un .not (.t 18),none⟩,⟨some 20,.mov (.t 19),none⟩,⟨some 21,.faddr 1 (.t 1),some (20,false)⟩,⟨some 22,.load 1 false (.t 21),some (20,false)⟩,⟨some 23,.len false (.t 22),some (20,false)⟩,⟨some 24,.mov (.t 3),some (20,false)⟩,⟨some 25,.bin .neq false (.t 23) (.t 24),some (20,false)⟩,⟨some 26,.pick (.t 20) (.c (.v (.bool true))) (.t 25),none⟩]) (.cond (.t 26) (.seq (.ops [⟨some 2,.mov (.c (.v (.bool false))),none⟩]) .ret) .skip)) (.seq (.seq (.ops [⟨some 5,.mov (.c (.v (.int .i64 0))),none⟩]) (.block 0 (.loop (.seq (.seq (.ops [⟨some 27,.mov (.t 5),none⟩,⟨some 28,.mov (.t 3),none⟩,⟨some 29,.bin .lss false (.t 27) (.t 28),none⟩]) (.cond (.t 29) .skip (.exit 0))) (.seq (.block 1 (.seq (.ops [⟨some 32,.faddr 1 (.t 1),none⟩,⟨some 33,.load 1 false (.t 32),none⟩,⟨some 34,.mov (.t 5),none⟩,⟨some 35,.iaddr 1 (.t 33) (.t 34),none⟩,⟨some 36,.load 1 false (.t 35),none⟩,⟨some 37,.mov (.t 3),none⟩,⟨some 38,.call st [(.t 36),(.t 37)],none⟩,⟨some 6,.mov (.t 38),none⟩]) (.seq (.seq (.ops [⟨some 39,.mov (.t 6),none⟩,⟨some 40,.un .not (.t 39),none⟩]) (.cond (.t 40) (.seq (.ops [⟨some 2,.mov (.c (.v (.bool false))),none⟩]) .ret) .skip)) (.seq (.ops [⟨some 7,.mov (.c (.v (.int .i64 0))),none⟩]) (.block 2 (.loop (.seq (.seq (.ops [⟨some 41,.mov (.t 7),none⟩,⟨some 42,.faddr 0 (.t 1),none⟩,⟨some 43,.load 1 false (.t 42),none⟩,⟨some 44,.mov (.t 5),none⟩,⟨some 45,.iaddr 1 (.t 43) (.t 44),none⟩,⟨some 46,.load 1 false (.t 45),none⟩,⟨some 47,.len false (.t 46),none⟩,⟨some 48,.bin .lss false (.t 41) (.t 47),none⟩]) (.cond (.t 48) .skip (.exit 2))) (.seq (.block 3 (.seq (.ops [⟨some 51,.faddr 0 (.t 1),none⟩,⟨some 52,.load 1 false (.t 51),none⟩,⟨some 53,.mov (.t 5),none⟩,⟨some 54,.iaddr 1 (.t 52) (.t 53),none⟩,⟨some 55,.load 1 false (.t 54),none⟩,⟨some 56,.mov (.t 7),none⟩,⟨some 57,.iaddr 4 (.t 55) (.t 56),none⟩,⟨some 58,.load 4 true (.t 57),none⟩,⟨some 59,.call li [(.t 58)],none⟩,⟨some 8,.mov (.t 59),none⟩]) (.seq (.ops [⟨some 60,.mov (.t 8),none⟩,⟨some 61,.un .not (.t 60),none⟩]) (.cond (.t 61) (.seq (.ops [⟨some 2,.mov (.c (.v (.bool false))),none⟩]) .ret) .skip)))) (.ops [⟨some 49,.mov (.t 7),none⟩,⟨some 50,.bin .add false (.t 49) (.c (.v (.int .i64 1))),none⟩,⟨some 7,.mov (.t 50),none⟩]))))))))) (.ops [⟨some 30,.mov (.t 5),none⟩,⟨some 31,.bin .add false (.t 30) (.c (.v (.int .i64 1))),none⟩,⟨some 5,.mov (.t 31),none⟩])))))) (.seq (.seq (.ops [⟨some 9,.mov (.c (.v (.int .i64 0))),none⟩]) (.block 4 (.loop (.seq (.seq (.ops [⟨some 62,.mov (.t 9),none⟩,⟨some 63,.faddr 3 (.t 1),none⟩,⟨some 64,.load 1 false (.t 63),none⟩,⟨some 65,.len false (.t 64),none⟩,⟨some 66,.bin .lss false (.t 62) (.t 65),none⟩]) (.cond (.t 66) .skip (.exit 4))) (.seq (.block 5 (.seq (.ops [⟨some 69,.faddr 3 (.t 1),none⟩,⟨some 70,.load 1 false (.t 69),none⟩,⟨some 71,.mov (.t 9),none⟩,⟨some 72,.iaddr 1 (.t 70) (.t 71),none⟩,⟨some 73,.load 1 false (.t 72),none⟩,⟨some 74,.mov (.t 3),none⟩,⟨some 75,.call st [(.t 73),(.t 74)],none⟩,⟨some 10,.mov (.t 75),none⟩]) (.seq (.ops [⟨some 76,.mov (.t 10),none⟩,⟨some 77,.un .not (.t 76),none⟩]) (.cond (.t 77) (.seq (.ops [⟨some 2,.mov (.c (.v (.bool false))),none⟩]) .ret) .skip)))) (.ops [⟨some 67,.mov (.t 9),none⟩,⟨some 68,.bin .add false (.t 67) (.c (.v (.int .i64 1))),none⟩,⟨some 9,.mov (.t 68),none⟩])))))) (.seq (.ops [⟨some 2,.mov (.c (.v (.bool true))),none⟩]) .ret)))))))⟩
def irFits (ev : Nat) : FnIR := ⟨31,[.t 6],(.seq (.ops [⟨some 3,.box (.t 0),none⟩,⟨some 6,.mov (.c (.v (.bool false))),none⟩]) (.seq (.seq (.ops [⟨some 7,.mov (.c (.v (.int .i64 0))),none⟩]) (.block 0 (.loop (.seq (.seq (.ops [⟨some 9,.mov (.t 7),none⟩,⟨some 10,.faddr 0 (.t 3),none⟩,⟨some 11,.load 1 false (.t 10),none⟩,⟨some 12,.mov (.t 1),none⟩,⟨some 13,.iaddr 1 (.t 11) (.t 12),none⟩,⟨some 14,.load 1 false (.t 13),none⟩,⟨some 15,.len false (.t 14),none⟩,⟨some 16,.bin .lss false (.t 9) (.t 15),none⟩]) (.cond (.t 16) .skip (.exit 0))) (.seq (.block 1 (.seq (.ops [⟨some 19,.faddr 0 (.t 3),none⟩,⟨some 20,.load 1 false (.t 19),none⟩,⟨some 21,.mov (.t 1),none⟩,⟨some 22,.iaddr 1 (.t 20) (.t 21),none⟩,⟨some 23,.load 1 false (.t 22),none⟩,⟨some 24,.mov (.t 7),none⟩,⟨some 25,.iaddr 4 (.t 23) (.t 24),none⟩,⟨some 26,.load 4 true (.t 25),none⟩,⟨some 27,.mov (.t 2),none⟩,⟨some 28,.call ev [(.t 26),(.t 27)],none⟩,⟨some 8,.mov (.t 28),none⟩]) (.seq (.ops [⟨some 29,.mov (.t 8),none⟩,⟨some 30,.bin .neq false (.t 29) (.c (.v (.int .i64 1))),none⟩]) (.cond (.t 30) (.seq (.ops [⟨some 6,.mov (.c (.v (.bool false))),none⟩]) .ret) .skip)))) (.ops [⟨some 17,.mov (.t 7),none⟩,⟨some 18,.bin .add false (.t 17) (.c (.v (.int .i64 1))),none⟩,⟨some 7,.mov (.t 18),none⟩])))))) (.seq (.ops [⟨some 6,.mov (.c (.v (.bool true))),none⟩]) .ret)))⟩
def irNext17 : FnIR := ⟨15,[.t 4],(.seq (.ops [⟨some 2,.box (.t 0),none⟩,⟨some 4,.mov (.c (.v (.int .i64 0))),none⟩]) (.seq (.seq (.ops [⟨some 5,.mov (.t 1),none⟩,⟨some 6,.faddr 0 (.t 2),none⟩,⟨some 7,.load 1 false (.t 6),none⟩,⟨some 8,.len false (.t 7),none⟩,⟨some 9,.bin .sub false (.t 8) (.c (.v (.int .i64 1))),none⟩,⟨some 10,.bin .eql false (.t 5) (.t 9),none⟩]) (.cond (.t 10) (.seq (.ops [⟨some 11,.faddr 1 (.t 2),none⟩,⟨some 12,.load 1 false (.t 11),none⟩,⟨some 4,.mov (.t 12),none⟩]) .ret) .skip)) (.seq (.ops [⟨some 13,.mov (.t 1),none⟩,⟨some 14,.bin .add false (.t 13) (.c (.v (.int .i64 1))),none⟩,⟨some 4,.mov (.t 14),none⟩]) .ret)))⟩
def irRight17 : FnIR := ⟨20,[.t 2],(.seq (.ops [⟨some 1,.box (.t 0),none⟩,⟨some 2,.mov (.c (.v (.bool false))),none⟩]) (.seq (.ops [⟨some 3,.faddr 0 (.t 1),none⟩,⟨some 4,.load 1 false (.t 3),none⟩,⟨some 5,.len false (.t 4),none⟩,⟨some 6,.bin .geq false (.t 5) (.c (.v (.int .i64 1))),none⟩,⟨some 7,.mov (.t 6),none⟩,⟨some 8,.faddr 1 (.t 1),some (7,true)⟩,⟨some 9,.load 1 false (.t 8),some (7,true)⟩,⟨some 10,.bin .geq false (.t 9) (.c (.v (.int .i64 0))),some (7,true)⟩,⟨some 11,.pick (.t 7) (.t 10) (.c (.v (.bool false))),none⟩,⟨some 12,.mov (.t 11),none⟩,⟨some 13,.faddr 1 (.t 1),some (12,true)⟩,⟨some 14,.load 1 false (.t 13),some (12,true)⟩,⟨some 15,.faddr 0 (.t 1),some (12,true)⟩,⟨some 16,.load 1 false (.t 15),some (12,true)⟩,⟨some 17,.len false (.t 16),some (12,true)⟩,⟨some 18,.bin .lss false (.t 14) (.t 17),some (12,true)⟩,⟨some 19,.pick (.t 12) (.t 18) (.c (.v (.bool false))),none⟩,⟨some 2,.mov (.t 19),none⟩]) .ret))⟩
abbrev intsL (xs : List Int) : L := .sl 1 false (xs.map intL)
abbrev treesL (l : List T) : L := .sl 4 false (l.map T.toL)
structure Aut where
 lits : List (List T)
 next : List (List Int)
 init : List Int
 acc : List (List Int)
def Aut.cells (a : Aut) : List L := [.sl 1 false (a.lits.map treesL), .sl 1 false (a.next.map intsL), intsL a.init, .sl 1 false (a.acc.map intsL)]
def Aut.L (a : Aut) : L := .agg a.cells
structure Aut.Ok (a : Aut) : Prop where
 lits : a.lits.length ≤ 5864062014805
 lit : ∀ l ∈ a.lits, l.length ≤ 2932031007403 ∧ ∀ t ∈ l, t.Ok
 next : a.next.length ≤ 5864062014805
 row : ∀ r ∈ a.next, r.length ≤ 17592186044416
 init : a.init.length ≤ 17592186044416
 acc : a.acc.length ≤ 5864062014805
 set : ∀ r ∈ a.acc, r.length ≤ 17592186044416
theorem states_gen {P : Program} {f : Nat} (ir : compF P f = some irStates) {c : Bool} (xs : List Int) (hl : xs.length ≤ 17592186044416) (n : Int) : PC P f [.sl 1 c (xs.map intL), intL n] (boolL (xs.all fun x => decide (0 ≤ x ∧ x < n))) := by
 refine pc_of_call (callAt_enter ir (by simp [irStates]) ?_)
 simp only [irStates]
 simp
 refine lwp_loop (fun i : Nat => [(0, .sl 1 c (xs.map intL)), (1, intL n), (5, intL i)]) (fun _ => []) (fun i => xs.length - i) (fun i => i ≤ xs.length ∧ ∀ x ∈ xs.take i, 0 ≤ x ∧ x < n) 0 (by simp) ⟨[], ?_⟩ ?_
 ·simp
 ·rintro i ⟨hi, hall⟩
  by_cases hlt : i < xs.length
  ·have hw : IntKind.i64.wrap ((i : Int) + 1) = ((i + 1 : Nat) : Int) := wrap_id (by omega) (by omega)
   by_cases h1 : xs[i] < 0
   ·simp [hlt, h1]
    exact ⟨xs[i], List.getElem_mem hlt, fun h => by omega⟩
   ·have h1' : 0 ≤ xs[i] := by omega
    by_cases h2 : n ≤ xs[i]
    ·simp [hlt, h1, h2]
     exact ⟨xs[i], List.getElem_mem hlt, fun _ => by omega⟩
    ·have h2' : xs[i] < n := by omega
     simp [hlt, h1, h2]
     refine ⟨i + 1, ⟨by omega, fun x hx => ?_⟩, by simp <;> omega, [], ?_⟩
     ·rw [List.take_succ_eq_append_getElem hlt] at hx
      rcases List.mem_append.1 hx with h | h
      ·exact hall x h
      ·simp at h; subst h; exact ⟨h1', h2'⟩
     ·simp [hw]
  ·have hge : xs.length ≤ i := by omega
   rw [List.take_of_length_le hge] at hall
   simp [hlt]
   exact hall
theorem in_gen {P : Program} {f : Nat} (ir : compF P f = some irIn) {c : Bool} (xs : List Int) (hl : xs.length ≤ 17592186044416) (n : Int) : PC P f [.sl 1 c (xs.map intL), intL n] (boolL (decide (n ∈ xs))) := by
 refine pc_of_call (callAt_enter ir (by simp [irIn]) ?_)
 simp only [irIn]
 simp
 refine lwp_loop (fun i : Nat => [(0, .sl 1 c (xs.map intL)), (1, intL n), (5, intL i)]) (fun _ => []) (fun i => xs.length - i) (fun i => i ≤ xs.length ∧ n ∉ xs.take i) 0 (by simp) ⟨[], ?_⟩ ?_
 ·simp
 ·rintro i ⟨hi, hall⟩
  by_cases hlt : i < xs.length
  ·have hw : IntKind.i64.wrap ((i : Int) + 1) = ((i + 1 : Nat) : Int) := wrap_id (by omega) (by omega)
   by_cases h1 : xs[i] = n
   ·simp [hlt, h1]
    rw [← h1]; exact List.getElem_mem hlt
   ·simp [hlt, h1]
    refine ⟨i + 1, ⟨by omega, fun hx => ?_⟩, by simp <;> omega, [], ?_⟩
    ·rw [List.take_succ_eq_append_getElem hlt] at hx
     rcases List.mem_append.1 hx with h | h
     ·exact hall h
     ·simp at h; exact h1 h.symm
    ·simp [hw]
  ·have hge : xs.length ≤ i := by omega
   rw [List.take_of_length_le hge] at hall
   simp [hlt]
   exact hall
def Aut.may (a : Aut) (vars : Int) : Bool := a.lits.all fun l => l.all fun t => t.may vars
def statesB (xs : List Int) (n : Nat) : Bool := xs.all fun x => decide (0 ≤ x ∧ x < (n : Int))
theorem statesB_gen {P : Program} {f : Nat} (ir : compF P f = some irStates) {c : Bool} (xs : List Int) (hl : xs.length ≤ 17592186044416) (n : Nat) : PC P f [.sl 1 c (xs.map intL), intL n] (boolL (statesB xs n)) := states_gen ir xs hl n
def rowOk (a : Aut) (q : Nat) : Bool := statesB (a.next.getD q []) a.lits.length && (a.lits.getD q []).all T.lit
def Aut.right (a : Aut) : Bool := statesB a.init a.lits.length && decide (a.next.length = a.lits.length) && (List.range a.lits.length).all (rowOk a) && a.acc.all fun r => statesB r a.lits.length
theorem right18_gen {P : Program} {f st li y : Nat} (ir : compF P f = some (irRight18 st li)) (ist : compF P st = some irStates) (ili : compF P li = some (irLit y)) (iy : compF P y = some (irType y)) {a : Aut} (ha : a.Ok) : PC P f [a.L] (boolL a.right) := by
 have hl := ha.lits
 have hr := ha.lit
 have hac := ha.acc
 refine pc_of_call (callAt_enter ir (by simp [irRight18]) ?_)
 simp only [irRight18]
 simp [Aut.L, Aut.cells]
 refine callT_plain (statesB_gen ist (c := false) a.init ha.init a.lits.length) rfl (by simp) ?_
 by_cases h1 : statesB a.init a.lits.length = true
 ·by_cases h2 : a.next.length = a.lits.length
  ·have h2' : (a.next.length : Int) = (a.lits.length : Int) := by omega
   simp [h1, h2']
   refine lwp_loop (fun i : Nat => [(1, .ptr 0 0), (3, intL a.lits.length), (5, intL i)]) (fun _ => [some a.cells]) (fun i => a.lits.length - i)
    (fun i => i ≤ a.lits.length ∧ ∀ q, q < i → rowOk a q = true) 0 (by simp) ⟨[0], ?_⟩ ?_
   ·simp [Aut.cells]
   ·rintro i ⟨hi, hall⟩
    have hw : IntKind.i64.wrap ((i : Int) + 1) = ((i + 1 : Nat) : Int) := wrap_id (by omega) (by omega)
    by_cases hlt : i < a.lits.length
    ·have hltn : i < a.next.length := by omega
     have bad : rowOk a i = false → a.right = false := fun h => by
      have : ((List.range a.lits.length).all (rowOk a)) = false := by
       rw [List.all_eq_false]; exact ⟨i, by simpa using hlt, by rw [h]; simp⟩
      unfold Aut.right; rw [this]; simp
     have e1 : a.next.getD i [] = a.next[i] := by simp [List.getD, hltn]
     have e2 : a.lits.getD i [] = a.lits[i] := by simp [List.getD, hlt]
     have e3 : rowOk a i = (statesB a.next[i] a.lits.length && a.lits[i].all T.lit) := by rw [rowOk, e1, e2]
     rw [e3] at bad
     simp [Aut.cells, hlt, hltn]
     refine callT_plain (statesB_gen ist (c := false) a.next[i] (ha.row _ (List.getElem_mem hltn)) a.lits.length) rfl (by simp) ?_
     cases hs : statesB a.next[i] a.lits.length
     ·have := bad (by rw [hs]; rfl)
      simp [this]
     ·have hs0 := hs
      obtain ⟨hri, hok⟩ := hr _ (List.getElem_mem hlt)
      simp []
      refine lwp_loop (fun k : Nat => [(1, .ptr 0 0), (3, intL a.lits.length), (5, intL i), (7, intL k)]) (fun _ => [some a.cells]) (fun k => a.lits[i].length - k) (fun k => k ≤ a.lits[i].length ∧ ∀ u ∈ a.lits[i].take k, u.lit = true) 0 (by simp) ⟨[0], ?_⟩ ?_
      ·simp [Aut.cells]
      ·rintro k ⟨hk, hal⟩
       have hw3 : IntKind.i64.wrap ((k : Int) + 1) = ((k + 1 : Nat) : Int) := wrap_id (by omega) (by omega)
       by_cases hkl : k < a.lits[i].length
       ·simp [Aut.cells, hlt, hkl]
        refine callT_plain (lit_gen ili iy a.lits[i][k] (hok _ (List.getElem_mem hkl))) rfl (by simp) ?_
        cases hm : a.lits[i][k].lit
        ·have := bad (by rw [hs0, Bool.true_and, List.all_eq_false]; exact ⟨_, List.getElem_mem hkl, by simp [hm]⟩)
         simp [this]
        ·simp
         refine ⟨k + 1, ⟨by omega, fun u hu => ?_⟩, by simp <;> omega, [0], ?_⟩
         ·rw [List.take_succ_eq_append_getElem hkl] at hu
          rcases List.mem_append.1 hu with h | h
          ·exact hal u h
          ·simp at h; subst h; exact hm
         ·simp [hw3]
       ·have hge : a.lits[i].length ≤ k := by omega
        rw [List.take_of_length_le hge] at hal
        simp [Aut.cells, hlt, hkl]
        refine ⟨i + 1, ⟨by omega, fun q hq => ?_⟩, by simp <;> omega, [0], ?_⟩
        ·by_cases e : q < i
         ·exact hall q e
         ·have : q = i := by omega
          subst this
          rw [e3, hs0, Bool.true_and]
          exact List.all_eq_true.2 hal
        ·simp [hw]
    ·have hge : a.lits.length ≤ i := by omega
     have hin : i = a.lits.length := by omega
     have h3 : (List.range a.lits.length).all (rowOk a) = true := by rw [List.all_eq_true]; intro q hq; exact hall q (by simp at hq; omega)
     simp [Aut.cells, hlt]
     refine lwp_loop (fun i : Nat => [(1, .ptr 0 0), (3, intL a.lits.length), (9, intL i)]) (fun _ => [some a.cells]) (fun i => a.acc.length - i)
      (fun i => i ≤ a.acc.length ∧ ∀ r ∈ a.acc.take i, statesB r a.lits.length = true) 0 (by simp) ⟨[0], ?_⟩ ?_
     ·simp [Aut.cells]
     ·rintro k ⟨hk, hal⟩
      have hw3 : IntKind.i64.wrap ((k : Int) + 1) = ((k + 1 : Nat) : Int) := wrap_id (by omega) (by omega)
      by_cases hkl : k < a.acc.length
      ·simp [Aut.cells, hkl]
       refine callT_plain (statesB_gen ist (c := false) a.acc[k] (ha.set _ (List.getElem_mem hkl)) a.lits.length) rfl (by simp) ?_
       cases hs : statesB a.acc[k] a.lits.length
       ·have h4 : (a.acc.all fun r => statesB r a.lits.length) = false := by rw [List.all_eq_false]; exact ⟨_, List.getElem_mem hkl, by simp [hs]⟩
        have e : a.right = false := by unfold Aut.right; rw [h4]; simp
        simp [e]
       ·have hs0 := hs
        simp []
        refine ⟨k + 1, ⟨by omega, fun u hu => ?_⟩, by simp <;> omega, [0], ?_⟩
        ·rw [List.take_succ_eq_append_getElem hkl] at hu
         rcases List.mem_append.1 hu with h | h
         ·exact hal u h
         ·simp at h; subst h; exact hs0
        ·simp [hw3]
      ·have hge : a.acc.length ≤ k := by omega
       rw [List.take_of_length_le hge] at hal
       have h4 : (a.acc.all fun r => statesB r a.lits.length) = true := List.all_eq_true.2 hal
       have e : a.right = true := by unfold Aut.right; rw [h3, h4, decide_eq_true h2]; simp [h1]
       simp [Aut.cells, hkl, e]
  ·have h2' : ¬ (a.next.length : Int) = (a.lits.length : Int) := by omega
   have e : a.right = false := by unfold Aut.right; rw [decide_eq_false h2]; simp
   simp [h1, h2', e]
 ·have e : a.right = false := by unfold Aut.right; simp only [Bool.not_eq_true] at h1; rw [h1]; simp
  simp only [Bool.not_eq_true] at h1
  simp [h1, e]
def Aut.fits (a : Aut) (q : Nat) (v : List Int) : Bool := (a.lits.getD q []).all fun t => decide (t.eval v = 1)
theorem fits_gen {P : Program} {f ev tr : Nat} (ir : compF P f = some (irFits ev)) (iev : compF P ev = some (irEvalR ev tr)) (itr : compF P tr = some irTruth) {a : Aut} (ha : a.Ok) {q : Nat} (hq : q < a.lits.length) {c : Bool} (v : List Int) (hv : v.length ≤ 17592186044416) : PC P f [a.L, intL q, .sl 1 c (v.map intL)] (boolL (a.fits q v)) := by
 obtain ⟨hri, hok⟩ := ha.lit _ (List.getElem_mem hq)
 have e : a.fits q v = a.lits[q].all fun t => decide (t.eval v = 1) := by simp [Aut.fits, List.getD, hq]
 rw [e]
 refine pc_of_call (callAt_enter ir (by simp [irFits]) ?_)
 simp only [irFits]
 simp [Aut.L, Aut.cells]
 refine lwp_loop (fun k : Nat => [(3, .ptr 0 0), (1, intL q), (2, .sl 1 c (v.map intL)), (7, intL k)]) (fun _ => [some a.cells]) (fun k => a.lits[q].length - k) (fun k => k ≤ a.lits[q].length ∧ ∀ u ∈ a.lits[q].take k, u.eval v = 1) 0 (by simp) ⟨[0], ?_⟩ ?_
 ·simp [Aut.cells]
 ·rintro k ⟨hk, hal⟩
  have hw3 : IntKind.i64.wrap ((k : Int) + 1) = ((k + 1 : Nat) : Int) := wrap_id (by omega) (by omega)
  by_cases hkl : k < a.lits[q].length
  ·simp [Aut.cells, hq, hkl]
   refine callT_plain (evalR_gen iev itr (c := c) hv a.lits[q][k] (hok _ (List.getElem_mem hkl))) rfl (by simp) ?_
   by_cases hm : a.lits[q][k].eval v = 1
   ·simp [hm]
    refine ⟨k + 1, ⟨by omega, fun u hu => ?_⟩, by simp <;> omega, [0], ?_⟩
    ·rw [List.take_succ_eq_append_getElem hkl] at hu
     rcases List.mem_append.1 hu with h | h
     ·exact hal u h
     ·simp at h; subst h; exact hm
    ·simp [hw3]
   ·simp [hm]
    exact ⟨a.lits[q][k], List.getElem_mem hkl, hm⟩
  ·have hge : a.lits[q].length ≤ k := by omega
   rw [List.take_of_length_le hge] at hal
   simp [Aut.cells, hq, hkl]
   exact hal
structure Word where
 v : List (List Int)
 loop : Int
def Word.cells (w : Word) : List L := [.sl 1 false (w.v.map intsL), intL w.loop]
def Word.L (w : Word) : L := .agg w.cells
structure Word.Ok (w : Word) : Prop where
 v : w.v.length ≤ 5864062014805
 row : ∀ r ∈ w.v, r.length ≤ 17592186044416
def Word.right (w : Word) : Bool := decide (1 ≤ w.v.length) && decide (0 ≤ w.loop) && decide (w.loop < w.v.length)
def Word.nxt (w : Word) (i : Nat) : Nat := if i + 1 = w.v.length then w.loop.toNat else i + 1
theorem right17_gen {P : Program} {f : Nat} (ir : compF P f = some irRight17) (w : Word) : PC P f [w.L] (boolL w.right) := by
 refine pc_of_call (callAt_enter ir (by simp [irRight17]) ?_)
 by_cases h1 : 1 ≤ w.v.length
 ·have h1' : (1 : Int) ≤ w.v.length := by omega
  by_cases h2 : 0 ≤ w.loop
  ·simp [irRight17, Word.L, Word.cells, Word.right, h1, h1', h2]
  ·simp [irRight17, Word.L, Word.cells, Word.right, h1, h1', h2]
 ·have h1' : ¬ (1 : Int) ≤ w.v.length := by omega
  simp [irRight17, Word.L, Word.cells, Word.right, h1, h1']
theorem nxt17_gen {P : Program} {f : Nat} (ir : compF P f = some irNext17) {w : Word} (hw : w.Ok) (h0 : 0 ≤ w.loop) {i : Nat} (hi : i < w.v.length) : PC P f [w.L, intL i] (intL (w.nxt i)) := by
 have hv := hw.v
 have e1 : IntKind.i64.wrap ((w.v.length : Int) - 1) = (w.v.length : Int) - 1 := wrap_id (by omega) (by omega)
 have e2 : IntKind.i64.wrap ((i : Int) + 1) = (i : Int) + 1 := wrap_id (by omega) (by omega)
 refine pc_of_call (callAt_enter ir (by simp [irNext17]) ?_)
 by_cases h : i + 1 = w.v.length
 ·have h' : (i : Int) = (w.v.length : Int) - 1 := by omega
  simp [irNext17, Word.L, Word.cells, Word.nxt, h, h', e1]
  omega
 ·have h' : ¬ (i : Int) = (w.v.length : Int) - 1 := by omega
  simp [irNext17, Word.L, Word.cells, Word.nxt, h, h', e1, e2]
end Lg

