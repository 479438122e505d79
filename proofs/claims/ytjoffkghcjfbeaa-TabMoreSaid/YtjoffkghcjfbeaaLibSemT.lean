/- The program's own types and values of trees: the same as the answer's. -/
import Derived.Test.YtjoffkghcjfbeaaLibTreeC
namespace Lg
open Go
def irTypeP3 (f : Nat) : IR := (.seq (.block 2 (.seq (.ops [⟨some 47,.faddr 0 (.t 1),none⟩,⟨some 48,.load 1 false (.t 47),none⟩,⟨some 49,.bin .leq false (.t 48) (.c (.v (.int .i64 6))),none⟩,⟨some 50,.mov (.t 49),none⟩,⟨some 51,.mov (.t 5),some (50,true)⟩,⟨some 52,.pick (.t 50) (.t 51) (.c (.v (.bool false))),none⟩,⟨some 46,.mov (.t 52),none⟩]) (.cond (.t 46) (.seq (.ops [⟨some 2,.mov (.c (.v (.int .i64 1))),none⟩,⟨some 3,.mov (.c (.v (.int .i64 0))),none⟩,⟨some 4,.mov (.c (.v (.int .i64 0))),none⟩]) .ret) (.seq (.seq (.ops [⟨some 54,.faddr 0 (.t 1),none⟩,⟨some 55,.load 1 false (.t 54),none⟩,⟨some 56,.bin .gtr false (.t 55) (.c (.v (.int .i64 6))),none⟩,⟨some 57,.mov (.t 56),none⟩,⟨some 58,.faddr 0 (.t 1),some (57,true)⟩,⟨some 59,.load 1 false (.t 58),some (57,true)⟩,⟨some 60,.bin .leq false (.t 59) (.c (.v (.int .i64 12))),some (57,true)⟩,⟨some 61,.pick (.t 57) (.t 60) (.c (.v (.bool false))),none⟩,⟨some 62,.mov (.t 61),none⟩,⟨some 63,.mov (.t 5),some (62,true)⟩,⟨some 64,.pick (.t 62) (.t 63) (.c (.v (.bool false))),none⟩,⟨some 53,.mov (.t 64),none⟩]) (.cond (.t 53) .skip (.seq (.ops [⟨some 65,.faddr 0 (.t 1),none⟩,⟨some 66,.load 1 false (.t 65),none⟩,⟨some 67,.bin .eql false (.t 66) (.c (.v (.int .i64 13))),none⟩,⟨some 53,.mov (.t 67),none⟩]) (.cond (.t 53) .skip (.seq (.ops [⟨some 68,.faddr 0 (.t 1),none⟩,⟨some 69,.load 1 false (.t 68),none⟩,⟨some 70,.bin .eql false (.t 69) (.c (.v (.int .i64 14))),none⟩,⟨some 53,.mov (.t 70),none⟩]) (.cond (.t 53) .skip (.ops [⟨some 71,.faddr 0 (.t 1),none⟩,⟨some 72,.load 1 false (.t 71),none⟩,⟨some 73,.bin .geq false (.t 72) (.c (.v (.int .i64 15))),none⟩,⟨some 74,.mov (.t 73),none⟩,⟨some 75,.faddr 0 (.t 1),some (74,true)⟩,⟨some 76,.load 1 false (.t 75),some (74,true)⟩,⟨some 77,.bin .leq false (.t 76) (.c (.v (.int .i64 19))),some (74,true)⟩,⟨some 78,.pick (.t 74) (.t 77) (.c (.v (.bool false))),none⟩,⟨some 79,.mov (.t 78),none⟩,⟨some 80,.mov (.t 6),some (79,true)⟩,⟨some 81,.pick (.t 79) (.t 80) (.c (.v (.bool false))),none⟩,⟨some 53,.mov (.t 81),none⟩]))))))) (.cond (.t 53) (.seq (.ops [⟨some 2,.mov (.c (.v (.int .i64 2))),none⟩,⟨some 3,.mov (.c (.v (.int .i64 0))),none⟩,⟨some 4,.mov (.c (.v (.int .i64 0))),none⟩]) .ret) (.seq (.ops [⟨some 83,.faddr 0 (.t 1),none⟩,⟨some 84,.load 1 false (.t 83),none⟩,⟨some 85,.bin .geq false (.t 84) (.c (.v (.int .i64 15))),none⟩,⟨some 86,.mov (.t 85),none⟩,⟨some 87,.mov (.t 7),some (86,true)⟩,⟨some 88,.pick (.t 86) (.t 87) (.c (.v (.bool false))),none⟩,⟨some 82,.mov (.t 88),none⟩]) (.cond (.t 82) (.seq (.ops [⟨some 2,.mov (.c (.v (.int .i64 3))),none⟩,⟨some 3,.mov (.c (.v (.int .i64 0))),none⟩,⟨some 4,.mov (.c (.v (.int .i64 0))),none⟩]) .ret) .skip))))))) (.seq (.draw [[⟨some 89,.faddr 2 (.t 1),none⟩,⟨some 90,.load 1 false (.t 89),none⟩,⟨some 2,.mov (.c (.v (.int .i64 0))),none⟩,⟨some 3,.mov (.c (.v (.int .i64 4))),none⟩],[⟨some 4,.mov (.t 90),none⟩]]) .ret))
def irTypeP (f : Nat) : FnIR := ⟨91,[.t 2,.t 3,.t 4],(.seq (.ops [⟨some 1,.box (.t 0),none⟩,⟨some 2,.mov (.c (.v (.int .i64 0))),none⟩,⟨some 3,.mov (.c (.v (.int .i64 0))),none⟩,⟨some 4,.mov (.c (.v (.int .i64 0))),none⟩]) (.seq (.ops [⟨some 5,.mov (.c (.v (.bool true))),none⟩,⟨some 6,.mov (.c (.v (.bool true))),none⟩,⟨some 7,.mov (.c (.v (.bool true))),none⟩]) (.seq (.seq (.ops [⟨some 13,.faddr 3 (.t 1),none⟩,⟨some 14,.load 1 false (.t 13),none⟩,⟨some 15,.len false (.t 14),none⟩,⟨some 16,.mov (.c (.v (.int .i64 0))),none⟩]) (.block 0 (.loop (.seq (.ops [⟨some 17,.bin .lss false (.t 16) (.t 15),none⟩]) (.seq (.cond (.t 17) .skip (.exit 0)) (.seq (.block 1 (.seq (.ops [⟨some 18,.iaddr 4 (.t 14) (.t 16),none⟩,⟨some 19,.load 4 true (.t 18),none⟩,⟨some 9,.alloc (.agg [(.v (.int .i64 0)),(.v (.int .i64 0)),(.v (.int .i64 0)),(.v (.slice none 0 0))]),none⟩,⟨none,.store 4 (.t 9) (.t 19),none⟩]) (.seq (.ops [⟨some 21,.load 4 true (.t 9),none⟩,⟨some 22,.call f [(.t 21)],none⟩,⟨some 20,.mov (.t 22),none⟩,⟨some 23,.extract (.t 20) 0,none⟩,⟨some 24,.extract (.t 20) 1,none⟩,⟨some 25,.extract (.t 20) 2,none⟩,⟨some 10,.mov (.t 23),none⟩,⟨some 11,.mov (.t 24),none⟩,⟨some 12,.mov (.t 25),none⟩]) (.seq (.seq (.ops [⟨some 26,.mov (.t 11),none⟩,⟨some 27,.bin .neq false (.t 26) (.c (.v (.int .i64 0))),none⟩]) (.cond (.t 27) (.seq (.ops [⟨some 28,.mov (.t 11),none⟩,⟨some 29,.mov (.t 12),none⟩,⟨some 2,.mov (.c (.v (.int .i64 0))),none⟩,⟨some 3,.mov (.t 28),none⟩,⟨some 4,.mov (.t 29),none⟩]) .ret) .skip)) (.seq (.ops [⟨some 30,.mov (.t 5),none⟩,⟨some 31,.mov (.t 30),none⟩,⟨some 32,.mov (.t 10),some (31,true)⟩,⟨some 33,.bin .eql false (.t 32) (.c (.v (.int .i64 1))),some (31,true)⟩,⟨some 34,.pick (.t 31) (.t 33) (.c (.v (.bool false))),none⟩,⟨some 5,.mov (.t 34),none⟩]) (.seq (.ops [⟨some 35,.mov (.t 6),none⟩,⟨some 36,.mov (.t 35),none⟩,⟨some 37,.mov (.t 10),some (36,true)⟩,⟨some 38,.bin .eql false (.t 37) (.c (.v (.int .i64 2))),some (36,true)⟩,⟨some 39,.pick (.t 36) (.t 38) (.c (.v (.bool false))),none⟩,⟨some 6,.mov (.t 39),none⟩]) (.ops [⟨some 40,.mov (.t 7),none⟩,⟨some 41,.mov (.t 40),none⟩,⟨some 42,.mov (.t 10),some (41,true)⟩,⟨some 43,.bin .neq false (.t 42) (.c (.v (.int .i64 1))),some (41,true)⟩,⟨some 44,.pick (.t 41) (.t 43) (.c (.v (.bool false))),none⟩,⟨some 7,.mov (.t 44),none⟩]))))))) (.ops [⟨some 45,.bin .add false (.t 16) (.c (.v (.int .i64 1))),none⟩,⟨some 16,.mov (.t 45),none⟩]))))))) (irTypeP3 f))))⟩
theorem typeP_end {P : Program} {f : Nat} {op n pl : Int} {a b c : Bool} {l : List T} {E : Env} (h1 : lk E 1 = .ptr 0 0) (h5 : lk E 5 = boolL a) (h6 : lk E 6 = boolL b) (h7 : lk E 7 = boolL c) {r : L}
  (hr : r = (let y := typeEnd op pl a b c; .tup [intL y.1, intL y.2.1, intL y.2.2])) :
  lwp P 0 (irTypeP3 f) (fnPost [RV.t 2, RV.t 3, RV.t 4] fun x H' => reso H' 4 x = some r) E [some [intL op, intL n, intL pl, .sl 4 false (l.map T.toL)]] := by
 subst hr
 have hop : (op ≤ 6) ∨ (7 ≤ op ∧ op ≤ 12) ∨ op = 13 ∨ op = 14 ∨ (15 ≤ op ∧ op ≤ 19) ∨ 20 ≤ op := by omega
 rcases hop with g | ⟨g, g'⟩ | rfl | rfl | ⟨g, g'⟩ | g
 ·have f1 : ¬ 7 ≤ op := by omega
  have f2 : ¬ op = 13 := by omega
  have f3 : ¬ op = 14 := by omega
  have f4 : ¬ 15 ≤ op := by omega
  have f5 : ¬ 6 < op := by omega
  cases a <;> simp [irTypeP3, typeEnd, h1, h5, g, f1, f2, f3, f4, f5]
 ·have f1 : ¬ op ≤ 6 := by omega
  have f2 : ¬ op = 13 := by omega
  have f3 : ¬ op = 14 := by omega
  have f4 : ¬ 15 ≤ op := by omega
  have f5 : 6 < op := by omega
  cases a <;> simp [irTypeP3, typeEnd, h1, h5, g, g', f1, f2, f3, f4, f5]
 ·cases a <;> simp [irTypeP3, typeEnd, h1]
 ·cases a <;> simp [irTypeP3, typeEnd, h1]
 ·have f1 : ¬ op ≤ 6 := by omega
  have f2 : ¬ op = 13 := by omega
  have f3 : ¬ op = 14 := by omega
  have f4 : 7 ≤ op := by omega
  have f5 : ¬ op ≤ 12 := by omega
  have f6 : 6 < op := by omega
  cases b <;> cases c <;> simp [irTypeP3, typeEnd, h1, h6, h7, g, g', f1, f2, f3, f4, f5, f6]
 ·have f1 : ¬ op ≤ 6 := by omega
  have f2 : ¬ op = 13 := by omega
  have f3 : ¬ op = 14 := by omega
  have f4 : 7 ≤ op := by omega
  have f5 : ¬ op ≤ 12 := by omega
  have f6 : 15 ≤ op := by omega
  have f7 : ¬ op ≤ 19 := by omega
  have f8 : 6 < op := by omega
  cases c <;> simp [irTypeP3, typeEnd, h1, h7, f6, f7, f1, f2, f3, f4, f5, f8]
theorem setCells_tree {a b c d : L} {t : T} : setCells [a, b, c, d] 0 t.toL.cells = t.toL.cells := by
 cases t; simp [T.toL, L.cells, setCells]
theorem all_take_succ {α : Type} {p : α → Bool} {l : List α} {i : Nat} (h : i < l.length) : (l.take (i + 1)).all p = ((l.take i).all p && p l[i]) := by
 rw [List.take_succ_eq_append_getElem h, List.all_append]; simp
def allIs (y : Int) (l : List T) (i : Nat) : Bool := (l.take i).all fun t => decide (t.type.1 = y)
def allNo (y : Int) (l : List T) (i : Nat) : Bool := (l.take i).all fun t => decide (t.type.1 ≠ y)
theorem allIs_succ {y : Int} {l : List T} {i : Nat} (h : i < l.length) : allIs y l (i + 1) = (allIs y l i && decide (l[i].type.1 = y)) := all_take_succ h
theorem allNo_succ {y : Int} {l : List T} {i : Nat} (h : i < l.length) : allNo y l (i + 1) = (allNo y l i && decide (l[i].type.1 ≠ y)) := all_take_succ h
theorem allIs_zero {y : Int} {l : List T} : allIs y l 0 = true := by simp [allIs]
theorem allNo_zero {y : Int} {l : List T} : allNo y l 0 = true := by simp [allNo]
theorem allIs_all {y : Int} {l : List T} : allIs y l l.length = decide (∀ t ∈ l, t.type.1 = y) := by rw [Bool.eq_iff_iff]; simp [allIs]
theorem allNo_all {y : Int} {l : List T} : allNo y l l.length = decide (∀ t ∈ l, t.type.1 ≠ y) := by rw [Bool.eq_iff_iff]; simp [allNo]
theorem typeP_gen {P : Program} {f : Nat} (ir : compF P f = some (irTypeP f)) : ∀ t : T, t.Ok → PC P f [t.toL] (.tup [intL t.type.1, intL t.type.2.1, intL t.type.2.2]) := by
 intro t
 refine T.ind (M := fun t => t.Ok → PC P f [t.toL] (.tup [intL t.type.1, intL t.type.2.1, intL t.type.2.2])) ?_ t
 intro op n pl l ih hok
 have hlen := hok.len
 rw [T.type_mk, toL_mk]
 refine pc_of_call (callAt_enter ir (by simp [irTypeP]) ?_)
 simp [irTypeP]
 refine lwp_loop (fun i : Nat => [(1, .ptr 0 0), (5, boolL (allIs 1 l i)), (6, boolL (allIs 2 l i)), (7, boolL (allNo 1 l i)), (14, .sl 4 false (l.map T.toL)), (15, intL l.length), (16, intL i)])
   (fun _ => [some [intL op, intL n, intL pl, .sl 4 false (l.map T.toL)]]) (fun i => l.length - i) (fun i => i ≤ l.length ∧ ∀ t ∈ l.take i, t.type.2.1 = 0) 0 (by simp) ⟨[0], ?_⟩ ?_
 ·simp [allIs_zero, allNo_zero]
 ·rintro i ⟨hi, hall⟩
  simp
  refine ⟨fun hlt => ?_, fun hge => ?_⟩
  ·simp [hlt, setCells_tree, toL_cells_length, toL_agg]
   have hih := ih l[i] (List.getElem_mem hlt) (hok.kid _ (List.getElem_mem hlt))
   have htc := l[i].type_cases
   by_cases hbad : l[i].type.2.1 = 0
   ·have htc' := htc.resolve_left (by simp [hbad])
    have hnext : ∀ t ∈ l.take (i + 1), t.type.2.1 = 0 := fun t ht => by
     rw [List.take_succ_eq_append_getElem hlt] at ht
     rcases List.mem_append.1 ht with h | h
     ·exact hall t h
     ·simp at h; subst h; exact hbad
    have c1 := allIs_succ (y := 1) hlt
    have c2 := allIs_succ (y := 2) hlt
    have c3 := allNo_succ (y := 1) hlt
    have hnw : IntKind.i64.wrap ((i : Int) + 1) = ((i + 1 : Nat) : Int) := by rw [wrap_id (by omega) (by omega)]; rfl
    cases b1 : allIs 1 l i <;> cases b2 : allIs 2 l i <;> cases b3 : allNo 1 l i
    all_goals
     rw [b1] at c1
     rw [b2] at c2
     rw [b3] at c3
     rcases htc' with e | e | e
    all_goals
     rw [e] at hih c1 c2 c3
     simp at c1 c2 c3
     refine callT_plain hih rfl (by simp [mapO, reso_toL]) ?_
     simp [hnw]
     refine ⟨i + 1, ⟨by omega, hnext⟩, by show l.length - (i + 1) < l.length - i; omega, [0], ?_⟩
     simp [c1, c2, c3]
   ·refine callT_plain hih rfl (by simp [mapO, reso_toL]) ?_
    rw [typeStep_bad hlt hall hbad]
    simp [hbad]
  ·have : i = l.length := by omega
   subst this
   rw [List.take_length] at hall
   simp
   refine typeP_end (a := allIs 1 l l.length) (b := allIs 2 l l.length) (c := allNo 1 l l.length) (by simp) (by simp) (by simp) (by simp) ?_
   rw [typeStep_good hall, allIs_all, allIs_all, allNo_all]
theorem litP_gen {P : Program} {f y : Nat} (ir : compF P f = some (irLit y)) (hy : compF P y = some (irTypeP y)) (t : T) (hok : t.Ok) : PC P f [t.toL] (boolL t.lit) := by
 refine pc_of_call (callAt_enter ir (by simp [irLit]) ?_)
 simp [irLit]
 refine callT_plain (typeP_gen hy t hok) rfl (by simp) ?_
 simp [T.lit]
 by_cases h : t.type.2.1 = 0 <;> simp [h]
end Lg

