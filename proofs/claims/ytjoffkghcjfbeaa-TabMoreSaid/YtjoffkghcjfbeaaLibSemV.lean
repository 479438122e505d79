/- The program's own value of a tree. -/
import Derived.Test.YtjoffkghcjfbeaaLibSemT
namespace Lg
open Go
def irEvalP3 (f tr : Nat) : IR := (.seq (.draw [[⟨some 30,.iaddrA 2 1 (.t 5) (.c (.v (.int .i64 0))),none⟩,⟨some 31,.load 1 false (.t 30),none⟩,⟨some 32,.iaddrA 2 1 (.t 5) (.c (.v (.int .i64 1))),none⟩,⟨some 33,.load 1 false (.t 32),none⟩,⟨some 8,.mov (.t 31),none⟩],[⟨some 9,.mov (.t 33),none⟩]]) (.seq (.ops [⟨some 10,.mov (.c (.v (.bool false))),none⟩]) (.seq (.seq (.ops [⟨some 34,.faddr 0 (.t 2),none⟩,⟨some 35,.load 1 false (.t 34),none⟩]) (.block 2 (.seq (.block 19 (.seq (.block 18 (.seq (.block 17 (.seq (.block 16 (.seq (.block 15 (.seq (.block 14 (.seq (.block 13 (.seq (.block 12 (.seq (.block 11 (.seq (.block 10 (.seq (.block 9 (.seq (.block 8 (.seq (.block 7 (.seq (.block 6 (.seq (.block 5 (.seq (.block 4 (.seq (.block 3 (.seq (.seq (.seq (.ops [⟨some 37,.bin .eql false (.t 35) (.c (.v (.int .i64 1))),none⟩,⟨some 36,.mov (.t 37),none⟩]) (.cond (.t 36) (.exit 3) .skip)) (.seq (.seq (.ops [⟨some 39,.bin .eql false (.t 35) (.c (.v (.int .i64 2))),none⟩,⟨some 38,.mov (.t 39),none⟩]) (.cond (.t 38) (.exit 4) .skip)) (.seq (.seq (.ops [⟨some 41,.bin .eql false (.t 35) (.c (.v (.int .i64 3))),none⟩,⟨some 40,.mov (.t 41),none⟩]) (.cond (.t 40) (.exit 5) .skip)) (.seq (.seq (.ops [⟨some 43,.bin .eql false (.t 35) (.c (.v (.int .i64 5))),none⟩,⟨some 42,.mov (.t 43),none⟩]) (.cond (.t 42) (.exit 6) .skip)) (.seq (.seq (.ops [⟨some 45,.bin .eql false (.t 35) (.c (.v (.int .i64 6))),none⟩,⟨some 44,.mov (.t 45),none⟩]) (.cond (.t 44) (.exit 7) .skip)) (.seq (.seq (.ops [⟨some 47,.bin .eql false (.t 35) (.c (.v (.int .i64 4))),none⟩,⟨some 46,.mov (.t 47),none⟩]) (.cond (.t 46) (.exit 8) .skip)) (.seq (.seq (.ops [⟨some 49,.bin .eql false (.t 35) (.c (.v (.int .i64 8))),none⟩,⟨some 48,.mov (.t 49),none⟩]) (.cond (.t 48) (.exit 9) .skip)) (.seq (.seq (.seq (.ops [⟨some 51,.bin .eql false (.t 35) (.c (.v (.int .i64 7))),none⟩,⟨some 50,.mov (.t 51),none⟩]) (.cond (.t 50) .skip (.ops [⟨some 52,.bin .eql false (.t 35) (.c (.v (.int .i64 19))),none⟩,⟨some 50,.mov (.t 52),none⟩]))) (.cond (.t 50) (.exit 10) .skip)) (.seq (.seq (.ops [⟨some 54,.bin .eql false (.t 35) (.c (.v (.int .i64 12))),none⟩,⟨some 53,.mov (.t 54),none⟩]) (.cond (.t 53) (.exit 11) .skip)) (.seq (.seq (.ops [⟨some 56,.bin .eql false (.t 35) (.c (.v (.int .i64 9))),none⟩,⟨some 55,.mov (.t 56),none⟩]) (.cond (.t 55) (.exit 12) .skip)) (.seq (.seq (.ops [⟨some 58,.bin .eql false (.t 35) (.c (.v (.int .i64 11))),none⟩,⟨some 57,.mov (.t 58),none⟩]) (.cond (.t 57) (.exit 13) .skip)) (.seq (.seq (.ops [⟨some 60,.bin .eql false (.t 35) (.c (.v (.int .i64 10))),none⟩,⟨some 59,.mov (.t 60),none⟩]) (.cond (.t 59) (.exit 14) .skip)) (.seq (.seq (.ops [⟨some 62,.bin .eql false (.t 35) (.c (.v (.int .i64 13))),none⟩,⟨some 61,.mov (.t 62),none⟩]) (.cond (.t 61) (.exit 15) .skip)) (.seq (.seq (.ops [⟨some 64,.bin .eql false (.t 35) (.c (.v (.int .i64 15))),none⟩,⟨some 63,.mov (.t 64),none⟩]) (.cond (.t 63) (.exit 16) .skip)) (.seq (.seq (.ops [⟨some 66,.bin .eql false (.t 35) (.c (.v (.int .i64 16))),none⟩,⟨some 65,.mov (.t 66),none⟩]) (.cond (.t 65) (.exit 17) .skip)) (.seq (.seq (.ops [⟨some 68,.bin .eql false (.t 35) (.c (.v (.int .i64 17))),none⟩,⟨some 67,.mov (.t 68),none⟩]) (.cond (.t 67) (.exit 18) .skip)) (.seq (.ops [⟨some 70,.bin .eql false (.t 35) (.c (.v (.int .i64 18))),none⟩,⟨some 69,.mov (.t 70),none⟩]) (.cond (.t 69) (.exit 19) .skip)))))))))))))))))) (.exit 2))) (.seq (.seq (.ops [⟨some 71,.faddr 1 (.t 2),none⟩,⟨some 72,.load 1 false (.t 71),none⟩,⟨some 4,.mov (.t 72),none⟩]) .ret) (.exit 2)))) (.seq (.seq (.seq (.ops [⟨some 73,.faddr 1 (.t 2),none⟩,⟨some 74,.load 1 false (.t 73),none⟩,⟨some 75,.bin .lss false (.t 74) (.c (.v (.int .i64 0))),none⟩,⟨some 76,.mov (.t 75),none⟩,⟨some 77,.faddr 1 (.t 2),some (76,false)⟩,⟨some 78,.load 1 false (.t 77),some (76,false)⟩,⟨some 79,.mov (.t 1),some (76,false)⟩,⟨some 80,.len false (.t 79),some (76,false)⟩,⟨some 81,.bin .geq false (.t 78) (.t 80),some (76,false)⟩,⟨some 82,.pick (.t 76) (.c (.v (.bool true))) (.t 81),none⟩]) (.cond (.t 82) (.seq (.ops [⟨some 4,.mov (.c (.v (.int .i64 0))),none⟩]) .ret) .skip)) (.seq (.ops [⟨some 83,.mov (.t 1),none⟩,⟨some 84,.faddr 1 (.t 2),none⟩,⟨some 85,.load 1 false (.t 84),none⟩,⟨some 86,.iaddr 1 (.t 83) (.t 85),none⟩,⟨some 87,.load 1 false (.t 86),none⟩,⟨some 4,.mov (.t 87),none⟩]) .ret)) (.exit 2)))) (.seq (.seq (.ops [⟨some 88,.mov (.t 8),none⟩,⟨some 89,.mov (.t 9),none⟩,⟨some 90,.bin .add false (.t 88) (.t 89),none⟩,⟨some 4,.mov (.t 90),none⟩]) .ret) (.exit 2)))) (.seq (.seq (.ops [⟨some 91,.mov (.t 8),none⟩,⟨some 92,.mov (.t 9),none⟩,⟨some 93,.bin .mul false (.t 91) (.t 92),none⟩,⟨some 4,.mov (.t 93),none⟩]) .ret) (.exit 2)))) (.ops [⟨some 94,.mov (.t 8),none⟩,⟨some 8,.mov (.c (.v (.int .i64 0))),none⟩,⟨some 9,.mov (.t 94),none⟩]))) (.seq (.seq (.ops [⟨some 95,.mov (.t 8),none⟩,⟨some 96,.mov (.t 9),none⟩,⟨some 97,.bin .sub false (.t 95) (.t 96),none⟩,⟨some 4,.mov (.t 97),none⟩]) .ret) (.exit 2)))) (.ops [⟨some 10,.mov (.c (.v (.bool true))),none⟩]))) (.seq (.seq (.ops [⟨some 98,.mov (.t 8),none⟩,⟨some 99,.mov (.t 9),none⟩,⟨some 100,.bin .eql false (.t 98) (.t 99),none⟩,⟨some 101,.mov (.t 10),none⟩,⟨some 102,.bin .neq true (.t 100) (.t 101),none⟩,⟨some 103,.call tr [(.t 102)],none⟩,⟨some 4,.mov (.t 103),none⟩]) .ret) (.exit 2)))) (.ops [⟨some 10,.mov (.c (.v (.bool true))),none⟩]))) (.seq (.seq (.ops [⟨some 104,.mov (.t 8),none⟩,⟨some 105,.mov (.t 9),none⟩,⟨some 106,.bin .lss false (.t 104) (.t 105),none⟩,⟨some 107,.mov (.t 10),none⟩,⟨some 108,.bin .neq true (.t 106) (.t 107),none⟩,⟨some 109,.call tr [(.t 108)],none⟩,⟨some 4,.mov (.t 109),none⟩]) .ret) (.exit 2)))) (.ops [⟨some 10,.mov (.c (.v (.bool true))),none⟩]))) (.seq (.seq (.ops [⟨some 110,.mov (.t 8),none⟩,⟨some 111,.mov (.t 9),none⟩,⟨some 112,.bin .leq false (.t 110) (.t 111),none⟩,⟨some 113,.mov (.t 10),none⟩,⟨some 114,.bin .neq true (.t 112) (.t 113),none⟩,⟨some 115,.call tr [(.t 114)],none⟩,⟨some 4,.mov (.t 115),none⟩]) .ret) (.exit 2)))) (.seq (.seq (.ops [⟨some 4,.mov (.c (.v (.int .i64 1))),none⟩]) .ret) (.exit 2)))) (.seq (.seq (.ops [⟨some 116,.mov (.t 8),none⟩,⟨some 117,.bin .sub false (.c (.v (.int .i64 1))) (.t 116),none⟩,⟨some 4,.mov (.t 117),none⟩]) .ret) (.exit 2)))) (.seq (.seq (.ops [⟨some 118,.mov (.t 8),none⟩,⟨some 119,.mov (.t 9),none⟩,⟨some 120,.bin .mul false (.t 118) (.t 119),none⟩,⟨some 4,.mov (.t 120),none⟩]) .ret) (.exit 2)))) (.seq (.seq (.ops [⟨some 121,.mov (.t 8),none⟩,⟨some 122,.mov (.t 9),none⟩,⟨some 123,.mm true (.t 121) [(.t 122)],none⟩,⟨some 4,.mov (.t 123),none⟩]) .ret) (.exit 2)))) (.seq (.seq (.ops [⟨some 124,.mov (.t 8),none⟩,⟨some 125,.bin .sub false (.c (.v (.int .i64 1))) (.t 124),none⟩,⟨some 126,.mov (.t 9),none⟩,⟨some 127,.mm true (.t 125) [(.t 126)],none⟩,⟨some 4,.mov (.t 127),none⟩]) .ret) (.exit 2))))) (.seq (.ops [⟨some 4,.mov (.c (.v (.int .i64 0))),none⟩]) .ret))))
def irEvalP (f tr : Nat) : FnIR := ⟨128,[.t 4],(.seq (.ops [⟨some 2,.box (.t 0),none⟩,⟨some 4,.mov (.c (.v (.int .i64 0))),none⟩]) (.seq (.ops [⟨some 5,.alloc (.agg [(.v (.int .i64 0)),(.v (.int .i64 0))]),none⟩]) (.seq (.seq (.ops [⟨some 11,.faddr 3 (.t 2),none⟩,⟨some 12,.load 1 false (.t 11),none⟩,⟨some 13,.faddr 3 (.t 2),none⟩,⟨some 14,.load 1 false (.t 13),none⟩,⟨some 15,.len false (.t 14),none⟩,⟨some 16,.mm false (.t 15) [(.c (.v (.int .i64 2)))],none⟩,⟨some 17,.slice 4 (.t 12) none (some (.t 16)) none,none⟩,⟨some 18,.len false (.t 17),none⟩,⟨some 19,.mov (.c (.v (.int .i64 0))),none⟩]) (.block 0 (.loop (.seq (.ops [⟨some 20,.bin .lss false (.t 19) (.t 18),none⟩]) (.seq (.cond (.t 20) .skip (.exit 0)) (.seq (.block 1 (.seq (.ops [⟨some 21,.mov (.t 19),none⟩,⟨some 22,.iaddr 4 (.t 17) (.t 19),none⟩,⟨some 23,.load 4 true (.t 22),none⟩,⟨some 7,.alloc (.agg [(.v (.int .i64 0)),(.v (.int .i64 0)),(.v (.int .i64 0)),(.v (.slice none 0 0))]),none⟩,⟨some 6,.mov (.t 21),none⟩,⟨none,.store 4 (.t 7) (.t 23),none⟩]) (.ops [⟨some 24,.mov (.t 6),none⟩,⟨some 25,.load 4 true (.t 7),none⟩,⟨some 26,.mov (.t 1),none⟩,⟨some 27,.call f [(.t 25),(.t 26)],none⟩,⟨some 28,.iaddrA 2 1 (.t 5) (.t 24),none⟩,⟨none,.store 1 (.t 28) (.t 27),none⟩]))) (.ops [⟨some 29,.bin .add false (.t 19) (.c (.v (.int .i64 1))),none⟩,⟨some 19,.mov (.t 29),none⟩]))))))) (irEvalP3 f tr))))⟩
def evalE (op n : Int) (a b : Int) (v : List Int) : Int :=
 if op = 1 then n
 else if op = 2 then (if 0 ≤ n then v.getD n.toNat 0 else 0)
 else if op = 3 then w64 (a + b)
 else if op = 4 then w64 (a - b)
 else if op = 5 then w64 (a * b)
 else if op = 6 then w64 (0 - a)
 else if op = 7 then tru (decide (a = b))
 else if op = 8 then tru (decide (a ≠ b))
 else if op = 9 then tru (decide (a < b))
 else if op = 10 then tru (decide (a ≤ b))
 else if op = 11 then tru (decide (b < a))
 else if op = 12 then tru (decide (b ≤ a))
 else if op = 13 then 1
 else if op = 15 then w64 (1 - a)
 else if op = 16 then w64 (a * b)
 else if op = 17 then (if a < b then b else a)
 else if op = 18 then (if w64 (1 - a) < b then b else w64 (1 - a))
 else if op = 19 then tru (decide (a = b))
 else 0
theorem evalE_sw {P : Program} {f tr : Nat} (itr : compF P tr = some irTruth) {op n pl a b : Int} {l : List T} {c : Bool} {v : List Int} (hv : v.length ≤ 17592186044416) {E : Env} (h1 : lk E 1 = .sl 1 c (v.map intL)) (h2 : lk E 2 = .ptr 0 0) (h5 : lk E 5 = .ptr 1 0) (h4 : lk E 4 = intL 0) :
  lwp P 0 (irEvalP3 f tr) (fnPost [RV.t 4] fun x H' => reso H' 4 x = some (intL (evalE op n a b v))) E [some [intL op, intL n, intL pl, .sl 4 false (l.map T.toL)], some [intL a, intL b]] := by
 have hop : op = 1 ∨ op = 2 ∨ op = 3 ∨ op = 4 ∨ op = 5 ∨ op = 6 ∨ op = 7 ∨ op = 8 ∨ op = 9 ∨ op = 10 ∨ op = 11 ∨ op = 12 ∨ op = 13 ∨ op = 15 ∨ op = 16 ∨ op = 17 ∨ op = 18 ∨ op = 19 ∨ (op ≠ 1 ∧ op ≠ 2 ∧ op ≠ 3 ∧ op ≠ 4 ∧ op ≠ 5 ∧ op ≠ 6 ∧ op ≠ 7 ∧ op ≠ 8 ∧ op ≠ 9 ∧ op ≠ 10 ∧ op ≠ 11 ∧ op ≠ 12 ∧ op ≠ 13 ∧ op ≠ 15 ∧ op ≠ 16 ∧ op ≠ 17 ∧ op ≠ 18 ∧ op ≠ 19) := by omega
 have htr := fun b => truth_gen itr b
 rcases hop with rfl | rfl | rfl | rfl | rfl | rfl | rfl | rfl | rfl | rfl | rfl | rfl | rfl | rfl | rfl | rfl | rfl | rfl | ⟨g1, g2, g3, g4, g5, g6, g7, g8, g9, g10, g11, g12, g13, g15, g16, g17, g18, g19⟩
 ·simp [irEvalP3, evalE, h2, h5]
 ·by_cases hn : 0 ≤ n
  ·by_cases hl : n < v.length
   ·obtain ⟨m, rfl⟩ : ∃ m : Nat, n = m := ⟨n.toNat, by omega⟩
    have hm : m < v.length := by omega
    have hn' : ¬ (m : Int) < 0 := by omega
    have hl2 : ¬ (v.length : Int) ≤ (m : Int) := by omega
    simp [irEvalP3, evalE, h1, h2, h5, hm, hn', hl2]
   ·have hl' : v.length ≤ n.toNat := by omega
    have hn' : ¬ n < 0 := by omega
    have hl2 : (v.length : Int) ≤ n := by omega
    simp [irEvalP3, evalE, h1, h2, h5, hn, hn', hl, hl2]
  ·have hn' : n < 0 := by omega
   simp [irEvalP3, evalE, h2, h5, hn, hn']
 ·simp [irEvalP3, evalE, h2, h5]
 ·simp [irEvalP3, evalE, h2, h5]
 ·simp [irEvalP3, evalE, h2, h5]
 ·simp [irEvalP3, evalE, h2, h5]
 ·by_cases hc : a = b <;> simp [irEvalP3, evalE, h2, h5, hc] <;>
  ·refine callT_plain (htr _) rfl rfl ?_
   simp [tru]
 ·by_cases hc : a = b <;> simp [irEvalP3, evalE, h2, h5, hc] <;>
  ·refine callT_plain (htr _) rfl rfl ?_
   simp [tru]
 ·by_cases hc : a < b
  ·have hd : ¬ b ≤ a := by omega
   simp [irEvalP3, evalE, h2, h5, hc]
   refine callT_plain (htr _) rfl rfl ?_
   simp [tru]
  ·have hd : b ≤ a := by omega
   simp [irEvalP3, evalE, h2, h5, hc]
   refine callT_plain (htr _) rfl rfl ?_
   simp [tru]
 ·by_cases hc : a ≤ b
  ·have hd : ¬ b < a := by omega
   simp [irEvalP3, evalE, h2, h5, hc]
   refine callT_plain (htr _) rfl rfl ?_
   simp [tru]
  ·have hd : b < a := by omega
   simp [irEvalP3, evalE, h2, h5, hc]
   refine callT_plain (htr _) rfl rfl ?_
   simp [tru]
 ·by_cases hc : a ≤ b
  ·have hd : ¬ b < a := by omega
   simp [irEvalP3, evalE, h2, h5, hc, hd]
   refine callT_plain (htr _) rfl rfl ?_
   simp [tru]
  ·have hd : b < a := by omega
   simp [irEvalP3, evalE, h2, h5, hc, hd]
   refine callT_plain (htr _) rfl rfl ?_
   simp [tru]
 ·by_cases hc : a < b
  ·have hd : ¬ b ≤ a := by omega
   simp [irEvalP3, evalE, h2, h5, hc, hd]
   refine callT_plain (htr _) rfl rfl ?_
   simp [tru]
  ·have hd : b ≤ a := by omega
   simp [irEvalP3, evalE, h2, h5, hc, hd]
   refine callT_plain (htr _) rfl rfl ?_
   simp [tru]
 ·simp [irEvalP3, evalE, h2, h5]
 ·simp [irEvalP3, evalE, h2, h5]
 ·simp [irEvalP3, evalE, h2, h5]
 ·simp [irEvalP3, evalE, h2, h5]
 ·simp [irEvalP3, evalE, h2, h5]
 ·by_cases hc : a = b <;> simp [irEvalP3, evalE, h2, h5, hc] <;>
  ·refine callT_plain (htr _) rfl rfl ?_
   simp [tru]
 ·simp [irEvalP3, evalE, h2, h5, g1, g2, g3, g4, g5, g6, g7, g8, g9, g10, g11, g12, g13, g15, g16, g17, g18, g19]
def T.evalQ : T → List Int → Int := T.fold fun op n _ _ rs v => Lg.evalE op n ((rs[0]?.map (· v)).getD 0) ((rs[1]?.map (· v)).getD 0) v
theorem T.evalQ_mk {op n pl l} (v : List Int) : (T.mk op n pl l).evalQ v = evalE op n ((l[0]?.map (·.evalQ v)).getD 0) ((l[1]?.map (·.evalQ v)).getD 0) v := by
 simp only [T.evalQ, T.fold_mk, List.getElem?_map, Option.map_map]
 rfl
def evAt (l : List T) (v : List Int) (j : Nat) : Int := (l[j]?.map (·.evalQ v)).getD 0
def evRow (l : List T) (v : List Int) (i : Nat) : List L := [intL (if 0 < i then evAt l v 0 else 0), intL (if 1 < i then evAt l v 1 else 0)]
theorem evalE_gen {P : Program} {f tr : Nat} (ir : compF P f = some (irEvalP f tr)) (itr : compF P tr = some irTruth) {c : Bool} {v : List Int} (hv : v.length ≤ 17592186044416) : ∀ t : T, t.Ok → PC P f [t.toL, .sl 1 c (v.map intL)] (intL (t.evalQ v)) := by
 intro t
 refine T.ind (M := fun t => t.Ok → PC P f [t.toL, .sl 1 c (v.map intL)] (intL (t.evalQ v))) ?_ t
 intro op n pl l ih hok
 have hlen := hok.len
 rw [T.evalQ_mk, toL_mk]
 obtain ⟨k, hk⟩ : ∃ k, k = min l.length 2 := ⟨_, rfl⟩
 have hk1 : k ≤ 2 := by omega
 have hk2 : k ≤ l.length := by omega
 have hk3 : (if (2 : Int) < l.length then 2 else (l.length : Int)) = (k : Int) := by split <;> omega
 refine pc_of_call (callAt_enter ir (by simp [irEvalP]) ?_)
 simp [irEvalP, hk3, hk2]
 refine lwp_loop (fun i : Nat => [(1, .sl 1 c (v.map intL)), (2, .ptr 0 0), (4, intL 0), (5, .ptr 1 0), (17, .sl 4 false ((l.take k).map T.toL)), (18, intL k), (19, intL i)])
   (fun i => [some [intL op, intL n, intL pl, .sl 4 false (l.map T.toL)], some (evRow l v i)]) (fun i => k - i) (fun i => i ≤ k) 0 (by omega) ⟨[0, 1], ?_⟩ ?_
 ·simp [evRow, List.map_take]
 ·intro i hi
  simp
  refine ⟨fun hlt => ?_, fun hge => ?_⟩
  ·have hlt2 : i < l.length := by omega
   have hih := ih l[i] (List.getElem_mem hlt2) (hok.kid _ (List.getElem_mem hlt2))
   have hnw : IntKind.i64.wrap ((i : Int) + 1) = ((i + 1 : Nat) : Int) := by rw [wrap_id (by omega) (by omega)]; rfl
   have hev : evAt l v i = l[i].evalQ v := by simp [evAt, hlt2]
   simp [hlt, hlt2, setCells_tree, toL_cells_length, toL_agg]
   refine callT_plain hih rfl (by simp [mapO, reso_toL]) ?_
   have hi2 : i = 0 ∨ i = 1 := by omega
   have hw1 : IntKind.i64.wrap 1 = 1 := wrap_id (by omega) (by omega)
   have hw2 : IntKind.i64.wrap 2 = 2 := wrap_id (by omega) (by omega)
   rcases hi2 with rfl | rfl
   ·simp [evRow]
    refine ⟨1, by omega, by show k - 1 < k - 0; omega, [0, 1], ?_⟩
    simp [hev, hw1]
   ·simp [evRow]
    refine ⟨2, by omega, by show k - 2 < k - 1; omega, [0, 1], ?_⟩
    simp [hev, hw2]
  ·have : i = k := by omega
   subst this
   have hrow : evRow l v i = [intL (evAt l v 0), intL (evAt l v 1)] := by
    unfold evRow
    by_cases g0 : 0 < i
    ·by_cases g1 : 1 < i
     ·simp [g0, g1]
     ·have : evAt l v 1 = 0 := by simp [evAt, List.getElem?_eq_none (show l.length ≤ 1 by omega)]
      simp [g0, this]
    ·have h0 : evAt l v 0 = 0 := by simp [evAt, List.getElem?_eq_none (show l.length ≤ 0 by omega)]
     have h1 : evAt l v 1 = 0 := by simp [evAt, List.getElem?_eq_none (show l.length ≤ 1 by omega)]
     simp [h0, h1]
   rw [hrow]
   exact evalE_sw (c := c) itr hv (by simp) (by simp) (by simp) (by simp)
end Lg

