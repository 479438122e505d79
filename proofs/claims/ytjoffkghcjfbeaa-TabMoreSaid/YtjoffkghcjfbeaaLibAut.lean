/- Automata and words: what the functions of the document's answer on them compute. -/
import Derived.Test.YtjoffkghcjfbeaaLibTreeC
import Derived.Test.YtjoffkghcjfbeaaLibFair
namespace Lg
open Go
def irStates : FnIR := ⟨25,[.t 4],(.seq (.ops [⟨some 4,.mov (.c (.v (.bool false))),none⟩]) (.seq (.seq (.ops [⟨some 5,.mov (.c (.v (.int .i64 0))),none⟩]) (.block 0 (.loop (.seq (.seq (.ops [⟨some 6,.mov (.t 5),none⟩,⟨some 7,.mov (.t 0),none⟩,⟨some 8,.len false (.t 7),none⟩,⟨some 9,.bin .lss false (.t 6) (.t 8),none⟩]) (.cond (.t 9) .skip (.exit 0))) (.seq (.block 1 (.seq (.ops [⟨some 12,.mov (.t 0),none⟩,⟨some 13,.mov (.t 5),none⟩,⟨some 14,.iaddr 1 (.t 12) (.t 13),none⟩,⟨some 15,.load 1 false (.t 14),none⟩,⟨some 16,.bin .lss false (.t 15) (.c (.v (.int .i64 0))),none⟩,⟨some 17,.mov (.t 16),none⟩,⟨some 18,.mov (.t 0),some (17,false)⟩,⟨some 19,.mov (.t 5),some (17,false)⟩,⟨some 20,.iaddr 1 (.t 18) (.t 19),some (17,false)⟩,⟨some 21,.load 1 false (.t 20),some (17,false)⟩,⟨some 22,.mov (.t 1),some (17,false)⟩,⟨some 23,.bin .geq false (.t 21) (.t 22),some (17,false)⟩,⟨some 24,.pick (.t 17) (.c (.v (.bool true))) (.t 23),none⟩]) (.cond (.t 24) (.seq (.ops [⟨some 4,.mov (.c (.v (.bool false))),none⟩]) .ret) .skip))) (.ops [⟨some 10,.mov (.t 5),none⟩,⟨some 11,.bin .add false (.t 10) (.c (.v (.int .i64 1))),none⟩,⟨some 5,.mov (.t 11),none⟩])))))) (.seq (.ops [⟨some 4,.mov (.c (.v (.bool true))),none⟩]) .ret)))⟩
def irFew182 (t : Nat) : IR := (.seq (.ops [⟨some 6,.mov (.c (.v (.int .i64 0))),none⟩]) (.block 0 (.loop (.seq (.seq (.ops [⟨some 18,.mov (.t 6),none⟩,⟨some 19,.faddr 1 (.t 2),none⟩,⟨some 20,.load 1 false (.t 19),none⟩,⟨some 21,.len false (.t 20),none⟩,⟨some 22,.bin .lss false (.t 18) (.t 21),none⟩,⟨some 23,.mov (.t 22),none⟩,⟨some 24,.mov (.t 5),some (23,true)⟩,⟨some 25,.bin .lss false (.t 24) (.c (.v (.int .i64 4000))),some (23,true)⟩,⟨some 26,.pick (.t 23) (.t 25) (.c (.v (.bool false))),none⟩]) (.cond (.t 26) .skip (.exit 0))) (.seq (.block 1 (.ops [⟨some 29,.mov (.t 5),none⟩,⟨some 30,.faddr 1 (.t 2),none⟩,⟨some 31,.load 1 false (.t 30),none⟩,⟨some 32,.mov (.t 6),none⟩,⟨some 33,.iaddr 1 (.t 31) (.t 32),none⟩,⟨some 34,.load 1 false (.t 33),none⟩,⟨some 35,.len false (.t 34),none⟩,⟨some 36,.bin .add false (.t 29) (.t 35),none⟩,⟨some 5,.mov (.t 36),none⟩])) (.ops [⟨some 27,.mov (.t 6),none⟩,⟨some 28,.bin .add false (.t 27) (.c (.v (.int .i64 1))),none⟩,⟨some 6,.mov (.t 28),none⟩]))))))
def irFew183 (t : Nat) : IR := (.seq (.ops [⟨some 7,.mov (.c (.v (.int .i64 0))),none⟩]) (.block 2 (.loop (.seq (.seq (.ops [⟨some 37,.mov (.t 7),none⟩,⟨some 38,.faddr 3 (.t 2),none⟩,⟨some 39,.load 1 false (.t 38),none⟩,⟨some 40,.len false (.t 39),none⟩,⟨some 41,.bin .lss false (.t 37) (.t 40),none⟩,⟨some 42,.mov (.t 41),none⟩,⟨some 43,.mov (.t 5),some (42,true)⟩,⟨some 44,.bin .lss false (.t 43) (.c (.v (.int .i64 4000))),some (42,true)⟩,⟨some 45,.pick (.t 42) (.t 44) (.c (.v (.bool false))),none⟩]) (.cond (.t 45) .skip (.exit 2))) (.seq (.block 3 (.ops [⟨some 48,.mov (.t 5),none⟩,⟨some 49,.faddr 3 (.t 2),none⟩,⟨some 50,.load 1 false (.t 49),none⟩,⟨some 51,.mov (.t 7),none⟩,⟨some 52,.iaddr 1 (.t 50) (.t 51),none⟩,⟨some 53,.load 1 false (.t 52),none⟩,⟨some 54,.len false (.t 53),none⟩,⟨some 55,.bin .add false (.t 48) (.t 54),none⟩,⟨some 5,.mov (.t 55),none⟩])) (.ops [⟨some 46,.mov (.t 7),none⟩,⟨some 47,.bin .add false (.t 46) (.c (.v (.int .i64 1))),none⟩,⟨some 7,.mov (.t 47),none⟩]))))))
def irFew184 (t : Nat) : IR := (.seq (.ops [⟨some 8,.mov (.c (.v (.int .i64 0))),none⟩]) (.block 4 (.loop (.seq (.seq (.ops [⟨some 56,.mov (.t 8),none⟩,⟨some 57,.faddr 0 (.t 2),none⟩,⟨some 58,.load 1 false (.t 57),none⟩,⟨some 59,.len false (.t 58),none⟩,⟨some 60,.bin .lss false (.t 56) (.t 59),none⟩,⟨some 61,.mov (.t 60),none⟩,⟨some 62,.mov (.t 5),some (61,true)⟩,⟨some 63,.bin .lss false (.t 62) (.c (.v (.int .i64 4000))),some (61,true)⟩,⟨some 64,.pick (.t 61) (.t 63) (.c (.v (.bool false))),none⟩]) (.cond (.t 64) .skip (.exit 4))) (.seq (.block 5 (.seq (.ops [⟨some 67,.mov (.t 5),none⟩,⟨some 68,.faddr 0 (.t 2),none⟩,⟨some 69,.load 1 false (.t 68),none⟩,⟨some 70,.mov (.t 8),none⟩,⟨some 71,.iaddr 1 (.t 69) (.t 70),none⟩,⟨some 72,.load 1 false (.t 71),none⟩,⟨some 73,.len false (.t 72),none⟩,⟨some 74,.bin .add false (.t 67) (.t 73),none⟩,⟨some 5,.mov (.t 74),none⟩]) (.seq (.ops [⟨some 9,.mov (.c (.v (.int .i64 0))),none⟩]) (.block 6 (.loop (.seq (.seq (.ops [⟨some 75,.mov (.t 9),none⟩,⟨some 76,.faddr 0 (.t 2),none⟩,⟨some 77,.load 1 false (.t 76),none⟩,⟨some 78,.mov (.t 8),none⟩,⟨some 79,.iaddr 1 (.t 77) (.t 78),none⟩,⟨some 80,.load 1 false (.t 79),none⟩,⟨some 81,.len false (.t 80),none⟩,⟨some 82,.bin .lss false (.t 75) (.t 81),none⟩]) (.cond (.t 82) .skip (.exit 6))) (.seq (.block 7 (.seq (.ops [⟨some 85,.faddr 0 (.t 2),none⟩,⟨some 86,.load 1 false (.t 85),none⟩,⟨some 87,.mov (.t 8),none⟩,⟨some 88,.iaddr 1 (.t 86) (.t 87),none⟩,⟨some 89,.load 1 false (.t 88),none⟩,⟨some 90,.mov (.t 9),none⟩,⟨some 91,.iaddr 4 (.t 89) (.t 90),none⟩,⟨some 92,.load 4 true (.t 91),none⟩,⟨some 93,.call t [(.t 92)],none⟩,⟨some 10,.mov (.t 93),none⟩]) (.seq (.ops [⟨some 94,.mov (.t 10),none⟩,⟨some 95,.un .not (.t 94),none⟩]) (.cond (.t 95) (.seq (.ops [⟨some 4,.mov (.c (.v (.bool false))),none⟩]) .ret) .skip)))) (.ops [⟨some 83,.mov (.t 9),none⟩,⟨some 84,.bin .add false (.t 83) (.c (.v (.int .i64 1))),none⟩,⟨some 9,.mov (.t 84),none⟩])))))))) (.ops [⟨some 65,.mov (.t 8),none⟩,⟨some 66,.bin .add false (.t 65) (.c (.v (.int .i64 1))),none⟩,⟨some 8,.mov (.t 66),none⟩]))))))
def irFew18 (t : Nat) : FnIR := ⟨112,[.t 4],(.seq (.ops [⟨some 2,.box (.t 0),none⟩,⟨some 4,.mov (.c (.v (.bool false))),none⟩]) (.seq (.ops [⟨some 11,.faddr 2 (.t 2),none⟩,⟨some 12,.load 1 false (.t 11),none⟩,⟨some 13,.len false (.t 12),none⟩,⟨some 14,.faddr 3 (.t 2),none⟩,⟨some 15,.load 1 false (.t 14),none⟩,⟨some 16,.len false (.t 15),none⟩,⟨some 17,.bin .add false (.t 13) (.t 16),none⟩,⟨some 5,.mov (.t 17),none⟩]) (.seq (irFew182 t) (.seq (irFew183 t) (.seq (irFew184 t) (.seq (.ops [⟨some 96,.mov (.t 5),none⟩,⟨some 97,.bin .lss false (.t 96) (.c (.v (.int .i64 4000))),none⟩,⟨some 98,.mov (.t 97),none⟩,⟨some 99,.faddr 0 (.t 2),some (98,true)⟩,⟨some 100,.load 1 false (.t 99),some (98,true)⟩,⟨some 101,.len false (.t 100),some (98,true)⟩,⟨some 102,.mov (.t 1),some (98,true)⟩,⟨some 103,.bin .leq false (.t 101) (.t 102),some (98,true)⟩,⟨some 104,.pick (.t 98) (.t 103) (.c (.v (.bool false))),none⟩,⟨some 105,.mov (.t 104),none⟩,⟨some 106,.faddr 1 (.t 2),some (105,true)⟩,⟨some 107,.load 1 false (.t 106),some (105,true)⟩,⟨some 108,.len false (.t 107),some (105,true)⟩,⟨some 109,.mov (.t 1),some (105,true)⟩,⟨some 110,.bin .leq false (.t 108) (.t 109),some (105,true)⟩,⟨some 111,.pick (.t 105) (.t 110) (.c (.v (.bool false))),none⟩,⟨some 4,.mov (.t 111),none⟩]) .ret))))))⟩
def irMay18 (t : Nat) : FnIR := ⟨37,[.t 4],(.seq (.ops [⟨some 2,.box (.t 0),none⟩,⟨some 4,.mov (.c (.v (.bool false))),none⟩]) (.seq (.seq (.ops [⟨some 5,.mov (.c (.v (.int .i64 0))),none⟩]) (.block 0 (.loop (.seq (.seq (.ops [⟨some 8,.mov (.t 5),none⟩,⟨some 9,.faddr 0 (.t 2),none⟩,⟨some 10,.load 1 false (.t 9),none⟩,⟨some 11,.len false (.t 10),none⟩,⟨some 12,.bin .lss false (.t 8) (.t 11),none⟩]) (.cond (.t 12) .skip (.exit 0))) (.seq (.block 1 (.seq (.ops [⟨some 6,.mov (.c (.v (.int .i64 0))),none⟩]) (.block 2 (.loop (.seq (.seq (.ops [⟨some 15,.mov (.t 6),none⟩,⟨some 16,.faddr 0 (.t 2),none⟩,⟨some 17,.load 1 false (.t 16),none⟩,⟨some 18,.mov (.t 5),none⟩,⟨some 19,.iaddr 1 (.t 17) (.t 18),none⟩,⟨some 20,.load 1 false (.t 19),none⟩,⟨some 21,.len false (.t 20),none⟩,⟨some 22,.bin .lss false (.t 15) (.t 21),none⟩]) (.cond (.t 22) .skip (.exit 2))) (.seq (.block 3 (.seq (.ops [⟨some 25,.faddr 0 (.t 2),none⟩,⟨some 26,.load 1 false (.t 25),none⟩,⟨some 27,.mov (.t 5),none⟩,⟨some 28,.iaddr 1 (.t 26) (.t 27),none⟩,⟨some 29,.load 1 false (.t 28),none⟩,⟨some 30,.mov (.t 6),none⟩,⟨some 31,.iaddr 4 (.t 29) (.t 30),none⟩,⟨some 32,.load 4 true (.t 31),none⟩,⟨some 33,.mov (.t 1),none⟩,⟨some 34,.call t [(.t 32),(.t 33)],none⟩,⟨some 7,.mov (.t 34),none⟩]) (.seq (.ops [⟨some 35,.mov (.t 7),none⟩,⟨some 36,.un .not (.t 35),none⟩]) (.cond (.t 36) (.seq (.ops [⟨some 4,.mov (.c (.v (.bool false))),none⟩]) .ret) .skip)))) (.ops [⟨some 23,.mov (.t 6),none⟩,⟨some 24,.bin .add false (.t 23) (.c (.v (.int .i64 1))),none⟩,⟨some 6,.mov (.t 24),none⟩]))))))) (.ops [⟨some 13,.mov (.t 5),none⟩,⟨some 14,.bin .add false (.t 13) (.c (.v (.int .i64 1))),none⟩,⟨some 5,.mov (.t 14),none⟩])))))) (.seq (.ops [⟨some 4,.mov (.c (.v (.bool true))),none⟩]) .ret)))⟩
def irRight18 (st li : Nat) : FnIR := ⟨78,[.t 2],(.seq (.ops [⟨some 1,.box (.t 0),none⟩,⟨some 2,.mov (.c (.v (.bool false))),none⟩]) (.seq (.ops [⟨some 11,.faddr 0 (.t 1),none⟩,⟨some 12,.load 1 false (.t 11),none⟩,⟨some 13,.len false (.t 12),none⟩,⟨some 3,.mov (.t 13),none⟩]) (.seq (.ops [⟨some 14,.faddr 2 (.t 1),none⟩,⟨some 15,.load 1 false (.t 14),none⟩,⟨some 16,.mov (.t 3),none⟩,⟨some 17,.call st [(.t 15),(.t 16)],none⟩,⟨some 4,.mov (.t 17),none⟩]) (.seq (.seq (.ops [⟨some 18,.mov (.t 4),none⟩,⟨some 19,.un .not (.t 18),none⟩,⟨some 20,.mov (.t 19),none⟩,⟨some 21,.faddr 1 (.t 1),some (20,false)⟩,⟨some 22,.load 1 false (.t 21),some (20,false)⟩,⟨some 23,.len false (.t 22),some (20,false)⟩,⟨some 24,.mov (.t 3),some (20,false)⟩,⟨some 25,.bin .neq false (.t 23) (.t 24),some (20,false)⟩,⟨some 26,.pick (.t 20) (.c (.v (.bool true))) (.t 25),none⟩]) (.cond (.t 26) (.seq (.ops [⟨some 2,.mov (.c (.v (.bool false))),none⟩]) .ret) .skip)) (.seq (.seq (.ops [⟨some 5,.mov (.c (.v (.int .i64 0))),none⟩]) (.block 0 (.loop (.seq (.seq (.ops [⟨some 27,.mov (.t 5),none⟩,⟨some 28,.mov (.t 3),none⟩,⟨some 29,.bin .lss false (.t 27) (.t 28),none⟩]) (.cond (.t 29) .skip (.exit 0))) (.seq (.block 1 (.seq (.ops [⟨some 32,.faddr 1 (.t 1),none⟩,⟨some 33,.load 1 false (.t 32),none⟩,⟨some 34,.mov (.t 5),none⟩,⟨some 35,.iaddr 1 (.t 33) (.t 34),none⟩,⟨some 36,.load 1 false (.t 35),none⟩,⟨some 37,.mov (.t 3),none⟩,⟨some 38,.call st [(.t 36),(.t 37)],none⟩,⟨some 6,.mov (.t 38),none⟩]) (.seq (.seq (.ops [⟨some 39,.mov (.t 6),none⟩,⟨some 40,.un .not (.t 39),none⟩]) (.cond (.t 40) (.seq (.ops [⟨some 2,.mov (.c (.v (.bool false))),none⟩]) .ret) .skip)) (.seq (.ops [⟨some 7,.mov (.c (.v (.int .i64 0))),none⟩]) (.block 2 (.loop (.seq (.seq (.ops [⟨some 41,.mov (.t 7),none⟩,⟨some 42,.faddr 0 (.t 1),none⟩,⟨some 43,.load 1 false (.t 42),none⟩,⟨some 44,.mov (.t 5),none⟩,⟨some 45,.iaddr 1 (.t 43) (.t 44),none⟩,⟨some 46,.load 1 false (.t 45),none⟩,⟨some 47,.len false (.t 46),none⟩,⟨some 48,.bin .lss false (.t 41) (.t 47),none⟩]) (.cond (.t 48) .skip (.exit 2))) (.seq (.block 3 (.seq (.ops [⟨some 51,.faddr 0 (.t 1),none⟩,⟨some 52,.load 1 false (.t 51),none⟩,⟨some 53,.mov (.t 5),none⟩,⟨some 54,.iaddr 1 (.t 52) (.t 53),none⟩,⟨some 55,.load 1 false (.t 54),none⟩,⟨some 56,.mov (.t 7),none⟩,⟨some 57,.iaddr 4 (.t 55) (.t 56),none⟩,⟨some 58,.load 4 true (.t 57),none⟩,⟨some 59,.call li [(.t 58)],none⟩,⟨some 8,.mov (.t 59),none⟩]) (.seq (.ops [⟨some 60,.mov (.t 8),none⟩,⟨some 61,.un .not (.t 60),none⟩]) (.cond (.t 61) (.seq (.ops [⟨some 2,.mov (.c (.v (.bool false))),none⟩]) .ret) .skip)))) (.ops [⟨some 49,.mov (.t 7),none⟩,⟨some 50,.bin .add false (.t 49) (.c (.v (.int .i64 1))),none⟩,⟨some 7,.mov (.t 50),none⟩]))))))))) (.ops [⟨some 30,.mov (.t 5),none⟩,⟨some 31,.bin .add false (.t 30) (.c (.v (.int .i64 1))),none⟩,⟨some 5,.mov (.t 31),none⟩])))))) (.seq (.seq (.ops [⟨some 9,.mov (.c (.v (.int .i64 0))),none⟩]) (.block 4 (.loop (.seq (.seq (.ops [⟨some 62,.mov (.t 9),none⟩,⟨some 63,.faddr 3 (.t 1),none⟩,⟨some 64,.load 1 false (.t 63),none⟩,⟨some 65,.len false (.t 64),none⟩,⟨some 66,.bin .lss false (.t 62) (.t 65),none⟩]) (.cond (.t 66) .skip (.exit 4))) (.seq (.block 5 (.seq (.ops [⟨some 69,.faddr 3 (.t 1),none⟩,⟨some 70,.load 1 false (.t 69),none⟩,⟨some 71,.mov (.t 9),none⟩,⟨some 72,.iaddr 1 (.t 70) (.t 71),none⟩,⟨some 73,.load 1 false (.t 72),none⟩,⟨some 74,.mov (.t 3),none⟩,⟨some 75,.call st [(.t 73),(.t 74)],none⟩,⟨some 10,.mov (.t 75),none⟩]) (.seq (.ops [⟨some 76,.mov (.t 10),none⟩,⟨some 77,.un .not (.t 76),none⟩]) (.cond (.t 77) (.seq (.ops [⟨some 2,.mov (.c (.v (.bool false))),none⟩]) .ret) .skip)))) (.ops [⟨some 67,.mov (.t 9),none⟩,⟨some 68,.bin .add false (.t 67) (.c (.v (.int .i64 1))),none⟩,⟨some 9,.mov (.t 68),none⟩])))))) (.seq (.ops [⟨some 2,.mov (.c (.v (.bool true))),none⟩]) .ret)))))))⟩
def irRight17 : FnIR := ⟨20,[.t 2],(.seq (.ops [⟨some 1,.box (.t 0),none⟩,⟨some 2,.mov (.c (.v (.bool false))),none⟩]) (.seq (.ops [⟨some 3,.faddr 0 (.t 1),none⟩,⟨some 4,.load 1 false (.t 3),none⟩,⟨some 5,.len false (.t 4),none⟩,⟨some 6,.bin .geq false (.t 5) (.c (.v (.int .i64 1))),none⟩,⟨some 7,.mov (.t 6),none⟩,⟨some 8,.faddr 1 (.t 1),some (7,true)⟩,⟨some 9,.load 1 false (.t 8),some (7,true)⟩,⟨some 10,.bin .geq false (.t 9) (.c (.v (.int .i64 0))),some (7,true)⟩,⟨some 11,.pick (.t 7) (.t 10) (.c (.v (.bool false))),none⟩,⟨some 12,.mov (.t 11),none⟩,⟨some 13,.faddr 1 (.t 1),some (12,true)⟩,⟨some 14,.load 1 false (.t 13),some (12,true)⟩,⟨some 15,.faddr 0 (.t 1),some (12,true)⟩,⟨some 16,.load 1 false (.t 15),some (12,true)⟩,⟨some 17,.len false (.t 16),some (12,true)⟩,⟨some 18,.bin .lss false (.t 14) (.t 17),some (12,true)⟩,⟨some 19,.pick (.t 12) (.t 18) (.c (.v (.bool false))),none⟩,⟨some 2,.mov (.t 19),none⟩]) .ret))⟩
abbrev intsL (xs : List Int) : L := .sl 1 false (xs.map intL)
abbrev treesL (l : List T) : L := .sl 4 false (l.map T.toL)
structure Aut where
 lits : List (List T)
 next : List (List Int)
 init : List Int
 acc : List (List Int)
def Aut.cells (a : Aut) : List L := [.sl 1 false (a.lits.map treesL), .sl 1 false (a.next.map intsL), intsL a.init, .sl 1 false (a.acc.map intsL)]
def Aut.L (a : Aut) : L := .agg a.cells
structure Aut.Ok (a : Aut) : Prop where
 lits : a.lits.length ≤ 5864062014805
 lit : ∀ l ∈ a.lits, l.length ≤ 2932031007403 ∧ ∀ t ∈ l, t.Ok
 next : a.next.length ≤ 5864062014805
 row : ∀ r ∈ a.next, r.length ≤ 17592186044416
 init : a.init.length ≤ 17592186044416
 acc : a.acc.length ≤ 5864062014805
 set : ∀ r ∈ a.acc, r.length ≤ 17592186044416
theorem states_gen {P : Program} {f : Nat} (ir : compF P f = some irStates) {c : Bool} (xs : List Int) (hl : xs.length ≤ 17592186044416) (n : Int) : PC P f [.sl 1 c (xs.map intL), intL n] (boolL (xs.all fun x => decide (0 ≤ x ∧ x < n))) := by
 refine pc_of_call (callAt_enter ir (by simp [irStates]) ?_)
 simp only [irStates]
 simp
 refine lwp_loop (fun i : Nat => [(0, .sl 1 c (xs.map intL)), (1, intL n), (5, intL i)]) (fun _ => []) (fun i => xs.length - i) (fun i => i ≤ xs.length ∧ ∀ x ∈ xs.take i, 0 ≤ x ∧ x < n) 0 (by simp) ⟨[], ?_⟩ ?_
 ·simp
 ·rintro i ⟨hi, hall⟩
  by_cases hlt : i < xs.length
  ·have hw : IntKind.i64.wrap ((i : Int) + 1) = ((i + 1 : Nat) : Int) := wrap_id (by omega) (by omega)
   by_cases h1 : xs[i] < 0
   ·simp [hlt, h1]
    exact ⟨xs[i], List.getElem_mem hlt, fun h => by omega⟩
   ·have h1' : 0 ≤ xs[i] := by omega
    by_cases h2 : n ≤ xs[i]
    ·simp [hlt, h1, h2]
     exact ⟨xs[i], List.getElem_mem hlt, fun _ => by omega⟩
    ·have h2' : xs[i] < n := by omega
     simp [hlt, h1, h2]
     refine ⟨i + 1, ⟨by omega, fun x hx => ?_⟩, by simp <;> omega, [], ?_⟩
     ·rw [List.take_succ_eq_append_getElem hlt] at hx
      rcases List.mem_append.1 hx with h | h
      ·exact hall x h
      ·simp at h; subst h; exact ⟨h1', h2'⟩
     ·simp [hw]
  ·have hge : xs.length ≤ i := by omega
   rw [List.take_of_length_le hge] at hall
   simp [hlt]
   exact hall
def cntF {α : Type} (l : List (List α)) (n : Nat) : Nat := l.foldl (fun n r => if n < 4000 then n + r.length else n) n
theorem cntF_stay {α : Type} : ∀ {l : List (List α)} {n : Nat}, ¬ n < 4000 → cntF l n = n
 | [], _, _ => rfl
 | r :: l, n, h => by rw [cntF, List.foldl_cons, if_neg h]; exact cntF_stay h
theorem cntF_succ {α : Type} {l : List (List α)} {n i : Nat} (hi : i < l.length) : cntF (l.take (i + 1)) n = if cntF (l.take i) n < 4000 then cntF (l.take i) n + l[i].length else cntF (l.take i) n := by
 unfold cntF; rw [List.take_succ_eq_append_getElem hi, List.foldl_append]; rfl
theorem cntF_take {α : Type} {l : List (List α)} {n i : Nat} (h : ¬ cntF (l.take i) n < 4000) : cntF l n = cntF (l.take i) n := by
 conv => lhs; rw [← List.take_append_drop i l]
 unfold cntF at h ⊢
 rw [List.foldl_append]
 exact cntF_stay h
theorem cntF_le {α : Type} {B : Nat} : ∀ {l : List (List α)} {n : Nat}, (∀ r ∈ l, r.length ≤ B) → cntF l n ≤ max n (4000 + B)
 | [], n, _ => by simp [cntF]; omega
 | r :: l, n, h => by
  have hr := h r (by simp)
  rw [cntF, List.foldl_cons]
  split
  ·have := cntF_le (l := l) (n := n + r.length) (fun x hx => h x (by simp [hx]))
   rw [cntF] at this; omega
  ·have := cntF_le (l := l) (n := n) (fun x hx => h x (by simp [hx]))
   rw [cntF] at this; omega
theorem cntF_facts {α : Type} : ∀ {l : List (List α)} {n : Nat}, cntF l n < 4000 → n < 4000 ∧ ∀ r ∈ l, r.length < 4000
 | [], n, h => ⟨h, by simp⟩
 | r :: l, n, h => by
  rw [cntF, List.foldl_cons] at h
  split at h
  ·have := cntF_facts (l := l) h
   exact ⟨by omega, fun x hx => by
    rcases List.mem_cons.1 hx with rfl | hx
    ·omega
    ·exact this.2 x hx⟩
  ·have := cntF_facts (l := l) h
   omega
def n18a (a : Aut) : Nat := cntF a.next (a.init.length + a.acc.length)
def n18b (a : Aut) : Nat := cntF a.acc (n18a a)
def okL (a : Aut) (z : Nat) : Bool := (List.range z).all fun i => decide (¬ cntF (a.lits.take i) (n18b a) < 4000) || (a.lits.getD i []).all T.few
def Aut.few18 (a : Aut) (m : Int) : Bool := okL a a.lits.length && decide (cntF a.lits (n18b a) < 4000) && decide ((a.lits.length : Int) ≤ m) && decide ((a.next.length : Int) ≤ m)
theorem few18_a {P : Program} {t : Nat} {a : Aut} (ha : a.Ok) {n0 : Nat} (hn0 : n0 ≤ 50000000000000) {m : Int} {Q : X → Env → Heap → Prop} {E : Env} (h1 : lk E 1 = intL m) (h2 : lk E 2 = .ptr 0 0) (h5 : lk E 5 = intL n0)
  (hQ : ∀ (E' : Env), lk E' 1 = intL m → lk E' 2 = .ptr 0 0 → lk E' 5 = intL (cntF a.next n0) → Q .normal E' [some a.cells]) :
  lwp P 0 (irFew182 t) Q E [some a.cells] := by
 have hr := ha.row
 have hl := ha.next
 simp only [irFew182]
 simp
 refine lwp_loop (fun i : Nat => [(1, intL m), (2, .ptr 0 0), (5, intL (cntF (a.next.take i) n0)), (6, intL i)]) (fun _ => [some a.cells]) (fun i => a.next.length - i) (fun i => i ≤ a.next.length) 0 (by simp) ⟨[0], ?_⟩ ?_
 ·simp [h1, h2, h5, Aut.cells, cntF]
 ·intro i hi
  have hb := cntF_le (l := a.next.take i) (n := n0) (B := 17592186044416) (fun r h => hr r (List.mem_of_mem_take h))
  by_cases hlt : i < a.next.length
  ·have hsucc := cntF_succ (n := n0) hlt
   by_cases hn : cntF (a.next.take i) n0 < 4000
   ·have hn' : (cntF (a.next.take i) n0 : Int) < 4000 := by omega
    have hri := hr _ (List.getElem_mem hlt)
    have hw : IntKind.i64.wrap ((i : Int) + 1) = ((i + 1 : Nat) : Int) := wrap_id (by omega) (by omega)
    rw [if_pos hn] at hsucc
    have hw2 : IntKind.i64.wrap ((cntF (a.next.take i) n0 : Int) + (a.next[i].length : Int)) = ((cntF (a.next.take i) n0 + a.next[i].length : Nat) : Int) := wrap_id (by omega) (by omega)
    simp [Aut.cells, hlt, hn']
    refine ⟨i + 1, by omega, by simp <;> omega, [0], ?_⟩
    simp [hw, hw2, hsucc]
   ·have hn' : ¬ (cntF (a.next.take i) n0 : Int) < 4000 := by omega
    have hn2 : (4000 : Int) ≤ cntF (a.next.take i) n0 := by omega
    simp [Aut.cells, hlt, hn']
    refine hQ _ ?_ ?_ ?_ <;> simp [cntF_take hn]
  ·have hge : a.next.length ≤ i := by omega
   rw [List.take_of_length_le hge]
   simp [Aut.cells, hlt]
   refine hQ _ ?_ ?_ ?_ <;> simp
theorem few18_b {P : Program} {t : Nat} {a : Aut} (ha : a.Ok) {n0 : Nat} (hn0 : n0 ≤ 100000000000000) {m : Int} {Q : X → Env → Heap → Prop} {E : Env} (h1 : lk E 1 = intL m) (h2 : lk E 2 = .ptr 0 0) (h5 : lk E 5 = intL n0)
  (hQ : ∀ (E' : Env), lk E' 1 = intL m → lk E' 2 = .ptr 0 0 → lk E' 5 = intL (cntF a.acc n0) → Q .normal E' [some a.cells]) :
  lwp P 0 (irFew183 t) Q E [some a.cells] := by
 have hr := ha.set
 have hl := ha.acc
 simp only [irFew183]
 simp
 refine lwp_loop (fun i : Nat => [(1, intL m), (2, .ptr 0 0), (5, intL (cntF (a.acc.take i) n0)), (7, intL i)]) (fun _ => [some a.cells]) (fun i => a.acc.length - i) (fun i => i ≤ a.acc.length) 0 (by simp) ⟨[0], ?_⟩ ?_
 ·simp [h1, h2, h5, Aut.cells, cntF]
 ·intro i hi
  have hb := cntF_le (l := a.acc.take i) (n := n0) (B := 17592186044416) (fun r h => hr r (List.mem_of_mem_take h))
  by_cases hlt : i < a.acc.length
  ·have hsucc := cntF_succ (n := n0) hlt
   by_cases hn : cntF (a.acc.take i) n0 < 4000
   ·have hn' : (cntF (a.acc.take i) n0 : Int) < 4000 := by omega
    have hri := hr _ (List.getElem_mem hlt)
    have hw : IntKind.i64.wrap ((i : Int) + 1) = ((i + 1 : Nat) : Int) := wrap_id (by omega) (by omega)
    rw [if_pos hn] at hsucc
    have hw2 : IntKind.i64.wrap ((cntF (a.acc.take i) n0 : Int) + (a.acc[i].length : Int)) = ((cntF (a.acc.take i) n0 + a.acc[i].length : Nat) : Int) := wrap_id (by omega) (by omega)
    simp [Aut.cells, hlt, hn']
    refine ⟨i + 1, by omega, by simp <;> omega, [0], ?_⟩
    simp [hw, hw2, hsucc]
   ·have hn' : ¬ (cntF (a.acc.take i) n0 : Int) < 4000 := by omega
    have hn2 : (4000 : Int) ≤ cntF (a.acc.take i) n0 := by omega
    simp [Aut.cells, hlt, hn']
    refine hQ _ ?_ ?_ ?_ <;> simp [cntF_take hn]
  ·have hge : a.acc.length ≤ i := by omega
   rw [List.take_of_length_le hge]
   simp [Aut.cells, hlt]
   refine hQ _ ?_ ?_ ?_ <;> simp
theorem okL_succ {a : Aut} {z : Nat} : okL a (z + 1) = (okL a z && (decide (¬ cntF (a.lits.take z) (n18b a) < 4000) || (a.lits.getD z []).all T.few)) := by
 unfold okL; rw [List.range_succ, List.all_append]; simp
theorem okL_stay {a : Aut} {z : Nat} (h : ¬ cntF (a.lits.take z) (n18b a) < 4000) : ∀ y, okL a (z + y) = okL a z := by
 intro y
 induction y with
 | zero => rfl
 | succ y ih =>
  rw [show z + (y + 1) = z + y + 1 by omega, okL_succ, ih]
  have : ¬ cntF (a.lits.take (z + y)) (n18b a) < 4000 := by
   intro hc
   apply h
   have e : a.lits.take z = (a.lits.take (z + y)).take z := by rw [List.take_take]; congr 1; omega
   by_cases hh : cntF ((a.lits.take (z + y)).take z) (n18b a) < 4000
   ·rw [← e] at hh; exact hh
   ·rw [cntF_take hh, ← e] at hc; exact hc
  simp [this]
theorem okL_false {a : Aut} {z y : Nat} (h : okL a z = false) : okL a (z + y) = false := by
 induction y with
 | zero => exact h
 | succ y ih => rw [show z + (y + 1) = z + y + 1 by omega, okL_succ, ih]; rfl
theorem few18_c {P : Program} {t d mm : Nat} (it : compF P t = some (irFewT d mm)) (id : compF P d = some (irDeep d)) (im : compF P mm = some (irManyT mm)) {a : Aut} (ha : a.Ok) (hn0 : n18b a ≤ 100000000000000) {m : Int} {Q : X → Env → Heap → Prop} {E : Env} (h1 : lk E 1 = intL m) (h2 : lk E 2 = .ptr 0 0) (h5 : lk E 5 = intL (n18b a))
  (hR : okL a a.lits.length = false → ∀ (E' : Env), lk E' 4 = boolL false → Q .ret E' [some a.cells])
  (hQ : okL a a.lits.length = true → ∀ (E' : Env), lk E' 1 = intL m → lk E' 2 = .ptr 0 0 → lk E' 5 = intL (cntF a.lits (n18b a)) → Q .normal E' [some a.cells]) :
  lwp P 0 (irFew184 t) Q E [some a.cells] := by
 have hr := ha.lit
 have hl := ha.lits
 simp only [irFew184]
 simp
 refine lwp_loop (fun i : Nat => [(1, intL m), (2, .ptr 0 0), (5, intL (cntF (a.lits.take i) (n18b a))), (8, intL i)]) (fun _ => [some a.cells]) (fun i => a.lits.length - i) (fun i => i ≤ a.lits.length ∧ okL a i = true) 0 (by simp [okL]) ⟨[0], ?_⟩ ?_
 ·simp [h1, h2, h5, Aut.cells, cntF]
 ·rintro i ⟨hi, hok'⟩
  have hb := cntF_le (l := a.lits.take i) (n := n18b a) (B := 2932031007403) (fun r h => (hr r (List.mem_of_mem_take h)).1)
  by_cases hlt : i < a.lits.length
  ·have hsucc := cntF_succ (n := n18b a) hlt
   by_cases hn : cntF (a.lits.take i) (n18b a) < 4000
   ·have hn' : (cntF (a.lits.take i) (n18b a) : Int) < 4000 := by omega
    obtain ⟨hri, hok⟩ := hr _ (List.getElem_mem hlt)
    have hw : IntKind.i64.wrap ((i : Int) + 1) = ((i + 1 : Nat) : Int) := wrap_id (by omega) (by omega)
    rw [if_pos hn] at hsucc
    have hoks : okL a (i + 1) = (a.lits[i].all T.few) := by rw [okL_succ, hok']; simp [hn, List.getD, hlt]
    have hw2 : IntKind.i64.wrap ((cntF (a.lits.take i) (n18b a) : Int) + (a.lits[i].length : Int)) = ((cntF (a.lits.take (i + 1)) (n18b a) : Nat) : Int) := by rw [hsucc]; exact wrap_id (by omega) (by omega)
    simp [Aut.cells, hlt, hn', hw2]
    refine lwp_loop (fun k : Nat => [(1, intL m), (2, .ptr 0 0), (5, intL (cntF (a.lits.take (i + 1)) (n18b a))), (8, intL i), (9, intL k)]) (fun _ => [some a.cells]) (fun k => a.lits[i].length - k) (fun k => k ≤ a.lits[i].length ∧ ∀ u ∈ a.lits[i].take k, u.few = true) 0 (by simp) ⟨[0], ?_⟩ ?_
    ·simp [Aut.cells]
    ·rintro k ⟨hk, hall⟩
     have hw3 : IntKind.i64.wrap ((k : Int) + 1) = ((k + 1 : Nat) : Int) := wrap_id (by omega) (by omega)
     by_cases hkl : k < a.lits[i].length
     ·simp [Aut.cells, hlt, hkl]
      refine callT_plain (fewT_gen it id im a.lits[i][k] (hok _ (List.getElem_mem hkl))) rfl (by simp) ?_
      cases hfew : a.lits[i][k].few
      ·simp
       refine hR ?_ _ ?_
       ·have : okL a (i + 1) = false := by rw [hoks, List.all_eq_false]; exact ⟨_, List.getElem_mem hkl, by simp [hfew]⟩
        have h' := okL_false (y := a.lits.length - (i + 1)) this
        rwa [show i + 1 + (a.lits.length - (i + 1)) = a.lits.length by omega] at h'
       ·simp
      ·simp
       refine ⟨k + 1, ⟨by omega, fun u hu => ?_⟩, by simp <;> omega, [0], ?_⟩
       ·rw [List.take_succ_eq_append_getElem hkl] at hu
        rcases List.mem_append.1 hu with h | h
        ·exact hall u h
        ·simp at h; subst h; exact hfew
       ·simp [hw3]
     ·have hge : a.lits[i].length ≤ k := by omega
      rw [List.take_of_length_le hge] at hall
      simp [Aut.cells, hlt, hkl]
      refine ⟨i + 1, ⟨by omega, by rw [hoks, List.all_eq_true]; exact hall⟩, by simp <;> omega, [0], ?_⟩
      simp [hw]
   ·have hn' : ¬ (cntF (a.lits.take i) (n18b a) : Int) < 4000 := by omega
    have hn2 : (4000 : Int) ≤ cntF (a.lits.take i) (n18b a) := by omega
    simp [Aut.cells, hlt, hn']
    refine hQ ?_ _ ?_ ?_ ?_
    ·have := okL_stay hn (a.lits.length - i)
     rw [show i + (a.lits.length - i) = a.lits.length by omega] at this
     rw [this]; exact hok'
    all_goals simp [cntF_take hn]
  ·have hge : a.lits.length ≤ i := by omega
   rw [List.take_of_length_le hge]
   simp [Aut.cells, hlt]
   refine hQ ?_ _ ?_ ?_ ?_
   ·rw [show a.lits.length = i by omega]; exact hok'
   all_goals simp
structure Few18 (a : Aut) (m : Int) : Prop where
 ends : a.init.length + a.acc.length < 4000
 lits : (a.lits.length : Int) ≤ m
 next : (a.next.length : Int) ≤ m
 rows : ∀ r ∈ a.next, r.length < 4000
 sets : ∀ r ∈ a.acc, r.length < 4000
 lit : ∀ l ∈ a.lits, l.length < 4000
theorem few18_facts {a : Aut} {m : Int} (h : a.few18 m = true) : Few18 a m := by
 simp only [Aut.few18, Bool.and_eq_true, decide_eq_true_eq] at h
 obtain ⟨⟨⟨-, h1⟩, h2⟩, h3⟩ := h
 obtain ⟨b1, b2⟩ := cntF_facts h1
 obtain ⟨c1, c2⟩ := cntF_facts (l := a.acc) b1
 obtain ⟨d1, d2⟩ := cntF_facts (l := a.next) c1
 exact ⟨d1, h2, h3, d2, c2, b2⟩
theorem few18_gen {P : Program} {f t d mm : Nat} (ir : compF P f = some (irFew18 t)) (it : compF P t = some (irFewT d mm)) (id : compF P d = some (irDeep d)) (im : compF P mm = some (irManyT mm)) {a : Aut} (ha : a.Ok) (m : Int) : PC P f [a.L, intL m] (boolL (a.few18 m)) := by
 have hi := ha.init
 have hc := ha.acc
 have ba := cntF_le (l := a.next) (n := a.init.length + a.acc.length) (B := 17592186044416) ha.row
 have bb := cntF_le (l := a.acc) (n := n18a a) (B := 17592186044416) ha.set
 have bb' : n18b a = cntF a.acc (n18a a) := rfl
 have ba' : n18a a = cntF a.next (a.init.length + a.acc.length) := rfl
 have hw : IntKind.i64.wrap ((a.init.length : Int) + (a.acc.length : Int)) = ((a.init.length + a.acc.length : Nat) : Int) := wrap_id (by omega) (by omega)
 refine pc_of_call (callAt_enter ir (by simp [irFew18]) ?_)
 simp [irFew18, Aut.L, Aut.cells]
 refine few18_a ha (n0 := a.init.length + a.acc.length) (m := m) (by omega) (by simp) (by simp) (by simp [hw]) fun E1 a1 a2 a5 => ?_
 simp
 refine few18_b ha (n0 := n18a a) (m := m) (by omega) a1 a2 a5 fun E2 b1 b2 b5 => ?_
 simp
 refine few18_c it id im ha (m := m) (by omega) b1 b2 b5 (fun hno E3 c4 => ?_) (fun hyes E3 c1 c2 c5 => ?_)
 ·simp [Aut.few18, hno, c4]
 ·by_cases h1 : cntF a.lits (n18b a) < 4000
  ·have h1' : (cntF a.lits (n18b a) : Int) < 4000 := by omega
   by_cases h2 : (a.lits.length : Int) ≤ m
   ·simp [Aut.few18, Aut.cells, hyes, c1, c2, c5, h1, h1', h2]
   ·simp [Aut.few18, Aut.cells, hyes, c1, c2, c5, h1, h1', h2]
  ·have h1' : ¬ (cntF a.lits (n18b a) : Int) < 4000 := by omega
   simp [Aut.few18, Aut.cells, hyes, c5, h1, h1']
def Aut.may (a : Aut) (vars : Int) : Bool := a.lits.all fun l => l.all fun t => t.may vars
theorem may18_gen {P : Program} {f t : Nat} (ir : compF P f = some (irMay18 t)) (it : compF P t = some (irMay t)) {a : Aut} (ha : a.Ok) (vars : Int) : PC P f [a.L, intL vars] (boolL (a.may vars)) := by
 have hl := ha.lits
 have hr := ha.lit
 refine pc_of_call (callAt_enter ir (by simp [irMay18]) ?_)
 simp only [irMay18]
 simp [Aut.L, Aut.cells]
 refine lwp_loop (fun i : Nat => [(1, intL vars), (2, .ptr 0 0), (5, intL i)]) (fun _ => [some a.cells]) (fun i => a.lits.length - i) (fun i => i ≤ a.lits.length ∧ ∀ l ∈ a.lits.take i, (l.all fun t => t.may vars) = true) 0 (by simp) ⟨[0], ?_⟩ ?_
 ·simp [Aut.cells]
 ·rintro i ⟨hi, hall⟩
  by_cases hlt : i < a.lits.length
  ·obtain ⟨hri, hok⟩ := hr _ (List.getElem_mem hlt)
   have hw : IntKind.i64.wrap ((i : Int) + 1) = ((i + 1 : Nat) : Int) := wrap_id (by omega) (by omega)
   simp [Aut.cells, hlt]
   refine lwp_loop (fun k : Nat => [(1, intL vars), (2, .ptr 0 0), (5, intL i), (6, intL k)]) (fun _ => [some a.cells]) (fun k => a.lits[i].length - k) (fun k => k ≤ a.lits[i].length ∧ ∀ u ∈ a.lits[i].take k, u.may vars = true) 0 (by simp) ⟨[0], ?_⟩ ?_
   ·simp [Aut.cells]
   ·rintro k ⟨hk, hal⟩
    have hw3 : IntKind.i64.wrap ((k : Int) + 1) = ((k + 1 : Nat) : Int) := wrap_id (by omega) (by omega)
    by_cases hkl : k < a.lits[i].length
    ·simp [Aut.cells, hlt, hkl]
     refine callT_plain (may_gen it a.lits[i][k] (hok _ (List.getElem_mem hkl)) vars) rfl (by simp) ?_
     cases hm : a.lits[i][k].may vars
     ·simp [Aut.may]
      exact ⟨a.lits[i], List.getElem_mem hlt, a.lits[i][k], List.getElem_mem hkl, hm⟩
     ·simp
      refine ⟨k + 1, ⟨by omega, fun u hu => ?_⟩, by simp <;> omega, [0], ?_⟩
      ·rw [List.take_succ_eq_append_getElem hkl] at hu
       rcases List.mem_append.1 hu with h | h
       ·exact hal u h
       ·simp at h; subst h; exact hm
      ·simp [hw3]
    ·have hge : a.lits[i].length ≤ k := by omega
     rw [List.take_of_length_le hge] at hal
     simp [Aut.cells, hlt, hkl]
     refine ⟨i + 1, ⟨by omega, fun l hl => ?_⟩, by simp <;> omega, [0], ?_⟩
     ·rw [List.take_succ_eq_append_getElem hlt] at hl
      rcases List.mem_append.1 hl with h | h
      ·exact List.all_eq_true.1 (hall l h)
      ·simp at h; subst h; exact hal
     ·simp [hw]
  ·have hge : a.lits.length ≤ i := by omega
   rw [List.take_of_length_le hge] at hall
   have e : a.may vars = true := List.all_eq_true.2 hall
   simp [Aut.cells, hlt, e]
def statesB (xs : List Int) (n : Nat) : Bool := xs.all fun x => decide (0 ≤ x ∧ x < (n : Int))
theorem statesB_gen {P : Program} {f : Nat} (ir : compF P f = some irStates) {c : Bool} (xs : List Int) (hl : xs.length ≤ 17592186044416) (n : Nat) : PC P f [.sl 1 c (xs.map intL), intL n] (boolL (statesB xs n)) := states_gen ir xs hl n
def rowOk (a : Aut) (q : Nat) : Bool := statesB (a.next.getD q []) a.lits.length && (a.lits.getD q []).all T.lit
def Aut.right (a : Aut) : Bool := statesB a.init a.lits.length && decide (a.next.length = a.lits.length) && (List.range a.lits.length).all (rowOk a) && a.acc.all fun r => statesB r a.lits.length
theorem right18_gen {P : Program} {f st li y : Nat} (ir : compF P f = some (irRight18 st li)) (ist : compF P st = some irStates) (ili : compF P li = some (irLit y)) (iy : compF P y = some (irType y)) {a : Aut} (ha : a.Ok) : PC P f [a.L] (boolL a.right) := by
 have hl := ha.lits
 have hr := ha.lit
 have hac := ha.acc
 refine pc_of_call (callAt_enter ir (by simp [irRight18]) ?_)
 simp only [irRight18]
 simp [Aut.L, Aut.cells]
 refine callT_plain (statesB_gen ist (c := false) a.init ha.init a.lits.length) rfl (by simp) ?_
 by_cases h1 : statesB a.init a.lits.length = true
 ·by_cases h2 : a.next.length = a.lits.length
  ·have h2' : (a.next.length : Int) = (a.lits.length : Int) := by omega
   simp [h1, h2']
   refine lwp_loop (fun i : Nat => [(1, .ptr 0 0), (3, intL a.lits.length), (5, intL i)]) (fun _ => [some a.cells]) (fun i => a.lits.length - i)
    (fun i => i ≤ a.lits.length ∧ ∀ q, q < i → rowOk a q = true) 0 (by simp) ⟨[0], ?_⟩ ?_
   ·simp [Aut.cells]
   ·rintro i ⟨hi, hall⟩
    have hw : IntKind.i64.wrap ((i : Int) + 1) = ((i + 1 : Nat) : Int) := wrap_id (by omega) (by omega)
    by_cases hlt : i < a.lits.length
    ·have hltn : i < a.next.length := by omega
     have bad : rowOk a i = false → a.right = false := fun h => by
      have : ((List.range a.lits.length).all (rowOk a)) = false := by
       rw [List.all_eq_false]; exact ⟨i, by simpa using hlt, by rw [h]; simp⟩
      unfold Aut.right; rw [this]; simp
     have e1 : a.next.getD i [] = a.next[i] := by simp [List.getD, hltn]
     have e2 : a.lits.getD i [] = a.lits[i] := by simp [List.getD, hlt]
     have e3 : rowOk a i = (statesB a.next[i] a.lits.length && a.lits[i].all T.lit) := by rw [rowOk, e1, e2]
     rw [e3] at bad
     simp [Aut.cells, hlt, hltn]
     refine callT_plain (statesB_gen ist (c := false) a.next[i] (ha.row _ (List.getElem_mem hltn)) a.lits.length) rfl (by simp) ?_
     cases hs : statesB a.next[i] a.lits.length
     ·have := bad (by rw [hs]; rfl)
      simp [this]
     ·have hs0 := hs
      obtain ⟨hri, hok⟩ := hr _ (List.getElem_mem hlt)
      simp []
      refine lwp_loop (fun k : Nat => [(1, .ptr 0 0), (3, intL a.lits.length), (5, intL i), (7, intL k)]) (fun _ => [some a.cells]) (fun k => a.lits[i].length - k) (fun k => k ≤ a.lits[i].length ∧ ∀ u ∈ a.lits[i].take k, u.lit = true) 0 (by simp) ⟨[0], ?_⟩ ?_
      ·simp [Aut.cells]
      ·rintro k ⟨hk, hal⟩
       have hw3 : IntKind.i64.wrap ((k : Int) + 1) = ((k + 1 : Nat) : Int) := wrap_id (by omega) (by omega)
       by_cases hkl : k < a.lits[i].length
       ·simp [Aut.cells, hlt, hkl]
        refine callT_plain (lit_gen ili iy a.lits[i][k] (hok _ (List.getElem_mem hkl))) rfl (by simp) ?_
        cases hm : a.lits[i][k].lit
        ·have := bad (by rw [hs0, Bool.true_and, List.all_eq_false]; exact ⟨_, List.getElem_mem hkl, by simp [hm]⟩)
         simp [this]
        ·simp
         refine ⟨k + 1, ⟨by omega, fun u hu => ?_⟩, by simp <;> omega, [0], ?_⟩
         ·rw [List.take_succ_eq_append_getElem hkl] at hu
          rcases List.mem_append.1 hu with h | h
          ·exact hal u h
          ·simp at h; subst h; exact hm
         ·simp [hw3]
       ·have hge : a.lits[i].length ≤ k := by omega
        rw [List.take_of_length_le hge] at hal
        simp [Aut.cells, hlt, hkl]
        refine ⟨i + 1, ⟨by omega, fun q hq => ?_⟩, by simp <;> omega, [0], ?_⟩
        ·by_cases e : q < i
         ·exact hall q e
         ·have : q = i := by omega
          subst this
          rw [e3, hs0, Bool.true_and]
          exact List.all_eq_true.2 hal
        ·simp [hw]
    ·have hge : a.lits.length ≤ i := by omega
     have hin : i = a.lits.length := by omega
     have h3 : (List.range a.lits.length).all (rowOk a) = true := by rw [List.all_eq_true]; intro q hq; exact hall q (by simp at hq; omega)
     simp [Aut.cells, hlt]
     refine lwp_loop (fun i : Nat => [(1, .ptr 0 0), (3, intL a.lits.length), (9, intL i)]) (fun _ => [some a.cells]) (fun i => a.acc.length - i)
      (fun i => i ≤ a.acc.length ∧ ∀ r ∈ a.acc.take i, statesB r a.lits.length = true) 0 (by simp) ⟨[0], ?_⟩ ?_
     ·simp [Aut.cells]
     ·rintro k ⟨hk, hal⟩
      have hw3 : IntKind.i64.wrap ((k : Int) + 1) = ((k + 1 : Nat) : Int) := wrap_id (by omega) (by omega)
      by_cases hkl : k < a.acc.length
      ·simp [Aut.cells, hkl]
       refine callT_plain (statesB_gen ist (c := false) a.acc[k] (ha.set _ (List.getElem_mem hkl)) a.lits.length) rfl (by simp) ?_
       cases hs : statesB a.acc[k] a.lits.length
       ·have h4 : (a.acc.all fun r => statesB r a.lits.length) = false := by rw [List.all_eq_false]; exact ⟨_, List.getElem_mem hkl, by simp [hs]⟩
        have e : a.right = false := by unfold Aut.right; rw [h4]; simp
        simp [e]
       ·have hs0 := hs
        simp []
        refine ⟨k + 1, ⟨by omega, fun u hu => ?_⟩, by simp <;> omega, [0], ?_⟩
        ·rw [List.take_succ_eq_append_getElem hkl] at hu
         rcases List.mem_append.1 hu with h | h
         ·exact hal u h
         ·simp at h; subst h; exact hs0
        ·simp [hw3]
      ·have hge : a.acc.length ≤ k := by omega
       rw [List.take_of_length_le hge] at hal
       have h4 : (a.acc.all fun r => statesB r a.lits.length) = true := List.all_eq_true.2 hal
       have e : a.right = true := by unfold Aut.right; rw [h3, h4, decide_eq_true h2]; simp [h1]
       simp [Aut.cells, hkl, e]
  ·have h2' : ¬ (a.next.length : Int) = (a.lits.length : Int) := by omega
   have e : a.right = false := by unfold Aut.right; rw [decide_eq_false h2]; simp
   simp [h1, h2', e]
 ·have e : a.right = false := by unfold Aut.right; simp only [Bool.not_eq_true] at h1; rw [h1]; simp
  simp only [Bool.not_eq_true] at h1
  simp [h1, e]
def Aut.fits (a : Aut) (q : Nat) (v : List Int) : Bool := (a.lits.getD q []).all fun t => decide (t.eval v = 1)
structure Word where
 v : List (List Int)
 loop : Int
def Word.cells (w : Word) : List L := [.sl 1 false (w.v.map intsL), intL w.loop]
def Word.L (w : Word) : L := .agg w.cells
structure Word.Ok (w : Word) : Prop where
 v : w.v.length ≤ 5864062014805
 row : ∀ r ∈ w.v, r.length ≤ 17592186044416
def Word.right (w : Word) : Bool := decide (1 ≤ w.v.length) && decide (0 ≤ w.loop) && decide (w.loop < w.v.length)
def Word.nxt (w : Word) (i : Nat) : Nat := if i + 1 = w.v.length then w.loop.toNat else i + 1
theorem right17_gen {P : Program} {f : Nat} (ir : compF P f = some irRight17) (w : Word) : PC P f [w.L] (boolL w.right) := by
 refine pc_of_call (callAt_enter ir (by simp [irRight17]) ?_)
 by_cases h1 : 1 ≤ w.v.length
 ·have h1' : (1 : Int) ≤ w.v.length := by omega
  by_cases h2 : 0 ≤ w.loop
  ·simp [irRight17, Word.L, Word.cells, Word.right, h1, h1', h2]
  ·simp [irRight17, Word.L, Word.cells, Word.right, h1, h1', h2]
 ·have h1' : ¬ (1 : Int) ≤ w.v.length := by omega
  simp [irRight17, Word.L, Word.cells, Word.right, h1, h1']
end Lg

