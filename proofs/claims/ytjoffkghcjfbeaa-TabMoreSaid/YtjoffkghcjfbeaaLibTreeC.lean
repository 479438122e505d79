/- Trees: what the functions of the document's answer on them compute. -/
import Derived.Test.YtjoffkghcjfbeaaLibTree
namespace Lg
open Go
def irDeep (f : Nat) : FnIR := ⟨33,[.t 4],(.seq (.ops [⟨some 2,.box (.t 0),none⟩,⟨some 4,.mov (.c (.v (.int .i64 0))),none⟩]) (.seq (.ops [⟨some 5,.mov (.c (.v (.int .i64 1))),none⟩]) (.seq (.seq (.ops [⟨some 6,.mov (.c (.v (.int .i64 0))),none⟩]) (.block 0 (.loop (.seq (.seq (.ops [⟨some 8,.mov (.t 6),none⟩,⟨some 9,.faddr 3 (.t 2),none⟩,⟨some 10,.load 1 false (.t 9),none⟩,⟨some 11,.len false (.t 10),none⟩,⟨some 12,.bin .lss false (.t 8) (.t 11),none⟩,⟨some 13,.mov (.t 12),none⟩,⟨some 14,.mov (.t 1),some (13,true)⟩,⟨some 15,.bin .gtr false (.t 14) (.c (.v (.int .i64 1))),some (13,true)⟩,⟨some 16,.pick (.t 13) (.t 15) (.c (.v (.bool false))),none⟩]) (.cond (.t 16) .skip (.exit 0))) (.seq (.block 1 (.seq (.ops [⟨some 19,.faddr 3 (.t 2),none⟩,⟨some 20,.load 1 false (.t 19),none⟩,⟨some 21,.mov (.t 6),none⟩,⟨some 22,.iaddr 4 (.t 20) (.t 21),none⟩,⟨some 23,.load 4 true (.t 22),none⟩,⟨some 24,.mov (.t 1),none⟩,⟨some 25,.bin .sub false (.t 24) (.c (.v (.int .i64 1))),none⟩,⟨some 26,.call f [(.t 23),(.t 25)],none⟩,⟨some 27,.bin .add false (.c (.v (.int .i64 1))) (.t 26),none⟩,⟨some 7,.mov (.t 27),none⟩]) (.seq (.ops [⟨some 28,.mov (.t 7),none⟩,⟨some 29,.mov (.t 5),none⟩,⟨some 30,.bin .gtr false (.t 28) (.t 29),none⟩]) (.cond (.t 30) (.ops [⟨some 31,.mov (.t 7),none⟩,⟨some 5,.mov (.t 31),none⟩]) .skip)))) (.ops [⟨some 17,.mov (.t 6),none⟩,⟨some 18,.bin .add false (.t 17) (.c (.v (.int .i64 1))),none⟩,⟨some 6,.mov (.t 18),none⟩])))))) (.seq (.ops [⟨some 32,.mov (.t 5),none⟩,⟨some 4,.mov (.t 32),none⟩]) .ret))))⟩
def irManyT (f : Nat) : FnIR := ⟨29,[.t 4],(.seq (.ops [⟨some 2,.box (.t 0),none⟩,⟨some 4,.mov (.c (.v (.int .i64 0))),none⟩]) (.seq (.ops [⟨some 5,.mov (.c (.v (.int .i64 1))),none⟩]) (.seq (.seq (.ops [⟨some 6,.mov (.c (.v (.int .i64 0))),none⟩]) (.block 0 (.loop (.seq (.seq (.ops [⟨some 7,.mov (.t 6),none⟩,⟨some 8,.faddr 3 (.t 2),none⟩,⟨some 9,.load 1 false (.t 8),none⟩,⟨some 10,.len false (.t 9),none⟩,⟨some 11,.bin .lss false (.t 7) (.t 10),none⟩,⟨some 12,.mov (.t 11),none⟩,⟨some 13,.mov (.t 5),some (12,true)⟩,⟨some 14,.mov (.t 1),some (12,true)⟩,⟨some 15,.bin .lss false (.t 13) (.t 14),some (12,true)⟩,⟨some 16,.pick (.t 12) (.t 15) (.c (.v (.bool false))),none⟩]) (.cond (.t 16) .skip (.exit 0))) (.seq (.block 1 (.ops [⟨some 19,.mov (.t 5),none⟩,⟨some 20,.faddr 3 (.t 2),none⟩,⟨some 21,.load 1 false (.t 20),none⟩,⟨some 22,.mov (.t 6),none⟩,⟨some 23,.iaddr 4 (.t 21) (.t 22),none⟩,⟨some 24,.load 4 true (.t 23),none⟩,⟨some 25,.mov (.t 1),none⟩,⟨some 26,.call f [(.t 24),(.t 25)],none⟩,⟨some 27,.bin .add false (.t 19) (.t 26),none⟩,⟨some 5,.mov (.t 27),none⟩])) (.ops [⟨some 17,.mov (.t 6),none⟩,⟨some 18,.bin .add false (.t 17) (.c (.v (.int .i64 1))),none⟩,⟨some 6,.mov (.t 18),none⟩])))))) (.seq (.ops [⟨some 28,.mov (.t 5),none⟩,⟨some 4,.mov (.t 28),none⟩]) .ret))))⟩
def irFewT (d m : Nat) : FnIR := ⟨15,[.t 2],(.seq (.ops [⟨some 1,.box (.t 0),none⟩,⟨some 2,.mov (.c (.v (.bool false))),none⟩]) (.seq (.ops [⟨some 5,.load 4 true (.t 1),none⟩,⟨some 6,.call d [(.t 5),(.c (.v (.int .i64 45)))],none⟩,⟨some 3,.mov (.t 6),none⟩]) (.seq (.ops [⟨some 7,.load 4 true (.t 1),none⟩,⟨some 8,.call m [(.t 7),(.c (.v (.int .i64 300)))],none⟩,⟨some 4,.mov (.t 8),none⟩]) (.seq (.ops [⟨some 9,.mov (.t 3),none⟩,⟨some 10,.bin .lss false (.t 9) (.c (.v (.int .i64 45))),none⟩,⟨some 11,.mov (.t 10),none⟩,⟨some 12,.mov (.t 4),some (11,true)⟩,⟨some 13,.bin .lss false (.t 12) (.c (.v (.int .i64 300))),some (11,true)⟩,⟨some 14,.pick (.t 11) (.t 13) (.c (.v (.bool false))),none⟩,⟨some 2,.mov (.t 14),none⟩]) .ret))))⟩
def irMay2 (f : Nat) : IR := (.seq (.ops [⟨some 8,.faddr 0 (.t 2),none⟩,⟨some 9,.load 1 false (.t 8),none⟩]) (.block 0 (.seq (.seq (.ops [⟨some 11,.bin .eql false (.t 9) (.c (.v (.int .i64 1))),none⟩,⟨some 10,.mov (.t 11),none⟩]) (.cond (.t 10) .skip (.seq (.ops [⟨some 12,.bin .eql false (.t 9) (.c (.v (.int .i64 2))),none⟩,⟨some 10,.mov (.t 12),none⟩]) (.cond (.t 10) .skip (.seq (.ops [⟨some 13,.bin .eql false (.t 9) (.c (.v (.int .i64 13))),none⟩,⟨some 10,.mov (.t 13),none⟩]) (.cond (.t 10) .skip (.ops [⟨some 14,.bin .eql false (.t 9) (.c (.v (.int .i64 14))),none⟩,⟨some 10,.mov (.t 14),none⟩]))))))) (.cond (.t 10) (.ops [⟨some 5,.mov (.c (.v (.int .i64 0))),none⟩]) (.seq (.seq (.ops [⟨some 16,.bin .eql false (.t 9) (.c (.v (.int .i64 6))),none⟩,⟨some 15,.mov (.t 16),none⟩]) (.cond (.t 15) .skip (.seq (.ops [⟨some 17,.bin .eql false (.t 9) (.c (.v (.int .i64 15))),none⟩,⟨some 15,.mov (.t 17),none⟩]) (.cond (.t 15) .skip (.seq (.ops [⟨some 18,.bin .eql false (.t 9) (.c (.v (.int .i64 20))),none⟩,⟨some 15,.mov (.t 18),none⟩]) (.cond (.t 15) .skip (.seq (.ops [⟨some 19,.bin .eql false (.t 9) (.c (.v (.int .i64 21))),none⟩,⟨some 15,.mov (.t 19),none⟩]) (.cond (.t 15) .skip (.ops [⟨some 20,.bin .eql false (.t 9) (.c (.v (.int .i64 22))),none⟩,⟨some 15,.mov (.t 20),none⟩]))))))))) (.cond (.t 15) (.ops [⟨some 5,.mov (.c (.v (.int .i64 1))),none⟩]) .skip))))))
def irMay3 (f : Nat) : IR := (.seq (.ops [⟨some 21,.faddr 0 (.t 2),none⟩,⟨some 22,.load 1 false (.t 21),none⟩,⟨some 23,.bin .lss false (.t 22) (.c (.v (.int .i64 1))),none⟩,⟨some 24,.mov (.t 23),none⟩,⟨some 25,.faddr 0 (.t 2),some (24,false)⟩,⟨some 26,.load 1 false (.t 25),some (24,false)⟩,⟨some 27,.bin .gtr false (.t 26) (.c (.v (.int .i64 24))),some (24,false)⟩,⟨some 28,.pick (.t 24) (.c (.v (.bool true))) (.t 27),none⟩,⟨some 29,.mov (.t 28),none⟩,⟨some 30,.faddr 3 (.t 2),some (29,false)⟩,⟨some 31,.load 1 false (.t 30),some (29,false)⟩,⟨some 32,.len false (.t 31),some (29,false)⟩,⟨some 33,.mov (.t 5),some (29,false)⟩,⟨some 34,.bin .neq false (.t 32) (.t 33),some (29,false)⟩,⟨some 35,.pick (.t 29) (.c (.v (.bool true))) (.t 34),none⟩]) (.cond (.t 35) (.seq (.ops [⟨some 4,.mov (.c (.v (.bool false))),none⟩]) .ret) .skip))
def irMay4 (f : Nat) : IR := (.seq (.ops [⟨some 36,.faddr 0 (.t 2),none⟩,⟨some 37,.load 1 false (.t 36),none⟩,⟨some 38,.bin .eql false (.t 37) (.c (.v (.int .i64 1))),none⟩,⟨some 39,.mov (.t 38),none⟩,⟨some 40,.faddr 1 (.t 2),some (39,true)⟩,⟨some 41,.load 1 false (.t 40),some (39,true)⟩,⟨some 42,.bin .lss false (.t 41) (.c (.v (.int .i64 0))),some (39,true)⟩,⟨some 43,.mov (.t 42),some (39,true)⟩,⟨some 44,.faddr 1 (.t 2),some (43,false)⟩,⟨some 45,.load 1 false (.t 44),some (43,false)⟩,⟨some 46,.bin .gtr false (.t 45) (.c (.v (.int .i64 1073741824))),some (43,false)⟩,⟨some 47,.pick (.t 43) (.c (.v (.bool true))) (.t 46),some (39,true)⟩,⟨some 48,.pick (.t 39) (.t 47) (.c (.v (.bool false))),none⟩,⟨some 49,.mov (.t 48),none⟩,⟨some 50,.faddr 0 (.t 2),some (49,false)⟩,⟨some 51,.load 1 false (.t 50),some (49,false)⟩,⟨some 52,.bin .eql false (.t 51) (.c (.v (.int .i64 2))),some (49,false)⟩,⟨some 53,.mov (.t 52),some (49,false)⟩,⟨some 54,.faddr 1 (.t 2),some (53,true)⟩,⟨some 55,.load 1 false (.t 54),some (53,true)⟩,⟨some 56,.bin .lss false (.t 55) (.c (.v (.int .i64 0))),some (53,true)⟩,⟨some 57,.mov (.t 56),some (53,true)⟩,⟨some 58,.faddr 1 (.t 2),some (57,false)⟩,⟨some 59,.load 1 false (.t 58),some (57,false)⟩,⟨some 60,.mov (.t 1),some (57,false)⟩,⟨some 61,.bin .geq false (.t 59) (.t 60),some (57,false)⟩,⟨some 62,.pick (.t 57) (.c (.v (.bool true))) (.t 61),some (53,true)⟩,⟨some 63,.pick (.t 53) (.t 62) (.c (.v (.bool false))),some (49,false)⟩,⟨some 64,.pick (.t 49) (.c (.v (.bool true))) (.t 63),none⟩,⟨some 65,.mov (.t 64),none⟩,⟨some 66,.faddr 0 (.t 2),some (65,false)⟩,⟨some 67,.load 1 false (.t 66),some (65,false)⟩,⟨some 68,.bin .gtr false (.t 67) (.c (.v (.int .i64 2))),some (65,false)⟩,⟨some 69,.mov (.t 68),some (65,false)⟩,⟨some 70,.faddr 1 (.t 2),some (69,true)⟩,⟨some 71,.load 1 false (.t 70),some (69,true)⟩,⟨some 72,.bin .neq false (.t 71) (.c (.v (.int .i64 0))),some (69,true)⟩,⟨some 73,.pick (.t 69) (.t 72) (.c (.v (.bool false))),some (65,false)⟩,⟨some 74,.pick (.t 65) (.c (.v (.bool true))) (.t 73),none⟩]) (.cond (.t 74) (.seq (.ops [⟨some 4,.mov (.c (.v (.bool false))),none⟩]) .ret) .skip))
def irMay5 (f : Nat) : IR := (.seq (.seq (.ops [⟨some 6,.mov (.c (.v (.int .i64 0))),none⟩]) (.block 1 (.loop (.seq (.seq (.ops [⟨some 75,.mov (.t 6),none⟩,⟨some 76,.mov (.t 5),none⟩,⟨some 77,.bin .lss false (.t 75) (.t 76),none⟩]) (.cond (.t 77) .skip (.exit 1))) (.seq (.block 2 (.seq (.ops [⟨some 80,.faddr 3 (.t 2),none⟩,⟨some 81,.load 1 false (.t 80),none⟩,⟨some 82,.mov (.t 6),none⟩,⟨some 83,.iaddr 4 (.t 81) (.t 82),none⟩,⟨some 84,.load 4 true (.t 83),none⟩,⟨some 85,.mov (.t 1),none⟩,⟨some 86,.call f [(.t 84),(.t 85)],none⟩,⟨some 7,.mov (.t 86),none⟩]) (.seq (.ops [⟨some 87,.mov (.t 7),none⟩,⟨some 88,.un .not (.t 87),none⟩]) (.cond (.t 88) (.seq (.ops [⟨some 4,.mov (.c (.v (.bool false))),none⟩]) .ret) .skip)))) (.ops [⟨some 78,.mov (.t 6),none⟩,⟨some 79,.bin .add false (.t 78) (.c (.v (.int .i64 1))),none⟩,⟨some 6,.mov (.t 79),none⟩])))))) (.seq (.ops [⟨some 4,.mov (.c (.v (.bool true))),none⟩]) .ret))
def irMay (f : Nat) : FnIR := ⟨89,[.t 4],(.seq (.ops [⟨some 2,.box (.t 0),none⟩,⟨some 4,.mov (.c (.v (.bool false))),none⟩]) (.seq (.ops [⟨some 5,.mov (.c (.v (.int .i64 2))),none⟩]) (.seq (irMay2 f) (.seq (irMay3 f) (.seq (irMay4 f) (irMay5 f))))))⟩
def irType4 (f : Nat) : IR := (.seq (.ops [⟨some 8,.mov (.c (.v (.int .i64 0))),none⟩]) (.block 0 (.loop (.seq (.seq (.ops [⟨some 13,.mov (.t 8),none⟩,⟨some 14,.faddr 3 (.t 1),none⟩,⟨some 15,.load 1 false (.t 14),none⟩,⟨some 16,.len false (.t 15),none⟩,⟨some 17,.bin .lss false (.t 13) (.t 16),none⟩]) (.cond (.t 17) .skip (.exit 0))) (.seq (.block 1 (.seq (.ops [⟨some 21,.faddr 3 (.t 1),none⟩,⟨some 22,.load 1 false (.t 21),none⟩,⟨some 23,.mov (.t 8),none⟩,⟨some 24,.iaddr 4 (.t 22) (.t 23),none⟩,⟨some 25,.load 4 true (.t 24),none⟩,⟨some 26,.call f [(.t 25)],none⟩,⟨some 20,.mov (.t 26),none⟩,⟨some 27,.extract (.t 20) 0,none⟩,⟨some 28,.extract (.t 20) 1,none⟩,⟨some 29,.extract (.t 20) 2,none⟩,⟨some 9,.mov (.t 27),none⟩,⟨some 10,.mov (.t 28),none⟩,⟨some 11,.mov (.t 29),none⟩]) (.seq (.seq (.ops [⟨some 30,.mov (.t 10),none⟩,⟨some 31,.bin .neq false (.t 30) (.c (.v (.int .i64 0))),none⟩]) (.cond (.t 31) (.seq (.ops [⟨some 32,.mov (.t 10),none⟩,⟨some 33,.mov (.t 11),none⟩,⟨some 2,.mov (.c (.v (.int .i64 0))),none⟩,⟨some 3,.mov (.t 32),none⟩,⟨some 4,.mov (.t 33),none⟩]) .ret) .skip)) (.seq (.seq (.ops [⟨some 34,.mov (.t 9),none⟩,⟨some 35,.bin .eql false (.t 34) (.c (.v (.int .i64 1))),none⟩]) (.cond (.t 35) (.ops [⟨some 36,.mov (.t 5),none⟩,⟨some 37,.bin .add false (.t 36) (.c (.v (.int .i64 1))),none⟩,⟨some 5,.mov (.t 37),none⟩]) .skip)) (.seq (.seq (.ops [⟨some 38,.mov (.t 9),none⟩,⟨some 39,.bin .eql false (.t 38) (.c (.v (.int .i64 2))),none⟩]) (.cond (.t 39) (.ops [⟨some 40,.mov (.t 6),none⟩,⟨some 41,.bin .add false (.t 40) (.c (.v (.int .i64 1))),none⟩,⟨some 6,.mov (.t 41),none⟩]) .skip)) (.seq (.ops [⟨some 42,.mov (.t 9),none⟩,⟨some 43,.bin .eql false (.t 42) (.c (.v (.int .i64 3))),none⟩]) (.cond (.t 43) (.ops [⟨some 44,.mov (.t 7),none⟩,⟨some 45,.bin .add false (.t 44) (.c (.v (.int .i64 1))),none⟩,⟨some 7,.mov (.t 45),none⟩]) .skip))))))) (.ops [⟨some 18,.mov (.t 8),none⟩,⟨some 19,.bin .add false (.t 18) (.c (.v (.int .i64 1))),none⟩,⟨some 8,.mov (.t 19),none⟩]))))))
def irType6 (f : Nat) : IR := (.seq (.seq (.ops [⟨some 49,.faddr 0 (.t 1),none⟩,⟨some 50,.load 1 false (.t 49),none⟩,⟨some 51,.bin .leq false (.t 50) (.c (.v (.int .i64 6))),none⟩,⟨some 52,.mov (.t 51),none⟩,⟨some 53,.mov (.t 5),some (52,true)⟩,⟨some 54,.mov (.t 12),some (52,true)⟩,⟨some 55,.bin .eql false (.t 53) (.t 54),some (52,true)⟩,⟨some 56,.pick (.t 52) (.t 55) (.c (.v (.bool false))),none⟩]) (.cond (.t 56) (.seq (.ops [⟨some 2,.mov (.c (.v (.int .i64 1))),none⟩,⟨some 3,.mov (.c (.v (.int .i64 0))),none⟩,⟨some 4,.mov (.c (.v (.int .i64 0))),none⟩]) .ret) .skip)) (.seq (.seq (.ops [⟨some 57,.faddr 0 (.t 1),none⟩,⟨some 58,.load 1 false (.t 57),none⟩,⟨some 59,.bin .geq false (.t 58) (.c (.v (.int .i64 7))),none⟩,⟨some 60,.mov (.t 59),none⟩,⟨some 61,.faddr 0 (.t 1),some (60,true)⟩,⟨some 62,.load 1 false (.t 61),some (60,true)⟩,⟨some 63,.bin .leq false (.t 62) (.c (.v (.int .i64 12))),some (60,true)⟩,⟨some 64,.pick (.t 60) (.t 63) (.c (.v (.bool false))),none⟩,⟨some 65,.mov (.t 64),none⟩,⟨some 66,.mov (.t 5),some (65,true)⟩,⟨some 67,.mov (.t 12),some (65,true)⟩,⟨some 68,.bin .eql false (.t 66) (.t 67),some (65,true)⟩,⟨some 69,.pick (.t 65) (.t 68) (.c (.v (.bool false))),none⟩,⟨some 70,.mov (.t 69),none⟩,⟨some 71,.faddr 0 (.t 1),some (70,false)⟩,⟨some 72,.load 1 false (.t 71),some (70,false)⟩,⟨some 73,.bin .eql false (.t 72) (.c (.v (.int .i64 13))),some (70,false)⟩,⟨some 74,.pick (.t 70) (.c (.v (.bool true))) (.t 73),none⟩,⟨some 75,.mov (.t 74),none⟩,⟨some 76,.faddr 0 (.t 1),some (75,false)⟩,⟨some 77,.load 1 false (.t 76),some (75,false)⟩,⟨some 78,.bin .eql false (.t 77) (.c (.v (.int .i64 14))),some (75,false)⟩,⟨some 79,.pick (.t 75) (.c (.v (.bool true))) (.t 78),none⟩]) (.cond (.t 79) (.seq (.ops [⟨some 2,.mov (.c (.v (.int .i64 2))),none⟩,⟨some 3,.mov (.c (.v (.int .i64 0))),none⟩,⟨some 4,.mov (.c (.v (.int .i64 0))),none⟩]) .ret) .skip)) (.seq (.seq (.ops [⟨some 80,.faddr 0 (.t 1),none⟩,⟨some 81,.load 1 false (.t 80),none⟩,⟨some 82,.bin .geq false (.t 81) (.c (.v (.int .i64 15))),none⟩,⟨some 83,.mov (.t 82),none⟩,⟨some 84,.faddr 0 (.t 1),some (83,true)⟩,⟨some 85,.load 1 false (.t 84),some (83,true)⟩,⟨some 86,.bin .leq false (.t 85) (.c (.v (.int .i64 19))),some (83,true)⟩,⟨some 87,.pick (.t 83) (.t 86) (.c (.v (.bool false))),none⟩,⟨some 88,.mov (.t 87),none⟩,⟨some 89,.mov (.t 6),some (88,true)⟩,⟨some 90,.mov (.t 12),some (88,true)⟩,⟨some 91,.bin .eql false (.t 89) (.t 90),some (88,true)⟩,⟨some 92,.pick (.t 88) (.t 91) (.c (.v (.bool false))),none⟩]) (.cond (.t 92) (.seq (.ops [⟨some 2,.mov (.c (.v (.int .i64 2))),none⟩,⟨some 3,.mov (.c (.v (.int .i64 0))),none⟩,⟨some 4,.mov (.c (.v (.int .i64 0))),none⟩]) .ret) .skip)) (.seq (.seq (.ops [⟨some 93,.faddr 0 (.t 1),none⟩,⟨some 94,.load 1 false (.t 93),none⟩,⟨some 95,.bin .geq false (.t 94) (.c (.v (.int .i64 15))),none⟩,⟨some 96,.mov (.t 95),none⟩,⟨some 97,.mov (.t 6),some (96,true)⟩,⟨some 98,.mov (.t 7),some (96,true)⟩,⟨some 99,.bin .add false (.t 97) (.t 98),some (96,true)⟩,⟨some 100,.mov (.t 12),some (96,true)⟩,⟨some 101,.bin .eql false (.t 99) (.t 100),some (96,true)⟩,⟨some 102,.pick (.t 96) (.t 101) (.c (.v (.bool false))),none⟩]) (.cond (.t 102) (.seq (.ops [⟨some 2,.mov (.c (.v (.int .i64 3))),none⟩,⟨some 3,.mov (.c (.v (.int .i64 0))),none⟩,⟨some 4,.mov (.c (.v (.int .i64 0))),none⟩]) .ret) .skip)) (.seq (.draw [[⟨some 103,.faddr 2 (.t 1),none⟩,⟨some 104,.load 1 false (.t 103),none⟩,⟨some 2,.mov (.c (.v (.int .i64 0))),none⟩,⟨some 3,.mov (.c (.v (.int .i64 4))),none⟩],[⟨some 4,.mov (.t 104),none⟩]]) .ret)))))
def irType (f : Nat) : FnIR := ⟨105,[.t 2,.t 3,.t 4],(.seq (.ops [⟨some 1,.box (.t 0),none⟩,⟨some 2,.mov (.c (.v (.int .i64 0))),none⟩,⟨some 3,.mov (.c (.v (.int .i64 0))),none⟩,⟨some 4,.mov (.c (.v (.int .i64 0))),none⟩]) (.seq (.ops [⟨some 5,.mov (.c (.v (.int .i64 0))),none⟩]) (.seq (.ops [⟨some 6,.mov (.c (.v (.int .i64 0))),none⟩]) (.seq (.ops [⟨some 7,.mov (.c (.v (.int .i64 0))),none⟩]) (.seq (irType4 f) (.seq (.ops [⟨some 46,.faddr 3 (.t 1),none⟩,⟨some 47,.load 1 false (.t 46),none⟩,⟨some 48,.len false (.t 47),none⟩,⟨some 12,.mov (.t 48),none⟩]) (irType6 f)))))))⟩
def irLit (ty : Nat) : FnIR := ⟨18,[.t 2],(.seq (.ops [⟨some 1,.box (.t 0),none⟩,⟨some 2,.mov (.c (.v (.bool false))),none⟩]) (.seq (.ops [⟨some 7,.load 4 true (.t 1),none⟩,⟨some 8,.call ty [(.t 7)],none⟩,⟨some 6,.mov (.t 8),none⟩,⟨some 9,.extract (.t 6) 0,none⟩,⟨some 10,.extract (.t 6) 1,none⟩,⟨some 11,.extract (.t 6) 2,none⟩,⟨some 3,.mov (.t 9),none⟩,⟨some 4,.mov (.t 10),none⟩,⟨some 5,.mov (.t 11),none⟩]) (.seq (.ops [⟨some 12,.mov (.t 4),none⟩,⟨some 13,.bin .eql false (.t 12) (.c (.v (.int .i64 0))),none⟩,⟨some 14,.mov (.t 13),none⟩,⟨some 15,.mov (.t 3),some (14,true)⟩,⟨some 16,.bin .eql false (.t 15) (.c (.v (.int .i64 2))),some (14,true)⟩,⟨some 17,.pick (.t 14) (.t 16) (.c (.v (.bool false))),none⟩,⟨some 2,.mov (.t 17),none⟩]) .ret)))⟩
def irTruth : FnIR := ⟨4,[.t 2],(.seq (.ops [⟨some 2,.mov (.c (.v (.int .i64 0))),none⟩]) (.seq (.seq (.ops [⟨some 3,.mov (.t 0),none⟩]) (.cond (.t 3) (.seq (.ops [⟨some 2,.mov (.c (.v (.int .i64 1))),none⟩]) .ret) .skip)) (.seq (.ops [⟨some 2,.mov (.c (.v (.int .i64 0))),none⟩]) .ret)))⟩
theorem deep_gen {P : Program} {f : Nat} (ir : compF P f = some (irDeep f)) : ∀ t : T, t.Ok → ∀ m : Int, PC P f [t.toL, intL m] (intL (t.deep m)) := by
 intro t
 refine T.ind (M := fun t => t.Ok → ∀ m : Int, PC P f [t.toL, intL m] (intL (t.deep m))) ?_ t
 intro op n pl l ih hok m
 have hlen := hok.len
 rw [T.deep_mk, toL_mk]
 refine pc_of_call (callAt_enter ir (by simp [irDeep]) ?_)
 simp [irDeep]
 by_cases hm : 1 < m
 ·refine lwp_loop (fun i : Nat => [(1, intL m), (2, .ptr 0 0), (5, intL ((l.take i).foldl (fun d t => if d < w64 (1 + t.deep (w64 (m - 1))) then w64 (1 + t.deep (w64 (m - 1))) else d) 1)), (6, intL i)])
   (fun _ => [some [intL op, intL n, intL pl, .sl 4 false (l.map T.toL)]]) (fun i => l.length - i) (fun i => i ≤ l.length) 0 (by simp) ⟨[0], ?_⟩ ?_
  ·simp
  ·intro i hi
   simp
   refine ⟨fun hlt => ?_, fun hge => ?_⟩
   ·have hm' : ¬ m ≤ 1 := by omega
    simp [hlt, hm, hm']
    refine callT_plain (ih l[i] (List.getElem_mem hlt) (hok.kid _ (List.getElem_mem hlt)) (w64 (m - 1))) rfl (by simp) ?_
    simp
    refine ⟨fun hlt' => ⟨i + 1, by omega, by simp <;> omega, [0], ?_⟩, fun hge' => ⟨i + 1, by omega, by simp <;> omega, [0], ?_⟩⟩
    ·have e : (l.take (i + 1)).foldl (fun d t => if d < w64 (1 + t.deep (w64 (m - 1))) then w64 (1 + t.deep (w64 (m - 1))) else d) 1 = w64 (1 + l[i].deep (w64 (m - 1))) := by
      rw [List.take_succ_eq_append_getElem hlt, List.foldl_append]; simp [hlt']
     simp [e]
     exact wrap_id (by omega) (by omega)
    ·have hge2 := Int.not_lt.mpr hge'
     have e : (l.take (i + 1)).foldl (fun d t => if d < w64 (1 + t.deep (w64 (m - 1))) then w64 (1 + t.deep (w64 (m - 1))) else d) 1 = (l.take i).foldl (fun d t => if d < w64 (1 + t.deep (w64 (m - 1))) then w64 (1 + t.deep (w64 (m - 1))) else d) 1 := by
      rw [List.take_succ_eq_append_getElem hlt, List.foldl_append]; simp [hge2]
     simp [e]
     exact wrap_id (by omega) (by omega)
   ·have : i = l.length := by omega
    subst this
    simp [hm]
 ·refine lwp_loop (fun i : Nat => [(1, intL m), (2, .ptr 0 0), (5, intL 1), (6, intL 0)])
   (fun _ => [some [intL op, intL n, intL pl, .sl 4 false (l.map T.toL)]]) (fun i => 0) (fun i => True) 0 (by simp) ⟨[0], ?_⟩ ?_
  ·simp
  ·intro i hi
   simp [hm]
theorem foldl_stay {α : Type} {g : Int → α → Int} {m : Int} (hg : ∀ n x, m ≤ n → g n x = n) : ∀ {l : List α} {n : Int}, m ≤ n → l.foldl g n = n
 | [], _, _ => rfl
 | x :: l, n, h => by rw [List.foldl_cons, hg n x h]; exact foldl_stay hg h
theorem many_gen {P : Program} {f : Nat} (ir : compF P f = some (irManyT f)) : ∀ t : T, t.Ok → ∀ m : Int, PC P f [t.toL, intL m] (intL (t.many m)) := by
 intro t
 refine T.ind (M := fun t => t.Ok → ∀ m : Int, PC P f [t.toL, intL m] (intL (t.many m))) ?_ t
 intro op n pl l ih hok m
 have hlen := hok.len
 rw [T.many_mk, toL_mk]
 refine pc_of_call (callAt_enter ir (by simp [irManyT]) ?_)
 simp [irManyT]
 refine lwp_loop (fun i : Nat => [(1, intL m), (2, .ptr 0 0), (5, intL ((l.take i).foldl (fun k t => if k < m then w64 (k + t.many m) else k) 1)), (6, intL i)])
   (fun _ => [some [intL op, intL n, intL pl, .sl 4 false (l.map T.toL)]]) (fun i => l.length - i) (fun i => i ≤ l.length) 0 (by simp) ⟨[0], ?_⟩ ?_
 ·simp
 ·intro i hi
  simp
  generalize hk : (l.take i).foldl (fun k t => if k < m then w64 (k + t.many m) else k) 1 = k
  refine ⟨fun hlt => ⟨fun hkm => ?_, fun hkm => ?_⟩, fun hge => ?_⟩
  ·simp [hlt, hkm]
   refine callT_plain (ih l[i] (List.getElem_mem hlt) (hok.kid _ (List.getElem_mem hlt)) m) rfl (by simp) ?_
   simp
   refine ⟨i + 1, by omega, by simp <;> omega, [0], ?_⟩
   have e : (l.take (i + 1)).foldl (fun k t => if k < m then w64 (k + t.many m) else k) 1 = w64 (k + l[i].many m) := by
    rw [List.take_succ_eq_append_getElem hlt, List.foldl_append, hk]; simp [hkm]
   simp [e]
   exact wrap_id (by omega) (by omega)
  ·have e : l = l.take i ++ l.drop i := (List.take_append_drop i l).symm
   rw [e, List.foldl_append, hk]
   have := (foldl_stay (g := fun k (t : T) => if k < m then w64 (k + t.many m) else k) (l := l.drop i) (fun n x h => by rw [if_neg (by omega)]) hkm)
   simp [this]
  ·have : i = l.length := by omega
   subst this
   rw [List.take_length] at hk
   simp [hk]
theorem fewT_gen {P : Program} {f d m : Nat} (ir : compF P f = some (irFewT d m)) (hd : compF P d = some (irDeep d)) (hm : compF P m = some (irManyT m)) (t : T) (hok : t.Ok) : PC P f [t.toL] (boolL t.few) := by
 refine pc_of_call (callAt_enter ir (by simp [irFewT]) ?_)
 simp [irFewT]
 refine callT_plain (deep_gen hd t hok 45) rfl (by simp) ?_
 simp
 refine callT_plain (many_gen hm t hok 300) rfl (by simp) ?_
 simp [T.few]
 by_cases h : t.deep 45 < 45
 ·have h' : ¬ 45 ≤ t.deep 45 := by omega
  simp [h, h']
 ·have h' : 45 ≤ t.deep 45 := by omega
  simp [h, h']
theorem may_want {P : Program} {f : Nat} {op n pl vars : Int} {l : List T} {Q : X → Env → Heap → Prop} {E : Env} (h1 : lk E 1 = intL vars) (h2 : lk E 2 = .ptr 0 0) (h5 : lk E 5 = intL 2)
  (hQ : ∀ E', lk E' 1 = intL vars → lk E' 2 = .ptr 0 0 → lk E' 5 = intL (wants op) → Q .normal E' [some [intL op, intL n, intL pl, .sl 4 false (l.map T.toL)]]) :
  lwp P 0 (irMay2 f) Q E [some [intL op, intL n, intL pl, .sl 4 false (l.map T.toL)]] := by
 have hc : op = 1 ∨ op = 2 ∨ op = 13 ∨ op = 14 ∨ op = 6 ∨ op = 15 ∨ op = 20 ∨ op = 21 ∨ op = 22 ∨ (op ≠ 1 ∧ op ≠ 2 ∧ op ≠ 13 ∧ op ≠ 14 ∧ op ≠ 6 ∧ op ≠ 15 ∧ op ≠ 20 ∧ op ≠ 21 ∧ op ≠ 22) := by omega
 rcases hc with rfl | rfl | rfl | rfl | rfl | rfl | rfl | rfl | rfl | ⟨c1, c2, c3, c4, c5, c6, c7, c8, c9⟩
 all_goals
  try simp [wants] at hQ
  simp [irMay2, *]
theorem may_len {P : Program} {f : Nat} {op n pl vars w : Int} {l : List T} {Q : X → Env → Heap → Prop} {E : Env} (h1 : lk E 1 = intL vars) (h2 : lk E 2 = .ptr 0 0) (h5 : lk E 5 = intL w)
  (hY : (1 ≤ op ∧ op ≤ 24 ∧ (l.length : Int) = w) → ∀ E', lk E' 1 = intL vars → lk E' 2 = .ptr 0 0 → lk E' 5 = intL w → Q .normal E' [some [intL op, intL n, intL pl, .sl 4 false (l.map T.toL)]])
  (hN : ¬ (1 ≤ op ∧ op ≤ 24 ∧ (l.length : Int) = w) → ∀ E', lk E' 4 = boolL false → Q .ret E' [some [intL op, intL n, intL pl, .sl 4 false (l.map T.toL)]]) :
  lwp P 0 (irMay3 f) Q E [some [intL op, intL n, intL pl, .sl 4 false (l.map T.toL)]] := by
 by_cases hp : 1 ≤ op ∧ op ≤ 24 ∧ (l.length : Int) = w
 ·obtain ⟨a1, a2, a3⟩ := hp
  have b1 : ¬ op < 1 := by omega
  have b2 : ¬ 24 < op := by omega
  simp [irMay3, h2, h5, a3, b1, b2]
  exact hY ⟨a1, a2, a3⟩ _ (by simp [h1]) (by simp [h2]) (by simp [h5])
 ·have hN' := hN hp
  by_cases b1 : op < 1
  ·simp [irMay3, h2, b1]
   exact hN' _ (by simp)
  ·have a1 : 1 ≤ op := by omega
   by_cases b2 : 24 < op
   ·simp [irMay3, h2, b1, b2]
    exact hN' _ (by simp)
   ·have a2 : op ≤ 24 := by omega
    have b3 : ¬ (l.length : Int) = w := fun h => hp ⟨a1, a2, h⟩
    simp [irMay3, h2, h5, b1, b2, b3]
    exact hN' _ (by simp)
theorem may_num {P : Program} {f : Nat} {op n pl vars w : Int} {l : List T} {Q : X → Env → Heap → Prop} {E : Env} (h1 : lk E 1 = intL vars) (h2 : lk E 2 = .ptr 0 0) (h5 : lk E 5 = intL w)
  (hY : (¬ (op = 1 ∧ (n < 0 ∨ 1073741824 < n)) ∧ ¬ (op = 2 ∧ (n < 0 ∨ vars ≤ n)) ∧ ¬ (2 < op ∧ n ≠ 0)) → ∀ E', lk E' 1 = intL vars → lk E' 2 = .ptr 0 0 → lk E' 5 = intL w → Q .normal E' [some [intL op, intL n, intL pl, .sl 4 false (l.map T.toL)]])
  (hN : ¬ (¬ (op = 1 ∧ (n < 0 ∨ 1073741824 < n)) ∧ ¬ (op = 2 ∧ (n < 0 ∨ vars ≤ n)) ∧ ¬ (2 < op ∧ n ≠ 0)) → ∀ E', lk E' 4 = boolL false → Q .ret E' [some [intL op, intL n, intL pl, .sl 4 false (l.map T.toL)]]) :
  lwp P 0 (irMay4 f) Q E [some [intL op, intL n, intL pl, .sl 4 false (l.map T.toL)]] := by
 have hop : op = 1 ∨ op = 2 ∨ (op ≠ 1 ∧ op ≠ 2 ∧ 2 < op) ∨ (op ≠ 1 ∧ op ≠ 2 ∧ ¬ 2 < op) := by omega
 rcases hop with rfl | rfl | ⟨c1, c2, c3⟩ | ⟨c1, c2, c3⟩
 ·by_cases b1 : n < 0
  ·simp [irMay4, h2, b1]
   exact hN (by simp [b1]) _ (by simp)
  ·have a1 : 0 ≤ n := by omega
   by_cases b2 : 1073741824 < n
   ·simp [irMay4, h2, b1, b2]
    exact hN (by simp [b2]) _ (by simp)
   ·have a2 : n ≤ 1073741824 := by omega
    simp [irMay4, h2, b1, b2]
    exact hY (by simp [a1, a2]) _ (by simp [h1]) (by simp [h2]) (by simp [h5])
 ·by_cases b1 : n < 0
  ·simp [irMay4, h2, b1]
   exact hN (by simp [b1]) _ (by simp)
  ·have a1 : 0 ≤ n := by omega
   by_cases b2 : vars ≤ n
   ·simp [irMay4, h1, h2, b1, b2]
    exact hN (by simp [b2]) _ (by simp)
   ·have a2 : n < vars := by omega
    simp [irMay4, h1, h2, b1, b2]
    exact hY (by simp [a1, a2]) _ (by simp [h1]) (by simp [h2]) (by simp [h5])
 ·have c4 : ¬ op ≤ 2 := by omega
  by_cases b1 : n = 0
  ·simp [irMay4, h2, b1, c1, c2, c3]
   subst b1
   exact hY (by simp [c1, c2]) _ (by simp [h1]) (by simp [h2]) (by simp [h5])
  ·simp [irMay4, h2, b1, c1, c2, c3]
   exact hN (by simp [b1, c3]) _ (by simp)
 ·have c4 : op ≤ 2 := by omega
  simp [irMay4, h2, c1, c2, c3]
  exact hY (by simp [c1, c2, c3]) _ (by simp [h1]) (by simp [h2]) (by simp [h5])
theorem may_tail {P : Program} {f : Nat} {op n pl : Int} {l : List T} {vars : Int} (ih : ∀ t ∈ l, PC P f [t.toL, intL vars] (boolL (t.may vars))) (hlen : l.length ≤ 2932031007403) {E : Env} (h1 : lk E 1 = intL vars) (h2 : lk E 2 = .ptr 0 0) (h5 : lk E 5 = intL l.length) {b : Bool} (hb : b = l.all fun t => t.may vars) :
  lwp P 0 (irMay5 f) (fnPost [RV.t 4] fun r H' => reso H' 4 r = some (boolL b)) E [some [intL op, intL n, intL pl, .sl 4 false (l.map T.toL)]] := by
 subst hb
 simp [irMay5]
 refine lwp_loop (fun i : Nat => [(1, intL vars), (2, .ptr 0 0), (5, intL l.length), (6, intL i)])
   (fun _ => [some [intL op, intL n, intL pl, .sl 4 false (l.map T.toL)]]) (fun i => l.length - i) (fun i => i ≤ l.length ∧ ∀ t ∈ l.take i, t.may vars = true) 0 (by simp) ⟨[0], ?_⟩ ?_
 ·simp [h1, h2, h5]
 ·rintro i ⟨hi, hall⟩
  simp
  refine ⟨fun hlt => ?_, fun hge => ?_⟩
  ·simp [hlt]
   refine callT_plain (ih l[i] (List.getElem_mem hlt)) rfl (by simp) ?_
   simp
   cases hm : l[i].may vars
   ·simp
    exact ⟨l[i], List.getElem_mem hlt, hm⟩
   ·simp
    refine ⟨i + 1, ⟨by omega, fun t ht => ?_⟩, by simp <;> omega, [0], ?_⟩
    ·rw [List.take_succ_eq_append_getElem hlt] at ht
     rcases List.mem_append.1 ht with h | h
     ·exact hall t h
     ·simp at h; subst h; exact hm
    ·simp
     exact wrap_id (by omega) (by omega)
  ·have : i = l.length := by omega
   subst this
   rw [List.take_length] at hall
   simpa using hall
theorem may_gen {P : Program} {f : Nat} (ir : compF P f = some (irMay f)) : ∀ t : T, t.Ok → ∀ vars : Int, PC P f [t.toL, intL vars] (boolL (t.may vars)) := by
 intro t
 refine T.ind (M := fun t => t.Ok → ∀ vars : Int, PC P f [t.toL, intL vars] (boolL (t.may vars))) ?_ t
 intro op n pl l ih hok vars
 have hlen := hok.len
 rw [T.may_mk, toL_mk]
 refine pc_of_call (callAt_enter ir (by simp [irMay]) ?_)
 simp [irMay]
 refine may_want (vars := vars) (by simp) (by simp) (by simp) fun E1 a1 a2 a3 => ?_
 simp
 refine may_len a1 a2 a3 (fun hl E2 b1 b2 b3 => ?_) (fun hl E2 b4 => ?_)
 ·simp
  refine may_num b1 b2 b3 (fun hn E3 c1 c2 c3 => ?_) (fun hn E3 c4 => ?_)
  ·simp
   refine may_tail (fun t ht => ih t ht (hok.kid t ht) vars) hlen c1 c2 (by rw [c3, hl.2.2]) ?_
   rw [decide_eq_true ⟨hl, hn⟩, Bool.true_and]
  ·have e : decide (mayPart op n l.length vars) = false := decide_eq_false fun h => hn h.2
   rw [e]
   simp [c4]
 ·have e : decide (mayPart op n l.length vars) = false := decide_eq_false fun h => hl h.1
  rw [e]
  simp [b4]
theorem truth_gen {P : Program} {f : Nat} (ir : compF P f = some irTruth) (b : Bool) : PC P f [boolL b] (intL (tru b)) := by
 refine pc_of_call (callAt_enter ir (by simp [irTruth]) ?_)
 cases b <;> simp [irTruth, tru]
def typeEnd (op pl : Int) (i b t : Bool) : Ty3 :=
 if op ≤ 6 ∧ i = true then (1, 0, 0)
 else if (7 ≤ op ∧ op ≤ 12 ∧ i = true) ∨ op = 13 ∨ op = 14 ∨ (15 ≤ op ∧ op ≤ 19 ∧ b = true) then (2, 0, 0)
 else if 15 ≤ op ∧ t = true then (3, 0, 0) else (0, 4, pl)
theorem type_end {P : Program} {f : Nat} {op n pl a b c k : Int} {l : List T} {E : Env} (h1 : lk E 1 = .ptr 0 0) (h5 : lk E 5 = intL a) (h6 : lk E 6 = intL b) (h7 : lk E 7 = intL c) (h12 : lk E 12 = intL k) {r : L}
  (hr : r = (let y := typeEnd op pl (decide (a = k)) (decide (b = k)) (decide (w64 (b + c) = k)); .tup [intL y.1, intL y.2.1, intL y.2.2])) :
  lwp P 0 (irType6 f) (fnPost [RV.t 2, RV.t 3, RV.t 4] fun x H' => reso H' 4 x = some r) E [some [intL op, intL n, intL pl, .sl 4 false (l.map T.toL)]] := by
 subst hr
 have hop : (op ≤ 6) ∨ (7 ≤ op ∧ op ≤ 12) ∨ op = 13 ∨ op = 14 ∨ (15 ≤ op ∧ op ≤ 19) ∨ 20 ≤ op := by omega
 rcases hop with g | ⟨g, g'⟩ | rfl | rfl | ⟨g, g'⟩ | g
 ·have f1 : ¬ 7 ≤ op := by omega
  have f2 : ¬ op = 13 := by omega
  have f3 : ¬ op = 14 := by omega
  have f4 : ¬ 15 ≤ op := by omega
  by_cases ha : a = k <;> simp [irType6, typeEnd, h1, h5, h12, g, f1, f2, f3, f4, ha]
 ·have f1 : ¬ op ≤ 6 := by omega
  have f2 : ¬ op = 13 := by omega
  have f3 : ¬ op = 14 := by omega
  have f4 : ¬ 15 ≤ op := by omega
  by_cases ha : a = k <;> simp [irType6, typeEnd, h1, h5, h12, g, g', f1, f2, f3, f4, ha]
 ·simp [irType6, typeEnd, h1]
 ·simp [irType6, typeEnd, h1]
 ·have f1 : ¬ op ≤ 6 := by omega
  have f2 : ¬ op = 13 := by omega
  have f3 : ¬ op = 14 := by omega
  have f4 : 7 ≤ op := by omega
  have f5 : ¬ op ≤ 12 := by omega
  by_cases ha : b = k
  ·simp [irType6, typeEnd, h1, h6, h12, g, g', f1, f2, f3, f4, f5, ha]
  ·by_cases hb : w64 (b + c) = k <;> simp [irType6, typeEnd, h1, h6, h7, h12, g, g', f1, f2, f3, f4, f5, ha, hb]
 ·have f1 : ¬ op ≤ 6 := by omega
  have f2 : ¬ op = 13 := by omega
  have f3 : ¬ op = 14 := by omega
  have f4 : 7 ≤ op := by omega
  have f5 : ¬ op ≤ 12 := by omega
  have f6 : 15 ≤ op := by omega
  have f7 : ¬ op ≤ 19 := by omega
  by_cases hb : w64 (b + c) = k <;> simp [irType6, typeEnd, h1, h6, h7, h12, f6, f7, f1, f2, f3, f4, f5, hb]
theorem countP_int {α : Type} (p : α → Bool) (l : List α) : ((l.countP p : Nat) : Int) = l.length ↔ ∀ a ∈ l, p a = true := by
 rw [← List.countP_eq_length]; omega
theorem typeStep_bad {op pl : Int} {l : List T} {i : Nat} (hlt : i < l.length) (hall : ∀ t ∈ l.take i, t.type.2.1 = 0) (hbad : l[i].type.2.1 ≠ 0) : typeStep op pl (l.map T.type) = (0, l[i].type.2.1, l[i].type.2.2) := by
 have e : l = l.take i ++ l[i] :: l.drop (i + 1) := by simp
 have h : (l.map T.type).find? (fun r => decide (r.2.1 ≠ 0)) = some l[i].type := by
  conv => lhs; rw [e]
  rw [List.map_append, List.find?_append, List.map_cons, List.find?_cons_of_pos (by simpa using hbad)]
  rw [List.find?_eq_none.2]
  ·rfl
  ·intro r hr
   obtain ⟨t, ht, rfl⟩ := List.mem_map.1 hr
   simpa using hall t ht
 unfold typeStep
 rw [h]
theorem typeStep_good {op pl : Int} {l : List T} (hall : ∀ t ∈ l, t.type.2.1 = 0) : typeStep op pl (l.map T.type) = typeEnd op pl (decide (∀ t ∈ l, t.type.1 = 1)) (decide (∀ t ∈ l, t.type.1 = 2)) (decide (∀ t ∈ l, t.type.1 ≠ 1)) := by
 unfold typeStep typeEnd
 rw [List.find?_eq_none.2 (by intro r hr; obtain ⟨t, ht, rfl⟩ := List.mem_map.1 hr; simpa using hall t ht)]
 simp
theorem type_gen {P : Program} {f : Nat} (ir : compF P f = some (irType f)) : ∀ t : T, t.Ok → PC P f [t.toL] (.tup [intL t.type.1, intL t.type.2.1, intL t.type.2.2]) := by
 intro t
 refine T.ind (M := fun t => t.Ok → PC P f [t.toL] (.tup [intL t.type.1, intL t.type.2.1, intL t.type.2.2])) ?_ t
 intro op n pl l ih hok
 have hlen := hok.len
 rw [T.type_mk, toL_mk]
 refine pc_of_call (callAt_enter ir (by simp [irType]) ?_)
 simp [irType, irType4]
 refine lwp_loop (fun i : Nat => [(1, .ptr 0 0), (5, intL ((l.take i).countP fun t => decide (t.type.1 = 1))), (6, intL ((l.take i).countP fun t => decide (t.type.1 = 2))), (7, intL ((l.take i).countP fun t => decide (t.type.1 = 3))), (8, intL i)])
   (fun _ => [some [intL op, intL n, intL pl, .sl 4 false (l.map T.toL)]]) (fun i => l.length - i) (fun i => i ≤ l.length ∧ ∀ t ∈ l.take i, t.type.2.1 = 0) 0 (by simp) ⟨[0], ?_⟩ ?_
 ·simp
 ·rintro i ⟨hi, hall⟩
  simp
  have hc1 : (l.take i).countP (fun t => decide (t.type.1 = 1)) ≤ i := Nat.le_trans List.countP_le_length (by simp; omega)
  have hc2 : (l.take i).countP (fun t => decide (t.type.1 = 2)) ≤ i := Nat.le_trans List.countP_le_length (by simp; omega)
  have hc3 : (l.take i).countP (fun t => decide (t.type.1 = 3)) ≤ i := Nat.le_trans List.countP_le_length (by simp; omega)
  refine ⟨fun hlt => ?_, fun hge => ?_⟩
  ·simp [hlt]
   have hih := ih l[i] (List.getElem_mem hlt) (hok.kid _ (List.getElem_mem hlt))
   have htc := l[i].type_cases
   by_cases hbad : l[i].type.2.1 = 0
   ·have htc' := htc.resolve_left (by simp [hbad])
    have hnext : ∀ t ∈ l.take (i + 1), t.type.2.1 = 0 := fun t ht => by
     rw [List.take_succ_eq_append_getElem hlt] at ht
     rcases List.mem_append.1 ht with h | h
     ·exact hall t h
     ·simp at h; subst h; exact hbad
    have hcs : ∀ y : Int, (l.take (i + 1)).countP (fun t => decide (t.type.1 = y)) = (l.take i).countP (fun t => decide (t.type.1 = y)) + if l[i].type.1 = y then 1 else 0 := fun y => by
     rw [List.take_succ_eq_append_getElem hlt, List.countP_append, List.countP_cons]; simp
    have w1 : ∀ k : Nat, k ≤ i → IntKind.i64.wrap ((k : Int) + 1) = ((k + 1 : Nat) : Int) := fun k hk => by rw [wrap_id (by omega) (by omega)]; rfl
    rcases htc' with e | e | e
    all_goals
     rw [e] at hih hcs
     have c1 := hcs 1
     have c2 := hcs 2
     have c3 := hcs 3
     simp at c1 c2 c3
     refine callT_plain hih rfl (by simp) ?_
     simp
     refine ⟨i + 1, ⟨by omega, hnext⟩, by simp <;> omega, [0], ?_⟩
     simp [c1, c2, c3, w1, hc1, hc2, hc3]
   ·refine callT_plain hih rfl (by simp) ?_
    rw [typeStep_bad hlt hall hbad]
    simp [hbad]
  ·have : i = l.length := by omega
   subst this
   rw [List.take_length] at hall hc1 hc2 hc3 ⊢
   simp
   refine type_end (a := (l.countP fun t => decide (t.type.1 = 1) : Nat)) (b := (l.countP fun t => decide (t.type.1 = 2) : Nat)) (c := (l.countP fun t => decide (t.type.1 = 3) : Nat)) (k := l.length) (by simp) (by simp) (by simp) (by simp) (by simp) ?_
   rw [typeStep_good hall]
   have hsum : l.countP (fun t => decide (t.type.1 = 1)) + l.countP (fun t => decide (t.type.1 = 2)) + l.countP (fun t => decide (t.type.1 = 3)) = l.length := by
    have hall' : ∀ t ∈ l, t.type = (1, 0, 0) ∨ t.type = (2, 0, 0) ∨ t.type = (3, 0, 0) := fun t ht => t.type_cases.resolve_left (by simp [hall t ht])
    clear hall hc1 hc2 hc3 hi hge hlen hok ih
    induction l with
    | nil => rfl
    | cons x l ih =>
     have h1 := ih fun t ht => hall' t (by simp [ht])
     rcases hall' x (by simp) with e | e | e <;> simp [e] <;> omega
   have e1 : decide (((l.countP fun t => decide (t.type.1 = 1) : Nat) : Int) = l.length) = decide (∀ t ∈ l, t.type.1 = 1) := by rw [decide_eq_decide, countP_int]; simp
   have e2 : decide (((l.countP fun t => decide (t.type.1 = 2) : Nat) : Int) = l.length) = decide (∀ t ∈ l, t.type.1 = 2) := by rw [decide_eq_decide, countP_int]; simp
   have e3 : decide (w64 (((l.countP fun t => decide (t.type.1 = 2) : Nat) : Int) + ((l.countP fun t => decide (t.type.1 = 3) : Nat) : Int)) = l.length) = decide (∀ t ∈ l, t.type.1 ≠ 1) := by
    rw [decide_eq_decide, show w64 (((l.countP fun t => decide (t.type.1 = 2) : Nat) : Int) + ((l.countP fun t => decide (t.type.1 = 3) : Nat) : Int)) = _ from wrap_id (by omega) (by omega)]
    have : (∀ t ∈ l, t.type.1 ≠ 1) ↔ l.countP (fun t => decide (t.type.1 = 1)) = 0 := by rw [List.countP_eq_zero]; simp
    rw [this]; omega
   simp only [e1, e2, e3]
theorem lit_gen {P : Program} {f y : Nat} (ir : compF P f = some (irLit y)) (hy : compF P y = some (irType y)) (t : T) (hok : t.Ok) : PC P f [t.toL] (boolL t.lit) := by
 refine pc_of_call (callAt_enter ir (by simp [irLit]) ?_)
 simp [irLit]
 refine callT_plain (type_gen hy t hok) rfl (by simp) ?_
 simp [T.lit]
 by_cases h : t.type.2.1 = 0 <;> simp [h]
end Lg

