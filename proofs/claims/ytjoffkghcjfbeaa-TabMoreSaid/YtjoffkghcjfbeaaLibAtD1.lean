import Derived.Test.YtjoffkghcjfbeaaLibTakes
import Derived.Test.YtjoffkghcjfbeaaLibNnfR
import Derived.Test.YtjoffkghcjfbeaaLibMove
/- The functions of the tableau, and of automata on words, in the small language. -/
namespace Lg
open Go
def irIdxV : FnIR := ⟨19,[.t 4],(.seq (.ops [⟨some 4,.mov (.c (.v (.int .i64 0))),none⟩]) (.seq (.seq (.ops [⟨some 6,.mov (.t 0),none⟩,⟨some 7,.len false (.t 6),none⟩,⟨some 8,.mov (.c (.v (.int .i64 0))),none⟩]) (.block 0 (.loop (.seq (.ops [⟨some 9,.bin .lss false (.t 8) (.t 7),none⟩]) (.seq (.cond (.t 9) .skip (.exit 0)) (.seq (.block 1 (.seq (.ops [⟨some 10,.mov (.t 8),none⟩,⟨some 5,.mov (.t 10),none⟩]) (.seq (.ops [⟨some 11,.mov (.t 1),none⟩,⟨some 12,.mov (.t 0),none⟩,⟨some 13,.mov (.t 5),none⟩,⟨some 14,.iaddr 1 (.t 12) (.t 13),none⟩,⟨some 15,.load 1 false (.t 14),none⟩,⟨some 16,.bin .eql false (.t 11) (.t 15),none⟩]) (.cond (.t 16) (.seq (.ops [⟨some 17,.mov (.t 5),none⟩,⟨some 4,.mov (.t 17),none⟩]) .ret) .skip)))) (.ops [⟨some 18,.bin .add false (.t 8) (.c (.v (.int .i64 1))),none⟩,⟨some 8,.mov (.t 18),none⟩]))))))) (.seq (.ops [⟨some 4,.mov (.c (.v (.int .i64 (-1)))),none⟩]) .ret)))⟩
def irConV (idx : Nat) : FnIR := ⟨9,[.t 4],(.seq (.ops [⟨some 4,.mov (.c (.v (.bool false))),none⟩]) (.seq (.ops [⟨some 5,.mov (.t 0),none⟩,⟨some 6,.mov (.t 1),none⟩,⟨some 7,.call idx [(.t 5),(.t 6)],none⟩,⟨some 8,.bin .geq false (.t 7) (.c (.v (.int .i64 0))),none⟩,⟨some 4,.mov (.t 8),none⟩]) .ret))⟩
def irIdxI : FnIR := ⟨19,[.t 4],(.seq (.ops [⟨some 4,.mov (.c (.v (.int .i64 0))),none⟩]) (.seq (.seq (.ops [⟨some 6,.mov (.t 0),none⟩,⟨some 7,.len false (.t 6),none⟩,⟨some 8,.mov (.c (.v (.int .i64 0))),none⟩]) (.block 0 (.loop (.seq (.ops [⟨some 9,.bin .lss false (.t 8) (.t 7),none⟩]) (.seq (.cond (.t 9) .skip (.exit 0)) (.seq (.block 1 (.seq (.ops [⟨some 10,.mov (.t 8),none⟩,⟨some 5,.mov (.t 10),none⟩]) (.seq (.ops [⟨some 11,.mov (.t 1),none⟩,⟨some 12,.mov (.t 0),none⟩,⟨some 13,.mov (.t 5),none⟩,⟨some 14,.iaddr 1 (.t 12) (.t 13),none⟩,⟨some 15,.load 1 false (.t 14),none⟩,⟨some 16,.calld (.t 11) [(.t 15)],none⟩]) (.cond (.t 16) (.seq (.ops [⟨some 17,.mov (.t 5),none⟩,⟨some 4,.mov (.t 17),none⟩]) .ret) .skip)))) (.ops [⟨some 18,.bin .add false (.t 8) (.c (.v (.int .i64 1))),none⟩,⟨some 8,.mov (.t 18),none⟩]))))))) (.seq (.ops [⟨some 4,.mov (.c (.v (.int .i64 (-1)))),none⟩]) .ret)))⟩
def irConI (idx : Nat) : FnIR := ⟨9,[.t 4],(.seq (.ops [⟨some 4,.mov (.c (.v (.bool false))),none⟩]) (.seq (.ops [⟨some 5,.mov (.t 0),none⟩,⟨some 6,.mov (.t 1),none⟩,⟨some 7,.call idx [(.t 5),(.t 6)],none⟩,⟨some 8,.bin .geq false (.t 7) (.c (.v (.int .i64 0))),none⟩,⟨some 4,.mov (.t 8),none⟩]) .ret))⟩
def irGrowR : FnIR := ⟨27,[.t 4],(.seq (.ops [⟨some 4,.mov (.c (.v (.slice none 0 0))),none⟩]) (.seq (.seq (.ops [⟨some 5,.mov (.t 1),none⟩,⟨some 6,.bin .lss false (.t 5) (.c (.v (.int .i64 0))),none⟩]) (.cond (.t 6) .pan .skip)) (.seq (.seq (.ops [⟨some 8,.mov (.t 1),none⟩,⟨some 9,.mov (.t 0),none⟩,⟨some 10,.cap (.t 9),none⟩,⟨some 11,.mov (.t 0),none⟩,⟨some 12,.len false (.t 11),none⟩,⟨some 13,.bin .sub false (.t 10) (.t 12),none⟩,⟨some 14,.bin .sub false (.t 8) (.t 13),none⟩,⟨some 1,.mov (.t 14),none⟩]) (.seq (.ops [⟨some 15,.mov (.t 1),none⟩,⟨some 16,.bin .gtr false (.t 15) (.c (.v (.int .i64 0))),none⟩]) (.cond (.t 16) (.ops [⟨some 17,.mov (.t 0),none⟩,⟨some 18,.mov (.t 0),none⟩,⟨some 19,.cap (.t 18),none⟩,⟨some 20,.slice 1 (.t 17) none (some (.t 19)) none,none⟩,⟨some 21,.mov (.t 1),none⟩,⟨some 22,.appz 1 24 (.t 20) (.t 21),none⟩,⟨some 23,.mov (.t 0),none⟩,⟨some 24,.len false (.t 23),none⟩,⟨some 25,.slice 1 (.t 22) none (some (.t 24)) none,none⟩,⟨some 0,.mov (.t 25),none⟩]) .skip))) (.seq (.ops [⟨some 26,.mov (.t 0),none⟩,⟨some 4,.mov (.t 26),none⟩]) .ret))))⟩
def irConcatR (grow : Nat) : FnIR := ⟨36,[.t 2],(.seq (.ops [⟨some 2,.mov (.c (.v (.slice none 0 0))),none⟩]) (.seq (.ops [⟨some 3,.mov (.c (.v (.int .i64 0))),none⟩]) (.seq (.seq (.ops [⟨some 9,.mov (.t 0),none⟩,⟨some 10,.len false (.t 9),none⟩,⟨some 11,.mov (.c (.v (.int .i64 0))),none⟩]) (.block 0 (.loop (.seq (.ops [⟨some 12,.bin .lss false (.t 11) (.t 10),none⟩]) (.seq (.cond (.t 12) .skip (.exit 0)) (.seq (.block 1 (.seq (.ops [⟨some 13,.iaddr 1 (.t 9) (.t 11),none⟩,⟨some 14,.load 1 false (.t 13),none⟩,⟨some 5,.mov (.t 14),none⟩]) (.seq (.ops [⟨some 15,.mov (.t 3),none⟩,⟨some 16,.mov (.t 5),none⟩,⟨some 17,.len false (.t 16),none⟩,⟨some 18,.bin .add false (.t 15) (.t 17),none⟩,⟨some 3,.mov (.t 18),none⟩]) (.seq (.ops [⟨some 19,.mov (.t 3),none⟩,⟨some 20,.bin .lss false (.t 19) (.c (.v (.int .i64 0))),none⟩]) (.cond (.t 20) .pan .skip))))) (.ops [⟨some 22,.bin .add false (.t 11) (.c (.v (.int .i64 1))),none⟩,⟨some 11,.mov (.t 22),none⟩]))))))) (.seq (.ops [⟨some 23,.mov (.t 3),none⟩,⟨some 24,.call grow [(.c (.v (.slice none 0 0))),(.t 23)],none⟩,⟨some 6,.mov (.t 24),none⟩]) (.seq (.seq (.ops [⟨some 25,.mov (.t 0),none⟩,⟨some 26,.len false (.t 25),none⟩,⟨some 27,.mov (.c (.v (.int .i64 0))),none⟩]) (.block 2 (.loop (.seq (.ops [⟨some 28,.bin .lss false (.t 27) (.t 26),none⟩]) (.seq (.cond (.t 28) .skip (.exit 2)) (.seq (.block 3 (.seq (.ops [⟨some 29,.iaddr 1 (.t 25) (.t 27),none⟩,⟨some 30,.load 1 false (.t 29),none⟩,⟨some 8,.mov (.t 30),none⟩]) (.ops [⟨some 31,.mov (.t 6),none⟩,⟨some 32,.mov (.t 8),none⟩,⟨some 33,.append 1 24 [(.v (.slice none 0 0))] (.t 31) (.t 32),none⟩,⟨some 6,.mov (.t 33),none⟩]))) (.ops [⟨some 34,.bin .add false (.t 27) (.c (.v (.int .i64 1))),none⟩,⟨some 27,.mov (.t 34),none⟩]))))))) (.seq (.ops [⟨some 35,.mov (.t 6),none⟩,⟨some 2,.mov (.t 35),none⟩]) .ret))))))⟩
def irR11 : FnIR := ⟨11,[.t 3],(.seq (.ops [⟨some 3,.mov (.c (.v (.bool false))),none⟩]) (.seq (.ops [⟨some 4,.mov (.t 0),none⟩,⟨some 5,.bin .lss false (.t 4) (.c (.v (.int .i64 0))),none⟩,⟨some 6,.mov (.t 5),none⟩,⟨some 7,.mov (.t 0),some (6,false)⟩,⟨some 8,.load 1 false (.t 1),some (6,false)⟩,⟨some 9,.bin .geq false (.t 7) (.t 8),some (6,false)⟩,⟨some 10,.pick (.t 6) (.c (.v (.bool true))) (.t 9),none⟩,⟨some 3,.mov (.t 10),none⟩]) .ret))⟩
def irR1 (q con : Nat) : FnIR := ⟨8,[.t 3],(.seq (.ops [⟨some 3,.mov (.c (.v (.bool false))),none⟩]) (.seq (.ops [⟨some 4,.mov (.t 0),none⟩,⟨some 5,.mkfn (.func q) [] [(.t 1)],none⟩,⟨some 6,.call con [(.t 4),(.t 5)],none⟩,⟨some 7,.un .not (.t 6),none⟩,⟨some 3,.mov (.t 7),none⟩]) .ret))⟩
def irR2 (lit : Nat) : FnIR := ⟨6,[.t 2],(.seq (.ops [⟨some 1,.box (.t 0),none⟩,⟨some 2,.mov (.c (.v (.bool false))),none⟩]) (.seq (.ops [⟨some 3,.load 4 true (.t 1),none⟩,⟨some 4,.call lit [(.t 3)],none⟩,⟨some 5,.un .not (.t 4),none⟩,⟨some 2,.mov (.t 5),none⟩]) .ret))⟩
def irRightP (r1 cont r2 cat : Nat) : FnIR := ⟨50,[.t 2],(.seq (.ops [⟨some 1,.box (.t 0),none⟩,⟨some 2,.mov (.c (.v (.bool false))),none⟩]) (.seq (.ops [⟨some 9,.faddr 0 (.t 1),none⟩,⟨some 10,.load 1 false (.t 9),none⟩,⟨some 11,.len false (.t 10),none⟩,⟨some 3,.alloc (.v (.int .i64 0)),none⟩,⟨none,.store 1 (.t 3) (.t 11),none⟩]) (.seq (.ops [⟨some 12,.mkfn (.func r1) [] [(.t 3)],none⟩,⟨some 4,.mov (.t 12),none⟩]) (.seq (.seq (.ops [⟨some 13,.faddr 0 (.t 1),none⟩,⟨some 14,.load 1 false (.t 13),none⟩,⟨some 15,.len false (.t 14),none⟩,⟨some 16,.mov (.c (.v (.int .i64 0))),none⟩]) (.block 0 (.loop (.seq (.ops [⟨some 17,.bin .lss false (.t 16) (.t 15),none⟩]) (.seq (.cond (.t 17) .skip (.exit 0)) (.seq (.block 1 (.seq (.ops [⟨some 18,.iaddr 1 (.t 14) (.t 16),none⟩,⟨some 19,.load 1 false (.t 18),none⟩,⟨some 6,.mov (.t 19),none⟩]) (.seq (.ops [⟨some 20,.mov (.t 6),none⟩,⟨some 21,.call cont [(.t 20),(.c (.fn (.func r2) [] []))],none⟩]) (.cond (.t 21) (.seq (.ops [⟨some 2,.mov (.c (.v (.bool false))),none⟩]) .ret) .skip)))) (.ops [⟨some 22,.bin .add false (.t 16) (.c (.v (.int .i64 1))),none⟩,⟨some 16,.mov (.t 22),none⟩]))))))) (.seq (.seq (.ops [⟨some 23,.faddr 1 (.t 1),none⟩,⟨some 24,.load 1 false (.t 23),none⟩,⟨some 25,.faddr 3 (.t 1),none⟩,⟨some 26,.load 1 false (.t 25),none⟩,⟨some 27,.bslice 1 [(.v (.slice none 0 0))] 2 [(0,1,(.t 24)),(1,1,(.t 26))],none⟩,⟨some 28,.call cat [(.t 27)],none⟩,⟨some 29,.len false (.t 28),none⟩,⟨some 30,.mov (.c (.v (.int .i64 0))),none⟩]) (.block 2 (.loop (.seq (.ops [⟨some 31,.bin .lss false (.t 30) (.t 29),none⟩]) (.seq (.cond (.t 31) .skip (.exit 2)) (.seq (.block 3 (.seq (.ops [⟨some 32,.iaddr 1 (.t 28) (.t 30),none⟩,⟨some 33,.load 1 false (.t 32),none⟩,⟨some 8,.mov (.t 33),none⟩]) (.seq (.ops [⟨some 34,.mov (.t 4),none⟩,⟨some 35,.mov (.t 8),none⟩,⟨some 36,.calld (.t 34) [(.t 35)],none⟩,⟨some 37,.un .not (.t 36),none⟩]) (.cond (.t 37) (.seq (.ops [⟨some 2,.mov (.c (.v (.bool false))),none⟩]) .ret) .skip)))) (.ops [⟨some 38,.bin .add false (.t 30) (.c (.v (.int .i64 1))),none⟩,⟨some 30,.mov (.t 38),none⟩]))))))) (.seq (.ops [⟨some 39,.faddr 1 (.t 1),none⟩,⟨some 40,.load 1 false (.t 39),none⟩,⟨some 41,.len false (.t 40),none⟩,⟨some 42,.load 1 false (.t 3),none⟩,⟨some 43,.bin .eql false (.t 41) (.t 42),none⟩,⟨some 44,.mov (.t 43),none⟩,⟨some 45,.mov (.t 4),some (44,true)⟩,⟨some 46,.faddr 2 (.t 1),some (44,true)⟩,⟨some 47,.load 1 false (.t 46),some (44,true)⟩,⟨some 48,.calld (.t 45) [(.t 47)],some (44,true)⟩,⟨some 49,.pick (.t 44) (.t 48) (.c (.v (.bool false))),none⟩,⟨some 2,.mov (.t 49),none⟩]) .ret))))))⟩
def irFit1 (ev : Nat) : FnIR := ⟨8,[.t 3],(.seq (.ops [⟨some 2,.box (.t 0),none⟩,⟨some 3,.mov (.c (.v (.bool false))),none⟩]) (.seq (.ops [⟨some 4,.load 4 true (.t 2),none⟩,⟨some 5,.load 1 false (.t 1),none⟩,⟨some 6,.call ev [(.t 4),(.t 5)],none⟩,⟨some 7,.bin .neq false (.t 6) (.c (.v (.int .i64 1))),none⟩,⟨some 3,.mov (.t 7),none⟩]) .ret))⟩
def irFitP (cont f1 : Nat) : FnIR := ⟨15,[.t 6],(.seq (.ops [⟨some 3,.box (.t 0),none⟩,⟨some 5,.box (.t 2),none⟩,⟨some 6,.mov (.c (.v (.bool false))),none⟩]) (.seq (.ops [⟨some 7,.faddr 0 (.t 3),none⟩,⟨some 8,.load 1 false (.t 7),none⟩,⟨some 9,.mov (.t 1),none⟩,⟨some 10,.iaddr 1 (.t 8) (.t 9),none⟩,⟨some 11,.load 1 false (.t 10),none⟩,⟨some 12,.mkfn (.func f1) [] [(.t 5)],none⟩,⟨some 13,.call cont [(.t 11),(.t 12)],none⟩,⟨some 14,.un .not (.t 13),none⟩,⟨some 6,.mov (.t 14),none⟩]) .ret))⟩
def irNextP : FnIR := ⟨47,[.t 4],(.seq (.ops [⟨some 2,.box (.t 0),none⟩,⟨some 3,.box (.t 1),none⟩,⟨some 4,.mov (.c (.v (.slice none 0 0))),none⟩]) (.seq (.ops [⟨some 10,.faddr 0 (.t 3),none⟩,⟨some 11,.load 1 false (.t 10),none⟩,⟨some 12,.bin .add false (.t 11) (.c (.v (.int .i64 1))),none⟩,⟨some 5,.mov (.t 12),none⟩]) (.seq (.seq (.ops [⟨some 13,.mov (.t 5),none⟩,⟨some 14,.faddr 4 (.t 2),none⟩,⟨some 15,.faddr 0 (.t 14),none⟩,⟨some 16,.load 1 false (.t 15),none⟩,⟨some 17,.len false (.t 16),none⟩,⟨some 18,.bin .eql false (.t 13) (.t 17),none⟩]) (.cond (.t 18) (.ops [⟨some 19,.faddr 4 (.t 2),none⟩,⟨some 20,.faddr 1 (.t 19),none⟩,⟨some 21,.load 1 false (.t 20),none⟩,⟨some 5,.mov (.t 21),none⟩]) .skip)) (.seq (.ops [⟨some 6,.mov (.c (.v (.slice none 0 0))),none⟩]) (.seq (.seq (.ops [⟨some 22,.faddr 0 (.t 2),none⟩,⟨some 23,.faddr 1 (.t 22),none⟩,⟨some 24,.load 1 false (.t 23),none⟩,⟨some 25,.faddr 1 (.t 3),none⟩,⟨some 26,.load 1 false (.t 25),none⟩,⟨some 27,.iaddr 1 (.t 24) (.t 26),none⟩,⟨some 28,.load 1 false (.t 27),none⟩,⟨some 29,.len false (.t 28),none⟩,⟨some 30,.mov (.c (.v (.int .i64 0))),none⟩]) (.block 0 (.loop (.seq (.ops [⟨some 31,.bin .lss false (.t 30) (.t 29),none⟩]) (.seq (.cond (.t 31) .skip (.exit 0)) (.seq (.block 1 (.seq (.ops [⟨some 32,.iaddr 1 (.t 28) (.t 30),none⟩,⟨some 33,.load 1 false (.t 32),none⟩,⟨some 8,.mov (.t 33),none⟩]) (.seq (.ops [⟨some 34,.mov (.t 5),none⟩,⟨some 35,.mov (.t 8),none⟩,⟨some 36,.build [(.v (.int .i64 0)),(.v (.int .i64 0))] [(0,1,(.t 34)),(1,1,(.t 35))],none⟩,⟨some 9,.alloc (.agg [(.v (.int .i64 0)),(.v (.int .i64 0))]),none⟩,⟨none,.store 2 (.t 9) (.t 36),none⟩]) (.seq (.ops [⟨some 37,.faddr 6 (.t 2),none⟩,⟨some 38,.load 1 false (.t 37),none⟩,⟨some 39,.load 2 true (.t 9),none⟩,⟨some 40,.mget (.p .i64) false (.bool false) (.t 38) (.t 39),none⟩]) (.cond (.t 40) (.ops [⟨some 41,.mov (.t 6),none⟩,⟨some 42,.load 2 true (.t 9),none⟩,⟨some 43,.bslice 2 [(.v (.int .i64 0)),(.v (.int .i64 0))] 1 [(0,2,(.t 42))],none⟩,⟨some 44,.append 2 16 [(.v (.int .i64 0)),(.v (.int .i64 0))] (.t 41) (.t 43),none⟩,⟨some 6,.mov (.t 44),none⟩]) .skip))))) (.ops [⟨some 45,.bin .add false (.t 30) (.c (.v (.int .i64 1))),none⟩,⟨some 30,.mov (.t 45),none⟩]))))))) (.seq (.ops [⟨some 46,.mov (.t 6),none⟩,⟨some 4,.mov (.t 46),none⟩]) .ret))))))⟩
def irRe1 : FnIR := ⟨13,[.t 4],(.seq (.ops [⟨some 3,.box (.t 0),none⟩,⟨some 4,.mov (.c (.v (.bool false))),none⟩]) (.seq (.ops [⟨some 5,.load 1 false (.t 1),none⟩,⟨some 6,.load 2 true (.t 3),none⟩,⟨some 7,.mget (.p .i64) false (.bool false) (.t 5) (.t 6),none⟩,⟨some 8,.mov (.t 7),none⟩,⟨some 9,.load 1 false (.t 2),some (8,false)⟩,⟨some 10,.load 2 true (.t 3),some (8,false)⟩,⟨some 11,.calld (.t 9) [(.t 10)],some (8,false)⟩,⟨some 12,.pick (.t 8) (.c (.v (.bool true))) (.t 11),none⟩,⟨some 4,.mov (.t 12),none⟩]) .ret))⟩
def irIdxP : FnIR := ⟨19,[.t 4],(.seq (.ops [⟨some 4,.mov (.c (.v (.int .i64 0))),none⟩]) (.seq (.seq (.ops [⟨some 6,.mov (.t 0),none⟩,⟨some 7,.len false (.t 6),none⟩,⟨some 8,.mov (.c (.v (.int .i64 0))),none⟩]) (.block 0 (.loop (.seq (.ops [⟨some 9,.bin .lss false (.t 8) (.t 7),none⟩]) (.seq (.cond (.t 9) .skip (.exit 0)) (.seq (.block 1 (.seq (.ops [⟨some 10,.mov (.t 8),none⟩,⟨some 5,.mov (.t 10),none⟩]) (.seq (.ops [⟨some 11,.mov (.t 1),none⟩,⟨some 12,.mov (.t 0),none⟩,⟨some 13,.mov (.t 5),none⟩,⟨some 14,.iaddr 2 (.t 12) (.t 13),none⟩,⟨some 15,.load 2 true (.t 14),none⟩,⟨some 16,.calld (.t 11) [(.t 15)],none⟩]) (.cond (.t 16) (.seq (.ops [⟨some 17,.mov (.t 5),none⟩,⟨some 4,.mov (.t 17),none⟩]) .ret) .skip)))) (.ops [⟨some 18,.bin .add false (.t 8) (.c (.v (.int .i64 1))),none⟩,⟨some 8,.mov (.t 18),none⟩]))))))) (.seq (.ops [⟨some 4,.mov (.c (.v (.int .i64 (-1)))),none⟩]) .ret)))⟩
def irConP (idx : Nat) : FnIR := ⟨9,[.t 4],(.seq (.ops [⟨some 4,.mov (.c (.v (.bool false))),none⟩]) (.seq (.ops [⟨some 5,.mov (.t 0),none⟩,⟨some 6,.mov (.t 1),none⟩,⟨some 7,.call idx [(.t 5),(.t 6)],none⟩,⟨some 8,.bin .geq false (.t 7) (.c (.v (.int .i64 0))),none⟩,⟨some 4,.mov (.t 8),none⟩]) .ret))⟩
def irReach (nx r1 con : Nat) : FnIR := ⟨31,[.t 4],(.seq (.ops [⟨some 2,.box (.t 0),none⟩,⟨some 3,.box (.t 1),none⟩,⟨some 4,.mov (.c (.v (.map none))),none⟩]) (.seq (.ops [⟨some 8,.mkmap (.p .i64),none⟩,⟨some 5,.alloc (.v (.map none)),none⟩,⟨none,.store 1 (.t 5) (.t 8),none⟩]) (.seq (.seq (.ops [⟨some 6,.mov (.c (.v (.bool true))),none⟩]) (.block 0 (.loop (.seq (.seq (.ops [⟨some 9,.mov (.t 6),none⟩]) (.cond (.t 9) .skip (.exit 0))) (.block 1 (.seq (.ops [⟨some 6,.mov (.c (.v (.bool false))),none⟩]) (.seq (.ops [⟨some 10,.faddr 6 (.t 2),none⟩,⟨some 11,.load 1 false (.t 10),none⟩,⟨some 12,.rng (.t 11),none⟩]) (.block 2 (.loop (.seq (.ops [⟨some 13,.nxt (.t 12),none⟩,⟨some 14,.extract (.t 13) 0,none⟩]) (.seq (.cond (.t 14) .skip (.exit 2)) (.block 3 (.seq (.ops [⟨some 15,.ent (.t 12),none⟩,⟨some 16,.extract (.t 15) 0,none⟩,⟨some 7,.alloc (.agg [(.v (.int .i64 0)),(.v (.int .i64 0))]),none⟩,⟨none,.store 2 (.t 7) (.t 16),none⟩]) (.seq (.ops [⟨some 17,.load 1 false (.t 5),none⟩,⟨some 18,.load 2 true (.t 7),none⟩,⟨some 19,.mget (.p .i64) false (.bool false) (.t 17) (.t 18),none⟩,⟨some 20,.un .not (.t 19),none⟩,⟨some 21,.mov (.t 20),none⟩,⟨some 22,.load 7 true (.t 2),some (21,true)⟩,⟨some 23,.load 2 true (.t 7),some (21,true)⟩,⟨some 24,.call nx [(.t 22),(.t 23)],some (21,true)⟩,⟨some 25,.mkfn (.func r1) [] [(.t 5),(.t 3)],some (21,true)⟩,⟨some 26,.call con [(.t 24),(.t 25)],some (21,true)⟩,⟨some 27,.pick (.t 21) (.t 26) (.c (.v (.bool false))),none⟩]) (.cond (.t 27) (.ops [⟨some 28,.load 1 false (.t 5),none⟩,⟨some 29,.load 2 true (.t 7),none⟩,⟨none,.mset (.p .i64) (.t 28) (.t 29) (.c (.v (.bool true))),none⟩,⟨some 6,.mov (.c (.v (.bool true))),none⟩]) .skip))))))))))))))) (.seq (.ops [⟨some 30,.load 1 false (.t 5),none⟩,⟨some 4,.mov (.t 30),none⟩]) .ret))))⟩
def irTk1 (con : Nat) : FnIR := ⟨8,[.t 3],(.seq (.ops [⟨some 2,.box (.t 0),none⟩,⟨some 3,.mov (.c (.v (.bool false))),none⟩]) (.seq (.ops [⟨some 4,.load 1 false (.t 1),none⟩,⟨some 5,.faddr 1 (.t 2),none⟩,⟨some 6,.load 1 false (.t 5),none⟩,⟨some 7,.call con [(.t 4),(.t 6)],none⟩,⟨some 3,.mov (.t 7),none⟩]) .ret))⟩
def irTk2 : FnIR := ⟨9,[.t 3],(.seq (.ops [⟨some 3,.mov (.c (.v (.bool false))),none⟩]) (.seq (.ops [⟨some 4,.faddr 6 (.t 1),none⟩,⟨some 5,.load 1 false (.t 4),none⟩,⟨some 6,.mov (.t 0),none⟩,⟨some 7,.build [(.v (.int .i64 0)),(.v (.int .i64 0))] [(0,1,(.c (.v (.int .i64 0)))),(1,1,(.t 6))],none⟩,⟨some 8,.mget (.p .i64) false (.bool false) (.t 5) (.t 7),none⟩,⟨some 3,.mov (.t 8),none⟩]) .ret))⟩
def irTakesP (fit reach t1 t2 con : Nat) : FnIR := ⟨88,[.t 4],(.seq (.ops [⟨some 2,.box (.t 0),none⟩,⟨some 3,.box (.t 1),none⟩,⟨some 4,.mov (.c (.v (.bool false))),none⟩]) (.seq (.ops [⟨some 15,.load 4 true (.t 2),none⟩,⟨some 16,.load 2 true (.t 3),none⟩,⟨some 17,.mkmap (.p .i64),none⟩,⟨some 18,.build [(.v (.slice none 0 0)),(.v (.slice none 0 0)),(.v (.slice none 0 0)),(.v (.slice none 0 0)),(.v (.slice none 0 0)),(.v (.int .i64 0)),(.v (.map none))] [(0,4,(.t 15)),(4,2,(.t 16)),(6,1,(.t 17))],none⟩,⟨some 5,.alloc (.agg [(.v (.slice none 0 0)),(.v (.slice none 0 0)),(.v (.slice none 0 0)),(.v (.slice none 0 0)),(.v (.slice none 0 0)),(.v (.int .i64 0)),(.v (.map none))]),none⟩,⟨none,.store 7 (.t 5) (.t 18),none⟩]) (.seq (.seq (.ops [⟨some 19,.faddr 0 (.t 3),none⟩,⟨some 20,.load 1 false (.t 19),none⟩,⟨some 21,.len false (.t 20),none⟩,⟨some 22,.mov (.c (.v (.int .i64 0))),none⟩]) (.block 0 (.loop (.seq (.ops [⟨some 23,.bin .lss false (.t 22) (.t 21),none⟩]) (.seq (.cond (.t 23) .skip (.exit 0)) (.seq (.block 1 (.seq (.ops [⟨some 24,.mov (.t 22),none⟩,⟨some 25,.iaddr 1 (.t 20) (.t 22),none⟩,⟨some 26,.load 1 false (.t 25),none⟩,⟨some 6,.mov (.t 24),none⟩,⟨some 7,.mov (.t 26),none⟩]) (.seq (.ops [⟨some 27,.faddr 0 (.t 2),none⟩,⟨some 28,.load 1 false (.t 27),none⟩,⟨some 29,.len false (.t 28),none⟩,⟨some 30,.mov (.c (.v (.int .i64 0))),none⟩]) (.block 2 (.loop (.seq (.ops [⟨some 31,.bin .lss false (.t 30) (.t 29),none⟩]) (.seq (.cond (.t 31) .skip (.exit 2)) (.seq (.block 3 (.seq (.ops [⟨some 32,.mov (.t 30),none⟩,⟨some 8,.mov (.t 32),none⟩]) (.seq (.ops [⟨some 33,.load 4 true (.t 2),none⟩,⟨some 34,.mov (.t 8),none⟩,⟨some 35,.mov (.t 7),none⟩,⟨some 36,.call fit [(.t 33),(.t 34),(.t 35)],none⟩]) (.cond (.t 36) (.ops [⟨some 37,.faddr 6 (.t 5),none⟩,⟨some 38,.load 1 false (.t 37),none⟩,⟨some 39,.mov (.t 6),none⟩,⟨some 40,.mov (.t 8),none⟩,⟨some 41,.build [(.v (.int .i64 0)),(.v (.int .i64 0))] [(0,1,(.t 39)),(1,1,(.t 40))],none⟩,⟨none,.mset (.p .i64) (.t 38) (.t 41) (.c (.v (.bool true))),none⟩]) .skip)))) (.ops [⟨some 42,.bin .add false (.t 30) (.c (.v (.int .i64 1))),none⟩,⟨some 30,.mov (.t 42),none⟩]))))))))) (.ops [⟨some 43,.bin .add false (.t 22) (.c (.v (.int .i64 1))),none⟩,⟨some 22,.mov (.t 43),none⟩]))))))) (.seq (.ops [⟨some 44,.faddr 3 (.t 2),none⟩,⟨some 45,.load 1 false (.t 44),none⟩,⟨some 9,.mov (.t 45),none⟩]) (.seq (.seq (.ops [⟨some 46,.mov (.t 9),none⟩,⟨some 47,.len false (.t 46),none⟩,⟨some 48,.bin .eql false (.t 47) (.c (.v (.int .i64 0))),none⟩]) (.cond (.t 48) (.seq (.ops [⟨some 49,.faddr 0 (.t 2),none⟩,⟨some 50,.load 1 false (.t 49),none⟩,⟨some 51,.len false (.t 50),none⟩,⟨some 52,.mksl 1 8 [(.v (.int .i64 0))] (.t 51) (.t 51),none⟩,⟨some 10,.mov (.t 52),none⟩]) (.seq (.seq (.ops [⟨some 53,.mov (.t 10),none⟩,⟨some 54,.len false (.t 53),none⟩,⟨some 55,.mov (.c (.v (.int .i64 0))),none⟩]) (.block 4 (.loop (.seq (.ops [⟨some 56,.bin .lss false (.t 55) (.t 54),none⟩]) (.seq (.cond (.t 56) .skip (.exit 4)) (.seq (.block 5 (.seq (.ops [⟨some 57,.mov (.t 55),none⟩,⟨some 11,.mov (.t 57),none⟩]) (.ops [⟨some 58,.mov (.t 10),none⟩,⟨some 59,.mov (.t 11),none⟩,⟨some 60,.mov (.t 11),none⟩,⟨some 61,.iaddr 1 (.t 58) (.t 59),none⟩,⟨none,.store 1 (.t 61) (.t 60),none⟩]))) (.ops [⟨some 62,.bin .add false (.t 55) (.c (.v (.int .i64 1))),none⟩,⟨some 55,.mov (.t 62),none⟩]))))))) (.ops [⟨some 63,.mov (.t 10),none⟩,⟨some 64,.bslice 1 [(.v (.slice none 0 0))] 1 [(0,1,(.t 63))],none⟩,⟨some 9,.mov (.t 64),none⟩]))) .skip)) (.seq (.seq (.ops [⟨some 12,.mov (.c (.v (.int .i64 (-1)))),none⟩]) (.block 6 (.loop (.seq (.seq (.ops [⟨some 65,.mov (.t 12),none⟩,⟨some 66,.faddr 6 (.t 5),none⟩,⟨some 67,.load 1 false (.t 66),none⟩,⟨some 68,.mlen (.t 67),none⟩,⟨some 69,.bin .neq false (.t 65) (.t 68),none⟩]) (.cond (.t 69) .skip (.exit 6))) (.block 7 (.seq (.ops [⟨some 70,.faddr 6 (.t 5),none⟩,⟨some 71,.load 1 false (.t 70),none⟩,⟨some 72,.mlen (.t 71),none⟩,⟨some 12,.mov (.t 72),none⟩]) (.seq (.ops [⟨some 73,.mov (.t 9),none⟩,⟨some 74,.len false (.t 73),none⟩,⟨some 75,.mov (.c (.v (.int .i64 0))),none⟩]) (.block 8 (.loop (.seq (.ops [⟨some 76,.bin .lss false (.t 75) (.t 74),none⟩]) (.seq (.cond (.t 76) .skip (.exit 8)) (.seq (.block 9 (.seq (.ops [⟨some 77,.iaddr 1 (.t 73) (.t 75),none⟩,⟨some 78,.load 1 false (.t 77),none⟩,⟨some 14,.alloc (.v (.slice none 0 0)),none⟩,⟨none,.store 1 (.t 14) (.t 78),none⟩]) (.ops [⟨some 79,.load 7 true (.t 5),none⟩,⟨some 80,.mkfn (.func t1) [] [(.t 14)],none⟩,⟨some 81,.call reach [(.t 79),(.t 80)],none⟩,⟨some 82,.faddr 6 (.t 5),none⟩,⟨none,.store 1 (.t 82) (.t 81),none⟩]))) (.ops [⟨some 83,.bin .add false (.t 75) (.c (.v (.int .i64 1))),none⟩,⟨some 75,.mov (.t 83),none⟩]))))))))))))) (.seq (.ops [⟨some 84,.faddr 2 (.t 2),none⟩,⟨some 85,.load 1 false (.t 84),none⟩,⟨some 86,.mkfn (.func t2) [] [(.t 5)],none⟩,⟨some 87,.call con [(.t 85),(.t 86)],none⟩,⟨some 4,.mov (.t 87),none⟩]) .ret)))))))⟩
def irBitT (same : Nat) : FnIR := ⟨41,[.t 4],(.seq (.ops [⟨some 3,.box (.t 1),none⟩,⟨some 4,.mov (.c (.v (.int .u64 0))),none⟩]) (.seq (.seq (.ops [⟨some 7,.mov (.t 0),none⟩,⟨some 8,.nilchk (.t 7),none⟩,⟨some 9,.faddr 0 (.t 8),none⟩,⟨some 10,.load 1 false (.t 9),none⟩,⟨some 11,.len false (.t 10),none⟩,⟨some 12,.mov (.c (.v (.int .i64 0))),none⟩]) (.block 0 (.loop (.seq (.ops [⟨some 13,.bin .lss false (.t 12) (.t 11),none⟩]) (.seq (.cond (.t 13) .skip (.exit 0)) (.seq (.block 1 (.seq (.ops [⟨some 14,.mov (.t 12),none⟩,⟨some 15,.iaddr 4 (.t 10) (.t 12),none⟩,⟨some 16,.load 4 true (.t 15),none⟩,⟨some 6,.alloc (.agg [(.v (.int .i64 0)),(.v (.int .i64 0)),(.v (.int .i64 0)),(.v (.slice none 0 0))]),none⟩,⟨some 5,.mov (.t 14),none⟩,⟨none,.store 4 (.t 6) (.t 16),none⟩]) (.seq (.ops [⟨some 17,.load 4 true (.t 6),none⟩,⟨some 18,.load 4 true (.t 3),none⟩,⟨some 19,.call same [(.t 17),(.t 18)],none⟩]) (.cond (.t 19) (.seq (.ops [⟨some 20,.mov (.t 5),none⟩,⟨some 21,.bin .shl false (.c (.v (.int .u64 1))) (.t 20),none⟩,⟨some 4,.mov (.t 21),none⟩]) .ret) .skip)))) (.ops [⟨some 22,.bin .add false (.t 12) (.c (.v (.int .i64 1))),none⟩,⟨some 12,.mov (.t 22),none⟩]))))))) (.seq (.drawN [⟨some 23,.mov (.t 0),none⟩,⟨some 24,.nilchk (.t 23),none⟩,⟨some 25,.faddr 0 (.t 24),none⟩,⟨some 27,.load 4 true (.t 3),none⟩,⟨some 32,.nilchk (.t 23),none⟩,⟨some 33,.faddr 0 (.t 32),none⟩] (.alt ⟨some 26,.load 1 false (.t 25),none⟩ (.alt ⟨some 28,.len false (.t 26),none⟩ (.alt ⟨some 29,.bslice 4 [(.v (.int .i64 0)),(.v (.int .i64 0)),(.v (.int .i64 0)),(.v (.slice none 0 0))] 1 [(0,4,(.c (.agg [(.v (.int .i64 0)),(.v (.int .i64 0)),(.v (.int .i64 0)),(.v (.slice none 0 0))])))],none⟩ (.alt ⟨some 30,.append 4 48 [(.v (.int .i64 0)),(.v (.int .i64 0)),(.v (.int .i64 0)),(.v (.slice none 0 0))] (.t 26) (.t 29),none⟩ (.alt ⟨some 31,.iaddr 4 (.t 30) (.t 28),none⟩ (.alt ⟨none,.store 4 (.t 31) (.t 27),none⟩ (.alt ⟨none,.store 1 (.t 33) (.t 30),none⟩ .done .none) (.alt ⟨none,.store 1 (.t 33) (.t 30),none⟩ (.alt ⟨none,.store 4 (.t 31) (.t 27),none⟩ .done .none) .none)) (.alt ⟨none,.store 1 (.t 33) (.t 30),none⟩ (.alt ⟨some 31,.iaddr 4 (.t 30) (.t 28),none⟩ (.alt ⟨none,.store 4 (.t 31) (.t 27),none⟩ .done .none) .none) .none)) .none) .none) (.alt ⟨some 29,.bslice 4 [(.v (.int .i64 0)),(.v (.int .i64 0)),(.v (.int .i64 0)),(.v (.slice none 0 0))] 1 [(0,4,(.c (.agg [(.v (.int .i64 0)),(.v (.int .i64 0)),(.v (.int .i64 0)),(.v (.slice none 0 0))])))],none⟩ (.alt ⟨some 28,.len false (.t 26),none⟩ (.alt ⟨some 30,.append 4 48 [(.v (.int .i64 0)),(.v (.int .i64 0)),(.v (.int .i64 0)),(.v (.slice none 0 0))] (.t 26) (.t 29),none⟩ (.alt ⟨some 31,.iaddr 4 (.t 30) (.t 28),none⟩ (.alt ⟨none,.store 4 (.t 31) (.t 27),none⟩ (.alt ⟨none,.store 1 (.t 33) (.t 30),none⟩ .done .none) (.alt ⟨none,.store 1 (.t 33) (.t 30),none⟩ (.alt ⟨none,.store 4 (.t 31) (.t 27),none⟩ .done .none) .none)) (.alt ⟨none,.store 1 (.t 33) (.t 30),none⟩ (.alt ⟨some 31,.iaddr 4 (.t 30) (.t 28),none⟩ (.alt ⟨none,.store 4 (.t 31) (.t 27),none⟩ .done .none) .none) .none)) .none) .none) .none)) (.alt ⟨some 29,.bslice 4 [(.v (.int .i64 0)),(.v (.int .i64 0)),(.v (.int .i64 0)),(.v (.slice none 0 0))] 1 [(0,4,(.c (.agg [(.v (.int .i64 0)),(.v (.int .i64 0)),(.v (.int .i64 0)),(.v (.slice none 0 0))])))],none⟩ (.alt ⟨some 26,.load 1 false (.t 25),none⟩ (.alt ⟨some 28,.len false (.t 26),none⟩ (.alt ⟨some 30,.append 4 48 [(.v (.int .i64 0)),(.v (.int .i64 0)),(.v (.int .i64 0)),(.v (.slice none 0 0))] (.t 26) (.t 29),none⟩ (.alt ⟨some 31,.iaddr 4 (.t 30) (.t 28),none⟩ (.alt ⟨none,.store 4 (.t 31) (.t 27),none⟩ (.alt ⟨none,.store 1 (.t 33) (.t 30),none⟩ .done .none) (.alt ⟨none,.store 1 (.t 33) (.t 30),none⟩ (.alt ⟨none,.store 4 (.t 31) (.t 27),none⟩ .done .none) .none)) (.alt ⟨none,.store 1 (.t 33) (.t 30),none⟩ (.alt ⟨some 31,.iaddr 4 (.t 30) (.t 28),none⟩ (.alt ⟨none,.store 4 (.t 31) (.t 27),none⟩ .done .none) .none) .none)) .none) .none) .none) .none))) (.seq (.ops [⟨some 34,.mov (.t 0),none⟩,⟨some 35,.nilchk (.t 34),none⟩,⟨some 36,.faddr 0 (.t 35),none⟩,⟨some 37,.load 1 false (.t 36),none⟩,⟨some 38,.len false (.t 37),none⟩,⟨some 39,.bin .sub false (.t 38) (.c (.v (.int .i64 1))),none⟩,⟨some 40,.bin .shl false (.c (.v (.int .u64 1))) (.t 39),none⟩,⟨some 4,.mov (.t 40),none⟩]) .ret))))⟩
def irSplit (lit bit : Nat) : FnIR := ⟨147,[],(.seq (.ops [⟨some 7,.box (.t 1),none⟩]) (.seq (.ops [⟨some 14,.mov (.t 0),none⟩,⟨some 15,.faddr 0 (.t 7),none⟩,⟨some 16,.load 1 false (.t 15),none⟩,⟨some 17,.bin .andNot false (.t 14) (.t 16),none⟩,⟨some 0,.mov (.t 17),none⟩]) (.seq (.seq (.ops [⟨some 18,.mov (.t 0),none⟩,⟨some 19,.bin .eql false (.t 18) (.c (.v (.int .u64 0))),none⟩]) (.cond (.t 19) (.seq (.seq (.ops [⟨some 20,.load 1 false (.t 2),none⟩,⟨some 21,.load 2 true (.t 7),none⟩,⟨some 22,.mget (.p .u64) false (.bool false) (.t 20) (.t 21),none⟩,⟨some 23,.un .not (.t 22),none⟩]) (.cond (.t 23) (.seq (.ops [⟨some 24,.load 1 false (.t 2),none⟩,⟨some 25,.load 2 true (.t 7),none⟩,⟨none,.mset (.p .u64) (.t 24) (.t 25) (.c (.v (.bool true))),none⟩]) (.ops [⟨some 26,.load 1 false (.t 3),none⟩,⟨some 27,.load 2 true (.t 7),none⟩,⟨some 28,.bslice 2 [(.v (.int .u64 0)),(.v (.int .u64 0))] 1 [(0,2,(.t 27))],none⟩,⟨some 29,.append 2 16 [(.v (.int .u64 0)),(.v (.int .u64 0))] (.t 26) (.t 28),none⟩,⟨none,.store 1 (.t 3) (.t 29),none⟩])) .skip)) .ret) .skip)) (.seq (.ops [⟨some 8,.mov (.c (.v (.int .i64 0))),none⟩]) (.seq (.block 0 (.loop (.seq (.seq (.ops [⟨some 30,.mov (.t 0),none⟩,⟨some 31,.mov (.t 8),none⟩,⟨some 32,.bin .shl false (.c (.v (.int .u64 1))) (.t 31),none⟩,⟨some 33,.bin .and false (.t 30) (.t 32),none⟩,⟨some 34,.bin .eql false (.t 33) (.c (.v (.int .u64 0))),none⟩]) (.cond (.t 34) .skip (.exit 0))) (.block 1 (.ops [⟨some 35,.mov (.t 8),none⟩,⟨some 36,.bin .add false (.t 35) (.c (.v (.int .i64 1))),none⟩,⟨some 8,.mov (.t 36),none⟩]))))) (.seq (.draw [[⟨some 37,.load 1 false (.t 4),none⟩,⟨some 38,.nilchk (.t 37),none⟩,⟨some 39,.faddr 0 (.t 38),none⟩,⟨some 40,.load 1 false (.t 39),none⟩,⟨some 41,.mov (.t 8),none⟩,⟨some 42,.iaddr 4 (.t 40) (.t 41),none⟩,⟨some 43,.load 4 true (.t 42),none⟩,⟨some 44,.mov (.t 8),none⟩,⟨some 45,.bin .shl false (.c (.v (.int .u64 1))) (.t 44),none⟩,⟨some 9,.alloc (.agg [(.v (.int .i64 0)),(.v (.int .i64 0)),(.v (.int .i64 0)),(.v (.slice none 0 0))]),none⟩,⟨none,.store 4 (.t 9) (.t 43),none⟩],[⟨some 10,.mov (.t 45),none⟩]]) (.seq (.ops [⟨some 46,.mov (.t 0),none⟩,⟨some 47,.mov (.t 10),none⟩,⟨some 48,.bin .andNot false (.t 46) (.t 47),none⟩,⟨some 0,.mov (.t 48),none⟩]) (.seq (.ops [⟨some 49,.faddr 0 (.t 7),none⟩,⟨some 50,.load 1 false (.t 49),none⟩,⟨some 51,.mov (.t 10),none⟩,⟨some 52,.bin .or false (.t 50) (.t 51),none⟩,⟨some 53,.faddr 0 (.t 7),none⟩,⟨none,.store 1 (.t 53) (.t 52),none⟩]) (.seq (.seq (.ops [⟨some 54,.load 4 true (.t 9),none⟩,⟨some 55,.call lit [(.t 54)],none⟩]) (.cond (.t 55) (.seq (.ops [⟨some 56,.load 1 false (.t 5),none⟩,⟨some 57,.mov (.t 0),none⟩,⟨some 58,.load 2 true (.t 7),none⟩,⟨some 59,.calld (.t 56) [(.t 57),(.t 58)],none⟩]) .ret) .skip)) (.seq (.drawN [⟨some 60,.load 1 false (.t 4),none⟩,⟨some 61,.faddr 3 (.t 9),none⟩,⟨some 62,.load 1 false (.t 61),none⟩,⟨some 63,.iaddr 4 (.t 62) (.c (.v (.int .i64 0))),none⟩,⟨some 64,.load 4 true (.t 63),none⟩] (.alt ⟨some 65,.call bit [(.t 60),(.t 64)],none⟩ (.alt ⟨some 11,.mov (.t 65),none⟩ .done .none) .none)) (.seq (.seq (.ops [⟨some 66,.faddr 0 (.t 9),none⟩,⟨some 67,.load 1 false (.t 66),none⟩,⟨some 68,.bin .eql false (.t 67) (.c (.v (.int .i64 20))),none⟩]) (.cond (.t 68) (.seq (.ops [⟨some 69,.faddr 1 (.t 7),none⟩,⟨some 70,.load 1 false (.t 69),none⟩,⟨some 71,.mov (.t 11),none⟩,⟨some 72,.bin .or false (.t 70) (.t 71),none⟩,⟨some 73,.faddr 1 (.t 7),none⟩,⟨none,.store 1 (.t 73) (.t 72),none⟩]) (.seq (.ops [⟨some 74,.load 1 false (.t 5),none⟩,⟨some 75,.mov (.t 0),none⟩,⟨some 76,.load 2 true (.t 7),none⟩,⟨some 77,.calld (.t 74) [(.t 75),(.t 76)],none⟩]) .ret)) .skip)) (.seq (.drawN [⟨some 78,.load 1 false (.t 4),none⟩,⟨some 79,.faddr 3 (.t 9),none⟩,⟨some 80,.load 1 false (.t 79),none⟩,⟨some 81,.iaddr 4 (.t 80) (.c (.v (.int .i64 1))),none⟩,⟨some 82,.load 4 true (.t 81),none⟩] (.alt ⟨some 83,.call bit [(.t 78),(.t 82)],none⟩ (.alt ⟨some 12,.mov (.t 83),none⟩ .done .none) .none)) (.seq (.ops [⟨some 84,.faddr 0 (.t 7),none⟩,⟨some 85,.load 1 false (.t 84),none⟩,⟨some 86,.faddr 1 (.t 7),none⟩,⟨some 87,.load 1 false (.t 86),none⟩,⟨some 88,.mov (.t 10),none⟩,⟨some 89,.bin .or false (.t 87) (.t 88),none⟩,⟨some 90,.build [(.v (.int .u64 0)),(.v (.int .u64 0))] [(0,1,(.t 85)),(1,1,(.t 89))],none⟩,⟨some 13,.alloc (.agg [(.v (.int .u64 0)),(.v (.int .u64 0))]),none⟩,⟨none,.store 2 (.t 13) (.t 90),none⟩]) (.seq (.ops [⟨some 91,.faddr 0 (.t 9),none⟩,⟨some 92,.load 1 false (.t 91),none⟩]) (.block 2 (.seq (.ops [⟨some 94,.bin .eql false (.t 92) (.c (.v (.int .i64 16))),none⟩,⟨some 93,.mov (.t 94),none⟩]) (.cond (.t 93) (.ops [⟨some 95,.load 1 false (.t 5),none⟩,⟨some 96,.mov (.t 0),none⟩,⟨some 97,.mov (.t 11),none⟩,⟨some 98,.bin .or false (.t 96) (.t 97),none⟩,⟨some 99,.mov (.t 12),none⟩,⟨some 100,.bin .or false (.t 98) (.t 99),none⟩,⟨some 101,.load 2 true (.t 7),none⟩,⟨some 102,.calld (.t 95) [(.t 100),(.t 101)],none⟩]) (.seq (.ops [⟨some 104,.bin .eql false (.t 92) (.c (.v (.int .i64 17))),none⟩,⟨some 103,.mov (.t 104),none⟩]) (.cond (.t 103) (.seq (.ops [⟨some 105,.load 1 false (.t 5),none⟩,⟨some 106,.mov (.t 0),none⟩,⟨some 107,.mov (.t 11),none⟩,⟨some 108,.bin .or false (.t 106) (.t 107),none⟩,⟨some 109,.load 2 true (.t 7),none⟩,⟨some 110,.calld (.t 105) [(.t 108),(.t 109)],none⟩]) (.ops [⟨some 111,.load 1 false (.t 5),none⟩,⟨some 112,.mov (.t 0),none⟩,⟨some 113,.mov (.t 12),none⟩,⟨some 114,.bin .or false (.t 112) (.t 113),none⟩,⟨some 115,.load 2 true (.t 7),none⟩,⟨some 116,.calld (.t 111) [(.t 114),(.t 115)],none⟩])) (.seq (.ops [⟨some 118,.bin .eql false (.t 92) (.c (.v (.int .i64 23))),none⟩,⟨some 117,.mov (.t 118),none⟩]) (.cond (.t 117) (.seq (.ops [⟨some 119,.load 1 false (.t 5),none⟩,⟨some 120,.mov (.t 0),none⟩,⟨some 121,.mov (.t 12),none⟩,⟨some 122,.bin .or false (.t 120) (.t 121),none⟩,⟨some 123,.load 2 true (.t 7),none⟩,⟨some 124,.calld (.t 119) [(.t 122),(.t 123)],none⟩]) (.ops [⟨some 125,.load 1 false (.t 5),none⟩,⟨some 126,.mov (.t 0),none⟩,⟨some 127,.mov (.t 11),none⟩,⟨some 128,.bin .or false (.t 126) (.t 127),none⟩,⟨some 129,.load 2 true (.t 13),none⟩,⟨some 130,.calld (.t 125) [(.t 128),(.t 129)],none⟩])) (.seq (.ops [⟨some 132,.bin .eql false (.t 92) (.c (.v (.int .i64 24))),none⟩,⟨some 131,.mov (.t 132),none⟩]) (.cond (.t 131) (.seq (.ops [⟨some 133,.load 1 false (.t 5),none⟩,⟨some 134,.mov (.t 0),none⟩,⟨some 135,.mov (.t 11),none⟩,⟨some 136,.bin .or false (.t 134) (.t 135),none⟩,⟨some 137,.mov (.t 12),none⟩,⟨some 138,.bin .or false (.t 136) (.t 137),none⟩,⟨some 139,.load 2 true (.t 7),none⟩,⟨some 140,.calld (.t 133) [(.t 138),(.t 139)],none⟩]) (.ops [⟨some 141,.load 1 false (.t 5),none⟩,⟨some 142,.mov (.t 0),none⟩,⟨some 143,.mov (.t 12),none⟩,⟨some 144,.bin .or false (.t 142) (.t 143),none⟩,⟨some 145,.load 2 true (.t 13),none⟩,⟨some 146,.calld (.t 141) [(.t 144),(.t 145)],none⟩])) .skip)))))))))))))))))))))))⟩
def irCoverT (split : Nat) : FnIR := ⟨15,[.t 4],(.seq (.ops [⟨some 2,.box (.t 0),none⟩,⟨some 4,.mov (.c (.v (.slice none 0 0))),none⟩]) (.seq (.ops [⟨some 5,.alloc (.v (.slice none 0 0)),none⟩]) (.seq (.ops [⟨some 8,.mkmap (.p .u64),none⟩,⟨some 6,.alloc (.v (.map none)),none⟩,⟨none,.store 1 (.t 6) (.t 8),none⟩]) (.seq (.ops [⟨some 7,.alloc (.v .nilFunc),none⟩]) (.seq (.ops [⟨some 9,.mkfn (.func split) [] [(.t 6),(.t 5),(.t 2),(.t 7)],none⟩,⟨none,.store 1 (.t 7) (.t 9),none⟩]) (.seq (.ops [⟨some 10,.load 1 false (.t 7),none⟩,⟨some 11,.mov (.t 1),none⟩,⟨some 12,.build [(.v (.int .u64 0)),(.v (.int .u64 0))] [],none⟩,⟨some 13,.calld (.t 10) [(.t 11),(.t 12)],none⟩]) (.seq (.ops [⟨some 14,.load 1 false (.t 5),none⟩,⟨some 4,.mov (.t 14),none⟩]) .ret)))))))⟩
def irNumber : FnIR := ⟨39,[.t 4],(.seq (.ops [⟨some 4,.mov (.c (.v (.slice none 0 0))),none⟩]) (.seq (.ops [⟨some 5,.mov (.c (.v (.slice none 0 0))),none⟩]) (.seq (.seq (.ops [⟨some 10,.mov (.t 0),none⟩,⟨some 11,.len false (.t 10),none⟩,⟨some 12,.mov (.c (.v (.int .i64 0))),none⟩]) (.block 0 (.loop (.seq (.ops [⟨some 13,.bin .lss false (.t 12) (.t 11),none⟩]) (.seq (.cond (.t 13) .skip (.exit 0)) (.seq (.block 1 (.seq (.ops [⟨some 14,.iaddr 2 (.t 10) (.t 12),none⟩,⟨some 15,.load 2 true (.t 14),none⟩,⟨some 7,.alloc (.agg [(.v (.int .u64 0)),(.v (.int .u64 0))]),none⟩,⟨none,.store 2 (.t 7) (.t 15),none⟩]) (.seq (.ops [⟨some 17,.load 1 false (.t 1),none⟩,⟨some 18,.load 2 true (.t 7),none⟩,⟨some 19,.mget (.p .u64) true (.int .i64 0) (.t 17) (.t 18),none⟩,⟨some 16,.mov (.t 19),none⟩,⟨some 20,.extract (.t 16) 0,none⟩,⟨some 21,.extract (.t 16) 1,none⟩,⟨some 8,.mov (.t 20),none⟩,⟨some 9,.mov (.t 21),none⟩]) (.seq (.seq (.ops [⟨some 22,.mov (.t 9),none⟩,⟨some 23,.un .not (.t 22),none⟩]) (.cond (.t 23) (.seq (.ops [⟨some 24,.load 1 false (.t 2),none⟩,⟨some 25,.len false (.t 24),none⟩,⟨some 8,.mov (.t 25),none⟩]) (.seq (.ops [⟨some 26,.load 1 false (.t 1),none⟩,⟨some 27,.load 2 true (.t 7),none⟩,⟨some 28,.mov (.t 8),none⟩,⟨none,.mset (.p .u64) (.t 26) (.t 27) (.t 28),none⟩]) (.ops [⟨some 29,.load 1 false (.t 2),none⟩,⟨some 30,.load 2 true (.t 7),none⟩,⟨some 31,.bslice 2 [(.v (.int .u64 0)),(.v (.int .u64 0))] 1 [(0,2,(.t 30))],none⟩,⟨some 32,.append 2 16 [(.v (.int .u64 0)),(.v (.int .u64 0))] (.t 29) (.t 31),none⟩,⟨none,.store 1 (.t 2) (.t 32),none⟩]))) .skip)) (.ops [⟨some 33,.mov (.t 5),none⟩,⟨some 34,.mov (.t 8),none⟩,⟨some 35,.bslice 1 [(.v (.int .i64 0))] 1 [(0,1,(.t 34))],none⟩,⟨some 36,.append 1 8 [(.v (.int .i64 0))] (.t 33) (.t 35),none⟩,⟨some 5,.mov (.t 36),none⟩]))))) (.ops [⟨some 37,.bin .add false (.t 12) (.c (.v (.int .i64 1))),none⟩,⟨some 12,.mov (.t 37),none⟩]))))))) (.seq (.ops [⟨some 38,.mov (.t 5),none⟩,⟨some 4,.mov (.t 38),none⟩]) .ret))))⟩
def irOfT (lit bit num cover : Nat) : FnIR := ⟨149,[.c 2 4 true],(.seq (.ops [⟨some 1,.box (.t 0),none⟩,⟨some 2,.alloc (.agg [(.v (.slice none 0 0)),(.v (.slice none 0 0)),(.v (.slice none 0 0)),(.v (.slice none 0 0))]),none⟩]) (.seq (.ops [⟨some 21,.build [(.v (.slice none 0 0))] [],none⟩,⟨some 22,.box (.t 21),none⟩,⟨some 3,.mov (.t 22),none⟩]) (.seq (.ops [⟨some 23,.mov (.t 3),none⟩,⟨some 24,.load 4 true (.t 1),none⟩,⟨some 25,.call bit [(.t 23),(.t 24)],none⟩,⟨some 4,.mov (.t 25),none⟩]) (.seq (.ops [⟨some 5,.alloc (.agg [(.v (.slice none 0 0)),(.v (.slice none 0 0)),(.v (.slice none 0 0)),(.v (.slice none 0 0))]),none⟩]) (.seq (.ops [⟨some 6,.alloc (.v (.slice none 0 0)),none⟩]) (.seq (.ops [⟨some 26,.mkmap (.p .u64),none⟩,⟨some 7,.alloc (.v (.map none)),none⟩,⟨none,.store 1 (.t 7) (.t 26),none⟩]) (.seq (.ops [⟨some 27,.mkfn (.func num) [] [(.t 7),(.t 6)],none⟩,⟨some 8,.mov (.t 27),none⟩]) (.seq (.ops [⟨some 28,.mov (.t 8),none⟩,⟨some 29,.mov (.t 3),none⟩,⟨some 30,.mov (.t 4),none⟩,⟨some 31,.call cover [(.t 29),(.t 30)],none⟩,⟨some 32,.calld (.t 28) [(.t 31)],none⟩,⟨some 33,.faddr 2 (.t 5),none⟩,⟨none,.store 1 (.t 33) (.t 32),none⟩]) (.seq (.seq (.ops [⟨some 9,.mov (.c (.v (.int .i64 0))),none⟩]) (.block 0 (.loop (.seq (.seq (.ops [⟨some 34,.mov (.t 9),none⟩,⟨some 35,.load 1 false (.t 6),none⟩,⟨some 36,.len false (.t 35),none⟩,⟨some 37,.bin .lss false (.t 34) (.t 36),none⟩]) (.cond (.t 37) .skip (.exit 0))) (.seq (.block 1 (.drawN [⟨some 40,.faddr 1 (.t 5),none⟩,⟨some 42,.mov (.t 8),none⟩,⟨some 43,.mov (.t 3),none⟩,⟨some 45,.mov (.t 9),none⟩,⟨some 53,.faddr 1 (.t 5),none⟩] (.alt ⟨some 41,.load 1 false (.t 40),none⟩ (.alt ⟨some 44,.load 1 false (.t 6),none⟩ (.alt ⟨some 46,.iaddr 2 (.t 44) (.t 45),none⟩ (.alt ⟨some 47,.faddr 1 (.t 46),none⟩ (.alt ⟨some 48,.load 1 false (.t 47),none⟩ (.alt ⟨some 49,.call cover [(.t 43),(.t 48)],none⟩ (.alt ⟨some 50,.calld (.t 42) [(.t 49)],none⟩ (.alt ⟨some 51,.bslice 1 [(.v (.slice none 0 0))] 1 [(0,1,(.t 50))],none⟩ (.alt ⟨some 52,.append 1 24 [(.v (.slice none 0 0))] (.t 41) (.t 51),none⟩ (.alt ⟨none,.store 1 (.t 53) (.t 52),none⟩ .done .none) .none) .none) .none) .none) .none) .none) .none) .none) (.alt ⟨some 44,.load 1 false (.t 6),none⟩ (.alt ⟨some 41,.load 1 false (.t 40),none⟩ (.alt ⟨some 46,.iaddr 2 (.t 44) (.t 45),none⟩ (.alt ⟨some 47,.faddr 1 (.t 46),none⟩ (.alt ⟨some 48,.load 1 false (.t 47),none⟩ (.alt ⟨some 49,.call cover [(.t 43),(.t 48)],none⟩ (.alt ⟨some 50,.calld (.t 42) [(.t 49)],none⟩ (.alt ⟨some 51,.bslice 1 [(.v (.slice none 0 0))] 1 [(0,1,(.t 50))],none⟩ (.alt ⟨some 52,.append 1 24 [(.v (.slice none 0 0))] (.t 41) (.t 51),none⟩ (.alt ⟨none,.store 1 (.t 53) (.t 52),none⟩ .done .none) .none) .none) .none) .none) .none) .none) .none) (.alt ⟨some 46,.iaddr 2 (.t 44) (.t 45),none⟩ (.alt ⟨some 41,.load 1 false (.t 40),none⟩ (.alt ⟨some 47,.faddr 1 (.t 46),none⟩ (.alt ⟨some 48,.load 1 false (.t 47),none⟩ (.alt ⟨some 49,.call cover [(.t 43),(.t 48)],none⟩ (.alt ⟨some 50,.calld (.t 42) [(.t 49)],none⟩ (.alt ⟨some 51,.bslice 1 [(.v (.slice none 0 0))] 1 [(0,1,(.t 50))],none⟩ (.alt ⟨some 52,.append 1 24 [(.v (.slice none 0 0))] (.t 41) (.t 51),none⟩ (.alt ⟨none,.store 1 (.t 53) (.t 52),none⟩ .done .none) .none) .none) .none) .none) .none) .none) (.alt ⟨some 47,.faddr 1 (.t 46),none⟩ (.alt ⟨some 41,.load 1 false (.t 40),none⟩ (.alt ⟨some 48,.load 1 false (.t 47),none⟩ (.alt ⟨some 49,.call cover [(.t 43),(.t 48)],none⟩ (.alt ⟨some 50,.calld (.t 42) [(.t 49)],none⟩ (.alt ⟨some 51,.bslice 1 [(.v (.slice none 0 0))] 1 [(0,1,(.t 50))],none⟩ (.alt ⟨some 52,.append 1 24 [(.v (.slice none 0 0))] (.t 41) (.t 51),none⟩ (.alt ⟨none,.store 1 (.t 53) (.t 52),none⟩ .done .none) .none) .none) .none) .none) .none) (.alt ⟨some 48,.load 1 false (.t 47),none⟩ (.alt ⟨some 41,.load 1 false (.t 40),none⟩ (.alt ⟨some 49,.call cover [(.t 43),(.t 48)],none⟩ (.alt ⟨some 50,.calld (.t 42) [(.t 49)],none⟩ (.alt ⟨some 51,.bslice 1 [(.v (.slice none 0 0))] 1 [(0,1,(.t 50))],none⟩ (.alt ⟨some 52,.append 1 24 [(.v (.slice none 0 0))] (.t 41) (.t 51),none⟩ (.alt ⟨none,.store 1 (.t 53) (.t 52),none⟩ .done .none) .none) .none) .none) .none) (.alt ⟨some 49,.call cover [(.t 43),(.t 48)],none⟩ (.alt ⟨some 41,.load 1 false (.t 40),none⟩ (.alt ⟨some 50,.calld (.t 42) [(.t 49)],none⟩ (.alt ⟨some 51,.bslice 1 [(.v (.slice none 0 0))] 1 [(0,1,(.t 50))],none⟩ (.alt ⟨some 52,.append 1 24 [(.v (.slice none 0 0))] (.t 41) (.t 51),none⟩ (.alt ⟨none,.store 1 (.t 53) (.t 52),none⟩ .done .none) .none) .none) .none) (.alt ⟨some 50,.calld (.t 42) [(.t 49)],none⟩ (.alt ⟨some 41,.load 1 false (.t 40),none⟩ (.alt ⟨some 51,.bslice 1 [(.v (.slice none 0 0))] 1 [(0,1,(.t 50))],none⟩ (.alt ⟨some 52,.append 1 24 [(.v (.slice none 0 0))] (.t 41) (.t 51),none⟩ (.alt ⟨none,.store 1 (.t 53) (.t 52),none⟩ .done .none) .none) .none) (.alt ⟨some 51,.bslice 1 [(.v (.slice none 0 0))] 1 [(0,1,(.t 50))],none⟩ (.alt ⟨some 41,.load 1 false (.t 40),none⟩ (.alt ⟨some 52,.append 1 24 [(.v (.slice none 0 0))] (.t 41) (.t 51),none⟩ (.alt ⟨none,.store 1 (.t 53) (.t 52),none⟩ .done .none) .none) .none) .none)) .none)) .none)) .none)) .none)) .none)) .none)))) (.ops [⟨some 38,.mov (.t 9),none⟩,⟨some 39,.bin .add false (.t 38) (.c (.v (.int .i64 1))),none⟩,⟨some 9,.mov (.t 39),none⟩])))))) (.seq (.seq (.ops [⟨some 54,.load 1 false (.t 6),none⟩,⟨some 55,.len false (.t 54),none⟩,⟨some 56,.mov (.c (.v (.int .i64 0))),none⟩]) (.block 2 (.loop (.seq (.ops [⟨some 57,.bin .lss false (.t 56) (.t 55),none⟩]) (.seq (.cond (.t 57) .skip (.exit 2)) (.seq (.block 3 (.seq (.ops [⟨some 58,.iaddr 2 (.t 54) (.t 56),none⟩,⟨some 59,.load 2 true (.t 58),none⟩,⟨some 11,.alloc (.agg [(.v (.int .u64 0)),(.v (.int .u64 0))]),none⟩,⟨none,.store 2 (.t 11) (.t 59),none⟩]) (.seq (.ops [⟨some 12,.mov (.c (.v (.slice none 0 0))),none⟩]) (.seq (.seq (.ops [⟨some 60,.mov (.t 3),none⟩,⟨some 61,.nilchk (.t 60),none⟩,⟨some 62,.faddr 0 (.t 61),none⟩,⟨some 63,.load 1 false (.t 62),none⟩,⟨some 64,.len false (.t 63),none⟩,⟨some 65,.mov (.c (.v (.int .i64 0))),none⟩]) (.block 4 (.loop (.seq (.ops [⟨some 66,.bin .lss false (.t 65) (.t 64),none⟩]) (.seq (.cond (.t 66) .skip (.exit 4)) (.seq (.block 5 (.seq (.ops [⟨some 67,.mov (.t 65),none⟩,⟨some 68,.iaddr 4 (.t 63) (.t 65),none⟩,⟨some 69,.load 4 true (.t 68),none⟩,⟨some 14,.alloc (.agg [(.v (.int .i64 0)),(.v (.int .i64 0)),(.v (.int .i64 0)),(.v (.slice none 0 0))]),none⟩,⟨some 13,.mov (.t 67),none⟩,⟨none,.store 4 (.t 14) (.t 69),none⟩]) (.seq (.draw [[⟨some 70,.faddr 0 (.t 11),none⟩,⟨some 71,.load 1 false (.t 70),none⟩,⟨some 72,.mov (.t 13),none⟩,⟨some 73,.bin .shl false (.c (.v (.int .u64 1))) (.t 72),none⟩],[⟨some 74,.bin .and false (.t 71) (.t 73),none⟩],[⟨some 75,.bin .neq false (.t 74) (.c (.v (.int .u64 0))),none⟩],[⟨some 76,.mov (.t 75),none⟩],[⟨some 77,.load 4 true (.t 14),some (76,true)⟩],[⟨some 78,.call lit [(.t 77)],some (76,true)⟩],[⟨some 79,.pick (.t 76) (.t 78) (.c (.v (.bool false))),none⟩]]) (.cond (.t 79) (.ops [⟨some 80,.mov (.t 12),none⟩,⟨some 81,.load 4 true (.t 14),none⟩,⟨some 82,.bslice 4 [(.v (.int .i64 0)),(.v (.int .i64 0)),(.v (.int .i64 0)),(.v (.slice none 0 0))] 1 [(0,4,(.t 81))],none⟩,⟨some 83,.append 4 48 [(.v (.int .i64 0)),(.v (.int .i64 0)),(.v (.int .i64 0)),(.v (.slice none 0 0))] (.t 80) (.t 82),none⟩,⟨some 12,.mov (.t 83),none⟩]) .skip)))) (.ops [⟨some 84,.bin .add false (.t 65) (.c (.v (.int .i64 1))),none⟩,⟨some 65,.mov (.t 84),none⟩]))))))) (.ops [⟨some 85,.faddr 0 (.t 5),none⟩,⟨some 86,.load 1 false (.t 85),none⟩,⟨some 87,.mov (.t 12),none⟩,⟨some 88,.bslice 1 [(.v (.slice none 0 0))] 1 [(0,1,(.t 87))],none⟩,⟨some 89,.append 1 24 [(.v (.slice none 0 0))] (.t 86) (.t 88),none⟩,⟨some 90,.faddr 0 (.t 5),none⟩,⟨none,.store 1 (.t 90) (.t 89),none⟩]))))) (.ops [⟨some 91,.bin .add false (.t 56) (.c (.v (.int .i64 1))),none⟩,⟨some 56,.mov (.t 91),none⟩]))))))) (.seq (.seq (.ops [⟨some 92,.mov (.t 3),none⟩,⟨some 93,.nilchk (.t 92),none⟩,⟨some 94,.faddr 0 (.t 93),none⟩,⟨some 95,.load 1 false (.t 94),none⟩,⟨some 96,.len false (.t 95),none⟩,⟨some 97,.mov (.c (.v (.int .i64 0))),none⟩]) (.block 6 (.loop (.seq (.ops [⟨some 98,.bin .lss false (.t 97) (.t 96),none⟩]) (.seq (.cond (.t 98) .skip (.exit 6)) (.seq (.block 7 (.seq (.ops [⟨some 99,.mov (.t 97),none⟩,⟨some 100,.iaddr 4 (.t 95) (.t 97),none⟩,⟨some 101,.load 4 true (.t 100),none⟩,⟨some 16,.alloc (.agg [(.v (.int .i64 0)),(.v (.int .i64 0)),(.v (.int .i64 0)),(.v (.slice none 0 0))]),none⟩,⟨some 15,.mov (.t 99),none⟩,⟨none,.store 4 (.t 16) (.t 101),none⟩]) (.seq (.seq (.ops [⟨some 102,.load 4 true (.t 16),none⟩,⟨some 103,.call lit [(.t 102)],none⟩,⟨some 104,.mov (.t 103),none⟩,⟨some 105,.faddr 0 (.t 16),some (104,false)⟩,⟨some 106,.load 1 false (.t 105),some (104,false)⟩,⟨some 107,.bin .neq false (.t 106) (.c (.v (.int .i64 23))),some (104,false)⟩,⟨some 108,.pick (.t 104) (.c (.v (.bool true))) (.t 107),none⟩]) (.cond (.t 108) (.exit 7) .skip)) (.seq (.ops [⟨some 109,.mov (.t 3),none⟩,⟨some 110,.faddr 3 (.t 16),none⟩,⟨some 111,.load 1 false (.t 110),none⟩,⟨some 112,.iaddr 4 (.t 111) (.c (.v (.int .i64 1))),none⟩,⟨some 113,.load 4 true (.t 112),none⟩,⟨some 114,.call bit [(.t 109),(.t 113)],none⟩,⟨some 17,.mov (.t 114),none⟩]) (.seq (.ops [⟨some 115,.bslice 1 [(.v (.int .i64 0))] 0 [],none⟩,⟨some 18,.mov (.t 115),none⟩]) (.seq (.seq (.ops [⟨some 116,.load 1 false (.t 6),none⟩,⟨some 117,.len false (.t 116),none⟩,⟨some 118,.mov (.c (.v (.int .i64 0))),none⟩]) (.block 8 (.loop (.seq (.ops [⟨some 119,.bin .lss false (.t 118) (.t 117),none⟩]) (.seq (.cond (.t 119) .skip (.exit 8)) (.seq (.block 9 (.seq (.ops [⟨some 120,.mov (.t 118),none⟩,⟨some 121,.iaddr 2 (.t 116) (.t 118),none⟩,⟨some 122,.load 2 true (.t 121),none⟩,⟨some 20,.alloc (.agg [(.v (.int .u64 0)),(.v (.int .u64 0))]),none⟩,⟨some 19,.mov (.t 120),none⟩,⟨none,.store 2 (.t 20) (.t 122),none⟩]) (.seq (.draw [[⟨some 123,.faddr 0 (.t 20),none⟩,⟨some 124,.load 1 false (.t 123),none⟩,⟨some 125,.mov (.t 15),none⟩,⟨some 126,.bin .shl false (.c (.v (.int .u64 1))) (.t 125),none⟩],[⟨some 127,.bin .and false (.t 124) (.t 126),none⟩],[⟨some 128,.bin .eql false (.t 127) (.c (.v (.int .u64 0))),none⟩],[⟨some 129,.mov (.t 128),none⟩],[⟨some 130,.faddr 0 (.t 20),some (129,false)⟩,⟨some 131,.load 1 false (.t 130),some (129,false)⟩,⟨some 132,.mov (.t 17),some (129,false)⟩],[⟨some 133,.bin .and false (.t 131) (.t 132),some (129,false)⟩],[⟨some 134,.bin .neq false (.t 133) (.c (.v (.int .u64 0))),some (129,false)⟩],[⟨some 135,.pick (.t 129) (.c (.v (.bool true))) (.t 134),none⟩]]) (.cond (.t 135) (.ops [⟨some 136,.mov (.t 18),none⟩,⟨some 137,.mov (.t 19),none⟩,⟨some 138,.bslice 1 [(.v (.int .i64 0))] 1 [(0,1,(.t 137))],none⟩,⟨some 139,.append 1 8 [(.v (.int .i64 0))] (.t 136) (.t 138),none⟩,⟨some 18,.mov (.t 139),none⟩]) .skip)))) (.ops [⟨some 140,.bin .add false (.t 118) (.c (.v (.int .i64 1))),none⟩,⟨some 118,.mov (.t 140),none⟩]))))))) (.ops [⟨some 141,.faddr 3 (.t 5),none⟩,⟨some 142,.load 1 false (.t 141),none⟩,⟨some 143,.mov (.t 18),none⟩,⟨some 144,.bslice 1 [(.v (.slice none 0 0))] 1 [(0,1,(.t 143))],none⟩,⟨some 145,.append 1 24 [(.v (.slice none 0 0))] (.t 142) (.t 144),none⟩,⟨some 146,.faddr 3 (.t 5),none⟩,⟨none,.store 1 (.t 146) (.t 145),none⟩]))))))) (.ops [⟨some 147,.bin .add false (.t 97) (.c (.v (.int .i64 1))),none⟩,⟨some 97,.mov (.t 147),none⟩]))))))) (.seq (.ops [⟨some 148,.load 4 true (.t 5),none⟩,⟨none,.store 4 (.t 2) (.t 148),none⟩]) .ret))))))))))))⟩
def selBit (r : Nat) : Bool := [7, 2007003].contains r
def selSplit (r : Nat) : Bool := [14, 18].contains r
def selOf (r : Nat) : Bool := [11, 2011001, 2011004].contains r
end Lg


/- Rows that are looked through; which states fit, which automata are right: the program's. -/
namespace Lg
open Go
def idxV (v : Int) : List Int → Int → Int
 | [], _ => -1
 | x :: l, i => if v = x then i else idxV v l (i + 1)
theorem idxV_mem {v : Int} : ∀ {l : List Int} {i : Int}, 0 ≤ i → (0 ≤ idxV v l i ↔ v ∈ l)
 | [], i, _ => by simp [idxV]
 | x :: l, i, h => by
  rw [idxV]
  by_cases hp : v = x
  ·simp [hp, h]
  ·rw [if_neg hp, idxV_mem (by omega)]
   simp [hp]
theorem idxV_gen {P : Program} {f : Nat} (ir : compF P f = some irIdxV) {c : Bool} {l : List Int} (hl : l.length ≤ 17592186044416) (v : Int) : PC P f [.sl 1 c (l.map intL), intL v] (intL (idxV v l 0)) := by
 refine pc_of_call (callAt_enter ir (by simp [irIdxV]) ?_)
 simp [irIdxV]
 refine lwp_loop (fun i : Nat => [(0, .sl 1 c (l.map intL)), (1, intL v), (7, intL l.length), (8, intL i)]) (fun _ => []) (fun i => l.length - i) (fun i => i ≤ l.length ∧ idxV v l 0 = idxV v (l.drop i) i) 0 ⟨by omega, by simp⟩ ⟨[], ?_⟩ ?_
 ·simp
 ·rintro i ⟨hi, he⟩
  simp
  refine ⟨fun hlt => ?_, fun hge => ?_⟩
  ·have hnw : IntKind.i64.wrap ((i : Int) + 1) = ((i + 1 : Nat) : Int) := by rw [wrap_id (by omega) (by omega)]; rfl
   rw [List.drop_eq_getElem_cons hlt, idxV] at he
   simp [hlt]
   refine ⟨fun e => ?_, fun e => ?_⟩
   ·rw [if_pos e] at he
    simp [he]
   ·rw [if_neg e] at he
    simp [hnw]
    refine ⟨i + 1, ⟨by omega, ?_⟩, by show l.length - (i + 1) < l.length - i; omega, [], ?_⟩
    ·rw [he]; rfl
    ·simp
  ·have : i = l.length := by omega
   subst this
   rw [List.drop_length, idxV] at he
   simp [he]
theorem conV_gen {P : Program} {f idx : Nat} (ir : compF P f = some (irConV idx)) (ii : compF P idx = some irIdxV) {c : Bool} {l : List Int} (hl : l.length ≤ 17592186044416) (v : Int) : PC P f [.sl 1 c (l.map intL), intL v] (boolL (decide (v ∈ l))) := by
 refine pc_of_call (callAt_enter ir (by simp [irConV]) ?_)
 simp [irConV]
 refine callT_plain (idxV_gen ii (c := c) hl v) rfl (by simp [reso, mapO]) ?_
 have := idxV_mem (v := v) (l := l) (i := 0) (by omega)
 simp [this]
def idxI (p : Int → Bool) : List Int → Int → Int
 | [], _ => -1
 | t :: l, i => if p t = true then i else idxI p l (i + 1)
theorem idxI_any {p : Int → Bool} : ∀ {l : List Int} {i : Int}, 0 ≤ i → (0 ≤ idxI p l i ↔ l.any p = true)
 | [], i, _ => by simp [idxI]
 | t :: l, i, h => by
  rw [idxI]
  by_cases hp : p t = true
  ·simp [hp, h]
  ·rw [if_neg hp, idxI_any (by omega)]
   simp [hp]
theorem idxI_gen {P : Program} {f q : Nat} (ir : compF P f = some irIdxI) {cc : List L} {c : Bool} {p : Int → Bool} {l : List Int} (hl : l.length ≤ 17592186044416) (hq : ∀ t ∈ l, PC P q [intL t, .pp cc] (boolL (p t))) : PC P f [.sl 1 c (l.map intL), .fn (.func q) [] [.pp cc]] (intL (idxI p l 0)) := by
 refine pc_of_call (callAt_enter ir (by simp [irIdxI]) ?_)
 simp [irIdxI]
 refine lwp_loop (fun i : Nat => [(0, .sl 1 c (l.map intL)), (1, .fn (.func q) [] [.pp cc]), (7, intL l.length), (8, intL i)]) (fun _ => []) (fun i => l.length - i) (fun i => i ≤ l.length ∧ idxI p l 0 = idxI p (l.drop i) i) 0 ⟨by omega, by simp⟩ ⟨[], ?_⟩ ?_
 ·simp
 ·rintro i ⟨hi, he⟩
  simp
  refine ⟨fun hlt => ?_, fun hge => ?_⟩
  ·have hnw : IntKind.i64.wrap ((i : Int) + 1) = ((i + 1 : Nat) : Int) := by rw [wrap_id (by omega) (by omega)]; rfl
   rw [List.drop_eq_getElem_cons hlt, idxI] at he
   simp [hlt]
   refine callT_plain (hq l[i] (List.getElem_mem hlt)) rfl (by simp [reso, mapO]) ?_
   cases hp : p l[i]
   ·rw [if_neg (by rw [hp]; decide)] at he
    simp [hnw]
    refine ⟨i + 1, ⟨by omega, ?_⟩, by show l.length - (i + 1) < l.length - i; omega, [], ?_⟩
    ·rw [he]; rfl
    ·simp
   ·rw [if_pos hp] at he
    simp [he]
  ·have : i = l.length := by omega
   subst this
   rw [List.drop_length, idxI] at he
   simp [he]
theorem conI_gen {P : Program} {f idx q : Nat} (ir : compF P f = some (irConI idx)) (ii : compF P idx = some irIdxI) {cc : List L} {c : Bool} {p : Int → Bool} {l : List Int} (hl : l.length ≤ 17592186044416) (hq : ∀ t ∈ l, PC P q [intL t, .pp cc] (boolL (p t))) : PC P f [.sl 1 c (l.map intL), .fn (.func q) [] [.pp cc]] (boolL (l.any p)) := by
 refine pc_of_call (callAt_enter ir (by simp [irConI]) ?_)
 simp [irConI]
 refine callT_plain (idxI_gen ii (c := c) hl hq) rfl (by simp [reso, mapO]) ?_
 have := idxI_any (p := p) (l := l) (i := 0) (by omega)
 simp
 rw [Bool.eq_iff_iff, decide_eq_true_eq, this]
theorem idxF_cap {P : Program} {f q : Nat} (ir : compF P f = some irIdxF) {cc : List L} {p : T → Bool} {l : List T} (hl : l.length ≤ 2932031007403) (hq : ∀ t ∈ l, PC P q [t.toL, .pp cc] (boolL (p t))) : PC P f [.sl 4 false (l.map T.toL), .fn (.func q) [] [.pp cc]] (intL (idxF p l 0)) := by
 refine pc_of_call (callAt_enter ir (by simp [irIdxF]) ?_)
 simp [irIdxF]
 refine lwp_loop (fun i : Nat => [(0, .sl 4 false (l.map T.toL)), (1, .fn (.func q) [] [.pp cc]), (7, intL l.length), (8, intL i)]) (fun _ => []) (fun i => l.length - i) (fun i => i ≤ l.length ∧ idxF p l 0 = idxF p (l.drop i) i) 0 ⟨by omega, by simp⟩ ⟨[], ?_⟩ ?_
 ·simp
 ·rintro i ⟨hi, he⟩
  simp
  refine ⟨fun hlt => ?_, fun hge => ?_⟩
  ·have hnw : IntKind.i64.wrap ((i : Int) + 1) = ((i + 1 : Nat) : Int) := by rw [wrap_id (by omega) (by omega)]; rfl
   rw [List.drop_eq_getElem_cons hlt, idxF] at he
   simp [hlt]
   refine callT_plain (hq l[i] (List.getElem_mem hlt)) rfl (by simp [reso, mapO]) ?_
   cases hp : p l[i]
   ·rw [if_neg (by rw [hp]; decide)] at he
    simp [hnw]
    refine ⟨i + 1, ⟨by omega, ?_⟩, by show l.length - (i + 1) < l.length - i; omega, [], ?_⟩
    ·rw [he]; rfl
    ·simp
   ·rw [if_pos hp] at he
    simp [he]
  ·have : i = l.length := by omega
   subst this
   rw [List.drop_length, idxF] at he
   simp [he]
theorem cont_cap {P : Program} {f idx q : Nat} (ir : compF P f = some (irCont idx)) (ii : compF P idx = some irIdxF) {cc : List L} {p : T → Bool} {l : List T} (hl : l.length ≤ 2932031007403) (hq : ∀ t ∈ l, PC P q [t.toL, .pp cc] (boolL (p t))) : PC P f [.sl 4 false (l.map T.toL), .fn (.func q) [] [.pp cc]] (boolL (l.any p)) := by
 refine pc_of_call (callAt_enter ir (by simp [irCont]) ?_)
 simp [irCont]
 refine callT_plain (idxF_cap ii hl hq) rfl (by simp [reso, mapO]) ?_
 have := idxF_any (p := p) (l := l) (i := 0) (by omega)
 simp
 rw [Bool.eq_iff_iff, decide_eq_true_eq, this]
theorem fit1_gen {P : Program} {f ev : Nat} (ir : compF P f = some (irFit1 ev)) {t : T} {c : Bool} {v : List Int} (iev : PC P ev [t.toL, .sl 1 c (v.map intL)] (intL (t.eval v))) : PC P f [t.toL, .pp [.sl 1 c (v.map intL)]] (boolL (decide (t.eval v ≠ 1))) := by
 refine pc_of_call (callAt_enter ir (by simp [irFit1]) ?_)
 simp [irFit1]
 refine callT_plain iev rfl (by simp [reso, mapO, toL_agg, reso_toL]) ?_
 simp
theorem fitP_gen {P : Program} {f con idx f1 ev : Nat} (ir : compF P f = some (irFitP con f1)) (ic : compF P con = some (irCont idx)) (ii : compF P idx = some irIdxF) (i1 : compF P f1 = some (irFit1 ev)) {a : Aut} (ha : a.Ok) {q : Nat} (hq : q < a.lits.length) {c : Bool} {v : List Int}
  (iev : ∀ t ∈ a.lits.getD q [], PC P ev [t.toL, .sl 1 c (v.map intL)] (intL (t.eval v))) : PC P f [a.L, intL q, .sl 1 c (v.map intL)] (boolL (a.fits q v)) := by
 refine pc_of_call (callAt_enter ir (by simp [irFitP]) ?_)
 simp [irFitP, Aut.L, Aut.cells, hq]
 have e : a.lits.getD q [] = a.lits[q] := by simp [List.getD, hq]
 have hl := ha.lit a.lits[q] (List.getElem_mem hq)
 rw [e] at iev
 refine callT_freeze [1] (cont_cap ic ii hl.1 (cc := [.sl 1 c (v.map intL)]) (p := fun t => decide (t.eval v ≠ 1)) fun t ht => fit1_gen i1 (iev t ht)) (by simp [reso, mapO]) ?_
 simp [Aut.fits, e, hq, List.all_eq_not_any_not]
theorem r11_gen {P : Program} {f : Nat} (ir : compF P f = some irR11) (q n : Int) : PC P f [intL q, .pp [intL n]] (boolL (decide (q < 0 ∨ n ≤ q))) := by
 refine pc_of_call (callAt_enter ir (by simp [irR11]) ?_)
 by_cases h : q < 0
 ·simp [irR11, h]
 ·simp [irR11, h]
theorem r1_gen {P : Program} {f q con idx : Nat} (ir : compF P f = some (irR1 q con)) (iq : compF P q = some irR11) (ic : compF P con = some (irConI idx)) (ii : compF P idx = some irIdxI) {c : Bool} {l : List Int} (hl : l.length ≤ 17592186044416) (n : Nat) :
  PC P f [.sl 1 c (l.map intL), .pp [intL n]] (boolL (statesB l n)) := by
 refine pc_of_call (callAt_enter ir (by simp [irR1]) ?_)
 simp [irR1]
 refine callT_plain (conI_gen ic ii (c := c) hl (cc := [intL n]) (p := fun t => decide (t < 0 ∨ (n : Int) ≤ t)) fun t _ => r11_gen iq t n) rfl (by simp [reso, mapO]) ?_
 simp [statesB]
 rw [List.all_eq_not_any_not, Bool.not_not]
 congr 1
 funext x
 by_cases h1 : x < 0 <;> by_cases h2 : (n : Int) ≤ x <;> simp [h1, h2] <;> omega
theorem r2_gen {P : Program} {f lit : Nat} (ir : compF P f = some (irR2 lit)) {t : T} (hl : PC P lit [t.toL] (boolL t.lit)) : PC P f [t.toL] (boolL (!t.lit)) := by
 refine pc_of_call (callAt_enter ir (by simp [irR2]) ?_)
 simp [irR2]
 refine callT_plain hl rfl (by simp [reso, mapO, toL_agg, reso_toL]) ?_
 simp
end Lg


/- Which automata are right: the program's. -/
namespace Lg
open Go
abbrev rowsL (x : List (List Int)) : L := .sl 1 false (x.map intsL)
theorem grow_own {P : Program} {f : Nat} (ir : compF P f = some irGrowR) {n : Nat} (h0 : 0 < n) (hn : n ≤ 1000000000) : callAt P f [.v (.slice none 0 0), intL n] [] (fun l R => l = .view 1 0 0 0 false ∧ R = [some []]) := by
 refine callAt_enter ir (by simp [irGrowR]) ?_
 have hw : IntKind.i64.wrap (n : Int) = n := wrap_id (by omega) (by omega)
 have hw0 : IntKind.i64.wrap 0 = 0 := by decide
 have h1 : ¬ ((n : Int) < 0) := by omega
 have h2 : 0 < (n : Int) := by omega
 simp [irGrowR, h1, hw, hw0, h0]
 omega
theorem grow_nil {P : Program} {f : Nat} (ir : compF P f = some irGrowR) : PC P f [.v (.slice none 0 0), intL (0 : Nat)] (.v (.slice none 0 0)) := by
 refine pc_of_call (callAt_enter ir (by simp [irGrowR]) ?_)
 have hw0 : IntKind.i64.wrap 0 = 0 := by decide
 simp [irGrowR, hw0, reso, mapO]
def catT (ss : List (List (List Int))) (i : Nat) : List (List Int) := (ss.take i).flatten
theorem catT_zero {ss : List (List (List Int))} : catT ss 0 = [] := rfl
theorem catT_succ {ss : List (List (List Int))} {i : Nat} (h : i < ss.length) : catT ss (i + 1) = catT ss i ++ ss[i] := by
 unfold catT
 rw [List.take_succ_eq_append_getElem h, List.flatten_append]
 simp
theorem catT_all {ss : List (List (List Int))} : catT ss ss.length = ss.flatten := by unfold catT; rw [List.take_length]
theorem catT_le {ss : List (List (List Int))} {i : Nat} : (catT ss i).length ≤ ss.flatten.length := by
 have : ss.flatten = catT ss i ++ (ss.drop i).flatten := by unfold catT; rw [← List.flatten_append, List.take_append_drop]
 rw [this, List.length_append]; omega
theorem concat_gen {P : Program} {f grow : Nat} (ir : compF P f = some (irConcatR grow)) (ig : compF P grow = some irGrowR) (ss : List (List (List Int))) (hl : ss.length ≤ 1000) (hs : ss.flatten.length ≤ 1000000) :
  PC P f [.sl 1 true (ss.map rowsL)] (rowsL ss.flatten) := by
 rw [← catT_all] at hs ⊢
 have hle : ∀ i, (catT ss i).length ≤ 1000000 := fun i => by have := catT_le (ss := ss) (i := i); rw [← catT_all] at this; omega
 refine pc_of_call' (callAt_enter ir (by simp [irConcatR]) ?_)
 simp [irConcatR]
 refine lwp_loop (fun i : Nat => [(0, .sl 1 true (ss.map rowsL)), (3, intL (catT ss i).length), (9, .sl 1 true (ss.map rowsL)), (10, intL ss.length), (11, intL i)]) (fun _ => []) (fun i => ss.length - i) (fun i => i ≤ ss.length) 0 (by omega) ⟨[], by simp [catT_zero]⟩ ?_
 intro i hi
 by_cases h : i < ss.length
 ·have hw : IntKind.i64.wrap ((i : Int) + 1) = ((i + 1 : Nat) : Int) := wrap_id (by omega) (by omega)
  have h1 := hle (i + 1)
  have h2 := catT_succ h
  have h3 : (catT ss (i + 1)).length = (catT ss i).length + ss[i].length := by rw [h2]; simp
  have hw2 : IntKind.i64.wrap (((catT ss i).length : Int) + ss[i].length) = (((catT ss (i + 1)).length : Nat) : Int) := by rw [wrap_id (by omega) (by omega)]; omega
  have hb : ¬ (((catT ss (i + 1)).length : Int) < 0) := by omega
  simp [h, hw, hw2, hb]
  refine ⟨i + 1, by omega, by simp only; omega, [], by simp⟩
 ·obtain rfl : i = ss.length := by omega
  simp
  obtain ⟨N, hN⟩ : ∃ N, N = (catT ss ss.length).length := ⟨_, rfl⟩
  rw [← hN] at hs
  rw [← hN]
  by_cases h0 : N = 0
  ·have hz : ∀ i, i ≤ ss.length → catT ss i = [] := fun i hi => by
    have := catT_le (ss := ss) (i := i)
    rw [← catT_all, ← hN] at this
    exact List.eq_nil_of_length_eq_zero (by omega)
   subst h0
   refine callT_plain (grow_nil ig) rfl (by simp [reso, mapO]) ?_
   simp
   refine lwp_loop (fun i : Nat => [(6, .v (.slice none 0 0)), (25, .sl 1 true (ss.map rowsL)), (26, intL ss.length), (27, intL i)]) (fun i => []) (fun i => ss.length - i) (fun i => i ≤ ss.length) 0 (by omega) ⟨[], by simp⟩ ?_
   intro i hi
   by_cases h : i < ss.length
   ·have hw : IntKind.i64.wrap ((i : Int) + 1) = ((i + 1 : Nat) : Int) := wrap_id (by omega) (by omega)
    have h2 := catT_succ h
    rw [hz _ (by omega), hz _ (by omega), List.nil_append] at h2
    simp [h, hw, ← h2]
    refine ⟨i + 1, by omega, by simp only; omega, [], by simp⟩
   ·obtain rfl : i = ss.length := by omega
    rw [hz _ (by omega)]
    simp
    exact .nil _ _
  ·refine callT_frame [] (grow_own ig (n := N) (by omega) (by omega)) (by simp) (by simp) (by simp) (by simp) (by simp) ?_
   rintro _ _ ⟨rfl, rfl⟩
   simp [upN, mergeH, setRows]
   refine lwp_loop (fun i : Nat => [(6, .view 1 0 0 (catT ss i).length false), (25, .sl 1 true (ss.map rowsL)), (26, intL ss.length), (27, intL i)]) (fun i => [some ((catT ss i).map intsL)]) (fun i => ss.length - i) (fun i => i ≤ ss.length) 0 (by omega) ⟨[0], by simp [catT_zero]⟩ ?_
   intro i hi
   by_cases h : i < ss.length
   ·have hw : IntKind.i64.wrap ((i : Int) + 1) = ((i + 1 : Nat) : Int) := wrap_id (by omega) (by omega)
    have h1 := hle (i + 1)
    have h2 := catT_succ h
    have h3 : (catT ss (i + 1)).length = (catT ss i).length + ss[i].length := by rw [h2]; simp
    have hsz : ((catT ss i).length + ss[i].length) * 24 ≤ 70368744177664 := by omega
    simp [h, hw, hsz]
    refine ⟨i + 1, by omega, by simp only; omega, [1], ?_⟩
    simp [h2]
   ·obtain rfl : i = ss.length := by omega
    simp
    exact .refl _
theorem rightP_gen {P : Program} {f r1 r11 con idxi cont idx r2 lit cat grow : Nat} (ir : compF P f = some (irRightP r1 cont r2 cat)) (i1 : compF P r1 = some (irR1 r11 con)) (i11 : compF P r11 = some irR11) (icon : compF P con = some (irConI idxi)) (iidx : compF P idxi = some irIdxI)
  (ic : compF P cont = some (irCont idx)) (ii : compF P idx = some irIdxF) (i2 : compF P r2 = some (irR2 lit)) (ilit : ∀ t : T, t.Ok → PC P lit [t.toL] (boolL t.lit)) (icat : compF P cat = some (irConcatR grow)) (ig : compF P grow = some irGrowR)
  {a : Aut} (ha : a.Ok) (hn : a.next.length ≤ 300000) (hacc : a.acc.length ≤ 300000) : PC P f [a.L] (boolL a.right) := by
 have hlits := ha.lits
 refine pc_of_call (callAt_enter ir (by simp [irRightP]) ?_)
 simp [irRightP, Aut.L, Aut.cells]
 refine lwp_loop (fun i : Nat => [(1, .ptr 0 0), (3, .ptr 1 0), (4, .fn (.func r1) [] [.ptr 1 0]), (14, .sl 1 false (a.lits.map treesL)), (15, intL a.lits.length), (16, intL i)]) (fun _ => [some a.cells, some [intL a.lits.length]]) (fun i => a.lits.length - i)
  (fun i => i ≤ a.lits.length ∧ ∀ l ∈ a.lits.take i, l.all T.lit = true) 0 (by simp) ⟨[0, 1], by simp [Aut.cells]⟩ ?_
 rintro i ⟨hi, hall⟩
 by_cases h : i < a.lits.length
 ·have hw : IntKind.i64.wrap ((i : Int) + 1) = ((i + 1 : Nat) : Int) := wrap_id (by omega) (by omega)
  have hl := ha.lit a.lits[i] (List.getElem_mem h)
  simp [h]
  refine callT_plain (cont_gen ic ii hl.1 (p := fun t => !t.lit) fun t ht => r2_gen i2 (ilit t (hl.2 t ht))) rfl (by simp [reso, mapO]) ?_
  cases hp : a.lits[i].any (fun t => !t.lit)
  ·have hq : a.lits[i].all T.lit = true := by rw [List.all_eq_not_any_not, hp]; rfl
   simp [hw]
   refine ⟨i + 1, ⟨by omega, fun l hl => ?_⟩, by simp only; omega, [0, 1], by simp [Aut.cells]⟩
   rw [List.take_succ_eq_append_getElem h] at hl
   rcases List.mem_append.1 hl with hl | hl
   ·exact List.all_eq_true.1 (hall l hl)
   ·rw [List.mem_singleton.1 hl]; exact List.all_eq_true.1 hq
  ·have hq : a.lits[i].all T.lit = false := by rw [List.all_eq_not_any_not, hp]; rfl
   have hr : a.right = false := by
    cases hr : a.right
    ·rfl
    ·simp only [Aut.right, Bool.and_eq_true] at hr
     have := List.all_eq_true.1 hr.1.2 i (by simp [h])
     simp only [rowOk, Bool.and_eq_true] at this
     rw [show a.lits.getD i [] = a.lits[i] by simp [List.getD, h], hq] at this
     simp at this
   simp [hr]
 ·obtain rfl : i = a.lits.length := by omega
  rw [List.take_length] at hall
  have hcat := concat_gen icat ig [a.next, a.acc] (by simp) (by simp; omega)
  simp [Aut.cells]
  refine callT_freeze [2] hcat (by simp) ?_
  obtain ⟨R, hR⟩ : ∃ R, R = [a.next, a.acc].flatten := ⟨_, rfl⟩
  rw [← hR]
  have hRl : R.length ≤ 1000000 := by rw [hR]; simp; omega
  have hRr : ∀ r ∈ R, r.length ≤ 17592186044416 := fun r hr => by
   rw [hR] at hr
   simp at hr
   rcases hr with hr | hr
   ·exact ha.row r hr
   ·exact ha.set r hr
  simp
  refine lwp_loop (fun i : Nat => [(1, .ptr 0 0), (3, .ptr 1 0), (4, .fn (.func r1) [] [.ptr 1 0]), (28, rowsL R), (29, intL R.length), (30, intL i)]) (fun _ => [some a.cells, some [intL a.lits.length]]) (fun i => R.length - i)
   (fun i => i ≤ R.length ∧ ∀ l ∈ R.take i, statesB l a.lits.length = true) 0 (by simp) ⟨[0, 1], by simp [Aut.cells]⟩ ?_
  rintro i ⟨hi, hst⟩
  by_cases h : i < R.length
  ·have hw : IntKind.i64.wrap ((i : Int) + 1) = ((i + 1 : Nat) : Int) := wrap_id (by omega) (by omega)
   simp [h]
   refine callT_plain (r1_gen i1 i11 icon iidx (c := false) (hRr R[i] (List.getElem_mem h)) a.lits.length) rfl (by simp [reso, mapO]) ?_
   cases hp : statesB R[i] a.lits.length
   ·have hr : a.right = false := by
     cases hr : a.right
     ·rfl
     ·exfalso
      have hmem : R[i] ∈ [a.next, a.acc].flatten := hR ▸ List.getElem_mem h
      simp only [Aut.right, Bool.and_eq_true, decide_eq_true_eq] at hr
      simp at hmem
      rcases hmem with hm | hm
      ·obtain ⟨q, hq, e⟩ := List.getElem_of_mem hm
       have := List.all_eq_true.1 hr.1.2 q (by simp; omega)
       simp only [rowOk, Bool.and_eq_true] at this
       rw [show a.next.getD q [] = a.next[q] by simp [List.getD, hq], e, hp] at this
       simp at this
      ·have := List.all_eq_true.1 hr.2 _ hm
       rw [hp] at this
       simp at this
    simp [hr]
   ·simp [hw]
    refine ⟨i + 1, ⟨by omega, fun l hl => ?_⟩, by simp only; omega, [0, 1], by simp [Aut.cells]⟩
    rw [List.take_succ_eq_append_getElem h] at hl
    rcases List.mem_append.1 hl with hl | hl
    ·exact hst l hl
    ·rw [List.mem_singleton.1 hl]; exact hp
  ·obtain rfl : i = R.length := by omega
   rw [List.take_length] at hst
   have h3 : a.acc.all (fun r => statesB r a.lits.length) = true := by
    rw [List.all_eq_true]; intro r hr; exact hst r (by rw [hR]; simp [hr])
   by_cases hlen : a.next.length = a.lits.length
   ·have h2 : (List.range a.lits.length).all (rowOk a) = true := by
     rw [List.all_eq_true]
     intro q hq
     simp at hq
     simp only [rowOk, Bool.and_eq_true]
     refine ⟨hst _ ?_, hall _ ?_⟩
     ·rw [hR, show a.next.getD q [] = a.next[q]'(by omega) by simp [List.getD, show q < a.next.length by omega]]; simp
     ·rw [show a.lits.getD q [] = a.lits[q] by simp [List.getD, hq]]; simp
    have hr : a.right = statesB a.init a.lits.length := by
     simp only [Aut.right, h2, h3, hlen, decide_true, Bool.and_true]
    simp [Aut.cells, hlen]
    refine callT_plain (r1_gen i1 i11 icon iidx (c := false) ha.init a.lits.length) rfl (by simp [reso, mapO]) ?_
    simp [hr]
   ·have hr : a.right = false := by
     simp [Aut.right, hlen]
    have hlen' : ¬ (a.next.length : Int) = (a.lits.length : Int) := by omega
    simp [Aut.cells, hlen', hr]
end Lg

