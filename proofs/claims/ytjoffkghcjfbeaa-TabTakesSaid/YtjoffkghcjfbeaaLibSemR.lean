/- Where a formula holds: the answer. -/
import Derived.Test.YtjoffkghcjfbeaaLibSemA
namespace Lg
open Go
def irUntilR (nx : Nat) : FnIR := ⟨29,[.t 8],(.seq (.ops [⟨some 4,.box (.t 0),none⟩,⟨some 8,.mov (.c (.v (.bool false))),none⟩]) (.seq (.seq (.ops [⟨some 9,.mov (.c (.v (.int .i64 0))),none⟩]) (.block 0 (.loop (.seq (.seq (.ops [⟨some 10,.mov (.t 9),none⟩,⟨some 11,.faddr 0 (.t 4),none⟩,⟨some 12,.load 1 false (.t 11),none⟩,⟨some 13,.len false (.t 12),none⟩,⟨some 14,.bin .leq false (.t 10) (.t 13),none⟩]) (.cond (.t 14) .skip (.exit 0))) (.seq (.block 1 (.seq (.seq (.ops [⟨some 17,.mov (.t 3),none⟩,⟨some 18,.mov (.t 1),none⟩,⟨some 19,.iaddr 1 (.t 17) (.t 18),none⟩,⟨some 20,.load 1 false (.t 19),none⟩]) (.cond (.t 20) (.seq (.ops [⟨some 8,.mov (.c (.v (.bool true))),none⟩]) .ret) .skip)) (.seq (.seq (.ops [⟨some 21,.mov (.t 2),none⟩,⟨some 22,.mov (.t 1),none⟩,⟨some 23,.iaddr 1 (.t 21) (.t 22),none⟩,⟨some 24,.load 1 false (.t 23),none⟩,⟨some 25,.un .not (.t 24),none⟩]) (.cond (.t 25) (.seq (.ops [⟨some 8,.mov (.c (.v (.bool false))),none⟩]) .ret) .skip)) (.ops [⟨some 26,.load 2 true (.t 4),none⟩,⟨some 27,.mov (.t 1),none⟩,⟨some 28,.call nx [(.t 26),(.t 27)],none⟩,⟨some 1,.mov (.t 28),none⟩])))) (.ops [⟨some 15,.mov (.t 9),none⟩,⟨some 16,.bin .add false (.t 15) (.c (.v (.int .i64 1))),none⟩,⟨some 9,.mov (.t 16),none⟩])))))) (.seq (.ops [⟨some 8,.mov (.c (.v (.bool false))),none⟩]) .ret)))⟩
def irAllRb5 (f li ev nx un : Nat) : IR := (.seq (.ops [⟨some 96,.faddr 0 (.t 2),none⟩,⟨some 97,.load 1 false (.t 96),none⟩]) (.block 6 (.seq (.ops [⟨some 99,.bin .eql false (.t 97) (.c (.v (.int .i64 15))),none⟩,⟨some 98,.mov (.t 99),none⟩]) (.cond (.t 98) (.ops [⟨some 100,.mov (.t 6),none⟩,⟨some 101,.mov (.t 16),none⟩,⟨some 102,.mov (.t 10),none⟩,⟨some 103,.mov (.t 16),none⟩,⟨some 104,.iaddr 1 (.t 102) (.t 103),none⟩,⟨some 105,.load 1 false (.t 104),none⟩,⟨some 106,.un .not (.t 105),none⟩,⟨some 107,.iaddr 1 (.t 100) (.t 101),none⟩,⟨none,.store 1 (.t 107) (.t 106),none⟩]) (.seq (.ops [⟨some 109,.bin .eql false (.t 97) (.c (.v (.int .i64 16))),none⟩,⟨some 108,.mov (.t 109),none⟩]) (.cond (.t 108) (.ops [⟨some 110,.mov (.t 6),none⟩,⟨some 111,.mov (.t 16),none⟩,⟨some 112,.mov (.t 10),none⟩,⟨some 113,.mov (.t 16),none⟩,⟨some 114,.iaddr 1 (.t 112) (.t 113),none⟩,⟨some 115,.load 1 false (.t 114),none⟩,⟨some 116,.mov (.t 115),none⟩,⟨some 117,.mov (.t 11),some (116,true)⟩,⟨some 118,.mov (.t 16),some (116,true)⟩,⟨some 119,.iaddr 1 (.t 117) (.t 118),some (116,true)⟩,⟨some 120,.load 1 false (.t 119),some (116,true)⟩,⟨some 121,.pick (.t 116) (.t 120) (.c (.v (.bool false))),none⟩,⟨some 122,.iaddr 1 (.t 110) (.t 111),none⟩,⟨none,.store 1 (.t 122) (.t 121),none⟩]) (.seq (.ops [⟨some 124,.bin .eql false (.t 97) (.c (.v (.int .i64 17))),none⟩,⟨some 123,.mov (.t 124),none⟩]) (.cond (.t 123) (.ops [⟨some 125,.mov (.t 6),none⟩,⟨some 126,.mov (.t 16),none⟩,⟨some 127,.mov (.t 10),none⟩,⟨some 128,.mov (.t 16),none⟩,⟨some 129,.iaddr 1 (.t 127) (.t 128),none⟩,⟨some 130,.load 1 false (.t 129),none⟩,⟨some 131,.mov (.t 130),none⟩,⟨some 132,.mov (.t 11),some (131,false)⟩,⟨some 133,.mov (.t 16),some (131,false)⟩,⟨some 134,.iaddr 1 (.t 132) (.t 133),some (131,false)⟩,⟨some 135,.load 1 false (.t 134),some (131,false)⟩,⟨some 136,.pick (.t 131) (.c (.v (.bool true))) (.t 135),none⟩,⟨some 137,.iaddr 1 (.t 125) (.t 126),none⟩,⟨none,.store 1 (.t 137) (.t 136),none⟩]) (.seq (.ops [⟨some 139,.bin .eql false (.t 97) (.c (.v (.int .i64 18))),none⟩,⟨some 138,.mov (.t 139),none⟩]) (.cond (.t 138) (.ops [⟨some 140,.mov (.t 6),none⟩,⟨some 141,.mov (.t 16),none⟩,⟨some 142,.mov (.t 10),none⟩,⟨some 143,.mov (.t 16),none⟩,⟨some 144,.iaddr 1 (.t 142) (.t 143),none⟩,⟨some 145,.load 1 false (.t 144),none⟩,⟨some 146,.un .not (.t 145),none⟩,⟨some 147,.mov (.t 146),none⟩,⟨some 148,.mov (.t 11),some (147,false)⟩,⟨some 149,.mov (.t 16),some (147,false)⟩,⟨some 150,.iaddr 1 (.t 148) (.t 149),some (147,false)⟩,⟨some 151,.load 1 false (.t 150),some (147,false)⟩,⟨some 152,.pick (.t 147) (.c (.v (.bool true))) (.t 151),none⟩,⟨some 153,.iaddr 1 (.t 140) (.t 141),none⟩,⟨none,.store 1 (.t 153) (.t 152),none⟩]) (.seq (.ops [⟨some 155,.bin .eql false (.t 97) (.c (.v (.int .i64 19))),none⟩,⟨some 154,.mov (.t 155),none⟩]) (.cond (.t 154) (.draw [[⟨some 156,.mov (.t 6),none⟩,⟨some 157,.mov (.t 16),none⟩,⟨some 158,.mov (.t 10),none⟩,⟨some 159,.mov (.t 16),none⟩,⟨some 160,.iaddr 1 (.t 158) (.t 159),none⟩,⟨some 161,.load 1 false (.t 160),none⟩,⟨some 162,.mov (.t 11),none⟩,⟨some 163,.mov (.t 16),none⟩,⟨some 164,.iaddr 1 (.t 162) (.t 163),none⟩,⟨some 165,.load 1 false (.t 164),none⟩,⟨some 166,.bin .eql true (.t 161) (.t 165),none⟩],[⟨some 167,.iaddr 1 (.t 156) (.t 157),none⟩],[⟨none,.store 1 (.t 167) (.t 166),none⟩]]) (.seq (.ops [⟨some 169,.bin .eql false (.t 97) (.c (.v (.int .i64 20))),none⟩,⟨some 168,.mov (.t 169),none⟩]) (.cond (.t 168) (.ops [⟨some 170,.mov (.t 6),none⟩,⟨some 171,.mov (.t 16),none⟩,⟨some 172,.mov (.t 10),none⟩,⟨some 173,.load 2 true (.t 3),none⟩,⟨some 174,.mov (.t 16),none⟩,⟨some 175,.call nx [(.t 173),(.t 174)],none⟩,⟨some 176,.iaddr 1 (.t 172) (.t 175),none⟩,⟨some 177,.load 1 false (.t 176),none⟩,⟨some 178,.iaddr 1 (.t 170) (.t 171),none⟩,⟨none,.store 1 (.t 178) (.t 177),none⟩]) (.seq (.ops [⟨some 180,.bin .eql false (.t 97) (.c (.v (.int .i64 21))),none⟩,⟨some 179,.mov (.t 180),none⟩]) (.cond (.t 179) (.ops [⟨some 181,.mov (.t 6),none⟩,⟨some 182,.mov (.t 16),none⟩,⟨some 183,.load 2 true (.t 3),none⟩,⟨some 184,.mov (.t 16),none⟩,⟨some 185,.mov (.t 12),none⟩,⟨some 186,.mov (.t 10),none⟩,⟨some 187,.call un [(.t 183),(.t 184),(.t 185),(.t 186)],none⟩,⟨some 188,.iaddr 1 (.t 181) (.t 182),none⟩,⟨none,.store 1 (.t 188) (.t 187),none⟩]) (.seq (.ops [⟨some 190,.bin .eql false (.t 97) (.c (.v (.int .i64 22))),none⟩,⟨some 189,.mov (.t 190),none⟩]) (.cond (.t 189) (.ops [⟨some 191,.mov (.t 6),none⟩,⟨some 192,.mov (.t 16),none⟩,⟨some 193,.load 2 true (.t 3),none⟩,⟨some 194,.mov (.t 16),none⟩,⟨some 195,.mov (.t 12),none⟩,⟨some 196,.mov (.t 13),none⟩,⟨some 197,.call un [(.t 193),(.t 194),(.t 195),(.t 196)],none⟩,⟨some 198,.un .not (.t 197),none⟩,⟨some 199,.iaddr 1 (.t 191) (.t 192),none⟩,⟨none,.store 1 (.t 199) (.t 198),none⟩]) (.seq (.ops [⟨some 201,.bin .eql false (.t 97) (.c (.v (.int .i64 23))),none⟩,⟨some 200,.mov (.t 201),none⟩]) (.cond (.t 200) (.ops [⟨some 202,.mov (.t 6),none⟩,⟨some 203,.mov (.t 16),none⟩,⟨some 204,.load 2 true (.t 3),none⟩,⟨some 205,.mov (.t 16),none⟩,⟨some 206,.mov (.t 10),none⟩,⟨some 207,.mov (.t 11),none⟩,⟨some 208,.call un [(.t 204),(.t 205),(.t 206),(.t 207)],none⟩,⟨some 209,.iaddr 1 (.t 202) (.t 203),none⟩,⟨none,.store 1 (.t 209) (.t 208),none⟩]) (.seq (.ops [⟨some 211,.bin .eql false (.t 97) (.c (.v (.int .i64 24))),none⟩,⟨some 210,.mov (.t 211),none⟩]) (.cond (.t 210) (.ops [⟨some 212,.mov (.t 6),none⟩,⟨some 213,.mov (.t 16),none⟩,⟨some 214,.load 2 true (.t 3),none⟩,⟨some 215,.mov (.t 16),none⟩,⟨some 216,.mov (.t 13),none⟩,⟨some 217,.mov (.t 14),none⟩,⟨some 218,.call un [(.t 214),(.t 215),(.t 216),(.t 217)],none⟩,⟨some 219,.un .not (.t 218),none⟩,⟨some 220,.iaddr 1 (.t 212) (.t 213),none⟩,⟨none,.store 1 (.t 220) (.t 219),none⟩]) .skip))))))))))))))))))))))
def irAllR8 (f li ev nx un : Nat) : IR := (.seq (.ops [⟨some 61,.mov (.t 5),none⟩,⟨some 62,.mksl 1 1 [(.v (.bool false))] (.t 61) (.t 61),none⟩,⟨some 12,.mov (.t 62),none⟩]) (.seq (.ops [⟨some 63,.mov (.t 5),none⟩,⟨some 64,.mksl 1 1 [(.v (.bool false))] (.t 63) (.t 63),none⟩,⟨some 13,.mov (.t 64),none⟩]) (.seq (.ops [⟨some 65,.mov (.t 5),none⟩,⟨some 66,.mksl 1 1 [(.v (.bool false))] (.t 65) (.t 65),none⟩,⟨some 14,.mov (.t 66),none⟩]) (.seq (.seq (.ops [⟨some 15,.mov (.c (.v (.int .i64 0))),none⟩]) (.block 2 (.loop (.seq (.seq (.ops [⟨some 67,.mov (.t 15),none⟩,⟨some 68,.mov (.t 5),none⟩,⟨some 69,.bin .lss false (.t 67) (.t 68),none⟩]) (.cond (.t 69) .skip (.exit 2))) (.seq (.block 3 (.seq (.ops [⟨some 72,.mov (.t 12),none⟩,⟨some 73,.mov (.t 15),none⟩,⟨some 74,.iaddr 1 (.t 72) (.t 73),none⟩,⟨none,.store 1 (.t 74) (.c (.v (.bool true))),none⟩]) (.seq (.ops [⟨some 75,.mov (.t 13),none⟩,⟨some 76,.mov (.t 15),none⟩,⟨some 77,.mov (.t 10),none⟩,⟨some 78,.mov (.t 15),none⟩,⟨some 79,.iaddr 1 (.t 77) (.t 78),none⟩,⟨some 80,.load 1 false (.t 79),none⟩,⟨some 81,.un .not (.t 80),none⟩,⟨some 82,.iaddr 1 (.t 75) (.t 76),none⟩,⟨none,.store 1 (.t 82) (.t 81),none⟩]) (.ops [⟨some 83,.mov (.t 14),none⟩,⟨some 84,.mov (.t 15),none⟩,⟨some 85,.mov (.t 11),none⟩,⟨some 86,.mov (.t 15),none⟩,⟨some 87,.iaddr 1 (.t 85) (.t 86),none⟩,⟨some 88,.load 1 false (.t 87),none⟩,⟨some 89,.un .not (.t 88),none⟩,⟨some 90,.iaddr 1 (.t 83) (.t 84),none⟩,⟨none,.store 1 (.t 90) (.t 89),none⟩])))) (.ops [⟨some 70,.mov (.t 15),none⟩,⟨some 71,.bin .add false (.t 70) (.c (.v (.int .i64 1))),none⟩,⟨some 15,.mov (.t 71),none⟩])))))) (.seq (.seq (.ops [⟨some 16,.mov (.c (.v (.int .i64 0))),none⟩]) (.block 4 (.loop (.seq (.seq (.ops [⟨some 91,.mov (.t 16),none⟩,⟨some 92,.mov (.t 5),none⟩,⟨some 93,.bin .lss false (.t 91) (.t 92),none⟩]) (.cond (.t 93) .skip (.exit 4))) (.seq (.block 5 (irAllRb5 f li ev nx un)) (.ops [⟨some 94,.mov (.t 16),none⟩,⟨some 95,.bin .add false (.t 94) (.c (.v (.int .i64 1))),none⟩,⟨some 16,.mov (.t 95),none⟩])))))) (.seq (.ops [⟨some 221,.mov (.t 6),none⟩,⟨some 4,.mov (.t 221),none⟩]) .ret))))))
def irAllR (f li ev nx un : Nat) : FnIR := ⟨222,[.t 4],(.seq (.ops [⟨some 2,.box (.t 0),none⟩,⟨some 3,.box (.t 1),none⟩,⟨some 4,.mov (.c (.v (.slice none 0 0))),none⟩]) (.seq (.ops [⟨some 17,.faddr 0 (.t 3),none⟩,⟨some 18,.load 1 false (.t 17),none⟩,⟨some 19,.len false (.t 18),none⟩,⟨some 5,.mov (.t 19),none⟩]) (.seq (.ops [⟨some 20,.mov (.t 5),none⟩,⟨some 21,.mksl 1 1 [(.v (.bool false))] (.t 20) (.t 20),none⟩,⟨some 6,.mov (.t 21),none⟩]) (.seq (.ops [⟨some 22,.load 4 true (.t 2),none⟩,⟨some 23,.call li [(.t 22)],none⟩,⟨some 7,.mov (.t 23),none⟩]) (.seq (.seq (.ops [⟨some 24,.mov (.t 7),none⟩]) (.cond (.t 24) (.seq (.seq (.ops [⟨some 8,.mov (.c (.v (.int .i64 0))),none⟩]) (.block 0 (.loop (.seq (.seq (.ops [⟨some 25,.mov (.t 8),none⟩,⟨some 26,.mov (.t 5),none⟩,⟨some 27,.bin .lss false (.t 25) (.t 26),none⟩]) (.cond (.t 27) .skip (.exit 0))) (.seq (.block 1 (.seq (.draw [[⟨some 30,.load 4 true (.t 2),none⟩,⟨some 31,.faddr 0 (.t 3),none⟩,⟨some 32,.load 1 false (.t 31),none⟩,⟨some 33,.mov (.t 8),none⟩,⟨some 34,.iaddr 1 (.t 32) (.t 33),none⟩,⟨some 35,.load 1 false (.t 34),none⟩],[⟨some 36,.call ev [(.t 30),(.t 35)],none⟩],[⟨some 9,.mov (.t 36),none⟩]]) (.ops [⟨some 37,.mov (.t 6),none⟩,⟨some 38,.mov (.t 8),none⟩,⟨some 39,.mov (.t 9),none⟩,⟨some 40,.bin .eql false (.t 39) (.c (.v (.int .i64 1))),none⟩,⟨some 41,.iaddr 1 (.t 37) (.t 38),none⟩,⟨none,.store 1 (.t 41) (.t 40),none⟩]))) (.ops [⟨some 28,.mov (.t 8),none⟩,⟨some 29,.bin .add false (.t 28) (.c (.v (.int .i64 1))),none⟩,⟨some 8,.mov (.t 29),none⟩])))))) (.seq (.ops [⟨some 42,.mov (.t 6),none⟩,⟨some 4,.mov (.t 42),none⟩]) .ret)) .skip)) (.seq (.draw [[⟨some 43,.faddr 3 (.t 2),none⟩,⟨some 44,.load 1 false (.t 43),none⟩,⟨some 45,.iaddr 4 (.t 44) (.c (.v (.int .i64 0))),none⟩,⟨some 46,.load 4 true (.t 45),none⟩,⟨some 47,.load 2 true (.t 3),none⟩],[⟨some 48,.call f [(.t 46),(.t 47)],none⟩],[⟨some 10,.mov (.t 48),none⟩]]) (.seq (.ops [⟨some 49,.mov (.t 5),none⟩,⟨some 50,.mksl 1 1 [(.v (.bool false))] (.t 49) (.t 49),none⟩,⟨some 11,.mov (.t 50),none⟩]) (.seq (.seq (.ops [⟨some 51,.faddr 3 (.t 2),none⟩,⟨some 52,.load 1 false (.t 51),none⟩,⟨some 53,.len false (.t 52),none⟩,⟨some 54,.bin .gtr false (.t 53) (.c (.v (.int .i64 1))),none⟩]) (.cond (.t 54) (.draw [[⟨some 55,.faddr 3 (.t 2),none⟩,⟨some 56,.load 1 false (.t 55),none⟩,⟨some 57,.iaddr 4 (.t 56) (.c (.v (.int .i64 1))),none⟩,⟨some 58,.load 4 true (.t 57),none⟩,⟨some 59,.load 2 true (.t 3),none⟩],[⟨some 60,.call f [(.t 58),(.t 59)],none⟩],[⟨some 11,.mov (.t 60),none⟩]]) .skip)) (irAllR8 f li ev nx un)))))))))⟩
theorem untilR_gen {P : Program} {f nx : Nat} (ir : compF P f = some (irUntilR nx)) (inx : compF P nx = some irNext17) {w : Word} (hwok : w.Ok) (hr : w.right = true) (hn : w.v.length ≤ 1000000) {i : Nat} (hi : i < w.v.length) {c c' : Bool} {a b : Nat → Bool} : PC P f [w.L, intL i, rowL c w.v.length a, rowL c' w.v.length b] (boolL (untW w a b i)) := by
 have hloop : 0 ≤ w.loop := by simp [Word.right] at hr; exact hr.1.2
 rw [show untW w a b i = unt w a b (w.v.length + 1) i from unt_fix hr a b i hi]
 refine pc_of_call (callAt_enter ir (by simp [irUntilR]) ?_)
 simp [irUntilR, Word.L, Word.cells]
 refine lwp_loop (fun s : Nat × Nat => [(1, intL s.2), (2, rowL c w.v.length a), (3, rowL c' w.v.length b), (4, .ptr 0 0), (9, intL s.1)]) (fun _ => [some w.cells]) (fun s => w.v.length + 1 - s.1) (fun s => s.1 ≤ w.v.length + 1 ∧ s.2 < w.v.length ∧ unt w a b (w.v.length + 1) i = unt w a b (w.v.length + 1 - s.1) s.2) (0, i) (by simp [hi]) ⟨[0], ?_⟩ ?_
 ·simp [Word.cells]
 ·rintro ⟨k, j⟩ ⟨hk, hj, hu⟩
  simp only at hk hj hu
  simp [Word.cells]
  refine ⟨fun hlt => ?_, fun hge => ?_⟩
  ·have hnw : IntKind.i64.wrap ((k : Int) + 1) = ((k + 1 : Nat) : Int) := by rw [wrap_id (by omega) (by omega)]; rfl
   have hu2 : unt w a b (w.v.length - k + 1) j = (b j || (a j && unt w a b (w.v.length - k) (w.nxt j))) := rfl
   rw [show w.v.length + 1 - k = (w.v.length - k) + 1 by omega, hu2] at hu
   cases hb : b j
   ·cases ha : a j
    ·simp [ha, hb] at hu
     simp [hj, rowsB_getE, ha, hb, hu]
    ·simp [hj, rowsB_getE, ha, hb]
     refine callT_plain (nxt17_gen inx hwok hloop hj) rfl (by simp [Word.L, Word.cells]) ?_
     simp [hnw]
     refine ⟨(k + 1, w.nxt j), ⟨by simp only; omega, Word.nxt_lt hr hj, ?_⟩, by simp only; omega, [0], ?_⟩
     ·rw [hu, ha, hb]; simp only; rw [show w.v.length + 1 - (k + 1) = w.v.length - k by omega]; simp
     ·simp []
   ·simp [hb] at hu
    simp [hj, rowsB_getE, hb, hu]
  ·have : k = w.v.length + 1 := by omega
   subst this
   have hu0 : unt w a b (w.v.length + 1) i = false := by rw [hu, Nat.sub_self]; rfl
   simp [hu0]
theorem semR_body {P : Program} {f li ev nx un : Nat} (inx : compF P nx = some irNext17) (iun : compF P un = some (irUntilR nx)) {w : Word} (hwok : w.Ok) (hr : w.right = true) (hn : w.v.length ≤ 1000000) {op : Int} (h15 : 15 ≤ op) (h24 : op ≤ 24) {a b : Nat → Bool} {i : Nat} (hi : i < w.v.length) {n pl ls : L} {r3 r4 r5 r6 : Option (List L)}
  {E : Env} (h2 : lk E 2 = .ptr 0 0) (h3 : lk E 3 = .ptr 1 0) (h6 : lk E 6 = .view 1 2 0 w.v.length true) (h10 : lk E 10 = rowL true w.v.length a) (h11 : lk E 11 = rowL true w.v.length b) (h12 : lk E 12 = rowL true w.v.length (fun _ => true)) (h13 : lk E 13 = rowL true w.v.length (fun i => !a i)) (h14 : lk E 14 = rowL true w.v.length (fun i => !b i)) (h16 : lk E 16 = intL i) {v5 : L} (h5 : lk E 5 = v5)
  {Q : X → Env → Heap → Prop} (hQ : ∀ E', lk E' 2 = .ptr 0 0 → lk E' 3 = .ptr 1 0 → lk E' 6 = .view 1 2 0 w.v.length true → lk E' 10 = rowL true w.v.length a → lk E' 11 = rowL true w.v.length b → lk E' 12 = rowL true w.v.length (fun _ => true) → lk E' 13 = rowL true w.v.length (fun i => !a i) → lk E' 14 = rowL true w.v.length (fun i => !b i) → lk E' 16 = intL i → lk E' 5 = v5 →
   Q .normal E' [some [intL op, n, pl, ls], some w.cells, some (rowB w.v.length (semStep w op a b) (i + 1)), r3, r4, r5, r6]) :
  lwp P 0 (irAllRb5 f li ev nx un) Q E [some [intL op, n, pl, ls], some w.cells, some (rowB w.v.length (semStep w op a b) i), r3, r4, r5, r6] := by
 have hloop : 0 ≤ w.loop := by simp [Word.right] at hr; exact hr.1.2
 have hset := rowB_set (h := semStep w op a b) hi
 have hQ' := hQ
 simp only [Word.cells] at hQ'
 have hop : op = 15 ∨ op = 16 ∨ op = 17 ∨ op = 18 ∨ op = 19 ∨ op = 20 ∨ op = 21 ∨ op = 22 ∨ op = 23 ∨ op = 24 := by omega
 rcases hop with rfl | rfl | rfl | rfl | rfl | rfl | rfl | rfl | rfl | rfl
 ·have e : semStep w 15 a b i = (!a i) := by simp [semStep]
  rw [e] at hset
  cases ha : a i <;> cases hb : b i
  ·have hset' : (rowB w.v.length (semStep w 15 a b) i).set i (.v (.bool true)) = rowB w.v.length (semStep w 15 a b) (i + 1) := by rw [ha] at hset; exact hset
   simp [irAllRb5, h2, h6, h10, h16, hi, rowsB_getE, ha, hset']
   refine ⟨by omega, hQ _ ?_ ?_ ?_ ?_ ?_ ?_ ?_ ?_ ?_ ?_⟩ <;> simp [h5, h2, h3, h6, h10, h11, h12, h13, h14, h16]
  ·have hset' : (rowB w.v.length (semStep w 15 a b) i).set i (.v (.bool true)) = rowB w.v.length (semStep w 15 a b) (i + 1) := by rw [ha] at hset; exact hset
   simp [irAllRb5, h2, h6, h10, h16, hi, rowsB_getE, ha, hset']
   refine ⟨by omega, hQ _ ?_ ?_ ?_ ?_ ?_ ?_ ?_ ?_ ?_ ?_⟩ <;> simp [h5, h2, h3, h6, h10, h11, h12, h13, h14, h16]
  ·have hset' : (rowB w.v.length (semStep w 15 a b) i).set i (.v (.bool false)) = rowB w.v.length (semStep w 15 a b) (i + 1) := by rw [ha] at hset; exact hset
   simp [irAllRb5, h2, h6, h10, h16, hi, rowsB_getE, ha, hset']
   refine ⟨by omega, hQ _ ?_ ?_ ?_ ?_ ?_ ?_ ?_ ?_ ?_ ?_⟩ <;> simp [h5, h2, h3, h6, h10, h11, h12, h13, h14, h16]
  ·have hset' : (rowB w.v.length (semStep w 15 a b) i).set i (.v (.bool false)) = rowB w.v.length (semStep w 15 a b) (i + 1) := by rw [ha] at hset; exact hset
   simp [irAllRb5, h2, h6, h10, h16, hi, rowsB_getE, ha, hset']
   refine ⟨by omega, hQ _ ?_ ?_ ?_ ?_ ?_ ?_ ?_ ?_ ?_ ?_⟩ <;> simp [h5, h2, h3, h6, h10, h11, h12, h13, h14, h16]
 ·have e : semStep w 16 a b i = (a i && b i) := by simp [semStep]
  rw [e] at hset
  cases ha : a i <;> cases hb : b i
  ·have hset' : (rowB w.v.length (semStep w 16 a b) i).set i (.v (.bool false)) = rowB w.v.length (semStep w 16 a b) (i + 1) := by rw [ha, hb] at hset; exact hset
   simp [irAllRb5, h2, h6, h10, h16, hi, rowsB_getE, ha, hset']
   refine ⟨by omega, hQ _ ?_ ?_ ?_ ?_ ?_ ?_ ?_ ?_ ?_ ?_⟩ <;> simp [h5, h2, h3, h6, h10, h11, h12, h13, h14, h16]
  ·have hset' : (rowB w.v.length (semStep w 16 a b) i).set i (.v (.bool false)) = rowB w.v.length (semStep w 16 a b) (i + 1) := by rw [ha, hb] at hset; exact hset
   simp [irAllRb5, h2, h6, h10, h16, hi, rowsB_getE, ha, hset']
   refine ⟨by omega, hQ _ ?_ ?_ ?_ ?_ ?_ ?_ ?_ ?_ ?_ ?_⟩ <;> simp [h5, h2, h3, h6, h10, h11, h12, h13, h14, h16]
  ·have hset' : (rowB w.v.length (semStep w 16 a b) i).set i (.v (.bool false)) = rowB w.v.length (semStep w 16 a b) (i + 1) := by rw [ha, hb] at hset; exact hset
   simp [irAllRb5, h2, h6, h10, h11, h16, hi, rowsB_getE, ha, hb, hset']
   refine ⟨by omega, hQ _ ?_ ?_ ?_ ?_ ?_ ?_ ?_ ?_ ?_ ?_⟩ <;> simp [h5, h2, h3, h6, h10, h11, h12, h13, h14, h16]
  ·have hset' : (rowB w.v.length (semStep w 16 a b) i).set i (.v (.bool true)) = rowB w.v.length (semStep w 16 a b) (i + 1) := by rw [ha, hb] at hset; exact hset
   simp [irAllRb5, h2, h6, h10, h11, h16, hi, rowsB_getE, ha, hb, hset']
   refine ⟨by omega, hQ _ ?_ ?_ ?_ ?_ ?_ ?_ ?_ ?_ ?_ ?_⟩ <;> simp [h5, h2, h3, h6, h10, h11, h12, h13, h14, h16]
 ·have e : semStep w 17 a b i = (a i || b i) := by simp [semStep]
  rw [e] at hset
  cases ha : a i <;> cases hb : b i
  ·have hset' : (rowB w.v.length (semStep w 17 a b) i).set i (.v (.bool false)) = rowB w.v.length (semStep w 17 a b) (i + 1) := by rw [ha, hb] at hset; exact hset
   simp [irAllRb5, h2, h6, h10, h11, h16, hi, rowsB_getE, ha, hb, hset']
   refine ⟨by omega, hQ _ ?_ ?_ ?_ ?_ ?_ ?_ ?_ ?_ ?_ ?_⟩ <;> simp [h5, h2, h3, h6, h10, h11, h12, h13, h14, h16]
  ·have hset' : (rowB w.v.length (semStep w 17 a b) i).set i (.v (.bool true)) = rowB w.v.length (semStep w 17 a b) (i + 1) := by rw [ha, hb] at hset; exact hset
   simp [irAllRb5, h2, h6, h10, h11, h16, hi, rowsB_getE, ha, hb, hset']
   refine ⟨by omega, hQ _ ?_ ?_ ?_ ?_ ?_ ?_ ?_ ?_ ?_ ?_⟩ <;> simp [h5, h2, h3, h6, h10, h11, h12, h13, h14, h16]
  ·have hset' : (rowB w.v.length (semStep w 17 a b) i).set i (.v (.bool true)) = rowB w.v.length (semStep w 17 a b) (i + 1) := by rw [ha, hb] at hset; exact hset
   simp [irAllRb5, h2, h6, h10, h16, hi, rowsB_getE, ha, hset']
   refine ⟨by omega, hQ _ ?_ ?_ ?_ ?_ ?_ ?_ ?_ ?_ ?_ ?_⟩ <;> simp [h5, h2, h3, h6, h10, h11, h12, h13, h14, h16]
  ·have hset' : (rowB w.v.length (semStep w 17 a b) i).set i (.v (.bool true)) = rowB w.v.length (semStep w 17 a b) (i + 1) := by rw [ha, hb] at hset; exact hset
   simp [irAllRb5, h2, h6, h10, h16, hi, rowsB_getE, ha, hset']
   refine ⟨by omega, hQ _ ?_ ?_ ?_ ?_ ?_ ?_ ?_ ?_ ?_ ?_⟩ <;> simp [h5, h2, h3, h6, h10, h11, h12, h13, h14, h16]
 ·have e : semStep w 18 a b i = (!a i || b i) := by simp [semStep]
  rw [e] at hset
  cases ha : a i <;> cases hb : b i
  ·have hset' : (rowB w.v.length (semStep w 18 a b) i).set i (.v (.bool true)) = rowB w.v.length (semStep w 18 a b) (i + 1) := by rw [ha, hb] at hset; exact hset
   simp [irAllRb5, h2, h6, h10, h16, hi, rowsB_getE, ha, hset']
   refine ⟨by omega, hQ _ ?_ ?_ ?_ ?_ ?_ ?_ ?_ ?_ ?_ ?_⟩ <;> simp [h5, h2, h3, h6, h10, h11, h12, h13, h14, h16]
  ·have hset' : (rowB w.v.length (semStep w 18 a b) i).set i (.v (.bool true)) = rowB w.v.length (semStep w 18 a b) (i + 1) := by rw [ha, hb] at hset; exact hset
   simp [irAllRb5, h2, h6, h10, h16, hi, rowsB_getE, ha, hset']
   refine ⟨by omega, hQ _ ?_ ?_ ?_ ?_ ?_ ?_ ?_ ?_ ?_ ?_⟩ <;> simp [h5, h2, h3, h6, h10, h11, h12, h13, h14, h16]
  ·have hset' : (rowB w.v.length (semStep w 18 a b) i).set i (.v (.bool false)) = rowB w.v.length (semStep w 18 a b) (i + 1) := by rw [ha, hb] at hset; exact hset
   simp [irAllRb5, h2, h6, h10, h11, h16, hi, rowsB_getE, ha, hb, hset']
   refine ⟨by omega, hQ _ ?_ ?_ ?_ ?_ ?_ ?_ ?_ ?_ ?_ ?_⟩ <;> simp [h5, h2, h3, h6, h10, h11, h12, h13, h14, h16]
  ·have hset' : (rowB w.v.length (semStep w 18 a b) i).set i (.v (.bool true)) = rowB w.v.length (semStep w 18 a b) (i + 1) := by rw [ha, hb] at hset; exact hset
   simp [irAllRb5, h2, h6, h10, h11, h16, hi, rowsB_getE, ha, hb, hset']
   refine ⟨by omega, hQ _ ?_ ?_ ?_ ?_ ?_ ?_ ?_ ?_ ?_ ?_⟩ <;> simp [h5, h2, h3, h6, h10, h11, h12, h13, h14, h16]
 ·have e : semStep w 19 a b i = (a i == b i) := by simp [semStep]
  rw [e] at hset
  cases ha : a i <;> cases hb : b i
  ·have hset' : (rowB w.v.length (semStep w 19 a b) i).set i (.v (.bool true)) = rowB w.v.length (semStep w 19 a b) (i + 1) := by rw [ha, hb] at hset; exact hset
   simp [irAllRb5, h2, h6, h10, h11, h16, hi, rowsB_getE, ha, hb, hset']
   refine ⟨by omega, hQ _ ?_ ?_ ?_ ?_ ?_ ?_ ?_ ?_ ?_ ?_⟩ <;> simp [h5, h2, h3, h6, h10, h11, h12, h13, h14, h16]
  ·have hset' : (rowB w.v.length (semStep w 19 a b) i).set i (.v (.bool false)) = rowB w.v.length (semStep w 19 a b) (i + 1) := by rw [ha, hb] at hset; exact hset
   simp [irAllRb5, h2, h6, h10, h11, h16, hi, rowsB_getE, ha, hb, hset']
   refine ⟨by omega, hQ _ ?_ ?_ ?_ ?_ ?_ ?_ ?_ ?_ ?_ ?_⟩ <;> simp [h5, h2, h3, h6, h10, h11, h12, h13, h14, h16]
  ·have hset' : (rowB w.v.length (semStep w 19 a b) i).set i (.v (.bool false)) = rowB w.v.length (semStep w 19 a b) (i + 1) := by rw [ha, hb] at hset; exact hset
   simp [irAllRb5, h2, h6, h10, h11, h16, hi, rowsB_getE, ha, hb, hset']
   refine ⟨by omega, hQ _ ?_ ?_ ?_ ?_ ?_ ?_ ?_ ?_ ?_ ?_⟩ <;> simp [h5, h2, h3, h6, h10, h11, h12, h13, h14, h16]
  ·have hset' : (rowB w.v.length (semStep w 19 a b) i).set i (.v (.bool true)) = rowB w.v.length (semStep w 19 a b) (i + 1) := by rw [ha, hb] at hset; exact hset
   simp [irAllRb5, h2, h6, h10, h11, h16, hi, rowsB_getE, ha, hb, hset']
   refine ⟨by omega, hQ _ ?_ ?_ ?_ ?_ ?_ ?_ ?_ ?_ ?_ ?_⟩ <;> simp [h5, h2, h3, h6, h10, h11, h12, h13, h14, h16]
 ·have e : semStep w 20 a b i = a (w.nxt i) := by simp [semStep]
  rw [e] at hset
  have hx := Word.nxt_lt hr hi
  simp [irAllRb5, h2, h3, h6, h10, h16, Word.cells]
  refine callT_plain (nxt17_gen inx hwok hloop hi) rfl (by simp [Word.L, Word.cells]) ?_
  simp [hi, hx, rowsB_getE, hset]
  refine ⟨by omega, hQ' _ ?_ ?_ ?_ ?_ ?_ ?_ ?_ ?_ ?_ ?_⟩ <;> simp [h5, h2, h3, h6, h10, h11, h12, h13, h14, h16]
 ·have e : semStep w 21 a b i = (untW w (fun _ => true) a i) := by simp [semStep, untW]
  rw [e] at hset
  simp [irAllRb5, h2, h3, h6, h10, h12, h16, Word.cells]
  refine callT_plain (untilR_gen (c := true) (c' := true) (a := fun _ => true) (b := a) iun inx hwok hr hn hi) rfl (by simp [Word.L, Word.cells]) ?_
  simp [hi, hset]
  refine ⟨by omega, hQ' _ ?_ ?_ ?_ ?_ ?_ ?_ ?_ ?_ ?_ ?_⟩ <;> simp [h5, h2, h3, h6, h10, h11, h12, h13, h14, h16]
 ·have e : semStep w 22 a b i = (!untW w (fun _ => true) (fun i => !a i) i) := by simp [semStep, relW, untW]
  rw [e] at hset
  simp [irAllRb5, h2, h3, h6, h12, h13, h16, Word.cells]
  refine callT_plain (untilR_gen (c := true) (c' := true) (a := fun _ => true) (b := fun i => !a i) iun inx hwok hr hn hi) rfl (by simp [Word.L, Word.cells]) ?_
  simp [hi, hset]
  refine ⟨by omega, hQ' _ ?_ ?_ ?_ ?_ ?_ ?_ ?_ ?_ ?_ ?_⟩ <;> simp [h5, h2, h3, h6, h10, h11, h12, h13, h14, h16]
 ·have e : semStep w 23 a b i = (untW w a b i) := by simp [semStep, untW]
  rw [e] at hset
  simp [irAllRb5, h2, h3, h6, h10, h11, h16, Word.cells]
  refine callT_plain (untilR_gen (c := true) (c' := true) (a := a) (b := b) iun inx hwok hr hn hi) rfl (by simp [Word.L, Word.cells]) ?_
  simp [hi, hset]
  refine ⟨by omega, hQ' _ ?_ ?_ ?_ ?_ ?_ ?_ ?_ ?_ ?_ ?_⟩ <;> simp [h5, h2, h3, h6, h10, h11, h12, h13, h14, h16]
 ·have e : semStep w 24 a b i = (!untW w (fun i => !a i) (fun i => !b i) i) := by simp [semStep, relW, untW]
  rw [e] at hset
  simp [irAllRb5, h2, h3, h6, h13, h14, h16, Word.cells]
  refine callT_plain (untilR_gen (c := true) (c' := true) (a := fun i => !a i) (b := fun i => !b i) iun inx hwok hr hn hi) rfl (by simp [Word.L, Word.cells]) ?_
  simp [hi, hset]
  refine ⟨by omega, hQ' _ ?_ ?_ ?_ ?_ ?_ ?_ ?_ ?_ ?_ ?_⟩ <;> simp [h5, h2, h3, h6, h10, h11, h12, h13, h14, h16]
end Lg

