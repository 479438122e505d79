/- The code of the law MORE. -/
import Derived.Test.YtjoffkghcjfbeaaLibUnroll
import Derived.Test.YtjoffkghcjfbeaaChecked
namespace Go.Proofs.Ytjoffkghcjfbeaa
open Go Lg
def sel7 (r : Nat) : Bool := [15, 20].contains r
def irMT1 : IR := (.drawN [⟨some 87, .faddr 1 (.t 13), none⟩,
  ⟨some 88, .load 1 false (.t 87), none⟩,
  ⟨some 89, .mov (.t 10), none⟩,
  ⟨some 91, .faddr 1 (.t 3), none⟩,
  ⟨some 92, .load 1 false (.t 91), none⟩,
  ⟨some 93, .mov (.t 10), none⟩,
  ⟨some 94, .iaddr 1 (.t 92) (.t 93), none⟩,
  ⟨some 95, .load 1 false (.t 94), none⟩,
  ⟨some 97, .mov (.t 11), none⟩,
  ⟨some 100, .iaddr 1 (.t 88) (.t 89), none⟩]
  (.alt ⟨some 90, .bslice 1 [(.v (.int .i64 0))] 0 [], none⟩ (.alt ⟨some 96, .append 1 8 [(.v (.int .i64 0))] (.t 90) (.t 95), none⟩ (.alt ⟨some 98, .bslice 1 [(.v (.int .i64 0))] 1 [(0, 1, (.t 97))], none⟩ (.alt ⟨some 99, .append 1 8 [(.v (.int .i64 0))] (.t 96) (.t 98), none⟩ (.alt ⟨none, .store 1 (.t 100) (.t 99), none⟩ .done
  .none)
  .none)
  .none)
  (.alt ⟨some 98, .bslice 1 [(.v (.int .i64 0))] 1 [(0, 1, (.t 97))], none⟩ (.alt ⟨some 96, .append 1 8 [(.v (.int .i64 0))] (.t 90) (.t 95), none⟩ (.alt ⟨some 99, .append 1 8 [(.v (.int .i64 0))] (.t 96) (.t 98), none⟩ (.alt ⟨none, .store 1 (.t 100) (.t 99), none⟩ .done
  .none)
  .none)
  .none)
  .none))
  (.alt ⟨some 98, .bslice 1 [(.v (.int .i64 0))] 1 [(0, 1, (.t 97))], none⟩ (.alt ⟨some 90, .bslice 1 [(.v (.int .i64 0))] 0 [], none⟩ (.alt ⟨some 96, .append 1 8 [(.v (.int .i64 0))] (.t 90) (.t 95), none⟩ (.alt ⟨some 99, .append 1 8 [(.v (.int .i64 0))] (.t 96) (.t 98), none⟩ (.alt ⟨none, .store 1 (.t 100) (.t 99), none⟩ .done
  .none)
  .none)
  .none)
  .none)
  .none)))
def irMT2 : IR := (.drawN [⟨some 116, .faddr 0 (.t 15), none⟩,
  ⟨some 117, .load 1 false (.t 116), none⟩,
  ⟨some 118, .mov (.t 10), none⟩,
  ⟨some 120, .faddr 0 (.t 3), none⟩,
  ⟨some 121, .load 1 false (.t 120), none⟩,
  ⟨some 122, .mov (.t 10), none⟩,
  ⟨some 123, .iaddr 1 (.t 121) (.t 122), none⟩,
  ⟨some 124, .load 1 false (.t 123), none⟩,
  ⟨some 126, .load 4 true (.t 7), none⟩,
  ⟨some 129, .iaddr 1 (.t 117) (.t 118), none⟩]
  (.alt ⟨some 119, .bslice 4 [(.v (.int .i64 0)), (.v (.int .i64 0)), (.v (.int .i64 0)), (.v (.slice none 0 0))] 0 [], none⟩ (.alt ⟨some 125, .append 4 48 [(.v (.int .i64 0)), (.v (.int .i64 0)), (.v (.int .i64 0)), (.v (.slice none 0 0))] (.t 119) (.t 124), none⟩ (.alt ⟨some 127, .bslice 4 [(.v (.int .i64 0)), (.v (.int .i64 0)), (.v (.int .i64 0)), (.v (.slice none 0 0))] 1 [(0, 4, (.t 126))], none⟩ (.alt ⟨some 128, .append 4 48 [(.v (.int .i64 0)), (.v (.int .i64 0)), (.v (.int .i64 0)), (.v (.slice none 0 0))] (.t 125) (.t 127), none⟩ (.alt ⟨none, .store 1 (.t 129) (.t 128), none⟩ .done
  .none)
  .none)
  .none)
  (.alt ⟨some 127, .bslice 4 [(.v (.int .i64 0)), (.v (.int .i64 0)), (.v (.int .i64 0)), (.v (.slice none 0 0))] 1 [(0, 4, (.t 126))], none⟩ (.alt ⟨some 125, .append 4 48 [(.v (.int .i64 0)), (.v (.int .i64 0)), (.v (.int .i64 0)), (.v (.slice none 0 0))] (.t 119) (.t 124), none⟩ (.alt ⟨some 128, .append 4 48 [(.v (.int .i64 0)), (.v (.int .i64 0)), (.v (.int .i64 0)), (.v (.slice none 0 0))] (.t 125) (.t 127), none⟩ (.alt ⟨none, .store 1 (.t 129) (.t 128), none⟩ .done
  .none)
  .none)
  .none)
  .none))
  (.alt ⟨some 127, .bslice 4 [(.v (.int .i64 0)), (.v (.int .i64 0)), (.v (.int .i64 0)), (.v (.slice none 0 0))] 1 [(0, 4, (.t 126))], none⟩ (.alt ⟨some 119, .bslice 4 [(.v (.int .i64 0)), (.v (.int .i64 0)), (.v (.int .i64 0)), (.v (.slice none 0 0))] 0 [], none⟩ (.alt ⟨some 125, .append 4 48 [(.v (.int .i64 0)), (.v (.int .i64 0)), (.v (.int .i64 0)), (.v (.slice none 0 0))] (.t 119) (.t 124), none⟩ (.alt ⟨some 128, .append 4 48 [(.v (.int .i64 0)), (.v (.int .i64 0)), (.v (.int .i64 0)), (.v (.slice none 0 0))] (.t 125) (.t 127), none⟩ (.alt ⟨none, .store 1 (.t 129) (.t 128), none⟩ .done
  .none)
  .none)
  .none)
  .none)
  .none)))
set_option maxRecDepth 100000 in
theorem ir7 : compFS sel7 Try.prog 7 = some ⟨171,[.t 2],(.seq (.ops [⟨some 1,.box (.t 0),none⟩,⟨some 2,.mov (.c (.v (.bool false))),none⟩]) (.seq (.ops [⟨some 17,.faddr 0 (.t 1),none⟩,⟨some 18,.load 4 true (.t 17),none⟩,⟨some 3,.alloc (.agg [(.v (.slice none 0 0)),(.v (.slice none 0 0)),(.v (.slice none 0 0)),(.v (.slice none 0 0))]),none⟩,⟨none,.store 4 (.t 3) (.t 18),none⟩]) (.seq (.ops [⟨some 19,.faddr 4 (.t 1),none⟩,⟨some 20,.load 2 true (.t 19),none⟩,⟨some 4,.alloc (.agg [(.v (.slice none 0 0)),(.v (.int .i64 0))]),none⟩,⟨none,.store 2 (.t 4) (.t 20),none⟩]) (.seq (.ops [⟨some 21,.faddr 6 (.t 1),none⟩,⟨some 22,.load 1 false (.t 21),none⟩,⟨some 5,.mov (.t 22),none⟩]) (.seq (.ops [⟨some 23,.faddr 7 (.t 1),none⟩,⟨some 24,.load 1 false (.t 23),none⟩,⟨some 6,.mov (.t 24),none⟩]) (.seq (.ops [⟨some 25,.faddr 8 (.t 1),none⟩,⟨some 26,.load 4 true (.t 25),none⟩,⟨some 7,.alloc (.agg [(.v (.int .i64 0)),(.v (.int .i64 0)),(.v (.int .i64 0)),(.v (.slice none 0 0))]),none⟩,⟨none,.store 4 (.t 7) (.t 26),none⟩]) (.seq (.ops [⟨some 27,.call 9 [],none⟩,⟨some 8,.mov (.t 27),none⟩]) (.seq (.ops [⟨some 28,.faddr 0 (.t 3),none⟩,⟨some 29,.load 1 false (.t 28),none⟩,⟨some 30,.len false (.t 29),none⟩,⟨some 9,.mov (.t 30),none⟩]) (.seq (.seq (.ops [⟨some 31,.load 4 true (.t 3),none⟩,⟨some 32,.call 10 [(.t 31),(.c (.v (.int .i64 8)))],none⟩,⟨some 33,.un .not (.t 32),none⟩,⟨some 34,.mov (.t 33),none⟩,⟨some 35,.mov (.t 9),some (34,false)⟩,⟨some 36,.bin .lss false (.t 35) (.c (.v (.int .i64 1))),some (34,false)⟩,⟨some 37,.pick (.t 34) (.c (.v (.bool true))) (.t 36),none⟩,⟨some 38,.mov (.t 37),none⟩,⟨some 39,.load 4 true (.t 3),some (38,false)⟩,⟨some 40,.call 12 [(.t 39)],some (38,false)⟩,⟨some 41,.un .not (.t 40),some (38,false)⟩,⟨some 42,.pick (.t 38) (.c (.v (.bool true))) (.t 41),none⟩,⟨some 43,.mov (.t 42),none⟩,⟨some 44,.load 4 true (.t 3),some (43,false)⟩,⟨some 45,.call 11 [(.t 44),(.c (.v (.int .i64 3)))],some (43,false)⟩,⟨some 46,.un .not (.t 45),some (43,false)⟩,⟨some 47,.pick (.t 43) (.c (.v (.bool true))) (.t 46),none⟩,⟨some 48,.mov (.t 47),none⟩,⟨some 49,.load 2 true (.t 4),some (48,false)⟩,⟨some 50,.call 14 [(.t 49)],some (48,false)⟩,⟨some 51,.un .not (.t 50),some (48,false)⟩,⟨some 52,.pick (.t 48) (.c (.v (.bool true))) (.t 51),none⟩,⟨some 53,.mov (.t 52),none⟩,⟨some 54,.faddr 0 (.t 4),some (53,false)⟩,⟨some 55,.load 1 false (.t 54),some (53,false)⟩,⟨some 56,.len false (.t 55),some (53,false)⟩,⟨some 57,.bin .gtr false (.t 56) (.c (.v (.int .i64 8))),some (53,false)⟩,⟨some 58,.pick (.t 53) (.c (.v (.bool true))) (.t 57),none⟩,⟨some 59,.mov (.t 58),none⟩,⟨some 60,.load 4 true (.t 7),some (59,false)⟩,⟨some 61,.call 19 [(.t 60),(.c (.v (.int .i64 3)))],some (59,false)⟩,⟨some 62,.un .not (.t 61),some (59,false)⟩,⟨some 63,.pick (.t 59) (.c (.v (.bool true))) (.t 62),none⟩,⟨some 64,.mov (.t 63),none⟩,⟨some 65,.load 4 true (.t 7),some (64,false)⟩,⟨some 66,.call 26 [(.t 65)],some (64,false)⟩,⟨some 67,.un .not (.t 66),some (64,false)⟩,⟨some 68,.pick (.t 64) (.c (.v (.bool true))) (.t 67),none⟩]) (.cond (.t 68) (.seq (.ops [⟨some 69,.mov (.t 8),none⟩,⟨some 2,.mov (.t 69),none⟩]) .ret) .skip)) (.seq (.ops [⟨some 70,.mov (.t 5),none⟩,⟨some 71,.conv .i64 (.t 70),none⟩,⟨some 72,.mov (.t 9),none⟩,⟨some 73,.bin .rem false (.t 71) (.t 72),none⟩,⟨some 10,.mov (.t 73),none⟩]) (.seq (.ops [⟨some 74,.mov (.t 6),none⟩,⟨some 75,.conv .i64 (.t 74),none⟩,⟨some 76,.mov (.t 9),none⟩,⟨some 77,.bin .rem false (.t 75) (.t 76),none⟩,⟨some 11,.mov (.t 77),none⟩]) (.seq (.ops [⟨some 78,.load 4 true (.t 3),none⟩,⟨some 79,.load 2 true (.t 4),none⟩,⟨some 80,.call 17 [(.t 78),(.t 79)],none⟩,⟨some 12,.mov (.t 80),none⟩]) (.seq (.ops [⟨some 81,.load 4 true (.t 3),none⟩,⟨some 13,.alloc (.agg [(.v (.slice none 0 0)),(.v (.slice none 0 0)),(.v (.slice none 0 0)),(.v (.slice none 0 0))]),none⟩,⟨none,.store 4 (.t 13) (.t 81),none⟩]) (.seq (.ops [⟨some 82,.bslice 1 [(.v (.slice none 0 0))] 0 [],none⟩,⟨some 83,.faddr 1 (.t 3),none⟩,⟨some 84,.load 1 false (.t 83),none⟩,⟨some 85,.append 1 24 [(.v (.slice none 0 0))] (.t 82) (.t 84),none⟩,⟨some 86,.faddr 1 (.t 13),none⟩,⟨none,.store 1 (.t 86) (.t 85),none⟩]) (.seq irMT1 (.seq (.ops [⟨some 101,.load 4 true (.t 3),none⟩,⟨some 14,.alloc (.agg [(.v (.slice none 0 0)),(.v (.slice none 0 0)),(.v (.slice none 0 0)),(.v (.slice none 0 0))]),none⟩,⟨none,.store 4 (.t 14) (.t 101),none⟩]) (.seq (.ops [⟨some 102,.bslice 1 [(.v (.int .i64 0))] 0 [],none⟩,⟨some 103,.faddr 2 (.t 3),none⟩,⟨some 104,.load 1 false (.t 103),none⟩,⟨some 105,.append 1 8 [(.v (.int .i64 0))] (.t 102) (.t 104),none⟩,⟨some 106,.mov (.t 11),none⟩,⟨some 107,.bslice 1 [(.v (.int .i64 0))] 1 [(0,1,(.t 106))],none⟩,⟨some 108,.append 1 8 [(.v (.int .i64 0))] (.t 105) (.t 107),none⟩,⟨some 109,.faddr 2 (.t 14),none⟩,⟨none,.store 1 (.t 109) (.t 108),none⟩]) (.seq (.ops [⟨some 110,.load 4 true (.t 3),none⟩,⟨some 15,.alloc (.agg [(.v (.slice none 0 0)),(.v (.slice none 0 0)),(.v (.slice none 0 0)),(.v (.slice none 0 0))]),none⟩,⟨none,.store 4 (.t 15) (.t 110),none⟩]) (.seq (.ops [⟨some 111,.bslice 1 [(.v (.slice none 0 0))] 0 [],none⟩,⟨some 112,.faddr 0 (.t 3),none⟩,⟨some 113,.load 1 false (.t 112),none⟩,⟨some 114,.append 1 24 [(.v (.slice none 0 0))] (.t 111) (.t 113),none⟩,⟨some 115,.faddr 0 (.t 15),none⟩,⟨none,.store 1 (.t 115) (.t 114),none⟩]) (.seq irMT2 (.seq (.ops [⟨some 130,.load 4 true (.t 3),none⟩,⟨some 16,.alloc (.agg [(.v (.slice none 0 0)),(.v (.slice none 0 0)),(.v (.slice none 0 0)),(.v (.slice none 0 0))]),none⟩,⟨none,.store 4 (.t 16) (.t 130),none⟩]) (.seq (.ops [⟨some 131,.bslice 1 [(.v (.slice none 0 0))] 0 [],none⟩,⟨some 132,.faddr 3 (.t 3),none⟩,⟨some 133,.load 1 false (.t 132),none⟩,⟨some 134,.append 1 24 [(.v (.slice none 0 0))] (.t 131) (.t 133),none⟩,⟨some 135,.mov (.t 10),none⟩,⟨some 136,.mov (.t 11),none⟩,⟨some 137,.bslice 1 [(.v (.int .i64 0))] 2 [(0,1,(.t 135)),(1,1,(.t 136))],none⟩,⟨some 138,.bslice 1 [(.v (.slice none 0 0))] 1 [(0,1,(.t 137))],none⟩,⟨some 139,.append 1 24 [(.v (.slice none 0 0))] (.t 134) (.t 138),none⟩,⟨some 140,.faddr 3 (.t 16),none⟩,⟨none,.store 1 (.t 140) (.t 139),none⟩]) (.seq (.ops [⟨some 141,.mov (.t 8),none⟩,⟨some 142,.mov (.t 141),none⟩,⟨some 143,.mov (.t 12),some (142,true)⟩,⟨some 144,.un .not (.t 143),some (142,true)⟩,⟨some 145,.mov (.t 144),some (142,true)⟩,⟨some 146,.load 4 true (.t 13),some (145,false)⟩,⟨some 147,.load 2 true (.t 4),some (145,false)⟩,⟨some 148,.call 17 [(.t 146),(.t 147)],some (145,false)⟩,⟨some 149,.mov (.t 148),some (145,false)⟩,⟨some 150,.load 4 true (.t 14),some (149,true)⟩,⟨some 151,.load 2 true (.t 4),some (149,true)⟩,⟨some 152,.call 17 [(.t 150),(.t 151)],some (149,true)⟩,⟨some 153,.pick (.t 149) (.t 152) (.c (.v (.bool false))),some (145,false)⟩,⟨some 154,.pick (.t 145) (.c (.v (.bool true))) (.t 153),some (142,true)⟩,⟨some 155,.pick (.t 142) (.t 154) (.c (.v (.bool false))),none⟩,⟨some 156,.mov (.t 155),none⟩,⟨some 157,.mov (.t 12),some (156,true)⟩,⟨some 158,.mov (.t 157),some (156,true)⟩,⟨some 159,.load 4 true (.t 15),some (158,false)⟩,⟨some 160,.load 2 true (.t 4),some (158,false)⟩,⟨some 161,.call 17 [(.t 159),(.t 160)],some (158,false)⟩,⟨some 162,.un .not (.t 161),some (158,false)⟩,⟨some 163,.mov (.t 162),some (158,false)⟩,⟨some 164,.load 4 true (.t 16),some (163,true)⟩,⟨some 165,.load 2 true (.t 4),some (163,true)⟩,⟨some 166,.call 17 [(.t 164),(.t 165)],some (163,true)⟩,⟨some 167,.un .not (.t 166),some (163,true)⟩,⟨some 168,.pick (.t 163) (.t 167) (.c (.v (.bool false))),some (158,false)⟩,⟨some 169,.pick (.t 158) (.c (.v (.bool true))) (.t 168),some (156,true)⟩,⟨some 170,.pick (.t 156) (.t 169) (.c (.v (.bool false))),none⟩,⟨some 2,.mov (.t 170),none⟩]) .ret)))))))))))))))))))))))⟩:= compFS_of (by kernel_rfl)
end Go.Proofs.Ytjoffkghcjfbeaa

