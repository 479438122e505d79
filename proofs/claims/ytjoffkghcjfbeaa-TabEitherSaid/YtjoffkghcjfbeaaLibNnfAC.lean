import Derived.Test.YtjoffkghcjfbeaaLibNnfS
/- The answer's turn of formulas. -/
namespace Lg
open Go
def irTurnA (lit self two : Nat) : FnIR := ⟨296,[.c 4 4 true],(.seq (.ops [⟨some 2,.box (.t 0),none⟩,⟨some 4,.alloc (.agg [(.v (.int .i64 0)),(.v (.int .i64 0)),(.v (.int .i64 0)),(.v (.slice none 0 0))]),none⟩]) (.seq (.ops [⟨some 6,.load 4 true (.t 2),none⟩,⟨some 7,.call lit [(.t 6)],none⟩,⟨some 5,.mov (.t 7),none⟩]) (.seq (.seq (.ops [⟨some 8,.mov (.t 5),none⟩,⟨some 9,.mov (.t 8),none⟩,⟨some 10,.mov (.t 1),some (9,true)⟩,⟨some 11,.pick (.t 9) (.t 10) (.c (.v (.bool false))),none⟩]) (.cond (.t 11) (.seq (.ops [⟨some 12,.faddr 2 (.t 2),none⟩,⟨some 13,.load 1 false (.t 12),none⟩,⟨some 14,.load 4 true (.t 2),none⟩,⟨some 15,.bslice 4 [(.v (.int .i64 0)),(.v (.int .i64 0)),(.v (.int .i64 0)),(.v (.slice none 0 0))] 1 [(0,4,(.t 14))],none⟩,⟨some 16,.build [(.v (.int .i64 0)),(.v (.int .i64 0)),(.v (.int .i64 0)),(.v (.slice none 0 0))] [(0,1,(.c (.v (.int .i64 15)))),(2,1,(.t 13)),(3,1,(.t 15))],none⟩,⟨none,.store 4 (.t 4) (.t 16),none⟩]) .ret) .skip)) (.seq (.seq (.ops [⟨some 17,.mov (.t 5),none⟩]) (.cond (.t 17) (.seq (.ops [⟨some 18,.load 4 true (.t 2),none⟩,⟨none,.store 4 (.t 4) (.t 18),none⟩]) .ret) .skip)) (.seq (.seq (.ops [⟨some 19,.faddr 0 (.t 2),none⟩,⟨some 20,.load 1 false (.t 19),none⟩]) (.block 0 (.seq (.ops [⟨some 22,.bin .eql false (.t 20) (.c (.v (.int .i64 15))),none⟩,⟨some 21,.mov (.t 22),none⟩]) (.cond (.t 21) (.seq (.ops [⟨some 23,.faddr 3 (.t 2),none⟩,⟨some 24,.load 1 false (.t 23),none⟩,⟨some 25,.iaddr 4 (.t 24) (.c (.v (.int .i64 0))),none⟩,⟨some 26,.load 4 true (.t 25),none⟩,⟨some 27,.mov (.t 1),none⟩,⟨some 28,.un .not (.t 27),none⟩,⟨some 29,.call self [(.t 26),(.t 28)],none⟩,⟨none,.store 4 (.t 4) (.t 29),none⟩]) .ret) (.seq (.ops [⟨some 31,.bin .eql false (.t 20) (.c (.v (.int .i64 16))),none⟩,⟨some 30,.mov (.t 31),none⟩]) (.cond (.t 30) (.seq (.seq (.ops [⟨some 32,.mov (.t 1),none⟩]) (.cond (.t 32) (.seq (.draw [[⟨some 33,.faddr 2 (.t 2),none⟩,⟨some 34,.load 1 false (.t 33),none⟩,⟨some 35,.faddr 3 (.t 2),none⟩,⟨some 36,.load 1 false (.t 35),none⟩,⟨some 37,.iaddr 4 (.t 36) (.c (.v (.int .i64 0))),none⟩,⟨some 38,.load 4 true (.t 37),none⟩,⟨some 39,.call self [(.t 38),(.c (.v (.bool true)))],none⟩,⟨some 40,.faddr 3 (.t 2),none⟩,⟨some 41,.load 1 false (.t 40),none⟩,⟨some 42,.iaddr 4 (.t 41) (.c (.v (.int .i64 1))),none⟩,⟨some 43,.load 4 true (.t 42),none⟩,⟨some 44,.call self [(.t 43),(.c (.v (.bool true)))],none⟩],[⟨some 45,.call two [(.c (.v (.int .i64 17))),(.t 34),(.t 39),(.t 44)],none⟩],[⟨none,.store 4 (.t 4) (.t 45),none⟩]]) .ret) .skip)) (.seq (.draw [[⟨some 46,.faddr 2 (.t 2),none⟩,⟨some 47,.load 1 false (.t 46),none⟩,⟨some 48,.faddr 3 (.t 2),none⟩,⟨some 49,.load 1 false (.t 48),none⟩,⟨some 50,.iaddr 4 (.t 49) (.c (.v (.int .i64 0))),none⟩,⟨some 51,.load 4 true (.t 50),none⟩,⟨some 52,.call self [(.t 51),(.c (.v (.bool false)))],none⟩,⟨some 53,.faddr 3 (.t 2),none⟩,⟨some 54,.load 1 false (.t 53),none⟩,⟨some 55,.iaddr 4 (.t 54) (.c (.v (.int .i64 1))),none⟩,⟨some 56,.load 4 true (.t 55),none⟩,⟨some 57,.call self [(.t 56),(.c (.v (.bool false)))],none⟩],[⟨some 58,.call two [(.c (.v (.int .i64 16))),(.t 47),(.t 52),(.t 57)],none⟩],[⟨none,.store 4 (.t 4) (.t 58),none⟩]]) .ret)) (.seq (.ops [⟨some 60,.bin .eql false (.t 20) (.c (.v (.int .i64 17))),none⟩,⟨some 59,.mov (.t 60),none⟩]) (.cond (.t 59) (.seq (.seq (.ops [⟨some 61,.mov (.t 1),none⟩]) (.cond (.t 61) (.seq (.draw [[⟨some 62,.faddr 2 (.t 2),none⟩,⟨some 63,.load 1 false (.t 62),none⟩,⟨some 64,.faddr 3 (.t 2),none⟩,⟨some 65,.load 1 false (.t 64),none⟩,⟨some 66,.iaddr 4 (.t 65) (.c (.v (.int .i64 0))),none⟩,⟨some 67,.load 4 true (.t 66),none⟩,⟨some 68,.call self [(.t 67),(.c (.v (.bool true)))],none⟩,⟨some 69,.faddr 3 (.t 2),none⟩,⟨some 70,.load 1 false (.t 69),none⟩,⟨some 71,.iaddr 4 (.t 70) (.c (.v (.int .i64 1))),none⟩,⟨some 72,.load 4 true (.t 71),none⟩,⟨some 73,.call self [(.t 72),(.c (.v (.bool true)))],none⟩],[⟨some 74,.call two [(.c (.v (.int .i64 16))),(.t 63),(.t 68),(.t 73)],none⟩],[⟨none,.store 4 (.t 4) (.t 74),none⟩]]) .ret) .skip)) (.seq (.draw [[⟨some 75,.faddr 2 (.t 2),none⟩,⟨some 76,.load 1 false (.t 75),none⟩,⟨some 77,.faddr 3 (.t 2),none⟩,⟨some 78,.load 1 false (.t 77),none⟩,⟨some 79,.iaddr 4 (.t 78) (.c (.v (.int .i64 0))),none⟩,⟨some 80,.load 4 true (.t 79),none⟩,⟨some 81,.call self [(.t 80),(.c (.v (.bool false)))],none⟩,⟨some 82,.faddr 3 (.t 2),none⟩,⟨some 83,.load 1 false (.t 82),none⟩,⟨some 84,.iaddr 4 (.t 83) (.c (.v (.int .i64 1))),none⟩,⟨some 85,.load 4 true (.t 84),none⟩,⟨some 86,.call self [(.t 85),(.c (.v (.bool false)))],none⟩],[⟨some 87,.call two [(.c (.v (.int .i64 17))),(.t 76),(.t 81),(.t 86)],none⟩],[⟨none,.store 4 (.t 4) (.t 87),none⟩]]) .ret)) (.seq (.ops [⟨some 89,.bin .eql false (.t 20) (.c (.v (.int .i64 18))),none⟩,⟨some 88,.mov (.t 89),none⟩]) (.cond (.t 88) (.seq (.seq (.ops [⟨some 90,.mov (.t 1),none⟩]) (.cond (.t 90) (.seq (.draw [[⟨some 91,.faddr 2 (.t 2),none⟩,⟨some 92,.load 1 false (.t 91),none⟩,⟨some 93,.faddr 3 (.t 2),none⟩,⟨some 94,.load 1 false (.t 93),none⟩,⟨some 95,.iaddr 4 (.t 94) (.c (.v (.int .i64 0))),none⟩,⟨some 96,.load 4 true (.t 95),none⟩,⟨some 97,.call self [(.t 96),(.c (.v (.bool false)))],none⟩,⟨some 98,.faddr 3 (.t 2),none⟩,⟨some 99,.load 1 false (.t 98),none⟩,⟨some 100,.iaddr 4 (.t 99) (.c (.v (.int .i64 1))),none⟩,⟨some 101,.load 4 true (.t 100),none⟩,⟨some 102,.call self [(.t 101),(.c (.v (.bool true)))],none⟩],[⟨some 103,.call two [(.c (.v (.int .i64 16))),(.t 92),(.t 97),(.t 102)],none⟩],[⟨none,.store 4 (.t 4) (.t 103),none⟩]]) .ret) .skip)) (.seq (.draw [[⟨some 104,.faddr 2 (.t 2),none⟩,⟨some 105,.load 1 false (.t 104),none⟩,⟨some 106,.faddr 3 (.t 2),none⟩,⟨some 107,.load 1 false (.t 106),none⟩,⟨some 108,.iaddr 4 (.t 107) (.c (.v (.int .i64 0))),none⟩,⟨some 109,.load 4 true (.t 108),none⟩,⟨some 110,.call self [(.t 109),(.c (.v (.bool true)))],none⟩,⟨some 111,.faddr 3 (.t 2),none⟩,⟨some 112,.load 1 false (.t 111),none⟩,⟨some 113,.iaddr 4 (.t 112) (.c (.v (.int .i64 1))),none⟩,⟨some 114,.load 4 true (.t 113),none⟩,⟨some 115,.call self [(.t 114),(.c (.v (.bool false)))],none⟩],[⟨some 116,.call two [(.c (.v (.int .i64 17))),(.t 105),(.t 110),(.t 115)],none⟩],[⟨none,.store 4 (.t 4) (.t 116),none⟩]]) .ret)) (.seq (.ops [⟨some 118,.bin .eql false (.t 20) (.c (.v (.int .i64 19))),none⟩,⟨some 117,.mov (.t 118),none⟩]) (.cond (.t 117) (.seq (.seq (.ops [⟨some 119,.mov (.t 1),none⟩]) (.cond (.t 119) (.seq (.draw [[⟨some 120,.faddr 2 (.t 2),none⟩,⟨some 121,.load 1 false (.t 120),none⟩,⟨some 122,.faddr 2 (.t 2),none⟩,⟨some 123,.load 1 false (.t 122),none⟩,⟨some 124,.faddr 3 (.t 2),none⟩,⟨some 125,.load 1 false (.t 124),none⟩,⟨some 126,.iaddr 4 (.t 125) (.c (.v (.int .i64 0))),none⟩,⟨some 127,.load 4 true (.t 126),none⟩,⟨some 128,.call self [(.t 127),(.c (.v (.bool false)))],none⟩,⟨some 129,.faddr 3 (.t 2),none⟩,⟨some 130,.load 1 false (.t 129),none⟩,⟨some 131,.iaddr 4 (.t 130) (.c (.v (.int .i64 1))),none⟩,⟨some 132,.load 4 true (.t 131),none⟩,⟨some 133,.call self [(.t 132),(.c (.v (.bool true)))],none⟩,⟨some 134,.call two [(.c (.v (.int .i64 16))),(.t 123),(.t 128),(.t 133)],none⟩,⟨some 135,.faddr 2 (.t 2),none⟩,⟨some 136,.load 1 false (.t 135),none⟩,⟨some 137,.faddr 3 (.t 2),none⟩,⟨some 138,.load 1 false (.t 137),none⟩,⟨some 139,.iaddr 4 (.t 138) (.c (.v (.int .i64 0))),none⟩,⟨some 140,.load 4 true (.t 139),none⟩,⟨some 141,.call self [(.t 140),(.c (.v (.bool true)))],none⟩,⟨some 142,.faddr 3 (.t 2),none⟩,⟨some 143,.load 1 false (.t 142),none⟩,⟨some 144,.iaddr 4 (.t 143) (.c (.v (.int .i64 1))),none⟩,⟨some 145,.load 4 true (.t 144),none⟩,⟨some 146,.call self [(.t 145),(.c (.v (.bool false)))],none⟩,⟨some 147,.call two [(.c (.v (.int .i64 16))),(.t 136),(.t 141),(.t 146)],none⟩],[⟨some 148,.call two [(.c (.v (.int .i64 17))),(.t 121),(.t 134),(.t 147)],none⟩],[⟨none,.store 4 (.t 4) (.t 148),none⟩]]) .ret) .skip)) (.seq (.draw [[⟨some 149,.faddr 2 (.t 2),none⟩,⟨some 150,.load 1 false (.t 149),none⟩,⟨some 151,.faddr 2 (.t 2),none⟩,⟨some 152,.load 1 false (.t 151),none⟩,⟨some 153,.faddr 3 (.t 2),none⟩,⟨some 154,.load 1 false (.t 153),none⟩,⟨some 155,.iaddr 4 (.t 154) (.c (.v (.int .i64 0))),none⟩,⟨some 156,.load 4 true (.t 155),none⟩,⟨some 157,.call self [(.t 156),(.c (.v (.bool false)))],none⟩,⟨some 158,.faddr 3 (.t 2),none⟩,⟨some 159,.load 1 false (.t 158),none⟩,⟨some 160,.iaddr 4 (.t 159) (.c (.v (.int .i64 1))),none⟩,⟨some 161,.load 4 true (.t 160),none⟩,⟨some 162,.call self [(.t 161),(.c (.v (.bool false)))],none⟩,⟨some 163,.call two [(.c (.v (.int .i64 16))),(.t 152),(.t 157),(.t 162)],none⟩,⟨some 164,.faddr 2 (.t 2),none⟩,⟨some 165,.load 1 false (.t 164),none⟩,⟨some 166,.faddr 3 (.t 2),none⟩,⟨some 167,.load 1 false (.t 166),none⟩,⟨some 168,.iaddr 4 (.t 167) (.c (.v (.int .i64 0))),none⟩,⟨some 169,.load 4 true (.t 168),none⟩,⟨some 170,.call self [(.t 169),(.c (.v (.bool true)))],none⟩,⟨some 171,.faddr 3 (.t 2),none⟩,⟨some 172,.load 1 false (.t 171),none⟩,⟨some 173,.iaddr 4 (.t 172) (.c (.v (.int .i64 1))),none⟩,⟨some 174,.load 4 true (.t 173),none⟩,⟨some 175,.call self [(.t 174),(.c (.v (.bool true)))],none⟩,⟨some 176,.call two [(.c (.v (.int .i64 16))),(.t 165),(.t 170),(.t 175)],none⟩],[⟨some 177,.call two [(.c (.v (.int .i64 17))),(.t 150),(.t 163),(.t 176)],none⟩],[⟨none,.store 4 (.t 4) (.t 177),none⟩]]) .ret)) (.seq (.ops [⟨some 179,.bin .eql false (.t 20) (.c (.v (.int .i64 20))),none⟩,⟨some 178,.mov (.t 179),none⟩]) (.cond (.t 178) (.seq (.draw [[⟨some 180,.faddr 2 (.t 2),none⟩,⟨some 181,.load 1 false (.t 180),none⟩,⟨some 182,.faddr 3 (.t 2),none⟩,⟨some 183,.load 1 false (.t 182),none⟩,⟨some 184,.iaddr 4 (.t 183) (.c (.v (.int .i64 0))),none⟩,⟨some 185,.load 4 true (.t 184),none⟩,⟨some 186,.mov (.t 1),none⟩,⟨some 187,.call self [(.t 185),(.t 186)],none⟩,⟨some 188,.bslice 4 [(.v (.int .i64 0)),(.v (.int .i64 0)),(.v (.int .i64 0)),(.v (.slice none 0 0))] 1 [(0,4,(.t 187))],none⟩],[⟨some 189,.build [(.v (.int .i64 0)),(.v (.int .i64 0)),(.v (.int .i64 0)),(.v (.slice none 0 0))] [(0,1,(.c (.v (.int .i64 20)))),(2,1,(.t 181)),(3,1,(.t 188))],none⟩],[⟨none,.store 4 (.t 4) (.t 189),none⟩]]) .ret) (.seq (.ops [⟨some 191,.bin .eql false (.t 20) (.c (.v (.int .i64 21))),none⟩,⟨some 190,.mov (.t 191),none⟩]) (.cond (.t 190) (.seq (.seq (.ops [⟨some 192,.mov (.t 1),none⟩]) (.cond (.t 192) (.seq (.draw [[⟨some 193,.faddr 2 (.t 2),none⟩,⟨some 194,.load 1 false (.t 193),none⟩,⟨some 195,.faddr 2 (.t 2),none⟩,⟨some 196,.load 1 false (.t 195),none⟩,⟨some 197,.build [(.v (.int .i64 0)),(.v (.int .i64 0)),(.v (.int .i64 0)),(.v (.slice none 0 0))] [(0,1,(.c (.v (.int .i64 14)))),(2,1,(.t 196))],none⟩,⟨some 198,.faddr 3 (.t 2),none⟩,⟨some 199,.load 1 false (.t 198),none⟩,⟨some 200,.iaddr 4 (.t 199) (.c (.v (.int .i64 0))),none⟩,⟨some 201,.load 4 true (.t 200),none⟩,⟨some 202,.call self [(.t 201),(.c (.v (.bool true)))],none⟩],[⟨some 203,.call two [(.c (.v (.int .i64 24))),(.t 194),(.t 197),(.t 202)],none⟩],[⟨none,.store 4 (.t 4) (.t 203),none⟩]]) .ret) .skip)) (.seq (.draw [[⟨some 204,.faddr 2 (.t 2),none⟩,⟨some 205,.load 1 false (.t 204),none⟩,⟨some 206,.faddr 2 (.t 2),none⟩,⟨some 207,.load 1 false (.t 206),none⟩,⟨some 208,.build [(.v (.int .i64 0)),(.v (.int .i64 0)),(.v (.int .i64 0)),(.v (.slice none 0 0))] [(0,1,(.c (.v (.int .i64 13)))),(2,1,(.t 207))],none⟩,⟨some 209,.faddr 3 (.t 2),none⟩,⟨some 210,.load 1 false (.t 209),none⟩,⟨some 211,.iaddr 4 (.t 210) (.c (.v (.int .i64 0))),none⟩,⟨some 212,.load 4 true (.t 211),none⟩,⟨some 213,.call self [(.t 212),(.c (.v (.bool false)))],none⟩],[⟨some 214,.call two [(.c (.v (.int .i64 23))),(.t 205),(.t 208),(.t 213)],none⟩],[⟨none,.store 4 (.t 4) (.t 214),none⟩]]) .ret)) (.seq (.ops [⟨some 216,.bin .eql false (.t 20) (.c (.v (.int .i64 22))),none⟩,⟨some 215,.mov (.t 216),none⟩]) (.cond (.t 215) (.seq (.seq (.ops [⟨some 217,.mov (.t 1),none⟩]) (.cond (.t 217) (.seq (.draw [[⟨some 218,.faddr 2 (.t 2),none⟩,⟨some 219,.load 1 false (.t 218),none⟩,⟨some 220,.faddr 2 (.t 2),none⟩,⟨some 221,.load 1 false (.t 220),none⟩,⟨some 222,.build [(.v (.int .i64 0)),(.v (.int .i64 0)),(.v (.int .i64 0)),(.v (.slice none 0 0))] [(0,1,(.c (.v (.int .i64 13)))),(2,1,(.t 221))],none⟩,⟨some 223,.faddr 3 (.t 2),none⟩,⟨some 224,.load 1 false (.t 223),none⟩,⟨some 225,.iaddr 4 (.t 224) (.c (.v (.int .i64 0))),none⟩,⟨some 226,.load 4 true (.t 225),none⟩,⟨some 227,.call self [(.t 226),(.c (.v (.bool true)))],none⟩],[⟨some 228,.call two [(.c (.v (.int .i64 23))),(.t 219),(.t 222),(.t 227)],none⟩],[⟨none,.store 4 (.t 4) (.t 228),none⟩]]) .ret) .skip)) (.seq (.draw [[⟨some 229,.faddr 2 (.t 2),none⟩,⟨some 230,.load 1 false (.t 229),none⟩,⟨some 231,.faddr 2 (.t 2),none⟩,⟨some 232,.load 1 false (.t 231),none⟩,⟨some 233,.build [(.v (.int .i64 0)),(.v (.int .i64 0)),(.v (.int .i64 0)),(.v (.slice none 0 0))] [(0,1,(.c (.v (.int .i64 14)))),(2,1,(.t 232))],none⟩,⟨some 234,.faddr 3 (.t 2),none⟩,⟨some 235,.load 1 false (.t 234),none⟩,⟨some 236,.iaddr 4 (.t 235) (.c (.v (.int .i64 0))),none⟩,⟨some 237,.load 4 true (.t 236),none⟩,⟨some 238,.call self [(.t 237),(.c (.v (.bool false)))],none⟩],[⟨some 239,.call two [(.c (.v (.int .i64 24))),(.t 230),(.t 233),(.t 238)],none⟩],[⟨none,.store 4 (.t 4) (.t 239),none⟩]]) .ret)) (.seq (.ops [⟨some 241,.bin .eql false (.t 20) (.c (.v (.int .i64 23))),none⟩,⟨some 240,.mov (.t 241),none⟩]) (.cond (.t 240) (.seq (.seq (.ops [⟨some 242,.mov (.t 1),none⟩]) (.cond (.t 242) (.seq (.draw [[⟨some 243,.faddr 2 (.t 2),none⟩,⟨some 244,.load 1 false (.t 243),none⟩,⟨some 245,.faddr 3 (.t 2),none⟩,⟨some 246,.load 1 false (.t 245),none⟩,⟨some 247,.iaddr 4 (.t 246) (.c (.v (.int .i64 0))),none⟩,⟨some 248,.load 4 true (.t 247),none⟩,⟨some 249,.call self [(.t 248),(.c (.v (.bool true)))],none⟩,⟨some 250,.faddr 3 (.t 2),none⟩,⟨some 251,.load 1 false (.t 250),none⟩,⟨some 252,.iaddr 4 (.t 251) (.c (.v (.int .i64 1))),none⟩,⟨some 253,.load 4 true (.t 252),none⟩,⟨some 254,.call self [(.t 253),(.c (.v (.bool true)))],none⟩],[⟨some 255,.call two [(.c (.v (.int .i64 24))),(.t 244),(.t 249),(.t 254)],none⟩],[⟨none,.store 4 (.t 4) (.t 255),none⟩]]) .ret) .skip)) (.seq (.draw [[⟨some 256,.faddr 2 (.t 2),none⟩,⟨some 257,.load 1 false (.t 256),none⟩,⟨some 258,.faddr 3 (.t 2),none⟩,⟨some 259,.load 1 false (.t 258),none⟩,⟨some 260,.iaddr 4 (.t 259) (.c (.v (.int .i64 0))),none⟩,⟨some 261,.load 4 true (.t 260),none⟩,⟨some 262,.call self [(.t 261),(.c (.v (.bool false)))],none⟩,⟨some 263,.faddr 3 (.t 2),none⟩,⟨some 264,.load 1 false (.t 263),none⟩,⟨some 265,.iaddr 4 (.t 264) (.c (.v (.int .i64 1))),none⟩,⟨some 266,.load 4 true (.t 265),none⟩,⟨some 267,.call self [(.t 266),(.c (.v (.bool false)))],none⟩],[⟨some 268,.call two [(.c (.v (.int .i64 23))),(.t 257),(.t 262),(.t 267)],none⟩],[⟨none,.store 4 (.t 4) (.t 268),none⟩]]) .ret)) .skip)))))))))))))))))))) (.seq (.seq (.ops [⟨some 269,.mov (.t 1),none⟩]) (.cond (.t 269) (.seq (.draw [[⟨some 270,.faddr 2 (.t 2),none⟩,⟨some 271,.load 1 false (.t 270),none⟩,⟨some 272,.faddr 3 (.t 2),none⟩,⟨some 273,.load 1 false (.t 272),none⟩,⟨some 274,.iaddr 4 (.t 273) (.c (.v (.int .i64 0))),none⟩,⟨some 275,.load 4 true (.t 274),none⟩,⟨some 276,.call self [(.t 275),(.c (.v (.bool true)))],none⟩,⟨some 277,.faddr 3 (.t 2),none⟩,⟨some 278,.load 1 false (.t 277),none⟩,⟨some 279,.iaddr 4 (.t 278) (.c (.v (.int .i64 1))),none⟩,⟨some 280,.load 4 true (.t 279),none⟩,⟨some 281,.call self [(.t 280),(.c (.v (.bool true)))],none⟩],[⟨some 282,.call two [(.c (.v (.int .i64 23))),(.t 271),(.t 276),(.t 281)],none⟩],[⟨none,.store 4 (.t 4) (.t 282),none⟩]]) .ret) .skip)) (.seq (.draw [[⟨some 283,.faddr 2 (.t 2),none⟩,⟨some 284,.load 1 false (.t 283),none⟩,⟨some 285,.faddr 3 (.t 2),none⟩,⟨some 286,.load 1 false (.t 285),none⟩,⟨some 287,.iaddr 4 (.t 286) (.c (.v (.int .i64 0))),none⟩,⟨some 288,.load 4 true (.t 287),none⟩,⟨some 289,.call self [(.t 288),(.c (.v (.bool false)))],none⟩,⟨some 290,.faddr 3 (.t 2),none⟩,⟨some 291,.load 1 false (.t 290),none⟩,⟨some 292,.iaddr 4 (.t 291) (.c (.v (.int .i64 1))),none⟩,⟨some 293,.load 4 true (.t 292),none⟩,⟨some 294,.call self [(.t 293),(.c (.v (.bool false)))],none⟩],[⟨some 295,.call two [(.c (.v (.int .i64 24))),(.t 284),(.t 289),(.t 294)],none⟩],[⟨none,.store 4 (.t 4) (.t 295),none⟩]]) .ret)))))))⟩
def irTwoA : FnIR := ⟨15,[.c 8 4 true],(.seq (.ops [⟨some 6,.box (.t 2),none⟩,⟨some 7,.box (.t 3),none⟩,⟨some 8,.alloc (.agg [(.v (.int .i64 0)),(.v (.int .i64 0)),(.v (.int .i64 0)),(.v (.slice none 0 0))]),none⟩]) (.seq (.ops [⟨some 9,.mov (.t 0),none⟩,⟨some 10,.mov (.t 1),none⟩,⟨some 11,.load 4 true (.t 6),none⟩,⟨some 12,.load 4 true (.t 7),none⟩,⟨some 13,.bslice 4 [(.v (.int .i64 0)),(.v (.int .i64 0)),(.v (.int .i64 0)),(.v (.slice none 0 0))] 2 [(0,4,(.t 11)),(4,4,(.t 12))],none⟩,⟨some 14,.build [(.v (.int .i64 0)),(.v (.int .i64 0)),(.v (.int .i64 0)),(.v (.slice none 0 0))] [(0,1,(.t 9)),(2,1,(.t 10)),(3,1,(.t 13))],none⟩,⟨none,.store 4 (.t 8) (.t 14),none⟩]) .ret))⟩
theorem twoA_gen {P : Program} {f : Nat} (ir : compF P f = some irTwoA) {op pl : Int} {t u : T} : PC P f [intL op, intL pl, t.toL, u.toL] (T.mk op 0 pl [t, u]).toL := by
 refine pc_of_call' (callAt_enter ir (by simp [irTwoA]) ?_)
 have hs := sub_tree (sub_node (op := op) (n := 0) (pl := pl) (xs := [t.toL.cells, u.toL.cells]) (ts := [t, u]) rfl fun i h => by
  match i with
  | 0 => exact sub_self t
  | 1 => exact sub_self u)
 cases t with
 | mk a b c l =>
  cases u with
  | mk a' b' c' l' =>
   simp only [toL_mk, L.cells, List.map_cons, List.map_nil] at hs
   simp [irTwoA, toL_mk, setCells, reso, mapO, chunk, List.range, List.range.loop]
   simpa [toL_mk] using hs
variable {P : Program} {lit self two : Nat}
set_option maxRecDepth 100000 in
set_option maxHeartbeats 4000000 in
theorem turnA_16_false (ir : compF P self = some (irTurnA lit self two)) (itwo : compF P two = some irTwoA) {n pl : Int} {x y : T} (hx : ∀ b, PC P self [x.toL, boolL b] (x.turnR b).toL) (hy : ∀ b, PC P self [y.toL, boolL b] (y.turnR b).toL)
  (hlit : PC P lit [(T.mk 16 n pl [x, y]).toL] (boolL false)) (hl : (T.mk 16 n pl [x, y]).lit = false) : PC P self [(T.mk 16 n pl [x, y]).toL, boolL false] ((T.mk 16 n pl [x, y]).turnR false).toL := by
 have e : (T.mk 16 n pl [x, y]).turnR false = .mk 16 0 pl [x.turnR false, y.turnR false] := by
  rw [T.turnR_mk, if_neg (by rw [hl]; decide)]
  simp [turnOp, both2]
 rw [e]
 refine pc_of_call (callAt_enter ir (by simp [irTurnA]) ?_)
 simp [irTurnA, toL_mk]
 refine callT_plain hlit rfl (by simp [toL_mk]) ?_
 simp
 refine bcallT_closed (hx false) (by simp [mapO, reso_toL]) ?_
 simp [toL_cells_length, toL_agg]
 refine bcallT_closed (hy false) (by simp [mapO, reso_toL]) ?_
 simp []
 refine callT_closed (twoA_gen itwo) (by simp [mapO, reso_toL]) ?_
 simp [setCells_toL, toL_cells_length, toL_agg]
 simp [toL_mk]
set_option maxRecDepth 100000 in
set_option maxHeartbeats 4000000 in
theorem turnA_16_true (ir : compF P self = some (irTurnA lit self two)) (itwo : compF P two = some irTwoA) {n pl : Int} {x y : T} (hx : ∀ b, PC P self [x.toL, boolL b] (x.turnR b).toL) (hy : ∀ b, PC P self [y.toL, boolL b] (y.turnR b).toL)
  (hlit : PC P lit [(T.mk 16 n pl [x, y]).toL] (boolL false)) (hl : (T.mk 16 n pl [x, y]).lit = false) : PC P self [(T.mk 16 n pl [x, y]).toL, boolL true] ((T.mk 16 n pl [x, y]).turnR true).toL := by
 have e : (T.mk 16 n pl [x, y]).turnR true = .mk 17 0 pl [x.turnR true, y.turnR true] := by
  rw [T.turnR_mk, if_neg (by rw [hl]; decide)]
  simp [turnOp, both2]
 rw [e]
 refine pc_of_call (callAt_enter ir (by simp [irTurnA]) ?_)
 simp [irTurnA, toL_mk]
 refine callT_plain hlit rfl (by simp [toL_mk]) ?_
 simp
 refine bcallT_closed (hx true) (by simp [mapO, reso_toL]) ?_
 simp [toL_cells_length, toL_agg]
 refine bcallT_closed (hy true) (by simp [mapO, reso_toL]) ?_
 simp []
 refine callT_closed (twoA_gen itwo) (by simp [mapO, reso_toL]) ?_
 simp [setCells_toL, toL_cells_length, toL_agg]
 simp [toL_mk]
set_option maxRecDepth 100000 in
set_option maxHeartbeats 4000000 in
theorem turnA_17_false (ir : compF P self = some (irTurnA lit self two)) (itwo : compF P two = some irTwoA) {n pl : Int} {x y : T} (hx : ∀ b, PC P self [x.toL, boolL b] (x.turnR b).toL) (hy : ∀ b, PC P self [y.toL, boolL b] (y.turnR b).toL)
  (hlit : PC P lit [(T.mk 17 n pl [x, y]).toL] (boolL false)) (hl : (T.mk 17 n pl [x, y]).lit = false) : PC P self [(T.mk 17 n pl [x, y]).toL, boolL false] ((T.mk 17 n pl [x, y]).turnR false).toL := by
 have e : (T.mk 17 n pl [x, y]).turnR false = .mk 17 0 pl [x.turnR false, y.turnR false] := by
  rw [T.turnR_mk, if_neg (by rw [hl]; decide)]
  simp [turnOp, both2]
 rw [e]
 refine pc_of_call (callAt_enter ir (by simp [irTurnA]) ?_)
 simp [irTurnA, toL_mk]
 refine callT_plain hlit rfl (by simp [toL_mk]) ?_
 simp
 refine bcallT_closed (hx false) (by simp [mapO, reso_toL]) ?_
 simp [toL_cells_length, toL_agg]
 refine bcallT_closed (hy false) (by simp [mapO, reso_toL]) ?_
 simp []
 refine callT_closed (twoA_gen itwo) (by simp [mapO, reso_toL]) ?_
 simp [setCells_toL, toL_cells_length, toL_agg]
 simp [toL_mk]
set_option maxRecDepth 100000 in
set_option maxHeartbeats 4000000 in
theorem turnA_17_true (ir : compF P self = some (irTurnA lit self two)) (itwo : compF P two = some irTwoA) {n pl : Int} {x y : T} (hx : ∀ b, PC P self [x.toL, boolL b] (x.turnR b).toL) (hy : ∀ b, PC P self [y.toL, boolL b] (y.turnR b).toL)
  (hlit : PC P lit [(T.mk 17 n pl [x, y]).toL] (boolL false)) (hl : (T.mk 17 n pl [x, y]).lit = false) : PC P self [(T.mk 17 n pl [x, y]).toL, boolL true] ((T.mk 17 n pl [x, y]).turnR true).toL := by
 have e : (T.mk 17 n pl [x, y]).turnR true = .mk 16 0 pl [x.turnR true, y.turnR true] := by
  rw [T.turnR_mk, if_neg (by rw [hl]; decide)]
  simp [turnOp, both2]
 rw [e]
 refine pc_of_call (callAt_enter ir (by simp [irTurnA]) ?_)
 simp [irTurnA, toL_mk]
 refine callT_plain hlit rfl (by simp [toL_mk]) ?_
 simp
 refine bcallT_closed (hx true) (by simp [mapO, reso_toL]) ?_
 simp [toL_cells_length, toL_agg]
 refine bcallT_closed (hy true) (by simp [mapO, reso_toL]) ?_
 simp []
 refine callT_closed (twoA_gen itwo) (by simp [mapO, reso_toL]) ?_
 simp [setCells_toL, toL_cells_length, toL_agg]
 simp [toL_mk]
set_option maxRecDepth 100000 in
set_option maxHeartbeats 4000000 in
theorem turnA_18_false (ir : compF P self = some (irTurnA lit self two)) (itwo : compF P two = some irTwoA) {n pl : Int} {x y : T} (hx : ∀ b, PC P self [x.toL, boolL b] (x.turnR b).toL) (hy : ∀ b, PC P self [y.toL, boolL b] (y.turnR b).toL)
  (hlit : PC P lit [(T.mk 18 n pl [x, y]).toL] (boolL false)) (hl : (T.mk 18 n pl [x, y]).lit = false) : PC P self [(T.mk 18 n pl [x, y]).toL, boolL false] ((T.mk 18 n pl [x, y]).turnR false).toL := by
 have e : (T.mk 18 n pl [x, y]).turnR false = .mk 17 0 pl [x.turnR true, y.turnR false] := by
  rw [T.turnR_mk, if_neg (by rw [hl]; decide)]
  simp [turnOp, both2]
 rw [e]
 refine pc_of_call (callAt_enter ir (by simp [irTurnA]) ?_)
 simp [irTurnA, toL_mk]
 refine callT_plain hlit rfl (by simp [toL_mk]) ?_
 simp
 refine bcallT_closed (hx true) (by simp [mapO, reso_toL]) ?_
 simp [toL_cells_length, toL_agg]
 refine bcallT_closed (hy false) (by simp [mapO, reso_toL]) ?_
 simp []
 refine callT_closed (twoA_gen itwo) (by simp [mapO, reso_toL]) ?_
 simp [setCells_toL, toL_cells_length, toL_agg]
 simp [toL_mk]
set_option maxRecDepth 100000 in
set_option maxHeartbeats 4000000 in
theorem turnA_18_true (ir : compF P self = some (irTurnA lit self two)) (itwo : compF P two = some irTwoA) {n pl : Int} {x y : T} (hx : ∀ b, PC P self [x.toL, boolL b] (x.turnR b).toL) (hy : ∀ b, PC P self [y.toL, boolL b] (y.turnR b).toL)
  (hlit : PC P lit [(T.mk 18 n pl [x, y]).toL] (boolL false)) (hl : (T.mk 18 n pl [x, y]).lit = false) : PC P self [(T.mk 18 n pl [x, y]).toL, boolL true] ((T.mk 18 n pl [x, y]).turnR true).toL := by
 have e : (T.mk 18 n pl [x, y]).turnR true = .mk 16 0 pl [x.turnR false, y.turnR true] := by
  rw [T.turnR_mk, if_neg (by rw [hl]; decide)]
  simp [turnOp, both2]
 rw [e]
 refine pc_of_call (callAt_enter ir (by simp [irTurnA]) ?_)
 simp [irTurnA, toL_mk]
 refine callT_plain hlit rfl (by simp [toL_mk]) ?_
 simp
 refine bcallT_closed (hx false) (by simp [mapO, reso_toL]) ?_
 simp [toL_cells_length, toL_agg]
 refine bcallT_closed (hy true) (by simp [mapO, reso_toL]) ?_
 simp []
 refine callT_closed (twoA_gen itwo) (by simp [mapO, reso_toL]) ?_
 simp [setCells_toL, toL_cells_length, toL_agg]
 simp [toL_mk]
set_option maxRecDepth 100000 in
set_option maxHeartbeats 4000000 in
theorem turnA_23_false (ir : compF P self = some (irTurnA lit self two)) (itwo : compF P two = some irTwoA) {n pl : Int} {x y : T} (hx : ∀ b, PC P self [x.toL, boolL b] (x.turnR b).toL) (hy : ∀ b, PC P self [y.toL, boolL b] (y.turnR b).toL)
  (hlit : PC P lit [(T.mk 23 n pl [x, y]).toL] (boolL false)) (hl : (T.mk 23 n pl [x, y]).lit = false) : PC P self [(T.mk 23 n pl [x, y]).toL, boolL false] ((T.mk 23 n pl [x, y]).turnR false).toL := by
 have e : (T.mk 23 n pl [x, y]).turnR false = .mk 23 0 pl [x.turnR false, y.turnR false] := by
  rw [T.turnR_mk, if_neg (by rw [hl]; decide)]
  simp [turnOp, both2]
 rw [e]
 refine pc_of_call (callAt_enter ir (by simp [irTurnA]) ?_)
 simp [irTurnA, toL_mk]
 refine callT_plain hlit rfl (by simp [toL_mk]) ?_
 simp
 refine bcallT_closed (hx false) (by simp [mapO, reso_toL]) ?_
 simp [toL_cells_length, toL_agg]
 refine bcallT_closed (hy false) (by simp [mapO, reso_toL]) ?_
 simp []
 refine callT_closed (twoA_gen itwo) (by simp [mapO, reso_toL]) ?_
 simp [setCells_toL, toL_cells_length, toL_agg]
 simp [toL_mk]
set_option maxRecDepth 100000 in
set_option maxHeartbeats 4000000 in
theorem turnA_23_true (ir : compF P self = some (irTurnA lit self two)) (itwo : compF P two = some irTwoA) {n pl : Int} {x y : T} (hx : ∀ b, PC P self [x.toL, boolL b] (x.turnR b).toL) (hy : ∀ b, PC P self [y.toL, boolL b] (y.turnR b).toL)
  (hlit : PC P lit [(T.mk 23 n pl [x, y]).toL] (boolL false)) (hl : (T.mk 23 n pl [x, y]).lit = false) : PC P self [(T.mk 23 n pl [x, y]).toL, boolL true] ((T.mk 23 n pl [x, y]).turnR true).toL := by
 have e : (T.mk 23 n pl [x, y]).turnR true = .mk 24 0 pl [x.turnR true, y.turnR true] := by
  rw [T.turnR_mk, if_neg (by rw [hl]; decide)]
  simp [turnOp, both2]
 rw [e]
 refine pc_of_call (callAt_enter ir (by simp [irTurnA]) ?_)
 simp [irTurnA, toL_mk]
 refine callT_plain hlit rfl (by simp [toL_mk]) ?_
 simp
 refine bcallT_closed (hx true) (by simp [mapO, reso_toL]) ?_
 simp [toL_cells_length, toL_agg]
 refine bcallT_closed (hy true) (by simp [mapO, reso_toL]) ?_
 simp []
 refine callT_closed (twoA_gen itwo) (by simp [mapO, reso_toL]) ?_
 simp [setCells_toL, toL_cells_length, toL_agg]
 simp [toL_mk]
set_option maxRecDepth 100000 in
set_option maxHeartbeats 4000000 in
theorem turnA_24_false (ir : compF P self = some (irTurnA lit self two)) (itwo : compF P two = some irTwoA) {n pl : Int} {x y : T} (hx : ∀ b, PC P self [x.toL, boolL b] (x.turnR b).toL) (hy : ∀ b, PC P self [y.toL, boolL b] (y.turnR b).toL)
  (hlit : PC P lit [(T.mk 24 n pl [x, y]).toL] (boolL false)) (hl : (T.mk 24 n pl [x, y]).lit = false) : PC P self [(T.mk 24 n pl [x, y]).toL, boolL false] ((T.mk 24 n pl [x, y]).turnR false).toL := by
 have e : (T.mk 24 n pl [x, y]).turnR false = .mk 24 0 pl [x.turnR false, y.turnR false] := by
  rw [T.turnR_mk, if_neg (by rw [hl]; decide)]
  simp [turnOp, both2]
 rw [e]
 refine pc_of_call (callAt_enter ir (by simp [irTurnA]) ?_)
 simp [irTurnA, toL_mk]
 refine callT_plain hlit rfl (by simp [toL_mk]) ?_
 simp
 refine bcallT_closed (hx false) (by simp [mapO, reso_toL]) ?_
 simp [toL_cells_length, toL_agg]
 refine bcallT_closed (hy false) (by simp [mapO, reso_toL]) ?_
 simp []
 refine callT_closed (twoA_gen itwo) (by simp [mapO, reso_toL]) ?_
 simp [setCells_toL, toL_cells_length, toL_agg]
 simp [toL_mk]
set_option maxRecDepth 100000 in
set_option maxHeartbeats 4000000 in
theorem turnA_24_true (ir : compF P self = some (irTurnA lit self two)) (itwo : compF P two = some irTwoA) {n pl : Int} {x y : T} (hx : ∀ b, PC P self [x.toL, boolL b] (x.turnR b).toL) (hy : ∀ b, PC P self [y.toL, boolL b] (y.turnR b).toL)
  (hlit : PC P lit [(T.mk 24 n pl [x, y]).toL] (boolL false)) (hl : (T.mk 24 n pl [x, y]).lit = false) : PC P self [(T.mk 24 n pl [x, y]).toL, boolL true] ((T.mk 24 n pl [x, y]).turnR true).toL := by
 have e : (T.mk 24 n pl [x, y]).turnR true = .mk 23 0 pl [x.turnR true, y.turnR true] := by
  rw [T.turnR_mk, if_neg (by rw [hl]; decide)]
  simp [turnOp, both2]
 rw [e]
 refine pc_of_call (callAt_enter ir (by simp [irTurnA]) ?_)
 simp [irTurnA, toL_mk]
 refine callT_plain hlit rfl (by simp [toL_mk]) ?_
 simp
 refine bcallT_closed (hx true) (by simp [mapO, reso_toL]) ?_
 simp [toL_cells_length, toL_agg]
 refine bcallT_closed (hy true) (by simp [mapO, reso_toL]) ?_
 simp []
 refine callT_closed (twoA_gen itwo) (by simp [mapO, reso_toL]) ?_
 simp [setCells_toL, toL_cells_length, toL_agg]
 simp [toL_mk]
set_option maxRecDepth 100000 in
set_option maxHeartbeats 4000000 in
theorem turnA_15_false (ir : compF P self = some (irTurnA lit self two)) (itwo : compF P two = some irTwoA) {n pl : Int} {x : T} (hx : ∀ b, PC P self [x.toL, boolL b] (x.turnR b).toL)
  (hlit : PC P lit [(T.mk 15 n pl [x]).toL] (boolL false)) (hl : (T.mk 15 n pl [x]).lit = false) : PC P self [(T.mk 15 n pl [x]).toL, boolL false] ((T.mk 15 n pl [x]).turnR false).toL := by
 have e : (T.mk 15 n pl [x]).turnR false = x.turnR true := by
  rw [T.turnR_mk, if_neg (by rw [hl]; decide)]
  simp [turnOp]
 rw [e]
 refine pc_of_call (callAt_enter ir (by simp [irTurnA]) ?_)
 simp [irTurnA, toL_mk]
 refine callT_plain hlit rfl (by simp [toL_mk]) ?_
 simp
 refine callT_closed (hx true) (by simp [mapO, reso_toL]) ?_
 simp [setCells_toL, toL_cells_length, toL_agg]
set_option maxRecDepth 100000 in
set_option maxHeartbeats 4000000 in
theorem turnA_20_false (ir : compF P self = some (irTurnA lit self two)) (itwo : compF P two = some irTwoA) {n pl : Int} {x : T} (hx : ∀ b, PC P self [x.toL, boolL b] (x.turnR b).toL)
  (hlit : PC P lit [(T.mk 20 n pl [x]).toL] (boolL false)) (hl : (T.mk 20 n pl [x]).lit = false) : PC P self [(T.mk 20 n pl [x]).toL, boolL false] ((T.mk 20 n pl [x]).turnR false).toL := by
 have e : (T.mk 20 n pl [x]).turnR false = .mk 20 0 pl [x.turnR false] := by
  rw [T.turnR_mk, if_neg (by rw [hl]; decide)]
  simp [turnOp]
 rw [e]
 refine pc_of_call' (callAt_enter ir (by simp [irTurnA]) ?_)
 simp [irTurnA, toL_mk]
 refine callT_plain hlit rfl (by simp [toL_mk]) ?_
 simp
 refine bcallT_closed (hx false) (by simp [mapO, reso_toL]) ?_
 have hs := sub_tree (sub_node (op := 20) (n := 0) (pl := pl) (xs := [(x.turnR false).toL.cells]) (ts := [x.turnR false]) rfl fun i h => by
  match i with
  | 0 => exact sub_self _)
 generalize x.turnR false = t at *
 cases t with
 | mk a b c l =>
  simp only [toL_mk, L.cells, List.map_cons, List.map_nil] at hs
  simp [toL_mk, setCells, reso, mapO, chunk, List.range, List.range.loop]
  simpa [toL_mk] using hs
set_option maxRecDepth 100000 in
set_option maxHeartbeats 4000000 in
theorem turnA_21_false (ir : compF P self = some (irTurnA lit self two)) (itwo : compF P two = some irTwoA) {n pl : Int} {x : T} (hx : ∀ b, PC P self [x.toL, boolL b] (x.turnR b).toL)
  (hlit : PC P lit [(T.mk 21 n pl [x]).toL] (boolL false)) (hl : (T.mk 21 n pl [x]).lit = false) : PC P self [(T.mk 21 n pl [x]).toL, boolL false] ((T.mk 21 n pl [x]).turnR false).toL := by
 have e : (T.mk 21 n pl [x]).turnR false = .mk 23 0 pl [.mk 13 0 pl [], x.turnR false] := by
  rw [T.turnR_mk, if_neg (by rw [hl]; decide)]
  simp [turnOp]
 rw [e]
 refine pc_of_call (callAt_enter ir (by simp [irTurnA]) ?_)
 simp [irTurnA, toL_mk]
 refine callT_plain hlit rfl (by simp [toL_mk]) ?_
 simp
 refine bcallT_closed (hx false) (by simp [mapO, reso_toL]) ?_
 simp []
 refine callT_closed ((twoA_gen (op := 23) (pl := pl) (t := .mk 13 0 pl []) (u := x.turnR false) itwo).sub (.cons (.refl _) (.cons (.refl _) (.cons (sub_tree sub_leaf) (.cons (.refl _) .nil)))) (.refl _)) (by simp [mapO, reso_toL]) ?_
 simp [setCells_toL, toL_cells_length, toL_agg]
 simp [toL_mk]
set_option maxRecDepth 100000 in
set_option maxHeartbeats 4000000 in
theorem turnA_22_false (ir : compF P self = some (irTurnA lit self two)) (itwo : compF P two = some irTwoA) {n pl : Int} {x : T} (hx : ∀ b, PC P self [x.toL, boolL b] (x.turnR b).toL)
  (hlit : PC P lit [(T.mk 22 n pl [x]).toL] (boolL false)) (hl : (T.mk 22 n pl [x]).lit = false) : PC P self [(T.mk 22 n pl [x]).toL, boolL false] ((T.mk 22 n pl [x]).turnR false).toL := by
 have e : (T.mk 22 n pl [x]).turnR false = .mk 24 0 pl [.mk 14 0 pl [], x.turnR false] := by
  rw [T.turnR_mk, if_neg (by rw [hl]; decide)]
  simp [turnOp]
 rw [e]
 refine pc_of_call (callAt_enter ir (by simp [irTurnA]) ?_)
 simp [irTurnA, toL_mk]
 refine callT_plain hlit rfl (by simp [toL_mk]) ?_
 simp
 refine bcallT_closed (hx false) (by simp [mapO, reso_toL]) ?_
 simp []
 refine callT_closed ((twoA_gen (op := 24) (pl := pl) (t := .mk 14 0 pl []) (u := x.turnR false) itwo).sub (.cons (.refl _) (.cons (.refl _) (.cons (sub_tree sub_leaf) (.cons (.refl _) .nil)))) (.refl _)) (by simp [mapO, reso_toL]) ?_
 simp [setCells_toL, toL_cells_length, toL_agg]
 simp [toL_mk]
set_option maxRecDepth 100000 in
set_option maxHeartbeats 4000000 in
theorem turnA_19_false (ir : compF P self = some (irTurnA lit self two)) (itwo : compF P two = some irTwoA) {n pl : Int} {x y : T} (hx : ∀ b, PC P self [x.toL, boolL b] (x.turnR b).toL) (hy : ∀ b, PC P self [y.toL, boolL b] (y.turnR b).toL)
  (hlit : PC P lit [(T.mk 19 n pl [x, y]).toL] (boolL false)) (hl : (T.mk 19 n pl [x, y]).lit = false) : PC P self [(T.mk 19 n pl [x, y]).toL, boolL false] ((T.mk 19 n pl [x, y]).turnR false).toL := by
 have e : (T.mk 19 n pl [x, y]).turnR false = .mk 17 0 pl [.mk 16 0 pl [x.turnR false, y.turnR false], .mk 16 0 pl [x.turnR true, y.turnR true]] := by
  rw [T.turnR_mk, if_neg (by rw [hl]; decide)]
  simp [turnOp]
 rw [e]
 refine pc_of_call (callAt_enter ir (by simp [irTurnA]) ?_)
 simp [irTurnA, toL_mk]
 refine callT_plain hlit rfl (by simp [toL_mk]) ?_
 simp
 refine bcallT_closed (hx false) (by simp [mapO, reso_toL]) ?_
 simp [toL_cells_length, toL_agg]
 refine bcallT_closed (hy false) (by simp [mapO, reso_toL]) ?_
 simp []
 refine bcallT_closed (twoA_gen itwo) (by simp [mapO, reso_toL]) ?_
 simp [toL_cells_length, toL_agg]
 refine bcallT_closed (hx true) (by simp [mapO, reso_toL]) ?_
 simp [toL_cells_length, toL_agg]
 refine bcallT_closed (hy true) (by simp [mapO, reso_toL]) ?_
 simp []
 refine bcallT_closed (twoA_gen itwo) (by simp [mapO, reso_toL]) ?_
 simp []
 refine callT_closed (twoA_gen itwo) (by simp [mapO, reso_toL]) ?_
 simp [setCells_toL, toL_cells_length, toL_agg]
 simp [toL_mk]
set_option maxRecDepth 100000 in
set_option maxHeartbeats 4000000 in
theorem turnA_15_true (ir : compF P self = some (irTurnA lit self two)) (itwo : compF P two = some irTwoA) {n pl : Int} {x : T} (hx : ∀ b, PC P self [x.toL, boolL b] (x.turnR b).toL)
  (hlit : PC P lit [(T.mk 15 n pl [x]).toL] (boolL false)) (hl : (T.mk 15 n pl [x]).lit = false) : PC P self [(T.mk 15 n pl [x]).toL, boolL true] ((T.mk 15 n pl [x]).turnR true).toL := by
 have e : (T.mk 15 n pl [x]).turnR true = x.turnR false := by
  rw [T.turnR_mk, if_neg (by rw [hl]; decide)]
  simp [turnOp]
 rw [e]
 refine pc_of_call (callAt_enter ir (by simp [irTurnA]) ?_)
 simp [irTurnA, toL_mk]
 refine callT_plain hlit rfl (by simp [toL_mk]) ?_
 simp
 refine callT_closed (hx false) (by simp [mapO, reso_toL]) ?_
 simp [setCells_toL, toL_cells_length, toL_agg]
set_option maxRecDepth 100000 in
set_option maxHeartbeats 4000000 in
theorem turnA_20_true (ir : compF P self = some (irTurnA lit self two)) (itwo : compF P two = some irTwoA) {n pl : Int} {x : T} (hx : ∀ b, PC P self [x.toL, boolL b] (x.turnR b).toL)
  (hlit : PC P lit [(T.mk 20 n pl [x]).toL] (boolL false)) (hl : (T.mk 20 n pl [x]).lit = false) : PC P self [(T.mk 20 n pl [x]).toL, boolL true] ((T.mk 20 n pl [x]).turnR true).toL := by
 have e : (T.mk 20 n pl [x]).turnR true = .mk 20 0 pl [x.turnR true] := by
  rw [T.turnR_mk, if_neg (by rw [hl]; decide)]
  simp [turnOp]
 rw [e]
 refine pc_of_call' (callAt_enter ir (by simp [irTurnA]) ?_)
 simp [irTurnA, toL_mk]
 refine callT_plain hlit rfl (by simp [toL_mk]) ?_
 simp
 refine bcallT_closed (hx true) (by simp [mapO, reso_toL]) ?_
 have hs := sub_tree (sub_node (op := 20) (n := 0) (pl := pl) (xs := [(x.turnR true).toL.cells]) (ts := [x.turnR true]) rfl fun i h => by
  match i with
  | 0 => exact sub_self _)
 generalize x.turnR true = t at *
 cases t with
 | mk a b c l =>
  simp only [toL_mk, L.cells, List.map_cons, List.map_nil] at hs
  simp [toL_mk, setCells, reso, mapO, chunk, List.range, List.range.loop]
  simpa [toL_mk] using hs
set_option maxRecDepth 100000 in
set_option maxHeartbeats 4000000 in
theorem turnA_21_true (ir : compF P self = some (irTurnA lit self two)) (itwo : compF P two = some irTwoA) {n pl : Int} {x : T} (hx : ∀ b, PC P self [x.toL, boolL b] (x.turnR b).toL)
  (hlit : PC P lit [(T.mk 21 n pl [x]).toL] (boolL false)) (hl : (T.mk 21 n pl [x]).lit = false) : PC P self [(T.mk 21 n pl [x]).toL, boolL true] ((T.mk 21 n pl [x]).turnR true).toL := by
 have e : (T.mk 21 n pl [x]).turnR true = .mk 24 0 pl [.mk 14 0 pl [], x.turnR true] := by
  rw [T.turnR_mk, if_neg (by rw [hl]; decide)]
  simp [turnOp]
 rw [e]
 refine pc_of_call (callAt_enter ir (by simp [irTurnA]) ?_)
 simp [irTurnA, toL_mk]
 refine callT_plain hlit rfl (by simp [toL_mk]) ?_
 simp
 refine bcallT_closed (hx true) (by simp [mapO, reso_toL]) ?_
 simp []
 refine callT_closed ((twoA_gen (op := 24) (pl := pl) (t := .mk 14 0 pl []) (u := x.turnR true) itwo).sub (.cons (.refl _) (.cons (.refl _) (.cons (sub_tree sub_leaf) (.cons (.refl _) .nil)))) (.refl _)) (by simp [mapO, reso_toL]) ?_
 simp [setCells_toL, toL_cells_length, toL_agg]
 simp [toL_mk]
set_option maxRecDepth 100000 in
set_option maxHeartbeats 4000000 in
theorem turnA_22_true (ir : compF P self = some (irTurnA lit self two)) (itwo : compF P two = some irTwoA) {n pl : Int} {x : T} (hx : ∀ b, PC P self [x.toL, boolL b] (x.turnR b).toL)
  (hlit : PC P lit [(T.mk 22 n pl [x]).toL] (boolL false)) (hl : (T.mk 22 n pl [x]).lit = false) : PC P self [(T.mk 22 n pl [x]).toL, boolL true] ((T.mk 22 n pl [x]).turnR true).toL := by
 have e : (T.mk 22 n pl [x]).turnR true = .mk 23 0 pl [.mk 13 0 pl [], x.turnR true] := by
  rw [T.turnR_mk, if_neg (by rw [hl]; decide)]
  simp [turnOp]
 rw [e]
 refine pc_of_call (callAt_enter ir (by simp [irTurnA]) ?_)
 simp [irTurnA, toL_mk]
 refine callT_plain hlit rfl (by simp [toL_mk]) ?_
 simp
 refine bcallT_closed (hx true) (by simp [mapO, reso_toL]) ?_
 simp []
 refine callT_closed ((twoA_gen (op := 23) (pl := pl) (t := .mk 13 0 pl []) (u := x.turnR true) itwo).sub (.cons (.refl _) (.cons (.refl _) (.cons (sub_tree sub_leaf) (.cons (.refl _) .nil)))) (.refl _)) (by simp [mapO, reso_toL]) ?_
 simp [setCells_toL, toL_cells_length, toL_agg]
 simp [toL_mk]
set_option maxRecDepth 100000 in
set_option maxHeartbeats 4000000 in
theorem turnA_19_true (ir : compF P self = some (irTurnA lit self two)) (itwo : compF P two = some irTwoA) {n pl : Int} {x y : T} (hx : ∀ b, PC P self [x.toL, boolL b] (x.turnR b).toL) (hy : ∀ b, PC P self [y.toL, boolL b] (y.turnR b).toL)
  (hlit : PC P lit [(T.mk 19 n pl [x, y]).toL] (boolL false)) (hl : (T.mk 19 n pl [x, y]).lit = false) : PC P self [(T.mk 19 n pl [x, y]).toL, boolL true] ((T.mk 19 n pl [x, y]).turnR true).toL := by
 have e : (T.mk 19 n pl [x, y]).turnR true = .mk 17 0 pl [.mk 16 0 pl [x.turnR false, y.turnR true], .mk 16 0 pl [x.turnR true, y.turnR false]] := by
  rw [T.turnR_mk, if_neg (by rw [hl]; decide)]
  simp [turnOp]
 rw [e]
 refine pc_of_call (callAt_enter ir (by simp [irTurnA]) ?_)
 simp [irTurnA, toL_mk]
 refine callT_plain hlit rfl (by simp [toL_mk]) ?_
 simp
 refine bcallT_closed (hx false) (by simp [mapO, reso_toL]) ?_
 simp [toL_cells_length, toL_agg]
 refine bcallT_closed (hy true) (by simp [mapO, reso_toL]) ?_
 simp []
 refine bcallT_closed (twoA_gen itwo) (by simp [mapO, reso_toL]) ?_
 simp [toL_cells_length, toL_agg]
 refine bcallT_closed (hx true) (by simp [mapO, reso_toL]) ?_
 simp [toL_cells_length, toL_agg]
 refine bcallT_closed (hy false) (by simp [mapO, reso_toL]) ?_
 simp []
 refine bcallT_closed (twoA_gen itwo) (by simp [mapO, reso_toL]) ?_
 simp []
 refine callT_closed (twoA_gen itwo) (by simp [mapO, reso_toL]) ?_
 simp [setCells_toL, toL_cells_length, toL_agg]
 simp [toL_mk]
end Lg


/- The answer's formulas that are right. -/
namespace Lg
open Go
def irSizeA (lit self : Nat) : FnIR := ⟨78,[.t 4],(.seq (.ops [⟨some 2,.box (.t 0),none⟩,⟨some 4,.mov (.c (.v (.int .i64 0))),none⟩]) (.seq (.ops [⟨some 8,.load 4 true (.t 2),none⟩,⟨some 9,.call lit [(.t 8)],none⟩,⟨some 5,.mov (.t 9),none⟩]) (.seq (.seq (.ops [⟨some 10,.mov (.t 5),none⟩,⟨some 11,.mov (.t 10),none⟩,⟨some 12,.mov (.t 1),some (11,false)⟩,⟨some 13,.bin .lss false (.t 12) (.c (.v (.int .i64 1))),some (11,false)⟩,⟨some 14,.pick (.t 11) (.c (.v (.bool true))) (.t 13),none⟩]) (.cond (.t 14) (.seq (.ops [⟨some 4,.mov (.c (.v (.int .i64 1))),none⟩]) .ret) .skip)) (.seq (.seq (.ops [⟨some 15,.faddr 0 (.t 2),none⟩,⟨some 16,.load 1 false (.t 15),none⟩,⟨some 17,.bin .eql false (.t 16) (.c (.v (.int .i64 15))),none⟩]) (.cond (.t 17) (.seq (.ops [⟨some 18,.faddr 3 (.t 2),none⟩,⟨some 19,.load 1 false (.t 18),none⟩,⟨some 20,.iaddr 4 (.t 19) (.c (.v (.int .i64 0))),none⟩,⟨some 21,.load 4 true (.t 20),none⟩,⟨some 22,.mov (.t 1),none⟩,⟨some 23,.call self [(.t 21),(.t 22)],none⟩,⟨some 4,.mov (.t 23),none⟩]) .ret) .skip)) (.seq (.seq (.ops [⟨some 24,.faddr 0 (.t 2),none⟩,⟨some 25,.load 1 false (.t 24),none⟩,⟨some 26,.bin .eql false (.t 25) (.c (.v (.int .i64 21))),none⟩,⟨some 27,.mov (.t 26),none⟩,⟨some 28,.faddr 0 (.t 2),some (27,false)⟩,⟨some 29,.load 1 false (.t 28),some (27,false)⟩,⟨some 30,.bin .eql false (.t 29) (.c (.v (.int .i64 22))),some (27,false)⟩,⟨some 31,.pick (.t 27) (.c (.v (.bool true))) (.t 30),none⟩]) (.cond (.t 31) (.seq (.ops [⟨some 32,.faddr 3 (.t 2),none⟩,⟨some 33,.load 1 false (.t 32),none⟩,⟨some 34,.iaddr 4 (.t 33) (.c (.v (.int .i64 0))),none⟩,⟨some 35,.load 4 true (.t 34),none⟩,⟨some 36,.mov (.t 1),none⟩,⟨some 37,.bin .sub false (.t 36) (.c (.v (.int .i64 1))),none⟩,⟨some 38,.call self [(.t 35),(.t 37)],none⟩,⟨some 39,.bin .add false (.c (.v (.int .i64 2))) (.t 38),none⟩,⟨some 4,.mov (.t 39),none⟩]) .ret) .skip)) (.seq (.seq (.ops [⟨some 40,.faddr 0 (.t 2),none⟩,⟨some 41,.load 1 false (.t 40),none⟩,⟨some 42,.bin .eql false (.t 41) (.c (.v (.int .i64 20))),none⟩]) (.cond (.t 42) (.seq (.ops [⟨some 43,.faddr 3 (.t 2),none⟩,⟨some 44,.load 1 false (.t 43),none⟩,⟨some 45,.iaddr 4 (.t 44) (.c (.v (.int .i64 0))),none⟩,⟨some 46,.load 4 true (.t 45),none⟩,⟨some 47,.mov (.t 1),none⟩,⟨some 48,.bin .sub false (.t 47) (.c (.v (.int .i64 1))),none⟩,⟨some 49,.call self [(.t 46),(.t 48)],none⟩,⟨some 50,.bin .add false (.c (.v (.int .i64 1))) (.t 49),none⟩,⟨some 4,.mov (.t 50),none⟩]) .ret) .skip)) (.seq (.ops [⟨some 51,.faddr 3 (.t 2),none⟩,⟨some 52,.load 1 false (.t 51),none⟩,⟨some 53,.iaddr 4 (.t 52) (.c (.v (.int .i64 0))),none⟩,⟨some 54,.load 4 true (.t 53),none⟩,⟨some 55,.mov (.t 1),none⟩,⟨some 56,.bin .sub false (.t 55) (.c (.v (.int .i64 1))),none⟩,⟨some 57,.call self [(.t 54),(.t 56)],none⟩,⟨some 6,.mov (.t 57),none⟩]) (.seq (.ops [⟨some 58,.faddr 3 (.t 2),none⟩,⟨some 59,.load 1 false (.t 58),none⟩,⟨some 60,.iaddr 4 (.t 59) (.c (.v (.int .i64 1))),none⟩,⟨some 61,.load 4 true (.t 60),none⟩,⟨some 62,.mov (.t 1),none⟩,⟨some 63,.bin .sub false (.t 62) (.c (.v (.int .i64 1))),none⟩,⟨some 64,.call self [(.t 61),(.t 63)],none⟩,⟨some 7,.mov (.t 64),none⟩]) (.seq (.seq (.ops [⟨some 65,.faddr 0 (.t 2),none⟩,⟨some 66,.load 1 false (.t 65),none⟩,⟨some 67,.bin .eql false (.t 66) (.c (.v (.int .i64 19))),none⟩]) (.cond (.t 67) (.seq (.ops [⟨some 68,.mov (.t 6),none⟩,⟨some 69,.bin .mul false (.c (.v (.int .i64 2))) (.t 68),none⟩,⟨some 70,.bin .add false (.c (.v (.int .i64 3))) (.t 69),none⟩,⟨some 71,.mov (.t 7),none⟩,⟨some 72,.bin .mul false (.c (.v (.int .i64 2))) (.t 71),none⟩,⟨some 73,.bin .add false (.t 70) (.t 72),none⟩,⟨some 4,.mov (.t 73),none⟩]) .ret) .skip)) (.seq (.ops [⟨some 74,.mov (.t 6),none⟩,⟨some 75,.bin .add false (.c (.v (.int .i64 1))) (.t 74),none⟩,⟨some 76,.mov (.t 7),none⟩,⟨some 77,.bin .add false (.t 75) (.t 76),none⟩,⟨some 4,.mov (.t 77),none⟩]) .ret))))))))))⟩
def irMadeA (size turn : Nat) : FnIR := ⟨13,[.c 4 4 true,.t 5],(.seq (.ops [⟨some 2,.box (.t 0),none⟩,⟨some 4,.alloc (.agg [(.v (.int .i64 0)),(.v (.int .i64 0)),(.v (.int .i64 0)),(.v (.slice none 0 0))]),none⟩,⟨some 5,.mov (.c (.v (.int .i64 0))),none⟩]) (.seq (.seq (.ops [⟨some 6,.load 4 true (.t 2),none⟩,⟨some 7,.call size [(.t 6),(.c (.v (.int .i64 30)))],none⟩,⟨some 8,.bin .gtr false (.t 7) (.c (.v (.int .i64 24))),none⟩]) (.cond (.t 8) (.seq (.ops [⟨some 9,.build [(.v (.int .i64 0)),(.v (.int .i64 0)),(.v (.int .i64 0)),(.v (.slice none 0 0))] [],none⟩,⟨none,.store 4 (.t 4) (.t 9),none⟩,⟨some 5,.mov (.c (.v (.int .i64 9))),none⟩]) .ret) .skip)) (.seq (.ops [⟨some 10,.load 4 true (.t 2),none⟩,⟨some 11,.mov (.t 1),none⟩,⟨some 12,.call turn [(.t 10),(.t 11)],none⟩,⟨none,.store 4 (.t 4) (.t 12),none⟩,⟨some 5,.mov (.c (.v (.int .i64 0))),none⟩]) .ret)))⟩
theorem turnA_lit {P : Program} {lit self two : Nat} (ir : compF P self = some (irTurnA lit self two)) {t : T} (hlit : PC P lit [t.toL] (boolL true)) (hl : t.lit = true) (b : Bool) : PC P self [t.toL, boolL b] (t.turnR b).toL := by
 cases t with
 | mk op n pl l =>
  have hs := sub_tree (sub_node (op := 15) (n := 0) (pl := pl) (xs := [(T.mk op n pl l).toL.cells]) (ts := [T.mk op n pl l]) rfl fun i h => by
   match i with
   | 0 => exact sub_self (T.mk op n pl l))
  rw [T.turnR_mk, if_pos hl]
  simp only [toL_mk, L.cells, List.map_cons, List.map_nil] at hs
  refine pc_of_call' (callAt_enter ir (by simp [irTurnA]) ?_)
  simp [irTurnA, toL_mk]
  refine callT_plain hlit rfl (by simp [toL_mk]) ?_
  cases b
  ·simp [toL_mk, setCells, reso, mapO]
   exact .refl _
  ·simp [toL_mk, setCells, reso, mapO, chunk, List.range, List.range.loop]
   simpa [toL_mk] using hs
theorem turnA_gen {P : Program} {lit self two : Nat} (ir : compF P self = some (irTurnA lit self two)) (itwo : compF P two = some irTwoA) (ilit : ∀ t : T, t.Ok → PC P lit [t.toL] (boolL t.lit)) {vars : Int} : ∀ t : T, Fm vars t → ∀ b, PC P self [t.toL, boolL b] (t.turnR b).toL := by
 intro t
 refine T.ind (M := fun t => Fm vars t → ∀ b, PC P self [t.toL, boolL b] (t.turnR b).toL) ?_ t
 intro op n pl l ih h b
 have hlit := ilit _ h.ok
 cases hl : (T.mk op n pl l).lit
 ·rw [hl] at hlit
  obtain ⟨-, -, hk, hs⟩ := h.shape hl
  rcases hs with ⟨x, rfl, ho⟩ | ⟨x, y, rfl, ho⟩
  ·have hx := ih x (by simp) (hk x (by simp))
   rcases ho with rfl | rfl | rfl | rfl <;> cases b
   ·exact turnA_15_false ir itwo hx hlit hl
   ·exact turnA_15_true ir itwo hx hlit hl
   ·exact turnA_20_false ir itwo hx hlit hl
   ·exact turnA_20_true ir itwo hx hlit hl
   ·exact turnA_21_false ir itwo hx hlit hl
   ·exact turnA_21_true ir itwo hx hlit hl
   ·exact turnA_22_false ir itwo hx hlit hl
   ·exact turnA_22_true ir itwo hx hlit hl
  ·have hx := ih x (by simp) (hk x (by simp))
   have hy := ih y (by simp) (hk y (by simp))
   rcases ho with rfl | rfl | rfl | rfl | rfl | rfl <;> cases b
   ·exact turnA_16_false ir itwo hx hy hlit hl
   ·exact turnA_16_true ir itwo hx hy hlit hl
   ·exact turnA_17_false ir itwo hx hy hlit hl
   ·exact turnA_17_true ir itwo hx hy hlit hl
   ·exact turnA_18_false ir itwo hx hy hlit hl
   ·exact turnA_18_true ir itwo hx hy hlit hl
   ·exact turnA_19_false ir itwo hx hy hlit hl
   ·exact turnA_19_true ir itwo hx hy hlit hl
   ·exact turnA_23_false ir itwo hx hy hlit hl
   ·exact turnA_23_true ir itwo hx hy hlit hl
   ·exact turnA_24_false ir itwo hx hy hlit hl
   ·exact turnA_24_true ir itwo hx hy hlit hl
 ·rw [hl] at hlit
  exact turnA_lit ir hlit hl b
def sizeAStep (op : Int) (r0 r1 : Int → Int) (m : Int) : Int :=
 if op = 15 then r0 m else if op = 21 ∨ op = 22 then w64 (2 + r0 (w64 (m - 1))) else if op = 20 then w64 (1 + r0 (w64 (m - 1)))
 else if op = 19 then w64 (w64 (3 + w64 (2 * r0 (w64 (m - 1)))) + w64 (2 * r1 (w64 (m - 1)))) else w64 (w64 (1 + r0 (w64 (m - 1))) + r1 (w64 (m - 1)))
def T.sizeA : T → Int → Int := T.fold fun op n pl l rs m => if (T.mk op n pl l).lit = true ∨ m < 1 then 1 else sizeAStep op (rs.getD 0 fun _ => 1) (rs.getD 1 fun _ => 1) m
theorem T.sizeA_mk {op n pl l m} : (T.mk op n pl l).sizeA m = if (T.mk op n pl l).lit = true ∨ m < 1 then 1 else sizeAStep op ((l.map T.sizeA).getD 0 fun _ => 1) ((l.map T.sizeA).getD 1 fun _ => 1) m := by
 rw [T.sizeA, T.fold_mk]
theorem sizeA_gen {P : Program} {lit self : Nat} (ir : compF P self = some (irSizeA lit self)) (ilit : ∀ t : T, t.Ok → PC P lit [t.toL] (boolL t.lit)) {vars : Int} : ∀ t : T, Fm vars t → ∀ m, PC P self [t.toL, intL m] (intL (t.sizeA m)) := by
 intro t
 refine T.ind (M := fun t => Fm vars t → ∀ m, PC P self [t.toL, intL m] (intL (t.sizeA m))) ?_ t
 intro op n pl l ih h m
 have hlit := ilit _ h.ok
 rw [T.sizeA_mk]
 cases hl : (T.mk op n pl l).lit
 ·rw [hl] at hlit
  obtain ⟨-, -, hk, hs⟩ := h.shape hl
  by_cases hm : m < 1
  ·rw [if_pos (.inr hm)]
   refine pc_of_call (callAt_enter ir (by simp [irSizeA]) ?_)
   simp [irSizeA, toL_mk]
   refine callT_plain hlit rfl (by simp [toL_mk]) ?_
   simp [hm]
  ·rw [if_neg (by simp [hm])]
   have hm' : ¬ m ≤ 0 := by omega
   have hm2 : 1 ≤ m := by omega
   rcases hs with ⟨x, rfl, ho⟩ | ⟨x, y, rfl, ho⟩
   ·have hx := ih x (by simp) (hk x (by simp))
    rcases ho with rfl | rfl | rfl | rfl <;>
    ·refine pc_of_call (callAt_enter ir (by simp [irSizeA]) ?_)
     simp [irSizeA, toL_mk]
     refine callT_plain hlit rfl (by simp [toL_mk]) ?_
     simp [hm]
     refine callT_plain (hx _) rfl (by simp [mapO, reso_toL]; rfl) ?_
     simp [sizeAStep]
   ·have hx := ih x (by simp) (hk x (by simp))
    have hy := ih y (by simp) (hk y (by simp))
    rcases ho with rfl | rfl | rfl | rfl | rfl | rfl <;>
    ·refine pc_of_call (callAt_enter ir (by simp [irSizeA]) ?_)
     simp [irSizeA, toL_mk]
     refine callT_plain hlit rfl (by simp [toL_mk]) ?_
     simp [hm]
     refine callT_plain (hx _) rfl (by simp [mapO, reso_toL]; rfl) ?_
     simp
     refine callT_plain (hy _) rfl (by simp [mapO, reso_toL]; rfl) ?_
     simp [sizeAStep]
 ·rw [hl] at hlit
  rw [if_pos (.inl rfl)]
  refine pc_of_call (callAt_enter ir (by simp [irSizeA]) ?_)
  simp [irSizeA, toL_mk]
  refine callT_plain hlit rfl (by simp [toL_mk]) ?_
  simp
def bnd : Nat → Int
 | 0 => 1
 | j + 1 => 4 * bnd j + 3
theorem bnd_pos : ∀ j, 1 ≤ bnd j
 | 0 => by simp [bnd]
 | j + 1 => by have := bnd_pos j; simp only [bnd]; omega
theorem bnd_mono : ∀ {j d}, bnd j ≤ bnd (j + d)
 | _, 0 => Int.le_refl _
 | j, d + 1 => by
  have := bnd_mono (j := j) (d := d)
  have p := bnd_pos (j + d)
  show bnd j ≤ bnd (j + d + 1)
  simp only [bnd]; omega
theorem bnd_le {j : Nat} (h : j ≤ 30) : bnd j ≤ 2305843009213693951 := by
 have := bnd_mono (j := j) (d := 30 - j)
 rw [show j + (30 - j) = 30 by omega] at this
 exact Int.le_trans this (by decide)
theorem sizeA_law {vars : Int} : ∀ t : T, Fm vars t → ∀ j : Nat, j ≤ 30 → 1 ≤ t.sizeA j ∧ t.sizeA j ≤ bnd j ∧ (t.sizeA j = t.fsize ∨ ((j : Int) + 1 ≤ t.sizeA j ∧ t.sizeA j ≤ t.fsize)) := by
 intro t
 refine T.ind (M := fun t => Fm vars t → ∀ j : Nat, j ≤ 30 → 1 ≤ t.sizeA j ∧ t.sizeA j ≤ bnd j ∧ (t.sizeA j = t.fsize ∨ ((j : Int) + 1 ≤ t.sizeA j ∧ t.sizeA j ≤ t.fsize))) ?_ t
 intro op n pl l ih h j hj
 have hpos := T.fsize_pos (T.mk op n pl l)
 have hb := bnd_pos j
 rw [T.sizeA_mk]
 cases hl : (T.mk op n pl l).lit
 ·cases j with
  | zero =>
   rw [if_pos (.inr (by simp))]
   refine ⟨by omega, by omega, .inr ⟨by simp, hpos⟩⟩
  | succ j =>
   have h1 : ¬ ((j + 1 : Nat) : Int) < 1 := by omega
   have hw2 : w64 (j : Int) = (j : Int) := IntWalk.i64_in _ ⟨by omega, by omega⟩
   have hbj := bnd_le (j := j) (by omega)
   have hbj1 := bnd_le (j := j + 1) hj
   have hbp := bnd_pos j
   have hbe : bnd (j + 1) = 4 * bnd j + 3 := rfl
   rw [if_neg (fun hc => by rcases hc with hc | hc; exact absurd hc (by decide); exact h1 hc)]
   obtain ⟨-, -, hk, hs⟩ := h.shape hl
   rw [T.fsize_mk, if_neg (by rw [hl]; decide)]
   rcases hs with ⟨x, rfl, ho⟩ | ⟨x, y, rfl, ho⟩
   ·obtain ⟨a1, a2, a3⟩ := ih x (by simp) (hk x (by simp)) j (by omega)
    obtain ⟨b1, b2, b3⟩ := ih x (by simp) (hk x (by simp)) (j + 1) (by omega)
    have px := T.fsize_pos x
    rcases ho with rfl | rfl | rfl | rfl
    ·simp only [sizeAStep, sizeStep, List.map_cons, List.map_nil, List.getD_cons_zero, if_true]
     exact ⟨b1, b2, b3⟩
    ·have w1 : w64 (1 + x.sizeA j) = 1 + x.sizeA j := IntWalk.i64_in _ ⟨by omega, by omega⟩
     simp [sizeAStep, sizeStep, hw2, w1]
     omega
    ·have w1 : w64 (2 + x.sizeA j) = 2 + x.sizeA j := IntWalk.i64_in _ ⟨by omega, by omega⟩
     simp [sizeAStep, sizeStep, hw2, w1]
     omega
    ·have w1 : w64 (2 + x.sizeA j) = 2 + x.sizeA j := IntWalk.i64_in _ ⟨by omega, by omega⟩
     simp [sizeAStep, sizeStep, hw2, w1]
     omega
   ·obtain ⟨a1, a2, a3⟩ := ih x (by simp) (hk x (by simp)) j (by omega)
    obtain ⟨b1, b2, b3⟩ := ih y (by simp) (hk y (by simp)) j (by omega)
    have px := T.fsize_pos x
    have py := T.fsize_pos y
    have w1 : w64 (1 + x.sizeA j) = 1 + x.sizeA j := IntWalk.i64_in _ ⟨by omega, by omega⟩
    have w2 : w64 (1 + x.sizeA j + y.sizeA j) = 1 + x.sizeA j + y.sizeA j := IntWalk.i64_in _ ⟨by omega, by omega⟩
    have w3 : w64 (2 * x.sizeA j) = 2 * x.sizeA j := IntWalk.i64_in _ ⟨by omega, by omega⟩
    have w4 : w64 (2 * y.sizeA j) = 2 * y.sizeA j := IntWalk.i64_in _ ⟨by omega, by omega⟩
    have w5 : w64 (3 + 2 * x.sizeA j) = 3 + 2 * x.sizeA j := IntWalk.i64_in _ ⟨by omega, by omega⟩
    have w6 : w64 (3 + 2 * x.sizeA j + 2 * y.sizeA j) = 3 + 2 * x.sizeA j + 2 * y.sizeA j := IntWalk.i64_in _ ⟨by omega, by omega⟩
    rcases ho with rfl | rfl | rfl | rfl | rfl | rfl <;>
    ·simp [sizeAStep, sizeStep, hw2, w1, w2, w3, w4, w5, w6]
     omega
 ·rw [if_pos (.inl rfl), T.fsize_mk, if_pos hl]
  exact ⟨by omega, hb, .inl rfl⟩
theorem sizeA_24 {vars : Int} {t : T} (h : Fm vars t) : t.sizeA 30 ≤ 24 ↔ t.fsize ≤ 24 := by
 have := sizeA_law t h 30 (by omega)
 have e : ((30 : Nat) : Int) = 30 := rfl
 rw [e] at this
 omega
theorem madeA_gen {P : Program} {made size turn two lit : Nat} (imade : compF P made = some (irMadeA size turn)) (isz : compF P size = some (irSizeA lit size)) (itu : compF P turn = some (irTurnA lit turn two)) (itwo : compF P two = some irTwoA)
  (ilit : ∀ t : T, t.Ok → PC P lit [t.toL] (boolL t.lit)) {vars : Int} {t : T} (h : Fm vars t) (b : Bool) : PC P made [t.toL, boolL b] (.tup [(if t.fsize ≤ 24 then (t.turnR b, (0 : Int)) else (T.none0, 9)).1.toL, intL (if t.fsize ≤ 24 then (t.turnR b, (0 : Int)) else (T.none0, 9)).2]) := by
 refine pc_of_call' (callAt_enter imade (by simp [irMadeA]) ?_)
 have hiff := sizeA_24 h
 simp [irMadeA, topOK_toL, toL_cells_length, toL_agg]
 refine callT_plain (sizeA_gen isz ilit t h 30) rfl (by simp [mapO, reso_toL]) ?_
 by_cases hs : t.fsize ≤ 24
 ·have h1 := hiff.2 hs
  have h2 : ¬ 24 < t.sizeA 30 := by omega
  simp [h2, hs, toL_cells_length, toL_agg]
  refine callT_closed (turnA_gen itu itwo ilit t h b) (by simp [mapO, reso_toL]) ?_
  simp [setCells_toL, toL_cells_length, toL_agg, reso, mapO]
  exact .refl _
 ·have h2 : 24 < t.sizeA 30 := by
   refine Int.not_le.1 fun hc => hs (hiff.1 hc)
  have h1 : ¬ t.sizeA 30 ≤ 24 := by omega
  simp [h2, hs]
  exact Sub.tupL (.cons (sub_tree (t := T.none0) sub_leaf) (.cons (.refl _) .nil))
end Lg


/- The answer's Of and Not, and whether a formula is right. -/
namespace Lg
open Go
theorem ofA_gen {P : Program} {f made size turn two lit : Nat} {b : Bool} (iof : compF P f = some (irOfN made b)) (imade : compF P made = some (irMadeA size turn)) (isz : compF P size = some (irSizeA lit size)) (itu : compF P turn = some (irTurnA lit turn two)) (itwo : compF P two = some irTwoA)
  (ilit : ∀ t : T, t.Ok → PC P lit [t.toL] (boolL t.lit)) {vars : Int} {t : T} (h : Fm vars t) (hd : t.dp ≤ 1000) : PC P f [t.toL] (.tup [(t.made b).1.toL, intL (t.made b).2]) := by
 have := madeA_gen imade isz itu itwo ilit h b
 rw [← made_eq h hd] at this
 refine pc_of_call (callAt_enter iof (by simp [irOfN]) ?_)
 simp [irOfN, topOK_toL]
 refine callT_closed this (by simp [mapO, reso_toL]) ?_
 simp [setCells_toL, reso, mapO]
end Lg

