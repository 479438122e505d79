/- Formulas turned: the program's way, with a counter behind a pointer. -/
import Derived.Test.YtaegmmeppkgnkaaLibOwn
import Derived.Test.YtaegmmeppkgnkaaLibTreeC
import Derived.Test.YtaegmmeppkgnkaaLibSemA
namespace Lg
open Go

def irTurnN (lit part both truth and : Nat) : FnIR := ⟨136, [.c 6 4 true],
  (.seq (.ops [⟨some 3, .box (.t 0), none⟩,
    ⟨some 4, .box (.t 1), none⟩,
    ⟨some 5, .box (.t 2), none⟩,
    ⟨some 6, .alloc (.agg [(.v (.int .i64 0)), (.v (.int .i64 0)), (.v (.int .i64 0)), (.v (.slice none 0 0))]), none⟩])
  (.seq (.ops [⟨some 12, .load 1 false (.t 5), none⟩,
    ⟨some 13, .nilchk (.t 12), none⟩,
    ⟨some 14, .load 1 false (.t 13), none⟩,
    ⟨some 15, .bin .sub false (.t 14) (.c (.v (.int .i64 1))), none⟩,
    ⟨some 16, .nilchk (.t 12), none⟩,
    ⟨none, .store 1 (.t 16) (.t 15), none⟩])
  (.seq (.seq (.ops [⟨some 17, .load 1 false (.t 5), none⟩,
    ⟨some 18, .nilchk (.t 17), none⟩,
    ⟨some 19, .load 1 false (.t 18), none⟩,
    ⟨some 20, .bin .lss false (.t 19) (.c (.v (.int .i64 0))), none⟩])
  (.cond (.t 20)
    (.seq (.ops [⟨some 21, .build [(.v (.int .i64 0)), (.v (.int .i64 0)), (.v (.int .i64 0)), (.v (.slice none 0 0))] [], none⟩,
      ⟨none, .store 4 (.t 6) (.t 21), none⟩])
    .ret)
    .skip))
  (.seq (.seq (.ops [⟨some 22, .load 4 true (.t 3), none⟩,
    ⟨some 23, .call lit [(.t 22)], none⟩])
  (.cond (.t 23)
    (.seq (.seq (.ops [⟨some 24, .load 1 false (.t 4), none⟩])
    (.cond (.t 24)
      (.seq (.ops [⟨some 25, .faddr 2 (.t 3), none⟩,
        ⟨some 26, .load 1 false (.t 25), none⟩,
        ⟨some 27, .load 4 true (.t 3), none⟩,
        ⟨some 28, .bslice 4 [(.v (.int .i64 0)), (.v (.int .i64 0)), (.v (.int .i64 0)), (.v (.slice none 0 0))] 1 [(0, 4, (.t 27))], none⟩,
        ⟨some 29, .build [(.v (.int .i64 0)), (.v (.int .i64 0)), (.v (.int .i64 0)), (.v (.slice none 0 0))] [(0, 1, (.c (.v (.int .i64 15)))), (2, 1, (.t 26)), (3, 1, (.t 28))], none⟩,
        ⟨none, .store 4 (.t 6) (.t 29), none⟩])
      .ret)
      .skip))
    (.seq (.ops [⟨some 30, .load 4 true (.t 3), none⟩,
      ⟨none, .store 4 (.t 6) (.t 30), none⟩])
    .ret))
    .skip))
  (.seq (.ops [⟨some 31, .mkfn (.func part) [] [(.t 3), (.t 5)], none⟩,
    ⟨some 7, .alloc (.v .nilFunc), none⟩,
    ⟨none, .store 1 (.t 7) (.t 31), none⟩])
  (.seq (.ops [⟨some 32, .mkfn (.func both) [] [(.t 4), (.t 3)], none⟩,
    ⟨some 8, .mov (.t 32), none⟩])
  (.seq (.ops [⟨some 33, .mkfn (.func truth) [] [(.t 5), (.t 4), (.t 3)], none⟩,
    ⟨some 9, .mov (.t 33), none⟩])
  (.seq (.ops [⟨some 34, .load 1 false (.t 4), none⟩,
    ⟨some 10, .mov (.t 34), none⟩])
  (.seq (.seq (.ops [⟨some 35, .faddr 0 (.t 3), none⟩,
    ⟨some 36, .load 1 false (.t 35), none⟩])
  (.block 0 (.seq (.block 9 (.seq (.block 8 (.seq (.block 7 (.seq (.block 6 (.seq (.block 5 (.seq (.block 4 (.seq (.block 3 (.seq (.block 2 (.seq (.block 1 (.seq (.seq (.seq (.ops [⟨some 38, .bin .eql false (.t 36) (.c (.v (.int .i64 15))), none⟩,
    ⟨some 37, .mov (.t 38), none⟩])
  (.cond (.t 37)
    (.exit 1)
    .skip))
  (.seq (.seq (.ops [⟨some 40, .bin .eql false (.t 36) (.c (.v (.int .i64 18))), none⟩,
    ⟨some 39, .mov (.t 40), none⟩])
  (.cond (.t 39)
    (.exit 2)
    .skip))
  (.seq (.seq (.ops [⟨some 42, .bin .eql false (.t 36) (.c (.v (.int .i64 17))), none⟩,
    ⟨some 41, .mov (.t 42), none⟩])
  (.cond (.t 41)
    (.exit 3)
    .skip))
  (.seq (.seq (.ops [⟨some 44, .bin .eql false (.t 36) (.c (.v (.int .i64 16))), none⟩,
    ⟨some 43, .mov (.t 44), none⟩])
  (.cond (.t 43)
    (.exit 4)
    .skip))
  (.seq (.seq (.ops [⟨some 46, .bin .eql false (.t 36) (.c (.v (.int .i64 19))), none⟩,
    ⟨some 45, .mov (.t 46), none⟩])
  (.cond (.t 45)
    (.exit 5)
    .skip))
  (.seq (.seq (.ops [⟨some 48, .bin .eql false (.t 36) (.c (.v (.int .i64 20))), none⟩,
    ⟨some 47, .mov (.t 48), none⟩])
  (.cond (.t 47)
    (.exit 6)
    .skip))
  (.seq (.seq (.ops [⟨some 50, .bin .eql false (.t 36) (.c (.v (.int .i64 21))), none⟩,
    ⟨some 49, .mov (.t 50), none⟩])
  (.cond (.t 49)
    (.exit 7)
    .skip))
  (.seq (.seq (.ops [⟨some 52, .bin .eql false (.t 36) (.c (.v (.int .i64 22))), none⟩,
    ⟨some 51, .mov (.t 52), none⟩])
  (.cond (.t 51)
    (.exit 8)
    .skip))
  (.seq (.ops [⟨some 54, .bin .eql false (.t 36) (.c (.v (.int .i64 23))), none⟩,
    ⟨some 53, .mov (.t 54), none⟩])
  (.cond (.t 53)
    (.exit 9)
    .skip))))))))))
  (.exit 0)))
  (.seq (.seq (.ops [⟨some 55, .load 1 false (.t 5), none⟩,
    ⟨some 56, .nilchk (.t 55), none⟩,
    ⟨some 57, .load 1 false (.t 56), none⟩,
    ⟨some 58, .bin .add false (.t 57) (.c (.v (.int .i64 1))), none⟩,
    ⟨some 59, .nilchk (.t 55), none⟩,
    ⟨none, .store 1 (.t 59) (.t 58), none⟩])
  (.seq (.ops [⟨some 60, .load 1 false (.t 7), none⟩,
    ⟨some 61, .load 1 false (.t 4), none⟩,
    ⟨some 62, .un .not (.t 61), none⟩,
    ⟨some 63, .calld (.t 60) [(.c (.v (.int .i64 0))), (.t 62)], none⟩,
    ⟨none, .store 4 (.t 6) (.t 63), none⟩])
  .ret))
  (.exit 0))))
  (.ops [⟨some 64, .load 1 false (.t 4), none⟩,
    ⟨some 65, .un .not (.t 64), none⟩,
    ⟨some 10, .mov (.t 65), none⟩])))
  (.seq (.seq (.drawN [⟨some 66, .mov (.t 8), none⟩,
    ⟨some 67, .load 1 false (.t 7), none⟩,
    ⟨some 68, .mov (.t 10), none⟩,
    ⟨some 70, .load 1 false (.t 7), none⟩,
    ⟨some 71, .load 1 false (.t 4), none⟩]
    (.alt ⟨some 69, .calld (.t 67) [(.c (.v (.int .i64 0))), (.t 68)], none⟩ (.alt ⟨some 72, .calld (.t 70) [(.c (.v (.int .i64 1))), (.t 71)], none⟩ (.alt ⟨some 73, .calld (.t 66) [(.c (.v (.int .i64 17))), (.c (.v (.int .i64 16))), (.t 69), (.t 72)], none⟩ (.alt ⟨none, .store 4 (.t 6) (.t 73), none⟩ .done
    .none)
    .none)
    .none)
    .none))
  .ret)
  (.exit 0))))
  (.seq (.seq (.drawN [⟨some 74, .mov (.t 8), none⟩,
    ⟨some 75, .load 1 false (.t 7), none⟩,
    ⟨some 76, .load 1 false (.t 4), none⟩,
    ⟨some 78, .load 1 false (.t 7), none⟩,
    ⟨some 79, .load 1 false (.t 4), none⟩]
    (.alt ⟨some 77, .calld (.t 75) [(.c (.v (.int .i64 0))), (.t 76)], none⟩ (.alt ⟨some 80, .calld (.t 78) [(.c (.v (.int .i64 1))), (.t 79)], none⟩ (.alt ⟨some 81, .calld (.t 74) [(.c (.v (.int .i64 16))), (.c (.v (.int .i64 17))), (.t 77), (.t 80)], none⟩ (.alt ⟨none, .store 4 (.t 6) (.t 81), none⟩ .done
    .none)
    .none)
    .none)
    .none))
  .ret)
  (.exit 0))))
  (.seq (.seq (.ops [⟨some 82, .load 1 false (.t 5), none⟩,
    ⟨some 83, .nilchk (.t 82), none⟩,
    ⟨some 84, .load 1 false (.t 83), none⟩,
    ⟨some 85, .bin .sub false (.t 84) (.c (.v (.int .i64 2))), none⟩,
    ⟨some 86, .nilchk (.t 82), none⟩,
    ⟨none, .store 1 (.t 86) (.t 85), none⟩])
  (.seq (.ops [⟨some 87, .mkfn (.func and) [] [(.t 3), (.t 7)], none⟩,
    ⟨some 11, .mov (.t 87), none⟩])
  (.seq (.drawN [⟨some 88, .faddr 2 (.t 3), none⟩,
    ⟨some 89, .load 1 false (.t 88), none⟩,
    ⟨some 90, .mov (.t 11), none⟩,
    ⟨some 91, .load 1 false (.t 4), none⟩,
    ⟨some 93, .mov (.t 11), none⟩,
    ⟨some 94, .load 1 false (.t 4), none⟩,
    ⟨some 95, .un .not (.t 94), none⟩]
    (.alt ⟨some 92, .calld (.t 90) [(.c (.v (.bool false))), (.t 91)], none⟩ (.alt ⟨some 96, .calld (.t 93) [(.c (.v (.bool true))), (.t 95)], none⟩ (.alt ⟨some 97, .bslice 4 [(.v (.int .i64 0)), (.v (.int .i64 0)), (.v (.int .i64 0)), (.v (.slice none 0 0))] 2 [(0, 4, (.t 92)), (4, 4, (.t 96))], none⟩ (.alt ⟨some 98, .build [(.v (.int .i64 0)), (.v (.int .i64 0)), (.v (.int .i64 0)), (.v (.slice none 0 0))] [(0, 1, (.c (.v (.int .i64 17)))), (2, 1, (.t 89)), (3, 1, (.t 97))], none⟩ (.alt ⟨none, .store 4 (.t 6) (.t 98), none⟩ .done
    .none)
    .none)
    .none)
    .none)
    .none))
  .ret)))
  (.exit 0))))
  (.seq (.seq (.drawN [⟨some 99, .faddr 2 (.t 3), none⟩,
    ⟨some 100, .load 1 false (.t 99), none⟩,
    ⟨some 101, .load 1 false (.t 7), none⟩,
    ⟨some 102, .load 1 false (.t 4), none⟩]
    (.alt ⟨some 103, .calld (.t 101) [(.c (.v (.int .i64 0))), (.t 102)], none⟩ (.alt ⟨some 104, .bslice 4 [(.v (.int .i64 0)), (.v (.int .i64 0)), (.v (.int .i64 0)), (.v (.slice none 0 0))] 1 [(0, 4, (.t 103))], none⟩ (.alt ⟨some 105, .build [(.v (.int .i64 0)), (.v (.int .i64 0)), (.v (.int .i64 0)), (.v (.slice none 0 0))] [(0, 1, (.c (.v (.int .i64 20)))), (2, 1, (.t 100)), (3, 1, (.t 104))], none⟩ (.alt ⟨none, .store 4 (.t 6) (.t 105), none⟩ .done
    .none)
    .none)
    .none)
    .none))
  .ret)
  (.exit 0))))
  (.seq (.seq (.drawN [⟨some 106, .mov (.t 8), none⟩,
    ⟨some 107, .mov (.t 9), none⟩,
    ⟨some 109, .load 1 false (.t 7), none⟩,
    ⟨some 110, .load 1 false (.t 4), none⟩]
    (.alt ⟨some 108, .calld (.t 107) [(.c (.v (.int .i64 13))), (.c (.v (.int .i64 14)))], none⟩ (.alt ⟨some 111, .calld (.t 109) [(.c (.v (.int .i64 0))), (.t 110)], none⟩ (.alt ⟨some 112, .calld (.t 106) [(.c (.v (.int .i64 23))), (.c (.v (.int .i64 24))), (.t 108), (.t 111)], none⟩ (.alt ⟨none, .store 4 (.t 6) (.t 112), none⟩ .done
    .none)
    .none)
    .none)
    .none))
  .ret)
  (.exit 0))))
  (.seq (.seq (.drawN [⟨some 113, .mov (.t 8), none⟩,
    ⟨some 114, .mov (.t 9), none⟩,
    ⟨some 116, .load 1 false (.t 7), none⟩,
    ⟨some 117, .load 1 false (.t 4), none⟩]
    (.alt ⟨some 115, .calld (.t 114) [(.c (.v (.int .i64 14))), (.c (.v (.int .i64 13)))], none⟩ (.alt ⟨some 118, .calld (.t 116) [(.c (.v (.int .i64 0))), (.t 117)], none⟩ (.alt ⟨some 119, .calld (.t 113) [(.c (.v (.int .i64 24))), (.c (.v (.int .i64 23))), (.t 115), (.t 118)], none⟩ (.alt ⟨none, .store 4 (.t 6) (.t 119), none⟩ .done
    .none)
    .none)
    .none)
    .none))
  .ret)
  (.exit 0))))
  (.seq (.seq (.drawN [⟨some 120, .mov (.t 8), none⟩,
    ⟨some 121, .load 1 false (.t 7), none⟩,
    ⟨some 122, .load 1 false (.t 4), none⟩,
    ⟨some 124, .load 1 false (.t 7), none⟩,
    ⟨some 125, .load 1 false (.t 4), none⟩]
    (.alt ⟨some 123, .calld (.t 121) [(.c (.v (.int .i64 0))), (.t 122)], none⟩ (.alt ⟨some 126, .calld (.t 124) [(.c (.v (.int .i64 1))), (.t 125)], none⟩ (.alt ⟨some 127, .calld (.t 120) [(.c (.v (.int .i64 23))), (.c (.v (.int .i64 24))), (.t 123), (.t 126)], none⟩ (.alt ⟨none, .store 4 (.t 6) (.t 127), none⟩ .done
    .none)
    .none)
    .none)
    .none))
  .ret)
  (.exit 0)))))
  (.seq (.drawN [⟨some 128, .mov (.t 8), none⟩,
    ⟨some 129, .load 1 false (.t 7), none⟩,
    ⟨some 130, .load 1 false (.t 4), none⟩,
    ⟨some 132, .load 1 false (.t 7), none⟩,
    ⟨some 133, .load 1 false (.t 4), none⟩]
    (.alt ⟨some 131, .calld (.t 129) [(.c (.v (.int .i64 0))), (.t 130)], none⟩ (.alt ⟨some 134, .calld (.t 132) [(.c (.v (.int .i64 1))), (.t 133)], none⟩ (.alt ⟨some 135, .calld (.t 128) [(.c (.v (.int .i64 24))), (.c (.v (.int .i64 23))), (.t 131), (.t 134)], none⟩ (.alt ⟨none, .store 4 (.t 6) (.t 135), none⟩ .done
    .none)
    .none)
    .none)
    .none))
  .ret))))))))))⟩

def irPartN (turn : Nat) : FnIR := ⟨15, [.c 6 4 true],
  (.seq (.ops [⟨some 6, .alloc (.agg [(.v (.int .i64 0)), (.v (.int .i64 0)), (.v (.int .i64 0)), (.v (.slice none 0 0))]), none⟩])
  (.seq (.drawN [⟨some 7, .faddr 3 (.t 2), none⟩,
    ⟨some 8, .load 1 false (.t 7), none⟩,
    ⟨some 9, .mov (.t 0), none⟩,
    ⟨some 10, .iaddr 4 (.t 8) (.t 9), none⟩,
    ⟨some 11, .load 4 true (.t 10), none⟩,
    ⟨some 12, .mov (.t 1), none⟩,
    ⟨some 13, .load 1 false (.t 3), none⟩]
    (.alt ⟨some 14, .call turn [(.t 11), (.t 12), (.t 13)], none⟩ (.alt ⟨none, .store 4 (.t 6) (.t 14), none⟩ .done
    .none)
    .none))
  .ret))⟩

def irBothN : FnIR := ⟨20, [.c 10 4 true],
  (.seq (.ops [⟨some 8, .box (.t 2), none⟩,
    ⟨some 9, .box (.t 3), none⟩,
    ⟨some 10, .alloc (.agg [(.v (.int .i64 0)), (.v (.int .i64 0)), (.v (.int .i64 0)), (.v (.slice none 0 0))]), none⟩])
  (.seq (.seq (.ops [⟨some 11, .load 1 false (.t 4), none⟩])
  (.cond (.t 11)
    (.ops [⟨some 12, .mov (.t 1), none⟩,
      ⟨some 0, .mov (.t 12), none⟩])
    .skip))
  (.seq (.ops [⟨some 13, .mov (.t 0), none⟩,
    ⟨some 14, .faddr 2 (.t 5), none⟩,
    ⟨some 15, .load 1 false (.t 14), none⟩,
    ⟨some 16, .load 4 true (.t 8), none⟩,
    ⟨some 17, .load 4 true (.t 9), none⟩,
    ⟨some 18, .bslice 4 [(.v (.int .i64 0)), (.v (.int .i64 0)), (.v (.int .i64 0)), (.v (.slice none 0 0))] 2 [(0, 4, (.t 16)), (4, 4, (.t 17))], none⟩,
    ⟨some 19, .build [(.v (.int .i64 0)), (.v (.int .i64 0)), (.v (.int .i64 0)), (.v (.slice none 0 0))] [(0, 1, (.t 13)), (2, 1, (.t 15)), (3, 1, (.t 18))], none⟩,
    ⟨none, .store 4 (.t 10) (.t 19), none⟩])
  .ret)))⟩

def irTruthN : FnIR := ⟨19, [.c 7 4 true],
  (.seq (.ops [⟨some 7, .alloc (.agg [(.v (.int .i64 0)), (.v (.int .i64 0)), (.v (.int .i64 0)), (.v (.slice none 0 0))]), none⟩])
  (.seq (.ops [⟨some 8, .load 1 false (.t 2), none⟩,
    ⟨some 9, .nilchk (.t 8), none⟩,
    ⟨some 10, .load 1 false (.t 9), none⟩,
    ⟨some 11, .bin .sub false (.t 10) (.c (.v (.int .i64 1))), none⟩,
    ⟨some 12, .nilchk (.t 8), none⟩,
    ⟨none, .store 1 (.t 12) (.t 11), none⟩])
  (.seq (.seq (.ops [⟨some 13, .load 1 false (.t 3), none⟩])
  (.cond (.t 13)
    (.ops [⟨some 14, .mov (.t 1), none⟩,
      ⟨some 0, .mov (.t 14), none⟩])
    .skip))
  (.seq (.ops [⟨some 15, .mov (.t 0), none⟩,
    ⟨some 16, .faddr 2 (.t 4), none⟩,
    ⟨some 17, .load 1 false (.t 16), none⟩,
    ⟨some 18, .build [(.v (.int .i64 0)), (.v (.int .i64 0)), (.v (.int .i64 0)), (.v (.slice none 0 0))] [(0, 1, (.t 15)), (2, 1, (.t 17))], none⟩,
    ⟨none, .store 4 (.t 7) (.t 18), none⟩])
  .ret))))⟩

def irAndN : FnIR := ⟨17, [.c 6 4 true],
  (.seq (.ops [⟨some 6, .alloc (.agg [(.v (.int .i64 0)), (.v (.int .i64 0)), (.v (.int .i64 0)), (.v (.slice none 0 0))]), none⟩])
  (.seq (.drawN [⟨some 7, .faddr 2 (.t 2), none⟩,
    ⟨some 8, .load 1 false (.t 7), none⟩,
    ⟨some 9, .load 1 false (.t 3), none⟩,
    ⟨some 10, .mov (.t 0), none⟩,
    ⟨some 12, .load 1 false (.t 3), none⟩,
    ⟨some 13, .mov (.t 1), none⟩]
    (.alt ⟨some 11, .calld (.t 9) [(.c (.v (.int .i64 0))), (.t 10)], none⟩ (.alt ⟨some 14, .calld (.t 12) [(.c (.v (.int .i64 1))), (.t 13)], none⟩ (.alt ⟨some 15, .bslice 4 [(.v (.int .i64 0)), (.v (.int .i64 0)), (.v (.int .i64 0)), (.v (.slice none 0 0))] 2 [(0, 4, (.t 11)), (4, 4, (.t 14))], none⟩ (.alt ⟨some 16, .build [(.v (.int .i64 0)), (.v (.int .i64 0)), (.v (.int .i64 0)), (.v (.slice none 0 0))] [(0, 1, (.c (.v (.int .i64 16)))), (2, 1, (.t 8)), (3, 1, (.t 15))], none⟩ (.alt ⟨none, .store 4 (.t 6) (.t 16), none⟩ .done
    .none)
    .none)
    .none)
    .none)
    .none))
  .ret))⟩

def irMadeN (turn : Nat) : FnIR := ⟨15, [.c 4 4 true, .t 5],
  (.seq (.ops [⟨some 2, .box (.t 0), none⟩,
    ⟨some 4, .alloc (.agg [(.v (.int .i64 0)), (.v (.int .i64 0)), (.v (.int .i64 0)), (.v (.slice none 0 0))]), none⟩,
    ⟨some 5, .mov (.c (.v (.int .i64 0))), none⟩])
  (.seq (.ops [⟨some 6, .alloc (.v (.int .i64 0)), none⟩,
    ⟨none, .store 1 (.t 6) (.c (.v (.int .i64 24))), none⟩])
  (.seq (.ops [⟨some 8, .load 4 true (.t 2), none⟩,
    ⟨some 9, .mov (.t 1), none⟩,
    ⟨some 10, .call turn [(.t 8), (.t 9), (.t 6)], none⟩,
    ⟨some 7, .alloc (.agg [(.v (.int .i64 0)), (.v (.int .i64 0)), (.v (.int .i64 0)), (.v (.slice none 0 0))]), none⟩,
    ⟨none, .store 4 (.t 7) (.t 10), none⟩])
  (.seq (.seq (.ops [⟨some 11, .load 1 false (.t 6), none⟩,
    ⟨some 12, .bin .lss false (.t 11) (.c (.v (.int .i64 0))), none⟩])
  (.cond (.t 12)
    (.seq (.ops [⟨some 13, .build [(.v (.int .i64 0)), (.v (.int .i64 0)), (.v (.int .i64 0)), (.v (.slice none 0 0))] [], none⟩,
      ⟨none, .store 4 (.t 4) (.t 13), none⟩,
      ⟨some 5, .mov (.c (.v (.int .i64 9))), none⟩])
    .ret)
    .skip))
  (.seq (.ops [⟨some 14, .load 4 true (.t 7), none⟩,
    ⟨none, .store 4 (.t 4) (.t 14), none⟩,
    ⟨some 5, .mov (.c (.v (.int .i64 0))), none⟩])
  .ret)))))⟩

def irOfN (made : Nat) (b : Bool) : FnIR := ⟨8, [.c 2 4 true, .t 3],
  (.seq (.ops [⟨some 1, .box (.t 0), none⟩,
    ⟨some 2, .alloc (.agg [(.v (.int .i64 0)), (.v (.int .i64 0)), (.v (.int .i64 0)), (.v (.slice none 0 0))]), none⟩,
    ⟨some 3, .mov (.c (.v (.int .i64 0))), none⟩])
  (.seq (.ops [⟨some 4, .load 4 true (.t 1), none⟩,
    ⟨some 5, .call made [(.t 4), (.c (.v (.bool b)))], none⟩,
    ⟨some 6, .extract (.t 5) 0, none⟩,
    ⟨some 7, .extract (.t 5) 1, none⟩,
    ⟨none, .store 4 (.t 2) (.t 6), none⟩,
    ⟨some 3, .mov (.t 7), none⟩])
  .ret))⟩

def selTurn (r : Nat) : Bool := [25, 26, 29, 30, 31, 32, 33, 34].contains r
def selPart (r : Nat) : Bool := [1].contains r

abbrev w64i (n : Int) : Int := IntKind.i64.wrap n
def both2 (o o2 : Int) (b : Bool) (pl : Int) (r0 : T × Int) (p1 : Int → T × Int) : T × Int := (.mk (if b = true then o2 else o) 0 pl [r0.1, (p1 r0.2).1], (p1 r0.2).2)
def turnOp (op pl : Int) (p0 p1 : Bool → Int → T × Int) (b : Bool) (n : Int) : T × Int :=
  if op = 15 then p0 (!b) (w64i (n + 1))
  else if op = 18 then both2 17 16 b pl (p0 (!b) n) (p1 b)
  else if op = 17 then both2 17 16 b pl (p0 b n) (p1 b)
  else if op = 16 then both2 16 17 b pl (p0 b n) (p1 b)
  else if op = 19 then
    let a := p0 false (w64i (n - 2)); let c := p1 b a.2; let d := p0 true c.2; let e := p1 (!b) d.2
    (.mk 17 0 pl [.mk 16 0 pl [a.1, c.1], .mk 16 0 pl [d.1, e.1]], e.2)
  else if op = 20 then (.mk 20 0 pl [(p0 b n).1], (p0 b n).2)
  else if op = 21 then (.mk (if b = true then 24 else 23) 0 pl [.mk (if b = true then 14 else 13) 0 pl [], (p0 b (w64i (n - 1))).1], (p0 b (w64i (n - 1))).2)
  else if op = 22 then (.mk (if b = true then 23 else 24) 0 pl [.mk (if b = true then 13 else 14) 0 pl [], (p0 b (w64i (n - 1))).1], (p0 b (w64i (n - 1))).2)
  else if op = 23 then both2 23 24 b pl (p0 b n) (p1 b)
  else both2 24 23 b pl (p0 b n) (p1 b)
def T.none0 : T := .mk 0 0 0 []
/-- What the program makes, with n parts left; and what is left then. -/
def T.turn : T → Bool → Int → T × Int := T.fold fun op n pl l rs b k =>
  if w64i (k - 1) < 0 then (T.none0, w64i (k - 1))
  else if (T.mk op n pl l).lit = true then ((if b = true then .mk 15 0 pl [.mk op n pl l] else .mk op n pl l), w64i (k - 1))
  else turnOp op pl (rs.getD 0 fun _ _ => (T.none0, 0)) (rs.getD 1 fun _ _ => (T.none0, 0)) b (w64i (k - 1))
theorem T.turn_mk {op n pl l b k} : (T.mk op n pl l).turn b k = if w64i (k - 1) < 0 then (T.none0, w64i (k - 1))
  else if (T.mk op n pl l).lit = true then ((if b = true then .mk 15 0 pl [.mk op n pl l] else .mk op n pl l), w64i (k - 1))
  else turnOp op pl ((l.map T.turn).getD 0 fun _ _ => (T.none0, 0)) ((l.map T.turn).getD 1 fun _ _ => (T.none0, 0)) b (w64i (k - 1)) := by
  rw [T.turn, T.fold_mk]

structure TurnFns (P : Program) where
  lit : Nat
  part : Nat
  both : Nat
  truth : Nat
  and : Nat
  turn : Nat
  ilit : ∀ t : T, t.Ok → PC P lit [t.toL] (boolL t.lit)
  iturn : compFS selTurn P turn = some (irTurnN lit part both truth and)
  ipart : compFS selPart P part = some (irPartN turn)
  iboth : compF P both = some irBothN
  itruth : compF P truth = some irTruthN
  iand : compFS selPart P and = some irAndN

variable {P : Program} (F : TurnFns P)

def TurnK (t : T) (b : Bool) (k : Int) : L → List L → Prop := fun r c' => r = (t.turn b k).1.toL ∧ c' = [intL (t.turn b k).2]

theorem argOwn_toL {k : Nat} {H : Heap} {t : T} : argOwn k H t.toL = some t.toL := by
  cases t with
  | mk a b c l =>
    rw [toL_mk]
    simp only [argOwn]
    rw [← toL_mk]
    exact reso_toL _ 2 _
theorem setCells_toL {a b c d : L} {t : T} : setCells [a, b, c, d] 0 t.toL.cells = t.toL.cells := by cases t; simp [toL_mk, setCells]
theorem argOwn_bool {k : Nat} {H : Heap} {b : Bool} : argOwn k H (boolL b) = some (boolL b) := by simp [argOwn]
theorem argOwn_ptr {k off : Nat} {H : Heap} : argOwn k H (.ptr k off) = some (.ptr 0 off) := by simp [argOwn]

theorem setCells8 {x1 x2 x3 x4 x5 x6 x7 x8 : L} {a c : T} : setCells (setCells [x1, x2, x3, x4, x5, x6, x7, x8] 0 a.toL.cells) 4 c.toL.cells = a.toL.cells ++ c.toL.cells := by cases a; cases c; simp [toL_mk, setCells]
theorem setCells8_len {x1 x2 x3 x4 x5 x6 x7 x8 : L} {a : T} : (setCells [x1, x2, x3, x4, x5, x6, x7, x8] 0 a.toL.cells).length = 8 := by cases a; simp [toL_mk, setCells]

theorem own_node2 {e : T} {b : Bool} {k o pl k' : Int} {a c : T} {h : Nat} {H : Heap} (he : e.turn b k = (.mk o 0 pl [a, c], k')) (h0 : H[0]? = some (some [intL k'])) (hh : live (H.set 0 none) h = some (a.toL.cells ++ c.toL.cells)) :
    ownK (TurnK e b k) (.agg [intL o, intL 0, intL pl, .view 4 h 0 2 true]) H := by
  refine ⟨.agg [intL o, intL 0, intL pl, .sl 4 true [.agg a.toL.cells, .agg c.toL.cells]], (T.mk o 0 pl [a, c]).toL, [intL k'], ⟨by rw [he], by rw [he]⟩, by simp, h0, ?_, ?_⟩
  · cases a with
    | mk a1 a2 a3 al =>
      cases c with
      | mk c1 c2 c3 cl =>
        simp only [toL_mk, L.cells, List.cons_append, List.nil_append] at hh ⊢
        unfold live at hh
        generalize H.set 0 none = H' at hh ⊢
        simp [reso, mapO, hh, closed, chunk, List.range, List.range.loop]
  · refine sub_tree (sub_node (xs := [a.toL.cells, c.toL.cells]) (ts := [a, c]) rfl fun i h => ?_)
    match i with
    | 0 => exact sub_self a
    | 1 => exact sub_self c

theorem setCells_at4 {x1 x2 x3 x4 x5 x6 x7 x8 : L} {a : T} : setCells [x1, x2, x3, x4, x5, x6, x7, x8] 4 a.toL.cells = x1 :: x2 :: x3 :: x4 :: a.toL.cells := by cases a; simp [toL_mk, setCells]

theorem own_tree {e : T} {b : Bool} {k k' : Int} {t : T} {H : Heap} (he : e.turn b k = (t, k')) (h0 : H[0]? = some (some [intL k'])) : ownK (TurnK e b k) t.toL H :=
  ⟨t.toL, t.toL, [intL k'], ⟨by rw [he], by rw [he]⟩, by simp, h0, reso_toL _ 2 _, .refl _⟩

theorem own_none {e : T} {b : Bool} {k k' : Int} {H : Heap} (he : e.turn b k = (T.none0, k')) (h0 : H[0]? = some (some [intL k'])) : ownK (TurnK e b k) (.agg [intL 0, intL 0, intL 0, .v (.slice none 0 0)]) H :=
  ⟨.agg [intL 0, intL 0, intL 0, .v (.slice none 0 0)], T.none0.toL, [intL k'], ⟨by rw [he], by rw [he]⟩, by simp, h0, by simp [reso, mapO], sub_tree sub_leaf⟩

theorem own_node1 {e : T} {b : Bool} {k o pl k' : Int} {a : T} {h : Nat} {H : Heap} (he : e.turn b k = (.mk o 0 pl [a], k')) (h0 : H[0]? = some (some [intL k'])) (hh : live (H.set 0 none) h = some a.toL.cells) :
    ownK (TurnK e b k) (.agg [intL o, intL 0, intL pl, .view 4 h 0 1 true]) H := by
  refine ⟨.agg [intL o, intL 0, intL pl, .sl 4 true [.agg a.toL.cells]], (T.mk o 0 pl [a]).toL, [intL k'], ⟨by rw [he], by rw [he]⟩, by simp, h0, ?_, ?_⟩
  · cases a with
    | mk a1 a2 a3 al =>
      simp only [toL_mk, L.cells] at hh ⊢
      unfold live at hh
      generalize H.set 0 none = H' at hh ⊢
      simp [reso, mapO, hh, closed, chunk, List.range, List.range.loop]
  · refine sub_tree (sub_node (xs := [a.toL.cells]) (ts := [a]) rfl fun i h => ?_)
    match i with
    | 0 => exact sub_self a

theorem own_leaf {e : T} {b : Bool} {k o o' pl k' : Int} {a : T} {h : Nat} {H : Heap} (he : e.turn b k = (.mk o 0 pl [.mk o' 0 pl [], a], k')) (h0 : H[0]? = some (some [intL k'])) (hh : live (H.set 0 none) h = some (intL o' :: intL 0 :: intL pl :: .v (.slice none 0 0) :: a.toL.cells)) :
    ownK (TurnK e b k) (.agg [intL o, intL 0, intL pl, .view 4 h 0 2 true]) H := by
  refine ⟨.agg [intL o, intL 0, intL pl, .sl 4 true [.agg [intL o', intL 0, intL pl, .v (.slice none 0 0)], .agg a.toL.cells]], (T.mk o 0 pl [.mk o' 0 pl [], a]).toL, [intL k'], ⟨by rw [he], by rw [he]⟩, by simp, h0, ?_, ?_⟩
  · cases a with
    | mk a1 a2 a3 al =>
      simp only [toL_mk, L.cells] at hh ⊢
      unfold live at hh
      generalize H.set 0 none = H' at hh ⊢
      simp [reso, mapO, hh, closed, chunk, List.range, List.range.loop]
  · refine sub_tree (sub_node (xs := [[intL o', intL 0, intL pl, .v (.slice none 0 0)], a.toL.cells]) (ts := [.mk o' 0 pl [], a]) rfl fun i h => ?_)
    match i with
    | 0 => exact sub_leaf
    | 1 => exact sub_self a

theorem own_iff {e : T} {b : Bool} {k pl k' : Int} {a c d f : T} {h h1 h2 : Nat} {H : Heap} (he : e.turn b k = (.mk 17 0 pl [.mk 16 0 pl [a, c], .mk 16 0 pl [d, f]], k')) (h0 : H[0]? = some (some [intL k']))
    (hh : live (H.set 0 none) h = some [intL 16, intL 0, intL pl, .view 4 h1 0 2 true, intL 16, intL 0, intL pl, .view 4 h2 0 2 true]) (hh1 : live (H.set 0 none) h1 = some (a.toL.cells ++ c.toL.cells)) (hh2 : live (H.set 0 none) h2 = some (d.toL.cells ++ f.toL.cells)) :
    ownK (TurnK e b k) (.agg [intL 17, intL 0, intL pl, .view 4 h 0 2 true]) H := by
  refine ⟨.agg [intL 17, intL 0, intL pl, .sl 4 true [.agg [intL 16, intL 0, intL pl, .sl 4 true [.agg a.toL.cells, .agg c.toL.cells]], .agg [intL 16, intL 0, intL pl, .sl 4 true [.agg d.toL.cells, .agg f.toL.cells]]]],
    (T.mk 17 0 pl [.mk 16 0 pl [a, c], .mk 16 0 pl [d, f]]).toL, [intL k'], ⟨by rw [he], by rw [he]⟩, by simp, h0, ?_, ?_⟩
  · cases a with
    | mk a1 a2 a3 al =>
      cases c with
      | mk c1 c2 c3 cl =>
        cases d with
        | mk d1 d2 d3 dl =>
          cases f with
          | mk f1 f2 f3 fl =>
            simp only [toL_mk, L.cells, List.cons_append, List.nil_append] at hh hh1 hh2 ⊢
            unfold live at hh hh1 hh2
            generalize H.set 0 none = H' at hh hh1 hh2 ⊢
            simp [reso, mapO, hh, hh1, hh2, closed, chunk, List.range, List.range.loop]
  · refine sub_tree (sub_node (xs := [[intL 16, intL 0, intL pl, .sl 4 true [.agg a.toL.cells, .agg c.toL.cells]], [intL 16, intL 0, intL pl, .sl 4 true [.agg d.toL.cells, .agg f.toL.cells]]]) (ts := [.mk 16 0 pl [a, c], .mk 16 0 pl [d, f]]) rfl fun i h => ?_)
    match i with
    | 0 => exact sub_node (xs := [a.toL.cells, c.toL.cells]) (ts := [a, c]) rfl fun i h => match i with
      | 0 => sub_self a
      | 1 => sub_self c
    | 1 => exact sub_node (xs := [d.toL.cells, f.toL.cells]) (ts := [d, f]) rfl fun i h => match i with
      | 0 => sub_self d
      | 1 => sub_self f

theorem turn_18 {n pl : Int} {x y : T} (hx : ∀ b k, callAt P F.turn [x.toL, boolL b, .ptr 0 0] [some [intL k]] (ownK (TurnK x b k))) (hy : ∀ b k, callAt P F.turn [y.toL, boolL b, .ptr 0 0] [some [intL k]] (ownK (TurnK y b k)))
    (hok : (T.mk 18 n pl [x, y]).Ok) (hl : (T.mk 18 n pl [x, y]).lit = false) (b : Bool) (k : Int) (hn : ¬ w64i (k - 1) < 0) : callAt P F.turn [(T.mk 18 n pl [x, y]).toL, boolL b, .ptr 0 0] [some [intL k]] (ownK (TurnK (T.mk 18 n pl [x, y]) b k)) := by
  have hlit := F.ilit _ hok
  rw [hl] at hlit
  have hn' : 0 ≤ w64i (k - 1) := by omega
  refine callAt_enterS F.iturn (by simp [irTurnN]) ?_
  simp [irTurnN, toL_mk, hn]
  refine callT_plain hlit rfl (by simp [toL_mk]) ?_
  simp
  refine lwp_drawN1' ?_
  simp
  refine callT_enterS F.ipart (by simp [irPartN]) ?_
  simp [irPartN]
  refine lwp_drawN1' ?_
  simp
  refine callT_own 0 rfl (by simp) (by simp [mapO, argOwn_toL, argOwn_bool, argOwn_ptr]) (hx (!b) _) ?_
  rintro r c' ⟨rfl, rfl⟩
  simp [setCells_toL]
  refine callT_enterS F.ipart (by simp [irPartN]) ?_
  simp [irPartN]
  refine lwp_drawN1' ?_
  simp
  refine callT_own 0 rfl (by simp) (by simp [mapO, argOwn_toL, argOwn_bool, argOwn_ptr]) (hy b _) ?_
  rintro r c' ⟨rfl, rfl⟩
  simp [setCells_toL]
  refine callT_enter F.iboth (by simp [irBothN]) ?_
  simp [irBothN, setCells8, setCells8_len]
  refine ⟨fun hb => own_node2 ?_ rfl rfl, fun hb => own_node2 ?_ rfl rfl⟩ <;>
  · subst hb
    rw [T.turn_mk, if_neg hn, if_neg (by rw [hl]; decide)]
    simp [turnOp, both2]

theorem turn_17 {n pl : Int} {x y : T} (hx : ∀ b k, callAt P F.turn [x.toL, boolL b, .ptr 0 0] [some [intL k]] (ownK (TurnK x b k))) (hy : ∀ b k, callAt P F.turn [y.toL, boolL b, .ptr 0 0] [some [intL k]] (ownK (TurnK y b k)))
    (hok : (T.mk 17 n pl [x, y]).Ok) (hl : (T.mk 17 n pl [x, y]).lit = false) (b : Bool) (k : Int) (hn : ¬ w64i (k - 1) < 0) : callAt P F.turn [(T.mk 17 n pl [x, y]).toL, boolL b, .ptr 0 0] [some [intL k]] (ownK (TurnK (T.mk 17 n pl [x, y]) b k)) := by
  have hlit := F.ilit _ hok
  rw [hl] at hlit
  have hn' : 0 ≤ w64i (k - 1) := by omega
  refine callAt_enterS F.iturn (by simp [irTurnN]) ?_
  simp [irTurnN, toL_mk, hn]
  refine callT_plain hlit rfl (by simp [toL_mk]) ?_
  simp
  refine lwp_drawN1' ?_
  simp
  refine callT_enterS F.ipart (by simp [irPartN]) ?_
  simp [irPartN]
  refine lwp_drawN1' ?_
  simp
  refine callT_own 0 rfl (by simp) (by simp [mapO, argOwn_toL, argOwn_bool, argOwn_ptr]) (hx b _) ?_
  rintro r c' ⟨rfl, rfl⟩
  simp [setCells_toL]
  refine callT_enterS F.ipart (by simp [irPartN]) ?_
  simp [irPartN]
  refine lwp_drawN1' ?_
  simp
  refine callT_own 0 rfl (by simp) (by simp [mapO, argOwn_toL, argOwn_bool, argOwn_ptr]) (hy b _) ?_
  rintro r c' ⟨rfl, rfl⟩
  simp [setCells_toL]
  refine callT_enter F.iboth (by simp [irBothN]) ?_
  simp [irBothN, setCells8, setCells8_len]
  refine ⟨fun hb => own_node2 ?_ rfl rfl, fun hb => own_node2 ?_ rfl rfl⟩ <;>
  · subst hb
    rw [T.turn_mk, if_neg hn, if_neg (by rw [hl]; decide)]
    simp [turnOp, both2]

theorem turn_16 {n pl : Int} {x y : T} (hx : ∀ b k, callAt P F.turn [x.toL, boolL b, .ptr 0 0] [some [intL k]] (ownK (TurnK x b k))) (hy : ∀ b k, callAt P F.turn [y.toL, boolL b, .ptr 0 0] [some [intL k]] (ownK (TurnK y b k)))
    (hok : (T.mk 16 n pl [x, y]).Ok) (hl : (T.mk 16 n pl [x, y]).lit = false) (b : Bool) (k : Int) (hn : ¬ w64i (k - 1) < 0) : callAt P F.turn [(T.mk 16 n pl [x, y]).toL, boolL b, .ptr 0 0] [some [intL k]] (ownK (TurnK (T.mk 16 n pl [x, y]) b k)) := by
  have hlit := F.ilit _ hok
  rw [hl] at hlit
  have hn' : 0 ≤ w64i (k - 1) := by omega
  refine callAt_enterS F.iturn (by simp [irTurnN]) ?_
  simp [irTurnN, toL_mk, hn]
  refine callT_plain hlit rfl (by simp [toL_mk]) ?_
  simp
  refine lwp_drawN1' ?_
  simp
  refine callT_enterS F.ipart (by simp [irPartN]) ?_
  simp [irPartN]
  refine lwp_drawN1' ?_
  simp
  refine callT_own 0 rfl (by simp) (by simp [mapO, argOwn_toL, argOwn_bool, argOwn_ptr]) (hx b _) ?_
  rintro r c' ⟨rfl, rfl⟩
  simp [setCells_toL]
  refine callT_enterS F.ipart (by simp [irPartN]) ?_
  simp [irPartN]
  refine lwp_drawN1' ?_
  simp
  refine callT_own 0 rfl (by simp) (by simp [mapO, argOwn_toL, argOwn_bool, argOwn_ptr]) (hy b _) ?_
  rintro r c' ⟨rfl, rfl⟩
  simp [setCells_toL]
  refine callT_enter F.iboth (by simp [irBothN]) ?_
  simp [irBothN, setCells8, setCells8_len]
  refine ⟨fun hb => own_node2 ?_ rfl rfl, fun hb => own_node2 ?_ rfl rfl⟩ <;>
  · subst hb
    rw [T.turn_mk, if_neg hn, if_neg (by rw [hl]; decide)]
    simp [turnOp, both2]

theorem turn_23 {n pl : Int} {x y : T} (hx : ∀ b k, callAt P F.turn [x.toL, boolL b, .ptr 0 0] [some [intL k]] (ownK (TurnK x b k))) (hy : ∀ b k, callAt P F.turn [y.toL, boolL b, .ptr 0 0] [some [intL k]] (ownK (TurnK y b k)))
    (hok : (T.mk 23 n pl [x, y]).Ok) (hl : (T.mk 23 n pl [x, y]).lit = false) (b : Bool) (k : Int) (hn : ¬ w64i (k - 1) < 0) : callAt P F.turn [(T.mk 23 n pl [x, y]).toL, boolL b, .ptr 0 0] [some [intL k]] (ownK (TurnK (T.mk 23 n pl [x, y]) b k)) := by
  have hlit := F.ilit _ hok
  rw [hl] at hlit
  have hn' : 0 ≤ w64i (k - 1) := by omega
  refine callAt_enterS F.iturn (by simp [irTurnN]) ?_
  simp [irTurnN, toL_mk, hn]
  refine callT_plain hlit rfl (by simp [toL_mk]) ?_
  simp
  refine lwp_drawN1' ?_
  simp
  refine callT_enterS F.ipart (by simp [irPartN]) ?_
  simp [irPartN]
  refine lwp_drawN1' ?_
  simp
  refine callT_own 0 rfl (by simp) (by simp [mapO, argOwn_toL, argOwn_bool, argOwn_ptr]) (hx b _) ?_
  rintro r c' ⟨rfl, rfl⟩
  simp [setCells_toL]
  refine callT_enterS F.ipart (by simp [irPartN]) ?_
  simp [irPartN]
  refine lwp_drawN1' ?_
  simp
  refine callT_own 0 rfl (by simp) (by simp [mapO, argOwn_toL, argOwn_bool, argOwn_ptr]) (hy b _) ?_
  rintro r c' ⟨rfl, rfl⟩
  simp [setCells_toL]
  refine callT_enter F.iboth (by simp [irBothN]) ?_
  simp [irBothN, setCells8, setCells8_len]
  refine ⟨fun hb => own_node2 ?_ rfl rfl, fun hb => own_node2 ?_ rfl rfl⟩ <;>
  · subst hb
    rw [T.turn_mk, if_neg hn, if_neg (by rw [hl]; decide)]
    simp [turnOp, both2]

theorem turn_24 {n pl : Int} {x y : T} (hx : ∀ b k, callAt P F.turn [x.toL, boolL b, .ptr 0 0] [some [intL k]] (ownK (TurnK x b k))) (hy : ∀ b k, callAt P F.turn [y.toL, boolL b, .ptr 0 0] [some [intL k]] (ownK (TurnK y b k)))
    (hok : (T.mk 24 n pl [x, y]).Ok) (hl : (T.mk 24 n pl [x, y]).lit = false) (b : Bool) (k : Int) (hn : ¬ w64i (k - 1) < 0) : callAt P F.turn [(T.mk 24 n pl [x, y]).toL, boolL b, .ptr 0 0] [some [intL k]] (ownK (TurnK (T.mk 24 n pl [x, y]) b k)) := by
  have hlit := F.ilit _ hok
  rw [hl] at hlit
  have hn' : 0 ≤ w64i (k - 1) := by omega
  refine callAt_enterS F.iturn (by simp [irTurnN]) ?_
  simp [irTurnN, toL_mk, hn]
  refine callT_plain hlit rfl (by simp [toL_mk]) ?_
  simp
  refine lwp_drawN1' ?_
  simp
  refine callT_enterS F.ipart (by simp [irPartN]) ?_
  simp [irPartN]
  refine lwp_drawN1' ?_
  simp
  refine callT_own 0 rfl (by simp) (by simp [mapO, argOwn_toL, argOwn_bool, argOwn_ptr]) (hx b _) ?_
  rintro r c' ⟨rfl, rfl⟩
  simp [setCells_toL]
  refine callT_enterS F.ipart (by simp [irPartN]) ?_
  simp [irPartN]
  refine lwp_drawN1' ?_
  simp
  refine callT_own 0 rfl (by simp) (by simp [mapO, argOwn_toL, argOwn_bool, argOwn_ptr]) (hy b _) ?_
  rintro r c' ⟨rfl, rfl⟩
  simp [setCells_toL]
  refine callT_enter F.iboth (by simp [irBothN]) ?_
  simp [irBothN, setCells8, setCells8_len]
  refine ⟨fun hb => own_node2 ?_ rfl rfl, fun hb => own_node2 ?_ rfl rfl⟩ <;>
  · subst hb
    rw [T.turn_mk, if_neg hn, if_neg (by rw [hl]; decide)]
    simp [turnOp, both2]

theorem turn_15 {n pl : Int} {x : T} (hx : ∀ b k, callAt P F.turn [x.toL, boolL b, .ptr 0 0] [some [intL k]] (ownK (TurnK x b k)))
    (hok : (T.mk 15 n pl [x]).Ok) (hl : (T.mk 15 n pl [x]).lit = false) (b : Bool) (k : Int) (hn : ¬ w64i (k - 1) < 0) : callAt P F.turn [(T.mk 15 n pl [x]).toL, boolL b, .ptr 0 0] [some [intL k]] (ownK (TurnK (T.mk 15 n pl [x]) b k)) := by
  have hlit := F.ilit _ hok
  rw [hl] at hlit
  have hn' : 0 ≤ w64i (k - 1) := by omega
  refine callAt_enterS F.iturn (by simp [irTurnN]) ?_
  simp [irTurnN, toL_mk, hn]
  refine callT_plain hlit rfl (by simp [toL_mk]) ?_
  simp
  refine callT_enterS F.ipart (by simp [irPartN]) ?_
  simp [irPartN]
  refine lwp_drawN1' ?_
  simp
  refine callT_own 0 rfl (by simp) (by simp [mapO, argOwn_toL, argOwn_bool, argOwn_ptr]) (hx (!b) _) ?_
  rintro r c' ⟨rfl, rfl⟩
  simp [setCells_toL]
  refine own_tree ?_ rfl
  rw [T.turn_mk, if_neg hn, if_neg (by rw [hl]; decide)]
  simp [turnOp]

theorem turn_20 {n pl : Int} {x : T} (hx : ∀ b k, callAt P F.turn [x.toL, boolL b, .ptr 0 0] [some [intL k]] (ownK (TurnK x b k)))
    (hok : (T.mk 20 n pl [x]).Ok) (hl : (T.mk 20 n pl [x]).lit = false) (b : Bool) (k : Int) (hn : ¬ w64i (k - 1) < 0) : callAt P F.turn [(T.mk 20 n pl [x]).toL, boolL b, .ptr 0 0] [some [intL k]] (ownK (TurnK (T.mk 20 n pl [x]) b k)) := by
  have hlit := F.ilit _ hok
  rw [hl] at hlit
  have hn' : 0 ≤ w64i (k - 1) := by omega
  refine callAt_enterS F.iturn (by simp [irTurnN]) ?_
  simp [irTurnN, toL_mk, hn]
  refine callT_plain hlit rfl (by simp [toL_mk]) ?_
  simp
  refine lwp_drawN1' ?_
  simp
  refine callT_enterS F.ipart (by simp [irPartN]) ?_
  simp [irPartN]
  refine lwp_drawN1' ?_
  simp
  refine callT_own 0 rfl (by simp) (by simp [mapO, argOwn_toL, argOwn_bool, argOwn_ptr]) (hx b _) ?_
  rintro r c' ⟨rfl, rfl⟩
  simp [setCells_toL]
  refine own_node1 ?_ rfl rfl
  rw [T.turn_mk, if_neg hn, if_neg (by rw [hl]; decide)]
  simp [turnOp]

theorem turn_21 {n pl : Int} {x : T} (hx : ∀ b k, callAt P F.turn [x.toL, boolL b, .ptr 0 0] [some [intL k]] (ownK (TurnK x b k)))
    (hok : (T.mk 21 n pl [x]).Ok) (hl : (T.mk 21 n pl [x]).lit = false) (b : Bool) (k : Int) (hn : ¬ w64i (k - 1) < 0) : callAt P F.turn [(T.mk 21 n pl [x]).toL, boolL b, .ptr 0 0] [some [intL k]] (ownK (TurnK (T.mk 21 n pl [x]) b k)) := by
  have hlit := F.ilit _ hok
  rw [hl] at hlit
  have hn' : 0 ≤ w64i (k - 1) := by omega
  refine callAt_enterS F.iturn (by simp [irTurnN]) ?_
  simp [irTurnN, toL_mk, hn]
  refine callT_plain hlit rfl (by simp [toL_mk]) ?_
  simp
  refine lwp_drawN1' ?_
  simp
  refine callT_enter F.itruth (by simp [irTruthN]) ?_
  simp [irTruthN]
  refine ⟨fun hb => ?_, fun hb => ?_⟩ <;> subst hb
  · refine callT_enterS F.ipart (by simp [irPartN]) ?_
    simp [irPartN]
    refine lwp_drawN1' ?_
    simp
    refine callT_own 0 rfl (by simp) (by simp [mapO, argOwn_toL, argOwn_bool, argOwn_ptr]) (hx true _) ?_
    rintro r c' ⟨rfl, rfl⟩
    simp [setCells_toL]
    refine callT_enter F.iboth (by simp [irBothN]) ?_
    simp [irBothN, setCells_at4]
    refine own_leaf ?_ rfl rfl
    rw [T.turn_mk, if_neg hn, if_neg (by rw [hl]; decide)]
    simp [turnOp]
  · refine callT_enterS F.ipart (by simp [irPartN]) ?_
    simp [irPartN]
    refine lwp_drawN1' ?_
    simp
    refine callT_own 0 rfl (by simp) (by simp [mapO, argOwn_toL, argOwn_bool, argOwn_ptr]) (hx false _) ?_
    rintro r c' ⟨rfl, rfl⟩
    simp [setCells_toL]
    refine callT_enter F.iboth (by simp [irBothN]) ?_
    simp [irBothN, setCells_at4]
    refine own_leaf ?_ rfl rfl
    rw [T.turn_mk, if_neg hn, if_neg (by rw [hl]; decide)]
    simp [turnOp]

theorem turn_22 {n pl : Int} {x : T} (hx : ∀ b k, callAt P F.turn [x.toL, boolL b, .ptr 0 0] [some [intL k]] (ownK (TurnK x b k)))
    (hok : (T.mk 22 n pl [x]).Ok) (hl : (T.mk 22 n pl [x]).lit = false) (b : Bool) (k : Int) (hn : ¬ w64i (k - 1) < 0) : callAt P F.turn [(T.mk 22 n pl [x]).toL, boolL b, .ptr 0 0] [some [intL k]] (ownK (TurnK (T.mk 22 n pl [x]) b k)) := by
  have hlit := F.ilit _ hok
  rw [hl] at hlit
  have hn' : 0 ≤ w64i (k - 1) := by omega
  refine callAt_enterS F.iturn (by simp [irTurnN]) ?_
  simp [irTurnN, toL_mk, hn]
  refine callT_plain hlit rfl (by simp [toL_mk]) ?_
  simp
  refine lwp_drawN1' ?_
  simp
  refine callT_enter F.itruth (by simp [irTruthN]) ?_
  simp [irTruthN]
  refine ⟨fun hb => ?_, fun hb => ?_⟩ <;> subst hb
  · refine callT_enterS F.ipart (by simp [irPartN]) ?_
    simp [irPartN]
    refine lwp_drawN1' ?_
    simp
    refine callT_own 0 rfl (by simp) (by simp [mapO, argOwn_toL, argOwn_bool, argOwn_ptr]) (hx true _) ?_
    rintro r c' ⟨rfl, rfl⟩
    simp [setCells_toL]
    refine callT_enter F.iboth (by simp [irBothN]) ?_
    simp [irBothN, setCells_at4]
    refine own_leaf ?_ rfl rfl
    rw [T.turn_mk, if_neg hn, if_neg (by rw [hl]; decide)]
    simp [turnOp]
  · refine callT_enterS F.ipart (by simp [irPartN]) ?_
    simp [irPartN]
    refine lwp_drawN1' ?_
    simp
    refine callT_own 0 rfl (by simp) (by simp [mapO, argOwn_toL, argOwn_bool, argOwn_ptr]) (hx false _) ?_
    rintro r c' ⟨rfl, rfl⟩
    simp [setCells_toL]
    refine callT_enter F.iboth (by simp [irBothN]) ?_
    simp [irBothN, setCells_at4]
    refine own_leaf ?_ rfl rfl
    rw [T.turn_mk, if_neg hn, if_neg (by rw [hl]; decide)]
    simp [turnOp]

theorem turn_19 {n pl : Int} {x y : T} (hx : ∀ b k, callAt P F.turn [x.toL, boolL b, .ptr 0 0] [some [intL k]] (ownK (TurnK x b k))) (hy : ∀ b k, callAt P F.turn [y.toL, boolL b, .ptr 0 0] [some [intL k]] (ownK (TurnK y b k)))
    (hok : (T.mk 19 n pl [x, y]).Ok) (hl : (T.mk 19 n pl [x, y]).lit = false) (b : Bool) (k : Int) (hn : ¬ w64i (k - 1) < 0) : callAt P F.turn [(T.mk 19 n pl [x, y]).toL, boolL b, .ptr 0 0] [some [intL k]] (ownK (TurnK (T.mk 19 n pl [x, y]) b k)) := by
  have hlit := F.ilit _ hok
  rw [hl] at hlit
  have hn' : 0 ≤ w64i (k - 1) := by omega
  refine callAt_enterS F.iturn (by simp [irTurnN]) ?_
  simp [irTurnN, toL_mk, hn]
  refine callT_plain hlit rfl (by simp [toL_mk]) ?_
  simp
  refine lwp_drawN1' ?_
  simp
  refine callT_enterS F.iand (by simp [irAndN]) ?_
  simp [irAndN]
  refine lwp_drawN1' ?_
  simp
  refine callT_enterS F.ipart (by simp [irPartN]) ?_
  simp [irPartN]
  refine lwp_drawN1' ?_
  simp
  refine callT_own 0 rfl (by simp) (by simp [mapO, argOwn_toL, argOwn_bool, argOwn_ptr]) (hx false _) ?_
  rintro r c' ⟨rfl, rfl⟩
  simp [setCells_toL]
  refine callT_enterS F.ipart (by simp [irPartN]) ?_
  simp [irPartN]
  refine lwp_drawN1' ?_
  simp
  refine callT_own 0 rfl (by simp) (by simp [mapO, argOwn_toL, argOwn_bool, argOwn_ptr]) (hy b _) ?_
  rintro r c' ⟨rfl, rfl⟩
  simp [setCells_toL, setCells8, setCells8_len]
  refine callT_enterS F.iand (by simp [irAndN]) ?_
  simp [irAndN]
  refine lwp_drawN1' ?_
  simp
  refine callT_enterS F.ipart (by simp [irPartN]) ?_
  simp [irPartN]
  refine lwp_drawN1' ?_
  simp
  refine callT_own 0 rfl (by simp) (by simp [mapO, argOwn_toL, argOwn_bool, argOwn_ptr]) (hx true _) ?_
  rintro r c' ⟨rfl, rfl⟩
  simp [setCells_toL]
  refine callT_enterS F.ipart (by simp [irPartN]) ?_
  simp [irPartN]
  refine lwp_drawN1' ?_
  simp
  refine callT_own 0 rfl (by simp) (by simp [mapO, argOwn_toL, argOwn_bool, argOwn_ptr]) (hy (!b) _) ?_
  rintro r c' ⟨rfl, rfl⟩
  simp [setCells_toL, setCells8, setCells8_len]
  refine own_iff ?_ rfl rfl rfl rfl
  rw [T.turn_mk, if_neg hn, if_neg (by rw [hl]; decide)]
  simp [turnOp]

theorem turn_small {n pl op : Int} {l : List T} (b : Bool) (k : Int) (hn : w64i (k - 1) < 0) : callAt P F.turn [(T.mk op n pl l).toL, boolL b, .ptr 0 0] [some [intL k]] (ownK (TurnK (T.mk op n pl l) b k)) := by
  refine callAt_enterS F.iturn (by simp [irTurnN]) ?_
  have hn' : ¬ 0 ≤ w64i (k - 1) := by omega
  simp [irTurnN, toL_mk, hn]
  refine own_none ?_ rfl
  rw [T.turn_mk, if_pos hn]

theorem turn_lit {n pl op : Int} {l : List T} (hok : (T.mk op n pl l).Ok) (hl : (T.mk op n pl l).lit = true) (b : Bool) (k : Int) (hn : ¬ w64i (k - 1) < 0) : callAt P F.turn [(T.mk op n pl l).toL, boolL b, .ptr 0 0] [some [intL k]] (ownK (TurnK (T.mk op n pl l) b k)) := by
  have hlit := F.ilit _ hok
  rw [hl] at hlit
  have hn' : 0 ≤ w64i (k - 1) := by omega
  refine callAt_enterS F.iturn (by simp [irTurnN]) ?_
  simp [irTurnN, toL_mk, hn]
  refine callT_plain hlit rfl (by simp [toL_mk]) ?_
  simp
  refine ⟨fun hb => ?_, fun hb => ?_⟩ <;> subst hb
  · refine own_node1 (a := T.mk op n pl l) ?_ rfl ?_
    · rw [T.turn_mk, if_neg hn, if_pos hl]; simp
    · simp [toL_mk]
  · have : ownK (TurnK (T.mk op n pl l) false k) (T.mk op n pl l).toL _ := own_tree (H := [some [intL (w64i (k - 1))], some (T.mk op n pl l).toL.cells, some [boolL false], some [.ptr 0 0], some (T.mk op n pl l).toL.cells]) (by rw [T.turn_mk, if_neg hn, if_pos hl]; simp) rfl
    simpa [toL_mk] using this

/-- What the program makes of a formula, the counter at hand. -/
theorem turn_gen {vars : Int} : ∀ t : T, t.Ok → t.may vars = true → t.type.2.1 = 0 → t.type.1 ≠ 1 → ∀ b k, callAt P F.turn [t.toL, boolL b, .ptr 0 0] [some [intL k]] (ownK (TurnK t b k)) := by
  intro t
  refine T.ind (M := fun t => t.Ok → t.may vars = true → t.type.2.1 = 0 → t.type.1 ≠ 1 → ∀ b k, callAt P F.turn [t.toL, boolL b, .ptr 0 0] [some [intL k]] (ownK (TurnK t b k))) ?_ t
  intro op n pl l ih hok hm hg h1 b k
  by_cases hn : w64i (k - 1) < 0
  · exact turn_small F b k hn
  cases hl : (T.mk op n pl l).lit
  · obtain ⟨h15, h24, hw, hk⟩ := time_kids hm hg h1 hl
    have hkid := fun t ht => ih t ht (hok.kid t ht) (hk t ht).1 (hk t ht).2.1 (hk t ht).2.2
    have hop : op = 15 ∨ op = 16 ∨ op = 17 ∨ op = 18 ∨ op = 19 ∨ op = 20 ∨ op = 21 ∨ op = 22 ∨ op = 23 ∨ op = 24 := by omega
    have one : wants op = 1 → ∃ x, l = [x] := fun h => by
      rw [h] at hw
      match l, hw with
      | [x], _ => exact ⟨x, rfl⟩
      | [], hw => simp at hw
      | _ :: _ :: l, hw => simp at hw; omega
    have two : wants op = 2 → ∃ x y, l = [x, y] := fun h => by
      rw [h] at hw
      match l, hw with
      | [x, y], _ => exact ⟨x, y, rfl⟩
      | [], hw => simp at hw
      | [_], hw => simp at hw
      | _ :: _ :: _ :: l, hw => simp at hw; omega
    rcases hop with rfl | rfl | rfl | rfl | rfl | rfl | rfl | rfl | rfl | rfl
    · obtain ⟨x, rfl⟩ := one rfl; exact turn_15 F (hkid x (by simp)) hok hl b k hn
    · obtain ⟨x, y, rfl⟩ := two rfl; exact turn_16 F (hkid x (by simp)) (hkid y (by simp)) hok hl b k hn
    · obtain ⟨x, y, rfl⟩ := two rfl; exact turn_17 F (hkid x (by simp)) (hkid y (by simp)) hok hl b k hn
    · obtain ⟨x, y, rfl⟩ := two rfl; exact turn_18 F (hkid x (by simp)) (hkid y (by simp)) hok hl b k hn
    · obtain ⟨x, y, rfl⟩ := two rfl; exact turn_19 F (hkid x (by simp)) (hkid y (by simp)) hok hl b k hn
    · obtain ⟨x, rfl⟩ := one rfl; exact turn_20 F (hkid x (by simp)) hok hl b k hn
    · obtain ⟨x, rfl⟩ := one rfl; exact turn_21 F (hkid x (by simp)) hok hl b k hn
    · obtain ⟨x, rfl⟩ := one rfl; exact turn_22 F (hkid x (by simp)) hok hl b k hn
    · obtain ⟨x, y, rfl⟩ := two rfl; exact turn_23 F (hkid x (by simp)) (hkid y (by simp)) hok hl b k hn
    · obtain ⟨x, y, rfl⟩ := two rfl; exact turn_24 F (hkid x (by simp)) (hkid y (by simp)) hok hl b k hn
  · exact turn_lit F hok hl b k hn

/-- A formula that is right, or its negation, and its code. -/
def T.made (t : T) (b : Bool) : T × Int := if (t.turn b 24).2 < 0 then (T.none0, 9) else ((t.turn b 24).1, 0)

theorem made_gen {made : Nat} (imade : compF P made = some (irMadeN F.turn)) {vars : Int} {t : T} (hok : t.Ok) (hm : t.may vars = true) (hg : t.type.2.1 = 0) (h1 : t.type.1 ≠ 1) (b : Bool) : PC P made [t.toL, boolL b] (.tup [(t.made b).1.toL, intL (t.made b).2]) := by
  refine pc_of_call' (callAt_enter imade (by simp [irMadeN]) ?_)
  simp [irMadeN, topOK_toL]
  refine callT_own 2 rfl (by simp) (by simp [mapO, argOwn_toL, argOwn_bool, argOwn_ptr]) (turn_gen F t hok hm hg h1 b 24) ?_
  rintro r c' ⟨rfl, rfl⟩
  simp [setCells_toL]
  refine ⟨fun h => ?_, fun h => ?_⟩
  · have e : t.made b = (T.none0, 9) := by unfold T.made; rw [if_pos h]
    rw [e]
    exact Sub.tupL (.cons (sub_tree (t := T.none0) sub_leaf) (.cons (.refl _) .nil))
  · have e : t.made b = ((t.turn b 24).1, 0) := by unfold T.made; rw [if_neg (by omega)]
    rw [e]
    exact .refl _

theorem of_gen {made f : Nat} (imade : compF P made = some (irMadeN F.turn)) {b : Bool} (iof : compF P f = some (irOfN made b)) {vars : Int} {t : T} (hok : t.Ok) (hm : t.may vars = true) (hg : t.type.2.1 = 0) (h1 : t.type.1 ≠ 1) : PC P f [t.toL] (.tup [(t.made b).1.toL, intL (t.made b).2]) := by
  refine pc_of_call (callAt_enter iof (by simp [irOfN]) ?_)
  simp [irOfN, topOK_toL]
  refine callT_closed (made_gen F imade hok hm hg h1 b) (by simp [mapO, reso_toL]) ?_
  simp [setCells_toL, reso, mapO]

end Lg
