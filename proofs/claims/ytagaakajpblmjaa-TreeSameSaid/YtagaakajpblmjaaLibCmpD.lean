/- The collapsed store: the program's functions, shared by several packages. -/
import Derived.Test.YtagaakajpblmjaaLibSchM
import Derived.Test.YtagaakajpblmjaaLibOrd
namespace Lg
open Go
def irCLay  : FnIR := ⟨28, [.t 4],
  (.seq (.ops [⟨some 4, .mov (.c (.v (.slice none 0 0))), none⟩])
  (.seq (.seq (.ops [⟨some 8, .mov (.t 1), none⟩,
    ⟨some 9, .len false (.t 8), none⟩,
    ⟨some 10, .mov (.c (.v (.int .i64 0))), none⟩])
  (.block 0 (.loop
    (.seq (.ops [⟨some 11, .bin .lss false (.t 10) (.t 9), none⟩])
    (.seq (.cond (.t 11)
      .skip
      (.exit 0))
    (.seq (.block 1 (.seq (.ops [⟨some 12, .iaddr 1 (.t 8) (.t 10), none⟩,
      ⟨some 13, .load 1 false (.t 12), none⟩,
      ⟨some 6, .mov (.t 13), none⟩])
    (.seq (.ops [⟨some 14, .mov (.c (.v (.int .i64 0))), none⟩])
    (.block 2 (.loop
      (.seq (.ops [⟨some 15, .bin .lss false (.t 14) (.c (.v (.int .i64 4))), none⟩])
      (.seq (.cond (.t 15)
        .skip
        (.exit 2))
      (.seq (.block 3 (.seq (.ops [⟨some 16, .mov (.t 14), none⟩,
        ⟨some 7, .mov (.t 16), none⟩])
      (.ops [⟨some 17, .mov (.t 0), none⟩,
        ⟨some 18, .mov (.t 6), none⟩,
        ⟨some 19, .mov (.t 7), none⟩,
        ⟨some 20, .bin .mul false (.c (.v (.int .i64 8))) (.t 19), none⟩,
        ⟨some 21, .bin .shr false (.t 18) (.t 20), none⟩,
        ⟨some 22, .conv .u8 (.t 21), none⟩,
        ⟨some 23, .bslice 1 [(.v (.int .u8 0))] 1 [(0, 1, (.t 22))], none⟩,
        ⟨some 24, .append 1 1 [(.v (.int .u8 0))] (.t 17) (.t 23), none⟩,
        ⟨some 0, .mov (.t 24), none⟩])))
      (.ops [⟨some 25, .bin .add false (.t 14) (.c (.v (.int .i64 1))), none⟩,
        ⟨some 14, .mov (.t 25), none⟩])))))))))
    (.ops [⟨some 26, .bin .add false (.t 10) (.c (.v (.int .i64 1))), none⟩,
      ⟨some 10, .mov (.t 26), none⟩])))))))
  (.seq (.ops [⟨some 27, .mov (.t 0), none⟩,
    ⟨some 4, .mov (.t 27), none⟩])
  .ret)))⟩
def irCChunks (it : Nat) : FnIR := ⟨6, [.t 4],
  (.seq (.ops [⟨some 2, .box (.t 0), none⟩,
    ⟨some 3, .box (.t 1), none⟩,
    ⟨some 4, .mov (.c (.v .nilFunc)), none⟩])
  (.seq (.ops [⟨some 5, .mkfn (.func it) [] [(.t 2), (.t 3)], none⟩,
    ⟨some 4, .mov (.t 5), none⟩])
  .ret))⟩
def irCIt (enc : Nat) : FnIR := ⟨40, [],
  (.seq (.ops [⟨some 4, .mov (.c (.v (.int .i64 0))), none⟩])
  (.block 0 (.loop
    (.seq (.seq (.ops [⟨some 8, .mov (.t 4), none⟩,
      ⟨some 9, .bin .mul false (.t 8) (.c (.v (.int .i64 2))), none⟩,
      ⟨some 10, .load 1 false (.t 1), none⟩,
      ⟨some 11, .len false (.t 10), none⟩,
      ⟨some 12, .bin .lss false (.t 9) (.t 11), none⟩])
    (.cond (.t 12)
      .skip
      (.exit 0)))
    (.seq (.block 1 (.seq (.ops [⟨some 15, .load 1 false (.t 1), none⟩,
      ⟨some 16, .len false (.t 15), none⟩,
      ⟨some 17, .mov (.t 4), none⟩,
      ⟨some 18, .bin .add false (.t 17) (.c (.v (.int .i64 1))), none⟩,
      ⟨some 19, .bin .mul false (.t 18) (.c (.v (.int .i64 2))), none⟩,
      ⟨some 20, .mm false (.t 16) [(.t 19)], none⟩,
      ⟨some 5, .mov (.t 20), none⟩])
    (.seq (.draw [[⟨some 22, .load 1 false (.t 1), none⟩,
        ⟨some 23, .mov (.t 4), none⟩,
        ⟨some 24, .bin .mul false (.t 23) (.c (.v (.int .i64 2))), none⟩,
        ⟨some 25, .mov (.t 5), none⟩,
        ⟨some 26, .slice 2 (.t 22) (some (.t 24)) (some (.t 25)) none, none⟩,
        ⟨some 27, .load 1 false (.t 2), none⟩,
        ⟨some 28, .mov (.t 4), none⟩,
        ⟨some 29, .bin .mul false (.t 28) (.c (.v (.int .i64 2))), none⟩,
        ⟨some 30, .mov (.t 5), none⟩,
        ⟨some 31, .slice 1 (.t 27) (some (.t 29)) (some (.t 30)) none, none⟩],
      [⟨some 32, .call enc [(.t 26), (.t 31)], none⟩],
      [⟨some 21, .mov (.t 32), none⟩],
      [⟨some 33, .extract (.t 21) 0, none⟩,
        ⟨some 34, .extract (.t 21) 1, none⟩,
        ⟨some 6, .mov (.t 33), none⟩],
      [⟨some 7, .mov (.t 34), none⟩]])
    (.seq (.ops [⟨some 35, .mov (.t 0), none⟩,
      ⟨some 36, .mov (.t 4), none⟩,
      ⟨some 37, .mov (.t 6), none⟩,
      ⟨some 38, .calld (.t 35) [(.t 36), (.t 37)], none⟩,
      ⟨some 39, .un .not (.t 38), none⟩])
    (.cond (.t 39)
      .ret
      .skip)))))
    (.ops [⟨some 13, .mov (.t 4), none⟩,
      ⟨some 14, .bin .add false (.t 13) (.c (.v (.int .i64 1))), none⟩,
      ⟨some 4, .mov (.t 14), none⟩]))))))⟩
def irCFind (ch tf : Nat) (rc : RC) : FnIR := ⟨45, [.c 6 1 false],
  (.seq (.ops [⟨some 3, .box (.t 0), none⟩,
    ⟨some 6, .alloc (.v (.int .i64 0)), none⟩])
  (.seq (.ops [⟨some 7, .alloc (.v (.slice none 0 0)), none⟩])
  (.seq (.seq (.ops [⟨some 14, .mov (.t 1), none⟩,
    ⟨some 15, .mov (.t 2), none⟩,
    ⟨some 16, .call ch [(.t 14), (.t 15)], none⟩])
  (.block 0 (.range (.t 16) [3, 6, 7] rc)))
  (.seq (.ops [⟨some 36, .faddr 1 (.t 3), none⟩,
    ⟨some 37, .load 3 true (.t 36), none⟩,
    ⟨some 38, .load 1 false (.t 7), none⟩,
    ⟨some 39, .call tf [(.t 37), (.t 38)], none⟩,
    ⟨some 35, .mov (.t 39), none⟩,
    ⟨some 40, .extract (.t 35) 0, none⟩,
    ⟨some 41, .extract (.t 35) 1, none⟩,
    ⟨some 12, .mov (.t 40), none⟩,
    ⟨some 13, .mov (.t 41), none⟩])
  (.seq (.seq (.ops [⟨some 42, .mov (.t 13), none⟩,
    ⟨some 43, .un .not (.t 42), none⟩])
  (.cond (.t 43)
    (.seq (.ops [⟨none, .store 1 (.t 6) (.c (.v (.int .i64 (-1)))), none⟩])
    .ret)
    .skip))
  (.seq (.ops [⟨some 44, .mov (.t 12), none⟩,
    ⟨none, .store 1 (.t 6) (.t 44), none⟩])
  .ret))))))⟩
def irCFindAs  : IR := (.seq (.ops [⟨some 8, .mov (.t 17), none⟩])
  (.ops [⟨some 9, .mov (.t 18), none⟩]))
def irCFindBd (tf lay : Nat) : IR := (.block 1 (.seq (.ops [⟨some 20, .faddr 0 (.t 3), none⟩,
    ⟨some 21, .load 1 false (.t 20), none⟩,
    ⟨some 22, .mov (.t 8), none⟩,
    ⟨some 23, .iaddr 3 (.t 21) (.t 22), none⟩,
    ⟨some 24, .load 3 true (.t 23), none⟩,
    ⟨some 25, .mov (.t 9), none⟩,
    ⟨some 26, .call tf [(.t 24), (.t 25)], none⟩,
    ⟨some 19, .mov (.t 26), none⟩,
    ⟨some 27, .extract (.t 19) 0, none⟩,
    ⟨some 28, .extract (.t 19) 1, none⟩,
    ⟨some 10, .mov (.t 27), none⟩,
    ⟨some 11, .mov (.t 28), none⟩])
  (.seq (.seq (.ops [⟨some 29, .mov (.t 11), none⟩,
    ⟨some 30, .un .not (.t 29), none⟩])
  (.cond (.t 30)
    (.seq (.ops [⟨none, .store 1 (.t 6) (.c (.v (.int .i64 (-1)))), none⟩])
    .ret)
    .skip))
  (.ops [⟨some 31, .load 1 false (.t 7), none⟩,
    ⟨some 32, .mov (.t 10), none⟩,
    ⟨some 33, .bslice 1 [(.v (.int .i64 0))] 1 [(0, 1, (.t 32))], none⟩,
    ⟨some 34, .call lay [(.t 31), (.t 33)], none⟩,
    ⟨none, .store 1 (.t 7) (.t 34), none⟩]))))
def irCIns (inn find many cl ch ins clip : Nat) (rc : RC) : FnIR := ⟨84, [.c 6 5 true, .t 7, .t 8],
  (.seq (.ops [⟨some 3, .box (.t 0), none⟩,
    ⟨some 6, .alloc (.agg [(.v (.slice none 0 0)), (.v (.int .i64 0)), (.v (.slice none 0 0)), (.v (.slice none 0 0)), (.v (.slice none 0 0))]), none⟩,
    ⟨some 7, .mov (.c (.v (.bool false))), none⟩,
    ⟨some 8, .mov (.c (.v (.int .i64 0))), none⟩])
  (.seq (.seq (.ops [⟨some 17, .mov (.t 1), none⟩,
    ⟨some 18, .mov (.t 2), none⟩,
    ⟨some 19, .call inn [(.t 17), (.t 18)], none⟩,
    ⟨some 9, .mov (.t 19), none⟩])
  (.seq (.ops [⟨some 20, .mov (.t 9), none⟩,
    ⟨some 21, .bin .neq false (.t 20) (.c (.v (.int .i64 0))), none⟩])
  (.cond (.t 21)
    (.seq (.ops [⟨some 22, .load 5 true (.t 3), none⟩,
      ⟨some 23, .mov (.t 9), none⟩,
      ⟨none, .store 5 (.t 6) (.t 22), none⟩,
      ⟨some 7, .mov (.c (.v (.bool false))), none⟩,
      ⟨some 8, .mov (.t 23), none⟩])
    .ret)
    .skip)))
  (.seq (.seq (.ops [⟨some 24, .load 5 true (.t 3), none⟩,
    ⟨some 25, .mov (.t 1), none⟩,
    ⟨some 26, .mov (.t 2), none⟩,
    ⟨some 27, .call find [(.t 24), (.t 25), (.t 26)], none⟩,
    ⟨some 28, .bin .geq false (.t 27) (.c (.v (.int .i64 0))), none⟩])
  (.cond (.t 28)
    (.seq (.ops [⟨some 29, .load 5 true (.t 3), none⟩,
      ⟨none, .store 5 (.t 6) (.t 29), none⟩,
      ⟨some 7, .mov (.c (.v (.bool false))), none⟩,
      ⟨some 8, .mov (.c (.v (.int .i64 0))), none⟩])
    .ret)
    .skip))
  (.seq (.seq (.draw [[⟨some 30, .load 5 true (.t 3), none⟩,
      ⟨some 31, .call many [(.t 30)], none⟩,
      ⟨some 32, .faddr 1 (.t 3), none⟩,
      ⟨some 33, .faddr 0 (.t 32), none⟩,
      ⟨some 34, .load 1 false (.t 33), none⟩],
    [⟨some 35, .bin .geq false (.t 31) (.t 34), none⟩]])
  (.cond (.t 35)
    (.seq (.ops [⟨some 36, .load 5 true (.t 3), none⟩,
      ⟨none, .store 5 (.t 6) (.t 36), none⟩,
      ⟨some 7, .mov (.c (.v (.bool false))), none⟩,
      ⟨some 8, .mov (.c (.v (.int .i64 7))), none⟩])
    .ret)
    .skip))
  (.seq (.ops [⟨some 37, .faddr 0 (.t 3), none⟩,
    ⟨some 38, .load 1 false (.t 37), none⟩,
    ⟨some 39, .call cl [(.t 38)], none⟩,
    ⟨some 40, .faddr 0 (.t 3), none⟩,
    ⟨none, .store 1 (.t 40) (.t 39), none⟩])
  (.seq (.ops [⟨some 10, .alloc (.v (.slice none 0 0)), none⟩])
  (.seq (.seq (.ops [⟨some 41, .mov (.t 1), none⟩,
    ⟨some 42, .mov (.t 2), none⟩,
    ⟨some 43, .call ch [(.t 41), (.t 42)], none⟩])
  (.block 0 (.range (.t 43) [3, 10] rc)))
  (.seq (.ops [⟨some 68, .faddr 1 (.t 3), none⟩,
    ⟨some 69, .load 3 true (.t 68), none⟩,
    ⟨some 70, .load 1 false (.t 10), none⟩,
    ⟨some 71, .call ins [(.t 69), (.t 70)], none⟩,
    ⟨some 67, .mov (.t 71), none⟩,
    ⟨some 72, .extract (.t 67) 0, none⟩,
    ⟨some 73, .extract (.t 67) 1, none⟩,
    ⟨some 74, .extract (.t 67) 2, none⟩,
    ⟨some 75, .extract (.t 67) 3, none⟩,
    ⟨some 76, .faddr 1 (.t 3), none⟩,
    ⟨none, .store 3 (.t 76) (.t 72), none⟩])
  (.seq (.ops [⟨some 77, .faddr 4 (.t 3), none⟩,
    ⟨some 78, .load 1 false (.t 77), none⟩,
    ⟨some 79, .call clip [(.t 78)], none⟩,
    ⟨some 80, .bslice 1 [(.v (.int .u8 0))] 1 [(0, 1, (.c (.v (.int .u8 0))))], none⟩,
    ⟨some 81, .append 1 1 [(.v (.int .u8 0))] (.t 79) (.t 80), none⟩,
    ⟨some 82, .faddr 4 (.t 3), none⟩,
    ⟨none, .store 1 (.t 82) (.t 81), none⟩])
  (.seq (.ops [⟨some 83, .load 5 true (.t 3), none⟩,
    ⟨none, .store 5 (.t 6) (.t 83), none⟩,
    ⟨some 7, .mov (.c (.v (.bool true))), none⟩,
    ⟨some 8, .mov (.c (.v (.int .i64 0))), none⟩])
  .ret))))))))))⟩
def irCInsAs  : IR := (.seq (.ops [⟨some 11, .mov (.t 44), none⟩])
  (.ops [⟨some 12, .mov (.t 45), none⟩]))
def irCInsBd (ins lay : Nat) : IR := (.block 1 (.seq (.ops [⟨some 47, .faddr 0 (.t 3), none⟩,
    ⟨some 48, .load 1 false (.t 47), none⟩,
    ⟨some 49, .mov (.t 11), none⟩,
    ⟨some 50, .iaddr 3 (.t 48) (.t 49), none⟩,
    ⟨some 51, .load 3 true (.t 50), none⟩,
    ⟨some 52, .mov (.t 12), none⟩,
    ⟨some 53, .call ins [(.t 51), (.t 52)], none⟩,
    ⟨some 46, .mov (.t 53), none⟩,
    ⟨some 54, .extract (.t 46) 0, none⟩,
    ⟨some 55, .extract (.t 46) 1, none⟩,
    ⟨some 56, .extract (.t 46) 2, none⟩,
    ⟨some 57, .extract (.t 46) 3, none⟩,
    ⟨some 13, .alloc (.agg [(.v (.int .i64 0)), (.v (.slice none 0 0)), (.v (.slice none 0 0))]), none⟩,
    ⟨none, .store 3 (.t 13) (.t 54), none⟩,
    ⟨some 14, .mov (.t 55), none⟩,
    ⟨some 15, .mov (.t 56), none⟩,
    ⟨some 16, .mov (.t 57), none⟩])
  (.drawF [([0, 1, 2, 3], [⟨some 58, .faddr 0 (.t 3), none⟩,
      ⟨some 59, .load 1 false (.t 58), none⟩,
      ⟨some 60, .mov (.t 11), none⟩,
      ⟨some 61, .load 3 true (.t 13), none⟩,
      ⟨some 62, .load 1 false (.t 10), none⟩,
      ⟨some 63, .mov (.t 14), none⟩,
      ⟨some 64, .bslice 1 [(.v (.int .i64 0))] 1 [(0, 1, (.t 63))], none⟩,
      ⟨some 65, .call lay [(.t 62), (.t 64)], none⟩]),
    ([], [⟨some 66, .iaddr 3 (.t 59) (.t 60), none⟩]),
    ([], [⟨none, .store 3 (.t 66) (.t 61), none⟩]),
    ([], [⟨none, .store 1 (.t 10) (.t 65), none⟩])])))
def irCNew (new : Nat) : FnIR := ⟨42, [.c 4 5 true, .t 5],
  (.seq (.ops [⟨some 4, .alloc (.agg [(.v (.slice none 0 0)), (.v (.int .i64 0)), (.v (.slice none 0 0)), (.v (.slice none 0 0)), (.v (.slice none 0 0))]), none⟩,
    ⟨some 5, .mov (.c (.v (.int .i64 0))), none⟩])
  (.seq (.ops [⟨some 12, .mov (.t 1), none⟩,
    ⟨some 13, .call new [(.t 12)], none⟩,
    ⟨some 11, .mov (.t 13), none⟩,
    ⟨some 14, .extract (.t 11) 0, none⟩,
    ⟨some 15, .extract (.t 11) 1, none⟩,
    ⟨some 6, .alloc (.agg [(.v (.int .i64 0)), (.v (.slice none 0 0)), (.v (.slice none 0 0))]), none⟩,
    ⟨none, .store 3 (.t 6) (.t 14), none⟩,
    ⟨some 7, .mov (.t 15), none⟩])
  (.seq (.seq (.ops [⟨some 16, .mov (.t 7), none⟩,
    ⟨some 17, .bin .neq false (.t 16) (.c (.v (.int .i64 0))), none⟩])
  (.cond (.t 17)
    (.seq (.ops [⟨some 18, .build [(.v (.slice none 0 0)), (.v (.int .i64 0)), (.v (.slice none 0 0)), (.v (.slice none 0 0)), (.v (.slice none 0 0))] [], none⟩,
      ⟨some 19, .mov (.t 7), none⟩,
      ⟨none, .store 5 (.t 4) (.t 18), none⟩,
      ⟨some 5, .mov (.t 19), none⟩])
    .ret)
    .skip))
  (.seq (.ops [⟨some 20, .load 3 true (.t 6), none⟩,
    ⟨some 21, .build [(.v (.slice none 0 0)), (.v (.int .i64 0)), (.v (.slice none 0 0)), (.v (.slice none 0 0)), (.v (.slice none 0 0))] [(1, 3, (.t 20))], none⟩,
    ⟨some 8, .alloc (.agg [(.v (.slice none 0 0)), (.v (.int .i64 0)), (.v (.slice none 0 0)), (.v (.slice none 0 0)), (.v (.slice none 0 0))]), none⟩,
    ⟨none, .store 5 (.t 8) (.t 21), none⟩])
  (.seq (.seq (.ops [⟨some 22, .mov (.t 0), none⟩,
    ⟨some 23, .len false (.t 22), none⟩,
    ⟨some 24, .bin .add false (.t 23) (.c (.v (.int .i64 2))), none⟩,
    ⟨some 25, .bin .sub false (.t 24) (.c (.v (.int .i64 1))), none⟩,
    ⟨some 26, .bin .quo false (.t 25) (.c (.v (.int .i64 2))), none⟩,
    ⟨some 27, .mov (.c (.v (.int .i64 0))), none⟩])
  (.block 0 (.loop
    (.seq (.ops [⟨some 28, .bin .lss false (.t 27) (.t 26), none⟩])
    (.seq (.cond (.t 28)
      .skip
      (.exit 0))
    (.seq (.block 1 (.seq (.ops [⟨some 30, .mov (.t 1), none⟩,
      ⟨some 31, .call new [(.t 30)], none⟩,
      ⟨some 29, .mov (.t 31), none⟩,
      ⟨some 32, .extract (.t 29) 0, none⟩,
      ⟨some 33, .extract (.t 29) 1, none⟩,
      ⟨some 9, .alloc (.agg [(.v (.int .i64 0)), (.v (.slice none 0 0)), (.v (.slice none 0 0))]), none⟩,
      ⟨none, .store 3 (.t 9) (.t 32), none⟩,
      ⟨some 10, .mov (.t 33), none⟩])
    (.ops [⟨some 34, .faddr 0 (.t 8), none⟩,
      ⟨some 35, .load 1 false (.t 34), none⟩,
      ⟨some 36, .load 3 true (.t 9), none⟩,
      ⟨some 37, .bslice 3 [(.v (.int .i64 0)), (.v (.slice none 0 0)), (.v (.slice none 0 0))] 1 [(0, 3, (.t 36))], none⟩,
      ⟨some 38, .append 3 56 [(.v (.int .i64 0)), (.v (.slice none 0 0)), (.v (.slice none 0 0))] (.t 35) (.t 37), none⟩,
      ⟨some 39, .faddr 0 (.t 8), none⟩,
      ⟨none, .store 1 (.t 39) (.t 38), none⟩])))
    (.ops [⟨some 40, .bin .add false (.t 27) (.c (.v (.int .i64 1))), none⟩,
      ⟨some 27, .mov (.t 40), none⟩])))))))
  (.seq (.ops [⟨some 41, .load 5 true (.t 8), none⟩,
    ⟨none, .store 5 (.t 4) (.t 41), none⟩,
    ⟨some 5, .mov (.c (.v (.int .i64 0))), none⟩])
  .ret))))))⟩
def irCMany (tm : Nat) : FnIR := ⟨6, [.t 2],
  (.seq (.ops [⟨some 1, .box (.t 0), none⟩,
    ⟨some 2, .mov (.c (.v (.int .i64 0))), none⟩])
  (.seq (.ops [⟨some 3, .faddr 1 (.t 1), none⟩,
    ⟨some 4, .load 3 true (.t 3), none⟩,
    ⟨some 5, .call tm [(.t 4)], none⟩,
    ⟨some 2, .mov (.t 5), none⟩])
  .ret))⟩
def irCParts (tm : Nat) : FnIR := ⟨20, [.t 2],
  (.seq (.ops [⟨some 1, .box (.t 0), none⟩,
    ⟨some 2, .mov (.c (.v (.slice none 0 0))), none⟩])
  (.seq (.ops [⟨some 3, .mov (.c (.v (.slice none 0 0))), none⟩])
  (.seq (.seq (.ops [⟨some 6, .faddr 0 (.t 1), none⟩,
    ⟨some 7, .load 1 false (.t 6), none⟩,
    ⟨some 8, .len false (.t 7), none⟩,
    ⟨some 9, .mov (.c (.v (.int .i64 0))), none⟩])
  (.block 0 (.loop
    (.seq (.ops [⟨some 10, .bin .lss false (.t 9) (.t 8), none⟩])
    (.seq (.cond (.t 10)
      .skip
      (.exit 0))
    (.seq (.block 1 (.seq (.ops [⟨some 11, .iaddr 3 (.t 7) (.t 9), none⟩,
      ⟨some 12, .load 3 true (.t 11), none⟩,
      ⟨some 5, .alloc (.agg [(.v (.int .i64 0)), (.v (.slice none 0 0)), (.v (.slice none 0 0))]), none⟩,
      ⟨none, .store 3 (.t 5) (.t 12), none⟩])
    (.ops [⟨some 13, .mov (.t 3), none⟩,
      ⟨some 14, .load 3 true (.t 5), none⟩,
      ⟨some 15, .call tm [(.t 14)], none⟩,
      ⟨some 16, .bslice 1 [(.v (.int .i64 0))] 1 [(0, 1, (.t 15))], none⟩,
      ⟨some 17, .append 1 8 [(.v (.int .i64 0))] (.t 13) (.t 16), none⟩,
      ⟨some 3, .mov (.t 17), none⟩])))
    (.ops [⟨some 18, .bin .add false (.t 9) (.c (.v (.int .i64 1))), none⟩,
      ⟨some 9, .mov (.t 18), none⟩])))))))
  (.seq (.ops [⟨some 19, .mov (.t 3), none⟩,
    ⟨some 2, .mov (.t 19), none⟩])
  .ret))))⟩
def irCMember (inn find : Nat) : FnIR := ⟨20, [.t 6, .t 7],
  (.seq (.ops [⟨some 3, .box (.t 0), none⟩,
    ⟨some 6, .mov (.c (.v (.bool false))), none⟩,
    ⟨some 7, .mov (.c (.v (.int .i64 0))), none⟩])
  (.seq (.seq (.ops [⟨some 9, .mov (.t 1), none⟩,
    ⟨some 10, .mov (.t 2), none⟩,
    ⟨some 11, .call inn [(.t 9), (.t 10)], none⟩,
    ⟨some 8, .mov (.t 11), none⟩])
  (.seq (.ops [⟨some 12, .mov (.t 8), none⟩,
    ⟨some 13, .bin .neq false (.t 12) (.c (.v (.int .i64 0))), none⟩])
  (.cond (.t 13)
    (.seq (.ops [⟨some 14, .mov (.t 8), none⟩,
      ⟨some 6, .mov (.c (.v (.bool false))), none⟩,
      ⟨some 7, .mov (.t 14), none⟩])
    .ret)
    .skip)))
  (.seq (.ops [⟨some 15, .load 5 true (.t 3), none⟩,
    ⟨some 16, .mov (.t 1), none⟩,
    ⟨some 17, .mov (.t 2), none⟩,
    ⟨some 18, .call find [(.t 15), (.t 16), (.t 17)], none⟩,
    ⟨some 19, .bin .geq false (.t 18) (.c (.v (.int .i64 0))), none⟩,
    ⟨some 6, .mov (.t 19), none⟩,
    ⟨some 7, .mov (.c (.v (.int .i64 0))), none⟩])
  .ret)))⟩
def irCAt (inn find : Nat) : FnIR := ⟨31, [.t 8, .t 9],
  (.seq (.ops [⟨some 4, .box (.t 0), none⟩,
    ⟨some 8, .mov (.c (.v (.int .i64 0))), none⟩,
    ⟨some 9, .mov (.c (.v (.int .i64 0))), none⟩])
  (.seq (.seq (.ops [⟨some 12, .mov (.t 1), none⟩,
    ⟨some 13, .mov (.t 2), none⟩,
    ⟨some 14, .call inn [(.t 12), (.t 13)], none⟩,
    ⟨some 10, .mov (.t 14), none⟩])
  (.seq (.ops [⟨some 15, .mov (.t 10), none⟩,
    ⟨some 16, .bin .neq false (.t 15) (.c (.v (.int .i64 0))), none⟩])
  (.cond (.t 16)
    (.seq (.ops [⟨some 17, .mov (.t 10), none⟩,
      ⟨some 8, .mov (.c (.v (.int .i64 0))), none⟩,
      ⟨some 9, .mov (.t 17), none⟩])
    .ret)
    .skip)))
  (.seq (.seq (.ops [⟨some 18, .mov (.t 3), none⟩,
    ⟨some 19, .bin .lss false (.t 18) (.c (.v (.int .i64 0))), none⟩,
    ⟨some 20, .mov (.t 19), none⟩,
    ⟨some 21, .mov (.t 3), some (20, false)⟩,
    ⟨some 22, .bin .gtr false (.t 21) (.c (.v (.int .i64 1))), some (20, false)⟩,
    ⟨some 23, .pick (.t 20) (.c (.v (.bool true))) (.t 22), none⟩])
  (.cond (.t 23)
    (.seq (.ops [⟨some 8, .mov (.c (.v (.int .i64 0))), none⟩,
      ⟨some 9, .mov (.c (.v (.int .i64 1))), none⟩])
    .ret)
    .skip))
  (.seq (.ops [⟨some 24, .load 5 true (.t 4), none⟩,
    ⟨some 25, .mov (.t 1), none⟩,
    ⟨some 26, .mov (.t 2), none⟩,
    ⟨some 27, .call find [(.t 24), (.t 25), (.t 26)], none⟩,
    ⟨some 11, .mov (.t 27), none⟩])
  (.seq (.seq (.ops [⟨some 28, .mov (.t 11), none⟩,
    ⟨some 29, .bin .lss false (.t 28) (.c (.v (.int .i64 0))), none⟩])
  (.cond (.t 29)
    (.seq (.ops [⟨some 8, .mov (.c (.v (.int .i64 0))), none⟩,
      ⟨some 9, .mov (.c (.v (.int .i64 10))), none⟩])
    .ret)
    .skip))
  (.seq (.ops [⟨some 30, .mov (.t 11), none⟩,
    ⟨some 8, .mov (.t 30), none⟩,
    ⟨some 9, .mov (.c (.v (.int .i64 0))), none⟩])
  .ret))))))⟩
def irCSet (atN cl : Nat) : FnIR := ⟨38, [.c 8 5 true, .t 9],
  (.seq (.ops [⟨some 4, .box (.t 0), none⟩,
    ⟨some 8, .alloc (.agg [(.v (.slice none 0 0)), (.v (.int .i64 0)), (.v (.slice none 0 0)), (.v (.slice none 0 0)), (.v (.slice none 0 0))]), none⟩,
    ⟨some 9, .mov (.c (.v (.int .i64 0))), none⟩])
  (.seq (.ops [⟨some 13, .load 5 true (.t 4), none⟩,
    ⟨some 14, .mov (.t 1), none⟩,
    ⟨some 15, .mov (.t 2), none⟩,
    ⟨some 16, .mov (.t 3), none⟩,
    ⟨some 17, .call atN [(.t 13), (.t 14), (.t 15), (.t 16)], none⟩,
    ⟨some 12, .mov (.t 17), none⟩,
    ⟨some 18, .extract (.t 12) 0, none⟩,
    ⟨some 19, .extract (.t 12) 1, none⟩,
    ⟨some 10, .mov (.t 18), none⟩,
    ⟨some 11, .mov (.t 19), none⟩])
  (.seq (.seq (.ops [⟨some 20, .mov (.t 11), none⟩,
    ⟨some 21, .bin .neq false (.t 20) (.c (.v (.int .i64 0))), none⟩])
  (.cond (.t 21)
    (.seq (.ops [⟨some 22, .load 5 true (.t 4), none⟩,
      ⟨some 23, .mov (.t 11), none⟩,
      ⟨none, .store 5 (.t 8) (.t 22), none⟩,
      ⟨some 9, .mov (.t 23), none⟩])
    .ret)
    .skip))
  (.seq (.ops [⟨some 24, .faddr 4 (.t 4), none⟩,
    ⟨some 25, .load 1 false (.t 24), none⟩,
    ⟨some 26, .call cl [(.t 25)], none⟩,
    ⟨some 27, .faddr 4 (.t 4), none⟩,
    ⟨none, .store 1 (.t 27) (.t 26), none⟩])
  (.seq (.draw [[⟨some 28, .faddr 4 (.t 4), none⟩,
      ⟨some 29, .load 1 false (.t 28), none⟩,
      ⟨some 30, .mov (.t 10), none⟩,
      ⟨some 31, .iaddr 1 (.t 29) (.t 30), none⟩,
      ⟨some 32, .load 1 false (.t 31), none⟩,
      ⟨some 33, .mov (.t 3), none⟩,
      ⟨some 34, .bin .shl false (.c (.v (.int .u8 1))) (.t 33), none⟩],
    [⟨some 35, .bin .or false (.t 32) (.t 34), none⟩],
    [⟨some 36, .iaddr 1 (.t 29) (.t 30), none⟩],
    [⟨none, .store 1 (.t 36) (.t 35), none⟩]])
  (.seq (.ops [⟨some 37, .load 5 true (.t 4), none⟩,
    ⟨none, .store 5 (.t 8) (.t 37), none⟩,
    ⟨some 9, .mov (.c (.v (.int .i64 0))), none⟩])
  .ret))))))⟩
def irCGet (atN : Nat) : FnIR := ⟨32, [.t 8, .t 9],
  (.seq (.ops [⟨some 4, .box (.t 0), none⟩,
    ⟨some 8, .mov (.c (.v (.bool false))), none⟩,
    ⟨some 9, .mov (.c (.v (.int .i64 0))), none⟩])
  (.seq (.ops [⟨some 13, .load 5 true (.t 4), none⟩,
    ⟨some 14, .mov (.t 1), none⟩,
    ⟨some 15, .mov (.t 2), none⟩,
    ⟨some 16, .mov (.t 3), none⟩,
    ⟨some 17, .call atN [(.t 13), (.t 14), (.t 15), (.t 16)], none⟩,
    ⟨some 12, .mov (.t 17), none⟩,
    ⟨some 18, .extract (.t 12) 0, none⟩,
    ⟨some 19, .extract (.t 12) 1, none⟩,
    ⟨some 10, .mov (.t 18), none⟩,
    ⟨some 11, .mov (.t 19), none⟩])
  (.seq (.seq (.ops [⟨some 20, .mov (.t 11), none⟩,
    ⟨some 21, .bin .neq false (.t 20) (.c (.v (.int .i64 0))), none⟩])
  (.cond (.t 21)
    (.seq (.ops [⟨some 22, .mov (.t 11), none⟩,
      ⟨some 8, .mov (.c (.v (.bool false))), none⟩,
      ⟨some 9, .mov (.t 22), none⟩])
    .ret)
    .skip))
  (.seq (.ops [⟨some 23, .faddr 4 (.t 4), none⟩,
    ⟨some 24, .load 1 false (.t 23), none⟩,
    ⟨some 25, .mov (.t 10), none⟩,
    ⟨some 26, .iaddr 1 (.t 24) (.t 25), none⟩,
    ⟨some 27, .load 1 false (.t 26), none⟩,
    ⟨some 28, .mov (.t 3), none⟩,
    ⟨some 29, .bin .shr false (.t 27) (.t 28), none⟩,
    ⟨some 30, .bin .and false (.t 29) (.c (.v (.int .u8 1))), none⟩,
    ⟨some 31, .bin .eql false (.t 30) (.c (.v (.int .u8 1))), none⟩,
    ⟨some 8, .mov (.t 31), none⟩,
    ⟨some 9, .mov (.c (.v (.int .i64 0))), none⟩])
  .ret))))⟩
def irCClone  : FnIR := ⟨8, [.t 2],
  (.seq (.ops [⟨some 2, .mov (.c (.v (.slice none 0 0))), none⟩])
  (.seq (.seq (.ops [⟨some 3, .mov (.t 0), none⟩,
    ⟨some 4, .isnil false (.t 3), none⟩])
  (.cond (.t 4)
    (.seq (.ops [⟨some 2, .mov (.c (.v (.slice none 0 0))), none⟩])
    .ret)
    .skip))
  (.seq (.ops [⟨some 5, .bslice 3 [(.v (.int .i64 0)), (.v (.slice none 0 0)), (.v (.slice none 0 0))] 0 [], none⟩,
    ⟨some 6, .mov (.t 0), none⟩,
    ⟨some 7, .append 3 56 [(.v (.int .i64 0)), (.v (.slice none 0 0)), (.v (.slice none 0 0))] (.t 5) (.t 6), none⟩,
    ⟨some 2, .mov (.t 7), none⟩])
  .ret)))⟩
end Lg
