/- The answer's store of vectors: its functions, shared by several packages. -/
import Derived.Test.YtagaakajpblmjaaLibCmpF
import Derived.Test.YtagaakajpblmjaaLgNX
namespace Lg
open Go
def selU (r : Nat) : Bool := [500008, 1008004, 1008008, 1008010, 1008011, 1008013, 1008018].contains r
def irUIns (inn pl : Nat) : FnIR := ⟨49, [.c 4 4 true, .t 5, .t 6],
  (.seq (.ops [⟨some 2, .box (.t 0), none⟩,
    ⟨some 4, .alloc (.agg [(.v (.slice none 0 0)), (.v (.int .i64 0)), (.v (.slice none 0 0)), (.v (.slice none 0 0))]), none⟩,
    ⟨some 5, .mov (.c (.v (.bool false))), none⟩,
    ⟨some 6, .mov (.c (.v (.int .i64 0))), none⟩])
  (.seq (.ops [⟨some 8, .faddr 0 (.t 2), none⟩,
    ⟨some 9, .load 1 false (.t 8), none⟩,
    ⟨some 10, .mov (.t 1), none⟩,
    ⟨some 11, .call inn [(.t 9), (.t 10)], none⟩,
    ⟨some 7, .mov (.t 11), none⟩])
  (.seq (.seq (.ops [⟨some 12, .mov (.t 7), none⟩,
    ⟨some 13, .bin .neq false (.t 12) (.c (.v (.int .i64 0))), none⟩])
  (.cond (.t 13)
    (.seq (.ops [⟨some 14, .load 4 true (.t 2), none⟩,
      ⟨some 15, .mov (.t 7), none⟩,
      ⟨none, .store 4 (.t 4) (.t 14), none⟩,
      ⟨some 5, .mov (.c (.v (.bool false))), none⟩,
      ⟨some 6, .mov (.t 15), none⟩])
    .ret)
    .skip))
  (.seq (.seq (.ops [⟨some 16, .load 4 true (.t 2), none⟩,
    ⟨some 17, .mov (.t 1), none⟩,
    ⟨some 18, .call pl [(.t 16), (.t 17)], none⟩,
    ⟨some 19, .bin .geq false (.t 18) (.c (.v (.int .i64 0))), none⟩])
  (.cond (.t 19)
    (.seq (.ops [⟨some 20, .load 4 true (.t 2), none⟩,
      ⟨none, .store 4 (.t 4) (.t 20), none⟩,
      ⟨some 5, .mov (.c (.v (.bool false))), none⟩,
      ⟨some 6, .mov (.c (.v (.int .i64 0))), none⟩])
    .ret)
    .skip))
  (.seq (.seq (.ops [⟨some 21, .faddr 2 (.t 2), none⟩,
    ⟨some 22, .load 1 false (.t 21), none⟩,
    ⟨some 23, .len false (.t 22), none⟩,
    ⟨some 24, .faddr 1 (.t 2), none⟩,
    ⟨some 25, .load 1 false (.t 24), none⟩,
    ⟨some 26, .bin .geq false (.t 23) (.t 25), none⟩])
  (.cond (.t 26)
    (.seq (.ops [⟨some 27, .load 4 true (.t 2), none⟩,
      ⟨none, .store 4 (.t 4) (.t 27), none⟩,
      ⟨some 5, .mov (.c (.v (.bool false))), none⟩,
      ⟨some 6, .mov (.c (.v (.int .i64 7))), none⟩])
    .ret)
    .skip))
  (.seq (.drawS [⟨some 28, .faddr 0 (.t 2), none⟩,
    ⟨some 29, .load 1 false (.t 28), none⟩,
    ⟨some 30, .faddr 1 (.t 2), none⟩,
    ⟨some 31, .load 1 false (.t 30), none⟩,
    ⟨some 32, .bslice 1 [(.v (.slice none 0 0))] 0 [], none⟩,
    ⟨some 33, .faddr 2 (.t 2), none⟩,
    ⟨some 34, .load 1 false (.t 33), none⟩,
    ⟨some 36, .bslice 1 [(.v (.int .i64 0))] 0 [], none⟩,
    ⟨some 37, .mov (.t 1), none⟩,
    ⟨some 38, .append 1 8 [(.v (.int .i64 0))] (.t 36) (.t 37), none⟩,
    ⟨some 39, .bslice 1 [(.v (.slice none 0 0))] 1 [(0, 1, (.t 38))], none⟩,
    ⟨some 41, .bslice 2 [(.v (.bool false)), (.v (.bool false))] 0 [], none⟩,
    ⟨some 42, .faddr 3 (.t 2), none⟩,
    ⟨some 43, .load 1 false (.t 42), none⟩,
    ⟨some 45, .build [(.v (.bool false)), (.v (.bool false))] [], none⟩,
    ⟨some 46, .bslice 2 [(.v (.bool false)), (.v (.bool false))] 1 [(0, 2, (.t 45))], none⟩,
    ⟨some 5, .mov (.c (.v (.bool true))), none⟩,
    ⟨some 6, .mov (.c (.v (.int .i64 0))), none⟩]
    (.alt ⟨some 35, .append 1 24 [(.v (.slice none 0 0))] (.t 32) (.t 34), none⟩ (.alt ⟨some 40, .append 1 24 [(.v (.slice none 0 0))] (.t 35) (.t 39), none⟩ (.alt ⟨some 44, .append 2 2 [(.v (.bool false)), (.v (.bool false))] (.t 41) (.t 43), none⟩ (.alt ⟨some 47, .append 2 2 [(.v (.bool false)), (.v (.bool false))] (.t 44) (.t 46), none⟩ (.alt ⟨some 48, .build [(.v (.slice none 0 0)), (.v (.int .i64 0)), (.v (.slice none 0 0)), (.v (.slice none 0 0))] [(0, 1, (.t 29)), (1, 1, (.t 31)), (2, 1, (.t 40)), (3, 1, (.t 47))], none⟩ (.alt ⟨none, .store 4 (.t 4) (.t 48), none⟩ .done
    .none)
    .none)
    .none)
    .none)
    .none)
    .none))
  .ret))))))⟩
def irUNew  : FnIR := ⟨16, [.c 4 4 true, .t 5],
  (.seq (.ops [⟨some 4, .alloc (.agg [(.v (.slice none 0 0)), (.v (.int .i64 0)), (.v (.slice none 0 0)), (.v (.slice none 0 0))]), none⟩,
    ⟨some 5, .mov (.c (.v (.int .i64 0))), none⟩])
  (.seq (.seq (.ops [⟨some 6, .mov (.t 1), none⟩,
    ⟨some 7, .bin .lss false (.t 6) (.c (.v (.int .i64 0))), none⟩,
    ⟨some 8, .mov (.t 7), none⟩,
    ⟨some 9, .mov (.t 1), some (8, false)⟩,
    ⟨some 10, .bin .gtr false (.t 9) (.c (.v (.int .i64 1048576))), some (8, false)⟩,
    ⟨some 11, .pick (.t 8) (.c (.v (.bool true))) (.t 10), none⟩])
  (.cond (.t 11)
    (.seq (.ops [⟨some 12, .build [(.v (.slice none 0 0)), (.v (.int .i64 0)), (.v (.slice none 0 0)), (.v (.slice none 0 0))] [], none⟩,
      ⟨none, .store 4 (.t 4) (.t 12), none⟩,
      ⟨some 5, .mov (.c (.v (.int .i64 1))), none⟩])
    .ret)
    .skip))
  (.seq (.ops [⟨some 13, .mov (.t 0), none⟩,
    ⟨some 14, .mov (.t 1), none⟩,
    ⟨some 15, .build [(.v (.slice none 0 0)), (.v (.int .i64 0)), (.v (.slice none 0 0)), (.v (.slice none 0 0))] [(0, 1, (.t 13)), (1, 1, (.t 14))], none⟩,
    ⟨none, .store 4 (.t 4) (.t 15), none⟩,
    ⟨some 5, .mov (.c (.v (.int .i64 0))), none⟩])
  .ret)))⟩
def irUSet (atN : Nat) : FnIR := ⟨39, [.c 6 4 true, .t 7],
  (.seq (.ops [⟨some 3, .box (.t 0), none⟩,
    ⟨some 6, .alloc (.agg [(.v (.slice none 0 0)), (.v (.int .i64 0)), (.v (.slice none 0 0)), (.v (.slice none 0 0))]), none⟩,
    ⟨some 7, .mov (.c (.v (.int .i64 0))), none⟩])
  (.seq (.ops [⟨some 12, .load 4 true (.t 3), none⟩,
    ⟨some 13, .mov (.t 1), none⟩,
    ⟨some 14, .mov (.t 2), none⟩,
    ⟨some 15, .call atN [(.t 12), (.t 13), (.t 14)], none⟩,
    ⟨some 11, .mov (.t 15), none⟩,
    ⟨some 16, .extract (.t 11) 0, none⟩,
    ⟨some 17, .extract (.t 11) 1, none⟩,
    ⟨some 8, .mov (.t 16), none⟩,
    ⟨some 9, .mov (.t 17), none⟩])
  (.seq (.seq (.ops [⟨some 18, .mov (.t 9), none⟩,
    ⟨some 19, .bin .neq false (.t 18) (.c (.v (.int .i64 0))), none⟩])
  (.cond (.t 19)
    (.seq (.ops [⟨some 20, .load 4 true (.t 3), none⟩,
      ⟨some 21, .mov (.t 9), none⟩,
      ⟨none, .store 4 (.t 6) (.t 20), none⟩,
      ⟨some 7, .mov (.t 21), none⟩])
    .ret)
    .skip))
  (.seq (.ops [⟨some 22, .bslice 2 [(.v (.bool false)), (.v (.bool false))] 0 [], none⟩,
    ⟨some 23, .faddr 3 (.t 3), none⟩,
    ⟨some 24, .load 1 false (.t 23), none⟩,
    ⟨some 25, .append 2 2 [(.v (.bool false)), (.v (.bool false))] (.t 22) (.t 24), none⟩,
    ⟨some 10, .mov (.t 25), none⟩])
  (.seq (.ops [⟨some 26, .mov (.t 10), none⟩,
    ⟨some 27, .mov (.t 8), none⟩,
    ⟨some 28, .mov (.t 2), none⟩,
    ⟨some 29, .iaddr 2 (.t 26) (.t 27), none⟩,
    ⟨some 30, .iaddrA 2 1 (.t 29) (.t 28), none⟩,
    ⟨none, .store 1 (.t 30) (.c (.v (.bool true))), none⟩])
  (.seq (.ops [⟨some 31, .faddr 0 (.t 3), none⟩,
    ⟨some 32, .load 1 false (.t 31), none⟩,
    ⟨some 33, .faddr 1 (.t 3), none⟩,
    ⟨some 34, .load 1 false (.t 33), none⟩,
    ⟨some 35, .faddr 2 (.t 3), none⟩,
    ⟨some 36, .load 1 false (.t 35), none⟩,
    ⟨some 37, .mov (.t 10), none⟩,
    ⟨some 38, .build [(.v (.slice none 0 0)), (.v (.int .i64 0)), (.v (.slice none 0 0)), (.v (.slice none 0 0))] [(0, 1, (.t 32)), (1, 1, (.t 34)), (2, 1, (.t 36)), (3, 1, (.t 37))], none⟩,
    ⟨none, .store 4 (.t 6) (.t 38), none⟩,
    ⟨some 7, .mov (.c (.v (.int .i64 0))), none⟩])
  .ret))))))⟩
def irUGet (atN : Nat) : FnIR := ⟨27, [.t 6, .t 7],
  (.seq (.ops [⟨some 3, .box (.t 0), none⟩,
    ⟨some 6, .mov (.c (.v (.bool false))), none⟩,
    ⟨some 7, .mov (.c (.v (.int .i64 0))), none⟩])
  (.seq (.ops [⟨some 11, .load 4 true (.t 3), none⟩,
    ⟨some 12, .mov (.t 1), none⟩,
    ⟨some 13, .mov (.t 2), none⟩,
    ⟨some 14, .call atN [(.t 11), (.t 12), (.t 13)], none⟩,
    ⟨some 10, .mov (.t 14), none⟩,
    ⟨some 15, .extract (.t 10) 0, none⟩,
    ⟨some 16, .extract (.t 10) 1, none⟩,
    ⟨some 8, .mov (.t 15), none⟩,
    ⟨some 9, .mov (.t 16), none⟩])
  (.seq (.seq (.ops [⟨some 17, .mov (.t 9), none⟩,
    ⟨some 18, .bin .neq false (.t 17) (.c (.v (.int .i64 0))), none⟩])
  (.cond (.t 18)
    (.seq (.ops [⟨some 19, .mov (.t 9), none⟩,
      ⟨some 6, .mov (.c (.v (.bool false))), none⟩,
      ⟨some 7, .mov (.t 19), none⟩])
    .ret)
    .skip))
  (.seq (.ops [⟨some 20, .faddr 3 (.t 3), none⟩,
    ⟨some 21, .load 1 false (.t 20), none⟩,
    ⟨some 22, .mov (.t 8), none⟩,
    ⟨some 23, .mov (.t 2), none⟩,
    ⟨some 24, .iaddr 2 (.t 21) (.t 22), none⟩,
    ⟨some 25, .iaddrA 2 1 (.t 24) (.t 23), none⟩,
    ⟨some 26, .load 1 false (.t 25), none⟩,
    ⟨some 6, .mov (.t 26), none⟩,
    ⟨some 7, .mov (.c (.v (.int .i64 0))), none⟩])
  .ret))))⟩
def irUMember (inn pl : Nat) : FnIR := ⟨18, [.t 4, .t 5],
  (.seq (.ops [⟨some 2, .box (.t 0), none⟩,
    ⟨some 4, .mov (.c (.v (.bool false))), none⟩,
    ⟨some 5, .mov (.c (.v (.int .i64 0))), none⟩])
  (.seq (.ops [⟨some 7, .faddr 0 (.t 2), none⟩,
    ⟨some 8, .load 1 false (.t 7), none⟩,
    ⟨some 9, .mov (.t 1), none⟩,
    ⟨some 10, .call inn [(.t 8), (.t 9)], none⟩,
    ⟨some 6, .mov (.t 10), none⟩])
  (.seq (.seq (.ops [⟨some 11, .mov (.t 6), none⟩,
    ⟨some 12, .bin .neq false (.t 11) (.c (.v (.int .i64 0))), none⟩])
  (.cond (.t 12)
    (.seq (.ops [⟨some 13, .mov (.t 6), none⟩,
      ⟨some 4, .mov (.c (.v (.bool false))), none⟩,
      ⟨some 5, .mov (.t 13), none⟩])
    .ret)
    .skip))
  (.seq (.ops [⟨some 14, .load 4 true (.t 2), none⟩,
    ⟨some 15, .mov (.t 1), none⟩,
    ⟨some 16, .call pl [(.t 14), (.t 15)], none⟩,
    ⟨some 17, .bin .geq false (.t 16) (.c (.v (.int .i64 0))), none⟩,
    ⟨some 4, .mov (.t 17), none⟩,
    ⟨some 5, .mov (.c (.v (.int .i64 0))), none⟩])
  .ret))))⟩
def irUPlace (vec : Nat) : FnIR := ⟨23, [.t 4],
  (.seq (.ops [⟨some 2, .box (.t 0), none⟩,
    ⟨some 4, .mov (.c (.v (.int .i64 0))), none⟩])
  (.seq (.seq (.ops [⟨some 5, .mov (.c (.v (.int .i64 0))), none⟩])
  (.block 0 (.loop
    (.seq (.seq (.ops [⟨some 7, .mov (.t 5), none⟩,
      ⟨some 8, .faddr 2 (.t 2), none⟩,
      ⟨some 9, .load 1 false (.t 8), none⟩,
      ⟨some 10, .len false (.t 9), none⟩,
      ⟨some 11, .bin .lss false (.t 7) (.t 10), none⟩])
    (.cond (.t 11)
      .skip
      (.exit 0)))
    (.seq (.block 1 (.seq (.ops [⟨some 14, .faddr 2 (.t 2), none⟩,
      ⟨some 15, .load 1 false (.t 14), none⟩,
      ⟨some 16, .mov (.t 5), none⟩,
      ⟨some 17, .iaddr 1 (.t 15) (.t 16), none⟩,
      ⟨some 18, .load 1 false (.t 17), none⟩,
      ⟨some 19, .mov (.t 1), none⟩,
      ⟨some 20, .call vec [(.t 18), (.t 19)], none⟩,
      ⟨some 6, .mov (.t 20), none⟩])
    (.seq (.ops [⟨some 21, .mov (.t 6), none⟩])
    (.cond (.t 21)
      (.seq (.ops [⟨some 22, .mov (.t 5), none⟩,
        ⟨some 4, .mov (.t 22), none⟩])
      .ret)
      .skip))))
    (.ops [⟨some 12, .mov (.t 5), none⟩,
      ⟨some 13, .bin .add false (.t 12) (.c (.v (.int .i64 1))), none⟩,
      ⟨some 5, .mov (.t 13), none⟩]))))))
  (.seq (.ops [⟨some 4, .mov (.c (.v (.int .i64 (-1)))), none⟩])
  .ret)))⟩
def irUAt (inn pl : Nat) : FnIR := ⟨29, [.t 6, .t 7],
  (.seq (.ops [⟨some 3, .box (.t 0), none⟩,
    ⟨some 6, .mov (.c (.v (.int .i64 0))), none⟩,
    ⟨some 7, .mov (.c (.v (.int .i64 0))), none⟩])
  (.seq (.ops [⟨some 10, .faddr 0 (.t 3), none⟩,
    ⟨some 11, .load 1 false (.t 10), none⟩,
    ⟨some 12, .mov (.t 1), none⟩,
    ⟨some 13, .call inn [(.t 11), (.t 12)], none⟩,
    ⟨some 8, .mov (.t 13), none⟩])
  (.seq (.seq (.ops [⟨some 14, .mov (.t 8), none⟩,
    ⟨some 15, .bin .neq false (.t 14) (.c (.v (.int .i64 0))), none⟩])
  (.cond (.t 15)
    (.seq (.ops [⟨some 16, .mov (.t 8), none⟩,
      ⟨some 6, .mov (.c (.v (.int .i64 0))), none⟩,
      ⟨some 7, .mov (.t 16), none⟩])
    .ret)
    .skip))
  (.seq (.seq (.ops [⟨some 17, .mov (.t 2), none⟩,
    ⟨some 18, .bin .lss false (.t 17) (.c (.v (.int .i64 0))), none⟩,
    ⟨some 19, .mov (.t 18), none⟩,
    ⟨some 20, .mov (.t 2), some (19, false)⟩,
    ⟨some 21, .bin .gtr false (.t 20) (.c (.v (.int .i64 1))), some (19, false)⟩,
    ⟨some 22, .pick (.t 19) (.c (.v (.bool true))) (.t 21), none⟩])
  (.cond (.t 22)
    (.seq (.ops [⟨some 6, .mov (.c (.v (.int .i64 0))), none⟩,
      ⟨some 7, .mov (.c (.v (.int .i64 1))), none⟩])
    .ret)
    .skip))
  (.seq (.ops [⟨some 23, .load 4 true (.t 3), none⟩,
    ⟨some 24, .mov (.t 1), none⟩,
    ⟨some 25, .call pl [(.t 23), (.t 24)], none⟩,
    ⟨some 9, .mov (.t 25), none⟩])
  (.seq (.seq (.ops [⟨some 26, .mov (.t 9), none⟩,
    ⟨some 27, .bin .lss false (.t 26) (.c (.v (.int .i64 0))), none⟩])
  (.cond (.t 27)
    (.seq (.ops [⟨some 6, .mov (.c (.v (.int .i64 0))), none⟩,
      ⟨some 7, .mov (.c (.v (.int .i64 10))), none⟩])
    .ret)
    .skip))
  (.seq (.ops [⟨some 28, .mov (.t 9), none⟩,
    ⟨some 6, .mov (.t 28), none⟩,
    ⟨some 7, .mov (.c (.v (.int .i64 0))), none⟩])
  .ret)))))))⟩
def irUDiffer (vec : Nat) : FnIR := ⟨47, [.t 6],
  (.seq (.ops [⟨some 6, .mov (.c (.v (.int .i64 0))), none⟩])
  (.seq (.ops [⟨some 7, .mov (.c (.v (.int .i64 0))), none⟩])
  (.seq (.seq (.ops [⟨some 8, .mov (.c (.v (.int .i64 0))), none⟩])
  (.block 0 (.loop
    (.seq (.seq (.ops [⟨some 12, .mov (.t 8), none⟩,
      ⟨some 13, .mov (.t 0), none⟩,
      ⟨some 14, .len false (.t 13), none⟩,
      ⟨some 15, .bin .lss false (.t 12) (.t 14), none⟩])
    (.cond (.t 15)
      .skip
      (.exit 0)))
    (.seq (.block 1 (.seq (.ops [⟨some 9, .mov (.c (.v (.bool false))), none⟩])
    (.seq (.seq (.ops [⟨some 10, .mov (.c (.v (.int .i64 0))), none⟩])
    (.block 2 (.loop
      (.seq (.seq (.ops [⟨some 18, .mov (.t 10), none⟩,
        ⟨some 19, .mov (.t 8), none⟩,
        ⟨some 20, .bin .lss false (.t 18) (.t 19), none⟩])
      (.cond (.t 20)
        .skip
        (.exit 2)))
      (.seq (.block 3 (.seq (.draw [[⟨some 23, .mov (.t 0), none⟩,
          ⟨some 24, .mov (.t 8), none⟩,
          ⟨some 25, .iaddr 1 (.t 23) (.t 24), none⟩,
          ⟨some 26, .load 1 false (.t 25), none⟩,
          ⟨some 27, .mov (.t 1), none⟩,
          ⟨some 28, .mov (.t 2), none⟩,
          ⟨some 29, .slice 1 (.t 26) (some (.t 27)) (some (.t 28)) none, none⟩,
          ⟨some 30, .mov (.t 0), none⟩,
          ⟨some 31, .mov (.t 10), none⟩,
          ⟨some 32, .iaddr 1 (.t 30) (.t 31), none⟩,
          ⟨some 33, .load 1 false (.t 32), none⟩,
          ⟨some 34, .mov (.t 1), none⟩,
          ⟨some 35, .mov (.t 2), none⟩,
          ⟨some 36, .slice 1 (.t 33) (some (.t 34)) (some (.t 35)) none, none⟩],
        [⟨some 37, .call vec [(.t 29), (.t 36)], none⟩],
        [⟨some 11, .mov (.t 37), none⟩]])
      (.ops [⟨some 38, .mov (.t 9), none⟩,
        ⟨some 39, .mov (.t 38), none⟩,
        ⟨some 40, .mov (.t 11), some (39, false)⟩,
        ⟨some 41, .pick (.t 39) (.c (.v (.bool true))) (.t 40), none⟩,
        ⟨some 9, .mov (.t 41), none⟩])))
      (.ops [⟨some 21, .mov (.t 10), none⟩,
        ⟨some 22, .bin .add false (.t 21) (.c (.v (.int .i64 1))), none⟩,
        ⟨some 10, .mov (.t 22), none⟩]))))))
    (.seq (.ops [⟨some 42, .mov (.t 9), none⟩,
      ⟨some 43, .un .not (.t 42), none⟩])
    (.cond (.t 43)
      (.ops [⟨some 44, .mov (.t 7), none⟩,
        ⟨some 45, .bin .add false (.t 44) (.c (.v (.int .i64 1))), none⟩,
        ⟨some 7, .mov (.t 45), none⟩])
      .skip)))))
    (.ops [⟨some 16, .mov (.t 8), none⟩,
      ⟨some 17, .bin .add false (.t 16) (.c (.v (.int .i64 1))), none⟩,
      ⟨some 8, .mov (.t 17), none⟩]))))))
  (.seq (.ops [⟨some 46, .mov (.t 7), none⟩,
    ⟨some 6, .mov (.t 46), none⟩])
  .ret))))⟩
def irUParts (df : Nat) : FnIR := ⟨32, [.t 2],
  (.seq (.ops [⟨some 1, .box (.t 0), none⟩,
    ⟨some 2, .mov (.c (.v (.slice none 0 0))), none⟩])
  (.seq (.ops [⟨some 3, .mov (.c (.v (.slice none 0 0))), none⟩])
  (.seq (.seq (.ops [⟨some 4, .mov (.c (.v (.int .i64 0))), none⟩])
  (.block 0 (.loop
    (.seq (.seq (.ops [⟨some 6, .mov (.t 4), none⟩,
      ⟨some 7, .faddr 0 (.t 1), none⟩,
      ⟨some 8, .load 1 false (.t 7), none⟩,
      ⟨some 9, .len false (.t 8), none⟩,
      ⟨some 10, .bin .lss false (.t 6) (.t 9), none⟩])
    (.cond (.t 10)
      .skip
      (.exit 0)))
    (.seq (.block 1 (.seq (.ops [⟨some 13, .mov (.t 4), none⟩,
      ⟨some 14, .bin .add false (.t 13) (.c (.v (.int .i64 2))), none⟩,
      ⟨some 5, .mov (.t 14), none⟩])
    (.seq (.seq (.ops [⟨some 15, .mov (.t 5), none⟩,
      ⟨some 16, .faddr 0 (.t 1), none⟩,
      ⟨some 17, .load 1 false (.t 16), none⟩,
      ⟨some 18, .len false (.t 17), none⟩,
      ⟨some 19, .bin .gtr false (.t 15) (.t 18), none⟩])
    (.cond (.t 19)
      (.ops [⟨some 20, .faddr 0 (.t 1), none⟩,
        ⟨some 21, .load 1 false (.t 20), none⟩,
        ⟨some 22, .len false (.t 21), none⟩,
        ⟨some 5, .mov (.t 22), none⟩])
      .skip))
    (.ops [⟨some 23, .mov (.t 3), none⟩,
      ⟨some 24, .faddr 2 (.t 1), none⟩,
      ⟨some 25, .load 1 false (.t 24), none⟩,
      ⟨some 26, .mov (.t 4), none⟩,
      ⟨some 27, .mov (.t 5), none⟩,
      ⟨some 28, .call df [(.t 25), (.t 26), (.t 27)], none⟩,
      ⟨some 29, .bslice 1 [(.v (.int .i64 0))] 1 [(0, 1, (.t 28))], none⟩,
      ⟨some 30, .append 1 8 [(.v (.int .i64 0))] (.t 23) (.t 29), none⟩,
      ⟨some 3, .mov (.t 30), none⟩]))))
    (.ops [⟨some 11, .mov (.t 4), none⟩,
      ⟨some 12, .bin .add false (.t 11) (.c (.v (.int .i64 2))), none⟩,
      ⟨some 4, .mov (.t 12), none⟩]))))))
  (.seq (.ops [⟨some 31, .mov (.t 3), none⟩,
    ⟨some 2, .mov (.t 31), none⟩])
  .ret))))⟩
end Lg
