/- Vectors as bytes, by their ranges: the program's functions, shared by several packages. -/
import Derived.Test.YtagaakajpblmjaaLibBitsPV
import Derived.Test.YtagaakajpblmjaaLibBitsO
namespace Lg
open Go
def irSMay  : FnIR := ⟨29, [.t 2],
  (.seq (.ops [⟨some 1, .box (.t 0), none⟩,
    ⟨some 2, .mov (.c (.v (.bool false))), none⟩])
  (.seq (.ops [⟨some 4, .faddr 0 (.t 1), none⟩,
    ⟨some 5, .load 1 false (.t 4), none⟩,
    ⟨some 6, .bin .lss false (.t 5) (.c (.v (.int .i64 (-1073741824)))), none⟩,
    ⟨some 7, .mov (.t 6), none⟩,
    ⟨some 8, .faddr 1 (.t 1), some (7, false)⟩,
    ⟨some 9, .load 1 false (.t 8), some (7, false)⟩,
    ⟨some 10, .bin .gtr false (.t 9) (.c (.v (.int .i64 1073741824))), some (7, false)⟩,
    ⟨some 11, .pick (.t 7) (.c (.v (.bool true))) (.t 10), none⟩,
    ⟨some 3, .mov (.t 11), none⟩])
  (.seq (.ops [⟨some 12, .mov (.t 3), none⟩,
    ⟨some 13, .un .not (.t 12), none⟩,
    ⟨some 14, .mov (.t 13), none⟩,
    ⟨some 15, .faddr 0 (.t 1), some (14, true)⟩,
    ⟨some 16, .load 1 false (.t 15), some (14, true)⟩,
    ⟨some 17, .faddr 1 (.t 1), some (14, true)⟩,
    ⟨some 18, .load 1 false (.t 17), some (14, true)⟩,
    ⟨some 19, .bin .leq false (.t 16) (.t 18), some (14, true)⟩,
    ⟨some 20, .pick (.t 14) (.t 19) (.c (.v (.bool false))), none⟩,
    ⟨some 21, .mov (.t 20), none⟩,
    ⟨some 22, .faddr 1 (.t 1), some (21, true)⟩,
    ⟨some 23, .load 1 false (.t 22), some (21, true)⟩,
    ⟨some 24, .faddr 0 (.t 1), some (21, true)⟩,
    ⟨some 25, .load 1 false (.t 24), some (21, true)⟩,
    ⟨some 26, .bin .sub false (.t 23) (.t 25), some (21, true)⟩,
    ⟨some 27, .bin .lss false (.t 26) (.c (.v (.int .i64 65536))), some (21, true)⟩,
    ⟨some 28, .pick (.t 21) (.t 27) (.c (.v (.bool false))), none⟩,
    ⟨some 2, .mov (.t 28), none⟩])
  .ret)))⟩
def irSWide (bw : Nat) : FnIR := ⟨10, [.t 2],
  (.seq (.ops [⟨some 1, .box (.t 0), none⟩,
    ⟨some 2, .mov (.c (.v (.int .i64 0))), none⟩])
  (.seq (.ops [⟨some 3, .faddr 1 (.t 1), none⟩,
    ⟨some 4, .load 1 false (.t 3), none⟩,
    ⟨some 5, .faddr 0 (.t 1), none⟩,
    ⟨some 6, .load 1 false (.t 5), none⟩,
    ⟨some 7, .bin .sub false (.t 4) (.t 6), none⟩,
    ⟨some 8, .conv .u64 (.t 7), none⟩,
    ⟨some 9, .call bw [(.t 8)], none⟩,
    ⟨some 2, .mov (.t 9), none⟩])
  .ret))⟩
def irSHas  : FnIR := ⟨15, [.t 4],
  (.seq (.ops [⟨some 2, .box (.t 0), none⟩,
    ⟨some 4, .mov (.c (.v (.bool false))), none⟩])
  (.seq (.ops [⟨some 5, .mov (.t 1), none⟩,
    ⟨some 6, .faddr 0 (.t 2), none⟩,
    ⟨some 7, .load 1 false (.t 6), none⟩,
    ⟨some 8, .bin .geq false (.t 5) (.t 7), none⟩,
    ⟨some 9, .mov (.t 8), none⟩,
    ⟨some 10, .mov (.t 1), some (9, true)⟩,
    ⟨some 11, .faddr 1 (.t 2), some (9, true)⟩,
    ⟨some 12, .load 1 false (.t 11), some (9, true)⟩,
    ⟨some 13, .bin .leq false (.t 10) (.t 12), some (9, true)⟩,
    ⟨some 14, .pick (.t 9) (.t 13) (.c (.v (.bool false))), none⟩,
    ⟨some 4, .mov (.t 14), none⟩])
  .ret))⟩
def irSEachB  : FnIR := ⟨26, [.t 4],
  (.seq (.ops [⟨some 4, .mov (.c (.v (.slice none 0 0))), none⟩])
  (.seq (.ops [⟨some 8, .mov (.t 0), none⟩,
    ⟨some 9, .len false (.t 8), none⟩,
    ⟨some 10, .mksl 1 1 [(.v (.bool false))] (.t 9) (.t 9), none⟩,
    ⟨some 5, .mov (.t 10), none⟩])
  (.seq (.seq (.ops [⟨some 11, .mov (.t 0), none⟩,
    ⟨some 12, .len false (.t 11), none⟩,
    ⟨some 13, .mov (.c (.v (.int .i64 0))), none⟩])
  (.block 0 (.loop
    (.seq (.ops [⟨some 14, .bin .lss false (.t 13) (.t 12), none⟩])
    (.seq (.cond (.t 14)
      .skip
      (.exit 0))
    (.seq (.block 1 (.seq (.ops [⟨some 15, .mov (.t 13), none⟩,
      ⟨some 16, .iaddr 2 (.t 11) (.t 13), none⟩,
      ⟨some 17, .load 2 true (.t 16), none⟩,
      ⟨some 7, .alloc (.agg [(.v (.int .i64 0)), (.v (.int .i64 0))]), none⟩,
      ⟨some 6, .mov (.t 15), none⟩,
      ⟨none, .store 2 (.t 7) (.t 17), none⟩])
    (.ops [⟨some 18, .mov (.t 5), none⟩,
      ⟨some 19, .mov (.t 6), none⟩,
      ⟨some 20, .mov (.t 1), none⟩,
      ⟨some 21, .load 2 true (.t 7), none⟩,
      ⟨some 22, .calld (.t 20) [(.t 21)], none⟩,
      ⟨some 23, .iaddr 1 (.t 18) (.t 19), none⟩,
      ⟨none, .store 1 (.t 23) (.t 22), none⟩])))
    (.ops [⟨some 24, .bin .add false (.t 13) (.c (.v (.int .i64 1))), none⟩,
      ⟨some 13, .mov (.t 24), none⟩])))))))
  (.seq (.ops [⟨some 25, .mov (.t 5), none⟩,
    ⟨some 4, .mov (.t 25), none⟩])
  .ret))))⟩
def irSEachI  : FnIR := ⟨26, [.t 4],
  (.seq (.ops [⟨some 4, .mov (.c (.v (.slice none 0 0))), none⟩])
  (.seq (.ops [⟨some 8, .mov (.t 0), none⟩,
    ⟨some 9, .len false (.t 8), none⟩,
    ⟨some 10, .mksl 1 8 [(.v (.int .i64 0))] (.t 9) (.t 9), none⟩,
    ⟨some 5, .mov (.t 10), none⟩])
  (.seq (.seq (.ops [⟨some 11, .mov (.t 0), none⟩,
    ⟨some 12, .len false (.t 11), none⟩,
    ⟨some 13, .mov (.c (.v (.int .i64 0))), none⟩])
  (.block 0 (.loop
    (.seq (.ops [⟨some 14, .bin .lss false (.t 13) (.t 12), none⟩])
    (.seq (.cond (.t 14)
      .skip
      (.exit 0))
    (.seq (.block 1 (.seq (.ops [⟨some 15, .mov (.t 13), none⟩,
      ⟨some 16, .iaddr 2 (.t 11) (.t 13), none⟩,
      ⟨some 17, .load 2 true (.t 16), none⟩,
      ⟨some 7, .alloc (.agg [(.v (.int .i64 0)), (.v (.int .i64 0))]), none⟩,
      ⟨some 6, .mov (.t 15), none⟩,
      ⟨none, .store 2 (.t 7) (.t 17), none⟩])
    (.ops [⟨some 18, .mov (.t 5), none⟩,
      ⟨some 19, .mov (.t 6), none⟩,
      ⟨some 20, .mov (.t 1), none⟩,
      ⟨some 21, .load 2 true (.t 7), none⟩,
      ⟨some 22, .calld (.t 20) [(.t 21)], none⟩,
      ⟨some 23, .iaddr 1 (.t 18) (.t 19), none⟩,
      ⟨none, .store 1 (.t 23) (.t 22), none⟩])))
    (.ops [⟨some 24, .bin .add false (.t 13) (.c (.v (.int .i64 1))), none⟩,
      ⟨some 13, .mov (.t 24), none⟩])))))))
  (.seq (.ops [⟨some 25, .mov (.t 5), none⟩,
    ⟨some 4, .mov (.t 25), none⟩])
  .ret))))⟩
def irIndexB  : FnIR := ⟨19, [.t 4],
  (.seq (.ops [⟨some 4, .mov (.c (.v (.int .i64 0))), none⟩])
  (.seq (.seq (.ops [⟨some 6, .mov (.t 0), none⟩,
    ⟨some 7, .len false (.t 6), none⟩,
    ⟨some 8, .mov (.c (.v (.int .i64 0))), none⟩])
  (.block 0 (.loop
    (.seq (.ops [⟨some 9, .bin .lss false (.t 8) (.t 7), none⟩])
    (.seq (.cond (.t 9)
      .skip
      (.exit 0))
    (.seq (.block 1 (.seq (.ops [⟨some 10, .mov (.t 8), none⟩,
      ⟨some 5, .mov (.t 10), none⟩])
    (.seq (.ops [⟨some 11, .mov (.t 1), none⟩,
      ⟨some 12, .mov (.t 0), none⟩,
      ⟨some 13, .mov (.t 5), none⟩,
      ⟨some 14, .iaddr 1 (.t 12) (.t 13), none⟩,
      ⟨some 15, .load 1 false (.t 14), none⟩,
      ⟨some 16, .bin .eql true (.t 11) (.t 15), none⟩])
    (.cond (.t 16)
      (.seq (.ops [⟨some 17, .mov (.t 5), none⟩,
        ⟨some 4, .mov (.t 17), none⟩])
      .ret)
      .skip))))
    (.ops [⟨some 18, .bin .add false (.t 8) (.c (.v (.int .i64 1))), none⟩,
      ⟨some 8, .mov (.t 18), none⟩])))))))
  (.seq (.ops [⟨some 4, .mov (.c (.v (.int .i64 (-1)))), none⟩])
  .ret)))⟩
def irContainsB (ix : Nat) : FnIR := ⟨9, [.t 4],
  (.seq (.ops [⟨some 4, .mov (.c (.v (.bool false))), none⟩])
  (.seq (.ops [⟨some 5, .mov (.t 0), none⟩,
    ⟨some 6, .mov (.t 1), none⟩,
    ⟨some 7, .call ix [(.t 5), (.t 6)], none⟩,
    ⟨some 8, .bin .geq false (.t 7) (.c (.v (.int .i64 0))), none⟩,
    ⟨some 4, .mov (.t 8), none⟩])
  .ret))⟩
def irSRight (each may con : Nat) : FnIR := ⟨17, [.t 2],
  (.seq (.ops [⟨some 2, .mov (.c (.v (.bool false))), none⟩])
  (.seq (.ops [⟨some 3, .mov (.t 0), none⟩,
    ⟨some 4, .len false (.t 3), none⟩,
    ⟨some 5, .bin .geq false (.t 4) (.c (.v (.int .i64 1))), none⟩,
    ⟨some 6, .mov (.t 5), none⟩,
    ⟨some 7, .mov (.t 0), some (6, true)⟩,
    ⟨some 8, .len false (.t 7), some (6, true)⟩,
    ⟨some 9, .bin .leq false (.t 8) (.c (.v (.int .i64 17))), some (6, true)⟩,
    ⟨some 10, .pick (.t 6) (.t 9) (.c (.v (.bool false))), none⟩,
    ⟨some 11, .mov (.t 10), none⟩,
    ⟨some 12, .mov (.t 0), some (11, true)⟩,
    ⟨some 13, .call each [(.t 12), (.c (.fn (.func may) [] []))], some (11, true)⟩,
    ⟨some 14, .call con [(.t 13), (.c (.v (.bool false)))], some (11, true)⟩,
    ⟨some 15, .un .not (.t 14), some (11, true)⟩,
    ⟨some 16, .pick (.t 11) (.t 15) (.c (.v (.bool false))), none⟩,
    ⟨some 2, .mov (.t 16), none⟩])
  .ret))⟩
def irSFWide (wide : Nat) : FnIR := ⟨5, [.t 2],
  (.seq (.ops [⟨some 1, .box (.t 0), none⟩,
    ⟨some 2, .mov (.c (.v (.int .i64 0))), none⟩])
  (.seq (.ops [⟨some 3, .load 2 true (.t 1), none⟩,
    ⟨some 4, .call wide [(.t 3)], none⟩,
    ⟨some 2, .mov (.t 4), none⟩])
  .ret))⟩
def irSBits (each wide : Nat) : FnIR := ⟨18, [.t 2],
  (.seq (.ops [⟨some 2, .mov (.c (.v (.int .i64 0))), none⟩])
  (.seq (.ops [⟨some 3, .mov (.c (.v (.int .i64 0))), none⟩])
  (.seq (.seq (.ops [⟨some 6, .mov (.t 0), none⟩,
    ⟨some 7, .call each [(.t 6), (.c (.fn (.func wide) [] []))], none⟩,
    ⟨some 8, .len false (.t 7), none⟩,
    ⟨some 9, .mov (.c (.v (.int .i64 0))), none⟩])
  (.block 0 (.loop
    (.seq (.ops [⟨some 10, .bin .lss false (.t 9) (.t 8), none⟩])
    (.seq (.cond (.t 10)
      .skip
      (.exit 0))
    (.seq (.block 1 (.seq (.ops [⟨some 11, .iaddr 1 (.t 7) (.t 9), none⟩,
      ⟨some 12, .load 1 false (.t 11), none⟩,
      ⟨some 5, .mov (.t 12), none⟩])
    (.ops [⟨some 13, .mov (.t 3), none⟩,
      ⟨some 14, .mov (.t 5), none⟩,
      ⟨some 15, .bin .add false (.t 13) (.t 14), none⟩,
      ⟨some 3, .mov (.t 15), none⟩])))
    (.ops [⟨some 16, .bin .add false (.t 9) (.c (.v (.int .i64 1))), none⟩,
      ⟨some 9, .mov (.t 16), none⟩])))))))
  (.seq (.ops [⟨some 17, .mov (.t 3), none⟩,
    ⟨some 2, .mov (.t 17), none⟩])
  .ret))))⟩
def irSBytes (bits : Nat) : FnIR := ⟨8, [.t 2],
  (.seq (.ops [⟨some 2, .mov (.c (.v (.int .i64 0))), none⟩])
  (.seq (.ops [⟨some 3, .mov (.t 0), none⟩,
    ⟨some 4, .call bits [(.t 3)], none⟩,
    ⟨some 5, .bin .add false (.t 4) (.c (.v (.int .i64 7))), none⟩,
    ⟨some 6, .bin .quo false (.t 5) (.c (.v (.int .i64 8))), none⟩,
    ⟨some 7, .mm true (.c (.v (.int .i64 1))) [(.t 6)], none⟩,
    ⟨some 2, .mov (.t 7), none⟩])
  .ret))⟩
def irSIn (has : Nat) : FnIR := ⟨27, [.t 4],
  (.seq (.ops [⟨some 4, .mov (.c (.v (.int .i64 0))), none⟩])
  (.seq (.seq (.ops [⟨some 7, .mov (.t 1), none⟩,
    ⟨some 8, .len false (.t 7), none⟩,
    ⟨some 9, .mov (.t 0), none⟩,
    ⟨some 10, .len false (.t 9), none⟩,
    ⟨some 11, .bin .neq false (.t 8) (.t 10), none⟩])
  (.cond (.t 11)
    (.seq (.ops [⟨some 4, .mov (.c (.v (.int .i64 1))), none⟩])
    .ret)
    .skip))
  (.seq (.seq (.ops [⟨some 12, .mov (.t 1), none⟩,
    ⟨some 13, .len false (.t 12), none⟩,
    ⟨some 14, .mov (.c (.v (.int .i64 0))), none⟩])
  (.block 0 (.loop
    (.seq (.ops [⟨some 15, .bin .lss false (.t 14) (.t 13), none⟩])
    (.seq (.cond (.t 15)
      .skip
      (.exit 0))
    (.seq (.block 1 (.seq (.ops [⟨some 16, .mov (.t 14), none⟩,
      ⟨some 17, .iaddr 1 (.t 12) (.t 14), none⟩,
      ⟨some 18, .load 1 false (.t 17), none⟩,
      ⟨some 5, .mov (.t 16), none⟩,
      ⟨some 6, .mov (.t 18), none⟩])
    (.seq (.ops [⟨some 19, .mov (.t 0), none⟩,
      ⟨some 20, .mov (.t 5), none⟩,
      ⟨some 21, .iaddr 2 (.t 19) (.t 20), none⟩,
      ⟨some 22, .load 2 true (.t 21), none⟩,
      ⟨some 23, .mov (.t 6), none⟩,
      ⟨some 24, .call has [(.t 22), (.t 23)], none⟩,
      ⟨some 25, .un .not (.t 24), none⟩])
    (.cond (.t 25)
      (.seq (.ops [⟨some 4, .mov (.c (.v (.int .i64 5))), none⟩])
      .ret)
      .skip))))
    (.ops [⟨some 26, .bin .add false (.t 14) (.c (.v (.int .i64 1))), none⟩,
      ⟨some 14, .mov (.t 26), none⟩])))))))
  (.seq (.ops [⟨some 4, .mov (.c (.v (.int .i64 0))), none⟩])
  .ret))))⟩
def irSEnc (inn each wide put byt : Nat) : FnIR := ⟨51, [.t 4, .t 5],
  (.seq (.ops [⟨some 4, .mov (.c (.v (.slice none 0 0))), none⟩,
    ⟨some 5, .mov (.c (.v (.int .i64 0))), none⟩])
  (.seq (.seq (.ops [⟨some 11, .mov (.t 0), none⟩,
    ⟨some 12, .mov (.t 1), none⟩,
    ⟨some 13, .call inn [(.t 11), (.t 12)], none⟩,
    ⟨some 6, .mov (.t 13), none⟩])
  (.seq (.ops [⟨some 14, .mov (.t 6), none⟩,
    ⟨some 15, .bin .neq false (.t 14) (.c (.v (.int .i64 0))), none⟩])
  (.cond (.t 15)
    (.seq (.ops [⟨some 16, .mov (.t 6), none⟩,
      ⟨some 4, .mov (.c (.v (.slice none 0 0))), none⟩,
      ⟨some 5, .mov (.t 16), none⟩])
    .ret)
    .skip)))
  (.seq (.ops [⟨some 7, .alloc (.agg [(.v (.slice none 0 0)), (.v (.int .i64 0))]), none⟩])
  (.seq (.seq (.ops [⟨some 17, .mov (.t 0), none⟩,
    ⟨some 18, .call each [(.t 17), (.c (.fn (.func wide) [] []))], none⟩,
    ⟨some 19, .len false (.t 18), none⟩,
    ⟨some 20, .mov (.c (.v (.int .i64 0))), none⟩])
  (.block 0 (.loop
    (.seq (.ops [⟨some 21, .bin .lss false (.t 20) (.t 19), none⟩])
    (.seq (.cond (.t 21)
      .skip
      (.exit 0))
    (.seq (.block 1 (.seq (.ops [⟨some 22, .mov (.t 20), none⟩,
      ⟨some 23, .iaddr 1 (.t 18) (.t 20), none⟩,
      ⟨some 24, .load 1 false (.t 23), none⟩,
      ⟨some 8, .mov (.t 22), none⟩,
      ⟨some 9, .mov (.t 24), none⟩])
    (.drawF [([], [⟨some 26, .load 2 true (.t 7), none⟩,
        ⟨some 27, .mov (.t 1), none⟩,
        ⟨some 28, .mov (.t 8), none⟩,
        ⟨some 29, .iaddr 1 (.t 27) (.t 28), none⟩,
        ⟨some 30, .load 1 false (.t 29), none⟩,
        ⟨some 31, .mov (.t 0), none⟩,
        ⟨some 32, .mov (.t 8), none⟩,
        ⟨some 33, .iaddr 2 (.t 31) (.t 32), none⟩,
        ⟨some 34, .faddr 0 (.t 33), none⟩,
        ⟨some 35, .load 1 false (.t 34), none⟩,
        ⟨some 36, .bin .sub false (.t 30) (.t 35), none⟩,
        ⟨some 37, .conv .u64 (.t 36), none⟩,
        ⟨some 38, .mov (.t 9), none⟩]),
      ([], [⟨some 39, .call put [(.t 26), (.t 37), (.t 38)], none⟩]),
      ([], [⟨some 25, .mov (.t 39), none⟩]),
      ([1], [⟨some 40, .extract (.t 25) 0, none⟩,
        ⟨some 41, .extract (.t 25) 1, none⟩,
        ⟨none, .store 2 (.t 7) (.t 40), none⟩])])))
    (.ops [⟨some 42, .bin .add false (.t 20) (.c (.v (.int .i64 1))), none⟩,
      ⟨some 20, .mov (.t 42), none⟩])))))))
  (.seq (.ops [⟨some 43, .mov (.t 0), none⟩,
    ⟨some 44, .call byt [(.t 43)], none⟩,
    ⟨some 45, .mksl 1 1 [(.v (.int .u8 0))] (.t 44) (.t 44), none⟩,
    ⟨some 10, .mov (.t 45), none⟩])
  (.seq (.ops [⟨some 46, .mov (.t 10), none⟩,
    ⟨some 47, .faddr 0 (.t 7), none⟩,
    ⟨some 48, .load 1 false (.t 47), none⟩,
    ⟨some 49, .copy 1 (.t 46) (.t 48), none⟩])
  (.seq (.ops [⟨some 50, .mov (.t 10), none⟩,
    ⟨some 4, .mov (.t 50), none⟩,
    ⟨some 5, .mov (.c (.v (.int .i64 0))), none⟩])
  .ret)))))))⟩
def irSDec (byt each wide take enc equal : Nat) : FnIR := ⟨70, [.t 4, .t 5],
  (.seq (.ops [⟨some 4, .mov (.c (.v (.slice none 0 0))), none⟩,
    ⟨some 5, .mov (.c (.v (.int .i64 0))), none⟩])
  (.seq (.seq (.ops [⟨some 15, .mov (.t 1), none⟩,
    ⟨some 16, .len false (.t 15), none⟩,
    ⟨some 17, .mov (.t 0), none⟩,
    ⟨some 18, .call byt [(.t 17)], none⟩,
    ⟨some 19, .bin .neq false (.t 16) (.t 18), none⟩])
  (.cond (.t 19)
    (.seq (.ops [⟨some 4, .mov (.c (.v (.slice none 0 0))), none⟩,
      ⟨some 5, .mov (.c (.v (.int .i64 2))), none⟩])
    .ret)
    .skip))
  (.seq (.ops [⟨some 20, .mov (.t 1), none⟩,
    ⟨some 21, .mov (.t 1), none⟩,
    ⟨some 22, .len false (.t 21), none⟩,
    ⟨some 23, .bin .mul false (.c (.v (.int .i64 8))) (.t 22), none⟩,
    ⟨some 24, .build [(.v (.slice none 0 0)), (.v (.int .i64 0))] [(0, 1, (.t 20)), (1, 1, (.t 23))], none⟩,
    ⟨some 6, .alloc (.agg [(.v (.slice none 0 0)), (.v (.int .i64 0))]), none⟩,
    ⟨none, .store 2 (.t 6) (.t 24), none⟩])
  (.seq (.ops [⟨some 7, .mov (.c (.v (.int .i64 0))), none⟩])
  (.seq (.ops [⟨some 8, .mov (.c (.v (.slice none 0 0))), none⟩])
  (.seq (.seq (.ops [⟨some 25, .mov (.t 0), none⟩,
    ⟨some 26, .call each [(.t 25), (.c (.fn (.func wide) [] []))], none⟩,
    ⟨some 27, .len false (.t 26), none⟩,
    ⟨some 28, .mov (.c (.v (.int .i64 0))), none⟩])
  (.block 0 (.loop
    (.seq (.ops [⟨some 29, .bin .lss false (.t 28) (.t 27), none⟩])
    (.seq (.cond (.t 29)
      .skip
      (.exit 0))
    (.seq (.block 1 (.seq (.ops [⟨some 30, .mov (.t 28), none⟩,
      ⟨some 31, .iaddr 1 (.t 26) (.t 28), none⟩,
      ⟨some 32, .load 1 false (.t 31), none⟩,
      ⟨some 9, .mov (.t 30), none⟩,
      ⟨some 10, .mov (.t 32), none⟩])
    (.seq (.ops [⟨some 34, .load 2 true (.t 6), none⟩,
      ⟨some 35, .mov (.t 7), none⟩,
      ⟨some 36, .mov (.t 10), none⟩,
      ⟨some 37, .call take [(.t 34), (.t 35), (.t 36)], none⟩,
      ⟨some 33, .mov (.t 37), none⟩,
      ⟨some 38, .extract (.t 33) 0, none⟩,
      ⟨some 39, .extract (.t 33) 1, none⟩,
      ⟨some 11, .mov (.t 38), none⟩,
      ⟨some 12, .mov (.t 39), none⟩])
    (.seq (.ops [⟨some 40, .mov (.t 8), none⟩,
      ⟨some 41, .mov (.t 0), none⟩,
      ⟨some 42, .mov (.t 9), none⟩,
      ⟨some 43, .iaddr 2 (.t 41) (.t 42), none⟩,
      ⟨some 44, .faddr 0 (.t 43), none⟩,
      ⟨some 45, .load 1 false (.t 44), none⟩,
      ⟨some 46, .mov (.t 11), none⟩,
      ⟨some 47, .conv .i64 (.t 46), none⟩,
      ⟨some 48, .bin .add false (.t 45) (.t 47), none⟩,
      ⟨some 49, .bslice 1 [(.v (.int .i64 0))] 1 [(0, 1, (.t 48))], none⟩,
      ⟨some 50, .append 1 8 [(.v (.int .i64 0))] (.t 40) (.t 49), none⟩,
      ⟨some 8, .mov (.t 50), none⟩])
    (.ops [⟨some 51, .mov (.t 7), none⟩,
      ⟨some 52, .mov (.t 10), none⟩,
      ⟨some 53, .bin .add false (.t 51) (.t 52), none⟩,
      ⟨some 7, .mov (.t 53), none⟩])))))
    (.ops [⟨some 54, .bin .add false (.t 28) (.c (.v (.int .i64 1))), none⟩,
      ⟨some 28, .mov (.t 54), none⟩])))))))
  (.seq (.ops [⟨some 56, .mov (.t 0), none⟩,
    ⟨some 57, .mov (.t 8), none⟩,
    ⟨some 58, .call enc [(.t 56), (.t 57)], none⟩,
    ⟨some 55, .mov (.t 58), none⟩,
    ⟨some 59, .extract (.t 55) 0, none⟩,
    ⟨some 60, .extract (.t 55) 1, none⟩,
    ⟨some 13, .mov (.t 59), none⟩,
    ⟨some 14, .mov (.t 60), none⟩])
  (.seq (.seq (.ops [⟨some 61, .mov (.t 14), none⟩,
    ⟨some 62, .bin .neq false (.t 61) (.c (.v (.int .i64 0))), none⟩,
    ⟨some 63, .mov (.t 62), none⟩,
    ⟨some 64, .mov (.t 1), some (63, false)⟩,
    ⟨some 65, .mov (.t 13), some (63, false)⟩,
    ⟨some 66, .call equal [(.t 64), (.t 65)], some (63, false)⟩,
    ⟨some 67, .un .not (.t 66), some (63, false)⟩,
    ⟨some 68, .pick (.t 63) (.c (.v (.bool true))) (.t 67), none⟩])
  (.cond (.t 68)
    (.seq (.ops [⟨some 4, .mov (.c (.v (.slice none 0 0))), none⟩,
      ⟨some 5, .mov (.c (.v (.int .i64 2))), none⟩])
    .ret)
    .skip))
  (.seq (.ops [⟨some 69, .mov (.t 8), none⟩,
    ⟨some 4, .mov (.t 69), none⟩,
    ⟨some 5, .mov (.c (.v (.int .i64 0))), none⟩])
  .ret)))))))))⟩
def irTRight  : FnIR := ⟨59, [.t 2],
  (.seq (.ops [⟨some 2, .mov (.c (.v (.bool false))), none⟩])
  (.seq (.seq (.ops [⟨some 4, .mov (.t 0), none⟩,
    ⟨some 5, .len false (.t 4), none⟩,
    ⟨some 6, .bin .lss false (.t 5) (.c (.v (.int .i64 1))), none⟩,
    ⟨some 7, .mov (.t 6), none⟩,
    ⟨some 8, .mov (.t 0), some (7, false)⟩,
    ⟨some 9, .len false (.t 8), some (7, false)⟩,
    ⟨some 10, .bin .gtr false (.t 9) (.c (.v (.int .i64 17))), some (7, false)⟩,
    ⟨some 11, .pick (.t 7) (.c (.v (.bool true))) (.t 10), none⟩])
  (.cond (.t 11)
    (.seq (.ops [⟨some 2, .mov (.c (.v (.bool false))), none⟩])
    .ret)
    .skip))
  (.seq (.seq (.ops [⟨some 3, .mov (.c (.v (.int .i64 0))), none⟩])
  (.block 0 (.loop
    (.seq (.seq (.ops [⟨some 12, .mov (.t 3), none⟩,
      ⟨some 13, .mov (.t 0), none⟩,
      ⟨some 14, .len false (.t 13), none⟩,
      ⟨some 15, .bin .lss false (.t 12) (.t 14), none⟩])
    (.cond (.t 15)
      .skip
      (.exit 0)))
    (.seq (.block 1 (.seq (.draw [[⟨some 18, .mov (.t 0), none⟩,
        ⟨some 19, .mov (.t 3), none⟩,
        ⟨some 20, .iaddr 2 (.t 18) (.t 19), none⟩,
        ⟨some 21, .faddr 0 (.t 20), none⟩,
        ⟨some 22, .load 1 false (.t 21), none⟩,
        ⟨some 23, .mov (.t 0), none⟩,
        ⟨some 24, .mov (.t 3), none⟩,
        ⟨some 25, .iaddr 2 (.t 23) (.t 24), none⟩,
        ⟨some 26, .faddr 1 (.t 25), none⟩,
        ⟨some 27, .load 1 false (.t 26), none⟩],
      [⟨some 28, .bin .gtr false (.t 22) (.t 27), none⟩],
      [⟨some 29, .mov (.t 28), none⟩],
      [⟨some 30, .mov (.t 0), some (29, false)⟩,
        ⟨some 31, .mov (.t 3), some (29, false)⟩],
      [⟨some 32, .iaddr 2 (.t 30) (.t 31), some (29, false)⟩],
      [⟨some 33, .faddr 0 (.t 32), some (29, false)⟩],
      [⟨some 34, .load 1 false (.t 33), some (29, false)⟩],
      [⟨some 35, .bin .lss false (.t 34) (.c (.v (.int .i64 (-1073741824)))), some (29, false)⟩],
      [⟨some 36, .pick (.t 29) (.c (.v (.bool true))) (.t 35), none⟩],
      [⟨some 37, .mov (.t 36), none⟩],
      [⟨some 38, .mov (.t 0), some (37, false)⟩,
        ⟨some 39, .mov (.t 3), some (37, false)⟩],
      [⟨some 40, .iaddr 2 (.t 38) (.t 39), some (37, false)⟩],
      [⟨some 41, .faddr 1 (.t 40), some (37, false)⟩],
      [⟨some 42, .load 1 false (.t 41), some (37, false)⟩],
      [⟨some 43, .bin .gtr false (.t 42) (.c (.v (.int .i64 1073741824))), some (37, false)⟩],
      [⟨some 44, .pick (.t 37) (.c (.v (.bool true))) (.t 43), none⟩],
      [⟨some 45, .mov (.t 44), none⟩],
      [⟨some 46, .mov (.t 0), some (45, false)⟩,
        ⟨some 47, .mov (.t 3), some (45, false)⟩,
        ⟨some 48, .iaddr 2 (.t 46) (.t 47), some (45, false)⟩,
        ⟨some 49, .faddr 1 (.t 48), some (45, false)⟩,
        ⟨some 50, .load 1 false (.t 49), some (45, false)⟩,
        ⟨some 51, .mov (.t 0), some (45, false)⟩,
        ⟨some 52, .mov (.t 3), some (45, false)⟩,
        ⟨some 53, .iaddr 2 (.t 51) (.t 52), some (45, false)⟩,
        ⟨some 54, .faddr 0 (.t 53), some (45, false)⟩,
        ⟨some 55, .load 1 false (.t 54), some (45, false)⟩],
      [⟨some 56, .bin .sub false (.t 50) (.t 55), some (45, false)⟩],
      [⟨some 57, .bin .gtr false (.t 56) (.c (.v (.int .i64 65535))), some (45, false)⟩],
      [⟨some 58, .pick (.t 45) (.c (.v (.bool true))) (.t 57), none⟩]])
    (.cond (.t 58)
      (.seq (.ops [⟨some 2, .mov (.c (.v (.bool false))), none⟩])
      .ret)
      .skip)))
    (.ops [⟨some 16, .mov (.t 3), none⟩,
      ⟨some 17, .bin .add false (.t 16) (.c (.v (.int .i64 1))), none⟩,
      ⟨some 3, .mov (.t 17), none⟩]))))))
  (.seq (.ops [⟨some 2, .mov (.c (.v (.bool true))), none⟩])
  .ret))))⟩
def irTWide  : FnIR := ⟨17, [.t 2],
  (.seq (.ops [⟨some 1, .box (.t 0), none⟩,
    ⟨some 2, .mov (.c (.v (.int .i64 0))), none⟩])
  (.seq (.ops [⟨some 3, .mov (.c (.v (.int .i64 0))), none⟩])
  (.seq (.seq (.ops [⟨some 5, .faddr 1 (.t 1), none⟩,
    ⟨some 6, .load 1 false (.t 5), none⟩,
    ⟨some 7, .faddr 0 (.t 1), none⟩,
    ⟨some 8, .load 1 false (.t 7), none⟩,
    ⟨some 9, .bin .sub false (.t 6) (.t 8), none⟩,
    ⟨some 4, .mov (.t 9), none⟩])
  (.block 0 (.loop
    (.seq (.seq (.ops [⟨some 10, .mov (.t 4), none⟩,
      ⟨some 11, .bin .gtr false (.t 10) (.c (.v (.int .i64 0))), none⟩])
    (.cond (.t 11)
      .skip
      (.exit 0)))
    (.seq (.block 1 (.ops [⟨some 14, .mov (.t 3), none⟩,
      ⟨some 15, .bin .add false (.t 14) (.c (.v (.int .i64 1))), none⟩,
      ⟨some 3, .mov (.t 15), none⟩]))
    (.ops [⟨some 12, .mov (.t 4), none⟩,
      ⟨some 13, .bin .quo false (.t 12) (.c (.v (.int .i64 2))), none⟩,
      ⟨some 4, .mov (.t 13), none⟩]))))))
  (.seq (.ops [⟨some 16, .mov (.t 3), none⟩,
    ⟨some 2, .mov (.t 16), none⟩])
  .ret))))⟩
def irTBits (wide : Nat) : FnIR := ⟨19, [.t 2],
  (.seq (.ops [⟨some 2, .mov (.c (.v (.int .i64 0))), none⟩])
  (.seq (.ops [⟨some 3, .mov (.c (.v (.int .i64 0))), none⟩])
  (.seq (.seq (.ops [⟨some 4, .mov (.c (.v (.int .i64 0))), none⟩])
  (.block 0 (.loop
    (.seq (.seq (.ops [⟨some 5, .mov (.t 4), none⟩,
      ⟨some 6, .mov (.t 0), none⟩,
      ⟨some 7, .len false (.t 6), none⟩,
      ⟨some 8, .bin .lss false (.t 5) (.t 7), none⟩])
    (.cond (.t 8)
      .skip
      (.exit 0)))
    (.seq (.block 1 (.ops [⟨some 11, .mov (.t 3), none⟩,
      ⟨some 12, .mov (.t 0), none⟩,
      ⟨some 13, .mov (.t 4), none⟩,
      ⟨some 14, .iaddr 2 (.t 12) (.t 13), none⟩,
      ⟨some 15, .load 2 true (.t 14), none⟩,
      ⟨some 16, .call wide [(.t 15)], none⟩,
      ⟨some 17, .bin .add false (.t 11) (.t 16), none⟩,
      ⟨some 3, .mov (.t 17), none⟩]))
    (.ops [⟨some 9, .mov (.t 4), none⟩,
      ⟨some 10, .bin .add false (.t 9) (.c (.v (.int .i64 1))), none⟩,
      ⟨some 4, .mov (.t 10), none⟩]))))))
  (.seq (.ops [⟨some 18, .mov (.t 3), none⟩,
    ⟨some 2, .mov (.t 18), none⟩])
  .ret))))⟩
def irTBytes (bits : Nat) : FnIR := ⟨11, [.t 2],
  (.seq (.ops [⟨some 2, .mov (.c (.v (.int .i64 0))), none⟩])
  (.seq (.ops [⟨some 4, .mov (.t 0), none⟩,
    ⟨some 5, .call bits [(.t 4)], none⟩,
    ⟨some 3, .mov (.t 5), none⟩])
  (.seq (.seq (.ops [⟨some 6, .mov (.t 3), none⟩,
    ⟨some 7, .bin .eql false (.t 6) (.c (.v (.int .i64 0))), none⟩])
  (.cond (.t 7)
    (.seq (.ops [⟨some 2, .mov (.c (.v (.int .i64 1))), none⟩])
    .ret)
    .skip))
  (.seq (.ops [⟨some 8, .mov (.t 3), none⟩,
    ⟨some 9, .bin .add false (.t 8) (.c (.v (.int .i64 7))), none⟩,
    ⟨some 10, .bin .quo false (.t 9) (.c (.v (.int .i64 8))), none⟩,
    ⟨some 2, .mov (.t 10), none⟩])
  .ret))))⟩
def irTIn  : FnIR := ⟨39, [.t 4],
  (.seq (.ops [⟨some 4, .mov (.c (.v (.int .i64 0))), none⟩])
  (.seq (.seq (.ops [⟨some 6, .mov (.t 1), none⟩,
    ⟨some 7, .len false (.t 6), none⟩,
    ⟨some 8, .mov (.t 0), none⟩,
    ⟨some 9, .len false (.t 8), none⟩,
    ⟨some 10, .bin .neq false (.t 7) (.t 9), none⟩])
  (.cond (.t 10)
    (.seq (.ops [⟨some 4, .mov (.c (.v (.int .i64 1))), none⟩])
    .ret)
    .skip))
  (.seq (.seq (.ops [⟨some 5, .mov (.c (.v (.int .i64 0))), none⟩])
  (.block 0 (.loop
    (.seq (.seq (.ops [⟨some 11, .mov (.t 5), none⟩,
      ⟨some 12, .mov (.t 1), none⟩,
      ⟨some 13, .len false (.t 12), none⟩,
      ⟨some 14, .bin .lss false (.t 11) (.t 13), none⟩])
    (.cond (.t 14)
      .skip
      (.exit 0)))
    (.seq (.block 1 (.seq (.draw [[⟨some 17, .mov (.t 1), none⟩,
        ⟨some 18, .mov (.t 5), none⟩,
        ⟨some 19, .iaddr 1 (.t 17) (.t 18), none⟩,
        ⟨some 20, .load 1 false (.t 19), none⟩,
        ⟨some 21, .mov (.t 0), none⟩,
        ⟨some 22, .mov (.t 5), none⟩,
        ⟨some 23, .iaddr 2 (.t 21) (.t 22), none⟩,
        ⟨some 24, .faddr 0 (.t 23), none⟩,
        ⟨some 25, .load 1 false (.t 24), none⟩],
      [⟨some 26, .bin .lss false (.t 20) (.t 25), none⟩],
      [⟨some 27, .mov (.t 26), none⟩],
      [⟨some 28, .mov (.t 1), some (27, false)⟩,
        ⟨some 29, .mov (.t 5), some (27, false)⟩,
        ⟨some 30, .iaddr 1 (.t 28) (.t 29), some (27, false)⟩,
        ⟨some 31, .load 1 false (.t 30), some (27, false)⟩,
        ⟨some 32, .mov (.t 0), some (27, false)⟩,
        ⟨some 33, .mov (.t 5), some (27, false)⟩,
        ⟨some 34, .iaddr 2 (.t 32) (.t 33), some (27, false)⟩,
        ⟨some 35, .faddr 1 (.t 34), some (27, false)⟩,
        ⟨some 36, .load 1 false (.t 35), some (27, false)⟩],
      [⟨some 37, .bin .gtr false (.t 31) (.t 36), some (27, false)⟩],
      [⟨some 38, .pick (.t 27) (.c (.v (.bool true))) (.t 37), none⟩]])
    (.cond (.t 38)
      (.seq (.ops [⟨some 4, .mov (.c (.v (.int .i64 5))), none⟩])
      .ret)
      .skip)))
    (.ops [⟨some 15, .mov (.t 5), none⟩,
      ⟨some 16, .bin .add false (.t 15) (.c (.v (.int .i64 1))), none⟩,
      ⟨some 5, .mov (.t 16), none⟩]))))))
  (.seq (.ops [⟨some 4, .mov (.c (.v (.int .i64 0))), none⟩])
  .ret))))⟩
def irTEnc (inn wide put byt : Nat) : FnIR := ⟨59, [.t 4, .t 5],
  (.seq (.ops [⟨some 4, .mov (.c (.v (.slice none 0 0))), none⟩,
    ⟨some 5, .mov (.c (.v (.int .i64 0))), none⟩])
  (.seq (.ops [⟨some 12, .mov (.t 0), none⟩,
    ⟨some 13, .mov (.t 1), none⟩,
    ⟨some 14, .call inn [(.t 12), (.t 13)], none⟩,
    ⟨some 6, .mov (.t 14), none⟩])
  (.seq (.seq (.ops [⟨some 15, .mov (.t 6), none⟩,
    ⟨some 16, .bin .neq false (.t 15) (.c (.v (.int .i64 0))), none⟩])
  (.cond (.t 16)
    (.seq (.ops [⟨some 17, .mov (.t 6), none⟩,
      ⟨some 4, .mov (.c (.v (.slice none 0 0))), none⟩,
      ⟨some 5, .mov (.t 17), none⟩])
    .ret)
    .skip))
  (.seq (.ops [⟨some 7, .alloc (.agg [(.v (.slice none 0 0)), (.v (.int .i64 0))]), none⟩])
  (.seq (.seq (.ops [⟨some 8, .mov (.c (.v (.int .i64 0))), none⟩])
  (.block 0 (.loop
    (.seq (.seq (.ops [⟨some 18, .mov (.t 8), none⟩,
      ⟨some 19, .mov (.t 1), none⟩,
      ⟨some 20, .len false (.t 19), none⟩,
      ⟨some 21, .bin .lss false (.t 18) (.t 20), none⟩])
    (.cond (.t 21)
      .skip
      (.exit 0)))
    (.seq (.block 1 (.seq (.draw [[⟨some 25, .load 2 true (.t 7), none⟩,
        ⟨some 26, .mov (.t 1), none⟩,
        ⟨some 27, .mov (.t 8), none⟩,
        ⟨some 28, .iaddr 1 (.t 26) (.t 27), none⟩,
        ⟨some 29, .load 1 false (.t 28), none⟩,
        ⟨some 30, .mov (.t 0), none⟩,
        ⟨some 31, .mov (.t 8), none⟩,
        ⟨some 32, .iaddr 2 (.t 30) (.t 31), none⟩,
        ⟨some 33, .faddr 0 (.t 32), none⟩,
        ⟨some 34, .load 1 false (.t 33), none⟩,
        ⟨some 35, .bin .sub false (.t 29) (.t 34), none⟩,
        ⟨some 36, .conv .u64 (.t 35), none⟩,
        ⟨some 37, .mov (.t 0), none⟩,
        ⟨some 38, .mov (.t 8), none⟩,
        ⟨some 39, .iaddr 2 (.t 37) (.t 38), none⟩,
        ⟨some 40, .load 2 true (.t 39), none⟩,
        ⟨some 41, .call wide [(.t 40)], none⟩,
        ⟨some 42, .call put [(.t 25), (.t 36), (.t 41)], none⟩,
        ⟨some 24, .mov (.t 42), none⟩,
        ⟨some 43, .extract (.t 24) 0, none⟩,
        ⟨some 44, .extract (.t 24) 1, none⟩,
        ⟨some 9, .alloc (.agg [(.v (.slice none 0 0)), (.v (.int .i64 0))]), none⟩,
        ⟨none, .store 2 (.t 9) (.t 43), none⟩],
      [⟨some 10, .mov (.t 44), none⟩]])
    (.ops [⟨some 45, .load 2 true (.t 9), none⟩,
      ⟨none, .store 2 (.t 7) (.t 45), none⟩])))
    (.ops [⟨some 22, .mov (.t 8), none⟩,
      ⟨some 23, .bin .add false (.t 22) (.c (.v (.int .i64 1))), none⟩,
      ⟨some 8, .mov (.t 23), none⟩]))))))
  (.seq (.ops [⟨some 46, .bslice 1 [(.v (.int .u8 0))] 0 [], none⟩,
    ⟨some 47, .faddr 0 (.t 7), none⟩,
    ⟨some 48, .load 1 false (.t 47), none⟩,
    ⟨some 49, .append 1 1 [(.v (.int .u8 0))] (.t 46) (.t 48), none⟩,
    ⟨some 11, .mov (.t 49), none⟩])
  (.seq (.block 2 (.loop
    (.seq (.seq (.ops [⟨some 50, .mov (.t 11), none⟩,
      ⟨some 51, .len false (.t 50), none⟩,
      ⟨some 52, .mov (.t 0), none⟩,
      ⟨some 53, .call byt [(.t 52)], none⟩,
      ⟨some 54, .bin .lss false (.t 51) (.t 53), none⟩])
    (.cond (.t 54)
      .skip
      (.exit 2)))
    (.block 3 (.ops [⟨some 55, .mov (.t 11), none⟩,
      ⟨some 56, .bslice 1 [(.v (.int .u8 0))] 1 [(0, 1, (.c (.v (.int .u8 0))))], none⟩,
      ⟨some 57, .append 1 1 [(.v (.int .u8 0))] (.t 55) (.t 56), none⟩,
      ⟨some 11, .mov (.t 57), none⟩])))))
  (.seq (.ops [⟨some 58, .mov (.t 11), none⟩,
    ⟨some 4, .mov (.t 58), none⟩,
    ⟨some 5, .mov (.c (.v (.int .i64 0))), none⟩])
  .ret))))))))⟩
def irTDec (byt wide take enc : Nat) : FnIR := ⟨73, [.t 4, .t 5],
  (.seq (.ops [⟨some 4, .mov (.c (.v (.slice none 0 0))), none⟩,
    ⟨some 5, .mov (.c (.v (.int .i64 0))), none⟩])
  (.seq (.seq (.ops [⟨some 13, .mov (.t 1), none⟩,
    ⟨some 14, .len false (.t 13), none⟩,
    ⟨some 15, .mov (.t 0), none⟩,
    ⟨some 16, .call byt [(.t 15)], none⟩,
    ⟨some 17, .bin .neq false (.t 14) (.t 16), none⟩])
  (.cond (.t 17)
    (.seq (.ops [⟨some 4, .mov (.c (.v (.slice none 0 0))), none⟩,
      ⟨some 5, .mov (.c (.v (.int .i64 2))), none⟩])
    .ret)
    .skip))
  (.seq (.ops [⟨some 6, .mov (.c (.v (.int .i64 0))), none⟩])
  (.seq (.ops [⟨some 7, .mov (.c (.v (.slice none 0 0))), none⟩])
  (.seq (.seq (.ops [⟨some 8, .mov (.c (.v (.int .i64 0))), none⟩])
  (.block 0 (.loop
    (.seq (.seq (.ops [⟨some 18, .mov (.t 8), none⟩,
      ⟨some 19, .mov (.t 0), none⟩,
      ⟨some 20, .len false (.t 19), none⟩,
      ⟨some 21, .bin .lss false (.t 18) (.t 20), none⟩])
    (.cond (.t 21)
      .skip
      (.exit 0)))
    (.seq (.block 1 (.seq (.ops [⟨some 25, .mov (.t 1), none⟩,
      ⟨some 26, .mov (.t 1), none⟩,
      ⟨some 27, .len false (.t 26), none⟩,
      ⟨some 28, .bin .mul false (.c (.v (.int .i64 8))) (.t 27), none⟩,
      ⟨some 29, .build [(.v (.slice none 0 0)), (.v (.int .i64 0))] [(0, 1, (.t 25)), (1, 1, (.t 28))], none⟩,
      ⟨some 30, .mov (.t 6), none⟩,
      ⟨some 31, .mov (.t 0), none⟩,
      ⟨some 32, .mov (.t 8), none⟩,
      ⟨some 33, .iaddr 2 (.t 31) (.t 32), none⟩,
      ⟨some 34, .load 2 true (.t 33), none⟩,
      ⟨some 35, .call wide [(.t 34)], none⟩,
      ⟨some 36, .call take [(.t 29), (.t 30), (.t 35)], none⟩,
      ⟨some 24, .mov (.t 36), none⟩,
      ⟨some 37, .extract (.t 24) 0, none⟩,
      ⟨some 38, .extract (.t 24) 1, none⟩,
      ⟨some 9, .mov (.t 37), none⟩,
      ⟨some 10, .mov (.t 38), none⟩])
    (.seq (.ops [⟨some 39, .mov (.t 7), none⟩,
      ⟨some 40, .mov (.t 0), none⟩,
      ⟨some 41, .mov (.t 8), none⟩,
      ⟨some 42, .iaddr 2 (.t 40) (.t 41), none⟩,
      ⟨some 43, .faddr 0 (.t 42), none⟩,
      ⟨some 44, .load 1 false (.t 43), none⟩,
      ⟨some 45, .mov (.t 9), none⟩,
      ⟨some 46, .conv .i64 (.t 45), none⟩,
      ⟨some 47, .bin .add false (.t 44) (.t 46), none⟩,
      ⟨some 48, .bslice 1 [(.v (.int .i64 0))] 1 [(0, 1, (.t 47))], none⟩,
      ⟨some 49, .append 1 8 [(.v (.int .i64 0))] (.t 39) (.t 48), none⟩,
      ⟨some 7, .mov (.t 49), none⟩])
    (.ops [⟨some 50, .mov (.t 6), none⟩,
      ⟨some 51, .mov (.t 0), none⟩,
      ⟨some 52, .mov (.t 8), none⟩,
      ⟨some 53, .iaddr 2 (.t 51) (.t 52), none⟩,
      ⟨some 54, .load 2 true (.t 53), none⟩,
      ⟨some 55, .call wide [(.t 54)], none⟩,
      ⟨some 56, .bin .add false (.t 50) (.t 55), none⟩,
      ⟨some 6, .mov (.t 56), none⟩]))))
    (.ops [⟨some 22, .mov (.t 8), none⟩,
      ⟨some 23, .bin .add false (.t 22) (.c (.v (.int .i64 1))), none⟩,
      ⟨some 8, .mov (.t 23), none⟩]))))))
  (.seq (.ops [⟨some 58, .mov (.t 0), none⟩,
    ⟨some 59, .mov (.t 7), none⟩,
    ⟨some 60, .call enc [(.t 58), (.t 59)], none⟩,
    ⟨some 57, .mov (.t 60), none⟩,
    ⟨some 61, .extract (.t 57) 0, none⟩,
    ⟨some 62, .extract (.t 57) 1, none⟩,
    ⟨some 11, .mov (.t 61), none⟩,
    ⟨some 12, .mov (.t 62), none⟩])
  (.seq (.seq (.ops [⟨some 63, .mov (.t 12), none⟩,
    ⟨some 64, .bin .neq false (.t 63) (.c (.v (.int .i64 0))), none⟩,
    ⟨some 65, .mov (.t 64), none⟩,
    ⟨some 66, .mov (.t 11), some (65, false)⟩,
    ⟨some 67, .b2s (.t 66), some (65, false)⟩,
    ⟨some 68, .mov (.t 1), some (65, false)⟩,
    ⟨some 69, .b2s (.t 68), some (65, false)⟩,
    ⟨some 70, .bin .neq false (.t 67) (.t 69), some (65, false)⟩,
    ⟨some 71, .pick (.t 65) (.c (.v (.bool true))) (.t 70), none⟩])
  (.cond (.t 71)
    (.seq (.ops [⟨some 4, .mov (.c (.v (.slice none 0 0))), none⟩,
      ⟨some 5, .mov (.c (.v (.int .i64 2))), none⟩])
    .ret)
    .skip))
  (.seq (.ops [⟨some 72, .mov (.t 7), none⟩,
    ⟨some 4, .mov (.t 72), none⟩,
    ⟨some 5, .mov (.c (.v (.int .i64 0))), none⟩])
  .ret))))))))⟩
def irTVec  : FnIR := ⟨26, [.t 4],
  (.seq (.ops [⟨some 4, .mov (.c (.v (.bool false))), none⟩])
  (.seq (.seq (.ops [⟨some 6, .mov (.t 0), none⟩,
    ⟨some 7, .len false (.t 6), none⟩,
    ⟨some 8, .mov (.t 1), none⟩,
    ⟨some 9, .len false (.t 8), none⟩,
    ⟨some 10, .bin .neq false (.t 7) (.t 9), none⟩])
  (.cond (.t 10)
    (.seq (.ops [⟨some 4, .mov (.c (.v (.bool false))), none⟩])
    .ret)
    .skip))
  (.seq (.seq (.ops [⟨some 5, .mov (.c (.v (.int .i64 0))), none⟩])
  (.block 0 (.loop
    (.seq (.seq (.ops [⟨some 11, .mov (.t 5), none⟩,
      ⟨some 12, .mov (.t 0), none⟩,
      ⟨some 13, .len false (.t 12), none⟩,
      ⟨some 14, .bin .lss false (.t 11) (.t 13), none⟩])
    (.cond (.t 14)
      .skip
      (.exit 0)))
    (.seq (.block 1 (.seq (.draw [[⟨some 17, .mov (.t 0), none⟩,
        ⟨some 18, .mov (.t 5), none⟩,
        ⟨some 19, .iaddr 1 (.t 17) (.t 18), none⟩,
        ⟨some 20, .load 1 false (.t 19), none⟩,
        ⟨some 21, .mov (.t 1), none⟩,
        ⟨some 22, .mov (.t 5), none⟩,
        ⟨some 23, .iaddr 1 (.t 21) (.t 22), none⟩,
        ⟨some 24, .load 1 false (.t 23), none⟩],
      [⟨some 25, .bin .neq false (.t 20) (.t 24), none⟩]])
    (.cond (.t 25)
      (.seq (.ops [⟨some 4, .mov (.c (.v (.bool false))), none⟩])
      .ret)
      .skip)))
    (.ops [⟨some 15, .mov (.t 5), none⟩,
      ⟨some 16, .bin .add false (.t 15) (.c (.v (.int .i64 1))), none⟩,
      ⟨some 5, .mov (.t 16), none⟩]))))))
  (.seq (.ops [⟨some 4, .mov (.c (.v (.bool true))), none⟩])
  .ret))))⟩
end Lg
