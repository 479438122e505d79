/- The functions of the program in the small language. -/
import Derived.Test.YthmiijlgbpkcjaaLgR
import Derived.Test.YthmiijlgbpkcjaaChecked
namespace Go.Proofs.Ythmiijlgbpkcjaa
open Go Lg

theorem ir3 : compF Try.prog 3 = some ⟨59, [.t 2],
  (.seq (.ops [⟨some 1, .box (.t 0), none⟩,
    ⟨some 2, .mov (.c (.v (.bool false))), none⟩])
  (.seq (.ops [⟨some 9, .faddr 0 (.t 1), none⟩,
    ⟨some 10, .load 1 false (.t 9), none⟩,
    ⟨some 3, .mov (.t 10), none⟩])
  (.seq (.ops [⟨some 11, .faddr 1 (.t 1), none⟩,
    ⟨some 12, .load 1 false (.t 11), none⟩,
    ⟨some 4, .mov (.t 12), none⟩])
  (.seq (.ops [⟨some 13, .faddr 2 (.t 1), none⟩,
    ⟨some 14, .load 1 false (.t 13), none⟩,
    ⟨some 5, .mov (.t 14), none⟩])
  (.seq (.ops [⟨some 15, .faddr 3 (.t 1), none⟩,
    ⟨some 16, .load 1 false (.t 15), none⟩,
    ⟨some 6, .mov (.t 16), none⟩])
  (.seq (.ops [⟨some 17, .call 7 [], none⟩,
    ⟨some 7, .mov (.t 17), none⟩])
  (.seq (.seq (.ops [⟨some 18, .mov (.t 3), none⟩,
    ⟨some 19, .len false (.t 18), none⟩,
    ⟨some 20, .bin .gtr false (.t 19) (.c (.v (.int .i64 1000))), none⟩,
    ⟨some 21, .mov (.t 20), none⟩,
    ⟨some 22, .mov (.t 5), some (21, false)⟩,
    ⟨some 23, .bin .gtr false (.t 22) (.c (.v (.int .i64 100))), some (21, false)⟩,
    ⟨some 24, .pick (.t 21) (.c (.v (.bool true))) (.t 23), none⟩])
  (.cond (.t 24)
    (.seq (.ops [⟨some 25, .mov (.t 7), none⟩,
      ⟨some 2, .mov (.t 25), none⟩])
    .ret)
    .skip))
  (.seq (.ops [⟨some 26, .mov (.t 3), none⟩,
    ⟨some 27, .mov (.t 4), none⟩,
    ⟨some 28, .call 8 [(.t 26), (.t 27)], none⟩,
    ⟨some 8, .mov (.t 28), none⟩])
  (.seq (.ops [⟨some 29, .mov (.t 7), none⟩,
    ⟨some 30, .mov (.t 29), none⟩,
    ⟨some 31, .mov (.t 8), some (30, true)⟩,
    ⟨some 32, .mov (.t 3), some (30, true)⟩,
    ⟨some 33, .mov (.t 4), some (30, true)⟩,
    ⟨some 34, .call 9 [(.t 32), (.t 33)], some (30, true)⟩,
    ⟨some 35, .bin .eql false (.t 31) (.t 34), some (30, true)⟩,
    ⟨some 36, .pick (.t 30) (.t 35) (.c (.v (.bool false))), none⟩,
    ⟨some 37, .mov (.t 36), none⟩,
    ⟨some 38, .mov (.t 8), some (37, true)⟩,
    ⟨some 39, .mov (.t 6), some (37, true)⟩,
    ⟨some 40, .call 10 [(.t 38), (.t 39)], some (37, true)⟩,
    ⟨some 41, .mov (.t 8), some (37, true)⟩,
    ⟨some 42, .mov (.t 6), some (37, true)⟩,
    ⟨some 43, .call 11 [(.t 41), (.t 42)], some (37, true)⟩,
    ⟨some 44, .bin .eql false (.t 40) (.t 43), some (37, true)⟩,
    ⟨some 45, .pick (.t 37) (.t 44) (.c (.v (.bool false))), none⟩,
    ⟨some 46, .mov (.t 45), none⟩,
    ⟨some 47, .mov (.t 3), some (46, true)⟩,
    ⟨some 48, .mov (.t 4), some (46, true)⟩,
    ⟨some 49, .mov (.t 5), some (46, true)⟩,
    ⟨some 50, .mov (.t 6), some (46, true)⟩,
    ⟨some 51, .call 13 [(.t 47), (.t 48), (.t 49), (.t 50)], some (46, true)⟩,
    ⟨some 52, .mov (.t 3), some (46, true)⟩,
    ⟨some 53, .mov (.t 4), some (46, true)⟩,
    ⟨some 54, .mov (.t 5), some (46, true)⟩,
    ⟨some 55, .mov (.t 6), some (46, true)⟩,
    ⟨some 56, .call 14 [(.t 52), (.t 53), (.t 54), (.t 55)], some (46, true)⟩,
    ⟨some 57, .call 12 [(.t 51), (.t 56)], some (46, true)⟩,
    ⟨some 58, .pick (.t 46) (.t 57) (.c (.v (.bool false))), none⟩,
    ⟨some 2, .mov (.t 58), none⟩])
  .ret)))))))))⟩ := by kernel_rfl

theorem ir4 : compF Try.prog 4 = some ⟨118, [.t 2],
  (.seq (.ops [⟨some 1, .box (.t 0), none⟩,
    ⟨some 2, .mov (.c (.v (.bool false))), none⟩])
  (.seq (.ops [⟨some 12, .faddr 0 (.t 1), none⟩,
    ⟨some 13, .load 1 false (.t 12), none⟩,
    ⟨some 3, .mov (.t 13), none⟩])
  (.seq (.ops [⟨some 14, .faddr 1 (.t 1), none⟩,
    ⟨some 15, .load 1 false (.t 14), none⟩,
    ⟨some 4, .mov (.t 15), none⟩])
  (.seq (.ops [⟨some 16, .faddr 2 (.t 1), none⟩,
    ⟨some 17, .load 1 false (.t 16), none⟩,
    ⟨some 5, .mov (.t 17), none⟩])
  (.seq (.ops [⟨some 18, .faddr 3 (.t 1), none⟩,
    ⟨some 19, .load 1 false (.t 18), none⟩,
    ⟨some 6, .mov (.t 19), none⟩])
  (.seq (.ops [⟨some 20, .call 7 [], none⟩,
    ⟨some 7, .mov (.t 20), none⟩])
  (.seq (.seq (.ops [⟨some 21, .mov (.t 3), none⟩,
    ⟨some 22, .len false (.t 21), none⟩,
    ⟨some 23, .bin .gtr false (.t 22) (.c (.v (.int .i64 1000))), none⟩])
  (.cond (.t 23)
    (.seq (.ops [⟨some 24, .mov (.t 7), none⟩,
      ⟨some 2, .mov (.t 24), none⟩])
    .ret)
    .skip))
  (.seq (.ops [⟨some 25, .mov (.t 5), none⟩,
    ⟨some 26, .conv .i64 (.t 25), none⟩,
    ⟨some 27, .bin .rem false (.t 26) (.c (.v (.int .i64 100))), none⟩,
    ⟨some 8, .mov (.t 27), none⟩])
  (.seq (.ops [⟨some 28, .mov (.t 3), none⟩,
    ⟨some 29, .mov (.t 4), none⟩,
    ⟨some 30, .mov (.t 8), none⟩,
    ⟨some 31, .mov (.t 6), none⟩,
    ⟨some 32, .call 13 [(.t 28), (.t 29), (.t 30), (.t 31)], none⟩,
    ⟨some 9, .mov (.t 32), none⟩])
  (.seq (.ops [⟨some 33, .mov (.t 3), none⟩,
    ⟨some 34, .mov (.t 4), none⟩,
    ⟨some 35, .mov (.t 8), none⟩,
    ⟨some 36, .bin .quo false (.t 35) (.c (.v (.int .i64 2))), none⟩,
    ⟨some 37, .mov (.t 6), none⟩,
    ⟨some 38, .call 13 [(.t 33), (.t 34), (.t 36), (.t 37)], none⟩,
    ⟨some 10, .mov (.t 38), none⟩])
  (.seq (.seq (.ops [⟨some 39, .mov (.t 9), none⟩,
    ⟨some 40, .len false (.t 39), none⟩,
    ⟨some 41, .mov (.t 8), none⟩,
    ⟨some 42, .bin .neq false (.t 40) (.t 41), none⟩,
    ⟨some 43, .mov (.t 42), none⟩,
    ⟨some 44, .mov (.t 10), some (43, false)⟩,
    ⟨some 45, .len false (.t 44), some (43, false)⟩,
    ⟨some 46, .mov (.t 8), some (43, false)⟩,
    ⟨some 47, .bin .quo false (.t 46) (.c (.v (.int .i64 2))), some (43, false)⟩,
    ⟨some 48, .bin .neq false (.t 45) (.t 47), some (43, false)⟩,
    ⟨some 49, .pick (.t 43) (.c (.v (.bool true))) (.t 48), none⟩,
    ⟨some 50, .mov (.t 49), none⟩,
    ⟨some 51, .mov (.t 9), some (50, false)⟩,
    ⟨some 52, .mov (.t 8), some (50, false)⟩,
    ⟨some 53, .bin .quo false (.t 52) (.c (.v (.int .i64 2))), some (50, false)⟩,
    ⟨some 54, .slice 1 (.t 51) none (some (.t 53)) none, some (50, false)⟩,
    ⟨some 55, .mov (.t 10), some (50, false)⟩,
    ⟨some 56, .call 12 [(.t 54), (.t 55)], some (50, false)⟩,
    ⟨some 57, .un .not (.t 56), some (50, false)⟩,
    ⟨some 58, .pick (.t 50) (.c (.v (.bool true))) (.t 57), none⟩,
    ⟨some 59, .mov (.t 58), none⟩,
    ⟨some 60, .mov (.t 3), some (59, false)⟩,
    ⟨some 61, .mov (.t 4), some (59, false)⟩,
    ⟨some 62, .mov (.t 8), some (59, false)⟩,
    ⟨some 63, .mov (.t 6), some (59, false)⟩,
    ⟨some 64, .call 13 [(.t 60), (.t 61), (.t 62), (.t 63)], some (59, false)⟩,
    ⟨some 65, .mov (.t 9), some (59, false)⟩,
    ⟨some 66, .call 12 [(.t 64), (.t 65)], some (59, false)⟩,
    ⟨some 67, .un .not (.t 66), some (59, false)⟩,
    ⟨some 68, .pick (.t 59) (.c (.v (.bool true))) (.t 67), none⟩])
  (.cond (.t 68)
    (.seq (.ops [⟨some 2, .mov (.c (.v (.bool false))), none⟩])
    .ret)
    .skip))
  (.seq (.seq (.ops [⟨some 11, .mov (.c (.v (.int .i64 0))), none⟩])
  (.block 0 (.loop
    (.seq (.seq (.ops [⟨some 69, .mov (.t 11), none⟩,
      ⟨some 70, .mov (.t 8), none⟩,
      ⟨some 71, .bin .lss false (.t 69) (.t 70), none⟩])
    (.cond (.t 71)
      .skip
      (.exit 0)))
    (.seq (.block 1 (.seq (.draw [[⟨some 74, .mov (.t 9), none⟩,
        ⟨some 75, .mov (.t 11), none⟩],
      [⟨some 76, .iaddr 1 (.t 74) (.t 75), none⟩],
      [⟨some 77, .load 1 false (.t 76), none⟩],
      [⟨some 78, .bin .lss false (.t 77) (.c (.v (.int .i64 0))), none⟩],
      [⟨some 79, .mov (.t 78), none⟩],
      [⟨some 80, .mov (.t 6), some (79, false)⟩],
      [⟨some 81, .bin .geq false (.t 80) (.c (.v (.int .i64 1))), some (79, false)⟩],
      [⟨some 82, .mov (.t 81), some (79, false)⟩],
      [⟨some 83, .mov (.t 9), some (82, true)⟩,
        ⟨some 84, .mov (.t 11), some (82, true)⟩,
        ⟨some 85, .iaddr 1 (.t 83) (.t 84), some (82, true)⟩,
        ⟨some 86, .load 1 false (.t 85), some (82, true)⟩,
        ⟨some 87, .mov (.t 6), some (82, true)⟩],
      [⟨some 88, .bin .geq false (.t 86) (.t 87), some (82, true)⟩],
      [⟨some 89, .pick (.t 82) (.t 88) (.c (.v (.bool false))), some (79, false)⟩],
      [⟨some 90, .pick (.t 79) (.c (.v (.bool true))) (.t 89), none⟩],
      [⟨some 91, .mov (.t 90), none⟩],
      [⟨some 92, .mov (.t 6), some (91, false)⟩],
      [⟨some 93, .bin .lss false (.t 92) (.c (.v (.int .i64 1))), some (91, false)⟩],
      [⟨some 94, .mov (.t 93), some (91, false)⟩],
      [⟨some 95, .mov (.t 9), some (94, true)⟩,
        ⟨some 96, .mov (.t 11), some (94, true)⟩],
      [⟨some 97, .iaddr 1 (.t 95) (.t 96), some (94, true)⟩],
      [⟨some 98, .load 1 false (.t 97), some (94, true)⟩],
      [⟨some 99, .bin .neq false (.t 98) (.c (.v (.int .i64 0))), some (94, true)⟩],
      [⟨some 100, .pick (.t 94) (.t 99) (.c (.v (.bool false))), some (91, false)⟩],
      [⟨some 101, .pick (.t 91) (.c (.v (.bool true))) (.t 100), none⟩],
      [⟨some 102, .mov (.t 101), none⟩],
      [⟨some 103, .mov (.t 9), some (102, false)⟩,
        ⟨some 104, .mov (.t 11), some (102, false)⟩,
        ⟨some 105, .iaddr 1 (.t 103) (.t 104), some (102, false)⟩,
        ⟨some 106, .load 1 false (.t 105), some (102, false)⟩,
        ⟨some 107, .mov (.t 3), some (102, false)⟩,
        ⟨some 108, .mov (.t 4), some (102, false)⟩,
        ⟨some 109, .mov (.t 11), some (102, false)⟩,
        ⟨some 110, .conv .u64 (.t 109), some (102, false)⟩,
        ⟨some 111, .bin .add false (.t 108) (.t 110), some (102, false)⟩,
        ⟨some 112, .call 8 [(.t 107), (.t 111)], some (102, false)⟩,
        ⟨some 113, .mov (.t 6), some (102, false)⟩,
        ⟨some 114, .call 10 [(.t 112), (.t 113)], some (102, false)⟩],
      [⟨some 115, .bin .neq false (.t 106) (.t 114), some (102, false)⟩],
      [⟨some 116, .pick (.t 102) (.c (.v (.bool true))) (.t 115), none⟩]])
    (.cond (.t 116)
      (.seq (.ops [⟨some 2, .mov (.c (.v (.bool false))), none⟩])
      .ret)
      .skip)))
    (.ops [⟨some 72, .mov (.t 11), none⟩,
      ⟨some 73, .bin .add false (.t 72) (.c (.v (.int .i64 1))), none⟩,
      ⟨some 11, .mov (.t 73), none⟩]))))))
  (.seq (.ops [⟨some 117, .mov (.t 7), none⟩,
    ⟨some 2, .mov (.t 117), none⟩])
  .ret)))))))))))))⟩ := by kernel_rfl

theorem ir5 : compF Try.prog 5 = some ⟨65, [.t 2],
  (.seq (.ops [⟨some 1, .box (.t 0), none⟩,
    ⟨some 2, .mov (.c (.v (.bool false))), none⟩])
  (.seq (.ops [⟨some 11, .faddr 0 (.t 1), none⟩,
    ⟨some 12, .load 1 false (.t 11), none⟩,
    ⟨some 3, .mov (.t 12), none⟩])
  (.seq (.ops [⟨some 13, .faddr 1 (.t 1), none⟩,
    ⟨some 14, .load 1 false (.t 13), none⟩,
    ⟨some 4, .mov (.t 14), none⟩])
  (.seq (.ops [⟨some 15, .faddr 2 (.t 1), none⟩,
    ⟨some 16, .load 1 false (.t 15), none⟩,
    ⟨some 5, .mov (.t 16), none⟩])
  (.seq (.ops [⟨some 17, .faddr 3 (.t 1), none⟩,
    ⟨some 18, .load 1 false (.t 17), none⟩,
    ⟨some 6, .mov (.t 18), none⟩])
  (.seq (.ops [⟨some 19, .faddr 4 (.t 1), none⟩,
    ⟨some 20, .load 1 false (.t 19), none⟩,
    ⟨some 7, .mov (.t 20), none⟩])
  (.seq (.ops [⟨some 21, .call 7 [], none⟩,
    ⟨some 8, .mov (.t 21), none⟩])
  (.seq (.seq (.ops [⟨some 22, .mov (.t 3), none⟩,
    ⟨some 23, .len false (.t 22), none⟩,
    ⟨some 24, .bin .gtr false (.t 23) (.c (.v (.int .i64 1000))), none⟩])
  (.cond (.t 24)
    (.seq (.ops [⟨some 25, .mov (.t 8), none⟩,
      ⟨some 2, .mov (.t 25), none⟩])
    .ret)
    .skip))
  (.seq (.ops [⟨some 26, .bslice 1 [(.v (.int .u8 0))] 0 [], none⟩,
    ⟨some 27, .mov (.t 3), none⟩,
    ⟨some 28, .append 1 1 [(.v (.int .u8 0))] (.t 26) (.t 27), none⟩,
    ⟨some 29, .mov (.t 4), none⟩,
    ⟨some 30, .bslice 1 [(.v (.int .u8 0))] 1 [(0, 1, (.t 29))], none⟩,
    ⟨some 31, .append 1 1 [(.v (.int .u8 0))] (.t 28) (.t 30), none⟩,
    ⟨some 9, .mov (.t 31), none⟩])
  (.seq (.ops [⟨some 32, .bslice 1 [(.v (.int .u8 0))] 0 [], none⟩,
    ⟨some 33, .mov (.t 3), none⟩,
    ⟨some 34, .append 1 1 [(.v (.int .u8 0))] (.t 32) (.t 33), none⟩,
    ⟨some 35, .mov (.t 5), none⟩,
    ⟨some 36, .bslice 1 [(.v (.int .u8 0))] 1 [(0, 1, (.t 35))], none⟩,
    ⟨some 37, .append 1 1 [(.v (.int .u8 0))] (.t 34) (.t 36), none⟩,
    ⟨some 10, .mov (.t 37), none⟩])
  (.seq (.ops [⟨some 38, .mov (.t 8), none⟩,
    ⟨some 39, .mov (.t 38), none⟩,
    ⟨some 40, .mov (.t 9), some (39, true)⟩,
    ⟨some 41, .mov (.t 6), some (39, true)⟩,
    ⟨some 42, .call 8 [(.t 40), (.t 41)], some (39, true)⟩,
    ⟨some 43, .mov (.t 10), some (39, true)⟩,
    ⟨some 44, .mov (.t 6), some (39, true)⟩,
    ⟨some 45, .call 8 [(.t 43), (.t 44)], some (39, true)⟩,
    ⟨some 46, .bin .eql false (.t 42) (.t 45), some (39, true)⟩,
    ⟨some 47, .mov (.t 4), some (39, true)⟩,
    ⟨some 48, .mov (.t 5), some (39, true)⟩,
    ⟨some 49, .bin .eql false (.t 47) (.t 48), some (39, true)⟩,
    ⟨some 50, .bin .eql true (.t 46) (.t 49), some (39, true)⟩,
    ⟨some 51, .pick (.t 39) (.t 50) (.c (.v (.bool false))), none⟩,
    ⟨some 52, .mov (.t 51), none⟩,
    ⟨some 53, .mov (.t 3), some (52, true)⟩,
    ⟨some 54, .mov (.t 6), some (52, true)⟩,
    ⟨some 55, .call 8 [(.t 53), (.t 54)], some (52, true)⟩,
    ⟨some 56, .mov (.t 3), some (52, true)⟩,
    ⟨some 57, .mov (.t 7), some (52, true)⟩,
    ⟨some 58, .call 8 [(.t 56), (.t 57)], some (52, true)⟩,
    ⟨some 59, .bin .eql false (.t 55) (.t 58), some (52, true)⟩,
    ⟨some 60, .mov (.t 6), some (52, true)⟩,
    ⟨some 61, .mov (.t 7), some (52, true)⟩,
    ⟨some 62, .bin .eql false (.t 60) (.t 61), some (52, true)⟩,
    ⟨some 63, .bin .eql true (.t 59) (.t 62), some (52, true)⟩,
    ⟨some 64, .pick (.t 52) (.t 63) (.c (.v (.bool false))), none⟩,
    ⟨some 2, .mov (.t 64), none⟩])
  .ret)))))))))))⟩ := by kernel_rfl

theorem ir6 : compF Try.prog 6 = some ⟨115, [.t 2],
  (.seq (.ops [⟨some 1, .box (.t 0), none⟩,
    ⟨some 2, .mov (.c (.v (.bool false))), none⟩])
  (.seq (.ops [⟨some 15, .faddr 0 (.t 1), none⟩,
    ⟨some 16, .load 1 false (.t 15), none⟩,
    ⟨some 3, .mov (.t 16), none⟩])
  (.seq (.ops [⟨some 17, .faddr 1 (.t 1), none⟩,
    ⟨some 18, .load 1 false (.t 17), none⟩,
    ⟨some 4, .mov (.t 18), none⟩])
  (.seq (.ops [⟨some 19, .faddr 2 (.t 1), none⟩,
    ⟨some 20, .load 1 false (.t 19), none⟩,
    ⟨some 5, .mov (.t 20), none⟩])
  (.seq (.ops [⟨some 21, .faddr 3 (.t 1), none⟩,
    ⟨some 22, .load 1 false (.t 21), none⟩,
    ⟨some 6, .mov (.t 22), none⟩])
  (.seq (.ops [⟨some 23, .call 7 [], none⟩,
    ⟨some 7, .mov (.t 23), none⟩])
  (.seq (.seq (.ops [⟨some 24, .mov (.t 3), none⟩,
    ⟨some 25, .len false (.t 24), none⟩,
    ⟨some 26, .bin .gtr false (.t 25) (.c (.v (.int .i64 1000))), none⟩])
  (.cond (.t 26)
    (.seq (.ops [⟨some 27, .mov (.t 7), none⟩,
      ⟨some 2, .mov (.t 27), none⟩])
    .ret)
    .skip))
  (.seq (.ops [⟨some 28, .mov (.t 5), none⟩,
    ⟨some 29, .conv .i64 (.t 28), none⟩,
    ⟨some 30, .bin .rem false (.t 29) (.c (.v (.int .i64 60))), none⟩,
    ⟨some 31, .bin .add false (.c (.v (.int .i64 1))) (.t 30), none⟩,
    ⟨some 8, .mov (.t 31), none⟩])
  (.seq (.ops [⟨some 32, .mov (.t 6), none⟩,
    ⟨some 33, .conv .i64 (.t 32), none⟩,
    ⟨some 34, .bin .add false (.c (.v (.int .i64 1))) (.t 33), none⟩,
    ⟨some 9, .mov (.t 34), none⟩])
  (.seq (.ops [⟨some 35, .mov (.t 3), none⟩,
    ⟨some 36, .mov (.t 4), none⟩,
    ⟨some 37, .mov (.t 8), none⟩,
    ⟨some 38, .mov (.t 9), none⟩,
    ⟨some 39, .call 13 [(.t 35), (.t 36), (.t 37), (.t 38)], none⟩,
    ⟨some 10, .mov (.t 39), none⟩])
  (.seq (.ops [⟨some 40, .mov (.t 3), none⟩,
    ⟨some 41, .mov (.t 4), none⟩,
    ⟨some 42, .bin .add false (.t 41) (.c (.v (.int .u64 1))), none⟩,
    ⟨some 43, .mov (.t 8), none⟩,
    ⟨some 44, .bin .sub false (.t 43) (.c (.v (.int .i64 1))), none⟩,
    ⟨some 45, .mov (.t 9), none⟩,
    ⟨some 46, .call 13 [(.t 40), (.t 42), (.t 44), (.t 45)], none⟩,
    ⟨some 11, .mov (.t 46), none⟩])
  (.seq (.ops [⟨some 47, .mov (.t 3), none⟩,
    ⟨some 48, .mov (.t 4), none⟩,
    ⟨some 49, .mov (.t 8), none⟩,
    ⟨some 50, .call 13 [(.t 47), (.t 48), (.t 49), (.c (.v (.int .i64 1)))], none⟩,
    ⟨some 12, .mov (.t 50), none⟩])
  (.seq (.ops [⟨some 51, .mov (.t 3), none⟩,
    ⟨some 52, .mov (.t 4), none⟩,
    ⟨some 53, .mov (.t 8), none⟩,
    ⟨some 54, .mov (.t 9), none⟩,
    ⟨some 55, .bin .mul false (.c (.v (.int .i64 2))) (.t 54), none⟩,
    ⟨some 56, .call 13 [(.t 51), (.t 52), (.t 53), (.t 55)], none⟩,
    ⟨some 13, .mov (.t 56), none⟩])
  (.seq (.seq (.ops [⟨some 57, .mov (.t 10), none⟩,
    ⟨some 58, .len false (.t 57), none⟩,
    ⟨some 59, .mov (.t 8), none⟩,
    ⟨some 60, .bin .neq false (.t 58) (.t 59), none⟩,
    ⟨some 61, .mov (.t 60), none⟩,
    ⟨some 62, .mov (.t 12), some (61, false)⟩,
    ⟨some 63, .len false (.t 62), some (61, false)⟩,
    ⟨some 64, .mov (.t 8), some (61, false)⟩,
    ⟨some 65, .bin .neq false (.t 63) (.t 64), some (61, false)⟩,
    ⟨some 66, .pick (.t 61) (.c (.v (.bool true))) (.t 65), none⟩,
    ⟨some 67, .mov (.t 66), none⟩,
    ⟨some 68, .mov (.t 13), some (67, false)⟩,
    ⟨some 69, .len false (.t 68), some (67, false)⟩,
    ⟨some 70, .mov (.t 8), some (67, false)⟩,
    ⟨some 71, .bin .neq false (.t 69) (.t 70), some (67, false)⟩,
    ⟨some 72, .pick (.t 67) (.c (.v (.bool true))) (.t 71), none⟩,
    ⟨some 73, .mov (.t 72), none⟩,
    ⟨some 74, .mov (.t 10), some (73, false)⟩,
    ⟨some 75, .slice 1 (.t 74) (some (.c (.v (.int .i64 1)))) none none, some (73, false)⟩,
    ⟨some 76, .mov (.t 11), some (73, false)⟩,
    ⟨some 77, .call 12 [(.t 75), (.t 76)], some (73, false)⟩,
    ⟨some 78, .un .not (.t 77), some (73, false)⟩,
    ⟨some 79, .pick (.t 73) (.c (.v (.bool true))) (.t 78), none⟩])
  (.cond (.t 79)
    (.seq (.ops [⟨some 2, .mov (.c (.v (.bool false))), none⟩])
    .ret)
    .skip))
  (.seq (.seq (.ops [⟨some 14, .mov (.c (.v (.int .i64 0))), none⟩])
  (.block 0 (.loop
    (.seq (.seq (.ops [⟨some 80, .mov (.t 14), none⟩,
      ⟨some 81, .mov (.t 8), none⟩,
      ⟨some 82, .bin .lss false (.t 80) (.t 81), none⟩])
    (.cond (.t 82)
      .skip
      (.exit 0)))
    (.seq (.block 1 (.seq (.draw [[⟨some 85, .mov (.t 12), none⟩,
        ⟨some 86, .mov (.t 14), none⟩],
      [⟨some 87, .iaddr 1 (.t 85) (.t 86), none⟩],
      [⟨some 88, .load 1 false (.t 87), none⟩],
      [⟨some 89, .bin .neq false (.t 88) (.c (.v (.int .i64 0))), none⟩],
      [⟨some 90, .mov (.t 89), none⟩],
      [⟨some 91, .mov (.t 13), some (90, false)⟩,
        ⟨some 92, .mov (.t 14), some (90, false)⟩,
        ⟨some 93, .iaddr 1 (.t 91) (.t 92), some (90, false)⟩,
        ⟨some 94, .load 1 false (.t 93), some (90, false)⟩,
        ⟨some 95, .mov (.t 10), some (90, false)⟩,
        ⟨some 96, .mov (.t 14), some (90, false)⟩,
        ⟨some 97, .iaddr 1 (.t 95) (.t 96), some (90, false)⟩,
        ⟨some 98, .load 1 false (.t 97), some (90, false)⟩],
      [⟨some 99, .bin .neq false (.t 94) (.t 98), some (90, false)⟩],
      [⟨some 100, .mov (.t 99), some (90, false)⟩],
      [⟨some 101, .mov (.t 13), some (100, true)⟩,
        ⟨some 102, .mov (.t 14), some (100, true)⟩,
        ⟨some 103, .iaddr 1 (.t 101) (.t 102), some (100, true)⟩,
        ⟨some 104, .load 1 false (.t 103), some (100, true)⟩,
        ⟨some 105, .mov (.t 10), some (100, true)⟩,
        ⟨some 106, .mov (.t 14), some (100, true)⟩,
        ⟨some 107, .iaddr 1 (.t 105) (.t 106), some (100, true)⟩,
        ⟨some 108, .load 1 false (.t 107), some (100, true)⟩,
        ⟨some 109, .mov (.t 9), some (100, true)⟩,
        ⟨some 110, .bin .add false (.t 108) (.t 109), some (100, true)⟩],
      [⟨some 111, .bin .neq false (.t 104) (.t 110), some (100, true)⟩],
      [⟨some 112, .pick (.t 100) (.t 111) (.c (.v (.bool false))), some (90, false)⟩],
      [⟨some 113, .pick (.t 90) (.c (.v (.bool true))) (.t 112), none⟩]])
    (.cond (.t 113)
      (.seq (.ops [⟨some 2, .mov (.c (.v (.bool false))), none⟩])
      .ret)
      .skip)))
    (.ops [⟨some 83, .mov (.t 14), none⟩,
      ⟨some 84, .bin .add false (.t 83) (.c (.v (.int .i64 1))), none⟩,
      ⟨some 14, .mov (.t 84), none⟩]))))))
  (.seq (.ops [⟨some 114, .mov (.t 7), none⟩,
    ⟨some 2, .mov (.t 114), none⟩])
  .ret))))))))))))))))⟩ := by kernel_rfl

theorem ir7 : compF Try.prog 7 = some ⟨28, [.t 0],
  (.seq (.ops [⟨some 0, .mov (.c (.v (.bool false))), none⟩])
  (.seq (.ops [⟨some 1, .call 10 [(.c (.v (.int .u64 17))), (.c (.v (.int .i64 5)))], none⟩,
    ⟨some 2, .bin .eql false (.t 1) (.c (.v (.int .i64 2))), none⟩,
    ⟨some 3, .mov (.t 2), none⟩,
    ⟨some 4, .call 10 [(.c (.v (.int .u64 17))), (.c (.v (.int .i64 0)))], some (3, true)⟩,
    ⟨some 5, .bin .eql false (.t 4) (.c (.v (.int .i64 0))), some (3, true)⟩,
    ⟨some 6, .pick (.t 3) (.t 5) (.c (.v (.bool false))), none⟩,
    ⟨some 7, .mov (.t 6), none⟩,
    ⟨some 8, .call 8 [(.c (.v (.slice none 0 0))), (.c (.v (.int .u64 0)))], some (7, true)⟩,
    ⟨some 9, .call 9 [(.c (.v (.slice none 0 0))), (.c (.v (.int .u64 0)))], some (7, true)⟩,
    ⟨some 10, .bin .eql false (.t 8) (.t 9), some (7, true)⟩,
    ⟨some 11, .pick (.t 7) (.t 10) (.c (.v (.bool false))), none⟩,
    ⟨some 12, .mov (.t 11), none⟩,
    ⟨some 13, .bslice 1 [(.v (.int .u8 0))] 1 [(0, 1, (.c (.v (.int .u8 97))))], some (12, true)⟩,
    ⟨some 14, .sames (.t 13), some (12, true)⟩,
    ⟨some 15, .call 8 [(.t 14), (.c (.v (.int .u64 1)))], some (12, true)⟩,
    ⟨some 16, .bslice 1 [(.v (.int .u8 0))] 1 [(0, 1, (.c (.v (.int .u8 98))))], some (12, true)⟩,
    ⟨some 17, .sames (.t 16), some (12, true)⟩,
    ⟨some 18, .call 8 [(.t 17), (.c (.v (.int .u64 1)))], some (12, true)⟩,
    ⟨some 19, .bin .neq false (.t 15) (.t 18), some (12, true)⟩,
    ⟨some 20, .pick (.t 12) (.t 19) (.c (.v (.bool false))), none⟩,
    ⟨some 21, .mov (.t 20), none⟩,
    ⟨some 22, .bslice 1 [(.v (.int .u8 0))] 1 [(0, 1, (.c (.v (.int .u8 97))))], some (21, true)⟩,
    ⟨some 23, .sames (.t 22), some (21, true)⟩,
    ⟨some 24, .call 13 [(.t 23), (.c (.v (.int .u64 0))), (.c (.v (.int .i64 3))), (.c (.v (.int .i64 7)))], some (21, true)⟩,
    ⟨some 25, .len false (.t 24), some (21, true)⟩,
    ⟨some 26, .bin .eql false (.t 25) (.c (.v (.int .i64 3))), some (21, true)⟩,
    ⟨some 27, .pick (.t 21) (.t 26) (.c (.v (.bool false))), none⟩,
    ⟨some 0, .mov (.t 27), none⟩])
  .ret))⟩ := by kernel_rfl

theorem ir8 : compF Try.prog 8 = some ⟨37, [.t 4],
  (.seq (.ops [⟨some 4, .mov (.c (.v (.int .u64 0))), none⟩])
  (.seq (.ops [⟨some 11, .mov (.t 1), none⟩,
    ⟨some 12, .bin .xor false (.t 11) (.c (.v (.int .u64 11400714819323198485))), none⟩,
    ⟨some 5, .alloc (.v (.int .u64 0)), none⟩,
    ⟨none, .store 1 (.t 5) (.t 12), none⟩])
  (.seq (.seq (.ops [⟨some 13, .mov (.t 0), none⟩,
    ⟨some 14, .len false (.t 13), none⟩,
    ⟨some 15, .mov (.c (.v (.int .i64 0))), none⟩])
  (.block 0 (.loop
    (.seq (.ops [⟨some 16, .bin .lss false (.t 15) (.t 14), none⟩])
    (.seq (.cond (.t 16)
      .skip
      (.exit 0))
    (.seq (.block 1 (.seq (.ops [⟨some 17, .iaddr 1 (.t 13) (.t 15), none⟩,
      ⟨some 18, .load 1 false (.t 17), none⟩,
      ⟨some 7, .mov (.t 18), none⟩])
    (.ops [⟨some 19, .load 1 false (.t 5), none⟩,
      ⟨some 20, .mov (.t 7), none⟩,
      ⟨some 21, .conv .u64 (.t 20), none⟩,
      ⟨some 22, .bin .xor false (.t 19) (.t 21), none⟩,
      ⟨some 23, .bin .mul false (.t 22) (.c (.v (.int .u64 1099511628211))), none⟩,
      ⟨none, .store 1 (.t 5) (.t 23), none⟩])))
    (.ops [⟨some 24, .bin .add false (.t 15) (.c (.v (.int .i64 1))), none⟩,
      ⟨some 15, .mov (.t 24), none⟩])))))))
  (.seq (.ops [⟨some 25, .mkfn (.func 15) [] [(.t 5)], none⟩,
    ⟨some 26, .mkfn (.func 16) [] [(.t 5)], none⟩,
    ⟨some 27, .mkfn (.func 17) [] [(.t 5)], none⟩,
    ⟨some 28, .build [(.v .nilFunc), (.v .nilFunc), (.v .nilFunc)] [(0, 1, (.t 25)), (1, 1, (.t 26)), (2, 1, (.t 27))], none⟩,
    ⟨some 8, .alloc (.agg [(.v .nilFunc), (.v .nilFunc), (.v .nilFunc)]), none⟩,
    ⟨none, .store 3 (.t 8) (.t 28), none⟩])
  (.seq (.seq (.ops [⟨some 29, .load 3 true (.t 8), none⟩,
    ⟨some 30, .mov (.c (.v (.int .i64 0))), none⟩])
  (.block 2 (.loop
    (.seq (.ops [⟨some 31, .bin .lss false (.t 30) (.c (.v (.int .i64 3))), none⟩])
    (.seq (.cond (.t 31)
      .skip
      (.exit 2))
    (.seq (.block 3 (.seq (.ops [⟨some 32, .idx 3 1 false (.t 29) (.t 30), none⟩,
      ⟨some 10, .mov (.t 32), none⟩])
    (.ops [⟨some 33, .mov (.t 10), none⟩,
      ⟨some 34, .calld (.t 33) [], none⟩])))
    (.ops [⟨some 35, .bin .add false (.t 30) (.c (.v (.int .i64 1))), none⟩,
      ⟨some 30, .mov (.t 35), none⟩])))))))
  (.seq (.ops [⟨some 36, .load 1 false (.t 5), none⟩,
    ⟨some 4, .mov (.t 36), none⟩])
  .ret))))))⟩ := by kernel_rfl

theorem ir9 : compF Try.prog 9 = some ⟨34, [.t 4],
  (.seq (.ops [⟨some 4, .mov (.c (.v (.int .u64 0))), none⟩])
  (.seq (.ops [⟨some 7, .mov (.t 1), none⟩,
    ⟨some 8, .bin .xor false (.t 7) (.c (.v (.int .u64 11400714819323198485))), none⟩,
    ⟨some 5, .mov (.t 8), none⟩])
  (.seq (.seq (.ops [⟨some 6, .mov (.c (.v (.int .i64 0))), none⟩])
  (.block 0 (.loop
    (.seq (.seq (.ops [⟨some 9, .mov (.t 6), none⟩,
      ⟨some 10, .mov (.t 0), none⟩,
      ⟨some 11, .len false (.t 10), none⟩,
      ⟨some 12, .bin .lss false (.t 9) (.t 11), none⟩])
    (.cond (.t 12)
      .skip
      (.exit 0)))
    (.seq (.block 1 (.seq (.ops [⟨some 15, .mov (.t 5), none⟩,
      ⟨some 16, .mov (.t 0), none⟩,
      ⟨some 17, .mov (.t 6), none⟩,
      ⟨some 18, .iaddr 1 (.t 16) (.t 17), none⟩,
      ⟨some 19, .load 1 false (.t 18), none⟩,
      ⟨some 20, .conv .u64 (.t 19), none⟩,
      ⟨some 21, .bin .xor false (.t 15) (.t 20), none⟩,
      ⟨some 5, .mov (.t 21), none⟩])
    (.ops [⟨some 22, .mov (.t 5), none⟩,
      ⟨some 23, .bin .mul false (.t 22) (.c (.v (.int .u64 1099511628211))), none⟩,
      ⟨some 5, .mov (.t 23), none⟩])))
    (.ops [⟨some 13, .mov (.t 6), none⟩,
      ⟨some 14, .bin .add false (.t 13) (.c (.v (.int .i64 1))), none⟩,
      ⟨some 6, .mov (.t 14), none⟩]))))))
  (.seq (.ops [⟨some 24, .mov (.t 5), none⟩,
    ⟨some 25, .mov (.t 5), none⟩,
    ⟨some 26, .bin .quo false (.t 25) (.c (.v (.int .u64 536870912))), none⟩,
    ⟨some 27, .bin .xor false (.t 24) (.t 26), none⟩,
    ⟨some 5, .mov (.t 27), none⟩])
  (.seq (.ops [⟨some 28, .mov (.t 5), none⟩,
    ⟨some 29, .bin .mul false (.t 28) (.c (.v (.int .u64 13787848793156543929))), none⟩,
    ⟨some 5, .mov (.t 29), none⟩])
  (.seq (.ops [⟨some 30, .mov (.t 5), none⟩,
    ⟨some 31, .mov (.t 5), none⟩,
    ⟨some 32, .bin .quo false (.t 31) (.c (.v (.int .u64 4294967296))), none⟩,
    ⟨some 33, .bin .xor false (.t 30) (.t 32), none⟩,
    ⟨some 4, .mov (.t 33), none⟩])
  .ret))))))⟩ := by kernel_rfl

theorem ir10 : compF Try.prog 10 = some ⟨12, [.t 4],
  (.seq (.ops [⟨some 4, .mov (.c (.v (.int .i64 0))), none⟩])
  (.seq (.seq (.ops [⟨some 5, .mov (.t 1), none⟩,
    ⟨some 6, .bin .lss false (.t 5) (.c (.v (.int .i64 1))), none⟩])
  (.cond (.t 6)
    (.seq (.ops [⟨some 4, .mov (.c (.v (.int .i64 0))), none⟩])
    .ret)
    .skip))
  (.seq (.ops [⟨some 7, .mov (.t 0), none⟩,
    ⟨some 8, .mov (.t 1), none⟩,
    ⟨some 9, .conv .u64 (.t 8), none⟩,
    ⟨some 10, .bin .rem false (.t 7) (.t 9), none⟩,
    ⟨some 11, .conv .i64 (.t 10), none⟩,
    ⟨some 4, .mov (.t 11), none⟩])
  .ret)))⟩ := by kernel_rfl

theorem ir11 : compF Try.prog 11 = some ⟨12, [.t 4],
  (.seq (.ops [⟨some 4, .mov (.c (.v (.int .i64 0))), none⟩])
  (.seq (.seq (.ops [⟨some 5, .mov (.t 1), none⟩,
    ⟨some 6, .bin .lss false (.t 5) (.c (.v (.int .i64 1))), none⟩])
  (.cond (.t 6)
    (.seq (.ops [⟨some 4, .mov (.c (.v (.int .i64 0))), none⟩])
    .ret)
    .skip))
  (.seq (.ops [⟨some 7, .mov (.t 0), none⟩,
    ⟨some 8, .mov (.t 1), none⟩,
    ⟨some 9, .conv .u64 (.t 8), none⟩,
    ⟨some 10, .bin .rem false (.t 7) (.t 9), none⟩,
    ⟨some 11, .conv .i64 (.t 10), none⟩,
    ⟨some 4, .mov (.t 11), none⟩])
  .ret)))⟩ := by kernel_rfl

theorem ir12 : compF Try.prog 12 = some ⟨26, [.t 4],
  (.seq (.ops [⟨some 4, .mov (.c (.v (.bool false))), none⟩])
  (.seq (.seq (.ops [⟨some 6, .mov (.t 0), none⟩,
    ⟨some 7, .len false (.t 6), none⟩,
    ⟨some 8, .mov (.t 1), none⟩,
    ⟨some 9, .len false (.t 8), none⟩,
    ⟨some 10, .bin .neq false (.t 7) (.t 9), none⟩])
  (.cond (.t 10)
    (.seq (.ops [⟨some 4, .mov (.c (.v (.bool false))), none⟩])
    .ret)
    .skip))
  (.seq (.seq (.ops [⟨some 5, .mov (.c (.v (.int .i64 0))), none⟩])
  (.block 0 (.loop
    (.seq (.seq (.ops [⟨some 11, .mov (.t 5), none⟩,
      ⟨some 12, .mov (.t 0), none⟩,
      ⟨some 13, .len false (.t 12), none⟩,
      ⟨some 14, .bin .lss false (.t 11) (.t 13), none⟩])
    (.cond (.t 14)
      .skip
      (.exit 0)))
    (.seq (.block 1 (.seq (.draw [[⟨some 17, .mov (.t 0), none⟩,
        ⟨some 18, .mov (.t 5), none⟩,
        ⟨some 19, .iaddr 1 (.t 17) (.t 18), none⟩,
        ⟨some 20, .load 1 false (.t 19), none⟩,
        ⟨some 21, .mov (.t 1), none⟩,
        ⟨some 22, .mov (.t 5), none⟩,
        ⟨some 23, .iaddr 1 (.t 21) (.t 22), none⟩,
        ⟨some 24, .load 1 false (.t 23), none⟩],
      [⟨some 25, .bin .neq false (.t 20) (.t 24), none⟩]])
    (.cond (.t 25)
      (.seq (.ops [⟨some 4, .mov (.c (.v (.bool false))), none⟩])
      .ret)
      .skip)))
    (.ops [⟨some 15, .mov (.t 5), none⟩,
      ⟨some 16, .bin .add false (.t 15) (.c (.v (.int .i64 1))), none⟩,
      ⟨some 5, .mov (.t 16), none⟩]))))))
  (.seq (.ops [⟨some 4, .mov (.c (.v (.bool true))), none⟩])
  .ret))))⟩ := by kernel_rfl

theorem ir13 : compF Try.prog 13 = some ⟨29, [.t 8],
  (.seq (.ops [⟨some 8, .mov (.c (.v (.slice none 0 0))), none⟩])
  (.seq (.ops [⟨some 9, .mov (.c (.v (.slice none 0 0))), none⟩])
  (.seq (.seq (.ops [⟨some 11, .mov (.t 2), none⟩,
    ⟨some 12, .mm true (.t 11) [(.c (.v (.int .i64 0)))], none⟩,
    ⟨some 13, .mov (.c (.v (.int .i64 0))), none⟩])
  (.block 0 (.loop
    (.seq (.ops [⟨some 14, .bin .lss false (.t 13) (.t 12), none⟩])
    (.seq (.cond (.t 14)
      .skip
      (.exit 0))
    (.seq (.block 1 (.seq (.ops [⟨some 15, .mov (.t 13), none⟩,
      ⟨some 10, .mov (.t 15), none⟩])
    (.ops [⟨some 16, .mov (.t 9), none⟩,
      ⟨some 17, .mov (.t 0), none⟩,
      ⟨some 18, .mov (.t 1), none⟩,
      ⟨some 19, .mov (.t 10), none⟩,
      ⟨some 20, .conv .u64 (.t 19), none⟩,
      ⟨some 21, .bin .add false (.t 18) (.t 20), none⟩,
      ⟨some 22, .call 8 [(.t 17), (.t 21)], none⟩,
      ⟨some 23, .mov (.t 3), none⟩,
      ⟨some 24, .call 10 [(.t 22), (.t 23)], none⟩,
      ⟨some 25, .bslice 1 [(.v (.int .i64 0))] 1 [(0, 1, (.t 24))], none⟩,
      ⟨some 26, .append 1 8 [(.v (.int .i64 0))] (.t 16) (.t 25), none⟩,
      ⟨some 9, .mov (.t 26), none⟩])))
    (.ops [⟨some 27, .bin .add false (.t 13) (.c (.v (.int .i64 1))), none⟩,
      ⟨some 13, .mov (.t 27), none⟩])))))))
  (.seq (.ops [⟨some 28, .mov (.t 9), none⟩,
    ⟨some 8, .mov (.t 28), none⟩])
  .ret))))⟩ := by kernel_rfl

theorem ir14 : compF Try.prog 14 = some ⟨28, [.t 8],
  (.seq (.ops [⟨some 8, .mov (.c (.v (.slice none 0 0))), none⟩])
  (.seq (.ops [⟨some 9, .mov (.c (.v (.slice none 0 0))), none⟩])
  (.seq (.seq (.ops [⟨some 10, .mov (.c (.v (.int .i64 0))), none⟩])
  (.block 0 (.loop
    (.seq (.seq (.ops [⟨some 11, .mov (.t 10), none⟩,
      ⟨some 12, .mov (.t 2), none⟩,
      ⟨some 13, .bin .lss false (.t 11) (.t 12), none⟩])
    (.cond (.t 13)
      .skip
      (.exit 0)))
    (.seq (.block 1 (.ops [⟨some 16, .mov (.t 9), none⟩,
      ⟨some 17, .mov (.t 0), none⟩,
      ⟨some 18, .mov (.t 1), none⟩,
      ⟨some 19, .mov (.t 10), none⟩,
      ⟨some 20, .conv .u64 (.t 19), none⟩,
      ⟨some 21, .bin .add false (.t 18) (.t 20), none⟩,
      ⟨some 22, .call 9 [(.t 17), (.t 21)], none⟩,
      ⟨some 23, .mov (.t 3), none⟩,
      ⟨some 24, .call 11 [(.t 22), (.t 23)], none⟩,
      ⟨some 25, .bslice 1 [(.v (.int .i64 0))] 1 [(0, 1, (.t 24))], none⟩,
      ⟨some 26, .append 1 8 [(.v (.int .i64 0))] (.t 16) (.t 25), none⟩,
      ⟨some 9, .mov (.t 26), none⟩]))
    (.ops [⟨some 14, .mov (.t 10), none⟩,
      ⟨some 15, .bin .add false (.t 14) (.c (.v (.int .i64 1))), none⟩,
      ⟨some 10, .mov (.t 15), none⟩]))))))
  (.seq (.ops [⟨some 27, .mov (.t 9), none⟩,
    ⟨some 8, .mov (.t 27), none⟩])
  .ret))))⟩ := by kernel_rfl

theorem ir15 : compF Try.prog 15 = some ⟨5, [],
  (.ops [⟨some 1, .load 1 false (.t 0), none⟩,
    ⟨some 2, .load 1 false (.t 0), none⟩,
    ⟨some 3, .bin .shr false (.t 2) (.c (.v (.int .u64 29))), none⟩,
    ⟨some 4, .bin .xor false (.t 1) (.t 3), none⟩,
    ⟨none, .store 1 (.t 0) (.t 4), none⟩])⟩ := by kernel_rfl

theorem ir16 : compF Try.prog 16 = some ⟨3, [],
  (.ops [⟨some 1, .load 1 false (.t 0), none⟩,
    ⟨some 2, .bin .mul false (.t 1) (.c (.v (.int .u64 13787848793156543929))), none⟩,
    ⟨none, .store 1 (.t 0) (.t 2), none⟩])⟩ := by kernel_rfl

theorem ir17 : compF Try.prog 17 = some ⟨5, [],
  (.ops [⟨some 1, .load 1 false (.t 0), none⟩,
    ⟨some 2, .load 1 false (.t 0), none⟩,
    ⟨some 3, .bin .shr false (.t 2) (.c (.v (.int .u64 32))), none⟩,
    ⟨some 4, .bin .xor false (.t 1) (.t 3), none⟩,
    ⟨none, .store 1 (.t 0) (.t 4), none⟩])⟩ := by kernel_rfl

end Go.Proofs.Ythmiijlgbpkcjaa
