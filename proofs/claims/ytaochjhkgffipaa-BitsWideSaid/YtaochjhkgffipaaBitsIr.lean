/- The functions of the program in the small language. -/
import Derived.Test.YtaochjhkgffipaaLgNX
import Derived.Test.YtaochjhkgffipaaChecked
namespace Go.Proofs.Ytaochjhkgffipaa
open Go Lg

set_option maxRecDepth 100000 in
theorem ir3 : compF Try.prog 3 = some ⟨126, [.t 2],
  (.seq (.ops [⟨some 1, .box (.t 0), none⟩,
    ⟨some 2, .mov (.c (.v (.bool false))), none⟩])
  (.seq (.ops [⟨some 18, .faddr 0 (.t 1), none⟩,
    ⟨some 19, .load 2 true (.t 18), none⟩,
    ⟨some 3, .alloc (.agg [(.v (.slice none 0 0)), (.v (.int .i64 0))]), none⟩,
    ⟨none, .store 2 (.t 3) (.t 19), none⟩])
  (.seq (.ops [⟨some 20, .faddr 2 (.t 1), none⟩,
    ⟨some 21, .load 2 true (.t 20), none⟩,
    ⟨some 4, .alloc (.agg [(.v (.slice none 0 0)), (.v (.int .i64 0))]), none⟩,
    ⟨none, .store 2 (.t 4) (.t 21), none⟩])
  (.seq (.ops [⟨some 22, .faddr 4 (.t 1), none⟩,
    ⟨some 23, .load 1 false (.t 22), none⟩,
    ⟨some 5, .mov (.t 23), none⟩])
  (.seq (.ops [⟨some 24, .faddr 5 (.t 1), none⟩,
    ⟨some 25, .load 1 false (.t 24), none⟩,
    ⟨some 6, .mov (.t 25), none⟩])
  (.seq (.ops [⟨some 26, .faddr 6 (.t 1), none⟩,
    ⟨some 27, .load 1 false (.t 26), none⟩,
    ⟨some 7, .mov (.t 27), none⟩])
  (.seq (.ops [⟨some 28, .call 10 [], none⟩,
    ⟨some 8, .mov (.t 28), none⟩])
  (.seq (.seq (.ops [⟨some 29, .load 2 true (.t 3), none⟩,
    ⟨some 30, .call 11 [(.t 29)], none⟩,
    ⟨some 31, .un .not (.t 30), none⟩,
    ⟨some 32, .mov (.t 31), none⟩,
    ⟨some 33, .load 2 true (.t 4), some (32, false)⟩,
    ⟨some 34, .call 11 [(.t 33)], some (32, false)⟩,
    ⟨some 35, .un .not (.t 34), some (32, false)⟩,
    ⟨some 36, .pick (.t 32) (.c (.v (.bool true))) (.t 35), none⟩])
  (.cond (.t 36)
    (.seq (.ops [⟨some 37, .mov (.t 8), none⟩,
      ⟨some 2, .mov (.t 37), none⟩])
    .ret)
    .skip))
  (.seq (.ops [⟨some 38, .load 2 true (.t 3), none⟩,
    ⟨some 39, .call 12 [(.t 38)], none⟩,
    ⟨some 9, .mov (.t 39), none⟩])
  (.seq (.seq (.draw [[⟨some 40, .load 2 true (.t 3), none⟩,
      ⟨some 41, .call 13 [(.t 40)], none⟩,
      ⟨some 42, .mov (.t 9), none⟩],
    [⟨some 43, .bin .neq true (.t 41) (.t 42), none⟩],
    [⟨some 44, .mov (.t 43), none⟩],
    [⟨some 45, .load 2 true (.t 3), some (44, false)⟩,
      ⟨some 46, .load 2 true (.t 4), some (44, false)⟩,
      ⟨some 47, .call 14 [(.t 45), (.t 46)], some (44, false)⟩,
      ⟨some 48, .load 2 true (.t 3), some (44, false)⟩,
      ⟨some 49, .load 2 true (.t 4), some (44, false)⟩],
    [⟨some 50, .call 15 [(.t 48), (.t 49)], some (44, false)⟩],
    [⟨some 51, .bin .neq true (.t 47) (.t 50), some (44, false)⟩],
    [⟨some 52, .pick (.t 44) (.c (.v (.bool true))) (.t 51), none⟩],
    [⟨some 53, .mov (.t 52), none⟩],
    [⟨some 54, .mov (.t 5), some (53, false)⟩,
      ⟨some 55, .call 16 [(.t 54)], some (53, false)⟩,
      ⟨some 56, .mov (.t 5), some (53, false)⟩],
    [⟨some 57, .call 17 [(.t 56)], some (53, false)⟩],
    [⟨some 58, .bin .neq false (.t 55) (.t 57), some (53, false)⟩],
    [⟨some 59, .pick (.t 53) (.c (.v (.bool true))) (.t 58), none⟩]])
  (.cond (.t 59)
    (.seq (.ops [⟨some 2, .mov (.c (.v (.bool false))), none⟩])
    .ret)
    .skip))
  (.seq (.seq (.ops [⟨some 60, .mov (.t 9), none⟩,
    ⟨some 61, .un .not (.t 60), none⟩])
  (.cond (.t 61)
    (.seq (.ops [⟨some 62, .mov (.t 8), none⟩,
      ⟨some 2, .mov (.t 62), none⟩])
    .ret)
    .skip))
  (.seq (.ops [⟨some 64, .load 2 true (.t 3), none⟩,
    ⟨some 65, .mov (.t 5), none⟩,
    ⟨some 66, .mov (.t 7), none⟩,
    ⟨some 67, .call 18 [(.t 64), (.t 65), (.t 66)], none⟩,
    ⟨some 63, .mov (.t 67), none⟩,
    ⟨some 68, .extract (.t 63) 0, none⟩,
    ⟨some 69, .extract (.t 63) 1, none⟩,
    ⟨some 10, .alloc (.agg [(.v (.slice none 0 0)), (.v (.int .i64 0))]), none⟩,
    ⟨none, .store 2 (.t 10) (.t 68), none⟩,
    ⟨some 11, .mov (.t 69), none⟩])
  (.seq (.ops [⟨some 71, .load 2 true (.t 3), none⟩,
    ⟨some 72, .mov (.t 5), none⟩,
    ⟨some 73, .mov (.t 7), none⟩,
    ⟨some 74, .call 19 [(.t 71), (.t 72), (.t 73)], none⟩,
    ⟨some 70, .mov (.t 74), none⟩,
    ⟨some 75, .extract (.t 70) 0, none⟩,
    ⟨some 76, .extract (.t 70) 1, none⟩,
    ⟨some 12, .alloc (.agg [(.v (.slice none 0 0)), (.v (.int .i64 0))]), none⟩,
    ⟨none, .store 2 (.t 12) (.t 75), none⟩,
    ⟨some 13, .mov (.t 76), none⟩])
  (.seq (.ops [⟨some 78, .load 2 true (.t 3), none⟩,
    ⟨some 79, .mov (.t 6), none⟩,
    ⟨some 80, .mov (.t 7), none⟩,
    ⟨some 81, .call 20 [(.t 78), (.t 79), (.t 80)], none⟩,
    ⟨some 77, .mov (.t 81), none⟩,
    ⟨some 82, .extract (.t 77) 0, none⟩,
    ⟨some 83, .extract (.t 77) 1, none⟩,
    ⟨some 14, .mov (.t 82), none⟩,
    ⟨some 15, .mov (.t 83), none⟩])
  (.seq (.ops [⟨some 85, .load 2 true (.t 3), none⟩,
    ⟨some 86, .mov (.t 6), none⟩,
    ⟨some 87, .mov (.t 7), none⟩,
    ⟨some 88, .call 21 [(.t 85), (.t 86), (.t 87)], none⟩,
    ⟨some 84, .mov (.t 88), none⟩,
    ⟨some 89, .extract (.t 84) 0, none⟩,
    ⟨some 90, .extract (.t 84) 1, none⟩,
    ⟨some 16, .mov (.t 89), none⟩,
    ⟨some 17, .mov (.t 90), none⟩])
  (.seq (.draw [[⟨some 91, .mov (.t 8), none⟩],
    [⟨some 92, .mov (.t 91), none⟩],
    [⟨some 93, .load 2 true (.t 10), some (92, true)⟩,
      ⟨some 94, .load 2 true (.t 12), some (92, true)⟩],
    [⟨some 95, .call 15 [(.t 93), (.t 94)], some (92, true)⟩],
    [⟨some 96, .pick (.t 92) (.t 95) (.c (.v (.bool false))), none⟩],
    [⟨some 97, .mov (.t 96), none⟩],
    [⟨some 98, .mov (.t 11), some (97, true)⟩,
      ⟨some 99, .mov (.t 13), some (97, true)⟩],
    [⟨some 100, .bin .eql false (.t 98) (.t 99), some (97, true)⟩],
    [⟨some 101, .pick (.t 97) (.t 100) (.c (.v (.bool false))), none⟩],
    [⟨some 102, .mov (.t 101), none⟩],
    [⟨some 103, .mov (.t 14), some (102, true)⟩,
      ⟨some 104, .mov (.t 16), some (102, true)⟩],
    [⟨some 105, .bin .eql false (.t 103) (.t 104), some (102, true)⟩],
    [⟨some 106, .pick (.t 102) (.t 105) (.c (.v (.bool false))), none⟩],
    [⟨some 107, .mov (.t 106), none⟩],
    [⟨some 108, .mov (.t 15), some (107, true)⟩,
      ⟨some 109, .mov (.t 17), some (107, true)⟩],
    [⟨some 110, .bin .eql false (.t 108) (.t 109), some (107, true)⟩],
    [⟨some 111, .pick (.t 107) (.t 110) (.c (.v (.bool false))), none⟩],
    [⟨some 112, .mov (.t 111), none⟩],
    [⟨some 113, .load 2 true (.t 4), some (112, true)⟩],
    [⟨some 114, .call 12 [(.t 113)], some (112, true)⟩],
    [⟨some 115, .un .not (.t 114), some (112, true)⟩],
    [⟨some 116, .mov (.t 115), some (112, true)⟩],
    [⟨some 117, .load 2 true (.t 3), some (116, false)⟩,
      ⟨some 118, .load 2 true (.t 4), some (116, false)⟩,
      ⟨some 119, .call 22 [(.t 117), (.t 118)], some (116, false)⟩,
      ⟨some 120, .load 2 true (.t 3), some (116, false)⟩,
      ⟨some 121, .load 2 true (.t 4), some (116, false)⟩],
    [⟨some 122, .call 23 [(.t 120), (.t 121)], some (116, false)⟩],
    [⟨some 123, .call 15 [(.t 119), (.t 122)], some (116, false)⟩],
    [⟨some 124, .pick (.t 116) (.c (.v (.bool true))) (.t 123), some (112, true)⟩],
    [⟨some 125, .pick (.t 112) (.t 124) (.c (.v (.bool false))), none⟩],
    [⟨some 2, .mov (.t 125), none⟩]])
  .ret))))))))))))))))⟩ := by kernel_rfl

set_option maxRecDepth 100000 in
theorem ir4 : compF Try.prog 4 = some ⟨126, [.t 2],
  (.seq (.ops [⟨some 1, .box (.t 0), none⟩,
    ⟨some 2, .mov (.c (.v (.bool false))), none⟩])
  (.seq (.ops [⟨some 18, .faddr 0 (.t 1), none⟩,
    ⟨some 19, .load 2 true (.t 18), none⟩,
    ⟨some 3, .alloc (.agg [(.v (.slice none 0 0)), (.v (.int .i64 0))]), none⟩,
    ⟨none, .store 2 (.t 3) (.t 19), none⟩])
  (.seq (.ops [⟨some 20, .faddr 2 (.t 1), none⟩,
    ⟨some 21, .load 1 false (.t 20), none⟩,
    ⟨some 4, .mov (.t 21), none⟩])
  (.seq (.ops [⟨some 22, .faddr 3 (.t 1), none⟩,
    ⟨some 23, .load 1 false (.t 22), none⟩,
    ⟨some 5, .mov (.t 23), none⟩])
  (.seq (.ops [⟨some 24, .faddr 4 (.t 1), none⟩,
    ⟨some 25, .load 1 false (.t 24), none⟩,
    ⟨some 6, .mov (.t 25), none⟩])
  (.seq (.ops [⟨some 26, .faddr 5 (.t 1), none⟩,
    ⟨some 27, .load 1 false (.t 26), none⟩,
    ⟨some 7, .mov (.t 27), none⟩])
  (.seq (.ops [⟨some 28, .call 10 [], none⟩,
    ⟨some 8, .mov (.t 28), none⟩])
  (.seq (.seq (.ops [⟨some 29, .load 2 true (.t 3), none⟩,
    ⟨some 30, .call 11 [(.t 29)], none⟩,
    ⟨some 31, .un .not (.t 30), none⟩,
    ⟨some 32, .mov (.t 31), none⟩,
    ⟨some 33, .load 2 true (.t 3), some (32, false)⟩,
    ⟨some 34, .call 12 [(.t 33)], some (32, false)⟩,
    ⟨some 35, .un .not (.t 34), some (32, false)⟩,
    ⟨some 36, .pick (.t 32) (.c (.v (.bool true))) (.t 35), none⟩])
  (.cond (.t 36)
    (.seq (.ops [⟨some 37, .mov (.t 8), none⟩,
      ⟨some 2, .mov (.t 37), none⟩])
    .ret)
    .skip))
  (.seq (.ops [⟨some 39, .load 2 true (.t 3), none⟩,
    ⟨some 40, .mov (.t 4), none⟩,
    ⟨some 41, .mov (.t 5), none⟩,
    ⟨some 42, .call 18 [(.t 39), (.t 40), (.t 41)], none⟩,
    ⟨some 38, .mov (.t 42), none⟩,
    ⟨some 43, .extract (.t 38) 0, none⟩,
    ⟨some 44, .extract (.t 38) 1, none⟩,
    ⟨some 9, .alloc (.agg [(.v (.slice none 0 0)), (.v (.int .i64 0))]), none⟩,
    ⟨none, .store 2 (.t 9) (.t 43), none⟩,
    ⟨some 10, .mov (.t 44), none⟩])
  (.seq (.seq (.ops [⟨some 45, .load 2 true (.t 9), none⟩,
    ⟨some 46, .call 12 [(.t 45)], none⟩,
    ⟨some 47, .un .not (.t 46), none⟩,
    ⟨some 48, .mov (.t 47), none⟩,
    ⟨some 49, .mov (.t 10), some (48, false)⟩,
    ⟨some 50, .bin .neq false (.t 49) (.c (.v (.int .i64 0))), some (48, false)⟩,
    ⟨some 51, .mov (.t 50), some (48, false)⟩,
    ⟨some 52, .load 2 true (.t 9), some (51, true)⟩,
    ⟨some 53, .load 2 true (.t 3), some (51, true)⟩,
    ⟨some 54, .call 15 [(.t 52), (.t 53)], some (51, true)⟩,
    ⟨some 55, .un .not (.t 54), some (51, true)⟩,
    ⟨some 56, .pick (.t 51) (.t 55) (.c (.v (.bool false))), some (48, false)⟩,
    ⟨some 57, .pick (.t 48) (.c (.v (.bool true))) (.t 56), none⟩])
  (.cond (.t 57)
    (.seq (.ops [⟨some 2, .mov (.c (.v (.bool false))), none⟩])
    .ret)
    .skip))
  (.seq (.seq (.ops [⟨some 58, .mov (.t 10), none⟩,
    ⟨some 59, .bin .neq false (.t 58) (.c (.v (.int .i64 0))), none⟩])
  (.cond (.t 59)
    (.seq (.ops [⟨some 60, .mov (.t 8), none⟩,
      ⟨some 2, .mov (.t 60), none⟩])
    .ret)
    .skip))
  (.seq (.ops [⟨some 61, .mov (.t 7), none⟩,
    ⟨some 62, .conv .i64 (.t 61), none⟩,
    ⟨some 63, .bin .rem false (.t 62) (.c (.v (.int .i64 65))), none⟩,
    ⟨some 11, .mov (.t 63), none⟩])
  (.seq (.ops [⟨some 65, .load 2 true (.t 9), none⟩,
    ⟨some 66, .mov (.t 6), none⟩,
    ⟨some 67, .mov (.t 11), none⟩,
    ⟨some 68, .call 18 [(.t 65), (.t 66), (.t 67)], none⟩,
    ⟨some 64, .mov (.t 68), none⟩,
    ⟨some 69, .extract (.t 64) 0, none⟩,
    ⟨some 70, .extract (.t 64) 1, none⟩,
    ⟨some 12, .alloc (.agg [(.v (.slice none 0 0)), (.v (.int .i64 0))]), none⟩,
    ⟨none, .store 2 (.t 12) (.t 69), none⟩,
    ⟨some 13, .mov (.t 70), none⟩])
  (.seq (.ops [⟨some 72, .load 2 true (.t 12), none⟩,
    ⟨some 73, .faddr 1 (.t 3), none⟩,
    ⟨some 74, .load 1 false (.t 73), none⟩,
    ⟨some 75, .mov (.t 5), none⟩,
    ⟨some 76, .call 20 [(.t 72), (.t 74), (.t 75)], none⟩,
    ⟨some 71, .mov (.t 76), none⟩,
    ⟨some 77, .extract (.t 71) 0, none⟩,
    ⟨some 78, .extract (.t 71) 1, none⟩,
    ⟨some 14, .mov (.t 77), none⟩,
    ⟨some 15, .mov (.t 78), none⟩])
  (.seq (.seq (.ops [⟨some 79, .faddr 1 (.t 9), none⟩,
    ⟨some 80, .load 1 false (.t 79), none⟩,
    ⟨some 81, .faddr 1 (.t 3), none⟩,
    ⟨some 82, .load 1 false (.t 81), none⟩,
    ⟨some 83, .mov (.t 5), none⟩,
    ⟨some 84, .bin .add false (.t 82) (.t 83), none⟩,
    ⟨some 85, .bin .neq false (.t 80) (.t 84), none⟩,
    ⟨some 86, .mov (.t 85), none⟩,
    ⟨some 87, .mov (.t 15), some (86, false)⟩,
    ⟨some 88, .bin .neq false (.t 87) (.c (.v (.int .i64 0))), some (86, false)⟩,
    ⟨some 89, .pick (.t 86) (.c (.v (.bool true))) (.t 88), none⟩,
    ⟨some 90, .mov (.t 89), none⟩,
    ⟨some 91, .mov (.t 14), some (90, false)⟩,
    ⟨some 92, .mov (.t 4), some (90, false)⟩,
    ⟨some 93, .bin .neq false (.t 91) (.t 92), some (90, false)⟩,
    ⟨some 94, .pick (.t 90) (.c (.v (.bool true))) (.t 93), none⟩])
  (.cond (.t 94)
    (.seq (.ops [⟨some 2, .mov (.c (.v (.bool false))), none⟩])
    .ret)
    .skip))
  (.seq (.ops [⟨some 96, .load 2 true (.t 12), none⟩,
    ⟨some 97, .faddr 1 (.t 9), none⟩,
    ⟨some 98, .load 1 false (.t 97), none⟩,
    ⟨some 99, .mov (.t 11), none⟩,
    ⟨some 100, .call 20 [(.t 96), (.t 98), (.t 99)], none⟩,
    ⟨some 95, .mov (.t 100), none⟩,
    ⟨some 101, .extract (.t 95) 0, none⟩,
    ⟨some 102, .extract (.t 95) 1, none⟩,
    ⟨some 16, .mov (.t 101), none⟩,
    ⟨some 17, .mov (.t 102), none⟩])
  (.seq (.ops [⟨some 103, .mov (.t 8), none⟩,
    ⟨some 104, .mov (.t 103), none⟩,
    ⟨some 105, .mov (.t 13), some (104, true)⟩,
    ⟨some 106, .bin .neq false (.t 105) (.c (.v (.int .i64 0))), some (104, true)⟩,
    ⟨some 107, .mov (.t 106), some (104, true)⟩,
    ⟨some 108, .mov (.t 17), some (107, false)⟩,
    ⟨some 109, .bin .eql false (.t 108) (.c (.v (.int .i64 0))), some (107, false)⟩,
    ⟨some 110, .mov (.t 109), some (107, false)⟩,
    ⟨some 111, .mov (.t 16), some (110, true)⟩,
    ⟨some 112, .mov (.t 6), some (110, true)⟩,
    ⟨some 113, .bin .eql false (.t 111) (.t 112), some (110, true)⟩,
    ⟨some 114, .pick (.t 110) (.t 113) (.c (.v (.bool false))), some (107, false)⟩,
    ⟨some 115, .mov (.t 114), some (107, false)⟩,
    ⟨some 116, .faddr 1 (.t 12), some (115, true)⟩,
    ⟨some 117, .load 1 false (.t 116), some (115, true)⟩,
    ⟨some 118, .faddr 1 (.t 9), some (115, true)⟩,
    ⟨some 119, .load 1 false (.t 118), some (115, true)⟩,
    ⟨some 120, .mov (.t 11), some (115, true)⟩,
    ⟨some 121, .bin .add false (.t 119) (.t 120), some (115, true)⟩,
    ⟨some 122, .bin .eql false (.t 117) (.t 121), some (115, true)⟩,
    ⟨some 123, .pick (.t 115) (.t 122) (.c (.v (.bool false))), some (107, false)⟩,
    ⟨some 124, .pick (.t 107) (.c (.v (.bool true))) (.t 123), some (104, true)⟩,
    ⟨some 125, .pick (.t 104) (.t 124) (.c (.v (.bool false))), none⟩,
    ⟨some 2, .mov (.t 125), none⟩])
  .ret)))))))))))))))))⟩ := by kernel_rfl

set_option maxRecDepth 100000 in
theorem ir5 : compF Try.prog 5 = some ⟨142, [.t 2],
  (.seq (.ops [⟨some 1, .box (.t 0), none⟩,
    ⟨some 2, .mov (.c (.v (.bool false))), none⟩])
  (.seq (.ops [⟨some 15, .faddr 0 (.t 1), none⟩,
    ⟨some 16, .load 2 true (.t 15), none⟩,
    ⟨some 3, .alloc (.agg [(.v (.slice none 0 0)), (.v (.int .i64 0))]), none⟩,
    ⟨none, .store 2 (.t 3) (.t 16), none⟩])
  (.seq (.ops [⟨some 17, .faddr 2 (.t 1), none⟩,
    ⟨some 18, .load 2 true (.t 17), none⟩,
    ⟨some 4, .alloc (.agg [(.v (.slice none 0 0)), (.v (.int .i64 0))]), none⟩,
    ⟨none, .store 2 (.t 4) (.t 18), none⟩])
  (.seq (.ops [⟨some 19, .faddr 4 (.t 1), none⟩,
    ⟨some 20, .load 2 true (.t 19), none⟩,
    ⟨some 5, .alloc (.agg [(.v (.slice none 0 0)), (.v (.int .i64 0))]), none⟩,
    ⟨none, .store 2 (.t 5) (.t 20), none⟩])
  (.seq (.ops [⟨some 21, .faddr 6 (.t 1), none⟩,
    ⟨some 22, .load 1 false (.t 21), none⟩,
    ⟨some 6, .mov (.t 22), none⟩])
  (.seq (.ops [⟨some 23, .faddr 7 (.t 1), none⟩,
    ⟨some 24, .load 1 false (.t 23), none⟩,
    ⟨some 7, .mov (.t 24), none⟩])
  (.seq (.ops [⟨some 25, .call 10 [], none⟩,
    ⟨some 8, .mov (.t 25), none⟩])
  (.seq (.seq (.ops [⟨some 26, .load 2 true (.t 3), none⟩,
    ⟨some 27, .call 11 [(.t 26)], none⟩,
    ⟨some 28, .un .not (.t 27), none⟩,
    ⟨some 29, .mov (.t 28), none⟩,
    ⟨some 30, .load 2 true (.t 4), some (29, false)⟩,
    ⟨some 31, .call 11 [(.t 30)], some (29, false)⟩,
    ⟨some 32, .un .not (.t 31), some (29, false)⟩,
    ⟨some 33, .pick (.t 29) (.c (.v (.bool true))) (.t 32), none⟩,
    ⟨some 34, .mov (.t 33), none⟩,
    ⟨some 35, .load 2 true (.t 5), some (34, false)⟩,
    ⟨some 36, .call 11 [(.t 35)], some (34, false)⟩,
    ⟨some 37, .un .not (.t 36), some (34, false)⟩,
    ⟨some 38, .pick (.t 34) (.c (.v (.bool true))) (.t 37), none⟩,
    ⟨some 39, .mov (.t 38), none⟩,
    ⟨some 40, .load 2 true (.t 3), some (39, false)⟩,
    ⟨some 41, .call 12 [(.t 40)], some (39, false)⟩,
    ⟨some 42, .un .not (.t 41), some (39, false)⟩,
    ⟨some 43, .pick (.t 39) (.c (.v (.bool true))) (.t 42), none⟩,
    ⟨some 44, .mov (.t 43), none⟩,
    ⟨some 45, .load 2 true (.t 4), some (44, false)⟩,
    ⟨some 46, .call 12 [(.t 45)], some (44, false)⟩,
    ⟨some 47, .un .not (.t 46), some (44, false)⟩,
    ⟨some 48, .pick (.t 44) (.c (.v (.bool true))) (.t 47), none⟩,
    ⟨some 49, .mov (.t 48), none⟩,
    ⟨some 50, .load 2 true (.t 5), some (49, false)⟩,
    ⟨some 51, .call 12 [(.t 50)], some (49, false)⟩,
    ⟨some 52, .un .not (.t 51), some (49, false)⟩,
    ⟨some 53, .pick (.t 49) (.c (.v (.bool true))) (.t 52), none⟩])
  (.cond (.t 53)
    (.seq (.ops [⟨some 54, .mov (.t 8), none⟩,
      ⟨some 2, .mov (.t 54), none⟩])
    .ret)
    .skip))
  (.seq (.ops [⟨some 55, .load 2 true (.t 3), none⟩,
    ⟨some 56, .load 2 true (.t 4), none⟩,
    ⟨some 57, .call 22 [(.t 55), (.t 56)], none⟩,
    ⟨some 9, .alloc (.agg [(.v (.slice none 0 0)), (.v (.int .i64 0))]), none⟩,
    ⟨none, .store 2 (.t 9) (.t 57), none⟩])
  (.seq (.ops [⟨some 58, .mov (.t 7), none⟩,
    ⟨some 59, .conv .i64 (.t 58), none⟩,
    ⟨some 60, .bin .rem false (.t 59) (.c (.v (.int .i64 65))), none⟩,
    ⟨some 10, .mov (.t 60), none⟩])
  (.seq (.seq (.draw [[⟨some 61, .load 2 true (.t 9), none⟩],
    [⟨some 62, .call 12 [(.t 61)], none⟩],
    [⟨some 63, .un .not (.t 62), none⟩],
    [⟨some 64, .mov (.t 63), none⟩],
    [⟨some 65, .faddr 1 (.t 9), some (64, false)⟩,
      ⟨some 66, .load 1 false (.t 65), some (64, false)⟩,
      ⟨some 67, .faddr 1 (.t 3), some (64, false)⟩,
      ⟨some 68, .load 1 false (.t 67), some (64, false)⟩,
      ⟨some 69, .faddr 1 (.t 4), some (64, false)⟩,
      ⟨some 70, .load 1 false (.t 69), some (64, false)⟩,
      ⟨some 71, .bin .add false (.t 68) (.t 70), some (64, false)⟩],
    [⟨some 72, .bin .neq false (.t 66) (.t 71), some (64, false)⟩],
    [⟨some 73, .pick (.t 64) (.c (.v (.bool true))) (.t 72), none⟩],
    [⟨some 74, .mov (.t 73), none⟩],
    [⟨some 75, .load 2 true (.t 9), some (74, false)⟩,
      ⟨some 76, .load 2 true (.t 5), some (74, false)⟩,
      ⟨some 77, .call 22 [(.t 75), (.t 76)], some (74, false)⟩,
      ⟨some 78, .load 2 true (.t 3), some (74, false)⟩,
      ⟨some 79, .load 2 true (.t 4), some (74, false)⟩,
      ⟨some 80, .load 2 true (.t 5), some (74, false)⟩,
      ⟨some 81, .call 22 [(.t 79), (.t 80)], some (74, false)⟩],
    [⟨some 82, .call 22 [(.t 78), (.t 81)], some (74, false)⟩],
    [⟨some 83, .call 15 [(.t 77), (.t 82)], some (74, false)⟩],
    [⟨some 84, .un .not (.t 83), some (74, false)⟩],
    [⟨some 85, .pick (.t 74) (.c (.v (.bool true))) (.t 84), none⟩],
    [⟨some 86, .mov (.t 85), none⟩],
    [⟨some 87, .load 2 true (.t 3), some (86, false)⟩,
      ⟨some 88, .build [(.v (.slice none 0 0)), (.v (.int .i64 0))] [], some (86, false)⟩,
      ⟨some 89, .call 22 [(.t 87), (.t 88)], some (86, false)⟩,
      ⟨some 90, .load 2 true (.t 3), some (86, false)⟩],
    [⟨some 91, .call 15 [(.t 89), (.t 90)], some (86, false)⟩],
    [⟨some 92, .un .not (.t 91), some (86, false)⟩],
    [⟨some 93, .pick (.t 86) (.c (.v (.bool true))) (.t 92), none⟩]])
  (.cond (.t 93)
    (.seq (.ops [⟨some 2, .mov (.c (.v (.bool false))), none⟩])
    .ret)
    .skip))
  (.seq (.seq (.ops [⟨some 94, .mov (.t 6), none⟩,
    ⟨some 95, .bin .lss false (.t 94) (.c (.v (.int .i64 0))), none⟩,
    ⟨some 96, .mov (.t 95), none⟩,
    ⟨some 97, .mov (.t 6), some (96, false)⟩,
    ⟨some 98, .faddr 1 (.t 4), some (96, false)⟩,
    ⟨some 99, .load 1 false (.t 98), some (96, false)⟩,
    ⟨some 100, .bin .gtr false (.t 97) (.t 99), some (96, false)⟩,
    ⟨some 101, .pick (.t 96) (.c (.v (.bool true))) (.t 100), none⟩,
    ⟨some 102, .mov (.t 101), none⟩,
    ⟨some 103, .faddr 1 (.t 4), some (102, false)⟩,
    ⟨some 104, .load 1 false (.t 103), some (102, false)⟩,
    ⟨some 105, .mov (.t 6), some (102, false)⟩,
    ⟨some 106, .bin .sub false (.t 104) (.t 105), some (102, false)⟩,
    ⟨some 107, .mov (.t 10), some (102, false)⟩,
    ⟨some 108, .bin .lss false (.t 106) (.t 107), some (102, false)⟩,
    ⟨some 109, .pick (.t 102) (.c (.v (.bool true))) (.t 108), none⟩])
  (.cond (.t 109)
    (.seq (.ops [⟨some 110, .mov (.t 8), none⟩,
      ⟨some 2, .mov (.t 110), none⟩])
    .ret)
    .skip))
  (.seq (.ops [⟨some 112, .load 2 true (.t 4), none⟩,
    ⟨some 113, .mov (.t 6), none⟩,
    ⟨some 114, .mov (.t 10), none⟩,
    ⟨some 115, .call 20 [(.t 112), (.t 113), (.t 114)], none⟩,
    ⟨some 111, .mov (.t 115), none⟩,
    ⟨some 116, .extract (.t 111) 0, none⟩,
    ⟨some 117, .extract (.t 111) 1, none⟩,
    ⟨some 11, .mov (.t 116), none⟩,
    ⟨some 12, .mov (.t 117), none⟩])
  (.seq (.ops [⟨some 119, .load 2 true (.t 9), none⟩,
    ⟨some 120, .faddr 1 (.t 3), none⟩,
    ⟨some 121, .load 1 false (.t 120), none⟩,
    ⟨some 122, .mov (.t 6), none⟩,
    ⟨some 123, .bin .add false (.t 121) (.t 122), none⟩,
    ⟨some 124, .mov (.t 10), none⟩,
    ⟨some 125, .call 20 [(.t 119), (.t 123), (.t 124)], none⟩,
    ⟨some 118, .mov (.t 125), none⟩,
    ⟨some 126, .extract (.t 118) 0, none⟩,
    ⟨some 127, .extract (.t 118) 1, none⟩,
    ⟨some 13, .mov (.t 126), none⟩,
    ⟨some 14, .mov (.t 127), none⟩])
  (.seq (.ops [⟨some 128, .mov (.t 8), none⟩,
    ⟨some 129, .mov (.t 128), none⟩,
    ⟨some 130, .mov (.t 12), some (129, true)⟩,
    ⟨some 131, .bin .eql false (.t 130) (.c (.v (.int .i64 0))), some (129, true)⟩,
    ⟨some 132, .pick (.t 129) (.t 131) (.c (.v (.bool false))), none⟩,
    ⟨some 133, .mov (.t 132), none⟩,
    ⟨some 134, .mov (.t 14), some (133, true)⟩,
    ⟨some 135, .bin .eql false (.t 134) (.c (.v (.int .i64 0))), some (133, true)⟩,
    ⟨some 136, .pick (.t 133) (.t 135) (.c (.v (.bool false))), none⟩,
    ⟨some 137, .mov (.t 136), none⟩,
    ⟨some 138, .mov (.t 11), some (137, true)⟩,
    ⟨some 139, .mov (.t 13), some (137, true)⟩,
    ⟨some 140, .bin .eql false (.t 138) (.t 139), some (137, true)⟩,
    ⟨some 141, .pick (.t 137) (.t 140) (.c (.v (.bool false))), none⟩,
    ⟨some 2, .mov (.t 141), none⟩])
  .ret)))))))))))))))⟩ := by kernel_rfl

theorem ir6 : compF Try.prog 6 = some ⟨112, [.t 6],
  (.seq (.ops [⟨some 3, .box (.t 0), none⟩,
    ⟨some 6, .mov (.c (.v (.bool false))), none⟩])
  (.seq (.ops [⟨some 19, .call 10 [], none⟩,
    ⟨some 7, .mov (.t 19), none⟩])
  (.seq (.seq (.ops [⟨some 20, .load 2 true (.t 3), none⟩,
    ⟨some 21, .call 11 [(.t 20)], none⟩,
    ⟨some 22, .un .not (.t 21), none⟩,
    ⟨some 23, .mov (.t 22), none⟩,
    ⟨some 24, .load 2 true (.t 3), some (23, false)⟩,
    ⟨some 25, .call 12 [(.t 24)], some (23, false)⟩,
    ⟨some 26, .un .not (.t 25), some (23, false)⟩,
    ⟨some 27, .pick (.t 23) (.c (.v (.bool true))) (.t 26), none⟩])
  (.cond (.t 27)
    (.seq (.ops [⟨some 28, .mov (.t 7), none⟩,
      ⟨some 6, .mov (.t 28), none⟩])
    .ret)
    .skip))
  (.seq (.ops [⟨some 30, .load 2 true (.t 3), none⟩,
    ⟨some 31, .mov (.t 1), none⟩,
    ⟨some 32, .conv .u64 (.t 31), none⟩,
    ⟨some 33, .call 18 [(.t 30), (.t 32), (.c (.v (.int .i64 32)))], none⟩,
    ⟨some 29, .mov (.t 33), none⟩,
    ⟨some 34, .extract (.t 29) 0, none⟩,
    ⟨some 35, .extract (.t 29) 1, none⟩,
    ⟨some 8, .alloc (.agg [(.v (.slice none 0 0)), (.v (.int .i64 0))]), none⟩,
    ⟨none, .store 2 (.t 8) (.t 34), none⟩,
    ⟨some 9, .mov (.t 35), none⟩])
  (.seq (.ops [⟨some 37, .load 2 true (.t 8), none⟩,
    ⟨some 38, .mov (.t 2), none⟩,
    ⟨some 39, .conv .u64 (.t 38), none⟩,
    ⟨some 40, .call 18 [(.t 37), (.t 39), (.c (.v (.int .i64 32)))], none⟩,
    ⟨some 36, .mov (.t 40), none⟩,
    ⟨some 41, .extract (.t 36) 0, none⟩,
    ⟨some 42, .extract (.t 36) 1, none⟩,
    ⟨some 10, .alloc (.agg [(.v (.slice none 0 0)), (.v (.int .i64 0))]), none⟩,
    ⟨none, .store 2 (.t 10) (.t 41), none⟩,
    ⟨some 11, .mov (.t 42), none⟩])
  (.seq (.ops [⟨some 44, .load 2 true (.t 3), none⟩,
    ⟨some 45, .mov (.t 1), none⟩,
    ⟨some 46, .conv .u64 (.t 45), none⟩,
    ⟨some 47, .bin .mul false (.t 46) (.c (.v (.int .u64 4294967296))), none⟩,
    ⟨some 48, .mov (.t 2), none⟩,
    ⟨some 49, .conv .u64 (.t 48), none⟩,
    ⟨some 50, .bin .add false (.t 47) (.t 49), none⟩,
    ⟨some 51, .call 18 [(.t 44), (.t 50), (.c (.v (.int .i64 64)))], none⟩,
    ⟨some 43, .mov (.t 51), none⟩,
    ⟨some 52, .extract (.t 43) 0, none⟩,
    ⟨some 53, .extract (.t 43) 1, none⟩,
    ⟨some 12, .alloc (.agg [(.v (.slice none 0 0)), (.v (.int .i64 0))]), none⟩,
    ⟨none, .store 2 (.t 12) (.t 52), none⟩,
    ⟨some 13, .mov (.t 53), none⟩])
  (.seq (.ops [⟨some 54, .mov (.t 1), none⟩,
    ⟨some 55, .conv .u64 (.t 54), none⟩,
    ⟨some 56, .call 16 [(.t 55)], none⟩,
    ⟨some 14, .mov (.t 56), none⟩])
  (.seq (.ops [⟨some 58, .load 2 true (.t 3), none⟩,
    ⟨some 59, .mov (.t 1), none⟩,
    ⟨some 60, .conv .u64 (.t 59), none⟩,
    ⟨some 61, .mov (.t 14), none⟩,
    ⟨some 62, .call 18 [(.t 58), (.t 60), (.t 61)], none⟩,
    ⟨some 57, .mov (.t 62), none⟩,
    ⟨some 63, .extract (.t 57) 0, none⟩,
    ⟨some 64, .extract (.t 57) 1, none⟩,
    ⟨some 15, .alloc (.agg [(.v (.slice none 0 0)), (.v (.int .i64 0))]), none⟩,
    ⟨none, .store 2 (.t 15) (.t 63), none⟩,
    ⟨some 16, .mov (.t 64), none⟩])
  (.seq (.ops [⟨some 66, .load 2 true (.t 3), none⟩,
    ⟨some 67, .mov (.t 1), none⟩,
    ⟨some 68, .conv .u64 (.t 67), none⟩,
    ⟨some 69, .mov (.t 14), none⟩,
    ⟨some 70, .bin .sub false (.t 69) (.c (.v (.int .i64 1))), none⟩,
    ⟨some 71, .call 18 [(.t 66), (.t 68), (.t 70)], none⟩,
    ⟨some 65, .mov (.t 71), none⟩,
    ⟨some 72, .extract (.t 65) 0, none⟩,
    ⟨some 73, .extract (.t 65) 1, none⟩,
    ⟨some 17, .alloc (.agg [(.v (.slice none 0 0)), (.v (.int .i64 0))]), none⟩,
    ⟨none, .store 2 (.t 17) (.t 72), none⟩,
    ⟨some 18, .mov (.t 73), none⟩])
  (.seq (.ops [⟨some 74, .mov (.t 7), none⟩,
    ⟨some 75, .mov (.t 74), none⟩,
    ⟨some 76, .mov (.t 9), some (75, true)⟩,
    ⟨some 77, .bin .eql false (.t 76) (.c (.v (.int .i64 0))), some (75, true)⟩,
    ⟨some 78, .pick (.t 75) (.t 77) (.c (.v (.bool false))), none⟩,
    ⟨some 79, .mov (.t 78), none⟩,
    ⟨some 80, .mov (.t 11), some (79, true)⟩,
    ⟨some 81, .bin .eql false (.t 80) (.c (.v (.int .i64 0))), some (79, true)⟩,
    ⟨some 82, .pick (.t 79) (.t 81) (.c (.v (.bool false))), none⟩,
    ⟨some 83, .mov (.t 82), none⟩,
    ⟨some 84, .mov (.t 13), some (83, true)⟩,
    ⟨some 85, .bin .eql false (.t 84) (.c (.v (.int .i64 0))), some (83, true)⟩,
    ⟨some 86, .pick (.t 83) (.t 85) (.c (.v (.bool false))), none⟩,
    ⟨some 87, .mov (.t 86), none⟩,
    ⟨some 88, .load 2 true (.t 10), some (87, true)⟩,
    ⟨some 89, .load 2 true (.t 12), some (87, true)⟩,
    ⟨some 90, .call 15 [(.t 88), (.t 89)], some (87, true)⟩,
    ⟨some 91, .pick (.t 87) (.t 90) (.c (.v (.bool false))), none⟩,
    ⟨some 92, .mov (.t 91), none⟩,
    ⟨some 93, .mov (.t 16), some (92, true)⟩,
    ⟨some 94, .bin .eql false (.t 93) (.c (.v (.int .i64 0))), some (92, true)⟩,
    ⟨some 95, .pick (.t 92) (.t 94) (.c (.v (.bool false))), none⟩,
    ⟨some 96, .mov (.t 95), none⟩,
    ⟨some 97, .mov (.t 14), some (96, true)⟩,
    ⟨some 98, .bin .eql false (.t 97) (.c (.v (.int .i64 0))), some (96, true)⟩,
    ⟨some 99, .mov (.t 98), some (96, true)⟩,
    ⟨some 100, .mov (.t 18), some (99, true)⟩,
    ⟨some 101, .bin .eql false (.t 100) (.c (.v (.int .i64 1))), some (99, true)⟩,
    ⟨some 102, .pick (.t 99) (.t 101) (.c (.v (.bool false))), some (96, true)⟩,
    ⟨some 103, .mov (.t 102), some (96, true)⟩,
    ⟨some 104, .mov (.t 14), some (103, false)⟩,
    ⟨some 105, .bin .gtr false (.t 104) (.c (.v (.int .i64 0))), some (103, false)⟩,
    ⟨some 106, .mov (.t 105), some (103, false)⟩,
    ⟨some 107, .mov (.t 18), some (106, true)⟩,
    ⟨some 108, .bin .eql false (.t 107) (.c (.v (.int .i64 5))), some (106, true)⟩,
    ⟨some 109, .pick (.t 106) (.t 108) (.c (.v (.bool false))), some (103, false)⟩,
    ⟨some 110, .pick (.t 103) (.c (.v (.bool true))) (.t 109), some (96, true)⟩,
    ⟨some 111, .pick (.t 96) (.t 110) (.c (.v (.bool false))), none⟩,
    ⟨some 6, .mov (.t 111), none⟩])
  .ret))))))))))⟩ := by kernel_rfl

theorem ir7 : compF Try.prog 7 = some ⟨65, [.t 6],
  (.seq (.ops [⟨some 6, .mov (.c (.v (.bool false))), none⟩])
  (.seq (.ops [⟨some 13, .call 10 [], none⟩,
    ⟨some 7, .mov (.t 13), none⟩])
  (.seq (.ops [⟨some 14, .mov (.t 2), none⟩,
    ⟨some 15, .conv .i64 (.t 14), none⟩,
    ⟨some 16, .bin .rem false (.t 15) (.c (.v (.int .i64 65))), none⟩,
    ⟨some 8, .mov (.t 16), none⟩])
  (.seq (.ops [⟨some 18, .build [(.v (.slice none 0 0)), (.v (.int .i64 0))] [], none⟩,
    ⟨some 19, .mov (.t 0), none⟩,
    ⟨some 20, .mov (.t 8), none⟩,
    ⟨some 21, .call 18 [(.t 18), (.t 19), (.t 20)], none⟩,
    ⟨some 17, .mov (.t 21), none⟩,
    ⟨some 22, .extract (.t 17) 0, none⟩,
    ⟨some 23, .extract (.t 17) 1, none⟩,
    ⟨some 9, .alloc (.agg [(.v (.slice none 0 0)), (.v (.int .i64 0))]), none⟩,
    ⟨none, .store 2 (.t 9) (.t 22), none⟩,
    ⟨some 10, .mov (.t 23), none⟩])
  (.seq (.ops [⟨some 25, .build [(.v (.slice none 0 0)), (.v (.int .i64 0))] [], none⟩,
    ⟨some 26, .mov (.t 1), none⟩,
    ⟨some 27, .mov (.t 8), none⟩,
    ⟨some 28, .call 18 [(.t 25), (.t 26), (.t 27)], none⟩,
    ⟨some 24, .mov (.t 28), none⟩,
    ⟨some 29, .extract (.t 24) 0, none⟩,
    ⟨some 30, .extract (.t 24) 1, none⟩,
    ⟨some 11, .alloc (.agg [(.v (.slice none 0 0)), (.v (.int .i64 0))]), none⟩,
    ⟨none, .store 2 (.t 11) (.t 29), none⟩,
    ⟨some 12, .mov (.t 30), none⟩])
  (.seq (.seq (.ops [⟨some 31, .mov (.t 10), none⟩,
    ⟨some 32, .bin .neq false (.t 31) (.c (.v (.int .i64 0))), none⟩,
    ⟨some 33, .mov (.t 32), none⟩,
    ⟨some 34, .mov (.t 12), some (33, false)⟩,
    ⟨some 35, .bin .neq false (.t 34) (.c (.v (.int .i64 0))), some (33, false)⟩,
    ⟨some 36, .pick (.t 33) (.c (.v (.bool true))) (.t 35), none⟩])
  (.cond (.t 36)
    (.seq (.ops [⟨some 37, .mov (.t 7), none⟩,
      ⟨some 6, .mov (.t 37), none⟩])
    .ret)
    .skip))
  (.seq (.ops [⟨some 38, .mov (.t 7), none⟩,
    ⟨some 39, .mov (.t 38), none⟩,
    ⟨some 40, .faddr 0 (.t 9), some (39, true)⟩,
    ⟨some 41, .load 1 false (.t 40), some (39, true)⟩,
    ⟨some 42, .b2s (.t 41), some (39, true)⟩,
    ⟨some 43, .faddr 0 (.t 11), some (39, true)⟩,
    ⟨some 44, .load 1 false (.t 43), some (39, true)⟩,
    ⟨some 45, .b2s (.t 44), some (39, true)⟩,
    ⟨some 46, .bin .lss false (.t 42) (.t 45), some (39, true)⟩,
    ⟨some 47, .mov (.t 0), some (39, true)⟩,
    ⟨some 48, .mov (.t 1), some (39, true)⟩,
    ⟨some 49, .bin .lss false (.t 47) (.t 48), some (39, true)⟩,
    ⟨some 50, .bin .eql true (.t 46) (.t 49), some (39, true)⟩,
    ⟨some 51, .pick (.t 39) (.t 50) (.c (.v (.bool false))), none⟩,
    ⟨some 52, .mov (.t 51), none⟩,
    ⟨some 53, .faddr 0 (.t 9), some (52, true)⟩,
    ⟨some 54, .load 1 false (.t 53), some (52, true)⟩,
    ⟨some 55, .b2s (.t 54), some (52, true)⟩,
    ⟨some 56, .faddr 0 (.t 11), some (52, true)⟩,
    ⟨some 57, .load 1 false (.t 56), some (52, true)⟩,
    ⟨some 58, .b2s (.t 57), some (52, true)⟩,
    ⟨some 59, .bin .eql false (.t 55) (.t 58), some (52, true)⟩,
    ⟨some 60, .mov (.t 0), some (52, true)⟩,
    ⟨some 61, .mov (.t 1), some (52, true)⟩,
    ⟨some 62, .bin .eql false (.t 60) (.t 61), some (52, true)⟩,
    ⟨some 63, .bin .eql true (.t 59) (.t 62), some (52, true)⟩,
    ⟨some 64, .pick (.t 52) (.t 63) (.c (.v (.bool false))), none⟩,
    ⟨some 6, .mov (.t 64), none⟩])
  .ret)))))))⟩ := by kernel_rfl

set_option maxRecDepth 100000 in
theorem ir8 : compF Try.prog 8 = some ⟨128, [.t 4],
  (.seq (.ops [⟨some 4, .mov (.c (.v (.bool false))), none⟩])
  (.seq (.ops [⟨some 17, .call 10 [], none⟩,
    ⟨some 5, .mov (.t 17), none⟩])
  (.seq (.seq (.ops [⟨some 18, .mov (.t 0), none⟩,
    ⟨some 19, .len false (.t 18), none⟩,
    ⟨some 20, .bin .gtr false (.t 19) (.c (.v (.int .i64 30))), none⟩,
    ⟨some 21, .mov (.t 20), none⟩,
    ⟨some 22, .mov (.t 1), some (21, false)⟩,
    ⟨some 23, .len false (.t 22), some (21, false)⟩,
    ⟨some 24, .mov (.t 0), some (21, false)⟩,
    ⟨some 25, .len false (.t 24), some (21, false)⟩,
    ⟨some 26, .bin .neq false (.t 23) (.t 25), some (21, false)⟩,
    ⟨some 27, .pick (.t 21) (.c (.v (.bool true))) (.t 26), none⟩])
  (.cond (.t 27)
    (.seq (.ops [⟨some 28, .mov (.t 5), none⟩,
      ⟨some 4, .mov (.t 28), none⟩])
    .ret)
    .skip))
  (.seq (.ops [⟨some 29, .build [(.v (.slice none 0 0)), (.v (.int .i64 0))] [], none⟩,
    ⟨some 6, .alloc (.agg [(.v (.slice none 0 0)), (.v (.int .i64 0))]), none⟩,
    ⟨none, .store 2 (.t 6) (.t 29), none⟩])
  (.seq (.ops [⟨some 7, .mov (.c (.v (.int .i64 0))), none⟩])
  (.seq (.seq (.ops [⟨some 8, .mov (.c (.v (.int .i64 0))), none⟩])
  (.block 0 (.loop
    (.seq (.seq (.ops [⟨some 30, .mov (.t 8), none⟩,
      ⟨some 31, .mov (.t 0), none⟩,
      ⟨some 32, .len false (.t 31), none⟩,
      ⟨some 33, .bin .lss false (.t 30) (.t 32), none⟩])
    (.cond (.t 33)
      .skip
      (.exit 0)))
    (.seq (.block 1 (.seq (.ops [⟨some 36, .mov (.t 1), none⟩,
      ⟨some 37, .mov (.t 8), none⟩,
      ⟨some 38, .iaddr 1 (.t 36) (.t 37), none⟩,
      ⟨some 39, .load 1 false (.t 38), none⟩,
      ⟨some 40, .conv .i64 (.t 39), none⟩,
      ⟨some 41, .bin .rem false (.t 40) (.c (.v (.int .i64 65))), none⟩,
      ⟨some 9, .mov (.t 41), none⟩])
    (.seq (.draw [[⟨some 43, .load 2 true (.t 6), none⟩,
        ⟨some 44, .mov (.t 0), none⟩,
        ⟨some 45, .mov (.t 8), none⟩,
        ⟨some 46, .iaddr 1 (.t 44) (.t 45), none⟩,
        ⟨some 47, .load 1 false (.t 46), none⟩,
        ⟨some 48, .mov (.t 9), none⟩,
        ⟨some 49, .call 18 [(.t 43), (.t 47), (.t 48)], none⟩,
        ⟨some 42, .mov (.t 49), none⟩,
        ⟨some 50, .extract (.t 42) 0, none⟩,
        ⟨some 51, .extract (.t 42) 1, none⟩,
        ⟨some 10, .alloc (.agg [(.v (.slice none 0 0)), (.v (.int .i64 0))]), none⟩,
        ⟨none, .store 2 (.t 10) (.t 50), none⟩],
      [⟨some 11, .mov (.t 51), none⟩]])
    (.seq (.seq (.ops [⟨some 52, .mov (.t 11), none⟩,
      ⟨some 53, .bin .eql false (.t 52) (.c (.v (.int .i64 0))), none⟩,
      ⟨some 54, .mov (.t 0), none⟩,
      ⟨some 55, .mov (.t 8), none⟩,
      ⟨some 56, .iaddr 1 (.t 54) (.t 55), none⟩,
      ⟨some 57, .load 1 false (.t 56), none⟩,
      ⟨some 58, .call 17 [(.t 57)], none⟩,
      ⟨some 59, .mov (.t 9), none⟩,
      ⟨some 60, .bin .leq false (.t 58) (.t 59), none⟩,
      ⟨some 61, .bin .neq true (.t 53) (.t 60), none⟩])
    (.cond (.t 61)
      (.seq (.ops [⟨some 4, .mov (.c (.v (.bool false))), none⟩])
      .ret)
      .skip))
    (.seq (.seq (.ops [⟨some 62, .mov (.t 11), none⟩,
      ⟨some 63, .bin .eql false (.t 62) (.c (.v (.int .i64 0))), none⟩])
    (.cond (.t 63)
      (.ops [⟨some 64, .mov (.t 7), none⟩,
        ⟨some 65, .mov (.t 9), none⟩,
        ⟨some 66, .bin .add false (.t 64) (.t 65), none⟩,
        ⟨some 7, .mov (.t 66), none⟩])
      .skip))
    (.ops [⟨some 67, .load 2 true (.t 10), none⟩,
      ⟨none, .store 2 (.t 6) (.t 67), none⟩]))))))
    (.ops [⟨some 34, .mov (.t 8), none⟩,
      ⟨some 35, .bin .add false (.t 34) (.c (.v (.int .i64 1))), none⟩,
      ⟨some 8, .mov (.t 35), none⟩]))))))
  (.seq (.ops [⟨some 12, .mov (.c (.v (.int .i64 0))), none⟩])
  (.seq (.seq (.ops [⟨some 13, .mov (.c (.v (.int .i64 0))), none⟩])
  (.block 2 (.loop
    (.seq (.seq (.ops [⟨some 68, .mov (.t 13), none⟩,
      ⟨some 69, .mov (.t 0), none⟩,
      ⟨some 70, .len false (.t 69), none⟩,
      ⟨some 71, .bin .lss false (.t 68) (.t 70), none⟩])
    (.cond (.t 71)
      .skip
      (.exit 2)))
    (.seq (.block 3 (.seq (.ops [⟨some 74, .mov (.t 1), none⟩,
      ⟨some 75, .mov (.t 13), none⟩,
      ⟨some 76, .iaddr 1 (.t 74) (.t 75), none⟩,
      ⟨some 77, .load 1 false (.t 76), none⟩,
      ⟨some 78, .conv .i64 (.t 77), none⟩,
      ⟨some 79, .bin .rem false (.t 78) (.c (.v (.int .i64 65))), none⟩,
      ⟨some 14, .mov (.t 79), none⟩])
    (.seq (.seq (.ops [⟨some 80, .mov (.t 0), none⟩,
      ⟨some 81, .mov (.t 13), none⟩,
      ⟨some 82, .iaddr 1 (.t 80) (.t 81), none⟩,
      ⟨some 83, .load 1 false (.t 82), none⟩,
      ⟨some 84, .call 17 [(.t 83)], none⟩,
      ⟨some 85, .mov (.t 14), none⟩,
      ⟨some 86, .bin .gtr false (.t 84) (.t 85), none⟩])
    (.cond (.t 86)
      (.exit 3)
      .skip))
    (.seq (.ops [⟨some 88, .load 2 true (.t 6), none⟩,
      ⟨some 89, .mov (.t 12), none⟩,
      ⟨some 90, .mov (.t 14), none⟩,
      ⟨some 91, .call 20 [(.t 88), (.t 89), (.t 90)], none⟩,
      ⟨some 87, .mov (.t 91), none⟩,
      ⟨some 92, .extract (.t 87) 0, none⟩,
      ⟨some 93, .extract (.t 87) 1, none⟩,
      ⟨some 15, .mov (.t 92), none⟩,
      ⟨some 16, .mov (.t 93), none⟩])
    (.seq (.seq (.ops [⟨some 94, .mov (.t 16), none⟩,
      ⟨some 95, .bin .neq false (.t 94) (.c (.v (.int .i64 0))), none⟩,
      ⟨some 96, .mov (.t 95), none⟩,
      ⟨some 97, .mov (.t 15), some (96, false)⟩,
      ⟨some 98, .mov (.t 0), some (96, false)⟩,
      ⟨some 99, .mov (.t 13), some (96, false)⟩,
      ⟨some 100, .iaddr 1 (.t 98) (.t 99), some (96, false)⟩,
      ⟨some 101, .load 1 false (.t 100), some (96, false)⟩,
      ⟨some 102, .bin .neq false (.t 97) (.t 101), some (96, false)⟩,
      ⟨some 103, .pick (.t 96) (.c (.v (.bool true))) (.t 102), none⟩])
    (.cond (.t 103)
      (.seq (.ops [⟨some 4, .mov (.c (.v (.bool false))), none⟩])
      .ret)
      .skip))
    (.ops [⟨some 104, .mov (.t 12), none⟩,
      ⟨some 105, .mov (.t 14), none⟩,
      ⟨some 106, .bin .add false (.t 104) (.t 105), none⟩,
      ⟨some 12, .mov (.t 106), none⟩]))))))
    (.ops [⟨some 72, .mov (.t 13), none⟩,
      ⟨some 73, .bin .add false (.t 72) (.c (.v (.int .i64 1))), none⟩,
      ⟨some 13, .mov (.t 73), none⟩]))))))
  (.seq (.ops [⟨some 107, .mov (.t 5), none⟩,
    ⟨some 108, .mov (.t 107), none⟩,
    ⟨some 109, .faddr 1 (.t 6), some (108, true)⟩,
    ⟨some 110, .load 1 false (.t 109), some (108, true)⟩,
    ⟨some 111, .mov (.t 7), some (108, true)⟩,
    ⟨some 112, .bin .eql false (.t 110) (.t 111), some (108, true)⟩,
    ⟨some 113, .pick (.t 108) (.t 112) (.c (.v (.bool false))), none⟩,
    ⟨some 114, .mov (.t 113), none⟩,
    ⟨some 115, .mov (.t 12), some (114, true)⟩,
    ⟨some 116, .mov (.t 7), some (114, true)⟩,
    ⟨some 117, .bin .eql false (.t 115) (.t 116), some (114, true)⟩,
    ⟨some 118, .pick (.t 114) (.t 117) (.c (.v (.bool false))), none⟩,
    ⟨some 119, .mov (.t 118), none⟩,
    ⟨some 120, .faddr 0 (.t 6), some (119, true)⟩,
    ⟨some 121, .load 1 false (.t 120), some (119, true)⟩,
    ⟨some 122, .len false (.t 121), some (119, true)⟩,
    ⟨some 123, .mov (.t 7), some (119, true)⟩,
    ⟨some 124, .bin .add false (.t 123) (.c (.v (.int .i64 7))), some (119, true)⟩,
    ⟨some 125, .bin .quo false (.t 124) (.c (.v (.int .i64 8))), some (119, true)⟩,
    ⟨some 126, .bin .eql false (.t 122) (.t 125), some (119, true)⟩,
    ⟨some 127, .pick (.t 119) (.t 126) (.c (.v (.bool false))), none⟩,
    ⟨some 4, .mov (.t 127), none⟩])
  .ret)))))))))⟩ := by kernel_rfl

theorem ir9 : compF Try.prog 9 = some ⟨74, [.t 2],
  (.seq (.ops [⟨some 2, .mov (.c (.v (.bool false))), none⟩])
  (.seq (.ops [⟨some 11, .call 10 [], none⟩,
    ⟨some 3, .mov (.t 11), none⟩])
  (.seq (.ops [⟨some 12, .mov (.t 0), none⟩,
    ⟨some 13, .call 16 [(.t 12)], none⟩,
    ⟨some 4, .mov (.t 13), none⟩])
  (.seq (.seq (.ops [⟨some 14, .mov (.t 4), none⟩,
    ⟨some 15, .bin .lss false (.t 14) (.c (.v (.int .i64 0))), none⟩,
    ⟨some 16, .mov (.t 15), none⟩,
    ⟨some 17, .mov (.t 4), some (16, false)⟩,
    ⟨some 18, .bin .gtr false (.t 17) (.c (.v (.int .i64 64))), some (16, false)⟩,
    ⟨some 19, .pick (.t 16) (.c (.v (.bool true))) (.t 18), none⟩])
  (.cond (.t 19)
    (.seq (.ops [⟨some 2, .mov (.c (.v (.bool false))), none⟩])
    .ret)
    .skip))
  (.seq (.ops [⟨some 5, .mov (.c (.v (.int .u64 1))), none⟩])
  (.seq (.seq (.ops [⟨some 6, .mov (.c (.v (.int .i64 1))), none⟩])
  (.block 0 (.loop
    (.seq (.seq (.ops [⟨some 20, .mov (.t 6), none⟩,
      ⟨some 21, .mov (.t 4), none⟩,
      ⟨some 22, .bin .lss false (.t 20) (.t 21), none⟩])
    (.cond (.t 22)
      .skip
      (.exit 0)))
    (.seq (.block 1 (.ops [⟨some 25, .mov (.t 5), none⟩,
      ⟨some 26, .bin .mul false (.c (.v (.int .u64 2))) (.t 25), none⟩,
      ⟨some 5, .mov (.t 26), none⟩]))
    (.ops [⟨some 23, .mov (.t 6), none⟩,
      ⟨some 24, .bin .add false (.t 23) (.c (.v (.int .i64 1))), none⟩,
      ⟨some 6, .mov (.t 24), none⟩]))))))
  (.seq (.ops [⟨some 28, .build [(.v (.slice none 0 0)), (.v (.int .i64 0))] [], none⟩,
    ⟨some 29, .mov (.t 0), none⟩,
    ⟨some 30, .mov (.t 4), none⟩,
    ⟨some 31, .call 18 [(.t 28), (.t 29), (.t 30)], none⟩,
    ⟨some 27, .mov (.t 31), none⟩,
    ⟨some 32, .extract (.t 27) 0, none⟩,
    ⟨some 33, .extract (.t 27) 1, none⟩,
    ⟨some 7, .alloc (.agg [(.v (.slice none 0 0)), (.v (.int .i64 0))]), none⟩,
    ⟨none, .store 2 (.t 7) (.t 32), none⟩,
    ⟨some 8, .mov (.t 33), none⟩])
  (.seq (.ops [⟨some 35, .build [(.v (.slice none 0 0)), (.v (.int .i64 0))] [], none⟩,
    ⟨some 36, .mov (.t 0), none⟩,
    ⟨some 37, .mov (.t 4), none⟩,
    ⟨some 38, .bin .sub false (.t 37) (.c (.v (.int .i64 1))), none⟩,
    ⟨some 39, .call 18 [(.t 35), (.t 36), (.t 38)], none⟩,
    ⟨some 34, .mov (.t 39), none⟩,
    ⟨some 40, .extract (.t 34) 0, none⟩,
    ⟨some 41, .extract (.t 34) 1, none⟩,
    ⟨some 9, .alloc (.agg [(.v (.slice none 0 0)), (.v (.int .i64 0))]), none⟩,
    ⟨none, .store 2 (.t 9) (.t 40), none⟩,
    ⟨some 10, .mov (.t 41), none⟩])
  (.seq (.ops [⟨some 42, .mov (.t 3), none⟩,
    ⟨some 43, .mov (.t 42), none⟩,
    ⟨some 44, .mov (.t 4), some (43, true)⟩,
    ⟨some 45, .bin .eql false (.t 44) (.c (.v (.int .i64 0))), some (43, true)⟩,
    ⟨some 46, .mov (.t 0), some (43, true)⟩,
    ⟨some 47, .bin .eql false (.t 46) (.c (.v (.int .u64 0))), some (43, true)⟩,
    ⟨some 48, .bin .eql true (.t 45) (.t 47), some (43, true)⟩,
    ⟨some 49, .pick (.t 43) (.t 48) (.c (.v (.bool false))), none⟩,
    ⟨some 50, .mov (.t 49), none⟩,
    ⟨some 51, .mov (.t 4), some (50, true)⟩,
    ⟨some 52, .bin .eql false (.t 51) (.c (.v (.int .i64 0))), some (50, true)⟩,
    ⟨some 53, .mov (.t 52), some (50, true)⟩,
    ⟨some 54, .mov (.t 0), some (53, false)⟩,
    ⟨some 55, .mov (.t 5), some (53, false)⟩,
    ⟨some 56, .bin .geq false (.t 54) (.t 55), some (53, false)⟩,
    ⟨some 57, .mov (.t 56), some (53, false)⟩,
    ⟨some 58, .mov (.t 0), some (57, true)⟩,
    ⟨some 59, .mov (.t 5), some (57, true)⟩,
    ⟨some 60, .bin .sub false (.t 58) (.t 59), some (57, true)⟩,
    ⟨some 61, .mov (.t 5), some (57, true)⟩,
    ⟨some 62, .bin .lss false (.t 60) (.t 61), some (57, true)⟩,
    ⟨some 63, .pick (.t 57) (.t 62) (.c (.v (.bool false))), some (53, false)⟩,
    ⟨some 64, .pick (.t 53) (.c (.v (.bool true))) (.t 63), some (50, true)⟩,
    ⟨some 65, .pick (.t 50) (.t 64) (.c (.v (.bool false))), none⟩,
    ⟨some 66, .mov (.t 65), none⟩,
    ⟨some 67, .mov (.t 8), some (66, true)⟩,
    ⟨some 68, .bin .eql false (.t 67) (.c (.v (.int .i64 0))), some (66, true)⟩,
    ⟨some 69, .pick (.t 66) (.t 68) (.c (.v (.bool false))), none⟩,
    ⟨some 70, .mov (.t 69), none⟩,
    ⟨some 71, .mov (.t 10), some (70, true)⟩,
    ⟨some 72, .bin .neq false (.t 71) (.c (.v (.int .i64 0))), some (70, true)⟩,
    ⟨some 73, .pick (.t 70) (.t 72) (.c (.v (.bool false))), none⟩,
    ⟨some 2, .mov (.t 73), none⟩])
  .ret)))))))))⟩ := by kernel_rfl

set_option maxRecDepth 100000 in
theorem ir10 : compF Try.prog 10 = some ⟨119, [.t 0],
  (.seq (.ops [⟨some 0, .mov (.c (.v (.bool false))), none⟩])
  (.seq (.ops [⟨some 14, .build [(.v (.slice none 0 0)), (.v (.int .i64 0))] [], none⟩,
    ⟨some 15, .call 18 [(.t 14), (.c (.v (.int .u64 5))), (.c (.v (.int .i64 3)))], none⟩,
    ⟨some 13, .mov (.t 15), none⟩,
    ⟨some 16, .extract (.t 13) 0, none⟩,
    ⟨some 17, .extract (.t 13) 1, none⟩,
    ⟨some 1, .alloc (.agg [(.v (.slice none 0 0)), (.v (.int .i64 0))]), none⟩,
    ⟨none, .store 2 (.t 1) (.t 16), none⟩,
    ⟨some 2, .mov (.t 17), none⟩])
  (.seq (.ops [⟨some 19, .load 2 true (.t 1), none⟩,
    ⟨some 20, .call 18 [(.t 19), (.c (.v (.int .u64 1))), (.c (.v (.int .i64 2)))], none⟩,
    ⟨some 18, .mov (.t 20), none⟩,
    ⟨some 21, .extract (.t 18) 0, none⟩,
    ⟨some 22, .extract (.t 18) 1, none⟩,
    ⟨some 3, .alloc (.agg [(.v (.slice none 0 0)), (.v (.int .i64 0))]), none⟩,
    ⟨none, .store 2 (.t 3) (.t 21), none⟩,
    ⟨some 4, .mov (.t 22), none⟩])
  (.seq (.ops [⟨some 24, .load 2 true (.t 3), none⟩,
    ⟨some 25, .call 20 [(.t 24), (.c (.v (.int .i64 3))), (.c (.v (.int .i64 2)))], none⟩,
    ⟨some 23, .mov (.t 25), none⟩,
    ⟨some 26, .extract (.t 23) 0, none⟩,
    ⟨some 27, .extract (.t 23) 1, none⟩,
    ⟨some 5, .mov (.t 26), none⟩,
    ⟨some 6, .mov (.t 27), none⟩])
  (.seq (.ops [⟨some 29, .load 2 true (.t 3), none⟩,
    ⟨some 30, .call 18 [(.t 29), (.c (.v (.int .u64 8))), (.c (.v (.int .i64 3)))], none⟩,
    ⟨some 28, .mov (.t 30), none⟩,
    ⟨some 31, .extract (.t 28) 0, none⟩,
    ⟨some 32, .extract (.t 28) 1, none⟩,
    ⟨some 7, .alloc (.agg [(.v (.slice none 0 0)), (.v (.int .i64 0))]), none⟩,
    ⟨none, .store 2 (.t 7) (.t 31), none⟩,
    ⟨some 8, .mov (.t 32), none⟩])
  (.seq (.ops [⟨some 34, .load 2 true (.t 3), none⟩,
    ⟨some 35, .call 18 [(.t 34), (.c (.v (.int .u64 0))), (.c (.v (.int .i64 65)))], none⟩,
    ⟨some 33, .mov (.t 35), none⟩,
    ⟨some 36, .extract (.t 33) 0, none⟩,
    ⟨some 37, .extract (.t 33) 1, none⟩,
    ⟨some 9, .alloc (.agg [(.v (.slice none 0 0)), (.v (.int .i64 0))]), none⟩,
    ⟨none, .store 2 (.t 9) (.t 36), none⟩,
    ⟨some 10, .mov (.t 37), none⟩])
  (.seq (.ops [⟨some 39, .load 2 true (.t 3), none⟩,
    ⟨some 40, .call 20 [(.t 39), (.c (.v (.int .i64 4))), (.c (.v (.int .i64 2)))], none⟩,
    ⟨some 38, .mov (.t 40), none⟩,
    ⟨some 41, .extract (.t 38) 0, none⟩,
    ⟨some 42, .extract (.t 38) 1, none⟩,
    ⟨some 11, .mov (.t 41), none⟩,
    ⟨some 12, .mov (.t 42), none⟩])
  (.seq (.draw [[⟨some 43, .mov (.t 2), none⟩],
    [⟨some 44, .bin .eql false (.t 43) (.c (.v (.int .i64 0))), none⟩],
    [⟨some 45, .mov (.t 44), none⟩],
    [⟨some 46, .mov (.t 4), some (45, true)⟩],
    [⟨some 47, .bin .eql false (.t 46) (.c (.v (.int .i64 0))), some (45, true)⟩],
    [⟨some 48, .pick (.t 45) (.t 47) (.c (.v (.bool false))), none⟩],
    [⟨some 49, .mov (.t 48), none⟩],
    [⟨some 50, .faddr 0 (.t 3), some (49, true)⟩],
    [⟨some 51, .load 1 false (.t 50), some (49, true)⟩],
    [⟨some 52, .b2s (.t 51), some (49, true)⟩],
    [⟨some 53, .bin .eql false (.t 52) (.c (.v (.string ⟨#[168]⟩))), some (49, true)⟩],
    [⟨some 54, .pick (.t 49) (.t 53) (.c (.v (.bool false))), none⟩],
    [⟨some 55, .mov (.t 54), none⟩],
    [⟨some 56, .faddr 1 (.t 3), some (55, true)⟩],
    [⟨some 57, .load 1 false (.t 56), some (55, true)⟩],
    [⟨some 58, .bin .eql false (.t 57) (.c (.v (.int .i64 5))), some (55, true)⟩],
    [⟨some 59, .pick (.t 55) (.t 58) (.c (.v (.bool false))), none⟩],
    [⟨some 60, .mov (.t 59), none⟩],
    [⟨some 61, .mov (.t 5), some (60, true)⟩],
    [⟨some 62, .bin .eql false (.t 61) (.c (.v (.int .u64 1))), some (60, true)⟩],
    [⟨some 63, .pick (.t 60) (.t 62) (.c (.v (.bool false))), none⟩],
    [⟨some 64, .mov (.t 63), none⟩],
    [⟨some 65, .mov (.t 6), some (64, true)⟩],
    [⟨some 66, .bin .eql false (.t 65) (.c (.v (.int .i64 0))), some (64, true)⟩],
    [⟨some 67, .pick (.t 64) (.t 66) (.c (.v (.bool false))), none⟩],
    [⟨some 68, .mov (.t 67), none⟩],
    [⟨some 69, .mov (.t 8), some (68, true)⟩],
    [⟨some 70, .bin .eql false (.t 69) (.c (.v (.int .i64 5))), some (68, true)⟩],
    [⟨some 71, .pick (.t 68) (.t 70) (.c (.v (.bool false))), none⟩],
    [⟨some 72, .mov (.t 71), none⟩],
    [⟨some 73, .mov (.t 10), some (72, true)⟩],
    [⟨some 74, .bin .eql false (.t 73) (.c (.v (.int .i64 1))), some (72, true)⟩],
    [⟨some 75, .pick (.t 72) (.t 74) (.c (.v (.bool false))), none⟩],
    [⟨some 76, .mov (.t 75), none⟩],
    [⟨some 77, .mov (.t 12), some (76, true)⟩],
    [⟨some 78, .bin .eql false (.t 77) (.c (.v (.int .i64 10))), some (76, true)⟩],
    [⟨some 79, .pick (.t 76) (.t 78) (.c (.v (.bool false))), none⟩],
    [⟨some 80, .mov (.t 79), none⟩],
    [⟨some 81, .call 16 [(.c (.v (.int .u64 5)))], some (80, true)⟩],
    [⟨some 82, .bin .eql false (.t 81) (.c (.v (.int .i64 3))), some (80, true)⟩],
    [⟨some 83, .pick (.t 80) (.t 82) (.c (.v (.bool false))), none⟩],
    [⟨some 84, .mov (.t 83), none⟩],
    [⟨some 85, .call 16 [(.c (.v (.int .u64 0)))], some (84, true)⟩],
    [⟨some 86, .bin .eql false (.t 85) (.c (.v (.int .i64 0))), some (84, true)⟩],
    [⟨some 87, .pick (.t 84) (.t 86) (.c (.v (.bool false))), none⟩],
    [⟨some 88, .mov (.t 87), none⟩],
    [⟨some 89, .load 2 true (.t 3), some (88, true)⟩],
    [⟨some 90, .call 13 [(.t 89)], some (88, true)⟩],
    [⟨some 91, .pick (.t 88) (.t 90) (.c (.v (.bool false))), none⟩],
    [⟨some 92, .mov (.t 91), none⟩],
    [⟨some 93, .build [(.v (.slice none 0 0)), (.v (.int .i64 0))] [(1, 1, (.c (.v (.int .i64 1))))], some (92, true)⟩],
    [⟨some 94, .call 13 [(.t 93)], some (92, true)⟩],
    [⟨some 95, .un .not (.t 94), some (92, true)⟩],
    [⟨some 96, .pick (.t 92) (.t 95) (.c (.v (.bool false))), none⟩],
    [⟨some 97, .mov (.t 96), none⟩],
    [⟨some 98, .load 2 true (.t 1), some (97, true)⟩,
      ⟨some 99, .load 2 true (.t 3), some (97, true)⟩,
      ⟨some 100, .call 22 [(.t 98), (.t 99)], some (97, true)⟩,
      ⟨some 101, .load 2 true (.t 1), some (97, true)⟩,
      ⟨some 102, .load 2 true (.t 3), some (97, true)⟩],
    [⟨some 103, .call 22 [(.t 101), (.t 102)], some (97, true)⟩],
    [⟨some 104, .call 14 [(.t 100), (.t 103)], some (97, true)⟩],
    [⟨some 105, .pick (.t 97) (.t 104) (.c (.v (.bool false))), none⟩],
    [⟨some 106, .mov (.t 105), none⟩],
    [⟨some 107, .load 2 true (.t 1), some (106, true)⟩,
      ⟨some 108, .load 2 true (.t 3), some (106, true)⟩],
    [⟨some 109, .call 14 [(.t 107), (.t 108)], some (106, true)⟩],
    [⟨some 110, .un .not (.t 109), some (106, true)⟩],
    [⟨some 111, .pick (.t 106) (.t 110) (.c (.v (.bool false))), none⟩],
    [⟨some 112, .mov (.t 111), none⟩],
    [⟨some 113, .load 2 true (.t 1), some (112, true)⟩,
      ⟨some 114, .load 2 true (.t 3), some (112, true)⟩],
    [⟨some 115, .call 22 [(.t 113), (.t 114)], some (112, true)⟩],
    [⟨some 116, .field 1 1 false (.t 115), some (112, true)⟩],
    [⟨some 117, .bin .eql false (.t 116) (.c (.v (.int .i64 8))), some (112, true)⟩],
    [⟨some 118, .pick (.t 112) (.t 117) (.c (.v (.bool false))), none⟩],
    [⟨some 0, .mov (.t 118), none⟩]])
  .ret))))))))⟩ := by kernel_rfl

theorem ir11 : compF Try.prog 11 = some ⟨7, [.t 2],
  (.seq (.ops [⟨some 1, .box (.t 0), none⟩,
    ⟨some 2, .mov (.c (.v (.bool false))), none⟩])
  (.seq (.ops [⟨some 3, .faddr 0 (.t 1), none⟩,
    ⟨some 4, .load 1 false (.t 3), none⟩,
    ⟨some 5, .len false (.t 4), none⟩,
    ⟨some 6, .bin .leq false (.t 5) (.c (.v (.int .i64 100))), none⟩,
    ⟨some 2, .mov (.t 6), none⟩])
  .ret))⟩ := by kernel_rfl

theorem ir12 : compF Try.prog 12 = some ⟨50, [.t 2],
  (.seq (.ops [⟨some 1, .box (.t 0), none⟩,
    ⟨some 2, .mov (.c (.v (.bool false))), none⟩])
  (.seq (.seq (.ops [⟨some 4, .faddr 1 (.t 1), none⟩,
    ⟨some 5, .load 1 false (.t 4), none⟩,
    ⟨some 6, .bin .lss false (.t 5) (.c (.v (.int .i64 0))), none⟩,
    ⟨some 7, .mov (.t 6), none⟩,
    ⟨some 8, .faddr 0 (.t 1), some (7, false)⟩,
    ⟨some 9, .load 1 false (.t 8), some (7, false)⟩,
    ⟨some 10, .len false (.t 9), some (7, false)⟩,
    ⟨some 11, .faddr 1 (.t 1), some (7, false)⟩,
    ⟨some 12, .load 1 false (.t 11), some (7, false)⟩,
    ⟨some 13, .bin .quo false (.t 12) (.c (.v (.int .i64 8))), some (7, false)⟩,
    ⟨some 14, .bin .add false (.t 13) (.c (.v (.int .i64 1))), some (7, false)⟩,
    ⟨some 15, .bin .gtr false (.t 10) (.t 14), some (7, false)⟩,
    ⟨some 16, .pick (.t 7) (.c (.v (.bool true))) (.t 15), none⟩,
    ⟨some 17, .mov (.t 16), none⟩,
    ⟨some 18, .faddr 0 (.t 1), some (17, false)⟩,
    ⟨some 19, .load 1 false (.t 18), some (17, false)⟩,
    ⟨some 20, .len false (.t 19), some (17, false)⟩,
    ⟨some 21, .bin .mul false (.c (.v (.int .i64 8))) (.t 20), some (17, false)⟩,
    ⟨some 22, .faddr 1 (.t 1), some (17, false)⟩,
    ⟨some 23, .load 1 false (.t 22), some (17, false)⟩,
    ⟨some 24, .bin .lss false (.t 21) (.t 23), some (17, false)⟩,
    ⟨some 25, .pick (.t 17) (.c (.v (.bool true))) (.t 24), none⟩,
    ⟨some 26, .mov (.t 25), none⟩,
    ⟨some 27, .faddr 0 (.t 1), some (26, false)⟩,
    ⟨some 28, .load 1 false (.t 27), some (26, false)⟩,
    ⟨some 29, .len false (.t 28), some (26, false)⟩,
    ⟨some 30, .bin .mul false (.c (.v (.int .i64 8))) (.t 29), some (26, false)⟩,
    ⟨some 31, .faddr 1 (.t 1), some (26, false)⟩,
    ⟨some 32, .load 1 false (.t 31), some (26, false)⟩,
    ⟨some 33, .bin .add false (.t 32) (.c (.v (.int .i64 8))), some (26, false)⟩,
    ⟨some 34, .bin .geq false (.t 30) (.t 33), some (26, false)⟩,
    ⟨some 35, .pick (.t 26) (.c (.v (.bool true))) (.t 34), none⟩])
  (.cond (.t 35)
    (.seq (.ops [⟨some 2, .mov (.c (.v (.bool false))), none⟩])
    .ret)
    .skip))
  (.seq (.seq (.ops [⟨some 36, .faddr 1 (.t 1), none⟩,
    ⟨some 37, .load 1 false (.t 36), none⟩,
    ⟨some 3, .mov (.t 37), none⟩])
  (.block 0 (.loop
    (.seq (.seq (.ops [⟨some 38, .mov (.t 3), none⟩,
      ⟨some 39, .faddr 0 (.t 1), none⟩,
      ⟨some 40, .load 1 false (.t 39), none⟩,
      ⟨some 41, .len false (.t 40), none⟩,
      ⟨some 42, .bin .mul false (.c (.v (.int .i64 8))) (.t 41), none⟩,
      ⟨some 43, .bin .lss false (.t 38) (.t 42), none⟩])
    (.cond (.t 43)
      .skip
      (.exit 0)))
    (.seq (.block 1 (.seq (.ops [⟨some 46, .load 2 true (.t 1), none⟩,
      ⟨some 47, .mov (.t 3), none⟩,
      ⟨some 48, .call 24 [(.t 46), (.t 47)], none⟩,
      ⟨some 49, .bin .eql false (.t 48) (.c (.v (.int .i64 1))), none⟩])
    (.cond (.t 49)
      (.seq (.ops [⟨some 2, .mov (.c (.v (.bool false))), none⟩])
      .ret)
      .skip)))
    (.ops [⟨some 44, .mov (.t 3), none⟩,
      ⟨some 45, .bin .add false (.t 44) (.c (.v (.int .i64 1))), none⟩,
      ⟨some 3, .mov (.t 45), none⟩]))))))
  (.seq (.ops [⟨some 2, .mov (.c (.v (.bool true))), none⟩])
  .ret))))⟩ := by kernel_rfl

theorem ir13 : compF Try.prog 13 = some ⟨39, [.t 2],
  (.seq (.ops [⟨some 1, .box (.t 0), none⟩,
    ⟨some 2, .mov (.c (.v (.bool false))), none⟩])
  (.seq (.seq (.ops [⟨some 3, .faddr 1 (.t 1), none⟩,
    ⟨some 4, .load 1 false (.t 3), none⟩,
    ⟨some 5, .bin .lss false (.t 4) (.c (.v (.int .i64 0))), none⟩,
    ⟨some 6, .mov (.t 5), none⟩,
    ⟨some 7, .faddr 0 (.t 1), some (6, false)⟩,
    ⟨some 8, .load 1 false (.t 7), some (6, false)⟩,
    ⟨some 9, .len false (.t 8), some (6, false)⟩,
    ⟨some 10, .faddr 1 (.t 1), some (6, false)⟩,
    ⟨some 11, .load 1 false (.t 10), some (6, false)⟩,
    ⟨some 12, .bin .quo false (.t 11) (.c (.v (.int .i64 8))), some (6, false)⟩,
    ⟨some 13, .faddr 1 (.t 1), some (6, false)⟩,
    ⟨some 14, .load 1 false (.t 13), some (6, false)⟩,
    ⟨some 15, .bin .rem false (.t 14) (.c (.v (.int .i64 8))), some (6, false)⟩,
    ⟨some 16, .mm false (.t 15) [(.c (.v (.int .i64 1)))], some (6, false)⟩,
    ⟨some 17, .bin .add false (.t 12) (.t 16), some (6, false)⟩,
    ⟨some 18, .bin .neq false (.t 9) (.t 17), some (6, false)⟩,
    ⟨some 19, .pick (.t 6) (.c (.v (.bool true))) (.t 18), none⟩])
  (.cond (.t 19)
    (.seq (.ops [⟨some 2, .mov (.c (.v (.bool false))), none⟩])
    .ret)
    .skip))
  (.seq (.draw [[⟨some 20, .faddr 1 (.t 1), none⟩],
    [⟨some 21, .load 1 false (.t 20), none⟩],
    [⟨some 22, .bin .rem false (.t 21) (.c (.v (.int .i64 8))), none⟩],
    [⟨some 23, .bin .eql false (.t 22) (.c (.v (.int .i64 0))), none⟩],
    [⟨some 24, .mov (.t 23), none⟩],
    [⟨some 25, .faddr 0 (.t 1), some (24, false)⟩,
      ⟨some 26, .load 1 false (.t 25), some (24, false)⟩,
      ⟨some 27, .faddr 0 (.t 1), some (24, false)⟩,
      ⟨some 28, .load 1 false (.t 27), some (24, false)⟩,
      ⟨some 29, .len false (.t 28), some (24, false)⟩,
      ⟨some 30, .bin .sub false (.t 29) (.c (.v (.int .i64 1))), some (24, false)⟩,
      ⟨some 31, .iaddr 1 (.t 26) (.t 30), some (24, false)⟩,
      ⟨some 32, .load 1 false (.t 31), some (24, false)⟩,
      ⟨some 33, .faddr 1 (.t 1), some (24, false)⟩,
      ⟨some 34, .load 1 false (.t 33), some (24, false)⟩,
      ⟨some 35, .bin .rem false (.t 34) (.c (.v (.int .i64 8))), some (24, false)⟩],
    [⟨some 36, .bin .shl false (.t 32) (.t 35), some (24, false)⟩],
    [⟨some 37, .bin .eql false (.t 36) (.c (.v (.int .u8 0))), some (24, false)⟩],
    [⟨some 38, .pick (.t 24) (.c (.v (.bool true))) (.t 37), none⟩],
    [⟨some 2, .mov (.t 38), none⟩]])
  .ret)))⟩ := by kernel_rfl

theorem ir14 : compF Try.prog 14 = some ⟨17, [.t 4],
  (.seq (.ops [⟨some 2, .box (.t 0), none⟩,
    ⟨some 3, .box (.t 1), none⟩,
    ⟨some 4, .mov (.c (.v (.bool false))), none⟩])
  (.seq (.ops [⟨some 5, .faddr 1 (.t 2), none⟩,
    ⟨some 6, .load 1 false (.t 5), none⟩,
    ⟨some 7, .faddr 1 (.t 3), none⟩,
    ⟨some 8, .load 1 false (.t 7), none⟩,
    ⟨some 9, .bin .eql false (.t 6) (.t 8), none⟩,
    ⟨some 10, .mov (.t 9), none⟩,
    ⟨some 11, .faddr 0 (.t 2), some (10, true)⟩,
    ⟨some 12, .load 1 false (.t 11), some (10, true)⟩,
    ⟨some 13, .faddr 0 (.t 3), some (10, true)⟩,
    ⟨some 14, .load 1 false (.t 13), some (10, true)⟩,
    ⟨some 15, .call 25 [(.t 12), (.t 14)], some (10, true)⟩,
    ⟨some 16, .pick (.t 10) (.t 15) (.c (.v (.bool false))), none⟩,
    ⟨some 4, .mov (.t 16), none⟩])
  .ret))⟩ := by kernel_rfl

theorem ir15 : compF Try.prog 15 = some ⟨19, [.t 4],
  (.seq (.ops [⟨some 2, .box (.t 0), none⟩,
    ⟨some 3, .box (.t 1), none⟩,
    ⟨some 4, .mov (.c (.v (.bool false))), none⟩])
  (.seq (.ops [⟨some 5, .faddr 1 (.t 2), none⟩,
    ⟨some 6, .load 1 false (.t 5), none⟩,
    ⟨some 7, .faddr 1 (.t 3), none⟩,
    ⟨some 8, .load 1 false (.t 7), none⟩,
    ⟨some 9, .bin .eql false (.t 6) (.t 8), none⟩,
    ⟨some 10, .mov (.t 9), none⟩,
    ⟨some 11, .faddr 0 (.t 2), some (10, true)⟩,
    ⟨some 12, .load 1 false (.t 11), some (10, true)⟩,
    ⟨some 13, .b2s (.t 12), some (10, true)⟩,
    ⟨some 14, .faddr 0 (.t 3), some (10, true)⟩,
    ⟨some 15, .load 1 false (.t 14), some (10, true)⟩,
    ⟨some 16, .b2s (.t 15), some (10, true)⟩,
    ⟨some 17, .bin .eql false (.t 13) (.t 16), some (10, true)⟩,
    ⟨some 18, .pick (.t 10) (.t 17) (.c (.v (.bool false))), none⟩,
    ⟨some 4, .mov (.t 18), none⟩])
  .ret))⟩ := by kernel_rfl

theorem ir16 : compF Try.prog 16 = some ⟨11, [.t 2],
  (.seq (.ops [⟨some 2, .mov (.c (.v (.int .i64 0))), none⟩])
  (.seq (.ops [⟨some 3, .mov (.c (.v (.int .i64 0))), none⟩])
  (.seq (.block 0 (.loop
    (.seq (.seq (.ops [⟨some 4, .mov (.t 0), none⟩,
      ⟨some 5, .bin .gtr false (.t 4) (.c (.v (.int .u64 0))), none⟩])
    (.cond (.t 5)
      .skip
      (.exit 0)))
    (.seq (.block 1 (.ops [⟨some 8, .mov (.t 3), none⟩,
      ⟨some 9, .bin .add false (.t 8) (.c (.v (.int .i64 1))), none⟩,
      ⟨some 3, .mov (.t 9), none⟩]))
    (.ops [⟨some 6, .mov (.t 0), none⟩,
      ⟨some 7, .bin .shr false (.t 6) (.c (.v (.int .u64 1))), none⟩,
      ⟨some 0, .mov (.t 7), none⟩])))))
  (.seq (.ops [⟨some 10, .mov (.t 3), none⟩,
    ⟨some 2, .mov (.t 10), none⟩])
  .ret))))⟩ := by kernel_rfl

theorem ir17 : compF Try.prog 17 = some ⟨11, [.t 2],
  (.seq (.ops [⟨some 2, .mov (.c (.v (.int .i64 0))), none⟩])
  (.seq (.ops [⟨some 3, .mov (.c (.v (.int .i64 0))), none⟩])
  (.seq (.block 0 (.loop
    (.seq (.seq (.ops [⟨some 4, .mov (.t 0), none⟩,
      ⟨some 5, .bin .gtr false (.t 4) (.c (.v (.int .u64 0))), none⟩])
    (.cond (.t 5)
      .skip
      (.exit 0)))
    (.block 1 (.seq (.ops [⟨some 6, .mov (.t 0), none⟩,
      ⟨some 7, .bin .quo false (.t 6) (.c (.v (.int .u64 2))), none⟩,
      ⟨some 0, .mov (.t 7), none⟩])
    (.ops [⟨some 8, .mov (.t 3), none⟩,
      ⟨some 9, .bin .add false (.t 8) (.c (.v (.int .i64 1))), none⟩,
      ⟨some 3, .mov (.t 9), none⟩]))))))
  (.seq (.ops [⟨some 10, .mov (.t 3), none⟩,
    ⟨some 2, .mov (.t 10), none⟩])
  .ret))))⟩ := by kernel_rfl

theorem ir18 : compF Try.prog 18 = some ⟨44, [.c 6 2 true, .t 7],
  (.seq (.ops [⟨some 3, .box (.t 0), none⟩,
    ⟨some 6, .alloc (.agg [(.v (.slice none 0 0)), (.v (.int .i64 0))]), none⟩,
    ⟨some 7, .mov (.c (.v (.int .i64 0))), none⟩])
  (.seq (.seq (.ops [⟨some 10, .mov (.t 2), none⟩,
    ⟨some 11, .bin .lss false (.t 10) (.c (.v (.int .i64 0))), none⟩,
    ⟨some 12, .mov (.t 11), none⟩,
    ⟨some 13, .mov (.t 2), some (12, false)⟩,
    ⟨some 14, .bin .gtr false (.t 13) (.c (.v (.int .i64 64))), some (12, false)⟩,
    ⟨some 15, .pick (.t 12) (.c (.v (.bool true))) (.t 14), none⟩])
  (.cond (.t 15)
    (.seq (.ops [⟨some 16, .load 2 true (.t 3), none⟩,
      ⟨none, .store 2 (.t 6) (.t 16), none⟩,
      ⟨some 7, .mov (.c (.v (.int .i64 1))), none⟩])
    .ret)
    .skip))
  (.seq (.seq (.ops [⟨some 17, .mov (.t 1), none⟩,
    ⟨some 18, .call 16 [(.t 17)], none⟩,
    ⟨some 19, .mov (.t 2), none⟩,
    ⟨some 20, .bin .gtr false (.t 18) (.t 19), none⟩])
  (.cond (.t 20)
    (.seq (.ops [⟨some 21, .load 2 true (.t 3), none⟩,
      ⟨none, .store 2 (.t 6) (.t 21), none⟩,
      ⟨some 7, .mov (.c (.v (.int .i64 5))), none⟩])
    .ret)
    .skip))
  (.seq (.ops [⟨some 22, .load 2 true (.t 3), none⟩,
    ⟨some 23, .call 26 [(.t 22)], none⟩,
    ⟨some 8, .mov (.t 23), none⟩])
  (.seq (.seq (.ops [⟨some 24, .mov (.t 2), none⟩,
    ⟨some 25, .bin .sub false (.t 24) (.c (.v (.int .i64 1))), none⟩,
    ⟨some 9, .mov (.t 25), none⟩])
  (.block 0 (.loop
    (.seq (.seq (.ops [⟨some 26, .mov (.t 9), none⟩,
      ⟨some 27, .bin .geq false (.t 26) (.c (.v (.int .i64 0))), none⟩])
    (.cond (.t 27)
      .skip
      (.exit 0)))
    (.seq (.block 1 (.draw [[⟨some 30, .mov (.t 8), none⟩,
        ⟨some 31, .nilchk (.t 30), none⟩,
        ⟨some 32, .faddr 0 (.t 31), none⟩,
        ⟨some 33, .mov (.t 1), none⟩,
        ⟨some 34, .mov (.t 9), none⟩,
        ⟨some 35, .bin .shr false (.t 33) (.t 34), none⟩,
        ⟨some 36, .bin .and false (.t 35) (.c (.v (.int .u64 1))), none⟩,
        ⟨some 37, .bin .eql false (.t 36) (.c (.v (.int .u64 1))), none⟩],
      [⟨some 38, .call 27 [(.t 32), (.t 37)], none⟩]]))
    (.ops [⟨some 28, .mov (.t 9), none⟩,
      ⟨some 29, .bin .sub false (.t 28) (.c (.v (.int .i64 1))), none⟩,
      ⟨some 9, .mov (.t 29), none⟩]))))))
  (.seq (.ops [⟨some 39, .mov (.t 8), none⟩,
    ⟨some 40, .nilchk (.t 39), none⟩,
    ⟨some 41, .faddr 0 (.t 40), none⟩,
    ⟨some 42, .faddr 0 (.t 41), none⟩,
    ⟨some 43, .load 2 true (.t 42), none⟩,
    ⟨none, .store 2 (.t 6) (.t 43), none⟩,
    ⟨some 7, .mov (.c (.v (.int .i64 0))), none⟩])
  .ret))))))⟩ := by kernel_rfl

theorem ir19 : compF Try.prog 19 = some ⟨43, [.c 6 2 true, .t 7],
  (.seq (.ops [⟨some 3, .box (.t 0), none⟩,
    ⟨some 6, .alloc (.agg [(.v (.slice none 0 0)), (.v (.int .i64 0))]), none⟩,
    ⟨some 7, .mov (.c (.v (.int .i64 0))), none⟩])
  (.seq (.seq (.ops [⟨some 10, .mov (.t 2), none⟩,
    ⟨some 11, .bin .lss false (.t 10) (.c (.v (.int .i64 0))), none⟩,
    ⟨some 12, .mov (.t 11), none⟩,
    ⟨some 13, .mov (.t 2), some (12, false)⟩,
    ⟨some 14, .bin .gtr false (.t 13) (.c (.v (.int .i64 64))), some (12, false)⟩,
    ⟨some 15, .pick (.t 12) (.c (.v (.bool true))) (.t 14), none⟩])
  (.cond (.t 15)
    (.seq (.ops [⟨some 16, .load 2 true (.t 3), none⟩,
      ⟨none, .store 2 (.t 6) (.t 16), none⟩,
      ⟨some 7, .mov (.c (.v (.int .i64 1))), none⟩])
    .ret)
    .skip))
  (.seq (.seq (.ops [⟨some 17, .mov (.t 1), none⟩,
    ⟨some 18, .call 17 [(.t 17)], none⟩,
    ⟨some 19, .mov (.t 2), none⟩,
    ⟨some 20, .bin .gtr false (.t 18) (.t 19), none⟩])
  (.cond (.t 20)
    (.seq (.ops [⟨some 21, .load 2 true (.t 3), none⟩,
      ⟨none, .store 2 (.t 6) (.t 21), none⟩,
      ⟨some 7, .mov (.c (.v (.int .i64 5))), none⟩])
    .ret)
    .skip))
  (.seq (.ops [⟨some 22, .mov (.t 2), none⟩,
    ⟨some 23, .mksl 1 8 [(.v (.int .i64 0))] (.t 22) (.t 22), none⟩,
    ⟨some 8, .mov (.t 23), none⟩])
  (.seq (.seq (.ops [⟨some 24, .mov (.t 2), none⟩,
    ⟨some 25, .bin .sub false (.t 24) (.c (.v (.int .i64 1))), none⟩,
    ⟨some 9, .mov (.t 25), none⟩])
  (.block 0 (.loop
    (.seq (.seq (.ops [⟨some 26, .mov (.t 9), none⟩,
      ⟨some 27, .bin .geq false (.t 26) (.c (.v (.int .i64 0))), none⟩])
    (.cond (.t 27)
      .skip
      (.exit 0)))
    (.seq (.block 1 (.seq (.ops [⟨some 30, .mov (.t 8), none⟩,
      ⟨some 31, .mov (.t 9), none⟩,
      ⟨some 32, .mov (.t 1), none⟩,
      ⟨some 33, .bin .rem false (.t 32) (.c (.v (.int .u64 2))), none⟩,
      ⟨some 34, .conv .i64 (.t 33), none⟩,
      ⟨some 35, .iaddr 1 (.t 30) (.t 31), none⟩,
      ⟨none, .store 1 (.t 35) (.t 34), none⟩])
    (.ops [⟨some 36, .mov (.t 1), none⟩,
      ⟨some 37, .bin .quo false (.t 36) (.c (.v (.int .u64 2))), none⟩,
      ⟨some 1, .mov (.t 37), none⟩])))
    (.ops [⟨some 28, .mov (.t 9), none⟩,
      ⟨some 29, .bin .sub false (.t 28) (.c (.v (.int .i64 1))), none⟩,
      ⟨some 9, .mov (.t 29), none⟩]))))))
  (.seq (.ops [⟨some 38, .load 2 true (.t 3), none⟩,
    ⟨some 39, .call 29 [(.t 38)], none⟩,
    ⟨some 40, .mov (.t 8), none⟩,
    ⟨some 41, .append 1 8 [(.v (.int .i64 0))] (.t 39) (.t 40), none⟩,
    ⟨some 42, .call 28 [(.t 41)], none⟩,
    ⟨none, .store 2 (.t 6) (.t 42), none⟩,
    ⟨some 7, .mov (.c (.v (.int .i64 0))), none⟩])
  .ret))))))⟩ := by kernel_rfl

theorem ir20 : compF Try.prog 20 = some ⟨37, [.t 6, .t 7],
  (.seq (.ops [⟨some 3, .box (.t 0), none⟩,
    ⟨some 6, .mov (.c (.v (.int .u64 0))), none⟩,
    ⟨some 7, .mov (.c (.v (.int .i64 0))), none⟩])
  (.seq (.seq (.ops [⟨some 10, .mov (.t 2), none⟩,
    ⟨some 11, .bin .lss false (.t 10) (.c (.v (.int .i64 0))), none⟩,
    ⟨some 12, .mov (.t 11), none⟩,
    ⟨some 13, .mov (.t 2), some (12, false)⟩,
    ⟨some 14, .bin .gtr false (.t 13) (.c (.v (.int .i64 64))), some (12, false)⟩,
    ⟨some 15, .pick (.t 12) (.c (.v (.bool true))) (.t 14), none⟩])
  (.cond (.t 15)
    (.seq (.ops [⟨some 6, .mov (.c (.v (.int .u64 0))), none⟩,
      ⟨some 7, .mov (.c (.v (.int .i64 1))), none⟩])
    .ret)
    .skip))
  (.seq (.seq (.ops [⟨some 16, .mov (.t 1), none⟩,
    ⟨some 17, .bin .lss false (.t 16) (.c (.v (.int .i64 0))), none⟩,
    ⟨some 18, .mov (.t 17), none⟩,
    ⟨some 19, .mov (.t 2), some (18, false)⟩,
    ⟨some 20, .faddr 1 (.t 3), some (18, false)⟩,
    ⟨some 21, .load 1 false (.t 20), some (18, false)⟩,
    ⟨some 22, .mov (.t 1), some (18, false)⟩,
    ⟨some 23, .bin .sub false (.t 21) (.t 22), some (18, false)⟩,
    ⟨some 24, .bin .gtr false (.t 19) (.t 23), some (18, false)⟩,
    ⟨some 25, .pick (.t 18) (.c (.v (.bool true))) (.t 24), none⟩])
  (.cond (.t 25)
    (.seq (.ops [⟨some 6, .mov (.c (.v (.int .u64 0))), none⟩,
      ⟨some 7, .mov (.c (.v (.int .i64 10))), none⟩])
    .ret)
    .skip))
  (.seq (.ops [⟨some 8, .alloc (.v (.int .u64 0)), none⟩,
    ⟨none, .store 1 (.t 8) (.c (.v (.int .u64 0))), none⟩])
  (.seq (.seq (.ops [⟨some 26, .load 2 true (.t 3), none⟩,
    ⟨some 27, .mov (.t 1), none⟩,
    ⟨some 28, .mov (.t 2), none⟩,
    ⟨some 29, .call 30 [(.t 26), (.t 27), (.t 28)], none⟩])
  (.block 0 (.range (.t 29) [8] (rcAt Try.prog 20 0))))
  (.seq (.ops [⟨some 36, .load 1 false (.t 8), none⟩,
    ⟨some 6, .mov (.t 36), none⟩,
    ⟨some 7, .mov (.c (.v (.int .i64 0))), none⟩])
  .ret))))))⟩ := by kernel_rfl

theorem rc20 : RcOK (fun _ => false) Try.prog 37 (rcAt Try.prog 20 0) [30]
  (.ops [⟨some 9, .mov (.t 30), none⟩])
  (.block 1 (.seq (.ops [⟨some 31, .load 1 false (.t 8), none⟩,
    ⟨some 32, .bin .shl false (.t 31) (.c (.v (.int .u64 1))), none⟩,
    ⟨none, .store 1 (.t 8) (.t 32), none⟩])
  (.seq (.ops [⟨some 33, .mov (.t 9), none⟩])
  (.cond (.t 33)
    (.ops [⟨some 34, .load 1 false (.t 8), none⟩,
      ⟨some 35, .bin .or false (.t 34) (.c (.v (.int .u64 1))), none⟩,
      ⟨none, .store 1 (.t 8) (.t 35), none⟩])
    .skip)))) := ⟨by kernel_rfl, by kernel_rfl, by kernel_rfl, by kernel_rfl, by kernel_rfl, by kernel_rfl, by kernel_rfl⟩

theorem ir21 : compF Try.prog 21 = some ⟨48, [.t 6, .t 7],
  (.seq (.ops [⟨some 3, .box (.t 0), none⟩,
    ⟨some 6, .mov (.c (.v (.int .u64 0))), none⟩,
    ⟨some 7, .mov (.c (.v (.int .i64 0))), none⟩])
  (.seq (.seq (.ops [⟨some 10, .mov (.t 2), none⟩,
    ⟨some 11, .bin .lss false (.t 10) (.c (.v (.int .i64 0))), none⟩,
    ⟨some 12, .mov (.t 11), none⟩,
    ⟨some 13, .mov (.t 2), some (12, false)⟩,
    ⟨some 14, .bin .gtr false (.t 13) (.c (.v (.int .i64 64))), some (12, false)⟩,
    ⟨some 15, .pick (.t 12) (.c (.v (.bool true))) (.t 14), none⟩])
  (.cond (.t 15)
    (.seq (.ops [⟨some 6, .mov (.c (.v (.int .u64 0))), none⟩,
      ⟨some 7, .mov (.c (.v (.int .i64 1))), none⟩])
    .ret)
    .skip))
  (.seq (.seq (.ops [⟨some 16, .mov (.t 1), none⟩,
    ⟨some 17, .bin .lss false (.t 16) (.c (.v (.int .i64 0))), none⟩,
    ⟨some 18, .mov (.t 17), none⟩,
    ⟨some 19, .mov (.t 1), some (18, false)⟩,
    ⟨some 20, .faddr 1 (.t 3), some (18, false)⟩,
    ⟨some 21, .load 1 false (.t 20), some (18, false)⟩,
    ⟨some 22, .bin .gtr false (.t 19) (.t 21), some (18, false)⟩,
    ⟨some 23, .pick (.t 18) (.c (.v (.bool true))) (.t 22), none⟩,
    ⟨some 24, .mov (.t 23), none⟩,
    ⟨some 25, .faddr 1 (.t 3), some (24, false)⟩,
    ⟨some 26, .load 1 false (.t 25), some (24, false)⟩,
    ⟨some 27, .mov (.t 1), some (24, false)⟩,
    ⟨some 28, .bin .sub false (.t 26) (.t 27), some (24, false)⟩,
    ⟨some 29, .mov (.t 2), some (24, false)⟩,
    ⟨some 30, .bin .lss false (.t 28) (.t 29), some (24, false)⟩,
    ⟨some 31, .pick (.t 24) (.c (.v (.bool true))) (.t 30), none⟩])
  (.cond (.t 31)
    (.seq (.ops [⟨some 6, .mov (.c (.v (.int .u64 0))), none⟩,
      ⟨some 7, .mov (.c (.v (.int .i64 10))), none⟩])
    .ret)
    .skip))
  (.seq (.ops [⟨some 8, .mov (.c (.v (.int .u64 0))), none⟩])
  (.seq (.seq (.ops [⟨some 32, .mov (.t 1), none⟩,
    ⟨some 9, .mov (.t 32), none⟩])
  (.block 0 (.loop
    (.seq (.seq (.ops [⟨some 33, .mov (.t 9), none⟩,
      ⟨some 34, .mov (.t 1), none⟩,
      ⟨some 35, .mov (.t 2), none⟩,
      ⟨some 36, .bin .add false (.t 34) (.t 35), none⟩,
      ⟨some 37, .bin .lss false (.t 33) (.t 36), none⟩])
    (.cond (.t 37)
      .skip
      (.exit 0)))
    (.seq (.block 1 (.ops [⟨some 40, .mov (.t 8), none⟩,
      ⟨some 41, .bin .mul false (.c (.v (.int .u64 2))) (.t 40), none⟩,
      ⟨some 42, .load 2 true (.t 3), none⟩,
      ⟨some 43, .mov (.t 9), none⟩,
      ⟨some 44, .call 24 [(.t 42), (.t 43)], none⟩,
      ⟨some 45, .conv .u64 (.t 44), none⟩,
      ⟨some 46, .bin .add false (.t 41) (.t 45), none⟩,
      ⟨some 8, .mov (.t 46), none⟩]))
    (.ops [⟨some 38, .mov (.t 9), none⟩,
      ⟨some 39, .bin .add false (.t 38) (.c (.v (.int .i64 1))), none⟩,
      ⟨some 9, .mov (.t 39), none⟩]))))))
  (.seq (.ops [⟨some 47, .mov (.t 8), none⟩,
    ⟨some 6, .mov (.t 47), none⟩,
    ⟨some 7, .mov (.c (.v (.int .i64 0))), none⟩])
  .ret))))))⟩ := by kernel_rfl

theorem ir22 : compF Try.prog 22 = some ⟨24, [.c 4 2 true],
  (.seq (.ops [⟨some 2, .box (.t 0), none⟩,
    ⟨some 3, .box (.t 1), none⟩,
    ⟨some 4, .alloc (.agg [(.v (.slice none 0 0)), (.v (.int .i64 0))]), none⟩])
  (.seq (.ops [⟨some 7, .load 2 true (.t 2), none⟩,
    ⟨some 8, .call 26 [(.t 7)], none⟩,
    ⟨some 5, .alloc (.v (.pointer none)), none⟩,
    ⟨none, .store 1 (.t 5) (.t 8), none⟩])
  (.seq (.seq (.ops [⟨some 9, .load 2 true (.t 3), none⟩,
    ⟨some 10, .faddr 1 (.t 3), none⟩,
    ⟨some 11, .load 1 false (.t 10), none⟩,
    ⟨some 12, .call 30 [(.t 9), (.c (.v (.int .i64 0))), (.t 11)], none⟩])
  (.block 0 (.range (.t 12) [5] (rcAt Try.prog 22 0))))
  (.seq (.ops [⟨some 19, .load 1 false (.t 5), none⟩,
    ⟨some 20, .nilchk (.t 19), none⟩,
    ⟨some 21, .faddr 0 (.t 20), none⟩,
    ⟨some 22, .faddr 0 (.t 21), none⟩,
    ⟨some 23, .load 2 true (.t 22), none⟩,
    ⟨none, .store 2 (.t 4) (.t 23), none⟩])
  .ret))))⟩ := by kernel_rfl

theorem rc22 : RcOK (fun _ => false) Try.prog 24 (rcAt Try.prog 22 0) [13]
  (.ops [⟨some 6, .mov (.t 13), none⟩])
  (.block 1 (.ops [⟨some 14, .load 1 false (.t 5), none⟩,
    ⟨some 15, .nilchk (.t 14), none⟩,
    ⟨some 16, .faddr 0 (.t 15), none⟩,
    ⟨some 17, .mov (.t 6), none⟩,
    ⟨some 18, .call 27 [(.t 16), (.t 17)], none⟩])) := ⟨by kernel_rfl, by kernel_rfl, by kernel_rfl, by kernel_rfl, by kernel_rfl, by kernel_rfl, by kernel_rfl⟩

theorem ir23 : compF Try.prog 23 = some ⟨11, [.c 4 2 true],
  (.seq (.ops [⟨some 2, .box (.t 0), none⟩,
    ⟨some 3, .box (.t 1), none⟩,
    ⟨some 4, .alloc (.agg [(.v (.slice none 0 0)), (.v (.int .i64 0))]), none⟩])
  (.seq (.draw [[⟨some 5, .load 2 true (.t 2), none⟩,
      ⟨some 6, .call 29 [(.t 5)], none⟩,
      ⟨some 7, .load 2 true (.t 3), none⟩],
    [⟨some 8, .call 29 [(.t 7)], none⟩],
    [⟨some 9, .append 1 8 [(.v (.int .i64 0))] (.t 6) (.t 8), none⟩],
    [⟨some 10, .call 28 [(.t 9)], none⟩],
    [⟨none, .store 2 (.t 4) (.t 10), none⟩]])
  .ret))⟩ := by kernel_rfl

theorem ir24 : compF Try.prog 24 = some ⟨25, [.t 4],
  (.seq (.ops [⟨some 2, .box (.t 0), none⟩,
    ⟨some 4, .mov (.c (.v (.int .i64 0))), none⟩])
  (.seq (.ops [⟨some 7, .faddr 0 (.t 2), none⟩,
    ⟨some 8, .load 1 false (.t 7), none⟩,
    ⟨some 9, .mov (.t 1), none⟩,
    ⟨some 10, .bin .quo false (.t 9) (.c (.v (.int .i64 8))), none⟩,
    ⟨some 11, .iaddr 1 (.t 8) (.t 10), none⟩,
    ⟨some 12, .load 1 false (.t 11), none⟩,
    ⟨some 13, .conv .i64 (.t 12), none⟩,
    ⟨some 5, .mov (.t 13), none⟩])
  (.seq (.seq (.ops [⟨some 6, .mov (.c (.v (.int .i64 0))), none⟩])
  (.block 0 (.loop
    (.seq (.seq (.ops [⟨some 14, .mov (.t 6), none⟩,
      ⟨some 15, .mov (.t 1), none⟩,
      ⟨some 16, .bin .rem false (.t 15) (.c (.v (.int .i64 8))), none⟩,
      ⟨some 17, .bin .sub false (.c (.v (.int .i64 7))) (.t 16), none⟩,
      ⟨some 18, .bin .lss false (.t 14) (.t 17), none⟩])
    (.cond (.t 18)
      .skip
      (.exit 0)))
    (.seq (.block 1 (.ops [⟨some 21, .mov (.t 5), none⟩,
      ⟨some 22, .bin .quo false (.t 21) (.c (.v (.int .i64 2))), none⟩,
      ⟨some 5, .mov (.t 22), none⟩]))
    (.ops [⟨some 19, .mov (.t 6), none⟩,
      ⟨some 20, .bin .add false (.t 19) (.c (.v (.int .i64 1))), none⟩,
      ⟨some 6, .mov (.t 20), none⟩]))))))
  (.seq (.ops [⟨some 23, .mov (.t 5), none⟩,
    ⟨some 24, .bin .rem false (.t 23) (.c (.v (.int .i64 2))), none⟩,
    ⟨some 4, .mov (.t 24), none⟩])
  .ret))))⟩ := by kernel_rfl

theorem ir25 : compF Try.prog 25 = some ⟨10, [.t 4],
  (.seq (.ops [⟨some 4, .mov (.c (.v (.bool false))), none⟩])
  (.seq (.ops [⟨some 5, .mov (.t 0), none⟩,
    ⟨some 6, .b2s (.t 5), none⟩,
    ⟨some 7, .mov (.t 1), none⟩,
    ⟨some 8, .b2s (.t 7), none⟩,
    ⟨some 9, .bin .eql false (.t 6) (.t 8), none⟩,
    ⟨some 4, .mov (.t 9), none⟩])
  .ret))⟩ := by kernel_rfl

theorem ir26 : compF Try.prog 26 = some ⟨12, [.t 2],
  (.seq (.ops [⟨some 1, .box (.t 0), none⟩,
    ⟨some 2, .mov (.c (.v (.pointer none))), none⟩])
  (.seq (.draw [[⟨some 3, .faddr 0 (.t 1), none⟩,
      ⟨some 4, .load 1 false (.t 3), none⟩,
      ⟨some 5, .call 31 [(.t 4)], none⟩,
      ⟨some 6, .faddr 1 (.t 1), none⟩,
      ⟨some 7, .load 1 false (.t 6), none⟩],
    [⟨some 8, .build [(.v (.slice none 0 0)), (.v (.int .i64 0))] [(0, 1, (.t 5)), (1, 1, (.t 7))], none⟩],
    [⟨some 9, .build [(.v (.slice none 0 0)), (.v (.int .i64 0))] [(0, 2, (.t 8))], none⟩],
    [⟨some 10, .build [(.v (.slice none 0 0)), (.v (.int .i64 0))] [(0, 2, (.t 9))], none⟩],
    [⟨some 11, .box (.t 10), none⟩],
    [⟨some 2, .mov (.t 11), none⟩]])
  .ret))⟩ := by kernel_rfl

theorem ir27 : compF Try.prog 27 = some ⟨54, [],
  (.seq (.seq (.ops [⟨some 4, .mov (.t 0), none⟩,
    ⟨some 5, .nilchk (.t 4), none⟩,
    ⟨some 6, .faddr 0 (.t 5), none⟩,
    ⟨some 7, .faddr 1 (.t 6), none⟩,
    ⟨some 8, .load 1 false (.t 7), none⟩,
    ⟨some 9, .bin .rem false (.t 8) (.c (.v (.int .i64 8))), none⟩,
    ⟨some 10, .bin .eql false (.t 9) (.c (.v (.int .i64 0))), none⟩])
  (.cond (.t 10)
    (.ops [⟨some 11, .mov (.t 0), none⟩,
      ⟨some 12, .mov (.t 0), none⟩,
      ⟨some 13, .nilchk (.t 12), none⟩,
      ⟨some 14, .faddr 0 (.t 13), none⟩,
      ⟨some 15, .faddr 0 (.t 14), none⟩,
      ⟨some 16, .load 1 false (.t 15), none⟩,
      ⟨some 17, .bslice 1 [(.v (.int .u8 0))] 1 [(0, 1, (.c (.v (.int .u8 0))))], none⟩,
      ⟨some 18, .append 1 1 [(.v (.int .u8 0))] (.t 16) (.t 17), none⟩,
      ⟨some 19, .nilchk (.t 11), none⟩,
      ⟨some 20, .faddr 0 (.t 19), none⟩,
      ⟨some 21, .faddr 0 (.t 20), none⟩,
      ⟨none, .store 1 (.t 21) (.t 18), none⟩])
    .skip))
  (.seq (.seq (.ops [⟨some 22, .mov (.t 1), none⟩])
  (.cond (.t 22)
    (.draw [[⟨some 23, .mov (.t 0), none⟩,
        ⟨some 24, .nilchk (.t 23), none⟩,
        ⟨some 25, .faddr 0 (.t 24), none⟩,
        ⟨some 26, .faddr 0 (.t 25), none⟩,
        ⟨some 27, .load 1 false (.t 26), none⟩,
        ⟨some 28, .mov (.t 0), none⟩,
        ⟨some 29, .nilchk (.t 28), none⟩,
        ⟨some 30, .faddr 0 (.t 29), none⟩,
        ⟨some 31, .faddr 1 (.t 30), none⟩,
        ⟨some 32, .load 1 false (.t 31), none⟩,
        ⟨some 33, .bin .quo false (.t 32) (.c (.v (.int .i64 8))), none⟩,
        ⟨some 34, .iaddr 1 (.t 27) (.t 33), none⟩,
        ⟨some 35, .load 1 false (.t 34), none⟩,
        ⟨some 36, .mov (.t 0), none⟩,
        ⟨some 37, .nilchk (.t 36), none⟩,
        ⟨some 38, .faddr 0 (.t 37), none⟩,
        ⟨some 39, .faddr 1 (.t 38), none⟩,
        ⟨some 40, .load 1 false (.t 39), none⟩,
        ⟨some 41, .bin .rem false (.t 40) (.c (.v (.int .i64 8))), none⟩,
        ⟨some 42, .bin .shr false (.c (.v (.int .u8 128))) (.t 41), none⟩],
      [⟨some 43, .bin .or false (.t 35) (.t 42), none⟩],
      [⟨some 44, .iaddr 1 (.t 27) (.t 33), none⟩],
      [⟨none, .store 1 (.t 44) (.t 43), none⟩]])
    .skip))
  (.ops [⟨some 45, .mov (.t 0), none⟩,
    ⟨some 46, .nilchk (.t 45), none⟩,
    ⟨some 47, .faddr 0 (.t 46), none⟩,
    ⟨some 48, .faddr 1 (.t 47), none⟩,
    ⟨some 49, .load 1 false (.t 48), none⟩,
    ⟨some 50, .bin .add false (.t 49) (.c (.v (.int .i64 1))), none⟩,
    ⟨some 51, .nilchk (.t 45), none⟩,
    ⟨some 52, .faddr 0 (.t 51), none⟩,
    ⟨some 53, .faddr 1 (.t 52), none⟩,
    ⟨none, .store 1 (.t 53) (.t 50), none⟩])))⟩ := by kernel_rfl

theorem ir28 : compF Try.prog 28 = some ⟨53, [.c 2 2 true],
  (.seq (.ops [⟨some 2, .alloc (.agg [(.v (.slice none 0 0)), (.v (.int .i64 0))]), none⟩])
  (.seq (.ops [⟨some 3, .alloc (.agg [(.v (.slice none 0 0)), (.v (.int .i64 0))]), none⟩])
  (.seq (.seq (.ops [⟨some 4, .mov (.c (.v (.int .i64 0))), none⟩])
  (.block 0 (.loop
    (.seq (.seq (.ops [⟨some 7, .mov (.t 4), none⟩,
      ⟨some 8, .mov (.t 0), none⟩,
      ⟨some 9, .len false (.t 8), none⟩,
      ⟨some 10, .bin .lss false (.t 7) (.t 9), none⟩])
    (.cond (.t 10)
      .skip
      (.exit 0)))
    (.seq (.block 1 (.seq (.seq (.ops [⟨some 13, .mov (.t 4), none⟩,
      ⟨some 14, .bin .rem false (.t 13) (.c (.v (.int .i64 8))), none⟩,
      ⟨some 15, .bin .eql false (.t 14) (.c (.v (.int .i64 0))), none⟩])
    (.cond (.t 15)
      (.ops [⟨some 16, .faddr 0 (.t 3), none⟩,
        ⟨some 17, .load 1 false (.t 16), none⟩,
        ⟨some 18, .bslice 1 [(.v (.int .u8 0))] 1 [(0, 1, (.c (.v (.int .u8 0))))], none⟩,
        ⟨some 19, .append 1 1 [(.v (.int .u8 0))] (.t 17) (.t 18), none⟩,
        ⟨some 20, .faddr 0 (.t 3), none⟩,
        ⟨none, .store 1 (.t 20) (.t 19), none⟩])
      .skip))
    (.seq (.ops [⟨some 5, .mov (.c (.v (.int .i64 1))), none⟩])
    (.seq (.seq (.ops [⟨some 6, .mov (.c (.v (.int .i64 0))), none⟩])
    (.block 2 (.loop
      (.seq (.seq (.ops [⟨some 21, .mov (.t 6), none⟩,
        ⟨some 22, .mov (.t 4), none⟩,
        ⟨some 23, .bin .rem false (.t 22) (.c (.v (.int .i64 8))), none⟩,
        ⟨some 24, .bin .sub false (.c (.v (.int .i64 7))) (.t 23), none⟩,
        ⟨some 25, .bin .lss false (.t 21) (.t 24), none⟩])
      (.cond (.t 25)
        .skip
        (.exit 2)))
      (.seq (.block 3 (.ops [⟨some 28, .mov (.t 5), none⟩,
        ⟨some 29, .bin .mul false (.c (.v (.int .i64 2))) (.t 28), none⟩,
        ⟨some 5, .mov (.t 29), none⟩]))
      (.ops [⟨some 26, .mov (.t 6), none⟩,
        ⟨some 27, .bin .add false (.t 26) (.c (.v (.int .i64 1))), none⟩,
        ⟨some 6, .mov (.t 27), none⟩]))))))
    (.draw [[⟨some 30, .faddr 0 (.t 3), none⟩,
        ⟨some 31, .load 1 false (.t 30), none⟩,
        ⟨some 32, .mov (.t 4), none⟩,
        ⟨some 33, .bin .quo false (.t 32) (.c (.v (.int .i64 8))), none⟩,
        ⟨some 34, .faddr 0 (.t 3), none⟩,
        ⟨some 35, .load 1 false (.t 34), none⟩,
        ⟨some 36, .mov (.t 4), none⟩,
        ⟨some 37, .bin .quo false (.t 36) (.c (.v (.int .i64 8))), none⟩,
        ⟨some 38, .iaddr 1 (.t 35) (.t 37), none⟩,
        ⟨some 39, .load 1 false (.t 38), none⟩,
        ⟨some 40, .mov (.t 0), none⟩,
        ⟨some 41, .mov (.t 4), none⟩,
        ⟨some 42, .iaddr 1 (.t 40) (.t 41), none⟩,
        ⟨some 43, .load 1 false (.t 42), none⟩,
        ⟨some 44, .mov (.t 5), none⟩,
        ⟨some 45, .bin .mul false (.t 43) (.t 44), none⟩,
        ⟨some 46, .conv .u8 (.t 45), none⟩,
        ⟨some 47, .bin .add false (.t 39) (.t 46), none⟩],
      [⟨some 48, .iaddr 1 (.t 31) (.t 33), none⟩],
      [⟨none, .store 1 (.t 48) (.t 47), none⟩]])))))
    (.ops [⟨some 11, .mov (.t 4), none⟩,
      ⟨some 12, .bin .add false (.t 11) (.c (.v (.int .i64 1))), none⟩,
      ⟨some 4, .mov (.t 12), none⟩]))))))
  (.seq (.ops [⟨some 49, .mov (.t 0), none⟩,
    ⟨some 50, .len false (.t 49), none⟩,
    ⟨some 51, .faddr 1 (.t 3), none⟩,
    ⟨none, .store 1 (.t 51) (.t 50), none⟩])
  (.seq (.ops [⟨some 52, .load 2 true (.t 3), none⟩,
    ⟨none, .store 2 (.t 2) (.t 52), none⟩])
  .ret)))))⟩ := by kernel_rfl

theorem ir29 : compF Try.prog 29 = some ⟨18, [.t 2],
  (.seq (.ops [⟨some 1, .box (.t 0), none⟩,
    ⟨some 2, .mov (.c (.v (.slice none 0 0))), none⟩])
  (.seq (.ops [⟨some 3, .mov (.c (.v (.slice none 0 0))), none⟩])
  (.seq (.seq (.ops [⟨some 4, .mov (.c (.v (.int .i64 0))), none⟩])
  (.block 0 (.loop
    (.seq (.seq (.ops [⟨some 5, .mov (.t 4), none⟩,
      ⟨some 6, .faddr 1 (.t 1), none⟩,
      ⟨some 7, .load 1 false (.t 6), none⟩,
      ⟨some 8, .bin .lss false (.t 5) (.t 7), none⟩])
    (.cond (.t 8)
      .skip
      (.exit 0)))
    (.seq (.block 1 (.ops [⟨some 11, .mov (.t 3), none⟩,
      ⟨some 12, .load 2 true (.t 1), none⟩,
      ⟨some 13, .mov (.t 4), none⟩,
      ⟨some 14, .call 24 [(.t 12), (.t 13)], none⟩,
      ⟨some 15, .bslice 1 [(.v (.int .i64 0))] 1 [(0, 1, (.t 14))], none⟩,
      ⟨some 16, .append 1 8 [(.v (.int .i64 0))] (.t 11) (.t 15), none⟩,
      ⟨some 3, .mov (.t 16), none⟩]))
    (.ops [⟨some 9, .mov (.t 4), none⟩,
      ⟨some 10, .bin .add false (.t 9) (.c (.v (.int .i64 1))), none⟩,
      ⟨some 4, .mov (.t 10), none⟩]))))))
  (.seq (.ops [⟨some 17, .mov (.t 3), none⟩,
    ⟨some 2, .mov (.t 17), none⟩])
  .ret))))⟩ := by kernel_rfl

theorem ir30 : compF Try.prog 30 = some ⟨8, [.t 6],
  (.seq (.ops [⟨some 3, .box (.t 0), none⟩,
    ⟨some 4, .box (.t 1), none⟩,
    ⟨some 5, .box (.t 2), none⟩,
    ⟨some 6, .mov (.c (.v .nilFunc)), none⟩])
  (.seq (.ops [⟨some 7, .mkfn (.func 32) [] [(.t 4), (.t 5), (.t 3)], none⟩,
    ⟨some 6, .mov (.t 7), none⟩])
  .ret))⟩ := by kernel_rfl

theorem ir31 : compF Try.prog 31 = some ⟨8, [.t 2],
  (.seq (.ops [⟨some 2, .mov (.c (.v (.slice none 0 0))), none⟩])
  (.seq (.seq (.ops [⟨some 3, .mov (.t 0), none⟩,
    ⟨some 4, .isnil false (.t 3), none⟩])
  (.cond (.t 4)
    (.seq (.ops [⟨some 2, .mov (.c (.v (.slice none 0 0))), none⟩])
    .ret)
    .skip))
  (.seq (.ops [⟨some 5, .bslice 1 [(.v (.int .u8 0))] 0 [], none⟩,
    ⟨some 6, .mov (.t 0), none⟩,
    ⟨some 7, .append 1 1 [(.v (.int .u8 0))] (.t 5) (.t 6), none⟩,
    ⟨some 2, .mov (.t 7), none⟩])
  .ret)))⟩ := by kernel_rfl

theorem ir32 : compF Try.prog 32 = some ⟨28, [],
  (.seq (.ops [⟨some 6, .load 1 false (.t 1), none⟩,
    ⟨some 5, .mov (.t 6), none⟩])
  (.block 0 (.loop
    (.seq (.seq (.ops [⟨some 7, .mov (.t 5), none⟩,
      ⟨some 8, .load 1 false (.t 1), none⟩,
      ⟨some 9, .load 1 false (.t 2), none⟩,
      ⟨some 10, .bin .add false (.t 8) (.t 9), none⟩,
      ⟨some 11, .bin .lss false (.t 7) (.t 10), none⟩])
    (.cond (.t 11)
      .skip
      (.exit 0)))
    (.seq (.block 1 (.seq (.draw [[⟨some 14, .mov (.t 0), none⟩,
        ⟨some 15, .faddr 0 (.t 3), none⟩,
        ⟨some 16, .load 1 false (.t 15), none⟩,
        ⟨some 17, .mov (.t 5), none⟩,
        ⟨some 18, .bin .quo false (.t 17) (.c (.v (.int .i64 8))), none⟩,
        ⟨some 19, .iaddr 1 (.t 16) (.t 18), none⟩,
        ⟨some 20, .load 1 false (.t 19), none⟩,
        ⟨some 21, .mov (.t 5), none⟩,
        ⟨some 22, .bin .rem false (.t 21) (.c (.v (.int .i64 8))), none⟩,
        ⟨some 23, .bin .shr false (.c (.v (.int .u8 128))) (.t 22), none⟩,
        ⟨some 24, .bin .and false (.t 20) (.t 23), none⟩,
        ⟨some 25, .bin .neq false (.t 24) (.c (.v (.int .u8 0))), none⟩],
      [⟨some 26, .calld (.t 14) [(.t 25)], none⟩],
      [⟨some 27, .un .not (.t 26), none⟩]])
    (.cond (.t 27)
      .ret
      .skip)))
    (.ops [⟨some 12, .mov (.t 5), none⟩,
      ⟨some 13, .bin .add false (.t 12) (.c (.v (.int .i64 1))), none⟩,
      ⟨some 5, .mov (.t 13), none⟩]))))))⟩ := by kernel_rfl

end Go.Proofs.Ytaochjhkgffipaa
