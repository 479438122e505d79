/- The functions of the program in the small language. -/
import Derived.Test.YtjdliinnbkfljaaLgR
import Derived.Test.YtjdliinnbkfljaaChecked
namespace Go.Proofs.Ytjdliinnbkfljaa
open Go Lg

theorem ir3 : compF Try.prog 3 = some ⟨33, [.t 2],
  (.seq (.ops [⟨some 1, .box (.t 0), none⟩,
    ⟨some 2, .mov (.c (.v (.bool false))), none⟩])
  (.seq (.ops [⟨some 4, .call 8 [], none⟩,
    ⟨some 3, .mov (.t 4), none⟩])
  (.seq (.seq (.ops [⟨some 5, .load 4 true (.t 1), none⟩,
    ⟨some 6, .call 9 [(.t 5), (.c (.v (.int .i64 20)))], none⟩,
    ⟨some 7, .un .not (.t 6), none⟩,
    ⟨some 8, .mov (.t 7), none⟩,
    ⟨some 9, .faddr 3 (.t 1), some (8, false)⟩,
    ⟨some 10, .load 1 false (.t 9), some (8, false)⟩,
    ⟨some 11, .len false (.t 10), some (8, false)⟩,
    ⟨some 12, .bin .gtr false (.t 11) (.c (.v (.int .i64 30))), some (8, false)⟩,
    ⟨some 13, .pick (.t 8) (.c (.v (.bool true))) (.t 12), none⟩,
    ⟨some 14, .mov (.t 13), none⟩,
    ⟨some 15, .load 4 true (.t 1), some (14, false)⟩,
    ⟨some 16, .call 10 [(.t 15), (.c (.v (.int .i64 1073741824)))], some (14, false)⟩,
    ⟨some 17, .un .not (.t 16), some (14, false)⟩,
    ⟨some 18, .pick (.t 14) (.c (.v (.bool true))) (.t 17), none⟩,
    ⟨some 19, .mov (.t 18), none⟩,
    ⟨some 20, .load 4 true (.t 1), some (19, false)⟩,
    ⟨some 21, .call 11 [(.t 20)], some (19, false)⟩,
    ⟨some 22, .un .not (.t 21), some (19, false)⟩,
    ⟨some 23, .pick (.t 19) (.c (.v (.bool true))) (.t 22), none⟩])
  (.cond (.t 23)
    (.seq (.ops [⟨some 24, .mov (.t 3), none⟩,
      ⟨some 2, .mov (.t 24), none⟩])
    .ret)
    .skip))
  (.seq (.draw [[⟨some 25, .mov (.t 3), none⟩],
    [⟨some 26, .mov (.t 25), none⟩],
    [⟨some 27, .load 4 true (.t 1), some (26, true)⟩,
      ⟨some 28, .call 13 [(.t 27)], some (26, true)⟩,
      ⟨some 29, .load 4 true (.t 1), some (26, true)⟩],
    [⟨some 30, .call 14 [(.t 29)], some (26, true)⟩],
    [⟨some 31, .call 12 [(.t 28), (.t 30)], some (26, true)⟩],
    [⟨some 32, .pick (.t 26) (.t 31) (.c (.v (.bool false))), none⟩],
    [⟨some 2, .mov (.t 32), none⟩]])
  .ret))))⟩ := by kernel_rfl

theorem ir4 : compF Try.prog 4 = some ⟨65, [.t 4],
  (.seq (.ops [⟨some 2, .box (.t 0), none⟩,
    ⟨some 3, .box (.t 1), none⟩,
    ⟨some 4, .mov (.c (.v (.bool false))), none⟩])
  (.seq (.ops [⟨some 7, .call 8 [], none⟩,
    ⟨some 5, .mov (.t 7), none⟩])
  (.seq (.seq (.ops [⟨some 8, .load 4 true (.t 2), none⟩,
    ⟨some 9, .call 9 [(.t 8), (.c (.v (.int .i64 8)))], none⟩,
    ⟨some 10, .un .not (.t 9), none⟩,
    ⟨some 11, .mov (.t 10), none⟩,
    ⟨some 12, .faddr 3 (.t 2), some (11, false)⟩,
    ⟨some 13, .load 1 false (.t 12), some (11, false)⟩,
    ⟨some 14, .len false (.t 13), some (11, false)⟩,
    ⟨some 15, .bin .gtr false (.t 14) (.c (.v (.int .i64 5))), some (11, false)⟩,
    ⟨some 16, .pick (.t 11) (.c (.v (.bool true))) (.t 15), none⟩,
    ⟨some 17, .mov (.t 16), none⟩,
    ⟨some 18, .load 4 true (.t 2), some (17, false)⟩,
    ⟨some 19, .call 11 [(.t 18)], some (17, false)⟩,
    ⟨some 20, .un .not (.t 19), some (17, false)⟩,
    ⟨some 21, .pick (.t 17) (.c (.v (.bool true))) (.t 20), none⟩,
    ⟨some 22, .mov (.t 21), none⟩,
    ⟨some 23, .load 4 true (.t 2), some (22, false)⟩,
    ⟨some 24, .call 10 [(.t 23), (.c (.v (.int .i64 3)))], some (22, false)⟩,
    ⟨some 25, .un .not (.t 24), some (22, false)⟩,
    ⟨some 26, .pick (.t 22) (.c (.v (.bool true))) (.t 25), none⟩,
    ⟨some 27, .mov (.t 26), none⟩,
    ⟨some 28, .load 2 true (.t 3), some (27, false)⟩,
    ⟨some 29, .call 15 [(.t 28)], some (27, false)⟩,
    ⟨some 30, .un .not (.t 29), some (27, false)⟩,
    ⟨some 31, .pick (.t 27) (.c (.v (.bool true))) (.t 30), none⟩,
    ⟨some 32, .mov (.t 31), none⟩,
    ⟨some 33, .faddr 0 (.t 3), some (32, false)⟩,
    ⟨some 34, .load 1 false (.t 33), some (32, false)⟩,
    ⟨some 35, .len false (.t 34), some (32, false)⟩,
    ⟨some 36, .bin .gtr false (.t 35) (.c (.v (.int .i64 8))), some (32, false)⟩,
    ⟨some 37, .pick (.t 32) (.c (.v (.bool true))) (.t 36), none⟩])
  (.cond (.t 37)
    (.seq (.ops [⟨some 38, .mov (.t 5), none⟩,
      ⟨some 4, .mov (.t 38), none⟩])
    .ret)
    .skip))
  (.seq (.ops [⟨some 39, .load 4 true (.t 2), none⟩,
    ⟨some 40, .call 13 [(.t 39)], none⟩,
    ⟨some 6, .alloc (.agg [(.v (.slice none 0 0)), (.v (.slice none 0 0)), (.v (.slice none 0 0)), (.v (.slice none 0 0))]), none⟩,
    ⟨none, .store 4 (.t 6) (.t 40), none⟩])
  (.seq (.seq (.ops [⟨some 41, .load 4 true (.t 6), none⟩,
    ⟨some 42, .call 11 [(.t 41)], none⟩,
    ⟨some 43, .un .not (.t 42), none⟩,
    ⟨some 44, .mov (.t 43), none⟩,
    ⟨some 45, .faddr 3 (.t 6), some (44, false)⟩,
    ⟨some 46, .load 1 false (.t 45), some (44, false)⟩,
    ⟨some 47, .len false (.t 46), some (44, false)⟩,
    ⟨some 48, .bin .neq false (.t 47) (.c (.v (.int .i64 1))), some (44, false)⟩,
    ⟨some 49, .pick (.t 44) (.c (.v (.bool true))) (.t 48), none⟩,
    ⟨some 50, .mov (.t 49), none⟩,
    ⟨some 51, .load 4 true (.t 6), some (50, false)⟩,
    ⟨some 52, .call 10 [(.t 51), (.c (.v (.int .i64 3)))], some (50, false)⟩,
    ⟨some 53, .un .not (.t 52), some (50, false)⟩,
    ⟨some 54, .pick (.t 50) (.c (.v (.bool true))) (.t 53), none⟩])
  (.cond (.t 54)
    (.seq (.ops [⟨some 4, .mov (.c (.v (.bool false))), none⟩])
    .ret)
    .skip))
  (.seq (.draw [[⟨some 55, .mov (.t 5), none⟩],
    [⟨some 56, .mov (.t 55), none⟩],
    [⟨some 57, .load 4 true (.t 6), some (56, true)⟩,
      ⟨some 58, .load 2 true (.t 3), some (56, true)⟩,
      ⟨some 59, .call 16 [(.t 57), (.t 58)], some (56, true)⟩,
      ⟨some 60, .load 4 true (.t 2), some (56, true)⟩,
      ⟨some 61, .load 2 true (.t 3), some (56, true)⟩],
    [⟨some 62, .call 16 [(.t 60), (.t 61)], some (56, true)⟩],
    [⟨some 63, .bin .eql true (.t 59) (.t 62), some (56, true)⟩],
    [⟨some 64, .pick (.t 56) (.t 63) (.c (.v (.bool false))), none⟩],
    [⟨some 4, .mov (.t 64), none⟩]])
  .ret))))))⟩ := by kernel_rfl

theorem ir5 : compF Try.prog 5 = some ⟨95, [.t 4],
  (.seq (.ops [⟨some 2, .box (.t 0), none⟩,
    ⟨some 3, .box (.t 1), none⟩,
    ⟨some 4, .mov (.c (.v (.bool false))), none⟩])
  (.seq (.ops [⟨some 9, .call 8 [], none⟩,
    ⟨some 5, .mov (.t 9), none⟩])
  (.seq (.seq (.ops [⟨some 10, .load 4 true (.t 2), none⟩,
    ⟨some 11, .call 9 [(.t 10), (.c (.v (.int .i64 8)))], none⟩,
    ⟨some 12, .un .not (.t 11), none⟩,
    ⟨some 13, .mov (.t 12), none⟩,
    ⟨some 14, .faddr 3 (.t 2), some (13, false)⟩,
    ⟨some 15, .load 1 false (.t 14), some (13, false)⟩,
    ⟨some 16, .len false (.t 15), some (13, false)⟩,
    ⟨some 17, .bin .gtr false (.t 16) (.c (.v (.int .i64 5))), some (13, false)⟩,
    ⟨some 18, .pick (.t 13) (.c (.v (.bool true))) (.t 17), none⟩,
    ⟨some 19, .mov (.t 18), none⟩,
    ⟨some 20, .load 4 true (.t 2), some (19, false)⟩,
    ⟨some 21, .call 11 [(.t 20)], some (19, false)⟩,
    ⟨some 22, .un .not (.t 21), some (19, false)⟩,
    ⟨some 23, .pick (.t 19) (.c (.v (.bool true))) (.t 22), none⟩,
    ⟨some 24, .mov (.t 23), none⟩,
    ⟨some 25, .load 4 true (.t 2), some (24, false)⟩,
    ⟨some 26, .call 10 [(.t 25), (.c (.v (.int .i64 3)))], some (24, false)⟩,
    ⟨some 27, .un .not (.t 26), some (24, false)⟩,
    ⟨some 28, .pick (.t 24) (.c (.v (.bool true))) (.t 27), none⟩,
    ⟨some 29, .mov (.t 28), none⟩,
    ⟨some 30, .load 2 true (.t 3), some (29, false)⟩,
    ⟨some 31, .call 15 [(.t 30)], some (29, false)⟩,
    ⟨some 32, .un .not (.t 31), some (29, false)⟩,
    ⟨some 33, .pick (.t 29) (.c (.v (.bool true))) (.t 32), none⟩,
    ⟨some 34, .mov (.t 33), none⟩,
    ⟨some 35, .faddr 0 (.t 3), some (34, false)⟩,
    ⟨some 36, .load 1 false (.t 35), some (34, false)⟩,
    ⟨some 37, .len false (.t 36), some (34, false)⟩,
    ⟨some 38, .bin .gtr false (.t 37) (.c (.v (.int .i64 8))), some (34, false)⟩,
    ⟨some 39, .pick (.t 34) (.c (.v (.bool true))) (.t 38), none⟩])
  (.cond (.t 39)
    (.seq (.ops [⟨some 40, .mov (.t 5), none⟩,
      ⟨some 4, .mov (.t 40), none⟩])
    .ret)
    .skip))
  (.seq (.ops [⟨some 41, .load 4 true (.t 2), none⟩,
    ⟨some 42, .call 13 [(.t 41)], none⟩,
    ⟨some 6, .alloc (.agg [(.v (.slice none 0 0)), (.v (.slice none 0 0)), (.v (.slice none 0 0)), (.v (.slice none 0 0))]), none⟩,
    ⟨none, .store 4 (.t 6) (.t 42), none⟩])
  (.seq (.ops [⟨some 43, .load 4 true (.t 6), none⟩,
    ⟨some 44, .call 13 [(.t 43)], none⟩,
    ⟨some 7, .alloc (.agg [(.v (.slice none 0 0)), (.v (.slice none 0 0)), (.v (.slice none 0 0)), (.v (.slice none 0 0))]), none⟩,
    ⟨none, .store 4 (.t 7) (.t 44), none⟩])
  (.seq (.seq (.ops [⟨some 45, .load 4 true (.t 6), none⟩,
    ⟨some 46, .load 4 true (.t 7), none⟩,
    ⟨some 47, .call 12 [(.t 45), (.t 46)], none⟩,
    ⟨some 48, .un .not (.t 47), none⟩,
    ⟨some 49, .mov (.t 48), none⟩,
    ⟨some 50, .load 4 true (.t 7), some (49, false)⟩,
    ⟨some 51, .call 11 [(.t 50)], some (49, false)⟩,
    ⟨some 52, .un .not (.t 51), some (49, false)⟩,
    ⟨some 53, .pick (.t 49) (.c (.v (.bool true))) (.t 52), none⟩])
  (.cond (.t 53)
    (.seq (.ops [⟨some 4, .mov (.c (.v (.bool false))), none⟩])
    .ret)
    .skip))
  (.seq (.ops [⟨some 54, .faddr 3 (.t 2), none⟩,
    ⟨some 55, .load 1 false (.t 54), none⟩,
    ⟨some 56, .len false (.t 55), none⟩,
    ⟨some 8, .mov (.t 56), none⟩])
  (.seq (.seq (.ops [⟨some 57, .mov (.t 8), none⟩,
    ⟨some 58, .bin .eql false (.t 57) (.c (.v (.int .i64 0))), none⟩])
  (.cond (.t 58)
    (.ops [⟨some 8, .mov (.c (.v (.int .i64 1))), none⟩])
    .skip))
  (.seq (.seq (.ops [⟨some 59, .faddr 0 (.t 6), none⟩,
    ⟨some 60, .load 1 false (.t 59), none⟩,
    ⟨some 61, .len false (.t 60), none⟩,
    ⟨some 62, .mov (.t 8), none⟩,
    ⟨some 63, .faddr 0 (.t 2), none⟩,
    ⟨some 64, .load 1 false (.t 63), none⟩,
    ⟨some 65, .len false (.t 64), none⟩,
    ⟨some 66, .bin .mul false (.t 62) (.t 65), none⟩,
    ⟨some 67, .bin .neq false (.t 61) (.t 66), none⟩,
    ⟨some 68, .mov (.t 67), none⟩,
    ⟨some 69, .faddr 2 (.t 6), some (68, false)⟩,
    ⟨some 70, .load 1 false (.t 69), some (68, false)⟩,
    ⟨some 71, .len false (.t 70), some (68, false)⟩,
    ⟨some 72, .faddr 2 (.t 2), some (68, false)⟩,
    ⟨some 73, .load 1 false (.t 72), some (68, false)⟩,
    ⟨some 74, .len false (.t 73), some (68, false)⟩,
    ⟨some 75, .bin .neq false (.t 71) (.t 74), some (68, false)⟩,
    ⟨some 76, .pick (.t 68) (.c (.v (.bool true))) (.t 75), none⟩])
  (.cond (.t 76)
    (.seq (.ops [⟨some 4, .mov (.c (.v (.bool false))), none⟩])
    .ret)
    .skip))
  (.seq (.seq (.ops [⟨some 77, .mov (.t 8), none⟩,
    ⟨some 78, .bin .gtr false (.t 77) (.c (.v (.int .i64 1))), none⟩])
  (.cond (.t 78)
    (.seq (.ops [⟨some 79, .mov (.t 5), none⟩,
      ⟨some 4, .mov (.t 79), none⟩])
    .ret)
    .skip))
  (.seq (.ops [⟨some 80, .mov (.t 5), none⟩,
    ⟨some 81, .mov (.t 80), none⟩,
    ⟨some 82, .faddr 1 (.t 6), some (81, true)⟩,
    ⟨some 83, .load 1 false (.t 82), some (81, true)⟩,
    ⟨some 84, .faddr 1 (.t 2), some (81, true)⟩,
    ⟨some 85, .load 1 false (.t 84), some (81, true)⟩,
    ⟨some 86, .call 17 [(.t 83), (.t 85)], some (81, true)⟩,
    ⟨some 87, .pick (.t 81) (.t 86) (.c (.v (.bool false))), none⟩,
    ⟨some 88, .mov (.t 87), none⟩,
    ⟨some 89, .faddr 2 (.t 6), some (88, true)⟩,
    ⟨some 90, .load 1 false (.t 89), some (88, true)⟩,
    ⟨some 91, .faddr 2 (.t 2), some (88, true)⟩,
    ⟨some 92, .load 1 false (.t 91), some (88, true)⟩,
    ⟨some 93, .call 18 [(.t 90), (.t 92)], some (88, true)⟩,
    ⟨some 94, .pick (.t 88) (.t 93) (.c (.v (.bool false))), none⟩,
    ⟨some 4, .mov (.t 94), none⟩])
  .ret)))))))))))⟩ := by kernel_rfl

set_option maxRecDepth 100000 in
theorem ir6 : compF Try.prog 6 = some ⟨136, [.t 2],
  (.seq (.ops [⟨some 1, .box (.t 0), none⟩,
    ⟨some 2, .mov (.c (.v (.bool false))), none⟩])
  (.seq (.ops [⟨some 16, .faddr 0 (.t 1), none⟩,
    ⟨some 17, .load 4 true (.t 16), none⟩,
    ⟨some 3, .alloc (.agg [(.v (.slice none 0 0)), (.v (.slice none 0 0)), (.v (.slice none 0 0)), (.v (.slice none 0 0))]), none⟩,
    ⟨none, .store 4 (.t 3) (.t 17), none⟩])
  (.seq (.ops [⟨some 18, .faddr 4 (.t 1), none⟩,
    ⟨some 19, .load 2 true (.t 18), none⟩,
    ⟨some 4, .alloc (.agg [(.v (.slice none 0 0)), (.v (.int .i64 0))]), none⟩,
    ⟨none, .store 2 (.t 4) (.t 19), none⟩])
  (.seq (.ops [⟨some 20, .faddr 6 (.t 1), none⟩,
    ⟨some 21, .load 1 false (.t 20), none⟩,
    ⟨some 5, .mov (.t 21), none⟩])
  (.seq (.ops [⟨some 22, .faddr 7 (.t 1), none⟩,
    ⟨some 23, .load 1 false (.t 22), none⟩,
    ⟨some 6, .mov (.t 23), none⟩])
  (.seq (.ops [⟨some 24, .call 8 [], none⟩,
    ⟨some 7, .mov (.t 24), none⟩])
  (.seq (.ops [⟨some 25, .faddr 3 (.t 3), none⟩,
    ⟨some 26, .load 1 false (.t 25), none⟩,
    ⟨some 27, .len false (.t 26), none⟩,
    ⟨some 8, .mov (.t 27), none⟩])
  (.seq (.seq (.ops [⟨some 28, .load 4 true (.t 3), none⟩,
    ⟨some 29, .call 9 [(.t 28), (.c (.v (.int .i64 8)))], none⟩,
    ⟨some 30, .un .not (.t 29), none⟩,
    ⟨some 31, .mov (.t 30), none⟩,
    ⟨some 32, .mov (.t 8), some (31, false)⟩,
    ⟨some 33, .bin .lss false (.t 32) (.c (.v (.int .i64 1))), some (31, false)⟩,
    ⟨some 34, .pick (.t 31) (.c (.v (.bool true))) (.t 33), none⟩,
    ⟨some 35, .mov (.t 34), none⟩,
    ⟨some 36, .mov (.t 8), some (35, false)⟩,
    ⟨some 37, .bin .gtr false (.t 36) (.c (.v (.int .i64 4))), some (35, false)⟩,
    ⟨some 38, .pick (.t 35) (.c (.v (.bool true))) (.t 37), none⟩,
    ⟨some 39, .mov (.t 38), none⟩,
    ⟨some 40, .load 4 true (.t 3), some (39, false)⟩,
    ⟨some 41, .call 11 [(.t 40)], some (39, false)⟩,
    ⟨some 42, .un .not (.t 41), some (39, false)⟩,
    ⟨some 43, .pick (.t 39) (.c (.v (.bool true))) (.t 42), none⟩,
    ⟨some 44, .mov (.t 43), none⟩,
    ⟨some 45, .load 4 true (.t 3), some (44, false)⟩,
    ⟨some 46, .call 10 [(.t 45), (.c (.v (.int .i64 3)))], some (44, false)⟩,
    ⟨some 47, .un .not (.t 46), some (44, false)⟩,
    ⟨some 48, .pick (.t 44) (.c (.v (.bool true))) (.t 47), none⟩,
    ⟨some 49, .mov (.t 48), none⟩,
    ⟨some 50, .load 2 true (.t 4), some (49, false)⟩,
    ⟨some 51, .call 15 [(.t 50)], some (49, false)⟩,
    ⟨some 52, .un .not (.t 51), some (49, false)⟩,
    ⟨some 53, .pick (.t 49) (.c (.v (.bool true))) (.t 52), none⟩,
    ⟨some 54, .mov (.t 53), none⟩,
    ⟨some 55, .faddr 0 (.t 4), some (54, false)⟩,
    ⟨some 56, .load 1 false (.t 55), some (54, false)⟩,
    ⟨some 57, .len false (.t 56), some (54, false)⟩,
    ⟨some 58, .bin .gtr false (.t 57) (.c (.v (.int .i64 8))), some (54, false)⟩,
    ⟨some 59, .pick (.t 54) (.c (.v (.bool true))) (.t 58), none⟩])
  (.cond (.t 59)
    (.seq (.ops [⟨some 60, .mov (.t 7), none⟩,
      ⟨some 2, .mov (.t 60), none⟩])
    .ret)
    .skip))
  (.seq (.ops [⟨some 61, .load 4 true (.t 3), none⟩,
    ⟨some 9, .alloc (.agg [(.v (.slice none 0 0)), (.v (.slice none 0 0)), (.v (.slice none 0 0)), (.v (.slice none 0 0))]), none⟩,
    ⟨none, .store 4 (.t 9) (.t 61), none⟩])
  (.seq (.ops [⟨some 62, .bslice 1 [(.v (.slice none 0 0))] 0 [], none⟩,
    ⟨some 63, .faddr 3 (.t 3), none⟩,
    ⟨some 64, .load 1 false (.t 63), none⟩,
    ⟨some 65, .append 1 24 [(.v (.slice none 0 0))] (.t 62) (.t 64), none⟩,
    ⟨some 66, .faddr 3 (.t 9), none⟩,
    ⟨none, .store 1 (.t 66) (.t 65), none⟩])
  (.seq (.ops [⟨some 67, .mov (.t 5), none⟩,
    ⟨some 68, .conv .i64 (.t 67), none⟩,
    ⟨some 69, .mov (.t 8), none⟩,
    ⟨some 70, .bin .rem false (.t 68) (.t 69), none⟩,
    ⟨some 10, .mov (.t 70), none⟩])
  (.seq (.ops [⟨some 71, .mov (.t 6), none⟩,
    ⟨some 72, .conv .i64 (.t 71), none⟩,
    ⟨some 73, .mov (.t 8), none⟩,
    ⟨some 74, .bin .rem false (.t 72) (.t 73), none⟩,
    ⟨some 11, .mov (.t 74), none⟩])
  (.seq (.drawF [([3, 4, 5], [⟨some 75, .faddr 3 (.t 9), none⟩,
      ⟨some 76, .load 1 false (.t 75), none⟩,
      ⟨some 77, .mov (.t 10), none⟩,
      ⟨some 78, .faddr 3 (.t 9), none⟩,
      ⟨some 79, .load 1 false (.t 78), none⟩,
      ⟨some 80, .mov (.t 11), none⟩,
      ⟨some 81, .faddr 3 (.t 9), none⟩,
      ⟨some 82, .load 1 false (.t 81), none⟩,
      ⟨some 83, .mov (.t 11), none⟩,
      ⟨some 84, .iaddr 1 (.t 82) (.t 83), none⟩,
      ⟨some 85, .load 1 false (.t 84), none⟩,
      ⟨some 86, .faddr 3 (.t 9), none⟩,
      ⟨some 87, .load 1 false (.t 86), none⟩,
      ⟨some 88, .mov (.t 10), none⟩,
      ⟨some 89, .iaddr 1 (.t 87) (.t 88), none⟩,
      ⟨some 90, .load 1 false (.t 89), none⟩,
      ⟨some 91, .iaddr 1 (.t 76) (.t 77), none⟩,
      ⟨none, .store 1 (.t 91) (.t 85), none⟩]),
    ([], [⟨some 92, .iaddr 1 (.t 79) (.t 80), none⟩]),
    ([], [⟨none, .store 1 (.t 92) (.t 90), none⟩])])
  (.seq (.ops [⟨some 93, .load 4 true (.t 3), none⟩,
    ⟨some 12, .alloc (.agg [(.v (.slice none 0 0)), (.v (.slice none 0 0)), (.v (.slice none 0 0)), (.v (.slice none 0 0))]), none⟩,
    ⟨none, .store 4 (.t 12) (.t 93), none⟩])
  (.seq (.draw [[⟨some 94, .bslice 1 [(.v (.slice none 0 0))] 0 [], none⟩,
      ⟨some 95, .faddr 3 (.t 3), none⟩,
      ⟨some 96, .load 1 false (.t 95), none⟩,
      ⟨some 97, .append 1 24 [(.v (.slice none 0 0))] (.t 94) (.t 96), none⟩,
      ⟨some 98, .faddr 3 (.t 3), none⟩,
      ⟨some 99, .load 1 false (.t 98), none⟩,
      ⟨some 100, .mov (.t 10), none⟩,
      ⟨some 101, .iaddr 1 (.t 99) (.t 100), none⟩,
      ⟨some 102, .load 1 false (.t 101), none⟩,
      ⟨some 103, .bslice 1 [(.v (.slice none 0 0))] 1 [(0, 1, (.t 102))], none⟩],
    [⟨some 104, .append 1 24 [(.v (.slice none 0 0))] (.t 97) (.t 103), none⟩],
    [⟨some 105, .faddr 3 (.t 12), none⟩],
    [⟨none, .store 1 (.t 105) (.t 104), none⟩]])
  (.seq (.ops [⟨some 106, .load 4 true (.t 3), none⟩,
    ⟨some 107, .load 2 true (.t 4), none⟩,
    ⟨some 108, .call 16 [(.t 106), (.t 107)], none⟩,
    ⟨some 13, .mov (.t 108), none⟩])
  (.seq (.ops [⟨some 109, .load 4 true (.t 9), none⟩,
    ⟨some 110, .call 13 [(.t 109)], none⟩,
    ⟨some 14, .alloc (.agg [(.v (.slice none 0 0)), (.v (.slice none 0 0)), (.v (.slice none 0 0)), (.v (.slice none 0 0))]), none⟩,
    ⟨none, .store 4 (.t 14) (.t 110), none⟩])
  (.seq (.ops [⟨some 111, .load 4 true (.t 12), none⟩,
    ⟨some 112, .call 13 [(.t 111)], none⟩,
    ⟨some 15, .alloc (.agg [(.v (.slice none 0 0)), (.v (.slice none 0 0)), (.v (.slice none 0 0)), (.v (.slice none 0 0))]), none⟩,
    ⟨none, .store 4 (.t 15) (.t 112), none⟩])
  (.seq (.seq (.ops [⟨some 113, .load 4 true (.t 14), none⟩,
    ⟨some 114, .call 11 [(.t 113)], none⟩,
    ⟨some 115, .un .not (.t 114), none⟩,
    ⟨some 116, .mov (.t 115), none⟩,
    ⟨some 117, .load 4 true (.t 15), some (116, false)⟩,
    ⟨some 118, .call 11 [(.t 117)], some (116, false)⟩,
    ⟨some 119, .un .not (.t 118), some (116, false)⟩,
    ⟨some 120, .pick (.t 116) (.c (.v (.bool true))) (.t 119), none⟩])
  (.cond (.t 120)
    (.seq (.ops [⟨some 2, .mov (.c (.v (.bool false))), none⟩])
    .ret)
    .skip))
  (.seq (.ops [⟨some 121, .mov (.t 7), none⟩,
    ⟨some 122, .mov (.t 121), none⟩,
    ⟨some 123, .load 4 true (.t 14), some (122, true)⟩,
    ⟨some 124, .load 2 true (.t 4), some (122, true)⟩,
    ⟨some 125, .call 16 [(.t 123), (.t 124)], some (122, true)⟩,
    ⟨some 126, .mov (.t 13), some (122, true)⟩,
    ⟨some 127, .bin .eql true (.t 125) (.t 126), some (122, true)⟩,
    ⟨some 128, .pick (.t 122) (.t 127) (.c (.v (.bool false))), none⟩,
    ⟨some 129, .mov (.t 128), none⟩,
    ⟨some 130, .load 4 true (.t 15), some (129, true)⟩,
    ⟨some 131, .load 2 true (.t 4), some (129, true)⟩,
    ⟨some 132, .call 16 [(.t 130), (.t 131)], some (129, true)⟩,
    ⟨some 133, .mov (.t 13), some (129, true)⟩,
    ⟨some 134, .bin .eql true (.t 132) (.t 133), some (129, true)⟩,
    ⟨some 135, .pick (.t 129) (.t 134) (.c (.v (.bool false))), none⟩,
    ⟨some 2, .mov (.t 135), none⟩])
  .ret))))))))))))))))))))⟩ := by kernel_rfl

set_option maxRecDepth 100000 in
theorem ir7 : compF Try.prog 7 = some ⟨193, [.t 2],
  (.seq (.ops [⟨some 1, .box (.t 0), none⟩,
    ⟨some 2, .mov (.c (.v (.bool false))), none⟩])
  (.seq (.ops [⟨some 15, .call 8 [], none⟩,
    ⟨some 3, .mov (.t 15), none⟩])
  (.seq (.ops [⟨some 16, .faddr 3 (.t 1), none⟩,
    ⟨some 17, .load 1 false (.t 16), none⟩,
    ⟨some 18, .len false (.t 17), none⟩,
    ⟨some 4, .mov (.t 18), none⟩])
  (.seq (.seq (.ops [⟨some 19, .load 4 true (.t 1), none⟩,
    ⟨some 20, .call 9 [(.t 19), (.c (.v (.int .i64 20)))], none⟩,
    ⟨some 21, .un .not (.t 20), none⟩,
    ⟨some 22, .mov (.t 21), none⟩,
    ⟨some 23, .mov (.t 4), some (22, false)⟩,
    ⟨some 24, .bin .lss false (.t 23) (.c (.v (.int .i64 1))), some (22, false)⟩,
    ⟨some 25, .pick (.t 22) (.c (.v (.bool true))) (.t 24), none⟩,
    ⟨some 26, .mov (.t 25), none⟩,
    ⟨some 27, .mov (.t 4), some (26, false)⟩,
    ⟨some 28, .bin .gtr false (.t 27) (.c (.v (.int .i64 20))), some (26, false)⟩,
    ⟨some 29, .pick (.t 26) (.c (.v (.bool true))) (.t 28), none⟩,
    ⟨some 30, .mov (.t 29), none⟩,
    ⟨some 31, .load 4 true (.t 1), some (30, false)⟩,
    ⟨some 32, .call 10 [(.t 31), (.c (.v (.int .i64 1073741824)))], some (30, false)⟩,
    ⟨some 33, .un .not (.t 32), some (30, false)⟩,
    ⟨some 34, .pick (.t 30) (.c (.v (.bool true))) (.t 33), none⟩,
    ⟨some 35, .mov (.t 34), none⟩,
    ⟨some 36, .load 4 true (.t 1), some (35, false)⟩,
    ⟨some 37, .call 11 [(.t 36)], some (35, false)⟩,
    ⟨some 38, .un .not (.t 37), some (35, false)⟩,
    ⟨some 39, .pick (.t 35) (.c (.v (.bool true))) (.t 38), none⟩])
  (.cond (.t 39)
    (.seq (.ops [⟨some 40, .mov (.t 3), none⟩,
      ⟨some 2, .mov (.t 40), none⟩])
    .ret)
    .skip))
  (.seq (.ops [⟨some 41, .load 4 true (.t 1), none⟩,
    ⟨some 42, .call 13 [(.t 41)], none⟩,
    ⟨some 5, .alloc (.agg [(.v (.slice none 0 0)), (.v (.slice none 0 0)), (.v (.slice none 0 0)), (.v (.slice none 0 0))]), none⟩,
    ⟨none, .store 4 (.t 5) (.t 42), none⟩])
  (.seq (.seq (.ops [⟨some 43, .load 4 true (.t 5), none⟩,
    ⟨some 44, .call 11 [(.t 43)], none⟩,
    ⟨some 45, .un .not (.t 44), none⟩,
    ⟨some 46, .mov (.t 45), none⟩,
    ⟨some 47, .faddr 1 (.t 5), some (46, false)⟩,
    ⟨some 48, .load 1 false (.t 47), some (46, false)⟩,
    ⟨some 49, .len false (.t 48), some (46, false)⟩,
    ⟨some 50, .mov (.t 4), some (46, false)⟩,
    ⟨some 51, .faddr 0 (.t 1), some (46, false)⟩,
    ⟨some 52, .load 1 false (.t 51), some (46, false)⟩,
    ⟨some 53, .len false (.t 52), some (46, false)⟩,
    ⟨some 54, .bin .mul false (.t 50) (.t 53), some (46, false)⟩,
    ⟨some 55, .bin .neq false (.t 49) (.t 54), some (46, false)⟩,
    ⟨some 56, .pick (.t 46) (.c (.v (.bool true))) (.t 55), none⟩,
    ⟨some 57, .mov (.t 56), none⟩,
    ⟨some 58, .faddr 3 (.t 5), some (57, false)⟩,
    ⟨some 59, .load 1 false (.t 58), some (57, false)⟩,
    ⟨some 60, .len false (.t 59), some (57, false)⟩,
    ⟨some 61, .bin .neq false (.t 60) (.c (.v (.int .i64 1))), some (57, false)⟩,
    ⟨some 62, .pick (.t 57) (.c (.v (.bool true))) (.t 61), none⟩])
  (.cond (.t 62)
    (.seq (.ops [⟨some 2, .mov (.c (.v (.bool false))), none⟩])
    .ret)
    .skip))
  (.seq (.seq (.ops [⟨some 6, .mov (.c (.v (.int .i64 0))), none⟩])
  (.block 0 (.loop
    (.seq (.seq (.ops [⟨some 63, .mov (.t 6), none⟩,
      ⟨some 64, .faddr 1 (.t 5), none⟩,
      ⟨some 65, .load 1 false (.t 64), none⟩,
      ⟨some 66, .len false (.t 65), none⟩,
      ⟨some 67, .bin .lss false (.t 63) (.t 66), none⟩])
    (.cond (.t 67)
      .skip
      (.exit 0)))
    (.seq (.block 1 (.seq (.ops [⟨some 70, .mov (.t 6), none⟩,
      ⟨some 71, .mov (.t 4), none⟩,
      ⟨some 72, .bin .quo false (.t 70) (.t 71), none⟩,
      ⟨some 7, .mov (.t 72), none⟩])
    (.seq (.ops [⟨some 73, .mov (.t 6), none⟩,
      ⟨some 74, .mov (.t 4), none⟩,
      ⟨some 75, .bin .rem false (.t 73) (.t 74), none⟩,
      ⟨some 8, .mov (.t 75), none⟩])
    (.seq (.ops [⟨some 9, .mov (.c (.v (.bool false))), none⟩])
    (.seq (.seq (.ops [⟨some 10, .mov (.c (.v (.int .i64 0))), none⟩])
    (.block 2 (.loop
      (.seq (.seq (.ops [⟨some 76, .mov (.t 10), none⟩,
        ⟨some 77, .faddr 3 (.t 1), none⟩,
        ⟨some 78, .load 1 false (.t 77), none⟩,
        ⟨some 79, .mov (.t 8), none⟩,
        ⟨some 80, .iaddr 1 (.t 78) (.t 79), none⟩,
        ⟨some 81, .load 1 false (.t 80), none⟩,
        ⟨some 82, .len false (.t 81), none⟩,
        ⟨some 83, .bin .lss false (.t 76) (.t 82), none⟩])
      (.cond (.t 83)
        .skip
        (.exit 2)))
      (.seq (.block 3 (.ops [⟨some 86, .mov (.t 9), none⟩,
        ⟨some 87, .mov (.t 86), none⟩,
        ⟨some 88, .faddr 3 (.t 1), some (87, false)⟩,
        ⟨some 89, .load 1 false (.t 88), some (87, false)⟩,
        ⟨some 90, .mov (.t 8), some (87, false)⟩,
        ⟨some 91, .iaddr 1 (.t 89) (.t 90), some (87, false)⟩,
        ⟨some 92, .load 1 false (.t 91), some (87, false)⟩,
        ⟨some 93, .mov (.t 10), some (87, false)⟩,
        ⟨some 94, .iaddr 1 (.t 92) (.t 93), some (87, false)⟩,
        ⟨some 95, .load 1 false (.t 94), some (87, false)⟩,
        ⟨some 96, .mov (.t 7), some (87, false)⟩,
        ⟨some 97, .bin .eql false (.t 95) (.t 96), some (87, false)⟩,
        ⟨some 98, .pick (.t 87) (.c (.v (.bool true))) (.t 97), none⟩,
        ⟨some 9, .mov (.t 98), none⟩]))
      (.ops [⟨some 84, .mov (.t 10), none⟩,
        ⟨some 85, .bin .add false (.t 84) (.c (.v (.int .i64 1))), none⟩,
        ⟨some 10, .mov (.t 85), none⟩]))))))
    (.seq (.ops [⟨some 99, .mov (.t 8), none⟩,
      ⟨some 11, .mov (.t 99), none⟩])
    (.seq (.seq (.ops [⟨some 100, .mov (.t 9), none⟩])
    (.cond (.t 100)
      (.ops [⟨some 101, .mov (.t 8), none⟩,
        ⟨some 102, .bin .add false (.t 101) (.c (.v (.int .i64 1))), none⟩,
        ⟨some 103, .mov (.t 4), none⟩,
        ⟨some 104, .bin .rem false (.t 102) (.t 103), none⟩,
        ⟨some 11, .mov (.t 104), none⟩])
      .skip))
    (.seq (.seq (.draw [[⟨some 105, .faddr 1 (.t 5), none⟩,
        ⟨some 106, .load 1 false (.t 105), none⟩,
        ⟨some 107, .mov (.t 6), none⟩,
        ⟨some 108, .iaddr 1 (.t 106) (.t 107), none⟩,
        ⟨some 109, .load 1 false (.t 108), none⟩,
        ⟨some 110, .len false (.t 109), none⟩,
        ⟨some 111, .faddr 1 (.t 1), none⟩,
        ⟨some 112, .load 1 false (.t 111), none⟩,
        ⟨some 113, .mov (.t 7), none⟩,
        ⟨some 114, .iaddr 1 (.t 112) (.t 113), none⟩,
        ⟨some 115, .load 1 false (.t 114), none⟩,
        ⟨some 116, .len false (.t 115), none⟩],
      [⟨some 117, .bin .neq false (.t 110) (.t 116), none⟩],
      [⟨some 118, .mov (.t 117), none⟩],
      [⟨some 119, .faddr 0 (.t 5), some (118, false)⟩,
        ⟨some 120, .load 1 false (.t 119), some (118, false)⟩,
        ⟨some 121, .mov (.t 6), some (118, false)⟩,
        ⟨some 122, .iaddr 1 (.t 120) (.t 121), some (118, false)⟩,
        ⟨some 123, .load 1 false (.t 122), some (118, false)⟩,
        ⟨some 124, .len false (.t 123), some (118, false)⟩,
        ⟨some 125, .faddr 0 (.t 1), some (118, false)⟩,
        ⟨some 126, .load 1 false (.t 125), some (118, false)⟩,
        ⟨some 127, .mov (.t 7), some (118, false)⟩,
        ⟨some 128, .iaddr 1 (.t 126) (.t 127), some (118, false)⟩,
        ⟨some 129, .load 1 false (.t 128), some (118, false)⟩,
        ⟨some 130, .len false (.t 129), some (118, false)⟩],
      [⟨some 131, .bin .neq false (.t 124) (.t 130), some (118, false)⟩],
      [⟨some 132, .pick (.t 118) (.c (.v (.bool true))) (.t 131), none⟩]])
    (.cond (.t 132)
      (.seq (.ops [⟨some 2, .mov (.c (.v (.bool false))), none⟩])
      .ret)
      .skip))
    (.seq (.seq (.ops [⟨some 12, .mov (.c (.v (.int .i64 0))), none⟩])
    (.block 4 (.loop
      (.seq (.seq (.ops [⟨some 133, .mov (.t 12), none⟩,
        ⟨some 134, .faddr 1 (.t 5), none⟩,
        ⟨some 135, .load 1 false (.t 134), none⟩,
        ⟨some 136, .mov (.t 6), none⟩,
        ⟨some 137, .iaddr 1 (.t 135) (.t 136), none⟩,
        ⟨some 138, .load 1 false (.t 137), none⟩,
        ⟨some 139, .len false (.t 138), none⟩,
        ⟨some 140, .bin .lss false (.t 133) (.t 139), none⟩])
      (.cond (.t 140)
        .skip
        (.exit 4)))
      (.seq (.block 5 (.seq (.draw [[⟨some 143, .faddr 1 (.t 5), none⟩,
          ⟨some 144, .load 1 false (.t 143), none⟩,
          ⟨some 145, .mov (.t 6), none⟩,
          ⟨some 146, .iaddr 1 (.t 144) (.t 145), none⟩,
          ⟨some 147, .load 1 false (.t 146), none⟩,
          ⟨some 148, .mov (.t 12), none⟩,
          ⟨some 149, .iaddr 1 (.t 147) (.t 148), none⟩,
          ⟨some 150, .load 1 false (.t 149), none⟩,
          ⟨some 151, .faddr 1 (.t 1), none⟩,
          ⟨some 152, .load 1 false (.t 151), none⟩,
          ⟨some 153, .mov (.t 7), none⟩,
          ⟨some 154, .iaddr 1 (.t 152) (.t 153), none⟩,
          ⟨some 155, .load 1 false (.t 154), none⟩,
          ⟨some 156, .mov (.t 12), none⟩,
          ⟨some 157, .iaddr 1 (.t 155) (.t 156), none⟩,
          ⟨some 158, .load 1 false (.t 157), none⟩,
          ⟨some 159, .mov (.t 4), none⟩,
          ⟨some 160, .bin .mul false (.t 158) (.t 159), none⟩,
          ⟨some 161, .mov (.t 11), none⟩,
          ⟨some 162, .bin .add false (.t 160) (.t 161), none⟩],
        [⟨some 163, .bin .neq false (.t 150) (.t 162), none⟩]])
      (.cond (.t 163)
        (.seq (.ops [⟨some 2, .mov (.c (.v (.bool false))), none⟩])
        .ret)
        .skip)))
      (.ops [⟨some 141, .mov (.t 12), none⟩,
        ⟨some 142, .bin .add false (.t 141) (.c (.v (.int .i64 1))), none⟩,
        ⟨some 12, .mov (.t 142), none⟩]))))))
    (.seq (.ops [⟨some 13, .mov (.c (.v (.bool false))), none⟩])
    (.seq (.seq (.ops [⟨some 14, .mov (.c (.v (.int .i64 0))), none⟩])
    (.block 6 (.loop
      (.seq (.seq (.ops [⟨some 164, .mov (.t 14), none⟩,
        ⟨some 165, .faddr 3 (.t 5), none⟩,
        ⟨some 166, .load 1 false (.t 165), none⟩,
        ⟨some 167, .iaddr 1 (.t 166) (.c (.v (.int .i64 0))), none⟩,
        ⟨some 168, .load 1 false (.t 167), none⟩,
        ⟨some 169, .len false (.t 168), none⟩,
        ⟨some 170, .bin .lss false (.t 164) (.t 169), none⟩])
      (.cond (.t 170)
        .skip
        (.exit 6)))
      (.seq (.block 7 (.ops [⟨some 173, .mov (.t 13), none⟩,
        ⟨some 174, .mov (.t 173), none⟩,
        ⟨some 175, .faddr 3 (.t 5), some (174, false)⟩,
        ⟨some 176, .load 1 false (.t 175), some (174, false)⟩,
        ⟨some 177, .iaddr 1 (.t 176) (.c (.v (.int .i64 0))), some (174, false)⟩,
        ⟨some 178, .load 1 false (.t 177), some (174, false)⟩,
        ⟨some 179, .mov (.t 14), some (174, false)⟩,
        ⟨some 180, .iaddr 1 (.t 178) (.t 179), some (174, false)⟩,
        ⟨some 181, .load 1 false (.t 180), some (174, false)⟩,
        ⟨some 182, .mov (.t 6), some (174, false)⟩,
        ⟨some 183, .bin .eql false (.t 181) (.t 182), some (174, false)⟩,
        ⟨some 184, .pick (.t 174) (.c (.v (.bool true))) (.t 183), none⟩,
        ⟨some 13, .mov (.t 184), none⟩]))
      (.ops [⟨some 171, .mov (.t 14), none⟩,
        ⟨some 172, .bin .add false (.t 171) (.c (.v (.int .i64 1))), none⟩,
        ⟨some 14, .mov (.t 172), none⟩]))))))
    (.seq (.ops [⟨some 185, .mov (.t 13), none⟩,
      ⟨some 186, .mov (.t 8), none⟩,
      ⟨some 187, .bin .eql false (.t 186) (.c (.v (.int .i64 0))), none⟩,
      ⟨some 188, .mov (.t 187), none⟩,
      ⟨some 189, .mov (.t 9), some (188, true)⟩,
      ⟨some 190, .pick (.t 188) (.t 189) (.c (.v (.bool false))), none⟩,
      ⟨some 191, .bin .neq true (.t 185) (.t 190), none⟩])
    (.cond (.t 191)
      (.seq (.ops [⟨some 2, .mov (.c (.v (.bool false))), none⟩])
      .ret)
      .skip)))))))))))))
    (.ops [⟨some 68, .mov (.t 6), none⟩,
      ⟨some 69, .bin .add false (.t 68) (.c (.v (.int .i64 1))), none⟩,
      ⟨some 6, .mov (.t 69), none⟩]))))))
  (.seq (.ops [⟨some 192, .mov (.t 3), none⟩,
    ⟨some 2, .mov (.t 192), none⟩])
  .ret))))))))⟩ := by kernel_rfl

set_option maxRecDepth 100000 in
theorem ir8 : compF Try.prog 8 = some ⟨86, [.t 0],
  (.seq (.ops [⟨some 0, .mov (.c (.v (.bool false))), none⟩])
  (.seq (.ops [⟨some 3, .build [(.v (.int .i64 0)), (.v (.int .i64 0)), (.v (.int .i64 0)), (.v (.slice none 0 0))] [(0, 1, (.c (.v (.int .i64 13))))], none⟩,
    ⟨some 4, .bslice 4 [(.v (.int .i64 0)), (.v (.int .i64 0)), (.v (.int .i64 0)), (.v (.slice none 0 0))] 1 [(0, 4, (.t 3))], none⟩,
    ⟨some 5, .bslice 1 [(.v (.slice none 0 0))] 2 [(0, 1, (.c (.v (.slice none 0 0)))), (1, 1, (.t 4))], none⟩,
    ⟨some 6, .bslice 1 [(.v (.int .i64 0))] 1 [(0, 1, (.c (.v (.int .i64 1))))], none⟩,
    ⟨some 7, .bslice 1 [(.v (.int .i64 0))] 1 [(0, 1, (.c (.v (.int .i64 0))))], none⟩,
    ⟨some 8, .bslice 1 [(.v (.slice none 0 0))] 2 [(0, 1, (.t 6)), (1, 1, (.t 7))], none⟩,
    ⟨some 9, .bslice 1 [(.v (.int .i64 0))] 1 [(0, 1, (.c (.v (.int .i64 0))))], none⟩,
    ⟨some 10, .bslice 1 [(.v (.int .i64 0))] 1 [(0, 1, (.c (.v (.int .i64 0))))], none⟩,
    ⟨some 11, .bslice 1 [(.v (.int .i64 0))] 1 [(0, 1, (.c (.v (.int .i64 1))))], none⟩,
    ⟨some 12, .bslice 1 [(.v (.slice none 0 0))] 2 [(0, 1, (.t 10)), (1, 1, (.t 11))], none⟩,
    ⟨some 13, .build [(.v (.slice none 0 0)), (.v (.slice none 0 0)), (.v (.slice none 0 0)), (.v (.slice none 0 0))] [(0, 1, (.t 5)), (1, 1, (.t 8)), (2, 1, (.t 9)), (3, 1, (.t 12))], none⟩,
    ⟨some 1, .alloc (.agg [(.v (.slice none 0 0)), (.v (.slice none 0 0)), (.v (.slice none 0 0)), (.v (.slice none 0 0))]), none⟩,
    ⟨none, .store 4 (.t 1) (.t 13), none⟩])
  (.seq (.ops [⟨some 14, .load 4 true (.t 1), none⟩,
    ⟨some 15, .call 13 [(.t 14)], none⟩,
    ⟨some 2, .alloc (.agg [(.v (.slice none 0 0)), (.v (.slice none 0 0)), (.v (.slice none 0 0)), (.v (.slice none 0 0))]), none⟩,
    ⟨none, .store 4 (.t 2) (.t 15), none⟩])
  (.seq (.seq (.ops [⟨some 16, .faddr 1 (.t 2), none⟩,
    ⟨some 17, .load 1 false (.t 16), none⟩,
    ⟨some 18, .len false (.t 17), none⟩,
    ⟨some 19, .bin .neq false (.t 18) (.c (.v (.int .i64 4))), none⟩,
    ⟨some 20, .mov (.t 19), none⟩,
    ⟨some 21, .faddr 3 (.t 2), some (20, false)⟩,
    ⟨some 22, .load 1 false (.t 21), some (20, false)⟩,
    ⟨some 23, .len false (.t 22), some (20, false)⟩,
    ⟨some 24, .bin .neq false (.t 23) (.c (.v (.int .i64 1))), some (20, false)⟩,
    ⟨some 25, .pick (.t 20) (.c (.v (.bool true))) (.t 24), none⟩])
  (.cond (.t 25)
    (.seq (.ops [⟨some 0, .mov (.c (.v (.bool false))), none⟩])
    .ret)
    .skip))
  (.seq (.ops [⟨some 26, .faddr 1 (.t 2), none⟩,
    ⟨some 27, .load 1 false (.t 26), none⟩,
    ⟨some 28, .iaddr 1 (.t 27) (.c (.v (.int .i64 0))), none⟩,
    ⟨some 29, .load 1 false (.t 28), none⟩,
    ⟨some 30, .bslice 1 [(.v (.int .i64 0))] 1 [(0, 1, (.c (.v (.int .i64 3))))], none⟩,
    ⟨some 31, .call 18 [(.t 29), (.t 30)], none⟩,
    ⟨some 32, .mov (.t 31), none⟩,
    ⟨some 33, .faddr 1 (.t 2), some (32, true)⟩,
    ⟨some 34, .load 1 false (.t 33), some (32, true)⟩,
    ⟨some 35, .iaddr 1 (.t 34) (.c (.v (.int .i64 1))), some (32, true)⟩,
    ⟨some 36, .load 1 false (.t 35), some (32, true)⟩,
    ⟨some 37, .bslice 1 [(.v (.int .i64 0))] 1 [(0, 1, (.c (.v (.int .i64 3))))], some (32, true)⟩,
    ⟨some 38, .call 18 [(.t 36), (.t 37)], some (32, true)⟩,
    ⟨some 39, .pick (.t 32) (.t 38) (.c (.v (.bool false))), none⟩,
    ⟨some 40, .mov (.t 39), none⟩,
    ⟨some 41, .faddr 1 (.t 2), some (40, true)⟩,
    ⟨some 42, .load 1 false (.t 41), some (40, true)⟩,
    ⟨some 43, .iaddr 1 (.t 42) (.c (.v (.int .i64 2))), some (40, true)⟩,
    ⟨some 44, .load 1 false (.t 43), some (40, true)⟩,
    ⟨some 45, .bslice 1 [(.v (.int .i64 0))] 1 [(0, 1, (.c (.v (.int .i64 0))))], some (40, true)⟩,
    ⟨some 46, .call 18 [(.t 44), (.t 45)], some (40, true)⟩,
    ⟨some 47, .pick (.t 40) (.t 46) (.c (.v (.bool false))), none⟩,
    ⟨some 48, .mov (.t 47), none⟩,
    ⟨some 49, .faddr 1 (.t 2), some (48, true)⟩,
    ⟨some 50, .load 1 false (.t 49), some (48, true)⟩,
    ⟨some 51, .iaddr 1 (.t 50) (.c (.v (.int .i64 3))), some (48, true)⟩,
    ⟨some 52, .load 1 false (.t 51), some (48, true)⟩,
    ⟨some 53, .bslice 1 [(.v (.int .i64 0))] 1 [(0, 1, (.c (.v (.int .i64 0))))], some (48, true)⟩,
    ⟨some 54, .call 18 [(.t 52), (.t 53)], some (48, true)⟩,
    ⟨some 55, .pick (.t 48) (.t 54) (.c (.v (.bool false))), none⟩,
    ⟨some 56, .mov (.t 55), none⟩,
    ⟨some 57, .faddr 2 (.t 2), some (56, true)⟩,
    ⟨some 58, .load 1 false (.t 57), some (56, true)⟩,
    ⟨some 59, .bslice 1 [(.v (.int .i64 0))] 1 [(0, 1, (.c (.v (.int .i64 0))))], some (56, true)⟩,
    ⟨some 60, .call 18 [(.t 58), (.t 59)], some (56, true)⟩,
    ⟨some 61, .pick (.t 56) (.t 60) (.c (.v (.bool false))), none⟩,
    ⟨some 62, .mov (.t 61), none⟩,
    ⟨some 63, .faddr 3 (.t 2), some (62, true)⟩,
    ⟨some 64, .load 1 false (.t 63), some (62, true)⟩,
    ⟨some 65, .iaddr 1 (.t 64) (.c (.v (.int .i64 0))), some (62, true)⟩,
    ⟨some 66, .load 1 false (.t 65), some (62, true)⟩,
    ⟨some 67, .bslice 1 [(.v (.int .i64 0))] 1 [(0, 1, (.c (.v (.int .i64 0))))], some (62, true)⟩,
    ⟨some 68, .call 18 [(.t 66), (.t 67)], some (62, true)⟩,
    ⟨some 69, .pick (.t 62) (.t 68) (.c (.v (.bool false))), none⟩,
    ⟨some 70, .mov (.t 69), none⟩,
    ⟨some 71, .faddr 0 (.t 2), some (70, true)⟩,
    ⟨some 72, .load 1 false (.t 71), some (70, true)⟩,
    ⟨some 73, .iaddr 1 (.t 72) (.c (.v (.int .i64 0))), some (70, true)⟩,
    ⟨some 74, .load 1 false (.t 73), some (70, true)⟩,
    ⟨some 75, .len false (.t 74), some (70, true)⟩,
    ⟨some 76, .bin .eql false (.t 75) (.c (.v (.int .i64 0))), some (70, true)⟩,
    ⟨some 77, .pick (.t 70) (.t 76) (.c (.v (.bool false))), none⟩,
    ⟨some 78, .mov (.t 77), none⟩,
    ⟨some 79, .faddr 0 (.t 2), some (78, true)⟩,
    ⟨some 80, .load 1 false (.t 79), some (78, true)⟩,
    ⟨some 81, .iaddr 1 (.t 80) (.c (.v (.int .i64 3))), some (78, true)⟩,
    ⟨some 82, .load 1 false (.t 81), some (78, true)⟩,
    ⟨some 83, .len false (.t 82), some (78, true)⟩,
    ⟨some 84, .bin .eql false (.t 83) (.c (.v (.int .i64 1))), some (78, true)⟩,
    ⟨some 85, .pick (.t 78) (.t 84) (.c (.v (.bool false))), none⟩,
    ⟨some 0, .mov (.t 85), none⟩])
  .ret)))))⟩ := by kernel_rfl

set_option maxRecDepth 100000 in
theorem ir9 : compF Try.prog 9 = some ⟨112, [.t 4],
  (.seq (.ops [⟨some 2, .box (.t 0), none⟩,
    ⟨some 4, .mov (.c (.v (.bool false))), none⟩])
  (.seq (.ops [⟨some 11, .faddr 2 (.t 2), none⟩,
    ⟨some 12, .load 1 false (.t 11), none⟩,
    ⟨some 13, .len false (.t 12), none⟩,
    ⟨some 14, .faddr 3 (.t 2), none⟩,
    ⟨some 15, .load 1 false (.t 14), none⟩,
    ⟨some 16, .len false (.t 15), none⟩,
    ⟨some 17, .bin .add false (.t 13) (.t 16), none⟩,
    ⟨some 5, .mov (.t 17), none⟩])
  (.seq (.seq (.ops [⟨some 6, .mov (.c (.v (.int .i64 0))), none⟩])
  (.block 0 (.loop
    (.seq (.seq (.ops [⟨some 18, .mov (.t 6), none⟩,
      ⟨some 19, .faddr 1 (.t 2), none⟩,
      ⟨some 20, .load 1 false (.t 19), none⟩,
      ⟨some 21, .len false (.t 20), none⟩,
      ⟨some 22, .bin .lss false (.t 18) (.t 21), none⟩,
      ⟨some 23, .mov (.t 22), none⟩,
      ⟨some 24, .mov (.t 5), some (23, true)⟩,
      ⟨some 25, .bin .lss false (.t 24) (.c (.v (.int .i64 4000))), some (23, true)⟩,
      ⟨some 26, .pick (.t 23) (.t 25) (.c (.v (.bool false))), none⟩])
    (.cond (.t 26)
      .skip
      (.exit 0)))
    (.seq (.block 1 (.ops [⟨some 29, .mov (.t 5), none⟩,
      ⟨some 30, .faddr 1 (.t 2), none⟩,
      ⟨some 31, .load 1 false (.t 30), none⟩,
      ⟨some 32, .mov (.t 6), none⟩,
      ⟨some 33, .iaddr 1 (.t 31) (.t 32), none⟩,
      ⟨some 34, .load 1 false (.t 33), none⟩,
      ⟨some 35, .len false (.t 34), none⟩,
      ⟨some 36, .bin .add false (.t 29) (.t 35), none⟩,
      ⟨some 5, .mov (.t 36), none⟩]))
    (.ops [⟨some 27, .mov (.t 6), none⟩,
      ⟨some 28, .bin .add false (.t 27) (.c (.v (.int .i64 1))), none⟩,
      ⟨some 6, .mov (.t 28), none⟩]))))))
  (.seq (.seq (.ops [⟨some 7, .mov (.c (.v (.int .i64 0))), none⟩])
  (.block 2 (.loop
    (.seq (.seq (.ops [⟨some 37, .mov (.t 7), none⟩,
      ⟨some 38, .faddr 3 (.t 2), none⟩,
      ⟨some 39, .load 1 false (.t 38), none⟩,
      ⟨some 40, .len false (.t 39), none⟩,
      ⟨some 41, .bin .lss false (.t 37) (.t 40), none⟩,
      ⟨some 42, .mov (.t 41), none⟩,
      ⟨some 43, .mov (.t 5), some (42, true)⟩,
      ⟨some 44, .bin .lss false (.t 43) (.c (.v (.int .i64 4000))), some (42, true)⟩,
      ⟨some 45, .pick (.t 42) (.t 44) (.c (.v (.bool false))), none⟩])
    (.cond (.t 45)
      .skip
      (.exit 2)))
    (.seq (.block 3 (.ops [⟨some 48, .mov (.t 5), none⟩,
      ⟨some 49, .faddr 3 (.t 2), none⟩,
      ⟨some 50, .load 1 false (.t 49), none⟩,
      ⟨some 51, .mov (.t 7), none⟩,
      ⟨some 52, .iaddr 1 (.t 50) (.t 51), none⟩,
      ⟨some 53, .load 1 false (.t 52), none⟩,
      ⟨some 54, .len false (.t 53), none⟩,
      ⟨some 55, .bin .add false (.t 48) (.t 54), none⟩,
      ⟨some 5, .mov (.t 55), none⟩]))
    (.ops [⟨some 46, .mov (.t 7), none⟩,
      ⟨some 47, .bin .add false (.t 46) (.c (.v (.int .i64 1))), none⟩,
      ⟨some 7, .mov (.t 47), none⟩]))))))
  (.seq (.seq (.ops [⟨some 8, .mov (.c (.v (.int .i64 0))), none⟩])
  (.block 4 (.loop
    (.seq (.seq (.ops [⟨some 56, .mov (.t 8), none⟩,
      ⟨some 57, .faddr 0 (.t 2), none⟩,
      ⟨some 58, .load 1 false (.t 57), none⟩,
      ⟨some 59, .len false (.t 58), none⟩,
      ⟨some 60, .bin .lss false (.t 56) (.t 59), none⟩,
      ⟨some 61, .mov (.t 60), none⟩,
      ⟨some 62, .mov (.t 5), some (61, true)⟩,
      ⟨some 63, .bin .lss false (.t 62) (.c (.v (.int .i64 4000))), some (61, true)⟩,
      ⟨some 64, .pick (.t 61) (.t 63) (.c (.v (.bool false))), none⟩])
    (.cond (.t 64)
      .skip
      (.exit 4)))
    (.seq (.block 5 (.seq (.ops [⟨some 67, .mov (.t 5), none⟩,
      ⟨some 68, .faddr 0 (.t 2), none⟩,
      ⟨some 69, .load 1 false (.t 68), none⟩,
      ⟨some 70, .mov (.t 8), none⟩,
      ⟨some 71, .iaddr 1 (.t 69) (.t 70), none⟩,
      ⟨some 72, .load 1 false (.t 71), none⟩,
      ⟨some 73, .len false (.t 72), none⟩,
      ⟨some 74, .bin .add false (.t 67) (.t 73), none⟩,
      ⟨some 5, .mov (.t 74), none⟩])
    (.seq (.ops [⟨some 9, .mov (.c (.v (.int .i64 0))), none⟩])
    (.block 6 (.loop
      (.seq (.seq (.ops [⟨some 75, .mov (.t 9), none⟩,
        ⟨some 76, .faddr 0 (.t 2), none⟩,
        ⟨some 77, .load 1 false (.t 76), none⟩,
        ⟨some 78, .mov (.t 8), none⟩,
        ⟨some 79, .iaddr 1 (.t 77) (.t 78), none⟩,
        ⟨some 80, .load 1 false (.t 79), none⟩,
        ⟨some 81, .len false (.t 80), none⟩,
        ⟨some 82, .bin .lss false (.t 75) (.t 81), none⟩])
      (.cond (.t 82)
        .skip
        (.exit 6)))
      (.seq (.block 7 (.seq (.ops [⟨some 85, .faddr 0 (.t 2), none⟩,
        ⟨some 86, .load 1 false (.t 85), none⟩,
        ⟨some 87, .mov (.t 8), none⟩,
        ⟨some 88, .iaddr 1 (.t 86) (.t 87), none⟩,
        ⟨some 89, .load 1 false (.t 88), none⟩,
        ⟨some 90, .mov (.t 9), none⟩,
        ⟨some 91, .iaddr 4 (.t 89) (.t 90), none⟩,
        ⟨some 92, .load 4 true (.t 91), none⟩,
        ⟨some 93, .call 19 [(.t 92)], none⟩,
        ⟨some 10, .mov (.t 93), none⟩])
      (.seq (.ops [⟨some 94, .mov (.t 10), none⟩,
        ⟨some 95, .un .not (.t 94), none⟩])
      (.cond (.t 95)
        (.seq (.ops [⟨some 4, .mov (.c (.v (.bool false))), none⟩])
        .ret)
        .skip))))
      (.ops [⟨some 83, .mov (.t 9), none⟩,
        ⟨some 84, .bin .add false (.t 83) (.c (.v (.int .i64 1))), none⟩,
        ⟨some 9, .mov (.t 84), none⟩]))))))))
    (.ops [⟨some 65, .mov (.t 8), none⟩,
      ⟨some 66, .bin .add false (.t 65) (.c (.v (.int .i64 1))), none⟩,
      ⟨some 8, .mov (.t 66), none⟩]))))))
  (.seq (.ops [⟨some 96, .mov (.t 5), none⟩,
    ⟨some 97, .bin .lss false (.t 96) (.c (.v (.int .i64 4000))), none⟩,
    ⟨some 98, .mov (.t 97), none⟩,
    ⟨some 99, .faddr 0 (.t 2), some (98, true)⟩,
    ⟨some 100, .load 1 false (.t 99), some (98, true)⟩,
    ⟨some 101, .len false (.t 100), some (98, true)⟩,
    ⟨some 102, .mov (.t 1), some (98, true)⟩,
    ⟨some 103, .bin .leq false (.t 101) (.t 102), some (98, true)⟩,
    ⟨some 104, .pick (.t 98) (.t 103) (.c (.v (.bool false))), none⟩,
    ⟨some 105, .mov (.t 104), none⟩,
    ⟨some 106, .faddr 1 (.t 2), some (105, true)⟩,
    ⟨some 107, .load 1 false (.t 106), some (105, true)⟩,
    ⟨some 108, .len false (.t 107), some (105, true)⟩,
    ⟨some 109, .mov (.t 1), some (105, true)⟩,
    ⟨some 110, .bin .leq false (.t 108) (.t 109), some (105, true)⟩,
    ⟨some 111, .pick (.t 105) (.t 110) (.c (.v (.bool false))), none⟩,
    ⟨some 4, .mov (.t 111), none⟩])
  .ret))))))⟩ := by kernel_rfl

theorem ir10 : compF Try.prog 10 = some ⟨37, [.t 4],
  (.seq (.ops [⟨some 2, .box (.t 0), none⟩,
    ⟨some 4, .mov (.c (.v (.bool false))), none⟩])
  (.seq (.seq (.ops [⟨some 5, .mov (.c (.v (.int .i64 0))), none⟩])
  (.block 0 (.loop
    (.seq (.seq (.ops [⟨some 8, .mov (.t 5), none⟩,
      ⟨some 9, .faddr 0 (.t 2), none⟩,
      ⟨some 10, .load 1 false (.t 9), none⟩,
      ⟨some 11, .len false (.t 10), none⟩,
      ⟨some 12, .bin .lss false (.t 8) (.t 11), none⟩])
    (.cond (.t 12)
      .skip
      (.exit 0)))
    (.seq (.block 1 (.seq (.ops [⟨some 6, .mov (.c (.v (.int .i64 0))), none⟩])
    (.block 2 (.loop
      (.seq (.seq (.ops [⟨some 15, .mov (.t 6), none⟩,
        ⟨some 16, .faddr 0 (.t 2), none⟩,
        ⟨some 17, .load 1 false (.t 16), none⟩,
        ⟨some 18, .mov (.t 5), none⟩,
        ⟨some 19, .iaddr 1 (.t 17) (.t 18), none⟩,
        ⟨some 20, .load 1 false (.t 19), none⟩,
        ⟨some 21, .len false (.t 20), none⟩,
        ⟨some 22, .bin .lss false (.t 15) (.t 21), none⟩])
      (.cond (.t 22)
        .skip
        (.exit 2)))
      (.seq (.block 3 (.seq (.ops [⟨some 25, .faddr 0 (.t 2), none⟩,
        ⟨some 26, .load 1 false (.t 25), none⟩,
        ⟨some 27, .mov (.t 5), none⟩,
        ⟨some 28, .iaddr 1 (.t 26) (.t 27), none⟩,
        ⟨some 29, .load 1 false (.t 28), none⟩,
        ⟨some 30, .mov (.t 6), none⟩,
        ⟨some 31, .iaddr 4 (.t 29) (.t 30), none⟩,
        ⟨some 32, .load 4 true (.t 31), none⟩,
        ⟨some 33, .mov (.t 1), none⟩,
        ⟨some 34, .call 20 [(.t 32), (.t 33)], none⟩,
        ⟨some 7, .mov (.t 34), none⟩])
      (.seq (.ops [⟨some 35, .mov (.t 7), none⟩,
        ⟨some 36, .un .not (.t 35), none⟩])
      (.cond (.t 36)
        (.seq (.ops [⟨some 4, .mov (.c (.v (.bool false))), none⟩])
        .ret)
        .skip))))
      (.ops [⟨some 23, .mov (.t 6), none⟩,
        ⟨some 24, .bin .add false (.t 23) (.c (.v (.int .i64 1))), none⟩,
        ⟨some 6, .mov (.t 24), none⟩])))))))
    (.ops [⟨some 13, .mov (.t 5), none⟩,
      ⟨some 14, .bin .add false (.t 13) (.c (.v (.int .i64 1))), none⟩,
      ⟨some 5, .mov (.t 14), none⟩]))))))
  (.seq (.ops [⟨some 4, .mov (.c (.v (.bool true))), none⟩])
  .ret)))⟩ := by kernel_rfl

theorem ir11 : compF Try.prog 11 = some ⟨78, [.t 2],
  (.seq (.ops [⟨some 1, .box (.t 0), none⟩,
    ⟨some 2, .mov (.c (.v (.bool false))), none⟩])
  (.seq (.ops [⟨some 11, .faddr 0 (.t 1), none⟩,
    ⟨some 12, .load 1 false (.t 11), none⟩,
    ⟨some 13, .len false (.t 12), none⟩,
    ⟨some 3, .mov (.t 13), none⟩])
  (.seq (.ops [⟨some 14, .faddr 2 (.t 1), none⟩,
    ⟨some 15, .load 1 false (.t 14), none⟩,
    ⟨some 16, .mov (.t 3), none⟩,
    ⟨some 17, .call 21 [(.t 15), (.t 16)], none⟩,
    ⟨some 4, .mov (.t 17), none⟩])
  (.seq (.seq (.ops [⟨some 18, .mov (.t 4), none⟩,
    ⟨some 19, .un .not (.t 18), none⟩,
    ⟨some 20, .mov (.t 19), none⟩,
    ⟨some 21, .faddr 1 (.t 1), some (20, false)⟩,
    ⟨some 22, .load 1 false (.t 21), some (20, false)⟩,
    ⟨some 23, .len false (.t 22), some (20, false)⟩,
    ⟨some 24, .mov (.t 3), some (20, false)⟩,
    ⟨some 25, .bin .neq false (.t 23) (.t 24), some (20, false)⟩,
    ⟨some 26, .pick (.t 20) (.c (.v (.bool true))) (.t 25), none⟩])
  (.cond (.t 26)
    (.seq (.ops [⟨some 2, .mov (.c (.v (.bool false))), none⟩])
    .ret)
    .skip))
  (.seq (.seq (.ops [⟨some 5, .mov (.c (.v (.int .i64 0))), none⟩])
  (.block 0 (.loop
    (.seq (.seq (.ops [⟨some 27, .mov (.t 5), none⟩,
      ⟨some 28, .mov (.t 3), none⟩,
      ⟨some 29, .bin .lss false (.t 27) (.t 28), none⟩])
    (.cond (.t 29)
      .skip
      (.exit 0)))
    (.seq (.block 1 (.seq (.ops [⟨some 32, .faddr 1 (.t 1), none⟩,
      ⟨some 33, .load 1 false (.t 32), none⟩,
      ⟨some 34, .mov (.t 5), none⟩,
      ⟨some 35, .iaddr 1 (.t 33) (.t 34), none⟩,
      ⟨some 36, .load 1 false (.t 35), none⟩,
      ⟨some 37, .mov (.t 3), none⟩,
      ⟨some 38, .call 21 [(.t 36), (.t 37)], none⟩,
      ⟨some 6, .mov (.t 38), none⟩])
    (.seq (.seq (.ops [⟨some 39, .mov (.t 6), none⟩,
      ⟨some 40, .un .not (.t 39), none⟩])
    (.cond (.t 40)
      (.seq (.ops [⟨some 2, .mov (.c (.v (.bool false))), none⟩])
      .ret)
      .skip))
    (.seq (.ops [⟨some 7, .mov (.c (.v (.int .i64 0))), none⟩])
    (.block 2 (.loop
      (.seq (.seq (.ops [⟨some 41, .mov (.t 7), none⟩,
        ⟨some 42, .faddr 0 (.t 1), none⟩,
        ⟨some 43, .load 1 false (.t 42), none⟩,
        ⟨some 44, .mov (.t 5), none⟩,
        ⟨some 45, .iaddr 1 (.t 43) (.t 44), none⟩,
        ⟨some 46, .load 1 false (.t 45), none⟩,
        ⟨some 47, .len false (.t 46), none⟩,
        ⟨some 48, .bin .lss false (.t 41) (.t 47), none⟩])
      (.cond (.t 48)
        .skip
        (.exit 2)))
      (.seq (.block 3 (.seq (.ops [⟨some 51, .faddr 0 (.t 1), none⟩,
        ⟨some 52, .load 1 false (.t 51), none⟩,
        ⟨some 53, .mov (.t 5), none⟩,
        ⟨some 54, .iaddr 1 (.t 52) (.t 53), none⟩,
        ⟨some 55, .load 1 false (.t 54), none⟩,
        ⟨some 56, .mov (.t 7), none⟩,
        ⟨some 57, .iaddr 4 (.t 55) (.t 56), none⟩,
        ⟨some 58, .load 4 true (.t 57), none⟩,
        ⟨some 59, .call 22 [(.t 58)], none⟩,
        ⟨some 8, .mov (.t 59), none⟩])
      (.seq (.ops [⟨some 60, .mov (.t 8), none⟩,
        ⟨some 61, .un .not (.t 60), none⟩])
      (.cond (.t 61)
        (.seq (.ops [⟨some 2, .mov (.c (.v (.bool false))), none⟩])
        .ret)
        .skip))))
      (.ops [⟨some 49, .mov (.t 7), none⟩,
        ⟨some 50, .bin .add false (.t 49) (.c (.v (.int .i64 1))), none⟩,
        ⟨some 7, .mov (.t 50), none⟩])))))))))
    (.ops [⟨some 30, .mov (.t 5), none⟩,
      ⟨some 31, .bin .add false (.t 30) (.c (.v (.int .i64 1))), none⟩,
      ⟨some 5, .mov (.t 31), none⟩]))))))
  (.seq (.seq (.ops [⟨some 9, .mov (.c (.v (.int .i64 0))), none⟩])
  (.block 4 (.loop
    (.seq (.seq (.ops [⟨some 62, .mov (.t 9), none⟩,
      ⟨some 63, .faddr 3 (.t 1), none⟩,
      ⟨some 64, .load 1 false (.t 63), none⟩,
      ⟨some 65, .len false (.t 64), none⟩,
      ⟨some 66, .bin .lss false (.t 62) (.t 65), none⟩])
    (.cond (.t 66)
      .skip
      (.exit 4)))
    (.seq (.block 5 (.seq (.ops [⟨some 69, .faddr 3 (.t 1), none⟩,
      ⟨some 70, .load 1 false (.t 69), none⟩,
      ⟨some 71, .mov (.t 9), none⟩,
      ⟨some 72, .iaddr 1 (.t 70) (.t 71), none⟩,
      ⟨some 73, .load 1 false (.t 72), none⟩,
      ⟨some 74, .mov (.t 3), none⟩,
      ⟨some 75, .call 21 [(.t 73), (.t 74)], none⟩,
      ⟨some 10, .mov (.t 75), none⟩])
    (.seq (.ops [⟨some 76, .mov (.t 10), none⟩,
      ⟨some 77, .un .not (.t 76), none⟩])
    (.cond (.t 77)
      (.seq (.ops [⟨some 2, .mov (.c (.v (.bool false))), none⟩])
      .ret)
      .skip))))
    (.ops [⟨some 67, .mov (.t 9), none⟩,
      ⟨some 68, .bin .add false (.t 67) (.c (.v (.int .i64 1))), none⟩,
      ⟨some 9, .mov (.t 68), none⟩]))))))
  (.seq (.ops [⟨some 2, .mov (.c (.v (.bool true))), none⟩])
  .ret)))))))⟩ := by kernel_rfl

theorem ir12 : compF Try.prog 12 = some ⟨94, [.t 4],
  (.seq (.ops [⟨some 2, .box (.t 0), none⟩,
    ⟨some 3, .box (.t 1), none⟩,
    ⟨some 4, .mov (.c (.v (.bool false))), none⟩])
  (.seq (.ops [⟨some 11, .faddr 1 (.t 2), none⟩,
    ⟨some 12, .load 1 false (.t 11), none⟩,
    ⟨some 13, .faddr 1 (.t 3), none⟩,
    ⟨some 14, .load 1 false (.t 13), none⟩,
    ⟨some 15, .call 17 [(.t 12), (.t 14)], none⟩,
    ⟨some 5, .mov (.t 15), none⟩])
  (.seq (.ops [⟨some 16, .faddr 3 (.t 2), none⟩,
    ⟨some 17, .load 1 false (.t 16), none⟩,
    ⟨some 18, .faddr 3 (.t 3), none⟩,
    ⟨some 19, .load 1 false (.t 18), none⟩,
    ⟨some 20, .call 17 [(.t 17), (.t 19)], none⟩,
    ⟨some 6, .mov (.t 20), none⟩])
  (.seq (.ops [⟨some 21, .faddr 2 (.t 2), none⟩,
    ⟨some 22, .load 1 false (.t 21), none⟩,
    ⟨some 23, .faddr 2 (.t 3), none⟩,
    ⟨some 24, .load 1 false (.t 23), none⟩,
    ⟨some 25, .call 18 [(.t 22), (.t 24)], none⟩,
    ⟨some 7, .mov (.t 25), none⟩])
  (.seq (.seq (.ops [⟨some 26, .mov (.t 5), none⟩,
    ⟨some 27, .un .not (.t 26), none⟩,
    ⟨some 28, .mov (.t 27), none⟩,
    ⟨some 29, .mov (.t 6), some (28, false)⟩,
    ⟨some 30, .un .not (.t 29), some (28, false)⟩,
    ⟨some 31, .pick (.t 28) (.c (.v (.bool true))) (.t 30), none⟩,
    ⟨some 32, .mov (.t 31), none⟩,
    ⟨some 33, .mov (.t 7), some (32, false)⟩,
    ⟨some 34, .un .not (.t 33), some (32, false)⟩,
    ⟨some 35, .pick (.t 32) (.c (.v (.bool true))) (.t 34), none⟩,
    ⟨some 36, .mov (.t 35), none⟩,
    ⟨some 37, .faddr 0 (.t 2), some (36, false)⟩,
    ⟨some 38, .load 1 false (.t 37), some (36, false)⟩,
    ⟨some 39, .len false (.t 38), some (36, false)⟩,
    ⟨some 40, .faddr 0 (.t 3), some (36, false)⟩,
    ⟨some 41, .load 1 false (.t 40), some (36, false)⟩,
    ⟨some 42, .len false (.t 41), some (36, false)⟩,
    ⟨some 43, .bin .neq false (.t 39) (.t 42), some (36, false)⟩,
    ⟨some 44, .pick (.t 36) (.c (.v (.bool true))) (.t 43), none⟩])
  (.cond (.t 44)
    (.seq (.ops [⟨some 4, .mov (.c (.v (.bool false))), none⟩])
    .ret)
    .skip))
  (.seq (.seq (.ops [⟨some 8, .mov (.c (.v (.int .i64 0))), none⟩])
  (.block 0 (.loop
    (.seq (.seq (.ops [⟨some 45, .mov (.t 8), none⟩,
      ⟨some 46, .faddr 0 (.t 2), none⟩,
      ⟨some 47, .load 1 false (.t 46), none⟩,
      ⟨some 48, .len false (.t 47), none⟩,
      ⟨some 49, .bin .lss false (.t 45) (.t 48), none⟩])
    (.cond (.t 49)
      .skip
      (.exit 0)))
    (.seq (.block 1 (.seq (.seq (.draw [[⟨some 52, .faddr 0 (.t 2), none⟩,
        ⟨some 53, .load 1 false (.t 52), none⟩,
        ⟨some 54, .mov (.t 8), none⟩,
        ⟨some 55, .iaddr 1 (.t 53) (.t 54), none⟩,
        ⟨some 56, .load 1 false (.t 55), none⟩,
        ⟨some 57, .len false (.t 56), none⟩,
        ⟨some 58, .faddr 0 (.t 3), none⟩,
        ⟨some 59, .load 1 false (.t 58), none⟩,
        ⟨some 60, .mov (.t 8), none⟩,
        ⟨some 61, .iaddr 1 (.t 59) (.t 60), none⟩,
        ⟨some 62, .load 1 false (.t 61), none⟩,
        ⟨some 63, .len false (.t 62), none⟩],
      [⟨some 64, .bin .neq false (.t 57) (.t 63), none⟩]])
    (.cond (.t 64)
      (.seq (.ops [⟨some 4, .mov (.c (.v (.bool false))), none⟩])
      .ret)
      .skip))
    (.seq (.ops [⟨some 9, .mov (.c (.v (.int .i64 0))), none⟩])
    (.block 2 (.loop
      (.seq (.seq (.ops [⟨some 65, .mov (.t 9), none⟩,
        ⟨some 66, .faddr 0 (.t 2), none⟩,
        ⟨some 67, .load 1 false (.t 66), none⟩,
        ⟨some 68, .mov (.t 8), none⟩,
        ⟨some 69, .iaddr 1 (.t 67) (.t 68), none⟩,
        ⟨some 70, .load 1 false (.t 69), none⟩,
        ⟨some 71, .len false (.t 70), none⟩,
        ⟨some 72, .bin .lss false (.t 65) (.t 71), none⟩])
      (.cond (.t 72)
        .skip
        (.exit 2)))
      (.seq (.block 3 (.seq (.draw [[⟨some 75, .faddr 0 (.t 2), none⟩,
          ⟨some 76, .load 1 false (.t 75), none⟩,
          ⟨some 77, .mov (.t 8), none⟩,
          ⟨some 78, .iaddr 1 (.t 76) (.t 77), none⟩,
          ⟨some 79, .load 1 false (.t 78), none⟩,
          ⟨some 80, .mov (.t 9), none⟩,
          ⟨some 81, .iaddr 4 (.t 79) (.t 80), none⟩,
          ⟨some 82, .load 4 true (.t 81), none⟩,
          ⟨some 83, .faddr 0 (.t 3), none⟩,
          ⟨some 84, .load 1 false (.t 83), none⟩,
          ⟨some 85, .mov (.t 8), none⟩,
          ⟨some 86, .iaddr 1 (.t 84) (.t 85), none⟩,
          ⟨some 87, .load 1 false (.t 86), none⟩,
          ⟨some 88, .mov (.t 9), none⟩,
          ⟨some 89, .iaddr 4 (.t 87) (.t 88), none⟩,
          ⟨some 90, .load 4 true (.t 89), none⟩],
        [⟨some 91, .call 23 [(.t 82), (.t 90)], none⟩],
        [⟨some 10, .mov (.t 91), none⟩]])
      (.seq (.ops [⟨some 92, .mov (.t 10), none⟩,
        ⟨some 93, .un .not (.t 92), none⟩])
      (.cond (.t 93)
        (.seq (.ops [⟨some 4, .mov (.c (.v (.bool false))), none⟩])
        .ret)
        .skip))))
      (.ops [⟨some 73, .mov (.t 9), none⟩,
        ⟨some 74, .bin .add false (.t 73) (.c (.v (.int .i64 1))), none⟩,
        ⟨some 9, .mov (.t 74), none⟩]))))))))
    (.ops [⟨some 50, .mov (.t 8), none⟩,
      ⟨some 51, .bin .add false (.t 50) (.c (.v (.int .i64 1))), none⟩,
      ⟨some 8, .mov (.t 51), none⟩]))))))
  (.seq (.ops [⟨some 4, .mov (.c (.v (.bool true))), none⟩])
  .ret)))))))⟩ := by kernel_rfl

set_option maxRecDepth 100000 in
theorem ir13 : compF Try.prog 13 = some ⟨142, [.c 2 4 true],
  (.seq (.ops [⟨some 1, .box (.t 0), none⟩,
    ⟨some 2, .alloc (.agg [(.v (.slice none 0 0)), (.v (.slice none 0 0)), (.v (.slice none 0 0)), (.v (.slice none 0 0))]), none⟩])
  (.seq (.ops [⟨some 20, .faddr 0 (.t 1), none⟩,
    ⟨some 21, .load 1 false (.t 20), none⟩,
    ⟨some 22, .len false (.t 21), none⟩,
    ⟨some 3, .mov (.t 22), none⟩])
  (.seq (.ops [⟨some 23, .faddr 3 (.t 1), none⟩,
    ⟨some 24, .load 1 false (.t 23), none⟩,
    ⟨some 4, .mov (.t 24), none⟩])
  (.seq (.seq (.ops [⟨some 25, .mov (.t 4), none⟩,
    ⟨some 26, .len false (.t 25), none⟩,
    ⟨some 27, .bin .eql false (.t 26) (.c (.v (.int .i64 0))), none⟩])
  (.cond (.t 27)
    (.seq (.ops [⟨some 28, .mov (.t 3), none⟩,
      ⟨some 29, .mksl 1 8 [(.v (.int .i64 0))] (.t 28) (.t 28), none⟩,
      ⟨some 5, .mov (.t 29), none⟩])
    (.seq (.seq (.ops [⟨some 30, .mov (.t 3), none⟩,
      ⟨some 31, .mov (.c (.v (.int .i64 0))), none⟩])
    (.block 0 (.loop
      (.seq (.ops [⟨some 32, .bin .lss false (.t 31) (.t 30), none⟩])
      (.seq (.cond (.t 32)
        .skip
        (.exit 0))
      (.seq (.block 1 (.seq (.ops [⟨some 33, .mov (.t 31), none⟩,
        ⟨some 6, .mov (.t 33), none⟩])
      (.ops [⟨some 34, .mov (.t 5), none⟩,
        ⟨some 35, .mov (.t 6), none⟩,
        ⟨some 36, .mov (.t 6), none⟩,
        ⟨some 37, .iaddr 1 (.t 34) (.t 35), none⟩,
        ⟨none, .store 1 (.t 37) (.t 36), none⟩])))
      (.ops [⟨some 38, .bin .add false (.t 31) (.c (.v (.int .i64 1))), none⟩,
        ⟨some 31, .mov (.t 38), none⟩])))))))
    (.ops [⟨some 39, .mov (.t 5), none⟩,
      ⟨some 40, .bslice 1 [(.v (.slice none 0 0))] 1 [(0, 1, (.t 39))], none⟩,
      ⟨some 4, .mov (.t 40), none⟩])))
    .skip))
  (.seq (.ops [⟨some 41, .mov (.t 4), none⟩,
    ⟨some 42, .len false (.t 41), none⟩,
    ⟨some 7, .mov (.t 42), none⟩])
  (.seq (.ops [⟨some 8, .mov (.c (.fn (.func 24) [] [])), none⟩])
  (.seq (.ops [⟨some 9, .alloc (.agg [(.v (.slice none 0 0)), (.v (.slice none 0 0)), (.v (.slice none 0 0)), (.v (.slice none 0 0))]), none⟩])
  (.seq (.seq (.ops [⟨some 43, .mov (.t 3), none⟩,
    ⟨some 44, .mov (.c (.v (.int .i64 0))), none⟩])
  (.block 2 (.loop
    (.seq (.ops [⟨some 45, .bin .lss false (.t 44) (.t 43), none⟩])
    (.seq (.cond (.t 45)
      .skip
      (.exit 2))
    (.seq (.block 3 (.seq (.ops [⟨some 46, .mov (.t 44), none⟩,
      ⟨some 10, .mov (.t 46), none⟩])
    (.seq (.ops [⟨some 47, .mov (.t 7), none⟩,
      ⟨some 48, .mov (.c (.v (.int .i64 0))), none⟩])
    (.block 4 (.loop
      (.seq (.ops [⟨some 49, .bin .lss false (.t 48) (.t 47), none⟩])
      (.seq (.cond (.t 49)
        .skip
        (.exit 4))
      (.seq (.block 5 (.seq (.ops [⟨some 50, .mov (.t 48), none⟩,
        ⟨some 11, .mov (.t 50), none⟩])
      (.seq (.ops [⟨some 51, .mov (.t 11), none⟩,
        ⟨some 12, .mov (.t 51), none⟩])
      (.seq (.seq (.ops [⟨some 52, .mov (.t 4), none⟩,
        ⟨some 53, .mov (.t 11), none⟩,
        ⟨some 54, .iaddr 1 (.t 52) (.t 53), none⟩,
        ⟨some 55, .load 1 false (.t 54), none⟩,
        ⟨some 56, .mov (.t 10), none⟩,
        ⟨some 57, .call 25 [(.t 55), (.t 56)], none⟩])
      (.cond (.t 57)
        (.ops [⟨some 58, .mov (.t 11), none⟩,
          ⟨some 59, .bin .add false (.t 58) (.c (.v (.int .i64 1))), none⟩,
          ⟨some 60, .mov (.t 7), none⟩,
          ⟨some 61, .bin .rem false (.t 59) (.t 60), none⟩,
          ⟨some 12, .mov (.t 61), none⟩])
        .skip))
      (.seq (.ops [⟨some 62, .bslice 1 [(.v (.int .i64 0))] 0 [], none⟩,
        ⟨some 13, .mov (.t 62), none⟩])
      (.seq (.seq (.ops [⟨some 63, .faddr 1 (.t 1), none⟩,
        ⟨some 64, .load 1 false (.t 63), none⟩,
        ⟨some 65, .mov (.t 10), none⟩,
        ⟨some 66, .iaddr 1 (.t 64) (.t 65), none⟩,
        ⟨some 67, .load 1 false (.t 66), none⟩,
        ⟨some 68, .len false (.t 67), none⟩,
        ⟨some 69, .mov (.c (.v (.int .i64 0))), none⟩])
      (.block 6 (.loop
        (.seq (.ops [⟨some 70, .bin .lss false (.t 69) (.t 68), none⟩])
        (.seq (.cond (.t 70)
          .skip
          (.exit 6))
        (.seq (.block 7 (.seq (.ops [⟨some 71, .iaddr 1 (.t 67) (.t 69), none⟩,
          ⟨some 72, .load 1 false (.t 71), none⟩,
          ⟨some 15, .mov (.t 72), none⟩])
        (.ops [⟨some 73, .mov (.t 13), none⟩,
          ⟨some 74, .mov (.t 8), none⟩,
          ⟨some 75, .mov (.t 15), none⟩,
          ⟨some 76, .mov (.t 12), none⟩,
          ⟨some 77, .build [(.v (.int .i64 0)), (.v (.int .i64 0))] [(0, 1, (.t 75)), (1, 1, (.t 76))], none⟩,
          ⟨some 78, .mov (.t 7), none⟩,
          ⟨some 79, .calld (.t 74) [(.t 77), (.t 78)], none⟩,
          ⟨some 80, .bslice 1 [(.v (.int .i64 0))] 1 [(0, 1, (.t 79))], none⟩,
          ⟨some 81, .append 1 8 [(.v (.int .i64 0))] (.t 73) (.t 80), none⟩,
          ⟨some 13, .mov (.t 81), none⟩])))
        (.ops [⟨some 82, .bin .add false (.t 69) (.c (.v (.int .i64 1))), none⟩,
          ⟨some 69, .mov (.t 82), none⟩])))))))
      (.seq (.draw [[⟨some 83, .faddr 0 (.t 9), none⟩,
          ⟨some 84, .load 1 false (.t 83), none⟩,
          ⟨some 85, .faddr 0 (.t 1), none⟩,
          ⟨some 86, .load 1 false (.t 85), none⟩,
          ⟨some 87, .mov (.t 10), none⟩,
          ⟨some 88, .iaddr 1 (.t 86) (.t 87), none⟩,
          ⟨some 89, .load 1 false (.t 88), none⟩,
          ⟨some 90, .bslice 1 [(.v (.slice none 0 0))] 1 [(0, 1, (.t 89))], none⟩],
        [⟨some 91, .append 1 24 [(.v (.slice none 0 0))] (.t 84) (.t 90), none⟩],
        [⟨some 92, .faddr 0 (.t 9), none⟩],
        [⟨none, .store 1 (.t 92) (.t 91), none⟩]])
      (.ops [⟨some 93, .faddr 1 (.t 9), none⟩,
        ⟨some 94, .load 1 false (.t 93), none⟩,
        ⟨some 95, .mov (.t 13), none⟩,
        ⟨some 96, .bslice 1 [(.v (.slice none 0 0))] 1 [(0, 1, (.t 95))], none⟩,
        ⟨some 97, .append 1 24 [(.v (.slice none 0 0))] (.t 94) (.t 96), none⟩,
        ⟨some 98, .faddr 1 (.t 9), none⟩,
        ⟨none, .store 1 (.t 98) (.t 97), none⟩]))))))))
      (.ops [⟨some 99, .bin .add false (.t 48) (.c (.v (.int .i64 1))), none⟩,
        ⟨some 48, .mov (.t 99), none⟩])))))))))
    (.ops [⟨some 100, .bin .add false (.t 44) (.c (.v (.int .i64 1))), none⟩,
      ⟨some 44, .mov (.t 100), none⟩])))))))
  (.seq (.seq (.ops [⟨some 101, .faddr 2 (.t 1), none⟩,
    ⟨some 102, .load 1 false (.t 101), none⟩,
    ⟨some 103, .len false (.t 102), none⟩,
    ⟨some 104, .mov (.c (.v (.int .i64 0))), none⟩])
  (.block 8 (.loop
    (.seq (.ops [⟨some 105, .bin .lss false (.t 104) (.t 103), none⟩])
    (.seq (.cond (.t 105)
      .skip
      (.exit 8))
    (.seq (.block 9 (.seq (.ops [⟨some 106, .iaddr 1 (.t 102) (.t 104), none⟩,
      ⟨some 107, .load 1 false (.t 106), none⟩,
      ⟨some 17, .mov (.t 107), none⟩])
    (.draw [[⟨some 108, .faddr 2 (.t 9), none⟩,
        ⟨some 109, .load 1 false (.t 108), none⟩,
        ⟨some 110, .mov (.t 8), none⟩,
        ⟨some 111, .mov (.t 17), none⟩,
        ⟨some 112, .build [(.v (.int .i64 0)), (.v (.int .i64 0))] [(0, 1, (.t 111)), (1, 1, (.c (.v (.int .i64 0))))], none⟩,
        ⟨some 113, .mov (.t 7), none⟩,
        ⟨some 114, .calld (.t 110) [(.t 112), (.t 113)], none⟩,
        ⟨some 115, .bslice 1 [(.v (.int .i64 0))] 1 [(0, 1, (.t 114))], none⟩],
      [⟨some 116, .append 1 8 [(.v (.int .i64 0))] (.t 109) (.t 115), none⟩],
      [⟨some 117, .faddr 2 (.t 9), none⟩],
      [⟨none, .store 1 (.t 117) (.t 116), none⟩]])))
    (.ops [⟨some 118, .bin .add false (.t 104) (.c (.v (.int .i64 1))), none⟩,
      ⟨some 104, .mov (.t 118), none⟩])))))))
  (.seq (.ops [⟨some 119, .bslice 1 [(.v (.int .i64 0))] 0 [], none⟩,
    ⟨some 18, .mov (.t 119), none⟩])
  (.seq (.seq (.ops [⟨some 120, .mov (.t 3), none⟩,
    ⟨some 121, .mov (.c (.v (.int .i64 0))), none⟩])
  (.block 10 (.loop
    (.seq (.ops [⟨some 122, .bin .lss false (.t 121) (.t 120), none⟩])
    (.seq (.cond (.t 122)
      .skip
      (.exit 10))
    (.seq (.block 11 (.seq (.ops [⟨some 123, .mov (.t 121), none⟩,
      ⟨some 19, .mov (.t 123), none⟩])
    (.seq (.ops [⟨some 124, .mov (.t 4), none⟩,
      ⟨some 125, .iaddr 1 (.t 124) (.c (.v (.int .i64 0))), none⟩,
      ⟨some 126, .load 1 false (.t 125), none⟩,
      ⟨some 127, .mov (.t 19), none⟩,
      ⟨some 128, .call 25 [(.t 126), (.t 127)], none⟩])
    (.cond (.t 128)
      (.ops [⟨some 129, .mov (.t 18), none⟩,
        ⟨some 130, .mov (.t 8), none⟩,
        ⟨some 131, .mov (.t 19), none⟩,
        ⟨some 132, .build [(.v (.int .i64 0)), (.v (.int .i64 0))] [(0, 1, (.t 131)), (1, 1, (.c (.v (.int .i64 0))))], none⟩,
        ⟨some 133, .mov (.t 7), none⟩,
        ⟨some 134, .calld (.t 130) [(.t 132), (.t 133)], none⟩,
        ⟨some 135, .bslice 1 [(.v (.int .i64 0))] 1 [(0, 1, (.t 134))], none⟩,
        ⟨some 136, .append 1 8 [(.v (.int .i64 0))] (.t 129) (.t 135), none⟩,
        ⟨some 18, .mov (.t 136), none⟩])
      .skip))))
    (.ops [⟨some 137, .bin .add false (.t 121) (.c (.v (.int .i64 1))), none⟩,
      ⟨some 121, .mov (.t 137), none⟩])))))))
  (.seq (.ops [⟨some 138, .mov (.t 18), none⟩,
    ⟨some 139, .bslice 1 [(.v (.slice none 0 0))] 1 [(0, 1, (.t 138))], none⟩,
    ⟨some 140, .faddr 3 (.t 9), none⟩,
    ⟨none, .store 1 (.t 140) (.t 139), none⟩])
  (.seq (.ops [⟨some 141, .load 4 true (.t 9), none⟩,
    ⟨none, .store 4 (.t 2) (.t 141), none⟩])
  .ret)))))))))))))⟩ := by kernel_rfl

set_option maxRecDepth 100000 in
theorem ir14 : compF Try.prog 14 = some ⟨130, [.c 2 4 true],
  (.seq (.ops [⟨some 1, .box (.t 0), none⟩,
    ⟨some 2, .alloc (.agg [(.v (.slice none 0 0)), (.v (.slice none 0 0)), (.v (.slice none 0 0)), (.v (.slice none 0 0))]), none⟩])
  (.seq (.ops [⟨some 14, .load 4 true (.t 1), none⟩,
    ⟨some 15, .call 26 [(.t 14)], none⟩,
    ⟨some 3, .mov (.t 15), none⟩])
  (.seq (.ops [⟨some 16, .mov (.t 3), none⟩,
    ⟨some 17, .len false (.t 16), none⟩,
    ⟨some 4, .mov (.t 17), none⟩])
  (.seq (.ops [⟨some 18, .bslice 1 [(.v (.slice none 0 0))] 1 [(0, 1, (.c (.v (.slice none 0 0))))], none⟩,
    ⟨some 19, .build [(.v (.slice none 0 0)), (.v (.slice none 0 0)), (.v (.slice none 0 0)), (.v (.slice none 0 0))] [(3, 1, (.t 18))], none⟩,
    ⟨some 5, .alloc (.agg [(.v (.slice none 0 0)), (.v (.slice none 0 0)), (.v (.slice none 0 0)), (.v (.slice none 0 0))]), none⟩,
    ⟨none, .store 4 (.t 5) (.t 19), none⟩])
  (.seq (.seq (.ops [⟨some 6, .mov (.c (.v (.int .i64 0))), none⟩])
  (.block 0 (.loop
    (.seq (.seq (.ops [⟨some 20, .mov (.t 6), none⟩,
      ⟨some 21, .mov (.t 4), none⟩,
      ⟨some 22, .faddr 0 (.t 1), none⟩,
      ⟨some 23, .load 1 false (.t 22), none⟩,
      ⟨some 24, .len false (.t 23), none⟩,
      ⟨some 25, .bin .mul false (.t 21) (.t 24), none⟩,
      ⟨some 26, .bin .lss false (.t 20) (.t 25), none⟩])
    (.cond (.t 26)
      .skip
      (.exit 0)))
    (.seq (.block 1 (.seq (.ops [⟨some 29, .mov (.t 6), none⟩,
      ⟨some 30, .mov (.t 4), none⟩,
      ⟨some 31, .bin .quo false (.t 29) (.t 30), none⟩,
      ⟨some 7, .mov (.t 31), none⟩])
    (.seq (.ops [⟨some 32, .mov (.t 6), none⟩,
      ⟨some 33, .mov (.t 4), none⟩,
      ⟨some 34, .bin .rem false (.t 32) (.t 33), none⟩,
      ⟨some 8, .mov (.t 34), none⟩])
    (.seq (.ops [⟨some 35, .mov (.t 3), none⟩,
      ⟨some 36, .mov (.t 8), none⟩,
      ⟨some 37, .iaddr 1 (.t 35) (.t 36), none⟩,
      ⟨some 38, .load 1 false (.t 37), none⟩,
      ⟨some 39, .mov (.t 7), none⟩,
      ⟨some 40, .call 27 [(.t 38), (.t 39)], none⟩,
      ⟨some 9, .mov (.t 40), none⟩])
    (.seq (.seq (.ops [⟨some 41, .mov (.t 9), none⟩])
    (.cond (.t 41)
      (.ops [⟨some 42, .mov (.t 8), none⟩,
        ⟨some 43, .bin .add false (.t 42) (.c (.v (.int .i64 1))), none⟩,
        ⟨some 8, .mov (.t 43), none⟩])
      .skip))
    (.seq (.seq (.ops [⟨some 44, .mov (.t 8), none⟩,
      ⟨some 45, .mov (.t 4), none⟩,
      ⟨some 46, .bin .eql false (.t 44) (.t 45), none⟩])
    (.cond (.t 46)
      (.ops [⟨some 8, .mov (.c (.v (.int .i64 0))), none⟩])
      .skip))
    (.seq (.ops [⟨some 10, .mov (.c (.v (.slice none 0 0))), none⟩])
    (.seq (.seq (.ops [⟨some 11, .mov (.c (.v (.int .i64 0))), none⟩])
    (.block 2 (.loop
      (.seq (.seq (.ops [⟨some 47, .mov (.t 11), none⟩,
        ⟨some 48, .faddr 1 (.t 1), none⟩,
        ⟨some 49, .load 1 false (.t 48), none⟩,
        ⟨some 50, .mov (.t 7), none⟩,
        ⟨some 51, .iaddr 1 (.t 49) (.t 50), none⟩,
        ⟨some 52, .load 1 false (.t 51), none⟩,
        ⟨some 53, .len false (.t 52), none⟩,
        ⟨some 54, .bin .lss false (.t 47) (.t 53), none⟩])
      (.cond (.t 54)
        .skip
        (.exit 2)))
      (.seq (.block 3 (.ops [⟨some 57, .mov (.t 10), none⟩,
        ⟨some 58, .faddr 1 (.t 1), none⟩,
        ⟨some 59, .load 1 false (.t 58), none⟩,
        ⟨some 60, .mov (.t 7), none⟩,
        ⟨some 61, .iaddr 1 (.t 59) (.t 60), none⟩,
        ⟨some 62, .load 1 false (.t 61), none⟩,
        ⟨some 63, .mov (.t 11), none⟩,
        ⟨some 64, .iaddr 1 (.t 62) (.t 63), none⟩,
        ⟨some 65, .load 1 false (.t 64), none⟩,
        ⟨some 66, .mov (.t 4), none⟩,
        ⟨some 67, .bin .mul false (.t 65) (.t 66), none⟩,
        ⟨some 68, .mov (.t 8), none⟩,
        ⟨some 69, .bin .add false (.t 67) (.t 68), none⟩,
        ⟨some 70, .bslice 1 [(.v (.int .i64 0))] 1 [(0, 1, (.t 69))], none⟩,
        ⟨some 71, .append 1 8 [(.v (.int .i64 0))] (.t 57) (.t 70), none⟩,
        ⟨some 10, .mov (.t 71), none⟩]))
      (.ops [⟨some 55, .mov (.t 11), none⟩,
        ⟨some 56, .bin .add false (.t 55) (.c (.v (.int .i64 1))), none⟩,
        ⟨some 11, .mov (.t 56), none⟩]))))))
    (.seq (.draw [[⟨some 72, .faddr 0 (.t 5), none⟩,
        ⟨some 73, .load 1 false (.t 72), none⟩,
        ⟨some 74, .faddr 0 (.t 1), none⟩,
        ⟨some 75, .load 1 false (.t 74), none⟩,
        ⟨some 76, .mov (.t 7), none⟩,
        ⟨some 77, .iaddr 1 (.t 75) (.t 76), none⟩,
        ⟨some 78, .load 1 false (.t 77), none⟩,
        ⟨some 79, .bslice 1 [(.v (.slice none 0 0))] 1 [(0, 1, (.t 78))], none⟩],
      [⟨some 80, .append 1 24 [(.v (.slice none 0 0))] (.t 73) (.t 79), none⟩],
      [⟨some 81, .faddr 0 (.t 5), none⟩],
      [⟨none, .store 1 (.t 81) (.t 80), none⟩]])
    (.seq (.ops [⟨some 82, .faddr 1 (.t 5), none⟩,
      ⟨some 83, .load 1 false (.t 82), none⟩,
      ⟨some 84, .mov (.t 10), none⟩,
      ⟨some 85, .bslice 1 [(.v (.slice none 0 0))] 1 [(0, 1, (.t 84))], none⟩,
      ⟨some 86, .append 1 24 [(.v (.slice none 0 0))] (.t 83) (.t 85), none⟩,
      ⟨some 87, .faddr 1 (.t 5), none⟩,
      ⟨none, .store 1 (.t 87) (.t 86), none⟩])
    (.seq (.ops [⟨some 88, .mov (.t 3), none⟩,
      ⟨some 89, .iaddr 1 (.t 88) (.c (.v (.int .i64 0))), none⟩,
      ⟨some 90, .load 1 false (.t 89), none⟩,
      ⟨some 91, .mov (.t 7), none⟩,
      ⟨some 92, .call 27 [(.t 90), (.t 91)], none⟩,
      ⟨some 12, .mov (.t 92), none⟩])
    (.seq (.ops [⟨some 93, .mov (.t 6), none⟩,
      ⟨some 94, .mov (.t 4), none⟩,
      ⟨some 95, .bin .rem false (.t 93) (.t 94), none⟩,
      ⟨some 96, .bin .eql false (.t 95) (.c (.v (.int .i64 0))), none⟩,
      ⟨some 97, .mov (.t 96), none⟩,
      ⟨some 98, .mov (.t 12), some (97, true)⟩,
      ⟨some 99, .pick (.t 97) (.t 98) (.c (.v (.bool false))), none⟩])
    (.cond (.t 99)
      (.drawF [([0, 1], [⟨some 100, .faddr 3 (.t 5), none⟩,
          ⟨some 101, .load 1 false (.t 100), none⟩,
          ⟨some 102, .faddr 3 (.t 5), none⟩,
          ⟨some 103, .load 1 false (.t 102), none⟩,
          ⟨some 104, .iaddr 1 (.t 103) (.c (.v (.int .i64 0))), none⟩,
          ⟨some 105, .load 1 false (.t 104), none⟩,
          ⟨some 106, .mov (.t 6), none⟩,
          ⟨some 107, .bslice 1 [(.v (.int .i64 0))] 1 [(0, 1, (.t 106))], none⟩,
          ⟨some 108, .append 1 8 [(.v (.int .i64 0))] (.t 105) (.t 107), none⟩]),
        ([], [⟨some 109, .iaddr 1 (.t 101) (.c (.v (.int .i64 0))), none⟩]),
        ([], [⟨none, .store 1 (.t 109) (.t 108), none⟩])])
      .skip)))))))))))))
    (.ops [⟨some 27, .mov (.t 6), none⟩,
      ⟨some 28, .bin .add false (.t 27) (.c (.v (.int .i64 1))), none⟩,
      ⟨some 6, .mov (.t 28), none⟩]))))))
  (.seq (.seq (.ops [⟨some 13, .mov (.c (.v (.int .i64 0))), none⟩])
  (.block 4 (.loop
    (.seq (.seq (.ops [⟨some 110, .mov (.t 13), none⟩,
      ⟨some 111, .faddr 2 (.t 1), none⟩,
      ⟨some 112, .load 1 false (.t 111), none⟩,
      ⟨some 113, .len false (.t 112), none⟩,
      ⟨some 114, .bin .lss false (.t 110) (.t 113), none⟩])
    (.cond (.t 114)
      .skip
      (.exit 4)))
    (.seq (.block 5 (.draw [[⟨some 117, .faddr 2 (.t 5), none⟩,
        ⟨some 118, .load 1 false (.t 117), none⟩,
        ⟨some 119, .faddr 2 (.t 1), none⟩,
        ⟨some 120, .load 1 false (.t 119), none⟩,
        ⟨some 121, .mov (.t 13), none⟩,
        ⟨some 122, .iaddr 1 (.t 120) (.t 121), none⟩,
        ⟨some 123, .load 1 false (.t 122), none⟩,
        ⟨some 124, .mov (.t 4), none⟩,
        ⟨some 125, .bin .mul false (.t 123) (.t 124), none⟩,
        ⟨some 126, .bslice 1 [(.v (.int .i64 0))] 1 [(0, 1, (.t 125))], none⟩],
      [⟨some 127, .append 1 8 [(.v (.int .i64 0))] (.t 118) (.t 126), none⟩],
      [⟨some 128, .faddr 2 (.t 5), none⟩],
      [⟨none, .store 1 (.t 128) (.t 127), none⟩]]))
    (.ops [⟨some 115, .mov (.t 13), none⟩,
      ⟨some 116, .bin .add false (.t 115) (.c (.v (.int .i64 1))), none⟩,
      ⟨some 13, .mov (.t 116), none⟩]))))))
  (.seq (.ops [⟨some 129, .load 4 true (.t 5), none⟩,
    ⟨none, .store 4 (.t 2) (.t 129), none⟩])
  .ret)))))))⟩ := by kernel_rfl

theorem ir15 : compF Try.prog 15 = some ⟨20, [.t 2],
  (.seq (.ops [⟨some 1, .box (.t 0), none⟩,
    ⟨some 2, .mov (.c (.v (.bool false))), none⟩])
  (.seq (.ops [⟨some 3, .faddr 0 (.t 1), none⟩,
    ⟨some 4, .load 1 false (.t 3), none⟩,
    ⟨some 5, .len false (.t 4), none⟩,
    ⟨some 6, .bin .geq false (.t 5) (.c (.v (.int .i64 1))), none⟩,
    ⟨some 7, .mov (.t 6), none⟩,
    ⟨some 8, .faddr 1 (.t 1), some (7, true)⟩,
    ⟨some 9, .load 1 false (.t 8), some (7, true)⟩,
    ⟨some 10, .bin .geq false (.t 9) (.c (.v (.int .i64 0))), some (7, true)⟩,
    ⟨some 11, .pick (.t 7) (.t 10) (.c (.v (.bool false))), none⟩,
    ⟨some 12, .mov (.t 11), none⟩,
    ⟨some 13, .faddr 1 (.t 1), some (12, true)⟩,
    ⟨some 14, .load 1 false (.t 13), some (12, true)⟩,
    ⟨some 15, .faddr 0 (.t 1), some (12, true)⟩,
    ⟨some 16, .load 1 false (.t 15), some (12, true)⟩,
    ⟨some 17, .len false (.t 16), some (12, true)⟩,
    ⟨some 18, .bin .lss false (.t 14) (.t 17), some (12, true)⟩,
    ⟨some 19, .pick (.t 12) (.t 18) (.c (.v (.bool false))), none⟩,
    ⟨some 2, .mov (.t 19), none⟩])
  .ret))⟩ := by kernel_rfl

set_option maxRecDepth 100000 in
theorem ir16 : compF Try.prog 16 = some ⟨150, [.t 4],
  (.seq (.ops [⟨some 2, .box (.t 0), none⟩,
    ⟨some 3, .box (.t 1), none⟩,
    ⟨some 4, .mov (.c (.v (.bool false))), none⟩])
  (.seq (.ops [⟨some 23, .faddr 0 (.t 2), none⟩,
    ⟨some 24, .load 1 false (.t 23), none⟩,
    ⟨some 25, .len false (.t 24), none⟩,
    ⟨some 5, .mov (.t 25), none⟩])
  (.seq (.ops [⟨some 6, .mov (.c (.v (.slice none 0 0))), none⟩])
  (.seq (.ops [⟨some 7, .mov (.c (.v (.slice none 0 0))), none⟩])
  (.seq (.seq (.ops [⟨some 8, .mov (.c (.v (.int .i64 0))), none⟩])
  (.block 0 (.loop
    (.seq (.seq (.ops [⟨some 26, .mov (.t 8), none⟩,
      ⟨some 27, .faddr 0 (.t 3), none⟩,
      ⟨some 28, .load 1 false (.t 27), none⟩,
      ⟨some 29, .len false (.t 28), none⟩,
      ⟨some 30, .bin .lss false (.t 26) (.t 29), none⟩])
    (.cond (.t 30)
      .skip
      (.exit 0)))
    (.seq (.block 1 (.seq (.ops [⟨some 9, .mov (.c (.v (.int .i64 0))), none⟩])
    (.block 2 (.loop
      (.seq (.seq (.ops [⟨some 33, .mov (.t 9), none⟩,
        ⟨some 34, .mov (.t 5), none⟩,
        ⟨some 35, .bin .lss false (.t 33) (.t 34), none⟩])
      (.cond (.t 35)
        .skip
        (.exit 2)))
      (.seq (.block 3 (.seq (.ops [⟨some 38, .load 2 true (.t 3), none⟩,
        ⟨some 39, .mov (.t 8), none⟩,
        ⟨some 40, .call 28 [(.t 38), (.t 39)], none⟩,
        ⟨some 10, .mov (.t 40), none⟩])
      (.seq (.ops [⟨some 11, .mov (.c (.v (.slice none 0 0))), none⟩])
      (.seq (.seq (.ops [⟨some 12, .mov (.c (.v (.int .i64 0))), none⟩])
      (.block 4 (.loop
        (.seq (.seq (.ops [⟨some 41, .mov (.t 12), none⟩,
          ⟨some 42, .faddr 1 (.t 2), none⟩,
          ⟨some 43, .load 1 false (.t 42), none⟩,
          ⟨some 44, .mov (.t 9), none⟩,
          ⟨some 45, .iaddr 1 (.t 43) (.t 44), none⟩,
          ⟨some 46, .load 1 false (.t 45), none⟩,
          ⟨some 47, .len false (.t 46), none⟩,
          ⟨some 48, .bin .lss false (.t 41) (.t 47), none⟩])
        (.cond (.t 48)
          .skip
          (.exit 4)))
        (.seq (.block 5 (.ops [⟨some 51, .mov (.t 11), none⟩,
          ⟨some 52, .mov (.t 10), none⟩,
          ⟨some 53, .mov (.t 5), none⟩,
          ⟨some 54, .bin .mul false (.t 52) (.t 53), none⟩,
          ⟨some 55, .faddr 1 (.t 2), none⟩,
          ⟨some 56, .load 1 false (.t 55), none⟩,
          ⟨some 57, .mov (.t 9), none⟩,
          ⟨some 58, .iaddr 1 (.t 56) (.t 57), none⟩,
          ⟨some 59, .load 1 false (.t 58), none⟩,
          ⟨some 60, .mov (.t 12), none⟩,
          ⟨some 61, .iaddr 1 (.t 59) (.t 60), none⟩,
          ⟨some 62, .load 1 false (.t 61), none⟩,
          ⟨some 63, .bin .add false (.t 54) (.t 62), none⟩,
          ⟨some 64, .bslice 1 [(.v (.int .i64 0))] 1 [(0, 1, (.t 63))], none⟩,
          ⟨some 65, .append 1 8 [(.v (.int .i64 0))] (.t 51) (.t 64), none⟩,
          ⟨some 11, .mov (.t 65), none⟩]))
        (.ops [⟨some 49, .mov (.t 12), none⟩,
          ⟨some 50, .bin .add false (.t 49) (.c (.v (.int .i64 1))), none⟩,
          ⟨some 12, .mov (.t 50), none⟩]))))))
      (.seq (.ops [⟨some 66, .mov (.t 6), none⟩,
        ⟨some 67, .mov (.t 11), none⟩,
        ⟨some 68, .bslice 1 [(.v (.slice none 0 0))] 1 [(0, 1, (.t 67))], none⟩,
        ⟨some 69, .append 1 24 [(.v (.slice none 0 0))] (.t 66) (.t 68), none⟩,
        ⟨some 6, .mov (.t 69), none⟩])
      (.seq (.draw [[⟨some 70, .load 4 true (.t 2), none⟩,
          ⟨some 71, .mov (.t 9), none⟩,
          ⟨some 72, .faddr 0 (.t 3), none⟩,
          ⟨some 73, .load 1 false (.t 72), none⟩,
          ⟨some 74, .mov (.t 8), none⟩,
          ⟨some 75, .iaddr 1 (.t 73) (.t 74), none⟩,
          ⟨some 76, .load 1 false (.t 75), none⟩],
        [⟨some 77, .call 29 [(.t 70), (.t 71), (.t 76)], none⟩],
        [⟨some 13, .mov (.t 77), none⟩]])
      (.ops [⟨some 78, .mov (.t 7), none⟩,
        ⟨some 79, .mov (.t 13), none⟩,
        ⟨some 80, .bslice 1 [(.v (.bool false))] 1 [(0, 1, (.t 79))], none⟩,
        ⟨some 81, .append 1 1 [(.v (.bool false))] (.t 78) (.t 80), none⟩,
        ⟨some 7, .mov (.t 81), none⟩])))))))
      (.ops [⟨some 36, .mov (.t 9), none⟩,
        ⟨some 37, .bin .add false (.t 36) (.c (.v (.int .i64 1))), none⟩,
        ⟨some 9, .mov (.t 37), none⟩])))))))
    (.ops [⟨some 31, .mov (.t 8), none⟩,
      ⟨some 32, .bin .add false (.t 31) (.c (.v (.int .i64 1))), none⟩,
      ⟨some 8, .mov (.t 32), none⟩]))))))
  (.seq (.ops [⟨some 14, .mov (.c (.v (.slice none 0 0))), none⟩])
  (.seq (.seq (.ops [⟨some 15, .mov (.c (.v (.int .i64 0))), none⟩])
  (.block 6 (.loop
    (.seq (.seq (.ops [⟨some 82, .mov (.t 15), none⟩,
      ⟨some 83, .faddr 3 (.t 2), none⟩,
      ⟨some 84, .load 1 false (.t 83), none⟩,
      ⟨some 85, .len false (.t 84), none⟩,
      ⟨some 86, .bin .lss false (.t 82) (.t 85), none⟩])
    (.cond (.t 86)
      .skip
      (.exit 6)))
    (.seq (.block 7 (.seq (.ops [⟨some 16, .mov (.c (.v (.slice none 0 0))), none⟩])
    (.seq (.seq (.ops [⟨some 17, .mov (.c (.v (.int .i64 0))), none⟩])
    (.block 8 (.loop
      (.seq (.seq (.ops [⟨some 89, .mov (.t 17), none⟩,
        ⟨some 90, .mov (.t 6), none⟩,
        ⟨some 91, .len false (.t 90), none⟩,
        ⟨some 92, .bin .lss false (.t 89) (.t 91), none⟩])
      (.cond (.t 92)
        .skip
        (.exit 8)))
      (.seq (.block 9 (.seq (.draw [[⟨some 95, .faddr 3 (.t 2), none⟩,
          ⟨some 96, .load 1 false (.t 95), none⟩,
          ⟨some 97, .mov (.t 15), none⟩,
          ⟨some 98, .iaddr 1 (.t 96) (.t 97), none⟩,
          ⟨some 99, .load 1 false (.t 98), none⟩,
          ⟨some 100, .mov (.t 17), none⟩,
          ⟨some 101, .mov (.t 5), none⟩,
          ⟨some 102, .bin .rem false (.t 100) (.t 101), none⟩],
        [⟨some 103, .call 30 [(.t 99), (.t 102)], none⟩],
        [⟨some 18, .mov (.t 103), none⟩]])
      (.ops [⟨some 104, .mov (.t 16), none⟩,
        ⟨some 105, .mov (.t 18), none⟩,
        ⟨some 106, .bslice 1 [(.v (.bool false))] 1 [(0, 1, (.t 105))], none⟩,
        ⟨some 107, .append 1 1 [(.v (.bool false))] (.t 104) (.t 106), none⟩,
        ⟨some 16, .mov (.t 107), none⟩])))
      (.ops [⟨some 93, .mov (.t 17), none⟩,
        ⟨some 94, .bin .add false (.t 93) (.c (.v (.int .i64 1))), none⟩,
        ⟨some 17, .mov (.t 94), none⟩]))))))
    (.ops [⟨some 108, .mov (.t 14), none⟩,
      ⟨some 109, .mov (.t 16), none⟩,
      ⟨some 110, .bslice 1 [(.v (.slice none 0 0))] 1 [(0, 1, (.t 109))], none⟩,
      ⟨some 111, .append 1 24 [(.v (.slice none 0 0))] (.t 108) (.t 110), none⟩,
      ⟨some 14, .mov (.t 111), none⟩]))))
    (.ops [⟨some 87, .mov (.t 15), none⟩,
      ⟨some 88, .bin .add false (.t 87) (.c (.v (.int .i64 1))), none⟩,
      ⟨some 15, .mov (.t 88), none⟩]))))))
  (.seq (.seq (.ops [⟨some 112, .mov (.t 14), none⟩,
    ⟨some 113, .len false (.t 112), none⟩,
    ⟨some 114, .bin .eql false (.t 113) (.c (.v (.int .i64 0))), none⟩])
  (.cond (.t 114)
    (.seq (.ops [⟨some 115, .mov (.t 6), none⟩,
      ⟨some 116, .len false (.t 115), none⟩,
      ⟨some 117, .mksl 1 1 [(.v (.bool false))] (.t 116) (.t 116), none⟩,
      ⟨some 19, .mov (.t 117), none⟩])
    (.seq (.seq (.ops [⟨some 20, .mov (.c (.v (.int .i64 0))), none⟩])
    (.block 10 (.loop
      (.seq (.seq (.ops [⟨some 118, .mov (.t 20), none⟩,
        ⟨some 119, .mov (.t 19), none⟩,
        ⟨some 120, .len false (.t 119), none⟩,
        ⟨some 121, .bin .lss false (.t 118) (.t 120), none⟩])
      (.cond (.t 121)
        .skip
        (.exit 10)))
      (.seq (.block 11 (.ops [⟨some 124, .mov (.t 19), none⟩,
        ⟨some 125, .mov (.t 20), none⟩,
        ⟨some 126, .iaddr 1 (.t 124) (.t 125), none⟩,
        ⟨none, .store 1 (.t 126) (.c (.v (.bool true))), none⟩]))
      (.ops [⟨some 122, .mov (.t 20), none⟩,
        ⟨some 123, .bin .add false (.t 122) (.c (.v (.int .i64 1))), none⟩,
        ⟨some 20, .mov (.t 123), none⟩]))))))
    (.ops [⟨some 127, .mov (.t 14), none⟩,
      ⟨some 128, .mov (.t 19), none⟩,
      ⟨some 129, .bslice 1 [(.v (.slice none 0 0))] 1 [(0, 1, (.t 128))], none⟩,
      ⟨some 130, .append 1 24 [(.v (.slice none 0 0))] (.t 127) (.t 129), none⟩,
      ⟨some 14, .mov (.t 130), none⟩])))
    .skip))
  (.seq (.ops [⟨some 131, .mov (.t 6), none⟩,
    ⟨some 132, .mov (.t 7), none⟩,
    ⟨some 133, .mov (.t 14), none⟩,
    ⟨some 134, .call 31 [(.t 131), (.t 132), (.t 133)], none⟩,
    ⟨some 21, .mov (.t 134), none⟩])
  (.seq (.seq (.ops [⟨some 22, .mov (.c (.v (.int .i64 0))), none⟩])
  (.block 12 (.loop
    (.seq (.seq (.ops [⟨some 135, .mov (.t 22), none⟩,
      ⟨some 136, .faddr 2 (.t 2), none⟩,
      ⟨some 137, .load 1 false (.t 136), none⟩,
      ⟨some 138, .len false (.t 137), none⟩,
      ⟨some 139, .bin .lss false (.t 135) (.t 138), none⟩])
    (.cond (.t 139)
      .skip
      (.exit 12)))
    (.seq (.block 13 (.seq (.ops [⟨some 142, .mov (.t 21), none⟩,
      ⟨some 143, .faddr 2 (.t 2), none⟩,
      ⟨some 144, .load 1 false (.t 143), none⟩,
      ⟨some 145, .mov (.t 22), none⟩,
      ⟨some 146, .iaddr 1 (.t 144) (.t 145), none⟩,
      ⟨some 147, .load 1 false (.t 146), none⟩,
      ⟨some 148, .iaddr 1 (.t 142) (.t 147), none⟩,
      ⟨some 149, .load 1 false (.t 148), none⟩])
    (.cond (.t 149)
      (.seq (.ops [⟨some 4, .mov (.c (.v (.bool true))), none⟩])
      .ret)
      .skip)))
    (.ops [⟨some 140, .mov (.t 22), none⟩,
      ⟨some 141, .bin .add false (.t 140) (.c (.v (.int .i64 1))), none⟩,
      ⟨some 22, .mov (.t 141), none⟩]))))))
  (.seq (.ops [⟨some 4, .mov (.c (.v (.bool false))), none⟩])
  .ret)))))))))))⟩ := by kernel_rfl

theorem ir17 : compF Try.prog 17 = some ⟨8, [.t 4],
  (.seq (.ops [⟨some 4, .mov (.c (.v (.bool false))), none⟩])
  (.seq (.ops [⟨some 5, .mov (.t 0), none⟩,
    ⟨some 6, .mov (.t 1), none⟩,
    ⟨some 7, .call 32 [(.t 5), (.t 6)], none⟩,
    ⟨some 4, .mov (.t 7), none⟩])
  .ret))⟩ := by kernel_rfl

theorem ir18 : compF Try.prog 18 = some ⟨26, [.t 4],
  (.seq (.ops [⟨some 4, .mov (.c (.v (.bool false))), none⟩])
  (.seq (.seq (.ops [⟨some 6, .mov (.t 0), none⟩,
    ⟨some 7, .len false (.t 6), none⟩,
    ⟨some 8, .mov (.t 1), none⟩,
    ⟨some 9, .len false (.t 8), none⟩,
    ⟨some 10, .bin .neq false (.t 7) (.t 9), none⟩])
  (.cond (.t 10)
    (.seq (.ops [⟨some 4, .mov (.c (.v (.bool false))), none⟩])
    .ret)
    .skip))
  (.seq (.seq (.ops [⟨some 5, .mov (.c (.v (.int .i64 0))), none⟩])
  (.block 0 (.loop
    (.seq (.seq (.ops [⟨some 11, .mov (.t 5), none⟩,
      ⟨some 12, .mov (.t 0), none⟩,
      ⟨some 13, .len false (.t 12), none⟩,
      ⟨some 14, .bin .lss false (.t 11) (.t 13), none⟩])
    (.cond (.t 14)
      .skip
      (.exit 0)))
    (.seq (.block 1 (.seq (.draw [[⟨some 17, .mov (.t 0), none⟩,
        ⟨some 18, .mov (.t 5), none⟩,
        ⟨some 19, .iaddr 1 (.t 17) (.t 18), none⟩,
        ⟨some 20, .load 1 false (.t 19), none⟩,
        ⟨some 21, .mov (.t 1), none⟩,
        ⟨some 22, .mov (.t 5), none⟩,
        ⟨some 23, .iaddr 1 (.t 21) (.t 22), none⟩,
        ⟨some 24, .load 1 false (.t 23), none⟩],
      [⟨some 25, .bin .neq false (.t 20) (.t 24), none⟩]])
    (.cond (.t 25)
      (.seq (.ops [⟨some 4, .mov (.c (.v (.bool false))), none⟩])
      .ret)
      .skip)))
    (.ops [⟨some 15, .mov (.t 5), none⟩,
      ⟨some 16, .bin .add false (.t 15) (.c (.v (.int .i64 1))), none⟩,
      ⟨some 5, .mov (.t 16), none⟩]))))))
  (.seq (.ops [⟨some 4, .mov (.c (.v (.bool true))), none⟩])
  .ret))))⟩ := by kernel_rfl

theorem ir19 : compF Try.prog 19 = some ⟨15, [.t 2],
  (.seq (.ops [⟨some 1, .box (.t 0), none⟩,
    ⟨some 2, .mov (.c (.v (.bool false))), none⟩])
  (.seq (.ops [⟨some 5, .load 4 true (.t 1), none⟩,
    ⟨some 6, .call 33 [(.t 5), (.c (.v (.int .i64 45)))], none⟩,
    ⟨some 3, .mov (.t 6), none⟩])
  (.seq (.ops [⟨some 7, .load 4 true (.t 1), none⟩,
    ⟨some 8, .call 34 [(.t 7), (.c (.v (.int .i64 300)))], none⟩,
    ⟨some 4, .mov (.t 8), none⟩])
  (.seq (.ops [⟨some 9, .mov (.t 3), none⟩,
    ⟨some 10, .bin .lss false (.t 9) (.c (.v (.int .i64 45))), none⟩,
    ⟨some 11, .mov (.t 10), none⟩,
    ⟨some 12, .mov (.t 4), some (11, true)⟩,
    ⟨some 13, .bin .lss false (.t 12) (.c (.v (.int .i64 300))), some (11, true)⟩,
    ⟨some 14, .pick (.t 11) (.t 13) (.c (.v (.bool false))), none⟩,
    ⟨some 2, .mov (.t 14), none⟩])
  .ret))))⟩ := by kernel_rfl

set_option maxRecDepth 100000 in
theorem ir20 : compF Try.prog 20 = some ⟨89, [.t 4],
  (.seq (.ops [⟨some 2, .box (.t 0), none⟩,
    ⟨some 4, .mov (.c (.v (.bool false))), none⟩])
  (.seq (.ops [⟨some 5, .mov (.c (.v (.int .i64 2))), none⟩])
  (.seq (.seq (.ops [⟨some 8, .faddr 0 (.t 2), none⟩,
    ⟨some 9, .load 1 false (.t 8), none⟩])
  (.block 0 (.seq (.seq (.ops [⟨some 11, .bin .eql false (.t 9) (.c (.v (.int .i64 1))), none⟩,
    ⟨some 10, .mov (.t 11), none⟩])
  (.cond (.t 10)
    .skip
    (.seq (.ops [⟨some 12, .bin .eql false (.t 9) (.c (.v (.int .i64 2))), none⟩,
      ⟨some 10, .mov (.t 12), none⟩])
    (.cond (.t 10)
      .skip
      (.seq (.ops [⟨some 13, .bin .eql false (.t 9) (.c (.v (.int .i64 13))), none⟩,
        ⟨some 10, .mov (.t 13), none⟩])
      (.cond (.t 10)
        .skip
        (.ops [⟨some 14, .bin .eql false (.t 9) (.c (.v (.int .i64 14))), none⟩,
          ⟨some 10, .mov (.t 14), none⟩])))))))
  (.cond (.t 10)
    (.ops [⟨some 5, .mov (.c (.v (.int .i64 0))), none⟩])
    (.seq (.seq (.ops [⟨some 16, .bin .eql false (.t 9) (.c (.v (.int .i64 6))), none⟩,
      ⟨some 15, .mov (.t 16), none⟩])
    (.cond (.t 15)
      .skip
      (.seq (.ops [⟨some 17, .bin .eql false (.t 9) (.c (.v (.int .i64 15))), none⟩,
        ⟨some 15, .mov (.t 17), none⟩])
      (.cond (.t 15)
        .skip
        (.seq (.ops [⟨some 18, .bin .eql false (.t 9) (.c (.v (.int .i64 20))), none⟩,
          ⟨some 15, .mov (.t 18), none⟩])
        (.cond (.t 15)
          .skip
          (.seq (.ops [⟨some 19, .bin .eql false (.t 9) (.c (.v (.int .i64 21))), none⟩,
            ⟨some 15, .mov (.t 19), none⟩])
          (.cond (.t 15)
            .skip
            (.ops [⟨some 20, .bin .eql false (.t 9) (.c (.v (.int .i64 22))), none⟩,
              ⟨some 15, .mov (.t 20), none⟩])))))))))
    (.cond (.t 15)
      (.ops [⟨some 5, .mov (.c (.v (.int .i64 1))), none⟩])
      .skip))))))
  (.seq (.seq (.ops [⟨some 21, .faddr 0 (.t 2), none⟩,
    ⟨some 22, .load 1 false (.t 21), none⟩,
    ⟨some 23, .bin .lss false (.t 22) (.c (.v (.int .i64 1))), none⟩,
    ⟨some 24, .mov (.t 23), none⟩,
    ⟨some 25, .faddr 0 (.t 2), some (24, false)⟩,
    ⟨some 26, .load 1 false (.t 25), some (24, false)⟩,
    ⟨some 27, .bin .gtr false (.t 26) (.c (.v (.int .i64 24))), some (24, false)⟩,
    ⟨some 28, .pick (.t 24) (.c (.v (.bool true))) (.t 27), none⟩,
    ⟨some 29, .mov (.t 28), none⟩,
    ⟨some 30, .faddr 3 (.t 2), some (29, false)⟩,
    ⟨some 31, .load 1 false (.t 30), some (29, false)⟩,
    ⟨some 32, .len false (.t 31), some (29, false)⟩,
    ⟨some 33, .mov (.t 5), some (29, false)⟩,
    ⟨some 34, .bin .neq false (.t 32) (.t 33), some (29, false)⟩,
    ⟨some 35, .pick (.t 29) (.c (.v (.bool true))) (.t 34), none⟩])
  (.cond (.t 35)
    (.seq (.ops [⟨some 4, .mov (.c (.v (.bool false))), none⟩])
    .ret)
    .skip))
  (.seq (.seq (.ops [⟨some 36, .faddr 0 (.t 2), none⟩,
    ⟨some 37, .load 1 false (.t 36), none⟩,
    ⟨some 38, .bin .eql false (.t 37) (.c (.v (.int .i64 1))), none⟩,
    ⟨some 39, .mov (.t 38), none⟩,
    ⟨some 40, .faddr 1 (.t 2), some (39, true)⟩,
    ⟨some 41, .load 1 false (.t 40), some (39, true)⟩,
    ⟨some 42, .bin .lss false (.t 41) (.c (.v (.int .i64 0))), some (39, true)⟩,
    ⟨some 43, .mov (.t 42), some (39, true)⟩,
    ⟨some 44, .faddr 1 (.t 2), some (43, false)⟩,
    ⟨some 45, .load 1 false (.t 44), some (43, false)⟩,
    ⟨some 46, .bin .gtr false (.t 45) (.c (.v (.int .i64 1073741824))), some (43, false)⟩,
    ⟨some 47, .pick (.t 43) (.c (.v (.bool true))) (.t 46), some (39, true)⟩,
    ⟨some 48, .pick (.t 39) (.t 47) (.c (.v (.bool false))), none⟩,
    ⟨some 49, .mov (.t 48), none⟩,
    ⟨some 50, .faddr 0 (.t 2), some (49, false)⟩,
    ⟨some 51, .load 1 false (.t 50), some (49, false)⟩,
    ⟨some 52, .bin .eql false (.t 51) (.c (.v (.int .i64 2))), some (49, false)⟩,
    ⟨some 53, .mov (.t 52), some (49, false)⟩,
    ⟨some 54, .faddr 1 (.t 2), some (53, true)⟩,
    ⟨some 55, .load 1 false (.t 54), some (53, true)⟩,
    ⟨some 56, .bin .lss false (.t 55) (.c (.v (.int .i64 0))), some (53, true)⟩,
    ⟨some 57, .mov (.t 56), some (53, true)⟩,
    ⟨some 58, .faddr 1 (.t 2), some (57, false)⟩,
    ⟨some 59, .load 1 false (.t 58), some (57, false)⟩,
    ⟨some 60, .mov (.t 1), some (57, false)⟩,
    ⟨some 61, .bin .geq false (.t 59) (.t 60), some (57, false)⟩,
    ⟨some 62, .pick (.t 57) (.c (.v (.bool true))) (.t 61), some (53, true)⟩,
    ⟨some 63, .pick (.t 53) (.t 62) (.c (.v (.bool false))), some (49, false)⟩,
    ⟨some 64, .pick (.t 49) (.c (.v (.bool true))) (.t 63), none⟩,
    ⟨some 65, .mov (.t 64), none⟩,
    ⟨some 66, .faddr 0 (.t 2), some (65, false)⟩,
    ⟨some 67, .load 1 false (.t 66), some (65, false)⟩,
    ⟨some 68, .bin .gtr false (.t 67) (.c (.v (.int .i64 2))), some (65, false)⟩,
    ⟨some 69, .mov (.t 68), some (65, false)⟩,
    ⟨some 70, .faddr 1 (.t 2), some (69, true)⟩,
    ⟨some 71, .load 1 false (.t 70), some (69, true)⟩,
    ⟨some 72, .bin .neq false (.t 71) (.c (.v (.int .i64 0))), some (69, true)⟩,
    ⟨some 73, .pick (.t 69) (.t 72) (.c (.v (.bool false))), some (65, false)⟩,
    ⟨some 74, .pick (.t 65) (.c (.v (.bool true))) (.t 73), none⟩])
  (.cond (.t 74)
    (.seq (.ops [⟨some 4, .mov (.c (.v (.bool false))), none⟩])
    .ret)
    .skip))
  (.seq (.seq (.ops [⟨some 6, .mov (.c (.v (.int .i64 0))), none⟩])
  (.block 1 (.loop
    (.seq (.seq (.ops [⟨some 75, .mov (.t 6), none⟩,
      ⟨some 76, .mov (.t 5), none⟩,
      ⟨some 77, .bin .lss false (.t 75) (.t 76), none⟩])
    (.cond (.t 77)
      .skip
      (.exit 1)))
    (.seq (.block 2 (.seq (.ops [⟨some 80, .faddr 3 (.t 2), none⟩,
      ⟨some 81, .load 1 false (.t 80), none⟩,
      ⟨some 82, .mov (.t 6), none⟩,
      ⟨some 83, .iaddr 4 (.t 81) (.t 82), none⟩,
      ⟨some 84, .load 4 true (.t 83), none⟩,
      ⟨some 85, .mov (.t 1), none⟩,
      ⟨some 86, .call 20 [(.t 84), (.t 85)], none⟩,
      ⟨some 7, .mov (.t 86), none⟩])
    (.seq (.ops [⟨some 87, .mov (.t 7), none⟩,
      ⟨some 88, .un .not (.t 87), none⟩])
    (.cond (.t 88)
      (.seq (.ops [⟨some 4, .mov (.c (.v (.bool false))), none⟩])
      .ret)
      .skip))))
    (.ops [⟨some 78, .mov (.t 6), none⟩,
      ⟨some 79, .bin .add false (.t 78) (.c (.v (.int .i64 1))), none⟩,
      ⟨some 6, .mov (.t 79), none⟩]))))))
  (.seq (.ops [⟨some 4, .mov (.c (.v (.bool true))), none⟩])
  .ret)))))))⟩ := by kernel_rfl

theorem ir21 : compF Try.prog 21 = some ⟨25, [.t 4],
  (.seq (.ops [⟨some 4, .mov (.c (.v (.bool false))), none⟩])
  (.seq (.seq (.ops [⟨some 5, .mov (.c (.v (.int .i64 0))), none⟩])
  (.block 0 (.loop
    (.seq (.seq (.ops [⟨some 6, .mov (.t 5), none⟩,
      ⟨some 7, .mov (.t 0), none⟩,
      ⟨some 8, .len false (.t 7), none⟩,
      ⟨some 9, .bin .lss false (.t 6) (.t 8), none⟩])
    (.cond (.t 9)
      .skip
      (.exit 0)))
    (.seq (.block 1 (.seq (.ops [⟨some 12, .mov (.t 0), none⟩,
      ⟨some 13, .mov (.t 5), none⟩,
      ⟨some 14, .iaddr 1 (.t 12) (.t 13), none⟩,
      ⟨some 15, .load 1 false (.t 14), none⟩,
      ⟨some 16, .bin .lss false (.t 15) (.c (.v (.int .i64 0))), none⟩,
      ⟨some 17, .mov (.t 16), none⟩,
      ⟨some 18, .mov (.t 0), some (17, false)⟩,
      ⟨some 19, .mov (.t 5), some (17, false)⟩,
      ⟨some 20, .iaddr 1 (.t 18) (.t 19), some (17, false)⟩,
      ⟨some 21, .load 1 false (.t 20), some (17, false)⟩,
      ⟨some 22, .mov (.t 1), some (17, false)⟩,
      ⟨some 23, .bin .geq false (.t 21) (.t 22), some (17, false)⟩,
      ⟨some 24, .pick (.t 17) (.c (.v (.bool true))) (.t 23), none⟩])
    (.cond (.t 24)
      (.seq (.ops [⟨some 4, .mov (.c (.v (.bool false))), none⟩])
      .ret)
      .skip)))
    (.ops [⟨some 10, .mov (.t 5), none⟩,
      ⟨some 11, .bin .add false (.t 10) (.c (.v (.int .i64 1))), none⟩,
      ⟨some 5, .mov (.t 11), none⟩]))))))
  (.seq (.ops [⟨some 4, .mov (.c (.v (.bool true))), none⟩])
  .ret)))⟩ := by kernel_rfl

theorem ir22 : compF Try.prog 22 = some ⟨18, [.t 2],
  (.seq (.ops [⟨some 1, .box (.t 0), none⟩,
    ⟨some 2, .mov (.c (.v (.bool false))), none⟩])
  (.seq (.ops [⟨some 7, .load 4 true (.t 1), none⟩,
    ⟨some 8, .call 35 [(.t 7)], none⟩,
    ⟨some 6, .mov (.t 8), none⟩,
    ⟨some 9, .extract (.t 6) 0, none⟩,
    ⟨some 10, .extract (.t 6) 1, none⟩,
    ⟨some 11, .extract (.t 6) 2, none⟩,
    ⟨some 3, .mov (.t 9), none⟩,
    ⟨some 4, .mov (.t 10), none⟩,
    ⟨some 5, .mov (.t 11), none⟩])
  (.seq (.ops [⟨some 12, .mov (.t 4), none⟩,
    ⟨some 13, .bin .eql false (.t 12) (.c (.v (.int .i64 0))), none⟩,
    ⟨some 14, .mov (.t 13), none⟩,
    ⟨some 15, .mov (.t 3), some (14, true)⟩,
    ⟨some 16, .bin .eql false (.t 15) (.c (.v (.int .i64 2))), some (14, true)⟩,
    ⟨some 17, .pick (.t 14) (.t 16) (.c (.v (.bool false))), none⟩,
    ⟨some 2, .mov (.t 17), none⟩])
  .ret)))⟩ := by kernel_rfl

theorem ir23 : compF Try.prog 23 = some ⟨55, [.t 4],
  (.seq (.ops [⟨some 2, .box (.t 0), none⟩,
    ⟨some 3, .box (.t 1), none⟩,
    ⟨some 4, .mov (.c (.v (.bool false))), none⟩])
  (.seq (.seq (.ops [⟨some 7, .faddr 2 (.t 2), none⟩,
    ⟨some 8, .load 1 false (.t 7), none⟩,
    ⟨some 9, .faddr 2 (.t 3), none⟩,
    ⟨some 10, .load 1 false (.t 9), none⟩,
    ⟨some 11, .bin .neq false (.t 8) (.t 10), none⟩,
    ⟨some 12, .mov (.t 11), none⟩,
    ⟨some 13, .faddr 0 (.t 2), some (12, false)⟩,
    ⟨some 14, .load 1 false (.t 13), some (12, false)⟩,
    ⟨some 15, .faddr 0 (.t 3), some (12, false)⟩,
    ⟨some 16, .load 1 false (.t 15), some (12, false)⟩,
    ⟨some 17, .bin .neq false (.t 14) (.t 16), some (12, false)⟩,
    ⟨some 18, .pick (.t 12) (.c (.v (.bool true))) (.t 17), none⟩,
    ⟨some 19, .mov (.t 18), none⟩,
    ⟨some 20, .faddr 1 (.t 2), some (19, false)⟩,
    ⟨some 21, .load 1 false (.t 20), some (19, false)⟩,
    ⟨some 22, .faddr 1 (.t 3), some (19, false)⟩,
    ⟨some 23, .load 1 false (.t 22), some (19, false)⟩,
    ⟨some 24, .bin .neq false (.t 21) (.t 23), some (19, false)⟩,
    ⟨some 25, .pick (.t 19) (.c (.v (.bool true))) (.t 24), none⟩,
    ⟨some 26, .mov (.t 25), none⟩,
    ⟨some 27, .faddr 3 (.t 2), some (26, false)⟩,
    ⟨some 28, .load 1 false (.t 27), some (26, false)⟩,
    ⟨some 29, .len false (.t 28), some (26, false)⟩,
    ⟨some 30, .faddr 3 (.t 3), some (26, false)⟩,
    ⟨some 31, .load 1 false (.t 30), some (26, false)⟩,
    ⟨some 32, .len false (.t 31), some (26, false)⟩,
    ⟨some 33, .bin .neq false (.t 29) (.t 32), some (26, false)⟩,
    ⟨some 34, .pick (.t 26) (.c (.v (.bool true))) (.t 33), none⟩])
  (.cond (.t 34)
    (.seq (.ops [⟨some 4, .mov (.c (.v (.bool false))), none⟩])
    .ret)
    .skip))
  (.seq (.seq (.ops [⟨some 5, .mov (.c (.v (.int .i64 0))), none⟩])
  (.block 0 (.loop
    (.seq (.seq (.ops [⟨some 35, .mov (.t 5), none⟩,
      ⟨some 36, .faddr 3 (.t 2), none⟩,
      ⟨some 37, .load 1 false (.t 36), none⟩,
      ⟨some 38, .len false (.t 37), none⟩,
      ⟨some 39, .bin .lss false (.t 35) (.t 38), none⟩])
    (.cond (.t 39)
      .skip
      (.exit 0)))
    (.seq (.block 1 (.seq (.draw [[⟨some 42, .faddr 3 (.t 2), none⟩,
        ⟨some 43, .load 1 false (.t 42), none⟩,
        ⟨some 44, .mov (.t 5), none⟩,
        ⟨some 45, .iaddr 4 (.t 43) (.t 44), none⟩,
        ⟨some 46, .load 4 true (.t 45), none⟩,
        ⟨some 47, .faddr 3 (.t 3), none⟩,
        ⟨some 48, .load 1 false (.t 47), none⟩,
        ⟨some 49, .mov (.t 5), none⟩,
        ⟨some 50, .iaddr 4 (.t 48) (.t 49), none⟩,
        ⟨some 51, .load 4 true (.t 50), none⟩],
      [⟨some 52, .call 23 [(.t 46), (.t 51)], none⟩],
      [⟨some 6, .mov (.t 52), none⟩]])
    (.seq (.ops [⟨some 53, .mov (.t 6), none⟩,
      ⟨some 54, .un .not (.t 53), none⟩])
    (.cond (.t 54)
      (.seq (.ops [⟨some 4, .mov (.c (.v (.bool false))), none⟩])
      .ret)
      .skip))))
    (.ops [⟨some 40, .mov (.t 5), none⟩,
      ⟨some 41, .bin .add false (.t 40) (.c (.v (.int .i64 1))), none⟩,
      ⟨some 5, .mov (.t 41), none⟩]))))))
  (.seq (.ops [⟨some 4, .mov (.c (.v (.bool true))), none⟩])
  .ret))))⟩ := by kernel_rfl

theorem ir24 : compF Try.prog 24 = some ⟨12, [.t 4],
  (.seq (.ops [⟨some 2, .box (.t 0), none⟩,
    ⟨some 4, .mov (.c (.v (.int .i64 0))), none⟩])
  (.seq (.ops [⟨some 5, .faddr 0 (.t 2), none⟩,
    ⟨some 6, .load 1 false (.t 5), none⟩,
    ⟨some 7, .mov (.t 1), none⟩,
    ⟨some 8, .bin .mul false (.t 6) (.t 7), none⟩,
    ⟨some 9, .faddr 1 (.t 2), none⟩,
    ⟨some 10, .load 1 false (.t 9), none⟩,
    ⟨some 11, .bin .add false (.t 8) (.t 10), none⟩,
    ⟨some 4, .mov (.t 11), none⟩])
  .ret))⟩ := by kernel_rfl

theorem ir25 : compF Try.prog 25 = some ⟨9, [.t 4],
  (.seq (.ops [⟨some 4, .mov (.c (.v (.bool false))), none⟩])
  (.seq (.ops [⟨some 5, .mov (.t 0), none⟩,
    ⟨some 6, .mov (.t 1), none⟩,
    ⟨some 7, .call 36 [(.t 5), (.t 6)], none⟩,
    ⟨some 8, .bin .geq false (.t 7) (.c (.v (.int .i64 0))), none⟩,
    ⟨some 4, .mov (.t 8), none⟩])
  .ret))⟩ := by kernel_rfl

theorem ir26 : compF Try.prog 26 = some ⟨24, [.t 2],
  (.seq (.ops [⟨some 1, .box (.t 0), none⟩,
    ⟨some 2, .mov (.c (.v (.slice none 0 0))), none⟩])
  (.seq (.seq (.ops [⟨some 5, .faddr 3 (.t 1), none⟩,
    ⟨some 6, .load 1 false (.t 5), none⟩,
    ⟨some 7, .len false (.t 6), none⟩,
    ⟨some 8, .bin .gtr false (.t 7) (.c (.v (.int .i64 0))), none⟩])
  (.cond (.t 8)
    (.seq (.ops [⟨some 9, .faddr 3 (.t 1), none⟩,
      ⟨some 10, .load 1 false (.t 9), none⟩,
      ⟨some 2, .mov (.t 10), none⟩])
    .ret)
    .skip))
  (.seq (.ops [⟨some 3, .mov (.c (.v (.slice none 0 0))), none⟩])
  (.seq (.seq (.ops [⟨some 4, .mov (.c (.v (.int .i64 0))), none⟩])
  (.block 0 (.loop
    (.seq (.seq (.ops [⟨some 11, .mov (.t 4), none⟩,
      ⟨some 12, .faddr 0 (.t 1), none⟩,
      ⟨some 13, .load 1 false (.t 12), none⟩,
      ⟨some 14, .len false (.t 13), none⟩,
      ⟨some 15, .bin .lss false (.t 11) (.t 14), none⟩])
    (.cond (.t 15)
      .skip
      (.exit 0)))
    (.seq (.block 1 (.ops [⟨some 18, .mov (.t 3), none⟩,
      ⟨some 19, .mov (.t 4), none⟩,
      ⟨some 20, .bslice 1 [(.v (.int .i64 0))] 1 [(0, 1, (.t 19))], none⟩,
      ⟨some 21, .append 1 8 [(.v (.int .i64 0))] (.t 18) (.t 20), none⟩,
      ⟨some 3, .mov (.t 21), none⟩]))
    (.ops [⟨some 16, .mov (.t 4), none⟩,
      ⟨some 17, .bin .add false (.t 16) (.c (.v (.int .i64 1))), none⟩,
      ⟨some 4, .mov (.t 17), none⟩]))))))
  (.seq (.ops [⟨some 22, .mov (.t 3), none⟩,
    ⟨some 23, .bslice 1 [(.v (.slice none 0 0))] 1 [(0, 1, (.t 22))], none⟩,
    ⟨some 2, .mov (.t 23), none⟩])
  .ret)))))⟩ := by kernel_rfl

theorem ir27 : compF Try.prog 27 = some ⟨18, [.t 4],
  (.seq (.ops [⟨some 4, .mov (.c (.v (.bool false))), none⟩])
  (.seq (.seq (.ops [⟨some 5, .mov (.c (.v (.int .i64 0))), none⟩])
  (.block 0 (.loop
    (.seq (.seq (.ops [⟨some 6, .mov (.t 5), none⟩,
      ⟨some 7, .mov (.t 0), none⟩,
      ⟨some 8, .len false (.t 7), none⟩,
      ⟨some 9, .bin .lss false (.t 6) (.t 8), none⟩])
    (.cond (.t 9)
      .skip
      (.exit 0)))
    (.seq (.block 1 (.seq (.ops [⟨some 12, .mov (.t 0), none⟩,
      ⟨some 13, .mov (.t 5), none⟩,
      ⟨some 14, .iaddr 1 (.t 12) (.t 13), none⟩,
      ⟨some 15, .load 1 false (.t 14), none⟩,
      ⟨some 16, .mov (.t 1), none⟩,
      ⟨some 17, .bin .eql false (.t 15) (.t 16), none⟩])
    (.cond (.t 17)
      (.seq (.ops [⟨some 4, .mov (.c (.v (.bool true))), none⟩])
      .ret)
      .skip)))
    (.ops [⟨some 10, .mov (.t 5), none⟩,
      ⟨some 11, .bin .add false (.t 10) (.c (.v (.int .i64 1))), none⟩,
      ⟨some 5, .mov (.t 11), none⟩]))))))
  (.seq (.ops [⟨some 4, .mov (.c (.v (.bool false))), none⟩])
  .ret)))⟩ := by kernel_rfl

theorem ir28 : compF Try.prog 28 = some ⟨15, [.t 4],
  (.seq (.ops [⟨some 2, .box (.t 0), none⟩,
    ⟨some 4, .mov (.c (.v (.int .i64 0))), none⟩])
  (.seq (.seq (.ops [⟨some 5, .mov (.t 1), none⟩,
    ⟨some 6, .faddr 0 (.t 2), none⟩,
    ⟨some 7, .load 1 false (.t 6), none⟩,
    ⟨some 8, .len false (.t 7), none⟩,
    ⟨some 9, .bin .sub false (.t 8) (.c (.v (.int .i64 1))), none⟩,
    ⟨some 10, .bin .eql false (.t 5) (.t 9), none⟩])
  (.cond (.t 10)
    (.seq (.ops [⟨some 11, .faddr 1 (.t 2), none⟩,
      ⟨some 12, .load 1 false (.t 11), none⟩,
      ⟨some 4, .mov (.t 12), none⟩])
    .ret)
    .skip))
  (.seq (.ops [⟨some 13, .mov (.t 1), none⟩,
    ⟨some 14, .bin .add false (.t 13) (.c (.v (.int .i64 1))), none⟩,
    ⟨some 4, .mov (.t 14), none⟩])
  .ret)))⟩ := by kernel_rfl

theorem ir29 : compF Try.prog 29 = some ⟨31, [.t 6],
  (.seq (.ops [⟨some 3, .box (.t 0), none⟩,
    ⟨some 6, .mov (.c (.v (.bool false))), none⟩])
  (.seq (.seq (.ops [⟨some 7, .mov (.c (.v (.int .i64 0))), none⟩])
  (.block 0 (.loop
    (.seq (.seq (.ops [⟨some 9, .mov (.t 7), none⟩,
      ⟨some 10, .faddr 0 (.t 3), none⟩,
      ⟨some 11, .load 1 false (.t 10), none⟩,
      ⟨some 12, .mov (.t 1), none⟩,
      ⟨some 13, .iaddr 1 (.t 11) (.t 12), none⟩,
      ⟨some 14, .load 1 false (.t 13), none⟩,
      ⟨some 15, .len false (.t 14), none⟩,
      ⟨some 16, .bin .lss false (.t 9) (.t 15), none⟩])
    (.cond (.t 16)
      .skip
      (.exit 0)))
    (.seq (.block 1 (.seq (.ops [⟨some 19, .faddr 0 (.t 3), none⟩,
      ⟨some 20, .load 1 false (.t 19), none⟩,
      ⟨some 21, .mov (.t 1), none⟩,
      ⟨some 22, .iaddr 1 (.t 20) (.t 21), none⟩,
      ⟨some 23, .load 1 false (.t 22), none⟩,
      ⟨some 24, .mov (.t 7), none⟩,
      ⟨some 25, .iaddr 4 (.t 23) (.t 24), none⟩,
      ⟨some 26, .load 4 true (.t 25), none⟩,
      ⟨some 27, .mov (.t 2), none⟩,
      ⟨some 28, .call 37 [(.t 26), (.t 27)], none⟩,
      ⟨some 8, .mov (.t 28), none⟩])
    (.seq (.ops [⟨some 29, .mov (.t 8), none⟩,
      ⟨some 30, .bin .neq false (.t 29) (.c (.v (.int .i64 1))), none⟩])
    (.cond (.t 30)
      (.seq (.ops [⟨some 6, .mov (.c (.v (.bool false))), none⟩])
      .ret)
      .skip))))
    (.ops [⟨some 17, .mov (.t 7), none⟩,
      ⟨some 18, .bin .add false (.t 17) (.c (.v (.int .i64 1))), none⟩,
      ⟨some 7, .mov (.t 18), none⟩]))))))
  (.seq (.ops [⟨some 6, .mov (.c (.v (.bool true))), none⟩])
  .ret)))⟩ := by kernel_rfl

theorem ir30 : compF Try.prog 30 = some ⟨18, [.t 4],
  (.seq (.ops [⟨some 4, .mov (.c (.v (.bool false))), none⟩])
  (.seq (.seq (.ops [⟨some 5, .mov (.c (.v (.int .i64 0))), none⟩])
  (.block 0 (.loop
    (.seq (.seq (.ops [⟨some 6, .mov (.t 5), none⟩,
      ⟨some 7, .mov (.t 0), none⟩,
      ⟨some 8, .len false (.t 7), none⟩,
      ⟨some 9, .bin .lss false (.t 6) (.t 8), none⟩])
    (.cond (.t 9)
      .skip
      (.exit 0)))
    (.seq (.block 1 (.seq (.ops [⟨some 12, .mov (.t 0), none⟩,
      ⟨some 13, .mov (.t 5), none⟩,
      ⟨some 14, .iaddr 1 (.t 12) (.t 13), none⟩,
      ⟨some 15, .load 1 false (.t 14), none⟩,
      ⟨some 16, .mov (.t 1), none⟩,
      ⟨some 17, .bin .eql false (.t 15) (.t 16), none⟩])
    (.cond (.t 17)
      (.seq (.ops [⟨some 4, .mov (.c (.v (.bool true))), none⟩])
      .ret)
      .skip)))
    (.ops [⟨some 10, .mov (.t 5), none⟩,
      ⟨some 11, .bin .add false (.t 10) (.c (.v (.int .i64 1))), none⟩,
      ⟨some 5, .mov (.t 11), none⟩]))))))
  (.seq (.ops [⟨some 4, .mov (.c (.v (.bool false))), none⟩])
  .ret)))⟩ := by kernel_rfl

set_option maxRecDepth 100000 in
theorem ir31 : compF Try.prog 31 = some ⟨108, [.t 6],
  (.seq (.ops [⟨some 6, .mov (.c (.v (.slice none 0 0))), none⟩])
  (.seq (.ops [⟨some 16, .bslice 1 [(.v (.bool false))] 0 [], none⟩,
    ⟨some 17, .mov (.t 1), none⟩,
    ⟨some 18, .append 1 1 [(.v (.bool false))] (.t 16) (.t 17), none⟩,
    ⟨some 7, .mov (.t 18), none⟩])
  (.seq (.seq (.ops [⟨some 8, .mov (.c (.v (.bool true))), none⟩])
  (.block 0 (.loop
    (.seq (.seq (.ops [⟨some 19, .mov (.t 8), none⟩])
    (.cond (.t 19)
      .skip
      (.exit 0)))
    (.block 1 (.seq (.ops [⟨some 8, .mov (.c (.v (.bool false))), none⟩])
    (.seq (.ops [⟨some 9, .mov (.c (.v (.int .i64 0))), none⟩])
    (.block 2 (.loop
      (.seq (.seq (.ops [⟨some 20, .mov (.t 9), none⟩,
        ⟨some 21, .mov (.t 2), none⟩,
        ⟨some 22, .len false (.t 21), none⟩,
        ⟨some 23, .bin .lss false (.t 20) (.t 22), none⟩])
      (.cond (.t 23)
        .skip
        (.exit 2)))
      (.seq (.block 3 (.seq (.ops [⟨some 26, .mov (.t 0), none⟩,
        ⟨some 27, .len false (.t 26), none⟩,
        ⟨some 28, .mksl 1 1 [(.v (.bool false))] (.t 27) (.t 27), none⟩,
        ⟨some 10, .mov (.t 28), none⟩])
      (.seq (.seq (.ops [⟨some 11, .mov (.c (.v (.bool true))), none⟩])
      (.block 4 (.loop
        (.seq (.seq (.ops [⟨some 29, .mov (.t 11), none⟩])
        (.cond (.t 29)
          .skip
          (.exit 4)))
        (.block 5 (.seq (.ops [⟨some 11, .mov (.c (.v (.bool false))), none⟩])
        (.seq (.ops [⟨some 12, .mov (.c (.v (.int .i64 0))), none⟩])
        (.block 6 (.loop
          (.seq (.seq (.ops [⟨some 30, .mov (.t 12), none⟩,
            ⟨some 31, .mov (.t 0), none⟩,
            ⟨some 32, .len false (.t 31), none⟩,
            ⟨some 33, .bin .lss false (.t 30) (.t 32), none⟩])
          (.cond (.t 33)
            .skip
            (.exit 6)))
          (.seq (.block 7 (.seq (.ops [⟨some 13, .mov (.c (.v (.int .i64 0))), none⟩])
          (.block 8 (.loop
            (.seq (.seq (.ops [⟨some 36, .mov (.t 13), none⟩,
              ⟨some 37, .mov (.t 0), none⟩,
              ⟨some 38, .mov (.t 12), none⟩,
              ⟨some 39, .iaddr 1 (.t 37) (.t 38), none⟩,
              ⟨some 40, .load 1 false (.t 39), none⟩,
              ⟨some 41, .len false (.t 40), none⟩,
              ⟨some 42, .bin .lss false (.t 36) (.t 41), none⟩,
              ⟨some 43, .mov (.t 42), none⟩,
              ⟨some 44, .mov (.t 7), some (43, true)⟩,
              ⟨some 45, .mov (.t 12), some (43, true)⟩,
              ⟨some 46, .iaddr 1 (.t 44) (.t 45), some (43, true)⟩,
              ⟨some 47, .load 1 false (.t 46), some (43, true)⟩,
              ⟨some 48, .pick (.t 43) (.t 47) (.c (.v (.bool false))), none⟩,
              ⟨some 49, .mov (.t 48), none⟩,
              ⟨some 50, .mov (.t 10), some (49, true)⟩,
              ⟨some 51, .mov (.t 12), some (49, true)⟩,
              ⟨some 52, .iaddr 1 (.t 50) (.t 51), some (49, true)⟩,
              ⟨some 53, .load 1 false (.t 52), some (49, true)⟩,
              ⟨some 54, .un .not (.t 53), some (49, true)⟩,
              ⟨some 55, .pick (.t 49) (.t 54) (.c (.v (.bool false))), none⟩])
            (.cond (.t 55)
              .skip
              (.exit 8)))
            (.seq (.block 9 (.seq (.ops [⟨some 58, .mov (.t 0), none⟩,
              ⟨some 59, .mov (.t 12), none⟩,
              ⟨some 60, .iaddr 1 (.t 58) (.t 59), none⟩,
              ⟨some 61, .load 1 false (.t 60), none⟩,
              ⟨some 62, .mov (.t 13), none⟩,
              ⟨some 63, .iaddr 1 (.t 61) (.t 62), none⟩,
              ⟨some 64, .load 1 false (.t 63), none⟩,
              ⟨some 14, .mov (.t 64), none⟩])
            (.seq (.ops [⟨some 65, .mov (.t 7), none⟩,
              ⟨some 66, .mov (.t 14), none⟩,
              ⟨some 67, .iaddr 1 (.t 65) (.t 66), none⟩,
              ⟨some 68, .load 1 false (.t 67), none⟩,
              ⟨some 69, .mov (.t 68), none⟩,
              ⟨some 70, .mov (.t 2), some (69, true)⟩,
              ⟨some 71, .mov (.t 9), some (69, true)⟩,
              ⟨some 72, .iaddr 1 (.t 70) (.t 71), some (69, true)⟩,
              ⟨some 73, .load 1 false (.t 72), some (69, true)⟩,
              ⟨some 74, .mov (.t 14), some (69, true)⟩,
              ⟨some 75, .iaddr 1 (.t 73) (.t 74), some (69, true)⟩,
              ⟨some 76, .load 1 false (.t 75), some (69, true)⟩,
              ⟨some 77, .mov (.t 76), some (69, true)⟩,
              ⟨some 78, .mov (.t 10), some (77, false)⟩,
              ⟨some 79, .mov (.t 14), some (77, false)⟩,
              ⟨some 80, .iaddr 1 (.t 78) (.t 79), some (77, false)⟩,
              ⟨some 81, .load 1 false (.t 80), some (77, false)⟩,
              ⟨some 82, .pick (.t 77) (.c (.v (.bool true))) (.t 81), some (69, true)⟩,
              ⟨some 83, .pick (.t 69) (.t 82) (.c (.v (.bool false))), none⟩])
            (.cond (.t 83)
              (.seq (.ops [⟨some 84, .mov (.t 10), none⟩,
                ⟨some 85, .mov (.t 12), none⟩,
                ⟨some 86, .iaddr 1 (.t 84) (.t 85), none⟩,
                ⟨none, .store 1 (.t 86) (.c (.v (.bool true))), none⟩])
              (.ops [⟨some 11, .mov (.c (.v (.bool true))), none⟩]))
              .skip))))
            (.ops [⟨some 56, .mov (.t 13), none⟩,
              ⟨some 57, .bin .add false (.t 56) (.c (.v (.int .i64 1))), none⟩,
              ⟨some 13, .mov (.t 57), none⟩])))))))
          (.ops [⟨some 34, .mov (.t 12), none⟩,
            ⟨some 35, .bin .add false (.t 34) (.c (.v (.int .i64 1))), none⟩,
            ⟨some 12, .mov (.t 35), none⟩]))))))))))))
      (.seq (.ops [⟨some 15, .mov (.c (.v (.int .i64 0))), none⟩])
      (.block 10 (.loop
        (.seq (.seq (.ops [⟨some 87, .mov (.t 15), none⟩,
          ⟨some 88, .mov (.t 7), none⟩,
          ⟨some 89, .len false (.t 88), none⟩,
          ⟨some 90, .bin .lss false (.t 87) (.t 89), none⟩])
        (.cond (.t 90)
          .skip
          (.exit 10)))
        (.seq (.block 11 (.seq (.ops [⟨some 93, .mov (.t 7), none⟩,
          ⟨some 94, .mov (.t 15), none⟩,
          ⟨some 95, .iaddr 1 (.t 93) (.t 94), none⟩,
          ⟨some 96, .load 1 false (.t 95), none⟩,
          ⟨some 97, .mov (.t 96), none⟩,
          ⟨some 98, .mov (.t 10), some (97, true)⟩,
          ⟨some 99, .mov (.t 15), some (97, true)⟩,
          ⟨some 100, .iaddr 1 (.t 98) (.t 99), some (97, true)⟩,
          ⟨some 101, .load 1 false (.t 100), some (97, true)⟩,
          ⟨some 102, .un .not (.t 101), some (97, true)⟩,
          ⟨some 103, .pick (.t 97) (.t 102) (.c (.v (.bool false))), none⟩])
        (.cond (.t 103)
          (.seq (.ops [⟨some 104, .mov (.t 7), none⟩,
            ⟨some 105, .mov (.t 15), none⟩,
            ⟨some 106, .iaddr 1 (.t 104) (.t 105), none⟩,
            ⟨none, .store 1 (.t 106) (.c (.v (.bool false))), none⟩])
          (.ops [⟨some 8, .mov (.c (.v (.bool true))), none⟩]))
          .skip)))
        (.ops [⟨some 91, .mov (.t 15), none⟩,
          ⟨some 92, .bin .add false (.t 91) (.c (.v (.int .i64 1))), none⟩,
          ⟨some 15, .mov (.t 92), none⟩])))))))))
      (.ops [⟨some 24, .mov (.t 9), none⟩,
        ⟨some 25, .bin .add false (.t 24) (.c (.v (.int .i64 1))), none⟩,
        ⟨some 9, .mov (.t 25), none⟩]))))))))))))
  (.seq (.ops [⟨some 107, .mov (.t 7), none⟩,
    ⟨some 6, .mov (.t 107), none⟩])
  .ret))))⟩ := by kernel_rfl

theorem ir32 : compF Try.prog 32 = some ⟨29, [.t 4],
  (.seq (.ops [⟨some 4, .mov (.c (.v (.bool false))), none⟩])
  (.seq (.seq (.ops [⟨some 7, .mov (.t 0), none⟩,
    ⟨some 8, .len false (.t 7), none⟩,
    ⟨some 9, .mov (.t 1), none⟩,
    ⟨some 10, .len false (.t 9), none⟩,
    ⟨some 11, .bin .neq false (.t 8) (.t 10), none⟩])
  (.cond (.t 11)
    (.seq (.ops [⟨some 4, .mov (.c (.v (.bool false))), none⟩])
    .ret)
    .skip))
  (.seq (.seq (.ops [⟨some 5, .mov (.c (.v (.int .i64 0))), none⟩])
  (.block 0 (.loop
    (.seq (.seq (.ops [⟨some 12, .mov (.t 5), none⟩,
      ⟨some 13, .mov (.t 0), none⟩,
      ⟨some 14, .len false (.t 13), none⟩,
      ⟨some 15, .bin .lss false (.t 12) (.t 14), none⟩])
    (.cond (.t 15)
      .skip
      (.exit 0)))
    (.seq (.block 1 (.seq (.draw [[⟨some 18, .mov (.t 0), none⟩,
        ⟨some 19, .mov (.t 5), none⟩,
        ⟨some 20, .iaddr 1 (.t 18) (.t 19), none⟩,
        ⟨some 21, .load 1 false (.t 20), none⟩,
        ⟨some 22, .mov (.t 1), none⟩,
        ⟨some 23, .mov (.t 5), none⟩,
        ⟨some 24, .iaddr 1 (.t 22) (.t 23), none⟩,
        ⟨some 25, .load 1 false (.t 24), none⟩],
      [⟨some 26, .call 18 [(.t 21), (.t 25)], none⟩],
      [⟨some 6, .mov (.t 26), none⟩]])
    (.seq (.ops [⟨some 27, .mov (.t 6), none⟩,
      ⟨some 28, .un .not (.t 27), none⟩])
    (.cond (.t 28)
      (.seq (.ops [⟨some 4, .mov (.c (.v (.bool false))), none⟩])
      .ret)
      .skip))))
    (.ops [⟨some 16, .mov (.t 5), none⟩,
      ⟨some 17, .bin .add false (.t 16) (.c (.v (.int .i64 1))), none⟩,
      ⟨some 5, .mov (.t 17), none⟩]))))))
  (.seq (.ops [⟨some 4, .mov (.c (.v (.bool true))), none⟩])
  .ret))))⟩ := by kernel_rfl

theorem ir33 : compF Try.prog 33 = some ⟨33, [.t 4],
  (.seq (.ops [⟨some 2, .box (.t 0), none⟩,
    ⟨some 4, .mov (.c (.v (.int .i64 0))), none⟩])
  (.seq (.ops [⟨some 5, .mov (.c (.v (.int .i64 1))), none⟩])
  (.seq (.seq (.ops [⟨some 6, .mov (.c (.v (.int .i64 0))), none⟩])
  (.block 0 (.loop
    (.seq (.seq (.ops [⟨some 8, .mov (.t 6), none⟩,
      ⟨some 9, .faddr 3 (.t 2), none⟩,
      ⟨some 10, .load 1 false (.t 9), none⟩,
      ⟨some 11, .len false (.t 10), none⟩,
      ⟨some 12, .bin .lss false (.t 8) (.t 11), none⟩,
      ⟨some 13, .mov (.t 12), none⟩,
      ⟨some 14, .mov (.t 1), some (13, true)⟩,
      ⟨some 15, .bin .gtr false (.t 14) (.c (.v (.int .i64 1))), some (13, true)⟩,
      ⟨some 16, .pick (.t 13) (.t 15) (.c (.v (.bool false))), none⟩])
    (.cond (.t 16)
      .skip
      (.exit 0)))
    (.seq (.block 1 (.seq (.ops [⟨some 19, .faddr 3 (.t 2), none⟩,
      ⟨some 20, .load 1 false (.t 19), none⟩,
      ⟨some 21, .mov (.t 6), none⟩,
      ⟨some 22, .iaddr 4 (.t 20) (.t 21), none⟩,
      ⟨some 23, .load 4 true (.t 22), none⟩,
      ⟨some 24, .mov (.t 1), none⟩,
      ⟨some 25, .bin .sub false (.t 24) (.c (.v (.int .i64 1))), none⟩,
      ⟨some 26, .call 33 [(.t 23), (.t 25)], none⟩,
      ⟨some 27, .bin .add false (.c (.v (.int .i64 1))) (.t 26), none⟩,
      ⟨some 7, .mov (.t 27), none⟩])
    (.seq (.ops [⟨some 28, .mov (.t 7), none⟩,
      ⟨some 29, .mov (.t 5), none⟩,
      ⟨some 30, .bin .gtr false (.t 28) (.t 29), none⟩])
    (.cond (.t 30)
      (.ops [⟨some 31, .mov (.t 7), none⟩,
        ⟨some 5, .mov (.t 31), none⟩])
      .skip))))
    (.ops [⟨some 17, .mov (.t 6), none⟩,
      ⟨some 18, .bin .add false (.t 17) (.c (.v (.int .i64 1))), none⟩,
      ⟨some 6, .mov (.t 18), none⟩]))))))
  (.seq (.ops [⟨some 32, .mov (.t 5), none⟩,
    ⟨some 4, .mov (.t 32), none⟩])
  .ret))))⟩ := by kernel_rfl

theorem ir34 : compF Try.prog 34 = some ⟨29, [.t 4],
  (.seq (.ops [⟨some 2, .box (.t 0), none⟩,
    ⟨some 4, .mov (.c (.v (.int .i64 0))), none⟩])
  (.seq (.ops [⟨some 5, .mov (.c (.v (.int .i64 1))), none⟩])
  (.seq (.seq (.ops [⟨some 6, .mov (.c (.v (.int .i64 0))), none⟩])
  (.block 0 (.loop
    (.seq (.seq (.ops [⟨some 7, .mov (.t 6), none⟩,
      ⟨some 8, .faddr 3 (.t 2), none⟩,
      ⟨some 9, .load 1 false (.t 8), none⟩,
      ⟨some 10, .len false (.t 9), none⟩,
      ⟨some 11, .bin .lss false (.t 7) (.t 10), none⟩,
      ⟨some 12, .mov (.t 11), none⟩,
      ⟨some 13, .mov (.t 5), some (12, true)⟩,
      ⟨some 14, .mov (.t 1), some (12, true)⟩,
      ⟨some 15, .bin .lss false (.t 13) (.t 14), some (12, true)⟩,
      ⟨some 16, .pick (.t 12) (.t 15) (.c (.v (.bool false))), none⟩])
    (.cond (.t 16)
      .skip
      (.exit 0)))
    (.seq (.block 1 (.ops [⟨some 19, .mov (.t 5), none⟩,
      ⟨some 20, .faddr 3 (.t 2), none⟩,
      ⟨some 21, .load 1 false (.t 20), none⟩,
      ⟨some 22, .mov (.t 6), none⟩,
      ⟨some 23, .iaddr 4 (.t 21) (.t 22), none⟩,
      ⟨some 24, .load 4 true (.t 23), none⟩,
      ⟨some 25, .mov (.t 1), none⟩,
      ⟨some 26, .call 34 [(.t 24), (.t 25)], none⟩,
      ⟨some 27, .bin .add false (.t 19) (.t 26), none⟩,
      ⟨some 5, .mov (.t 27), none⟩]))
    (.ops [⟨some 17, .mov (.t 6), none⟩,
      ⟨some 18, .bin .add false (.t 17) (.c (.v (.int .i64 1))), none⟩,
      ⟨some 6, .mov (.t 18), none⟩]))))))
  (.seq (.ops [⟨some 28, .mov (.t 5), none⟩,
    ⟨some 4, .mov (.t 28), none⟩])
  .ret))))⟩ := by kernel_rfl

set_option maxRecDepth 100000 in
theorem ir35 : compF Try.prog 35 = some ⟨105, [.t 2, .t 3, .t 4],
  (.seq (.ops [⟨some 1, .box (.t 0), none⟩,
    ⟨some 2, .mov (.c (.v (.int .i64 0))), none⟩,
    ⟨some 3, .mov (.c (.v (.int .i64 0))), none⟩,
    ⟨some 4, .mov (.c (.v (.int .i64 0))), none⟩])
  (.seq (.ops [⟨some 5, .mov (.c (.v (.int .i64 0))), none⟩])
  (.seq (.ops [⟨some 6, .mov (.c (.v (.int .i64 0))), none⟩])
  (.seq (.ops [⟨some 7, .mov (.c (.v (.int .i64 0))), none⟩])
  (.seq (.seq (.ops [⟨some 8, .mov (.c (.v (.int .i64 0))), none⟩])
  (.block 0 (.loop
    (.seq (.seq (.ops [⟨some 13, .mov (.t 8), none⟩,
      ⟨some 14, .faddr 3 (.t 1), none⟩,
      ⟨some 15, .load 1 false (.t 14), none⟩,
      ⟨some 16, .len false (.t 15), none⟩,
      ⟨some 17, .bin .lss false (.t 13) (.t 16), none⟩])
    (.cond (.t 17)
      .skip
      (.exit 0)))
    (.seq (.block 1 (.seq (.ops [⟨some 21, .faddr 3 (.t 1), none⟩,
      ⟨some 22, .load 1 false (.t 21), none⟩,
      ⟨some 23, .mov (.t 8), none⟩,
      ⟨some 24, .iaddr 4 (.t 22) (.t 23), none⟩,
      ⟨some 25, .load 4 true (.t 24), none⟩,
      ⟨some 26, .call 35 [(.t 25)], none⟩,
      ⟨some 20, .mov (.t 26), none⟩,
      ⟨some 27, .extract (.t 20) 0, none⟩,
      ⟨some 28, .extract (.t 20) 1, none⟩,
      ⟨some 29, .extract (.t 20) 2, none⟩,
      ⟨some 9, .mov (.t 27), none⟩,
      ⟨some 10, .mov (.t 28), none⟩,
      ⟨some 11, .mov (.t 29), none⟩])
    (.seq (.seq (.ops [⟨some 30, .mov (.t 10), none⟩,
      ⟨some 31, .bin .neq false (.t 30) (.c (.v (.int .i64 0))), none⟩])
    (.cond (.t 31)
      (.seq (.ops [⟨some 32, .mov (.t 10), none⟩,
        ⟨some 33, .mov (.t 11), none⟩,
        ⟨some 2, .mov (.c (.v (.int .i64 0))), none⟩,
        ⟨some 3, .mov (.t 32), none⟩,
        ⟨some 4, .mov (.t 33), none⟩])
      .ret)
      .skip))
    (.seq (.seq (.ops [⟨some 34, .mov (.t 9), none⟩,
      ⟨some 35, .bin .eql false (.t 34) (.c (.v (.int .i64 1))), none⟩])
    (.cond (.t 35)
      (.ops [⟨some 36, .mov (.t 5), none⟩,
        ⟨some 37, .bin .add false (.t 36) (.c (.v (.int .i64 1))), none⟩,
        ⟨some 5, .mov (.t 37), none⟩])
      .skip))
    (.seq (.seq (.ops [⟨some 38, .mov (.t 9), none⟩,
      ⟨some 39, .bin .eql false (.t 38) (.c (.v (.int .i64 2))), none⟩])
    (.cond (.t 39)
      (.ops [⟨some 40, .mov (.t 6), none⟩,
        ⟨some 41, .bin .add false (.t 40) (.c (.v (.int .i64 1))), none⟩,
        ⟨some 6, .mov (.t 41), none⟩])
      .skip))
    (.seq (.ops [⟨some 42, .mov (.t 9), none⟩,
      ⟨some 43, .bin .eql false (.t 42) (.c (.v (.int .i64 3))), none⟩])
    (.cond (.t 43)
      (.ops [⟨some 44, .mov (.t 7), none⟩,
        ⟨some 45, .bin .add false (.t 44) (.c (.v (.int .i64 1))), none⟩,
        ⟨some 7, .mov (.t 45), none⟩])
      .skip)))))))
    (.ops [⟨some 18, .mov (.t 8), none⟩,
      ⟨some 19, .bin .add false (.t 18) (.c (.v (.int .i64 1))), none⟩,
      ⟨some 8, .mov (.t 19), none⟩]))))))
  (.seq (.ops [⟨some 46, .faddr 3 (.t 1), none⟩,
    ⟨some 47, .load 1 false (.t 46), none⟩,
    ⟨some 48, .len false (.t 47), none⟩,
    ⟨some 12, .mov (.t 48), none⟩])
  (.seq (.seq (.ops [⟨some 49, .faddr 0 (.t 1), none⟩,
    ⟨some 50, .load 1 false (.t 49), none⟩,
    ⟨some 51, .bin .leq false (.t 50) (.c (.v (.int .i64 6))), none⟩,
    ⟨some 52, .mov (.t 51), none⟩,
    ⟨some 53, .mov (.t 5), some (52, true)⟩,
    ⟨some 54, .mov (.t 12), some (52, true)⟩,
    ⟨some 55, .bin .eql false (.t 53) (.t 54), some (52, true)⟩,
    ⟨some 56, .pick (.t 52) (.t 55) (.c (.v (.bool false))), none⟩])
  (.cond (.t 56)
    (.seq (.ops [⟨some 2, .mov (.c (.v (.int .i64 1))), none⟩,
      ⟨some 3, .mov (.c (.v (.int .i64 0))), none⟩,
      ⟨some 4, .mov (.c (.v (.int .i64 0))), none⟩])
    .ret)
    .skip))
  (.seq (.seq (.ops [⟨some 57, .faddr 0 (.t 1), none⟩,
    ⟨some 58, .load 1 false (.t 57), none⟩,
    ⟨some 59, .bin .geq false (.t 58) (.c (.v (.int .i64 7))), none⟩,
    ⟨some 60, .mov (.t 59), none⟩,
    ⟨some 61, .faddr 0 (.t 1), some (60, true)⟩,
    ⟨some 62, .load 1 false (.t 61), some (60, true)⟩,
    ⟨some 63, .bin .leq false (.t 62) (.c (.v (.int .i64 12))), some (60, true)⟩,
    ⟨some 64, .pick (.t 60) (.t 63) (.c (.v (.bool false))), none⟩,
    ⟨some 65, .mov (.t 64), none⟩,
    ⟨some 66, .mov (.t 5), some (65, true)⟩,
    ⟨some 67, .mov (.t 12), some (65, true)⟩,
    ⟨some 68, .bin .eql false (.t 66) (.t 67), some (65, true)⟩,
    ⟨some 69, .pick (.t 65) (.t 68) (.c (.v (.bool false))), none⟩,
    ⟨some 70, .mov (.t 69), none⟩,
    ⟨some 71, .faddr 0 (.t 1), some (70, false)⟩,
    ⟨some 72, .load 1 false (.t 71), some (70, false)⟩,
    ⟨some 73, .bin .eql false (.t 72) (.c (.v (.int .i64 13))), some (70, false)⟩,
    ⟨some 74, .pick (.t 70) (.c (.v (.bool true))) (.t 73), none⟩,
    ⟨some 75, .mov (.t 74), none⟩,
    ⟨some 76, .faddr 0 (.t 1), some (75, false)⟩,
    ⟨some 77, .load 1 false (.t 76), some (75, false)⟩,
    ⟨some 78, .bin .eql false (.t 77) (.c (.v (.int .i64 14))), some (75, false)⟩,
    ⟨some 79, .pick (.t 75) (.c (.v (.bool true))) (.t 78), none⟩])
  (.cond (.t 79)
    (.seq (.ops [⟨some 2, .mov (.c (.v (.int .i64 2))), none⟩,
      ⟨some 3, .mov (.c (.v (.int .i64 0))), none⟩,
      ⟨some 4, .mov (.c (.v (.int .i64 0))), none⟩])
    .ret)
    .skip))
  (.seq (.seq (.ops [⟨some 80, .faddr 0 (.t 1), none⟩,
    ⟨some 81, .load 1 false (.t 80), none⟩,
    ⟨some 82, .bin .geq false (.t 81) (.c (.v (.int .i64 15))), none⟩,
    ⟨some 83, .mov (.t 82), none⟩,
    ⟨some 84, .faddr 0 (.t 1), some (83, true)⟩,
    ⟨some 85, .load 1 false (.t 84), some (83, true)⟩,
    ⟨some 86, .bin .leq false (.t 85) (.c (.v (.int .i64 19))), some (83, true)⟩,
    ⟨some 87, .pick (.t 83) (.t 86) (.c (.v (.bool false))), none⟩,
    ⟨some 88, .mov (.t 87), none⟩,
    ⟨some 89, .mov (.t 6), some (88, true)⟩,
    ⟨some 90, .mov (.t 12), some (88, true)⟩,
    ⟨some 91, .bin .eql false (.t 89) (.t 90), some (88, true)⟩,
    ⟨some 92, .pick (.t 88) (.t 91) (.c (.v (.bool false))), none⟩])
  (.cond (.t 92)
    (.seq (.ops [⟨some 2, .mov (.c (.v (.int .i64 2))), none⟩,
      ⟨some 3, .mov (.c (.v (.int .i64 0))), none⟩,
      ⟨some 4, .mov (.c (.v (.int .i64 0))), none⟩])
    .ret)
    .skip))
  (.seq (.seq (.ops [⟨some 93, .faddr 0 (.t 1), none⟩,
    ⟨some 94, .load 1 false (.t 93), none⟩,
    ⟨some 95, .bin .geq false (.t 94) (.c (.v (.int .i64 15))), none⟩,
    ⟨some 96, .mov (.t 95), none⟩,
    ⟨some 97, .mov (.t 6), some (96, true)⟩,
    ⟨some 98, .mov (.t 7), some (96, true)⟩,
    ⟨some 99, .bin .add false (.t 97) (.t 98), some (96, true)⟩,
    ⟨some 100, .mov (.t 12), some (96, true)⟩,
    ⟨some 101, .bin .eql false (.t 99) (.t 100), some (96, true)⟩,
    ⟨some 102, .pick (.t 96) (.t 101) (.c (.v (.bool false))), none⟩])
  (.cond (.t 102)
    (.seq (.ops [⟨some 2, .mov (.c (.v (.int .i64 3))), none⟩,
      ⟨some 3, .mov (.c (.v (.int .i64 0))), none⟩,
      ⟨some 4, .mov (.c (.v (.int .i64 0))), none⟩])
    .ret)
    .skip))
  (.seq (.draw [[⟨some 103, .faddr 2 (.t 1), none⟩,
      ⟨some 104, .load 1 false (.t 103), none⟩,
      ⟨some 2, .mov (.c (.v (.int .i64 0))), none⟩,
      ⟨some 3, .mov (.c (.v (.int .i64 4))), none⟩],
    [⟨some 4, .mov (.t 104), none⟩]])
  .ret)))))))))))⟩ := by kernel_rfl

theorem ir36 : compF Try.prog 36 = some ⟨19, [.t 4],
  (.seq (.ops [⟨some 4, .mov (.c (.v (.int .i64 0))), none⟩])
  (.seq (.seq (.ops [⟨some 6, .mov (.t 0), none⟩,
    ⟨some 7, .len false (.t 6), none⟩,
    ⟨some 8, .mov (.c (.v (.int .i64 0))), none⟩])
  (.block 0 (.loop
    (.seq (.ops [⟨some 9, .bin .lss false (.t 8) (.t 7), none⟩])
    (.seq (.cond (.t 9)
      .skip
      (.exit 0))
    (.seq (.block 1 (.seq (.ops [⟨some 10, .mov (.t 8), none⟩,
      ⟨some 5, .mov (.t 10), none⟩])
    (.seq (.ops [⟨some 11, .mov (.t 1), none⟩,
      ⟨some 12, .mov (.t 0), none⟩,
      ⟨some 13, .mov (.t 5), none⟩,
      ⟨some 14, .iaddr 1 (.t 12) (.t 13), none⟩,
      ⟨some 15, .load 1 false (.t 14), none⟩,
      ⟨some 16, .bin .eql false (.t 11) (.t 15), none⟩])
    (.cond (.t 16)
      (.seq (.ops [⟨some 17, .mov (.t 5), none⟩,
        ⟨some 4, .mov (.t 17), none⟩])
      .ret)
      .skip))))
    (.ops [⟨some 18, .bin .add false (.t 8) (.c (.v (.int .i64 1))), none⟩,
      ⟨some 8, .mov (.t 18), none⟩])))))))
  (.seq (.ops [⟨some 4, .mov (.c (.v (.int .i64 (-1)))), none⟩])
  .ret)))⟩ := by kernel_rfl

set_option maxRecDepth 100000 in
theorem ir37 : compF Try.prog 37 = some ⟨145, [.t 4],
  (.seq (.ops [⟨some 2, .box (.t 0), none⟩,
    ⟨some 4, .mov (.c (.v (.int .i64 0))), none⟩])
  (.seq (.ops [⟨some 5, .mov (.c (.v (.int .i64 0))), none⟩])
  (.seq (.ops [⟨some 6, .mov (.c (.v (.int .i64 0))), none⟩])
  (.seq (.seq (.ops [⟨some 7, .faddr 3 (.t 2), none⟩,
    ⟨some 8, .load 1 false (.t 7), none⟩,
    ⟨some 9, .len false (.t 8), none⟩,
    ⟨some 10, .bin .gtr false (.t 9) (.c (.v (.int .i64 0))), none⟩])
  (.cond (.t 10)
    (.ops [⟨some 11, .faddr 3 (.t 2), none⟩,
      ⟨some 12, .load 1 false (.t 11), none⟩,
      ⟨some 13, .iaddr 4 (.t 12) (.c (.v (.int .i64 0))), none⟩,
      ⟨some 14, .load 4 true (.t 13), none⟩,
      ⟨some 15, .mov (.t 1), none⟩,
      ⟨some 16, .call 37 [(.t 14), (.t 15)], none⟩,
      ⟨some 5, .mov (.t 16), none⟩])
    .skip))
  (.seq (.seq (.ops [⟨some 17, .faddr 3 (.t 2), none⟩,
    ⟨some 18, .load 1 false (.t 17), none⟩,
    ⟨some 19, .len false (.t 18), none⟩,
    ⟨some 20, .bin .gtr false (.t 19) (.c (.v (.int .i64 1))), none⟩])
  (.cond (.t 20)
    (.ops [⟨some 21, .faddr 3 (.t 2), none⟩,
      ⟨some 22, .load 1 false (.t 21), none⟩,
      ⟨some 23, .iaddr 4 (.t 22) (.c (.v (.int .i64 1))), none⟩,
      ⟨some 24, .load 4 true (.t 23), none⟩,
      ⟨some 25, .mov (.t 1), none⟩,
      ⟨some 26, .call 37 [(.t 24), (.t 25)], none⟩,
      ⟨some 6, .mov (.t 26), none⟩])
    .skip))
  (.seq (.seq (.ops [⟨some 27, .faddr 0 (.t 2), none⟩,
    ⟨some 28, .load 1 false (.t 27), none⟩])
  (.block 0 (.seq (.ops [⟨some 30, .bin .eql false (.t 28) (.c (.v (.int .i64 1))), none⟩,
    ⟨some 29, .mov (.t 30), none⟩])
  (.cond (.t 29)
    (.seq (.ops [⟨some 31, .faddr 1 (.t 2), none⟩,
      ⟨some 32, .load 1 false (.t 31), none⟩,
      ⟨some 4, .mov (.t 32), none⟩])
    .ret)
    (.seq (.ops [⟨some 34, .bin .eql false (.t 28) (.c (.v (.int .i64 2))), none⟩,
      ⟨some 33, .mov (.t 34), none⟩])
    (.cond (.t 33)
      (.seq (.seq (.ops [⟨some 35, .faddr 1 (.t 2), none⟩,
        ⟨some 36, .load 1 false (.t 35), none⟩,
        ⟨some 37, .bin .geq false (.t 36) (.c (.v (.int .i64 0))), none⟩,
        ⟨some 38, .mov (.t 37), none⟩,
        ⟨some 39, .faddr 1 (.t 2), some (38, true)⟩,
        ⟨some 40, .load 1 false (.t 39), some (38, true)⟩,
        ⟨some 41, .mov (.t 1), some (38, true)⟩,
        ⟨some 42, .len false (.t 41), some (38, true)⟩,
        ⟨some 43, .bin .lss false (.t 40) (.t 42), some (38, true)⟩,
        ⟨some 44, .pick (.t 38) (.t 43) (.c (.v (.bool false))), none⟩])
      (.cond (.t 44)
        (.seq (.ops [⟨some 45, .mov (.t 1), none⟩,
          ⟨some 46, .faddr 1 (.t 2), none⟩,
          ⟨some 47, .load 1 false (.t 46), none⟩,
          ⟨some 48, .iaddr 1 (.t 45) (.t 47), none⟩,
          ⟨some 49, .load 1 false (.t 48), none⟩,
          ⟨some 4, .mov (.t 49), none⟩])
        .ret)
        .skip))
      (.seq (.ops [⟨some 4, .mov (.c (.v (.int .i64 0))), none⟩])
      .ret))
      (.seq (.ops [⟨some 51, .bin .eql false (.t 28) (.c (.v (.int .i64 3))), none⟩,
        ⟨some 50, .mov (.t 51), none⟩])
      (.cond (.t 50)
        (.seq (.ops [⟨some 52, .mov (.t 5), none⟩,
          ⟨some 53, .mov (.t 6), none⟩,
          ⟨some 54, .bin .add false (.t 52) (.t 53), none⟩,
          ⟨some 4, .mov (.t 54), none⟩])
        .ret)
        (.seq (.ops [⟨some 56, .bin .eql false (.t 28) (.c (.v (.int .i64 4))), none⟩,
          ⟨some 55, .mov (.t 56), none⟩])
        (.cond (.t 55)
          (.seq (.ops [⟨some 57, .mov (.t 5), none⟩,
            ⟨some 58, .mov (.t 6), none⟩,
            ⟨some 59, .bin .sub false (.t 57) (.t 58), none⟩,
            ⟨some 4, .mov (.t 59), none⟩])
          .ret)
          (.seq (.ops [⟨some 61, .bin .eql false (.t 28) (.c (.v (.int .i64 5))), none⟩,
            ⟨some 60, .mov (.t 61), none⟩])
          (.cond (.t 60)
            (.seq (.ops [⟨some 62, .mov (.t 5), none⟩,
              ⟨some 63, .mov (.t 6), none⟩,
              ⟨some 64, .bin .mul false (.t 62) (.t 63), none⟩,
              ⟨some 4, .mov (.t 64), none⟩])
            .ret)
            (.seq (.ops [⟨some 66, .bin .eql false (.t 28) (.c (.v (.int .i64 6))), none⟩,
              ⟨some 65, .mov (.t 66), none⟩])
            (.cond (.t 65)
              (.seq (.ops [⟨some 67, .mov (.t 5), none⟩,
                ⟨some 68, .un .neg (.t 67), none⟩,
                ⟨some 4, .mov (.t 68), none⟩])
              .ret)
              (.seq (.ops [⟨some 70, .bin .eql false (.t 28) (.c (.v (.int .i64 7))), none⟩,
                ⟨some 69, .mov (.t 70), none⟩])
              (.cond (.t 69)
                (.seq (.ops [⟨some 71, .mov (.t 5), none⟩,
                  ⟨some 72, .mov (.t 6), none⟩,
                  ⟨some 73, .bin .eql false (.t 71) (.t 72), none⟩,
                  ⟨some 74, .call 38 [(.t 73)], none⟩,
                  ⟨some 4, .mov (.t 74), none⟩])
                .ret)
                (.seq (.ops [⟨some 76, .bin .eql false (.t 28) (.c (.v (.int .i64 8))), none⟩,
                  ⟨some 75, .mov (.t 76), none⟩])
                (.cond (.t 75)
                  (.seq (.ops [⟨some 77, .mov (.t 5), none⟩,
                    ⟨some 78, .mov (.t 6), none⟩,
                    ⟨some 79, .bin .neq false (.t 77) (.t 78), none⟩,
                    ⟨some 80, .call 38 [(.t 79)], none⟩,
                    ⟨some 4, .mov (.t 80), none⟩])
                  .ret)
                  (.seq (.ops [⟨some 82, .bin .eql false (.t 28) (.c (.v (.int .i64 9))), none⟩,
                    ⟨some 81, .mov (.t 82), none⟩])
                  (.cond (.t 81)
                    (.seq (.ops [⟨some 83, .mov (.t 5), none⟩,
                      ⟨some 84, .mov (.t 6), none⟩,
                      ⟨some 85, .bin .lss false (.t 83) (.t 84), none⟩,
                      ⟨some 86, .call 38 [(.t 85)], none⟩,
                      ⟨some 4, .mov (.t 86), none⟩])
                    .ret)
                    (.seq (.ops [⟨some 88, .bin .eql false (.t 28) (.c (.v (.int .i64 10))), none⟩,
                      ⟨some 87, .mov (.t 88), none⟩])
                    (.cond (.t 87)
                      (.seq (.ops [⟨some 89, .mov (.t 5), none⟩,
                        ⟨some 90, .mov (.t 6), none⟩,
                        ⟨some 91, .bin .leq false (.t 89) (.t 90), none⟩,
                        ⟨some 92, .call 38 [(.t 91)], none⟩,
                        ⟨some 4, .mov (.t 92), none⟩])
                      .ret)
                      (.seq (.ops [⟨some 94, .bin .eql false (.t 28) (.c (.v (.int .i64 11))), none⟩,
                        ⟨some 93, .mov (.t 94), none⟩])
                      (.cond (.t 93)
                        (.seq (.ops [⟨some 95, .mov (.t 5), none⟩,
                          ⟨some 96, .mov (.t 6), none⟩,
                          ⟨some 97, .bin .gtr false (.t 95) (.t 96), none⟩,
                          ⟨some 98, .call 38 [(.t 97)], none⟩,
                          ⟨some 4, .mov (.t 98), none⟩])
                        .ret)
                        (.seq (.ops [⟨some 100, .bin .eql false (.t 28) (.c (.v (.int .i64 12))), none⟩,
                          ⟨some 99, .mov (.t 100), none⟩])
                        (.cond (.t 99)
                          (.seq (.ops [⟨some 101, .mov (.t 5), none⟩,
                            ⟨some 102, .mov (.t 6), none⟩,
                            ⟨some 103, .bin .geq false (.t 101) (.t 102), none⟩,
                            ⟨some 104, .call 38 [(.t 103)], none⟩,
                            ⟨some 4, .mov (.t 104), none⟩])
                          .ret)
                          (.seq (.ops [⟨some 106, .bin .eql false (.t 28) (.c (.v (.int .i64 13))), none⟩,
                            ⟨some 105, .mov (.t 106), none⟩])
                          (.cond (.t 105)
                            (.seq (.ops [⟨some 4, .mov (.c (.v (.int .i64 1))), none⟩])
                            .ret)
                            (.seq (.ops [⟨some 108, .bin .eql false (.t 28) (.c (.v (.int .i64 15))), none⟩,
                              ⟨some 107, .mov (.t 108), none⟩])
                            (.cond (.t 107)
                              (.seq (.ops [⟨some 109, .mov (.t 5), none⟩,
                                ⟨some 110, .bin .eql false (.t 109) (.c (.v (.int .i64 0))), none⟩,
                                ⟨some 111, .call 38 [(.t 110)], none⟩,
                                ⟨some 4, .mov (.t 111), none⟩])
                              .ret)
                              (.seq (.ops [⟨some 113, .bin .eql false (.t 28) (.c (.v (.int .i64 16))), none⟩,
                                ⟨some 112, .mov (.t 113), none⟩])
                              (.cond (.t 112)
                                (.seq (.ops [⟨some 114, .mov (.t 5), none⟩,
                                  ⟨some 115, .bin .eql false (.t 114) (.c (.v (.int .i64 1))), none⟩,
                                  ⟨some 116, .mov (.t 115), none⟩,
                                  ⟨some 117, .mov (.t 6), some (116, true)⟩,
                                  ⟨some 118, .bin .eql false (.t 117) (.c (.v (.int .i64 1))), some (116, true)⟩,
                                  ⟨some 119, .pick (.t 116) (.t 118) (.c (.v (.bool false))), none⟩,
                                  ⟨some 120, .call 38 [(.t 119)], none⟩,
                                  ⟨some 4, .mov (.t 120), none⟩])
                                .ret)
                                (.seq (.ops [⟨some 122, .bin .eql false (.t 28) (.c (.v (.int .i64 17))), none⟩,
                                  ⟨some 121, .mov (.t 122), none⟩])
                                (.cond (.t 121)
                                  (.seq (.ops [⟨some 123, .mov (.t 5), none⟩,
                                    ⟨some 124, .bin .eql false (.t 123) (.c (.v (.int .i64 1))), none⟩,
                                    ⟨some 125, .mov (.t 124), none⟩,
                                    ⟨some 126, .mov (.t 6), some (125, false)⟩,
                                    ⟨some 127, .bin .eql false (.t 126) (.c (.v (.int .i64 1))), some (125, false)⟩,
                                    ⟨some 128, .pick (.t 125) (.c (.v (.bool true))) (.t 127), none⟩,
                                    ⟨some 129, .call 38 [(.t 128)], none⟩,
                                    ⟨some 4, .mov (.t 129), none⟩])
                                  .ret)
                                  (.seq (.ops [⟨some 131, .bin .eql false (.t 28) (.c (.v (.int .i64 18))), none⟩,
                                    ⟨some 130, .mov (.t 131), none⟩])
                                  (.cond (.t 130)
                                    (.seq (.ops [⟨some 132, .mov (.t 5), none⟩,
                                      ⟨some 133, .bin .eql false (.t 132) (.c (.v (.int .i64 0))), none⟩,
                                      ⟨some 134, .mov (.t 133), none⟩,
                                      ⟨some 135, .mov (.t 6), some (134, false)⟩,
                                      ⟨some 136, .bin .eql false (.t 135) (.c (.v (.int .i64 1))), some (134, false)⟩,
                                      ⟨some 137, .pick (.t 134) (.c (.v (.bool true))) (.t 136), none⟩,
                                      ⟨some 138, .call 38 [(.t 137)], none⟩,
                                      ⟨some 4, .mov (.t 138), none⟩])
                                    .ret)
                                    (.seq (.ops [⟨some 140, .bin .eql false (.t 28) (.c (.v (.int .i64 19))), none⟩,
                                      ⟨some 139, .mov (.t 140), none⟩])
                                    (.cond (.t 139)
                                      (.seq (.ops [⟨some 141, .mov (.t 5), none⟩,
                                        ⟨some 142, .mov (.t 6), none⟩,
                                        ⟨some 143, .bin .eql false (.t 141) (.t 142), none⟩,
                                        ⟨some 144, .call 38 [(.t 143)], none⟩,
                                        ⟨some 4, .mov (.t 144), none⟩])
                                      .ret)
                                      .skip))))))))))))))))))))))))))))))))))))))
  (.seq (.ops [⟨some 4, .mov (.c (.v (.int .i64 0))), none⟩])
  .ret)))))))⟩ := by kernel_rfl

theorem ir38 : compF Try.prog 38 = some ⟨4, [.t 2],
  (.seq (.ops [⟨some 2, .mov (.c (.v (.int .i64 0))), none⟩])
  (.seq (.seq (.ops [⟨some 3, .mov (.t 0), none⟩])
  (.cond (.t 3)
    (.seq (.ops [⟨some 2, .mov (.c (.v (.int .i64 1))), none⟩])
    .ret)
    .skip))
  (.seq (.ops [⟨some 2, .mov (.c (.v (.int .i64 0))), none⟩])
  .ret)))⟩ := by kernel_rfl

end Go.Proofs.Ytjdliinnbkfljaa
