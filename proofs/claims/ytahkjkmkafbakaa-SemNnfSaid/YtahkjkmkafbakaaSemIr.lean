/- The functions of the program in the small language. -/
import Derived.Test.YtahkjkmkafbakaaLgR
import Derived.Test.YtahkjkmkafbakaaChecked
namespace Go.Proofs.Ytahkjkmkafbakaa
open Go Lg

theorem ir3 : compF Try.prog 3 = some ⟨51, [.t 4],
  (.seq (.ops [⟨some 2, .box (.t 0), none⟩,
    ⟨some 3, .box (.t 1), none⟩,
    ⟨some 4, .mov (.c (.v (.bool false))), none⟩])
  (.seq (.ops [⟨some 7, .call 9 [], none⟩,
    ⟨some 5, .mov (.t 7), none⟩])
  (.seq (.seq (.ops [⟨some 8, .faddr 0 (.t 3), none⟩,
    ⟨some 9, .load 1 false (.t 8), none⟩,
    ⟨some 10, .len false (.t 9), none⟩,
    ⟨some 11, .bin .gtr false (.t 10) (.c (.v (.int .i64 20))), none⟩,
    ⟨some 12, .mov (.t 11), none⟩,
    ⟨some 13, .load 2 true (.t 3), some (12, false)⟩,
    ⟨some 14, .call 10 [(.t 13)], some (12, false)⟩,
    ⟨some 15, .un .not (.t 14), some (12, false)⟩,
    ⟨some 16, .pick (.t 12) (.c (.v (.bool true))) (.t 15), none⟩])
  (.cond (.t 16)
    (.seq (.ops [⟨some 17, .mov (.t 5), none⟩,
      ⟨some 4, .mov (.t 17), none⟩])
    .ret)
    .skip))
  (.seq (.ops [⟨some 18, .load 2 true (.t 3), none⟩,
    ⟨some 19, .call 11 [(.t 18)], none⟩,
    ⟨some 6, .mov (.t 19), none⟩])
  (.seq (.seq (.ops [⟨some 20, .load 2 true (.t 3), none⟩,
    ⟨some 21, .call 12 [(.t 20)], none⟩,
    ⟨some 22, .mov (.t 6), none⟩,
    ⟨some 23, .bin .neq true (.t 21) (.t 22), none⟩])
  (.cond (.t 23)
    (.seq (.ops [⟨some 4, .mov (.c (.v (.bool false))), none⟩])
    .ret)
    .skip))
  (.seq (.seq (.ops [⟨some 24, .mov (.t 6), none⟩,
    ⟨some 25, .un .not (.t 24), none⟩,
    ⟨some 26, .mov (.t 25), none⟩,
    ⟨some 27, .load 4 true (.t 2), some (26, false)⟩,
    ⟨some 28, .call 13 [(.t 27), (.c (.v (.int .i64 3)))], some (26, false)⟩,
    ⟨some 29, .un .not (.t 28), some (26, false)⟩,
    ⟨some 30, .pick (.t 26) (.c (.v (.bool true))) (.t 29), none⟩])
  (.cond (.t 30)
    (.seq (.ops [⟨some 31, .mov (.t 5), none⟩,
      ⟨some 4, .mov (.t 31), none⟩])
    .ret)
    .skip))
  (.seq (.draw [[⟨some 32, .mov (.t 5), none⟩],
    [⟨some 33, .mov (.t 32), none⟩],
    [⟨some 34, .load 4 true (.t 2), some (33, true)⟩,
      ⟨some 35, .load 2 true (.t 3), some (33, true)⟩,
      ⟨some 36, .call 15 [(.t 34), (.t 35)], some (33, true)⟩,
      ⟨some 37, .load 4 true (.t 2), some (33, true)⟩,
      ⟨some 38, .load 2 true (.t 3), some (33, true)⟩],
    [⟨some 39, .call 16 [(.t 37), (.t 38)], some (33, true)⟩],
    [⟨some 40, .call 14 [(.t 36), (.t 39)], some (33, true)⟩],
    [⟨some 41, .pick (.t 33) (.t 40) (.c (.v (.bool false))), none⟩],
    [⟨some 42, .mov (.t 41), none⟩],
    [⟨some 43, .load 4 true (.t 2), some (42, true)⟩,
      ⟨some 44, .load 2 true (.t 3), some (42, true)⟩,
      ⟨some 45, .call 17 [(.t 43), (.t 44)], some (42, true)⟩,
      ⟨some 46, .load 4 true (.t 2), some (42, true)⟩,
      ⟨some 47, .load 2 true (.t 3), some (42, true)⟩],
    [⟨some 48, .call 18 [(.t 46), (.t 47)], some (42, true)⟩],
    [⟨some 49, .bin .eql true (.t 45) (.t 48), some (42, true)⟩],
    [⟨some 50, .pick (.t 42) (.t 49) (.c (.v (.bool false))), none⟩],
    [⟨some 4, .mov (.t 50), none⟩]])
  .ret)))))))⟩ := by kernel_rfl

set_option maxRecDepth 100000 in
theorem ir4 : compF Try.prog 4 = some ⟨136, [.t 4],
  (.seq (.ops [⟨some 2, .box (.t 0), none⟩,
    ⟨some 3, .box (.t 1), none⟩,
    ⟨some 4, .mov (.c (.v (.bool false))), none⟩])
  (.seq (.ops [⟨some 14, .call 9 [], none⟩,
    ⟨some 5, .mov (.t 14), none⟩])
  (.seq (.seq (.ops [⟨some 15, .faddr 0 (.t 3), none⟩,
    ⟨some 16, .load 1 false (.t 15), none⟩,
    ⟨some 17, .len false (.t 16), none⟩,
    ⟨some 18, .bin .gtr false (.t 17) (.c (.v (.int .i64 12))), none⟩,
    ⟨some 19, .mov (.t 18), none⟩,
    ⟨some 20, .load 2 true (.t 3), some (19, false)⟩,
    ⟨some 21, .call 10 [(.t 20)], some (19, false)⟩,
    ⟨some 22, .un .not (.t 21), some (19, false)⟩,
    ⟨some 23, .pick (.t 19) (.c (.v (.bool true))) (.t 22), none⟩,
    ⟨some 24, .mov (.t 23), none⟩,
    ⟨some 25, .load 2 true (.t 3), some (24, false)⟩,
    ⟨some 26, .call 11 [(.t 25)], some (24, false)⟩,
    ⟨some 27, .un .not (.t 26), some (24, false)⟩,
    ⟨some 28, .pick (.t 24) (.c (.v (.bool true))) (.t 27), none⟩,
    ⟨some 29, .mov (.t 28), none⟩,
    ⟨some 30, .load 4 true (.t 2), some (29, false)⟩,
    ⟨some 31, .call 13 [(.t 30), (.c (.v (.int .i64 3)))], some (29, false)⟩,
    ⟨some 32, .un .not (.t 31), some (29, false)⟩,
    ⟨some 33, .pick (.t 29) (.c (.v (.bool true))) (.t 32), none⟩])
  (.cond (.t 33)
    (.seq (.ops [⟨some 34, .mov (.t 5), none⟩,
      ⟨some 4, .mov (.t 34), none⟩])
    .ret)
    .skip))
  (.seq (.ops [⟨some 35, .faddr 0 (.t 3), none⟩,
    ⟨some 36, .load 1 false (.t 35), none⟩,
    ⟨some 37, .len false (.t 36), none⟩,
    ⟨some 6, .mov (.t 37), none⟩])
  (.seq (.draw [[⟨some 38, .bslice 1 [(.v (.slice none 0 0))] 0 [], none⟩,
      ⟨some 39, .faddr 0 (.t 3), none⟩,
      ⟨some 40, .load 1 false (.t 39), none⟩,
      ⟨some 41, .append 1 24 [(.v (.slice none 0 0))] (.t 38) (.t 40), none⟩,
      ⟨some 42, .faddr 0 (.t 3), none⟩,
      ⟨some 43, .load 1 false (.t 42), none⟩,
      ⟨some 44, .faddr 1 (.t 3), none⟩,
      ⟨some 45, .load 1 false (.t 44), none⟩,
      ⟨some 46, .slice 1 (.t 43) (some (.t 45)) none none, none⟩,
      ⟨some 47, .append 1 24 [(.v (.slice none 0 0))] (.t 41) (.t 46), none⟩,
      ⟨some 48, .mov (.t 6), none⟩,
      ⟨some 49, .build [(.v (.slice none 0 0)), (.v (.int .i64 0))] [(0, 1, (.t 47)), (1, 1, (.t 48))], none⟩,
      ⟨some 7, .alloc (.agg [(.v (.slice none 0 0)), (.v (.int .i64 0))]), none⟩],
    [⟨none, .store 2 (.t 7) (.t 49), none⟩]])
  (.seq (.draw [[⟨some 50, .bslice 1 [(.v (.slice none 0 0))] 0 [], none⟩,
      ⟨some 51, .faddr 0 (.t 3), none⟩,
      ⟨some 52, .load 1 false (.t 51), none⟩,
      ⟨some 53, .append 1 24 [(.v (.slice none 0 0))] (.t 50) (.t 52), none⟩,
      ⟨some 54, .faddr 0 (.t 3), none⟩,
      ⟨some 55, .load 1 false (.t 54), none⟩,
      ⟨some 56, .faddr 1 (.t 3), none⟩,
      ⟨some 57, .load 1 false (.t 56), none⟩,
      ⟨some 58, .iaddr 1 (.t 55) (.t 57), none⟩,
      ⟨some 59, .load 1 false (.t 58), none⟩,
      ⟨some 60, .bslice 1 [(.v (.slice none 0 0))] 1 [(0, 1, (.t 59))], none⟩,
      ⟨some 61, .append 1 24 [(.v (.slice none 0 0))] (.t 53) (.t 60), none⟩,
      ⟨some 62, .faddr 1 (.t 3), none⟩,
      ⟨some 63, .load 1 false (.t 62), none⟩,
      ⟨some 64, .bin .add false (.t 63) (.c (.v (.int .i64 1))), none⟩,
      ⟨some 65, .build [(.v (.slice none 0 0)), (.v (.int .i64 0))] [(0, 1, (.t 61)), (1, 1, (.t 64))], none⟩,
      ⟨some 8, .alloc (.agg [(.v (.slice none 0 0)), (.v (.int .i64 0))]), none⟩],
    [⟨none, .store 2 (.t 8) (.t 65), none⟩]])
  (.seq (.ops [⟨some 66, .load 4 true (.t 2), none⟩,
    ⟨some 67, .load 2 true (.t 3), none⟩,
    ⟨some 68, .call 15 [(.t 66), (.t 67)], none⟩,
    ⟨some 9, .mov (.t 68), none⟩])
  (.seq (.ops [⟨some 69, .load 4 true (.t 2), none⟩,
    ⟨some 70, .load 2 true (.t 7), none⟩,
    ⟨some 71, .call 15 [(.t 69), (.t 70)], none⟩,
    ⟨some 10, .mov (.t 71), none⟩])
  (.seq (.ops [⟨some 72, .load 4 true (.t 2), none⟩,
    ⟨some 73, .load 2 true (.t 8), none⟩,
    ⟨some 74, .call 15 [(.t 72), (.t 73)], none⟩,
    ⟨some 11, .mov (.t 74), none⟩])
  (.seq (.seq (.ops [⟨some 75, .mov (.t 9), none⟩,
    ⟨some 76, .len false (.t 75), none⟩,
    ⟨some 77, .mov (.t 6), none⟩,
    ⟨some 78, .bin .neq false (.t 76) (.t 77), none⟩,
    ⟨some 79, .mov (.t 78), none⟩,
    ⟨some 80, .mov (.t 10), some (79, false)⟩,
    ⟨some 81, .len false (.t 80), some (79, false)⟩,
    ⟨some 82, .faddr 0 (.t 7), some (79, false)⟩,
    ⟨some 83, .load 1 false (.t 82), some (79, false)⟩,
    ⟨some 84, .len false (.t 83), some (79, false)⟩,
    ⟨some 85, .bin .neq false (.t 81) (.t 84), some (79, false)⟩,
    ⟨some 86, .pick (.t 79) (.c (.v (.bool true))) (.t 85), none⟩,
    ⟨some 87, .mov (.t 86), none⟩,
    ⟨some 88, .mov (.t 11), some (87, false)⟩,
    ⟨some 89, .len false (.t 88), some (87, false)⟩,
    ⟨some 90, .mov (.t 6), some (87, false)⟩,
    ⟨some 91, .bin .add false (.t 90) (.c (.v (.int .i64 1))), some (87, false)⟩,
    ⟨some 92, .bin .neq false (.t 89) (.t 91), some (87, false)⟩,
    ⟨some 93, .pick (.t 87) (.c (.v (.bool true))) (.t 92), none⟩])
  (.cond (.t 93)
    (.seq (.ops [⟨some 4, .mov (.c (.v (.bool false))), none⟩])
    .ret)
    .skip))
  (.seq (.seq (.ops [⟨some 12, .mov (.c (.v (.int .i64 0))), none⟩])
  (.block 0 (.loop
    (.seq (.seq (.ops [⟨some 94, .mov (.t 12), none⟩,
      ⟨some 95, .mov (.t 10), none⟩,
      ⟨some 96, .len false (.t 95), none⟩,
      ⟨some 97, .bin .lss false (.t 94) (.t 96), none⟩])
    (.cond (.t 97)
      .skip
      (.exit 0)))
    (.seq (.block 1 (.seq (.ops [⟨some 100, .mov (.t 12), none⟩,
      ⟨some 13, .mov (.t 100), none⟩])
    (.seq (.seq (.ops [⟨some 101, .mov (.t 12), none⟩,
      ⟨some 102, .mov (.t 6), none⟩,
      ⟨some 103, .bin .geq false (.t 101) (.t 102), none⟩])
    (.cond (.t 103)
      (.ops [⟨some 104, .faddr 1 (.t 3), none⟩,
        ⟨some 105, .load 1 false (.t 104), none⟩,
        ⟨some 106, .mov (.t 12), none⟩,
        ⟨some 107, .bin .add false (.t 105) (.t 106), none⟩,
        ⟨some 108, .mov (.t 6), none⟩,
        ⟨some 109, .bin .sub false (.t 107) (.t 108), none⟩,
        ⟨some 13, .mov (.t 109), none⟩])
      .skip))
    (.seq (.draw [[⟨some 110, .mov (.t 10), none⟩,
        ⟨some 111, .mov (.t 12), none⟩,
        ⟨some 112, .iaddr 1 (.t 110) (.t 111), none⟩,
        ⟨some 113, .load 1 false (.t 112), none⟩,
        ⟨some 114, .mov (.t 9), none⟩,
        ⟨some 115, .mov (.t 13), none⟩,
        ⟨some 116, .iaddr 1 (.t 114) (.t 115), none⟩,
        ⟨some 117, .load 1 false (.t 116), none⟩],
      [⟨some 118, .bin .neq true (.t 113) (.t 117), none⟩],
      [⟨some 119, .mov (.t 118), none⟩],
      [⟨some 120, .mov (.t 12), some (119, false)⟩,
        ⟨some 121, .mov (.t 6), some (119, false)⟩],
      [⟨some 122, .bin .leq false (.t 120) (.t 121), some (119, false)⟩],
      [⟨some 123, .mov (.t 122), some (119, false)⟩],
      [⟨some 124, .mov (.t 11), some (123, true)⟩,
        ⟨some 125, .mov (.t 12), some (123, true)⟩,
        ⟨some 126, .iaddr 1 (.t 124) (.t 125), some (123, true)⟩,
        ⟨some 127, .load 1 false (.t 126), some (123, true)⟩,
        ⟨some 128, .mov (.t 9), some (123, true)⟩,
        ⟨some 129, .mov (.t 13), some (123, true)⟩,
        ⟨some 130, .iaddr 1 (.t 128) (.t 129), some (123, true)⟩,
        ⟨some 131, .load 1 false (.t 130), some (123, true)⟩],
      [⟨some 132, .bin .neq true (.t 127) (.t 131), some (123, true)⟩],
      [⟨some 133, .pick (.t 123) (.t 132) (.c (.v (.bool false))), some (119, false)⟩],
      [⟨some 134, .pick (.t 119) (.c (.v (.bool true))) (.t 133), none⟩]])
    (.cond (.t 134)
      (.seq (.ops [⟨some 4, .mov (.c (.v (.bool false))), none⟩])
      .ret)
      .skip)))))
    (.ops [⟨some 98, .mov (.t 12), none⟩,
      ⟨some 99, .bin .add false (.t 98) (.c (.v (.int .i64 1))), none⟩,
      ⟨some 12, .mov (.t 99), none⟩]))))))
  (.seq (.ops [⟨some 135, .mov (.t 5), none⟩,
    ⟨some 4, .mov (.t 135), none⟩])
  .ret))))))))))))⟩ := by kernel_rfl

set_option maxRecDepth 100000 in
theorem ir5 : compF Try.prog 5 = some ⟨267, [.t 6],
  (.seq (.ops [⟨some 3, .box (.t 0), none⟩,
    ⟨some 4, .box (.t 1), none⟩,
    ⟨some 5, .box (.t 2), none⟩,
    ⟨some 6, .mov (.c (.v (.bool false))), none⟩])
  (.seq (.ops [⟨some 20, .call 9 [], none⟩,
    ⟨some 7, .mov (.t 20), none⟩])
  (.seq (.seq (.ops [⟨some 21, .faddr 0 (.t 5), none⟩,
    ⟨some 22, .load 1 false (.t 21), none⟩,
    ⟨some 23, .len false (.t 22), none⟩,
    ⟨some 24, .bin .gtr false (.t 23) (.c (.v (.int .i64 12))), none⟩,
    ⟨some 25, .mov (.t 24), none⟩,
    ⟨some 26, .load 2 true (.t 5), some (25, false)⟩,
    ⟨some 27, .call 10 [(.t 26)], some (25, false)⟩,
    ⟨some 28, .un .not (.t 27), some (25, false)⟩,
    ⟨some 29, .pick (.t 25) (.c (.v (.bool true))) (.t 28), none⟩,
    ⟨some 30, .mov (.t 29), none⟩,
    ⟨some 31, .load 2 true (.t 5), some (30, false)⟩,
    ⟨some 32, .call 11 [(.t 31)], some (30, false)⟩,
    ⟨some 33, .un .not (.t 32), some (30, false)⟩,
    ⟨some 34, .pick (.t 30) (.c (.v (.bool true))) (.t 33), none⟩,
    ⟨some 35, .mov (.t 34), none⟩,
    ⟨some 36, .load 4 true (.t 3), some (35, false)⟩,
    ⟨some 37, .call 13 [(.t 36), (.c (.v (.int .i64 3)))], some (35, false)⟩,
    ⟨some 38, .un .not (.t 37), some (35, false)⟩,
    ⟨some 39, .pick (.t 35) (.c (.v (.bool true))) (.t 38), none⟩,
    ⟨some 40, .mov (.t 39), none⟩,
    ⟨some 41, .load 4 true (.t 4), some (40, false)⟩,
    ⟨some 42, .call 13 [(.t 41), (.c (.v (.int .i64 3)))], some (40, false)⟩,
    ⟨some 43, .un .not (.t 42), some (40, false)⟩,
    ⟨some 44, .pick (.t 40) (.c (.v (.bool true))) (.t 43), none⟩])
  (.cond (.t 44)
    (.seq (.ops [⟨some 45, .mov (.t 7), none⟩,
      ⟨some 6, .mov (.t 45), none⟩])
    .ret)
    .skip))
  (.seq (.ops [⟨some 46, .load 4 true (.t 3), none⟩,
    ⟨some 47, .load 2 true (.t 5), none⟩,
    ⟨some 48, .call 15 [(.t 46), (.t 47)], none⟩,
    ⟨some 8, .mov (.t 48), none⟩])
  (.seq (.ops [⟨some 49, .load 4 true (.t 4), none⟩,
    ⟨some 50, .load 2 true (.t 5), none⟩,
    ⟨some 51, .call 15 [(.t 49), (.t 50)], none⟩,
    ⟨some 9, .mov (.t 51), none⟩])
  (.seq (.draw [[⟨some 52, .load 4 true (.t 3), none⟩,
      ⟨some 53, .load 4 true (.t 4), none⟩,
      ⟨some 54, .call 19 [(.c (.v (.int .i64 23))), (.t 52), (.t 53)], none⟩,
      ⟨some 55, .load 2 true (.t 5), none⟩],
    [⟨some 56, .call 15 [(.t 54), (.t 55)], none⟩],
    [⟨some 10, .mov (.t 56), none⟩]])
  (.seq (.draw [[⟨some 57, .load 4 true (.t 3), none⟩,
      ⟨some 58, .load 4 true (.t 4), none⟩,
      ⟨some 59, .call 19 [(.c (.v (.int .i64 24))), (.t 57), (.t 58)], none⟩,
      ⟨some 60, .load 2 true (.t 5), none⟩],
    [⟨some 61, .call 15 [(.t 59), (.t 60)], none⟩],
    [⟨some 11, .mov (.t 61), none⟩]])
  (.seq (.draw [[⟨some 62, .load 4 true (.t 3), none⟩,
      ⟨some 63, .call 20 [(.t 62)], none⟩,
      ⟨some 64, .load 4 true (.t 4), none⟩,
      ⟨some 65, .call 20 [(.t 64)], none⟩,
      ⟨some 66, .call 19 [(.c (.v (.int .i64 23))), (.t 63), (.t 65)], none⟩,
      ⟨some 67, .call 20 [(.t 66)], none⟩,
      ⟨some 68, .load 2 true (.t 5), none⟩],
    [⟨some 69, .call 15 [(.t 67), (.t 68)], none⟩],
    [⟨some 12, .mov (.t 69), none⟩]])
  (.seq (.draw [[⟨some 70, .load 4 true (.t 3), none⟩,
      ⟨some 71, .call 21 [(.c (.v (.int .i64 21))), (.t 70)], none⟩,
      ⟨some 72, .load 2 true (.t 5), none⟩],
    [⟨some 73, .call 15 [(.t 71), (.t 72)], none⟩],
    [⟨some 13, .mov (.t 73), none⟩]])
  (.seq (.draw [[⟨some 74, .load 4 true (.t 3), none⟩,
      ⟨some 75, .call 20 [(.t 74)], none⟩,
      ⟨some 76, .call 21 [(.c (.v (.int .i64 22))), (.t 75)], none⟩,
      ⟨some 77, .call 20 [(.t 76)], none⟩,
      ⟨some 78, .load 2 true (.t 5), none⟩],
    [⟨some 79, .call 15 [(.t 77), (.t 78)], none⟩],
    [⟨some 14, .mov (.t 79), none⟩]])
  (.seq (.draw [[⟨some 80, .build [(.v (.int .i64 0)), (.v (.int .i64 0)), (.v (.int .i64 0)), (.v (.slice none 0 0))] [(0, 1, (.c (.v (.int .i64 13))))], none⟩,
      ⟨some 81, .load 4 true (.t 3), none⟩,
      ⟨some 82, .call 19 [(.c (.v (.int .i64 23))), (.t 80), (.t 81)], none⟩,
      ⟨some 83, .load 2 true (.t 5), none⟩],
    [⟨some 84, .call 15 [(.t 82), (.t 83)], none⟩],
    [⟨some 15, .mov (.t 84), none⟩]])
  (.seq (.draw [[⟨some 85, .load 4 true (.t 3), none⟩,
      ⟨some 86, .call 20 [(.t 85)], none⟩,
      ⟨some 87, .load 2 true (.t 5), none⟩],
    [⟨some 88, .call 15 [(.t 86), (.t 87)], none⟩],
    [⟨some 16, .mov (.t 88), none⟩]])
  (.seq (.ops [⟨some 89, .faddr 0 (.t 5), none⟩,
    ⟨some 90, .load 1 false (.t 89), none⟩,
    ⟨some 91, .len false (.t 90), none⟩,
    ⟨some 17, .mov (.t 91), none⟩])
  (.seq (.seq (.ops [⟨some 92, .mov (.t 8), none⟩,
    ⟨some 93, .len false (.t 92), none⟩,
    ⟨some 94, .mov (.t 17), none⟩,
    ⟨some 95, .bin .neq false (.t 93) (.t 94), none⟩,
    ⟨some 96, .mov (.t 95), none⟩,
    ⟨some 97, .mov (.t 9), some (96, false)⟩,
    ⟨some 98, .len false (.t 97), some (96, false)⟩,
    ⟨some 99, .mov (.t 17), some (96, false)⟩,
    ⟨some 100, .bin .neq false (.t 98) (.t 99), some (96, false)⟩,
    ⟨some 101, .pick (.t 96) (.c (.v (.bool true))) (.t 100), none⟩,
    ⟨some 102, .mov (.t 101), none⟩,
    ⟨some 103, .mov (.t 10), some (102, false)⟩,
    ⟨some 104, .len false (.t 103), some (102, false)⟩,
    ⟨some 105, .mov (.t 17), some (102, false)⟩,
    ⟨some 106, .bin .neq false (.t 104) (.t 105), some (102, false)⟩,
    ⟨some 107, .pick (.t 102) (.c (.v (.bool true))) (.t 106), none⟩,
    ⟨some 108, .mov (.t 107), none⟩,
    ⟨some 109, .mov (.t 11), some (108, false)⟩,
    ⟨some 110, .len false (.t 109), some (108, false)⟩,
    ⟨some 111, .mov (.t 17), some (108, false)⟩,
    ⟨some 112, .bin .neq false (.t 110) (.t 111), some (108, false)⟩,
    ⟨some 113, .pick (.t 108) (.c (.v (.bool true))) (.t 112), none⟩,
    ⟨some 114, .mov (.t 113), none⟩,
    ⟨some 115, .mov (.t 12), some (114, false)⟩,
    ⟨some 116, .len false (.t 115), some (114, false)⟩,
    ⟨some 117, .mov (.t 17), some (114, false)⟩,
    ⟨some 118, .bin .neq false (.t 116) (.t 117), some (114, false)⟩,
    ⟨some 119, .pick (.t 114) (.c (.v (.bool true))) (.t 118), none⟩,
    ⟨some 120, .mov (.t 119), none⟩,
    ⟨some 121, .mov (.t 13), some (120, false)⟩,
    ⟨some 122, .len false (.t 121), some (120, false)⟩,
    ⟨some 123, .mov (.t 17), some (120, false)⟩,
    ⟨some 124, .bin .neq false (.t 122) (.t 123), some (120, false)⟩,
    ⟨some 125, .pick (.t 120) (.c (.v (.bool true))) (.t 124), none⟩,
    ⟨some 126, .mov (.t 125), none⟩,
    ⟨some 127, .mov (.t 14), some (126, false)⟩,
    ⟨some 128, .len false (.t 127), some (126, false)⟩,
    ⟨some 129, .mov (.t 17), some (126, false)⟩,
    ⟨some 130, .bin .neq false (.t 128) (.t 129), some (126, false)⟩,
    ⟨some 131, .pick (.t 126) (.c (.v (.bool true))) (.t 130), none⟩,
    ⟨some 132, .mov (.t 131), none⟩,
    ⟨some 133, .mov (.t 15), some (132, false)⟩,
    ⟨some 134, .len false (.t 133), some (132, false)⟩,
    ⟨some 135, .mov (.t 17), some (132, false)⟩,
    ⟨some 136, .bin .neq false (.t 134) (.t 135), some (132, false)⟩,
    ⟨some 137, .pick (.t 132) (.c (.v (.bool true))) (.t 136), none⟩,
    ⟨some 138, .mov (.t 137), none⟩,
    ⟨some 139, .mov (.t 16), some (138, false)⟩,
    ⟨some 140, .len false (.t 139), some (138, false)⟩,
    ⟨some 141, .mov (.t 17), some (138, false)⟩,
    ⟨some 142, .bin .neq false (.t 140) (.t 141), some (138, false)⟩,
    ⟨some 143, .pick (.t 138) (.c (.v (.bool true))) (.t 142), none⟩])
  (.cond (.t 143)
    (.seq (.ops [⟨some 6, .mov (.c (.v (.bool false))), none⟩])
    .ret)
    .skip))
  (.seq (.seq (.ops [⟨some 18, .mov (.c (.v (.int .i64 0))), none⟩])
  (.block 0 (.loop
    (.seq (.seq (.ops [⟨some 144, .mov (.t 18), none⟩,
      ⟨some 145, .mov (.t 17), none⟩,
      ⟨some 146, .bin .lss false (.t 144) (.t 145), none⟩])
    (.cond (.t 146)
      .skip
      (.exit 0)))
    (.seq (.block 1 (.seq (.ops [⟨some 149, .load 2 true (.t 5), none⟩,
      ⟨some 150, .mov (.t 18), none⟩,
      ⟨some 151, .call 22 [(.t 149), (.t 150)], none⟩,
      ⟨some 19, .mov (.t 151), none⟩])
    (.seq (.draw [[⟨some 152, .mov (.t 10), none⟩,
        ⟨some 153, .mov (.t 18), none⟩,
        ⟨some 154, .iaddr 1 (.t 152) (.t 153), none⟩,
        ⟨some 155, .load 1 false (.t 154), none⟩,
        ⟨some 156, .mov (.t 9), none⟩,
        ⟨some 157, .mov (.t 18), none⟩,
        ⟨some 158, .iaddr 1 (.t 156) (.t 157), none⟩,
        ⟨some 159, .load 1 false (.t 158), none⟩,
        ⟨some 160, .mov (.t 159), none⟩,
        ⟨some 161, .mov (.t 8), some (160, false)⟩,
        ⟨some 162, .mov (.t 18), some (160, false)⟩,
        ⟨some 163, .iaddr 1 (.t 161) (.t 162), some (160, false)⟩,
        ⟨some 164, .load 1 false (.t 163), some (160, false)⟩,
        ⟨some 165, .mov (.t 164), some (160, false)⟩,
        ⟨some 166, .mov (.t 10), some (165, true)⟩,
        ⟨some 167, .mov (.t 19), some (165, true)⟩,
        ⟨some 168, .iaddr 1 (.t 166) (.t 167), some (165, true)⟩,
        ⟨some 169, .load 1 false (.t 168), some (165, true)⟩,
        ⟨some 170, .pick (.t 165) (.t 169) (.c (.v (.bool false))), some (160, false)⟩,
        ⟨some 171, .pick (.t 160) (.c (.v (.bool true))) (.t 170), none⟩],
      [⟨some 172, .bin .neq true (.t 155) (.t 171), none⟩],
      [⟨some 173, .mov (.t 172), none⟩],
      [⟨some 174, .mov (.t 11), some (173, false)⟩,
        ⟨some 175, .mov (.t 18), some (173, false)⟩,
        ⟨some 176, .iaddr 1 (.t 174) (.t 175), some (173, false)⟩,
        ⟨some 177, .load 1 false (.t 176), some (173, false)⟩,
        ⟨some 178, .mov (.t 9), some (173, false)⟩,
        ⟨some 179, .mov (.t 18), some (173, false)⟩,
        ⟨some 180, .iaddr 1 (.t 178) (.t 179), some (173, false)⟩,
        ⟨some 181, .load 1 false (.t 180), some (173, false)⟩,
        ⟨some 182, .mov (.t 181), some (173, false)⟩,
        ⟨some 183, .mov (.t 8), some (182, true)⟩,
        ⟨some 184, .mov (.t 18), some (182, true)⟩,
        ⟨some 185, .iaddr 1 (.t 183) (.t 184), some (182, true)⟩,
        ⟨some 186, .load 1 false (.t 185), some (182, true)⟩,
        ⟨some 187, .mov (.t 186), some (182, true)⟩,
        ⟨some 188, .mov (.t 11), some (187, false)⟩,
        ⟨some 189, .mov (.t 19), some (187, false)⟩,
        ⟨some 190, .iaddr 1 (.t 188) (.t 189), some (187, false)⟩,
        ⟨some 191, .load 1 false (.t 190), some (187, false)⟩,
        ⟨some 192, .pick (.t 187) (.c (.v (.bool true))) (.t 191), some (182, true)⟩,
        ⟨some 193, .pick (.t 182) (.t 192) (.c (.v (.bool false))), some (173, false)⟩],
      [⟨some 194, .bin .neq true (.t 177) (.t 193), some (173, false)⟩],
      [⟨some 195, .pick (.t 173) (.c (.v (.bool true))) (.t 194), none⟩],
      [⟨some 196, .mov (.t 195), none⟩],
      [⟨some 197, .mov (.t 11), some (196, false)⟩,
        ⟨some 198, .mov (.t 18), some (196, false)⟩,
        ⟨some 199, .iaddr 1 (.t 197) (.t 198), some (196, false)⟩,
        ⟨some 200, .load 1 false (.t 199), some (196, false)⟩,
        ⟨some 201, .mov (.t 12), some (196, false)⟩,
        ⟨some 202, .mov (.t 18), some (196, false)⟩,
        ⟨some 203, .iaddr 1 (.t 201) (.t 202), some (196, false)⟩,
        ⟨some 204, .load 1 false (.t 203), some (196, false)⟩],
      [⟨some 205, .bin .neq true (.t 200) (.t 204), some (196, false)⟩],
      [⟨some 206, .pick (.t 196) (.c (.v (.bool true))) (.t 205), none⟩],
      [⟨some 207, .mov (.t 206), none⟩],
      [⟨some 208, .mov (.t 13), some (207, false)⟩,
        ⟨some 209, .mov (.t 18), some (207, false)⟩,
        ⟨some 210, .iaddr 1 (.t 208) (.t 209), some (207, false)⟩,
        ⟨some 211, .load 1 false (.t 210), some (207, false)⟩,
        ⟨some 212, .mov (.t 14), some (207, false)⟩,
        ⟨some 213, .mov (.t 18), some (207, false)⟩,
        ⟨some 214, .iaddr 1 (.t 212) (.t 213), some (207, false)⟩,
        ⟨some 215, .load 1 false (.t 214), some (207, false)⟩],
      [⟨some 216, .bin .neq true (.t 211) (.t 215), some (207, false)⟩],
      [⟨some 217, .pick (.t 207) (.c (.v (.bool true))) (.t 216), none⟩],
      [⟨some 218, .mov (.t 217), none⟩],
      [⟨some 219, .mov (.t 13), some (218, false)⟩,
        ⟨some 220, .mov (.t 18), some (218, false)⟩,
        ⟨some 221, .iaddr 1 (.t 219) (.t 220), some (218, false)⟩,
        ⟨some 222, .load 1 false (.t 221), some (218, false)⟩,
        ⟨some 223, .mov (.t 15), some (218, false)⟩,
        ⟨some 224, .mov (.t 18), some (218, false)⟩,
        ⟨some 225, .iaddr 1 (.t 223) (.t 224), some (218, false)⟩,
        ⟨some 226, .load 1 false (.t 225), some (218, false)⟩],
      [⟨some 227, .bin .neq true (.t 222) (.t 226), some (218, false)⟩],
      [⟨some 228, .pick (.t 218) (.c (.v (.bool true))) (.t 227), none⟩],
      [⟨some 229, .mov (.t 228), none⟩],
      [⟨some 230, .mov (.t 13), some (229, false)⟩,
        ⟨some 231, .mov (.t 18), some (229, false)⟩,
        ⟨some 232, .iaddr 1 (.t 230) (.t 231), some (229, false)⟩,
        ⟨some 233, .load 1 false (.t 232), some (229, false)⟩,
        ⟨some 234, .mov (.t 8), some (229, false)⟩,
        ⟨some 235, .mov (.t 18), some (229, false)⟩,
        ⟨some 236, .iaddr 1 (.t 234) (.t 235), some (229, false)⟩,
        ⟨some 237, .load 1 false (.t 236), some (229, false)⟩,
        ⟨some 238, .mov (.t 237), some (229, false)⟩,
        ⟨some 239, .mov (.t 13), some (238, false)⟩,
        ⟨some 240, .mov (.t 19), some (238, false)⟩,
        ⟨some 241, .iaddr 1 (.t 239) (.t 240), some (238, false)⟩,
        ⟨some 242, .load 1 false (.t 241), some (238, false)⟩,
        ⟨some 243, .pick (.t 238) (.c (.v (.bool true))) (.t 242), some (229, false)⟩],
      [⟨some 244, .bin .neq true (.t 233) (.t 243), some (229, false)⟩],
      [⟨some 245, .pick (.t 229) (.c (.v (.bool true))) (.t 244), none⟩],
      [⟨some 246, .mov (.t 245), none⟩],
      [⟨some 247, .mov (.t 16), some (246, false)⟩,
        ⟨some 248, .mov (.t 18), some (246, false)⟩,
        ⟨some 249, .iaddr 1 (.t 247) (.t 248), some (246, false)⟩,
        ⟨some 250, .load 1 false (.t 249), some (246, false)⟩,
        ⟨some 251, .mov (.t 8), some (246, false)⟩,
        ⟨some 252, .mov (.t 18), some (246, false)⟩,
        ⟨some 253, .iaddr 1 (.t 251) (.t 252), some (246, false)⟩,
        ⟨some 254, .load 1 false (.t 253), some (246, false)⟩],
      [⟨some 255, .bin .eql true (.t 250) (.t 254), some (246, false)⟩],
      [⟨some 256, .pick (.t 246) (.c (.v (.bool true))) (.t 255), none⟩]])
    (.cond (.t 256)
      (.seq (.ops [⟨some 6, .mov (.c (.v (.bool false))), none⟩])
      .ret)
      .skip))))
    (.ops [⟨some 147, .mov (.t 18), none⟩,
      ⟨some 148, .bin .add false (.t 147) (.c (.v (.int .i64 1))), none⟩,
      ⟨some 18, .mov (.t 148), none⟩]))))))
  (.seq (.draw [[⟨some 257, .mov (.t 7), none⟩],
    [⟨some 258, .mov (.t 257), none⟩],
    [⟨some 259, .load 4 true (.t 3), some (258, true)⟩,
      ⟨some 260, .load 2 true (.t 5), some (258, true)⟩,
      ⟨some 261, .call 17 [(.t 259), (.t 260)], some (258, true)⟩,
      ⟨some 262, .mov (.t 8), some (258, true)⟩,
      ⟨some 263, .iaddr 1 (.t 262) (.c (.v (.int .i64 0))), some (258, true)⟩,
      ⟨some 264, .load 1 false (.t 263), some (258, true)⟩],
    [⟨some 265, .bin .eql true (.t 261) (.t 264), some (258, true)⟩],
    [⟨some 266, .pick (.t 258) (.t 265) (.c (.v (.bool false))), none⟩],
    [⟨some 6, .mov (.t 266), none⟩]])
  .ret))))))))))))))))⟩ := by kernel_rfl

theorem ir6 : compF Try.prog 6 = some ⟨97, [.t 4],
  (.seq (.ops [⟨some 2, .box (.t 0), none⟩,
    ⟨some 4, .mov (.c (.v (.bool false))), none⟩])
  (.seq (.ops [⟨some 11, .call 9 [], none⟩,
    ⟨some 5, .mov (.t 11), none⟩])
  (.seq (.ops [⟨some 12, .mov (.t 1), none⟩,
    ⟨some 13, .mov (.t 1), none⟩,
    ⟨some 14, .len false (.t 13), none⟩,
    ⟨some 15, .bin .sub false (.t 14) (.c (.v (.int .i64 1))), none⟩,
    ⟨some 16, .build [(.v (.slice none 0 0)), (.v (.int .i64 0))] [(0, 1, (.t 12)), (1, 1, (.t 15))], none⟩,
    ⟨some 6, .alloc (.agg [(.v (.slice none 0 0)), (.v (.int .i64 0))]), none⟩,
    ⟨none, .store 2 (.t 6) (.t 16), none⟩])
  (.seq (.seq (.ops [⟨some 17, .mov (.t 1), none⟩,
    ⟨some 18, .len false (.t 17), none⟩,
    ⟨some 19, .bin .lss false (.t 18) (.c (.v (.int .i64 1))), none⟩,
    ⟨some 20, .mov (.t 19), none⟩,
    ⟨some 21, .mov (.t 1), some (20, false)⟩,
    ⟨some 22, .len false (.t 21), some (20, false)⟩,
    ⟨some 23, .bin .gtr false (.t 22) (.c (.v (.int .i64 12))), some (20, false)⟩,
    ⟨some 24, .pick (.t 20) (.c (.v (.bool true))) (.t 23), none⟩,
    ⟨some 25, .mov (.t 24), none⟩,
    ⟨some 26, .load 2 true (.t 6), some (25, false)⟩,
    ⟨some 27, .call 10 [(.t 26)], some (25, false)⟩,
    ⟨some 28, .un .not (.t 27), some (25, false)⟩,
    ⟨some 29, .pick (.t 25) (.c (.v (.bool true))) (.t 28), none⟩,
    ⟨some 30, .mov (.t 29), none⟩,
    ⟨some 31, .load 4 true (.t 2), some (30, false)⟩,
    ⟨some 32, .call 13 [(.t 31), (.c (.v (.int .i64 3)))], some (30, false)⟩,
    ⟨some 33, .un .not (.t 32), some (30, false)⟩,
    ⟨some 34, .pick (.t 30) (.c (.v (.bool true))) (.t 33), none⟩,
    ⟨some 35, .mov (.t 34), none⟩,
    ⟨some 36, .load 4 true (.t 2), some (35, false)⟩,
    ⟨some 37, .call 23 [(.t 36)], some (35, false)⟩,
    ⟨some 38, .un .not (.t 37), some (35, false)⟩,
    ⟨some 39, .pick (.t 35) (.c (.v (.bool true))) (.t 38), none⟩])
  (.cond (.t 39)
    (.seq (.ops [⟨some 40, .mov (.t 5), none⟩,
      ⟨some 4, .mov (.t 40), none⟩])
    .ret)
    .skip))
  (.seq (.ops [⟨some 7, .mov (.c (.v (.bool false))), none⟩])
  (.seq (.ops [⟨some 8, .mov (.c (.v (.bool true))), none⟩])
  (.seq (.ops [⟨some 9, .mov (.c (.v (.bool false))), none⟩])
  (.seq (.seq (.ops [⟨some 10, .mov (.c (.v (.int .i64 0))), none⟩])
  (.block 0 (.loop
    (.seq (.seq (.ops [⟨some 41, .mov (.t 10), none⟩,
      ⟨some 42, .mov (.t 1), none⟩,
      ⟨some 43, .len false (.t 42), none⟩,
      ⟨some 44, .bin .lss false (.t 41) (.t 43), none⟩])
    (.cond (.t 44)
      .skip
      (.exit 0)))
    (.seq (.block 1 (.seq (.draw [[⟨some 47, .load 4 true (.t 2), none⟩,
        ⟨some 48, .mov (.t 1), none⟩,
        ⟨some 49, .mov (.t 10), none⟩,
        ⟨some 50, .iaddr 1 (.t 48) (.t 49), none⟩,
        ⟨some 51, .load 1 false (.t 50), none⟩],
      [⟨some 52, .call 24 [(.t 47), (.t 51)], none⟩],
      [⟨some 53, .bin .eql false (.t 52) (.c (.v (.int .i64 1))), none⟩],
      [⟨some 9, .mov (.t 53), none⟩]])
    (.seq (.ops [⟨some 54, .mov (.t 7), none⟩,
      ⟨some 55, .mov (.t 54), none⟩,
      ⟨some 56, .mov (.t 9), some (55, false)⟩,
      ⟨some 57, .pick (.t 55) (.c (.v (.bool true))) (.t 56), none⟩,
      ⟨some 7, .mov (.t 57), none⟩])
    (.ops [⟨some 58, .mov (.t 8), none⟩,
      ⟨some 59, .mov (.t 58), none⟩,
      ⟨some 60, .mov (.t 9), some (59, true)⟩,
      ⟨some 61, .pick (.t 59) (.t 60) (.c (.v (.bool false))), none⟩,
      ⟨some 8, .mov (.t 61), none⟩]))))
    (.ops [⟨some 45, .mov (.t 10), none⟩,
      ⟨some 46, .bin .add false (.t 45) (.c (.v (.int .i64 1))), none⟩,
      ⟨some 10, .mov (.t 46), none⟩]))))))
  (.seq (.draw [[⟨some 62, .mov (.t 5), none⟩],
    [⟨some 63, .mov (.t 62), none⟩],
    [⟨some 64, .load 4 true (.t 2), some (63, true)⟩,
      ⟨some 65, .call 21 [(.c (.v (.int .i64 21))), (.t 64)], some (63, true)⟩,
      ⟨some 66, .load 2 true (.t 6), some (63, true)⟩,
      ⟨some 67, .call 17 [(.t 65), (.t 66)], some (63, true)⟩,
      ⟨some 68, .mov (.t 7), some (63, true)⟩],
    [⟨some 69, .bin .eql true (.t 67) (.t 68), some (63, true)⟩],
    [⟨some 70, .pick (.t 63) (.t 69) (.c (.v (.bool false))), none⟩],
    [⟨some 71, .mov (.t 70), none⟩],
    [⟨some 72, .load 4 true (.t 2), some (71, true)⟩,
      ⟨some 73, .call 21 [(.c (.v (.int .i64 22))), (.t 72)], some (71, true)⟩,
      ⟨some 74, .load 2 true (.t 6), some (71, true)⟩,
      ⟨some 75, .call 17 [(.t 73), (.t 74)], some (71, true)⟩,
      ⟨some 76, .mov (.t 8), some (71, true)⟩],
    [⟨some 77, .bin .eql true (.t 75) (.t 76), some (71, true)⟩],
    [⟨some 78, .pick (.t 71) (.t 77) (.c (.v (.bool false))), none⟩],
    [⟨some 79, .mov (.t 78), none⟩],
    [⟨some 80, .load 4 true (.t 2), some (79, true)⟩,
      ⟨some 81, .call 21 [(.c (.v (.int .i64 21))), (.t 80)], some (79, true)⟩,
      ⟨some 82, .call 21 [(.c (.v (.int .i64 22))), (.t 81)], some (79, true)⟩,
      ⟨some 83, .load 2 true (.t 6), some (79, true)⟩,
      ⟨some 84, .call 17 [(.t 82), (.t 83)], some (79, true)⟩,
      ⟨some 85, .mov (.t 9), some (79, true)⟩],
    [⟨some 86, .bin .eql true (.t 84) (.t 85), some (79, true)⟩],
    [⟨some 87, .pick (.t 79) (.t 86) (.c (.v (.bool false))), none⟩],
    [⟨some 88, .mov (.t 87), none⟩],
    [⟨some 89, .load 4 true (.t 2), some (88, true)⟩,
      ⟨some 90, .call 21 [(.c (.v (.int .i64 22))), (.t 89)], some (88, true)⟩,
      ⟨some 91, .call 21 [(.c (.v (.int .i64 21))), (.t 90)], some (88, true)⟩,
      ⟨some 92, .load 2 true (.t 6), some (88, true)⟩,
      ⟨some 93, .call 17 [(.t 91), (.t 92)], some (88, true)⟩,
      ⟨some 94, .mov (.t 9), some (88, true)⟩],
    [⟨some 95, .bin .eql true (.t 93) (.t 94), some (88, true)⟩],
    [⟨some 96, .pick (.t 88) (.t 95) (.c (.v (.bool false))), none⟩],
    [⟨some 4, .mov (.t 96), none⟩]])
  .ret)))))))))⟩ := by kernel_rfl

set_option maxRecDepth 100000 in
theorem ir9 : compF Try.prog 9 = some ⟨65, [.t 0],
  (.seq (.ops [⟨some 0, .mov (.c (.v (.bool false))), none⟩])
  (.seq (.ops [⟨some 1, .mov (.c (.fn (.func 32) [] [])), none⟩])
  (.seq (.ops [⟨some 2, .mov (.c (.fn (.func 33) [] [])), none⟩])
  (.seq (.ops [⟨some 5, .bslice 1 [(.v (.int .i64 0))] 1 [(0, 1, (.c (.v (.int .i64 0))))], none⟩,
    ⟨some 6, .bslice 1 [(.v (.int .i64 0))] 1 [(0, 1, (.c (.v (.int .i64 1))))], none⟩,
    ⟨some 7, .bslice 1 [(.v (.slice none 0 0))] 2 [(0, 1, (.t 5)), (1, 1, (.t 6))], none⟩,
    ⟨some 8, .build [(.v (.slice none 0 0)), (.v (.int .i64 0))] [(0, 1, (.t 7)), (1, 1, (.c (.v (.int .i64 1))))], none⟩,
    ⟨some 3, .alloc (.agg [(.v (.slice none 0 0)), (.v (.int .i64 0))]), none⟩,
    ⟨none, .store 2 (.t 3) (.t 8), none⟩])
  (.seq (.draw [[⟨some 9, .mov (.t 2), none⟩,
      ⟨some 10, .mov (.t 1), none⟩,
      ⟨some 11, .calld (.t 10) [(.c (.v (.int .i64 1)))], none⟩,
      ⟨some 12, .calld (.t 9) [(.c (.v (.int .i64 20))), (.t 11)], none⟩,
      ⟨some 13, .load 2 true (.t 3), none⟩],
    [⟨some 14, .call 15 [(.t 12), (.t 13)], none⟩],
    [⟨some 4, .mov (.t 14), none⟩]])
  (.seq (.draw [[⟨some 15, .mov (.t 2), none⟩,
      ⟨some 16, .mov (.t 2), none⟩,
      ⟨some 17, .mov (.t 1), none⟩,
      ⟨some 18, .calld (.t 17) [(.c (.v (.int .i64 1)))], none⟩,
      ⟨some 19, .calld (.t 16) [(.c (.v (.int .i64 22))), (.t 18)], none⟩,
      ⟨some 20, .calld (.t 15) [(.c (.v (.int .i64 21))), (.t 19)], none⟩,
      ⟨some 21, .load 2 true (.t 3), none⟩],
    [⟨some 22, .call 17 [(.t 20), (.t 21)], none⟩],
    [⟨some 23, .mov (.t 22), none⟩],
    [⟨some 24, .mov (.t 2), some (23, true)⟩,
      ⟨some 25, .mov (.t 2), some (23, true)⟩,
      ⟨some 26, .mov (.t 1), some (23, true)⟩,
      ⟨some 27, .calld (.t 26) [(.c (.v (.int .i64 0)))], some (23, true)⟩,
      ⟨some 28, .calld (.t 25) [(.c (.v (.int .i64 21))), (.t 27)], some (23, true)⟩,
      ⟨some 29, .calld (.t 24) [(.c (.v (.int .i64 22))), (.t 28)], some (23, true)⟩,
      ⟨some 30, .load 2 true (.t 3), some (23, true)⟩],
    [⟨some 31, .call 17 [(.t 29), (.t 30)], some (23, true)⟩],
    [⟨some 32, .un .not (.t 31), some (23, true)⟩],
    [⟨some 33, .pick (.t 23) (.t 32) (.c (.v (.bool false))), none⟩],
    [⟨some 34, .mov (.t 33), none⟩],
    [⟨some 35, .mov (.t 4), some (34, true)⟩],
    [⟨some 36, .len false (.t 35), some (34, true)⟩],
    [⟨some 37, .bin .eql false (.t 36) (.c (.v (.int .i64 2))), some (34, true)⟩],
    [⟨some 38, .pick (.t 34) (.t 37) (.c (.v (.bool false))), none⟩],
    [⟨some 39, .mov (.t 38), none⟩],
    [⟨some 40, .mov (.t 4), some (39, true)⟩],
    [⟨some 41, .iaddr 1 (.t 40) (.c (.v (.int .i64 0))), some (39, true)⟩],
    [⟨some 42, .load 1 false (.t 41), some (39, true)⟩],
    [⟨some 43, .pick (.t 39) (.t 42) (.c (.v (.bool false))), none⟩],
    [⟨some 44, .mov (.t 43), none⟩],
    [⟨some 45, .mov (.t 4), some (44, true)⟩],
    [⟨some 46, .iaddr 1 (.t 45) (.c (.v (.int .i64 1))), some (44, true)⟩],
    [⟨some 47, .load 1 false (.t 46), some (44, true)⟩],
    [⟨some 48, .pick (.t 44) (.t 47) (.c (.v (.bool false))), none⟩],
    [⟨some 49, .mov (.t 48), none⟩],
    [⟨some 50, .load 2 true (.t 3), some (49, true)⟩],
    [⟨some 51, .call 12 [(.t 50)], some (49, true)⟩],
    [⟨some 52, .pick (.t 49) (.t 51) (.c (.v (.bool false))), none⟩],
    [⟨some 53, .mov (.t 52), none⟩],
    [⟨some 54, .build [(.v (.slice none 0 0)), (.v (.int .i64 0))] [], some (53, true)⟩],
    [⟨some 55, .call 12 [(.t 54)], some (53, true)⟩],
    [⟨some 56, .un .not (.t 55), some (53, true)⟩],
    [⟨some 57, .pick (.t 53) (.t 56) (.c (.v (.bool false))), none⟩],
    [⟨some 58, .mov (.t 57), none⟩],
    [⟨some 59, .faddr 0 (.t 3), some (58, true)⟩],
    [⟨some 60, .load 1 false (.t 59), some (58, true)⟩],
    [⟨some 61, .build [(.v (.slice none 0 0)), (.v (.int .i64 0))] [(0, 1, (.t 60)), (1, 1, (.c (.v (.int .i64 2))))], some (58, true)⟩],
    [⟨some 62, .call 12 [(.t 61)], some (58, true)⟩],
    [⟨some 63, .un .not (.t 62), some (58, true)⟩],
    [⟨some 64, .pick (.t 58) (.t 63) (.c (.v (.bool false))), none⟩],
    [⟨some 0, .mov (.t 64), none⟩]])
  .ret))))))⟩ := by kernel_rfl

theorem ir10 : compF Try.prog 10 = some ⟨18, [.t 2],
  (.seq (.ops [⟨some 1, .box (.t 0), none⟩,
    ⟨some 2, .mov (.c (.v (.bool false))), none⟩])
  (.seq (.seq (.ops [⟨some 3, .mov (.c (.v (.int .i64 0))), none⟩])
  (.block 0 (.loop
    (.seq (.seq (.ops [⟨some 4, .mov (.t 3), none⟩,
      ⟨some 5, .faddr 0 (.t 1), none⟩,
      ⟨some 6, .load 1 false (.t 5), none⟩,
      ⟨some 7, .len false (.t 6), none⟩,
      ⟨some 8, .bin .lss false (.t 4) (.t 7), none⟩])
    (.cond (.t 8)
      .skip
      (.exit 0)))
    (.seq (.block 1 (.seq (.ops [⟨some 11, .faddr 0 (.t 1), none⟩,
      ⟨some 12, .load 1 false (.t 11), none⟩,
      ⟨some 13, .mov (.t 3), none⟩,
      ⟨some 14, .iaddr 1 (.t 12) (.t 13), none⟩,
      ⟨some 15, .load 1 false (.t 14), none⟩,
      ⟨some 16, .len false (.t 15), none⟩,
      ⟨some 17, .bin .gtr false (.t 16) (.c (.v (.int .i64 10))), none⟩])
    (.cond (.t 17)
      (.seq (.ops [⟨some 2, .mov (.c (.v (.bool false))), none⟩])
      .ret)
      .skip)))
    (.ops [⟨some 9, .mov (.t 3), none⟩,
      ⟨some 10, .bin .add false (.t 9) (.c (.v (.int .i64 1))), none⟩,
      ⟨some 3, .mov (.t 10), none⟩]))))))
  (.seq (.ops [⟨some 2, .mov (.c (.v (.bool true))), none⟩])
  .ret)))⟩ := by kernel_rfl

theorem ir11 : compF Try.prog 11 = some ⟨20, [.t 2],
  (.seq (.ops [⟨some 1, .box (.t 0), none⟩,
    ⟨some 2, .mov (.c (.v (.bool false))), none⟩])
  (.seq (.ops [⟨some 3, .faddr 0 (.t 1), none⟩,
    ⟨some 4, .load 1 false (.t 3), none⟩,
    ⟨some 5, .len false (.t 4), none⟩,
    ⟨some 6, .bin .geq false (.t 5) (.c (.v (.int .i64 1))), none⟩,
    ⟨some 7, .mov (.t 6), none⟩,
    ⟨some 8, .faddr 1 (.t 1), some (7, true)⟩,
    ⟨some 9, .load 1 false (.t 8), some (7, true)⟩,
    ⟨some 10, .bin .geq false (.t 9) (.c (.v (.int .i64 0))), some (7, true)⟩,
    ⟨some 11, .pick (.t 7) (.t 10) (.c (.v (.bool false))), none⟩,
    ⟨some 12, .mov (.t 11), none⟩,
    ⟨some 13, .faddr 1 (.t 1), some (12, true)⟩,
    ⟨some 14, .load 1 false (.t 13), some (12, true)⟩,
    ⟨some 15, .faddr 0 (.t 1), some (12, true)⟩,
    ⟨some 16, .load 1 false (.t 15), some (12, true)⟩,
    ⟨some 17, .len false (.t 16), some (12, true)⟩,
    ⟨some 18, .bin .lss false (.t 14) (.t 17), some (12, true)⟩,
    ⟨some 19, .pick (.t 12) (.t 18) (.c (.v (.bool false))), none⟩,
    ⟨some 2, .mov (.t 19), none⟩])
  .ret))⟩ := by kernel_rfl

theorem ir12 : compF Try.prog 12 = some ⟨20, [.t 2],
  (.seq (.ops [⟨some 1, .box (.t 0), none⟩,
    ⟨some 2, .mov (.c (.v (.bool false))), none⟩])
  (.seq (.ops [⟨some 3, .faddr 0 (.t 1), none⟩,
    ⟨some 4, .load 1 false (.t 3), none⟩,
    ⟨some 5, .len false (.t 4), none⟩,
    ⟨some 6, .bin .gtr false (.t 5) (.c (.v (.int .i64 0))), none⟩,
    ⟨some 7, .mov (.t 6), none⟩,
    ⟨some 8, .faddr 1 (.t 1), some (7, true)⟩,
    ⟨some 9, .load 1 false (.t 8), some (7, true)⟩,
    ⟨some 10, .bin .geq false (.t 9) (.c (.v (.int .i64 0))), some (7, true)⟩,
    ⟨some 11, .pick (.t 7) (.t 10) (.c (.v (.bool false))), none⟩,
    ⟨some 12, .mov (.t 11), none⟩,
    ⟨some 13, .faddr 1 (.t 1), some (12, true)⟩,
    ⟨some 14, .load 1 false (.t 13), some (12, true)⟩,
    ⟨some 15, .faddr 0 (.t 1), some (12, true)⟩,
    ⟨some 16, .load 1 false (.t 15), some (12, true)⟩,
    ⟨some 17, .len false (.t 16), some (12, true)⟩,
    ⟨some 18, .bin .lss false (.t 14) (.t 17), some (12, true)⟩,
    ⟨some 19, .pick (.t 12) (.t 18) (.c (.v (.bool false))), none⟩,
    ⟨some 2, .mov (.t 19), none⟩])
  .ret))⟩ := by kernel_rfl

theorem ir13 : compF Try.prog 13 = some ⟨33, [.t 4],
  (.seq (.ops [⟨some 2, .box (.t 0), none⟩,
    ⟨some 4, .mov (.c (.v (.bool false))), none⟩])
  (.seq (.ops [⟨some 10, .load 4 true (.t 2), none⟩,
    ⟨some 11, .call 34 [(.t 10)], none⟩,
    ⟨some 5, .mov (.t 11), none⟩])
  (.seq (.ops [⟨some 12, .load 4 true (.t 2), none⟩,
    ⟨some 13, .mov (.t 1), none⟩,
    ⟨some 14, .call 35 [(.t 12), (.t 13)], none⟩,
    ⟨some 6, .mov (.t 14), none⟩])
  (.seq (.seq (.ops [⟨some 15, .mov (.t 5), none⟩,
    ⟨some 16, .un .not (.t 15), none⟩,
    ⟨some 17, .mov (.t 16), none⟩,
    ⟨some 18, .mov (.t 6), some (17, false)⟩,
    ⟨some 19, .un .not (.t 18), some (17, false)⟩,
    ⟨some 20, .pick (.t 17) (.c (.v (.bool true))) (.t 19), none⟩])
  (.cond (.t 20)
    (.seq (.ops [⟨some 4, .mov (.c (.v (.bool false))), none⟩])
    .ret)
    .skip))
  (.seq (.ops [⟨some 22, .load 4 true (.t 2), none⟩,
    ⟨some 23, .call 36 [(.t 22)], none⟩,
    ⟨some 21, .mov (.t 23), none⟩,
    ⟨some 24, .extract (.t 21) 0, none⟩,
    ⟨some 25, .extract (.t 21) 1, none⟩,
    ⟨some 26, .extract (.t 21) 2, none⟩,
    ⟨some 7, .mov (.t 24), none⟩,
    ⟨some 8, .mov (.t 25), none⟩,
    ⟨some 9, .mov (.t 26), none⟩])
  (.seq (.ops [⟨some 27, .mov (.t 8), none⟩,
    ⟨some 28, .bin .eql false (.t 27) (.c (.v (.int .i64 0))), none⟩,
    ⟨some 29, .mov (.t 28), none⟩,
    ⟨some 30, .mov (.t 7), some (29, true)⟩,
    ⟨some 31, .bin .neq false (.t 30) (.c (.v (.int .i64 1))), some (29, true)⟩,
    ⟨some 32, .pick (.t 29) (.t 31) (.c (.v (.bool false))), none⟩,
    ⟨some 4, .mov (.t 32), none⟩])
  .ret))))))⟩ := by kernel_rfl

theorem ir14 : compF Try.prog 14 = some ⟨26, [.t 4],
  (.seq (.ops [⟨some 4, .mov (.c (.v (.bool false))), none⟩])
  (.seq (.seq (.ops [⟨some 6, .mov (.t 0), none⟩,
    ⟨some 7, .len false (.t 6), none⟩,
    ⟨some 8, .mov (.t 1), none⟩,
    ⟨some 9, .len false (.t 8), none⟩,
    ⟨some 10, .bin .neq false (.t 7) (.t 9), none⟩])
  (.cond (.t 10)
    (.seq (.ops [⟨some 4, .mov (.c (.v (.bool false))), none⟩])
    .ret)
    .skip))
  (.seq (.seq (.ops [⟨some 5, .mov (.c (.v (.int .i64 0))), none⟩])
  (.block 0 (.loop
    (.seq (.seq (.ops [⟨some 11, .mov (.t 5), none⟩,
      ⟨some 12, .mov (.t 0), none⟩,
      ⟨some 13, .len false (.t 12), none⟩,
      ⟨some 14, .bin .lss false (.t 11) (.t 13), none⟩])
    (.cond (.t 14)
      .skip
      (.exit 0)))
    (.seq (.block 1 (.seq (.draw [[⟨some 17, .mov (.t 0), none⟩,
        ⟨some 18, .mov (.t 5), none⟩,
        ⟨some 19, .iaddr 1 (.t 17) (.t 18), none⟩,
        ⟨some 20, .load 1 false (.t 19), none⟩,
        ⟨some 21, .mov (.t 1), none⟩,
        ⟨some 22, .mov (.t 5), none⟩,
        ⟨some 23, .iaddr 1 (.t 21) (.t 22), none⟩,
        ⟨some 24, .load 1 false (.t 23), none⟩],
      [⟨some 25, .bin .neq true (.t 20) (.t 24), none⟩]])
    (.cond (.t 25)
      (.seq (.ops [⟨some 4, .mov (.c (.v (.bool false))), none⟩])
      .ret)
      .skip)))
    (.ops [⟨some 15, .mov (.t 5), none⟩,
      ⟨some 16, .bin .add false (.t 15) (.c (.v (.int .i64 1))), none⟩,
      ⟨some 5, .mov (.t 16), none⟩]))))))
  (.seq (.ops [⟨some 4, .mov (.c (.v (.bool true))), none⟩])
  .ret))))⟩ := by kernel_rfl

set_option maxRecDepth 100000 in
theorem ir15 : compF Try.prog 15 = some ⟨90, [.t 4],
  (.seq (.ops [⟨some 2, .box (.t 0), none⟩,
    ⟨some 3, .box (.t 1), none⟩,
    ⟨some 4, .mov (.c (.v (.slice none 0 0))), none⟩])
  (.seq (.ops [⟨some 9, .faddr 0 (.t 3), none⟩,
    ⟨some 10, .load 1 false (.t 9), none⟩,
    ⟨some 11, .len false (.t 10), none⟩,
    ⟨some 5, .alloc (.v (.int .i64 0)), none⟩,
    ⟨none, .store 1 (.t 5) (.t 11), none⟩])
  (.seq (.seq (.ops [⟨some 12, .load 4 true (.t 2), none⟩,
    ⟨some 13, .call 37 [(.t 12)], none⟩])
  (.cond (.t 13)
    (.seq (.ops [⟨some 14, .load 1 false (.t 5), none⟩,
      ⟨some 15, .mkfn (.func 39) [] [(.t 2), (.t 3)], none⟩,
      ⟨some 16, .call 38 [(.t 14), (.t 15)], none⟩,
      ⟨some 4, .mov (.t 16), none⟩])
    .ret)
    .skip))
  (.seq (.draw [[⟨some 17, .faddr 3 (.t 2), none⟩,
      ⟨some 18, .load 1 false (.t 17), none⟩,
      ⟨some 19, .iaddr 4 (.t 18) (.c (.v (.int .i64 0))), none⟩,
      ⟨some 20, .load 4 true (.t 19), none⟩,
      ⟨some 21, .load 2 true (.t 3), none⟩,
      ⟨some 22, .call 15 [(.t 20), (.t 21)], none⟩,
      ⟨some 6, .alloc (.v (.slice none 0 0)), none⟩],
    [⟨none, .store 1 (.t 6) (.t 22), none⟩]])
  (.seq (.ops [⟨some 7, .alloc (.v (.slice none 0 0)), none⟩])
  (.seq (.seq (.ops [⟨some 23, .faddr 3 (.t 2), none⟩,
    ⟨some 24, .load 1 false (.t 23), none⟩,
    ⟨some 25, .len false (.t 24), none⟩,
    ⟨some 26, .bin .gtr false (.t 25) (.c (.v (.int .i64 1))), none⟩])
  (.cond (.t 26)
    (.draw [[⟨some 27, .faddr 3 (.t 2), none⟩,
        ⟨some 28, .load 1 false (.t 27), none⟩,
        ⟨some 29, .iaddr 4 (.t 28) (.c (.v (.int .i64 1))), none⟩,
        ⟨some 30, .load 4 true (.t 29), none⟩,
        ⟨some 31, .load 2 true (.t 3), none⟩],
      [⟨some 32, .call 15 [(.t 30), (.t 31)], none⟩],
      [⟨none, .store 1 (.t 7) (.t 32), none⟩]])
    .skip))
  (.seq (.ops [⟨some 33, .mkfn (.func 41) [] [(.t 5)], none⟩,
    ⟨some 8, .mov (.t 33), none⟩])
  (.seq (.seq (.ops [⟨some 34, .faddr 0 (.t 2), none⟩,
    ⟨some 35, .load 1 false (.t 34), none⟩])
  (.block 0 (.seq (.ops [⟨some 37, .bin .eql false (.t 35) (.c (.v (.int .i64 15))), none⟩,
    ⟨some 36, .mov (.t 37), none⟩])
  (.cond (.t 36)
    (.seq (.ops [⟨some 38, .load 1 false (.t 5), none⟩,
      ⟨some 39, .mkfn (.func 43) [] [(.t 6)], none⟩,
      ⟨some 40, .call 38 [(.t 38), (.t 39)], none⟩,
      ⟨some 4, .mov (.t 40), none⟩])
    .ret)
    (.seq (.ops [⟨some 42, .bin .eql false (.t 35) (.c (.v (.int .i64 16))), none⟩,
      ⟨some 41, .mov (.t 42), none⟩])
    (.cond (.t 41)
      (.seq (.ops [⟨some 43, .load 1 false (.t 5), none⟩,
        ⟨some 44, .mkfn (.func 44) [] [(.t 6), (.t 7)], none⟩,
        ⟨some 45, .call 38 [(.t 43), (.t 44)], none⟩,
        ⟨some 4, .mov (.t 45), none⟩])
      .ret)
      (.seq (.ops [⟨some 47, .bin .eql false (.t 35) (.c (.v (.int .i64 17))), none⟩,
        ⟨some 46, .mov (.t 47), none⟩])
      (.cond (.t 46)
        (.seq (.ops [⟨some 48, .load 1 false (.t 5), none⟩,
          ⟨some 49, .mkfn (.func 45) [] [(.t 6), (.t 7)], none⟩,
          ⟨some 50, .call 38 [(.t 48), (.t 49)], none⟩,
          ⟨some 4, .mov (.t 50), none⟩])
        .ret)
        (.seq (.ops [⟨some 52, .bin .eql false (.t 35) (.c (.v (.int .i64 18))), none⟩,
          ⟨some 51, .mov (.t 52), none⟩])
        (.cond (.t 51)
          (.seq (.ops [⟨some 53, .load 1 false (.t 5), none⟩,
            ⟨some 54, .mkfn (.func 46) [] [(.t 6), (.t 7)], none⟩,
            ⟨some 55, .call 38 [(.t 53), (.t 54)], none⟩,
            ⟨some 4, .mov (.t 55), none⟩])
          .ret)
          (.seq (.ops [⟨some 57, .bin .eql false (.t 35) (.c (.v (.int .i64 19))), none⟩,
            ⟨some 56, .mov (.t 57), none⟩])
          (.cond (.t 56)
            (.seq (.ops [⟨some 58, .load 1 false (.t 5), none⟩,
              ⟨some 59, .mkfn (.func 47) [] [(.t 6), (.t 7)], none⟩,
              ⟨some 60, .call 38 [(.t 58), (.t 59)], none⟩,
              ⟨some 4, .mov (.t 60), none⟩])
            .ret)
            (.seq (.ops [⟨some 62, .bin .eql false (.t 35) (.c (.v (.int .i64 20))), none⟩,
              ⟨some 61, .mov (.t 62), none⟩])
            (.cond (.t 61)
              (.seq (.ops [⟨some 63, .load 1 false (.t 5), none⟩,
                ⟨some 64, .mkfn (.func 48) [] [(.t 6), (.t 3)], none⟩,
                ⟨some 65, .call 38 [(.t 63), (.t 64)], none⟩,
                ⟨some 4, .mov (.t 65), none⟩])
              .ret)
              (.seq (.ops [⟨some 67, .bin .eql false (.t 35) (.c (.v (.int .i64 21))), none⟩,
                ⟨some 66, .mov (.t 67), none⟩])
              (.cond (.t 66)
                (.seq (.draw [[⟨some 68, .load 2 true (.t 3), none⟩,
                    ⟨some 69, .mov (.t 8), none⟩,
                    ⟨some 70, .calld (.t 69) [(.c (.v (.bool true)))], none⟩,
                    ⟨some 71, .load 1 false (.t 6), none⟩],
                  [⟨some 72, .call 50 [(.t 68), (.t 70), (.t 71)], none⟩],
                  [⟨some 4, .mov (.t 72), none⟩]])
                .ret)
                (.seq (.ops [⟨some 74, .bin .eql false (.t 35) (.c (.v (.int .i64 22))), none⟩,
                  ⟨some 73, .mov (.t 74), none⟩])
                (.cond (.t 73)
                  (.seq (.draw [[⟨some 75, .load 2 true (.t 3), none⟩,
                      ⟨some 76, .mov (.t 8), none⟩,
                      ⟨some 77, .calld (.t 76) [(.c (.v (.bool false)))], none⟩,
                      ⟨some 78, .load 1 false (.t 6), none⟩],
                    [⟨some 79, .call 51 [(.t 75), (.t 77), (.t 78)], none⟩],
                    [⟨some 4, .mov (.t 79), none⟩]])
                  .ret)
                  (.seq (.ops [⟨some 81, .bin .eql false (.t 35) (.c (.v (.int .i64 23))), none⟩,
                    ⟨some 80, .mov (.t 81), none⟩])
                  (.cond (.t 80)
                    (.seq (.ops [⟨some 82, .load 2 true (.t 3), none⟩,
                      ⟨some 83, .load 1 false (.t 6), none⟩,
                      ⟨some 84, .load 1 false (.t 7), none⟩,
                      ⟨some 85, .call 50 [(.t 82), (.t 83), (.t 84)], none⟩,
                      ⟨some 4, .mov (.t 85), none⟩])
                    .ret)
                    .skip))))))))))))))))))))
  (.seq (.ops [⟨some 86, .load 2 true (.t 3), none⟩,
    ⟨some 87, .load 1 false (.t 6), none⟩,
    ⟨some 88, .load 1 false (.t 7), none⟩,
    ⟨some 89, .call 51 [(.t 86), (.t 87), (.t 88)], none⟩,
    ⟨some 4, .mov (.t 89), none⟩])
  .ret)))))))))⟩ := by kernel_rfl

set_option maxRecDepth 100000 in
theorem ir16 : compF Try.prog 16 = some ⟨222, [.t 4],
  (.seq (.ops [⟨some 2, .box (.t 0), none⟩,
    ⟨some 3, .box (.t 1), none⟩,
    ⟨some 4, .mov (.c (.v (.slice none 0 0))), none⟩])
  (.seq (.ops [⟨some 17, .faddr 0 (.t 3), none⟩,
    ⟨some 18, .load 1 false (.t 17), none⟩,
    ⟨some 19, .len false (.t 18), none⟩,
    ⟨some 5, .mov (.t 19), none⟩])
  (.seq (.ops [⟨some 20, .mov (.t 5), none⟩,
    ⟨some 21, .mksl 1 1 [(.v (.bool false))] (.t 20) (.t 20), none⟩,
    ⟨some 6, .mov (.t 21), none⟩])
  (.seq (.ops [⟨some 22, .load 4 true (.t 2), none⟩,
    ⟨some 23, .call 23 [(.t 22)], none⟩,
    ⟨some 7, .mov (.t 23), none⟩])
  (.seq (.seq (.ops [⟨some 24, .mov (.t 7), none⟩])
  (.cond (.t 24)
    (.seq (.seq (.ops [⟨some 8, .mov (.c (.v (.int .i64 0))), none⟩])
    (.block 0 (.loop
      (.seq (.seq (.ops [⟨some 25, .mov (.t 8), none⟩,
        ⟨some 26, .mov (.t 5), none⟩,
        ⟨some 27, .bin .lss false (.t 25) (.t 26), none⟩])
      (.cond (.t 27)
        .skip
        (.exit 0)))
      (.seq (.block 1 (.seq (.draw [[⟨some 30, .load 4 true (.t 2), none⟩,
          ⟨some 31, .faddr 0 (.t 3), none⟩,
          ⟨some 32, .load 1 false (.t 31), none⟩,
          ⟨some 33, .mov (.t 8), none⟩,
          ⟨some 34, .iaddr 1 (.t 32) (.t 33), none⟩,
          ⟨some 35, .load 1 false (.t 34), none⟩],
        [⟨some 36, .call 24 [(.t 30), (.t 35)], none⟩],
        [⟨some 9, .mov (.t 36), none⟩]])
      (.ops [⟨some 37, .mov (.t 6), none⟩,
        ⟨some 38, .mov (.t 8), none⟩,
        ⟨some 39, .mov (.t 9), none⟩,
        ⟨some 40, .bin .eql false (.t 39) (.c (.v (.int .i64 1))), none⟩,
        ⟨some 41, .iaddr 1 (.t 37) (.t 38), none⟩,
        ⟨none, .store 1 (.t 41) (.t 40), none⟩])))
      (.ops [⟨some 28, .mov (.t 8), none⟩,
        ⟨some 29, .bin .add false (.t 28) (.c (.v (.int .i64 1))), none⟩,
        ⟨some 8, .mov (.t 29), none⟩]))))))
    (.seq (.ops [⟨some 42, .mov (.t 6), none⟩,
      ⟨some 4, .mov (.t 42), none⟩])
    .ret))
    .skip))
  (.seq (.draw [[⟨some 43, .faddr 3 (.t 2), none⟩,
      ⟨some 44, .load 1 false (.t 43), none⟩,
      ⟨some 45, .iaddr 4 (.t 44) (.c (.v (.int .i64 0))), none⟩,
      ⟨some 46, .load 4 true (.t 45), none⟩,
      ⟨some 47, .load 2 true (.t 3), none⟩],
    [⟨some 48, .call 16 [(.t 46), (.t 47)], none⟩],
    [⟨some 10, .mov (.t 48), none⟩]])
  (.seq (.ops [⟨some 49, .mov (.t 5), none⟩,
    ⟨some 50, .mksl 1 1 [(.v (.bool false))] (.t 49) (.t 49), none⟩,
    ⟨some 11, .mov (.t 50), none⟩])
  (.seq (.seq (.ops [⟨some 51, .faddr 3 (.t 2), none⟩,
    ⟨some 52, .load 1 false (.t 51), none⟩,
    ⟨some 53, .len false (.t 52), none⟩,
    ⟨some 54, .bin .gtr false (.t 53) (.c (.v (.int .i64 1))), none⟩])
  (.cond (.t 54)
    (.draw [[⟨some 55, .faddr 3 (.t 2), none⟩,
        ⟨some 56, .load 1 false (.t 55), none⟩,
        ⟨some 57, .iaddr 4 (.t 56) (.c (.v (.int .i64 1))), none⟩,
        ⟨some 58, .load 4 true (.t 57), none⟩,
        ⟨some 59, .load 2 true (.t 3), none⟩],
      [⟨some 60, .call 16 [(.t 58), (.t 59)], none⟩],
      [⟨some 11, .mov (.t 60), none⟩]])
    .skip))
  (.seq (.ops [⟨some 61, .mov (.t 5), none⟩,
    ⟨some 62, .mksl 1 1 [(.v (.bool false))] (.t 61) (.t 61), none⟩,
    ⟨some 12, .mov (.t 62), none⟩])
  (.seq (.ops [⟨some 63, .mov (.t 5), none⟩,
    ⟨some 64, .mksl 1 1 [(.v (.bool false))] (.t 63) (.t 63), none⟩,
    ⟨some 13, .mov (.t 64), none⟩])
  (.seq (.ops [⟨some 65, .mov (.t 5), none⟩,
    ⟨some 66, .mksl 1 1 [(.v (.bool false))] (.t 65) (.t 65), none⟩,
    ⟨some 14, .mov (.t 66), none⟩])
  (.seq (.seq (.ops [⟨some 15, .mov (.c (.v (.int .i64 0))), none⟩])
  (.block 2 (.loop
    (.seq (.seq (.ops [⟨some 67, .mov (.t 15), none⟩,
      ⟨some 68, .mov (.t 5), none⟩,
      ⟨some 69, .bin .lss false (.t 67) (.t 68), none⟩])
    (.cond (.t 69)
      .skip
      (.exit 2)))
    (.seq (.block 3 (.seq (.ops [⟨some 72, .mov (.t 12), none⟩,
      ⟨some 73, .mov (.t 15), none⟩,
      ⟨some 74, .iaddr 1 (.t 72) (.t 73), none⟩,
      ⟨none, .store 1 (.t 74) (.c (.v (.bool true))), none⟩])
    (.seq (.ops [⟨some 75, .mov (.t 13), none⟩,
      ⟨some 76, .mov (.t 15), none⟩,
      ⟨some 77, .mov (.t 10), none⟩,
      ⟨some 78, .mov (.t 15), none⟩,
      ⟨some 79, .iaddr 1 (.t 77) (.t 78), none⟩,
      ⟨some 80, .load 1 false (.t 79), none⟩,
      ⟨some 81, .un .not (.t 80), none⟩,
      ⟨some 82, .iaddr 1 (.t 75) (.t 76), none⟩,
      ⟨none, .store 1 (.t 82) (.t 81), none⟩])
    (.ops [⟨some 83, .mov (.t 14), none⟩,
      ⟨some 84, .mov (.t 15), none⟩,
      ⟨some 85, .mov (.t 11), none⟩,
      ⟨some 86, .mov (.t 15), none⟩,
      ⟨some 87, .iaddr 1 (.t 85) (.t 86), none⟩,
      ⟨some 88, .load 1 false (.t 87), none⟩,
      ⟨some 89, .un .not (.t 88), none⟩,
      ⟨some 90, .iaddr 1 (.t 83) (.t 84), none⟩,
      ⟨none, .store 1 (.t 90) (.t 89), none⟩]))))
    (.ops [⟨some 70, .mov (.t 15), none⟩,
      ⟨some 71, .bin .add false (.t 70) (.c (.v (.int .i64 1))), none⟩,
      ⟨some 15, .mov (.t 71), none⟩]))))))
  (.seq (.seq (.ops [⟨some 16, .mov (.c (.v (.int .i64 0))), none⟩])
  (.block 4 (.loop
    (.seq (.seq (.ops [⟨some 91, .mov (.t 16), none⟩,
      ⟨some 92, .mov (.t 5), none⟩,
      ⟨some 93, .bin .lss false (.t 91) (.t 92), none⟩])
    (.cond (.t 93)
      .skip
      (.exit 4)))
    (.seq (.block 5 (.seq (.ops [⟨some 96, .faddr 0 (.t 2), none⟩,
      ⟨some 97, .load 1 false (.t 96), none⟩])
    (.block 6 (.seq (.ops [⟨some 99, .bin .eql false (.t 97) (.c (.v (.int .i64 15))), none⟩,
      ⟨some 98, .mov (.t 99), none⟩])
    (.cond (.t 98)
      (.ops [⟨some 100, .mov (.t 6), none⟩,
        ⟨some 101, .mov (.t 16), none⟩,
        ⟨some 102, .mov (.t 10), none⟩,
        ⟨some 103, .mov (.t 16), none⟩,
        ⟨some 104, .iaddr 1 (.t 102) (.t 103), none⟩,
        ⟨some 105, .load 1 false (.t 104), none⟩,
        ⟨some 106, .un .not (.t 105), none⟩,
        ⟨some 107, .iaddr 1 (.t 100) (.t 101), none⟩,
        ⟨none, .store 1 (.t 107) (.t 106), none⟩])
      (.seq (.ops [⟨some 109, .bin .eql false (.t 97) (.c (.v (.int .i64 16))), none⟩,
        ⟨some 108, .mov (.t 109), none⟩])
      (.cond (.t 108)
        (.ops [⟨some 110, .mov (.t 6), none⟩,
          ⟨some 111, .mov (.t 16), none⟩,
          ⟨some 112, .mov (.t 10), none⟩,
          ⟨some 113, .mov (.t 16), none⟩,
          ⟨some 114, .iaddr 1 (.t 112) (.t 113), none⟩,
          ⟨some 115, .load 1 false (.t 114), none⟩,
          ⟨some 116, .mov (.t 115), none⟩,
          ⟨some 117, .mov (.t 11), some (116, true)⟩,
          ⟨some 118, .mov (.t 16), some (116, true)⟩,
          ⟨some 119, .iaddr 1 (.t 117) (.t 118), some (116, true)⟩,
          ⟨some 120, .load 1 false (.t 119), some (116, true)⟩,
          ⟨some 121, .pick (.t 116) (.t 120) (.c (.v (.bool false))), none⟩,
          ⟨some 122, .iaddr 1 (.t 110) (.t 111), none⟩,
          ⟨none, .store 1 (.t 122) (.t 121), none⟩])
        (.seq (.ops [⟨some 124, .bin .eql false (.t 97) (.c (.v (.int .i64 17))), none⟩,
          ⟨some 123, .mov (.t 124), none⟩])
        (.cond (.t 123)
          (.ops [⟨some 125, .mov (.t 6), none⟩,
            ⟨some 126, .mov (.t 16), none⟩,
            ⟨some 127, .mov (.t 10), none⟩,
            ⟨some 128, .mov (.t 16), none⟩,
            ⟨some 129, .iaddr 1 (.t 127) (.t 128), none⟩,
            ⟨some 130, .load 1 false (.t 129), none⟩,
            ⟨some 131, .mov (.t 130), none⟩,
            ⟨some 132, .mov (.t 11), some (131, false)⟩,
            ⟨some 133, .mov (.t 16), some (131, false)⟩,
            ⟨some 134, .iaddr 1 (.t 132) (.t 133), some (131, false)⟩,
            ⟨some 135, .load 1 false (.t 134), some (131, false)⟩,
            ⟨some 136, .pick (.t 131) (.c (.v (.bool true))) (.t 135), none⟩,
            ⟨some 137, .iaddr 1 (.t 125) (.t 126), none⟩,
            ⟨none, .store 1 (.t 137) (.t 136), none⟩])
          (.seq (.ops [⟨some 139, .bin .eql false (.t 97) (.c (.v (.int .i64 18))), none⟩,
            ⟨some 138, .mov (.t 139), none⟩])
          (.cond (.t 138)
            (.ops [⟨some 140, .mov (.t 6), none⟩,
              ⟨some 141, .mov (.t 16), none⟩,
              ⟨some 142, .mov (.t 10), none⟩,
              ⟨some 143, .mov (.t 16), none⟩,
              ⟨some 144, .iaddr 1 (.t 142) (.t 143), none⟩,
              ⟨some 145, .load 1 false (.t 144), none⟩,
              ⟨some 146, .un .not (.t 145), none⟩,
              ⟨some 147, .mov (.t 146), none⟩,
              ⟨some 148, .mov (.t 11), some (147, false)⟩,
              ⟨some 149, .mov (.t 16), some (147, false)⟩,
              ⟨some 150, .iaddr 1 (.t 148) (.t 149), some (147, false)⟩,
              ⟨some 151, .load 1 false (.t 150), some (147, false)⟩,
              ⟨some 152, .pick (.t 147) (.c (.v (.bool true))) (.t 151), none⟩,
              ⟨some 153, .iaddr 1 (.t 140) (.t 141), none⟩,
              ⟨none, .store 1 (.t 153) (.t 152), none⟩])
            (.seq (.ops [⟨some 155, .bin .eql false (.t 97) (.c (.v (.int .i64 19))), none⟩,
              ⟨some 154, .mov (.t 155), none⟩])
            (.cond (.t 154)
              (.draw [[⟨some 156, .mov (.t 6), none⟩,
                  ⟨some 157, .mov (.t 16), none⟩,
                  ⟨some 158, .mov (.t 10), none⟩,
                  ⟨some 159, .mov (.t 16), none⟩,
                  ⟨some 160, .iaddr 1 (.t 158) (.t 159), none⟩,
                  ⟨some 161, .load 1 false (.t 160), none⟩,
                  ⟨some 162, .mov (.t 11), none⟩,
                  ⟨some 163, .mov (.t 16), none⟩,
                  ⟨some 164, .iaddr 1 (.t 162) (.t 163), none⟩,
                  ⟨some 165, .load 1 false (.t 164), none⟩,
                  ⟨some 166, .bin .eql true (.t 161) (.t 165), none⟩],
                [⟨some 167, .iaddr 1 (.t 156) (.t 157), none⟩],
                [⟨none, .store 1 (.t 167) (.t 166), none⟩]])
              (.seq (.ops [⟨some 169, .bin .eql false (.t 97) (.c (.v (.int .i64 20))), none⟩,
                ⟨some 168, .mov (.t 169), none⟩])
              (.cond (.t 168)
                (.ops [⟨some 170, .mov (.t 6), none⟩,
                  ⟨some 171, .mov (.t 16), none⟩,
                  ⟨some 172, .mov (.t 10), none⟩,
                  ⟨some 173, .load 2 true (.t 3), none⟩,
                  ⟨some 174, .mov (.t 16), none⟩,
                  ⟨some 175, .call 22 [(.t 173), (.t 174)], none⟩,
                  ⟨some 176, .iaddr 1 (.t 172) (.t 175), none⟩,
                  ⟨some 177, .load 1 false (.t 176), none⟩,
                  ⟨some 178, .iaddr 1 (.t 170) (.t 171), none⟩,
                  ⟨none, .store 1 (.t 178) (.t 177), none⟩])
                (.seq (.ops [⟨some 180, .bin .eql false (.t 97) (.c (.v (.int .i64 21))), none⟩,
                  ⟨some 179, .mov (.t 180), none⟩])
                (.cond (.t 179)
                  (.ops [⟨some 181, .mov (.t 6), none⟩,
                    ⟨some 182, .mov (.t 16), none⟩,
                    ⟨some 183, .load 2 true (.t 3), none⟩,
                    ⟨some 184, .mov (.t 16), none⟩,
                    ⟨some 185, .mov (.t 12), none⟩,
                    ⟨some 186, .mov (.t 10), none⟩,
                    ⟨some 187, .call 52 [(.t 183), (.t 184), (.t 185), (.t 186)], none⟩,
                    ⟨some 188, .iaddr 1 (.t 181) (.t 182), none⟩,
                    ⟨none, .store 1 (.t 188) (.t 187), none⟩])
                  (.seq (.ops [⟨some 190, .bin .eql false (.t 97) (.c (.v (.int .i64 22))), none⟩,
                    ⟨some 189, .mov (.t 190), none⟩])
                  (.cond (.t 189)
                    (.ops [⟨some 191, .mov (.t 6), none⟩,
                      ⟨some 192, .mov (.t 16), none⟩,
                      ⟨some 193, .load 2 true (.t 3), none⟩,
                      ⟨some 194, .mov (.t 16), none⟩,
                      ⟨some 195, .mov (.t 12), none⟩,
                      ⟨some 196, .mov (.t 13), none⟩,
                      ⟨some 197, .call 52 [(.t 193), (.t 194), (.t 195), (.t 196)], none⟩,
                      ⟨some 198, .un .not (.t 197), none⟩,
                      ⟨some 199, .iaddr 1 (.t 191) (.t 192), none⟩,
                      ⟨none, .store 1 (.t 199) (.t 198), none⟩])
                    (.seq (.ops [⟨some 201, .bin .eql false (.t 97) (.c (.v (.int .i64 23))), none⟩,
                      ⟨some 200, .mov (.t 201), none⟩])
                    (.cond (.t 200)
                      (.ops [⟨some 202, .mov (.t 6), none⟩,
                        ⟨some 203, .mov (.t 16), none⟩,
                        ⟨some 204, .load 2 true (.t 3), none⟩,
                        ⟨some 205, .mov (.t 16), none⟩,
                        ⟨some 206, .mov (.t 10), none⟩,
                        ⟨some 207, .mov (.t 11), none⟩,
                        ⟨some 208, .call 52 [(.t 204), (.t 205), (.t 206), (.t 207)], none⟩,
                        ⟨some 209, .iaddr 1 (.t 202) (.t 203), none⟩,
                        ⟨none, .store 1 (.t 209) (.t 208), none⟩])
                      (.seq (.ops [⟨some 211, .bin .eql false (.t 97) (.c (.v (.int .i64 24))), none⟩,
                        ⟨some 210, .mov (.t 211), none⟩])
                      (.cond (.t 210)
                        (.ops [⟨some 212, .mov (.t 6), none⟩,
                          ⟨some 213, .mov (.t 16), none⟩,
                          ⟨some 214, .load 2 true (.t 3), none⟩,
                          ⟨some 215, .mov (.t 16), none⟩,
                          ⟨some 216, .mov (.t 13), none⟩,
                          ⟨some 217, .mov (.t 14), none⟩,
                          ⟨some 218, .call 52 [(.t 214), (.t 215), (.t 216), (.t 217)], none⟩,
                          ⟨some 219, .un .not (.t 218), none⟩,
                          ⟨some 220, .iaddr 1 (.t 212) (.t 213), none⟩,
                          ⟨none, .store 1 (.t 220) (.t 219), none⟩])
                        .skip)))))))))))))))))))))))
    (.ops [⟨some 94, .mov (.t 16), none⟩,
      ⟨some 95, .bin .add false (.t 94) (.c (.v (.int .i64 1))), none⟩,
      ⟨some 16, .mov (.t 95), none⟩]))))))
  (.seq (.ops [⟨some 221, .mov (.t 6), none⟩,
    ⟨some 4, .mov (.t 221), none⟩])
  .ret))))))))))))))⟩ := by kernel_rfl

theorem ir17 : compF Try.prog 17 = some ⟨10, [.t 4],
  (.seq (.ops [⟨some 2, .box (.t 0), none⟩,
    ⟨some 3, .box (.t 1), none⟩,
    ⟨some 4, .mov (.c (.v (.bool false))), none⟩])
  (.seq (.ops [⟨some 5, .load 4 true (.t 2), none⟩,
    ⟨some 6, .load 2 true (.t 3), none⟩,
    ⟨some 7, .call 15 [(.t 5), (.t 6)], none⟩,
    ⟨some 8, .iaddr 1 (.t 7) (.c (.v (.int .i64 0))), none⟩,
    ⟨some 9, .load 1 false (.t 8), none⟩,
    ⟨some 4, .mov (.t 9), none⟩])
  .ret))⟩ := by kernel_rfl

theorem ir18 : compF Try.prog 18 = some ⟨10, [.t 4],
  (.seq (.ops [⟨some 2, .box (.t 0), none⟩,
    ⟨some 3, .box (.t 1), none⟩,
    ⟨some 4, .mov (.c (.v (.bool false))), none⟩])
  (.seq (.ops [⟨some 5, .load 4 true (.t 2), none⟩,
    ⟨some 6, .load 2 true (.t 3), none⟩,
    ⟨some 7, .call 16 [(.t 5), (.t 6)], none⟩,
    ⟨some 8, .iaddr 1 (.t 7) (.c (.v (.int .i64 0))), none⟩,
    ⟨some 9, .load 1 false (.t 8), none⟩,
    ⟨some 4, .mov (.t 9), none⟩])
  .ret))⟩ := by kernel_rfl

theorem ir19 : compF Try.prog 19 = some ⟨12, [.c 6 4 true],
  (.seq (.ops [⟨some 4, .box (.t 1), none⟩,
    ⟨some 5, .box (.t 2), none⟩,
    ⟨some 6, .alloc (.agg [(.v (.int .i64 0)), (.v (.int .i64 0)), (.v (.int .i64 0)), (.v (.slice none 0 0))]), none⟩])
  (.seq (.ops [⟨some 7, .mov (.t 0), none⟩,
    ⟨some 8, .load 4 true (.t 4), none⟩,
    ⟨some 9, .load 4 true (.t 5), none⟩,
    ⟨some 10, .bslice 4 [(.v (.int .i64 0)), (.v (.int .i64 0)), (.v (.int .i64 0)), (.v (.slice none 0 0))] 2 [(0, 4, (.t 8)), (4, 4, (.t 9))], none⟩,
    ⟨some 11, .build [(.v (.int .i64 0)), (.v (.int .i64 0)), (.v (.int .i64 0)), (.v (.slice none 0 0))] [(0, 1, (.t 7)), (3, 1, (.t 10))], none⟩,
    ⟨none, .store 4 (.t 6) (.t 11), none⟩])
  .ret))⟩ := by kernel_rfl

theorem ir20 : compF Try.prog 20 = some ⟨5, [.c 2 4 true],
  (.seq (.ops [⟨some 1, .box (.t 0), none⟩,
    ⟨some 2, .alloc (.agg [(.v (.int .i64 0)), (.v (.int .i64 0)), (.v (.int .i64 0)), (.v (.slice none 0 0))]), none⟩])
  (.seq (.ops [⟨some 3, .load 4 true (.t 1), none⟩,
    ⟨some 4, .call 21 [(.c (.v (.int .i64 15))), (.t 3)], none⟩,
    ⟨none, .store 4 (.t 2) (.t 4), none⟩])
  .ret))⟩ := by kernel_rfl

theorem ir21 : compF Try.prog 21 = some ⟨9, [.c 4 4 true],
  (.seq (.ops [⟨some 3, .box (.t 1), none⟩,
    ⟨some 4, .alloc (.agg [(.v (.int .i64 0)), (.v (.int .i64 0)), (.v (.int .i64 0)), (.v (.slice none 0 0))]), none⟩])
  (.seq (.ops [⟨some 5, .mov (.t 0), none⟩,
    ⟨some 6, .load 4 true (.t 3), none⟩,
    ⟨some 7, .bslice 4 [(.v (.int .i64 0)), (.v (.int .i64 0)), (.v (.int .i64 0)), (.v (.slice none 0 0))] 1 [(0, 4, (.t 6))], none⟩,
    ⟨some 8, .build [(.v (.int .i64 0)), (.v (.int .i64 0)), (.v (.int .i64 0)), (.v (.slice none 0 0))] [(0, 1, (.t 5)), (3, 1, (.t 7))], none⟩,
    ⟨none, .store 4 (.t 4) (.t 8), none⟩])
  .ret))⟩ := by kernel_rfl

theorem ir22 : compF Try.prog 22 = some ⟨15, [.t 4],
  (.seq (.ops [⟨some 2, .box (.t 0), none⟩,
    ⟨some 4, .mov (.c (.v (.int .i64 0))), none⟩])
  (.seq (.seq (.ops [⟨some 5, .mov (.t 1), none⟩,
    ⟨some 6, .faddr 0 (.t 2), none⟩,
    ⟨some 7, .load 1 false (.t 6), none⟩,
    ⟨some 8, .len false (.t 7), none⟩,
    ⟨some 9, .bin .sub false (.t 8) (.c (.v (.int .i64 1))), none⟩,
    ⟨some 10, .bin .eql false (.t 5) (.t 9), none⟩])
  (.cond (.t 10)
    (.seq (.ops [⟨some 11, .faddr 1 (.t 2), none⟩,
      ⟨some 12, .load 1 false (.t 11), none⟩,
      ⟨some 4, .mov (.t 12), none⟩])
    .ret)
    .skip))
  (.seq (.ops [⟨some 13, .mov (.t 1), none⟩,
    ⟨some 14, .bin .add false (.t 13) (.c (.v (.int .i64 1))), none⟩,
    ⟨some 4, .mov (.t 14), none⟩])
  .ret)))⟩ := by kernel_rfl

theorem ir23 : compF Try.prog 23 = some ⟨18, [.t 2],
  (.seq (.ops [⟨some 1, .box (.t 0), none⟩,
    ⟨some 2, .mov (.c (.v (.bool false))), none⟩])
  (.seq (.ops [⟨some 7, .load 4 true (.t 1), none⟩,
    ⟨some 8, .call 36 [(.t 7)], none⟩,
    ⟨some 6, .mov (.t 8), none⟩,
    ⟨some 9, .extract (.t 6) 0, none⟩,
    ⟨some 10, .extract (.t 6) 1, none⟩,
    ⟨some 11, .extract (.t 6) 2, none⟩,
    ⟨some 3, .mov (.t 9), none⟩,
    ⟨some 4, .mov (.t 10), none⟩,
    ⟨some 5, .mov (.t 11), none⟩])
  (.seq (.ops [⟨some 12, .mov (.t 4), none⟩,
    ⟨some 13, .bin .eql false (.t 12) (.c (.v (.int .i64 0))), none⟩,
    ⟨some 14, .mov (.t 13), none⟩,
    ⟨some 15, .mov (.t 3), some (14, true)⟩,
    ⟨some 16, .bin .eql false (.t 15) (.c (.v (.int .i64 2))), some (14, true)⟩,
    ⟨some 17, .pick (.t 14) (.t 16) (.c (.v (.bool false))), none⟩,
    ⟨some 2, .mov (.t 17), none⟩])
  .ret)))⟩ := by kernel_rfl

set_option maxRecDepth 100000 in
theorem ir24 : compF Try.prog 24 = some ⟨145, [.t 4],
  (.seq (.ops [⟨some 2, .box (.t 0), none⟩,
    ⟨some 4, .mov (.c (.v (.int .i64 0))), none⟩])
  (.seq (.ops [⟨some 5, .mov (.c (.v (.int .i64 0))), none⟩])
  (.seq (.ops [⟨some 6, .mov (.c (.v (.int .i64 0))), none⟩])
  (.seq (.seq (.ops [⟨some 7, .faddr 3 (.t 2), none⟩,
    ⟨some 8, .load 1 false (.t 7), none⟩,
    ⟨some 9, .len false (.t 8), none⟩,
    ⟨some 10, .bin .gtr false (.t 9) (.c (.v (.int .i64 0))), none⟩])
  (.cond (.t 10)
    (.ops [⟨some 11, .faddr 3 (.t 2), none⟩,
      ⟨some 12, .load 1 false (.t 11), none⟩,
      ⟨some 13, .iaddr 4 (.t 12) (.c (.v (.int .i64 0))), none⟩,
      ⟨some 14, .load 4 true (.t 13), none⟩,
      ⟨some 15, .mov (.t 1), none⟩,
      ⟨some 16, .call 24 [(.t 14), (.t 15)], none⟩,
      ⟨some 5, .mov (.t 16), none⟩])
    .skip))
  (.seq (.seq (.ops [⟨some 17, .faddr 3 (.t 2), none⟩,
    ⟨some 18, .load 1 false (.t 17), none⟩,
    ⟨some 19, .len false (.t 18), none⟩,
    ⟨some 20, .bin .gtr false (.t 19) (.c (.v (.int .i64 1))), none⟩])
  (.cond (.t 20)
    (.ops [⟨some 21, .faddr 3 (.t 2), none⟩,
      ⟨some 22, .load 1 false (.t 21), none⟩,
      ⟨some 23, .iaddr 4 (.t 22) (.c (.v (.int .i64 1))), none⟩,
      ⟨some 24, .load 4 true (.t 23), none⟩,
      ⟨some 25, .mov (.t 1), none⟩,
      ⟨some 26, .call 24 [(.t 24), (.t 25)], none⟩,
      ⟨some 6, .mov (.t 26), none⟩])
    .skip))
  (.seq (.seq (.ops [⟨some 27, .faddr 0 (.t 2), none⟩,
    ⟨some 28, .load 1 false (.t 27), none⟩])
  (.block 0 (.seq (.ops [⟨some 30, .bin .eql false (.t 28) (.c (.v (.int .i64 1))), none⟩,
    ⟨some 29, .mov (.t 30), none⟩])
  (.cond (.t 29)
    (.seq (.ops [⟨some 31, .faddr 1 (.t 2), none⟩,
      ⟨some 32, .load 1 false (.t 31), none⟩,
      ⟨some 4, .mov (.t 32), none⟩])
    .ret)
    (.seq (.ops [⟨some 34, .bin .eql false (.t 28) (.c (.v (.int .i64 2))), none⟩,
      ⟨some 33, .mov (.t 34), none⟩])
    (.cond (.t 33)
      (.seq (.seq (.ops [⟨some 35, .faddr 1 (.t 2), none⟩,
        ⟨some 36, .load 1 false (.t 35), none⟩,
        ⟨some 37, .bin .geq false (.t 36) (.c (.v (.int .i64 0))), none⟩,
        ⟨some 38, .mov (.t 37), none⟩,
        ⟨some 39, .faddr 1 (.t 2), some (38, true)⟩,
        ⟨some 40, .load 1 false (.t 39), some (38, true)⟩,
        ⟨some 41, .mov (.t 1), some (38, true)⟩,
        ⟨some 42, .len false (.t 41), some (38, true)⟩,
        ⟨some 43, .bin .lss false (.t 40) (.t 42), some (38, true)⟩,
        ⟨some 44, .pick (.t 38) (.t 43) (.c (.v (.bool false))), none⟩])
      (.cond (.t 44)
        (.seq (.ops [⟨some 45, .mov (.t 1), none⟩,
          ⟨some 46, .faddr 1 (.t 2), none⟩,
          ⟨some 47, .load 1 false (.t 46), none⟩,
          ⟨some 48, .iaddr 1 (.t 45) (.t 47), none⟩,
          ⟨some 49, .load 1 false (.t 48), none⟩,
          ⟨some 4, .mov (.t 49), none⟩])
        .ret)
        .skip))
      (.seq (.ops [⟨some 4, .mov (.c (.v (.int .i64 0))), none⟩])
      .ret))
      (.seq (.ops [⟨some 51, .bin .eql false (.t 28) (.c (.v (.int .i64 3))), none⟩,
        ⟨some 50, .mov (.t 51), none⟩])
      (.cond (.t 50)
        (.seq (.ops [⟨some 52, .mov (.t 5), none⟩,
          ⟨some 53, .mov (.t 6), none⟩,
          ⟨some 54, .bin .add false (.t 52) (.t 53), none⟩,
          ⟨some 4, .mov (.t 54), none⟩])
        .ret)
        (.seq (.ops [⟨some 56, .bin .eql false (.t 28) (.c (.v (.int .i64 4))), none⟩,
          ⟨some 55, .mov (.t 56), none⟩])
        (.cond (.t 55)
          (.seq (.ops [⟨some 57, .mov (.t 5), none⟩,
            ⟨some 58, .mov (.t 6), none⟩,
            ⟨some 59, .bin .sub false (.t 57) (.t 58), none⟩,
            ⟨some 4, .mov (.t 59), none⟩])
          .ret)
          (.seq (.ops [⟨some 61, .bin .eql false (.t 28) (.c (.v (.int .i64 5))), none⟩,
            ⟨some 60, .mov (.t 61), none⟩])
          (.cond (.t 60)
            (.seq (.ops [⟨some 62, .mov (.t 5), none⟩,
              ⟨some 63, .mov (.t 6), none⟩,
              ⟨some 64, .bin .mul false (.t 62) (.t 63), none⟩,
              ⟨some 4, .mov (.t 64), none⟩])
            .ret)
            (.seq (.ops [⟨some 66, .bin .eql false (.t 28) (.c (.v (.int .i64 6))), none⟩,
              ⟨some 65, .mov (.t 66), none⟩])
            (.cond (.t 65)
              (.seq (.ops [⟨some 67, .mov (.t 5), none⟩,
                ⟨some 68, .un .neg (.t 67), none⟩,
                ⟨some 4, .mov (.t 68), none⟩])
              .ret)
              (.seq (.ops [⟨some 70, .bin .eql false (.t 28) (.c (.v (.int .i64 7))), none⟩,
                ⟨some 69, .mov (.t 70), none⟩])
              (.cond (.t 69)
                (.seq (.ops [⟨some 71, .mov (.t 5), none⟩,
                  ⟨some 72, .mov (.t 6), none⟩,
                  ⟨some 73, .bin .eql false (.t 71) (.t 72), none⟩,
                  ⟨some 74, .call 53 [(.t 73)], none⟩,
                  ⟨some 4, .mov (.t 74), none⟩])
                .ret)
                (.seq (.ops [⟨some 76, .bin .eql false (.t 28) (.c (.v (.int .i64 8))), none⟩,
                  ⟨some 75, .mov (.t 76), none⟩])
                (.cond (.t 75)
                  (.seq (.ops [⟨some 77, .mov (.t 5), none⟩,
                    ⟨some 78, .mov (.t 6), none⟩,
                    ⟨some 79, .bin .neq false (.t 77) (.t 78), none⟩,
                    ⟨some 80, .call 53 [(.t 79)], none⟩,
                    ⟨some 4, .mov (.t 80), none⟩])
                  .ret)
                  (.seq (.ops [⟨some 82, .bin .eql false (.t 28) (.c (.v (.int .i64 9))), none⟩,
                    ⟨some 81, .mov (.t 82), none⟩])
                  (.cond (.t 81)
                    (.seq (.ops [⟨some 83, .mov (.t 5), none⟩,
                      ⟨some 84, .mov (.t 6), none⟩,
                      ⟨some 85, .bin .lss false (.t 83) (.t 84), none⟩,
                      ⟨some 86, .call 53 [(.t 85)], none⟩,
                      ⟨some 4, .mov (.t 86), none⟩])
                    .ret)
                    (.seq (.ops [⟨some 88, .bin .eql false (.t 28) (.c (.v (.int .i64 10))), none⟩,
                      ⟨some 87, .mov (.t 88), none⟩])
                    (.cond (.t 87)
                      (.seq (.ops [⟨some 89, .mov (.t 5), none⟩,
                        ⟨some 90, .mov (.t 6), none⟩,
                        ⟨some 91, .bin .leq false (.t 89) (.t 90), none⟩,
                        ⟨some 92, .call 53 [(.t 91)], none⟩,
                        ⟨some 4, .mov (.t 92), none⟩])
                      .ret)
                      (.seq (.ops [⟨some 94, .bin .eql false (.t 28) (.c (.v (.int .i64 11))), none⟩,
                        ⟨some 93, .mov (.t 94), none⟩])
                      (.cond (.t 93)
                        (.seq (.ops [⟨some 95, .mov (.t 5), none⟩,
                          ⟨some 96, .mov (.t 6), none⟩,
                          ⟨some 97, .bin .gtr false (.t 95) (.t 96), none⟩,
                          ⟨some 98, .call 53 [(.t 97)], none⟩,
                          ⟨some 4, .mov (.t 98), none⟩])
                        .ret)
                        (.seq (.ops [⟨some 100, .bin .eql false (.t 28) (.c (.v (.int .i64 12))), none⟩,
                          ⟨some 99, .mov (.t 100), none⟩])
                        (.cond (.t 99)
                          (.seq (.ops [⟨some 101, .mov (.t 5), none⟩,
                            ⟨some 102, .mov (.t 6), none⟩,
                            ⟨some 103, .bin .geq false (.t 101) (.t 102), none⟩,
                            ⟨some 104, .call 53 [(.t 103)], none⟩,
                            ⟨some 4, .mov (.t 104), none⟩])
                          .ret)
                          (.seq (.ops [⟨some 106, .bin .eql false (.t 28) (.c (.v (.int .i64 13))), none⟩,
                            ⟨some 105, .mov (.t 106), none⟩])
                          (.cond (.t 105)
                            (.seq (.ops [⟨some 4, .mov (.c (.v (.int .i64 1))), none⟩])
                            .ret)
                            (.seq (.ops [⟨some 108, .bin .eql false (.t 28) (.c (.v (.int .i64 15))), none⟩,
                              ⟨some 107, .mov (.t 108), none⟩])
                            (.cond (.t 107)
                              (.seq (.ops [⟨some 109, .mov (.t 5), none⟩,
                                ⟨some 110, .bin .eql false (.t 109) (.c (.v (.int .i64 0))), none⟩,
                                ⟨some 111, .call 53 [(.t 110)], none⟩,
                                ⟨some 4, .mov (.t 111), none⟩])
                              .ret)
                              (.seq (.ops [⟨some 113, .bin .eql false (.t 28) (.c (.v (.int .i64 16))), none⟩,
                                ⟨some 112, .mov (.t 113), none⟩])
                              (.cond (.t 112)
                                (.seq (.ops [⟨some 114, .mov (.t 5), none⟩,
                                  ⟨some 115, .bin .eql false (.t 114) (.c (.v (.int .i64 1))), none⟩,
                                  ⟨some 116, .mov (.t 115), none⟩,
                                  ⟨some 117, .mov (.t 6), some (116, true)⟩,
                                  ⟨some 118, .bin .eql false (.t 117) (.c (.v (.int .i64 1))), some (116, true)⟩,
                                  ⟨some 119, .pick (.t 116) (.t 118) (.c (.v (.bool false))), none⟩,
                                  ⟨some 120, .call 53 [(.t 119)], none⟩,
                                  ⟨some 4, .mov (.t 120), none⟩])
                                .ret)
                                (.seq (.ops [⟨some 122, .bin .eql false (.t 28) (.c (.v (.int .i64 17))), none⟩,
                                  ⟨some 121, .mov (.t 122), none⟩])
                                (.cond (.t 121)
                                  (.seq (.ops [⟨some 123, .mov (.t 5), none⟩,
                                    ⟨some 124, .bin .eql false (.t 123) (.c (.v (.int .i64 1))), none⟩,
                                    ⟨some 125, .mov (.t 124), none⟩,
                                    ⟨some 126, .mov (.t 6), some (125, false)⟩,
                                    ⟨some 127, .bin .eql false (.t 126) (.c (.v (.int .i64 1))), some (125, false)⟩,
                                    ⟨some 128, .pick (.t 125) (.c (.v (.bool true))) (.t 127), none⟩,
                                    ⟨some 129, .call 53 [(.t 128)], none⟩,
                                    ⟨some 4, .mov (.t 129), none⟩])
                                  .ret)
                                  (.seq (.ops [⟨some 131, .bin .eql false (.t 28) (.c (.v (.int .i64 18))), none⟩,
                                    ⟨some 130, .mov (.t 131), none⟩])
                                  (.cond (.t 130)
                                    (.seq (.ops [⟨some 132, .mov (.t 5), none⟩,
                                      ⟨some 133, .bin .eql false (.t 132) (.c (.v (.int .i64 0))), none⟩,
                                      ⟨some 134, .mov (.t 133), none⟩,
                                      ⟨some 135, .mov (.t 6), some (134, false)⟩,
                                      ⟨some 136, .bin .eql false (.t 135) (.c (.v (.int .i64 1))), some (134, false)⟩,
                                      ⟨some 137, .pick (.t 134) (.c (.v (.bool true))) (.t 136), none⟩,
                                      ⟨some 138, .call 53 [(.t 137)], none⟩,
                                      ⟨some 4, .mov (.t 138), none⟩])
                                    .ret)
                                    (.seq (.ops [⟨some 140, .bin .eql false (.t 28) (.c (.v (.int .i64 19))), none⟩,
                                      ⟨some 139, .mov (.t 140), none⟩])
                                    (.cond (.t 139)
                                      (.seq (.ops [⟨some 141, .mov (.t 5), none⟩,
                                        ⟨some 142, .mov (.t 6), none⟩,
                                        ⟨some 143, .bin .eql false (.t 141) (.t 142), none⟩,
                                        ⟨some 144, .call 53 [(.t 143)], none⟩,
                                        ⟨some 4, .mov (.t 144), none⟩])
                                      .ret)
                                      .skip))))))))))))))))))))))))))))))))))))))
  (.seq (.ops [⟨some 4, .mov (.c (.v (.int .i64 0))), none⟩])
  .ret)))))))⟩ := by kernel_rfl

theorem ir25 : compF Try.prog 25 = some ⟨8, [.c 4 4 true],
  (.seq (.ops [⟨some 2, .box (.t 0), none⟩,
    ⟨some 3, .box (.t 1), none⟩,
    ⟨some 4, .alloc (.agg [(.v (.int .i64 0)), (.v (.int .i64 0)), (.v (.int .i64 0)), (.v (.slice none 0 0))]), none⟩])
  (.seq (.ops [⟨some 5, .load 4 true (.t 2), none⟩,
    ⟨some 6, .load 4 true (.t 3), none⟩,
    ⟨some 7, .call 19 [(.c (.v (.int .i64 17))), (.t 5), (.t 6)], none⟩,
    ⟨none, .store 4 (.t 4) (.t 7), none⟩])
  .ret))⟩ := by kernel_rfl

theorem ir26 : compF Try.prog 26 = some ⟨8, [.c 4 4 true],
  (.seq (.ops [⟨some 2, .box (.t 0), none⟩,
    ⟨some 3, .box (.t 1), none⟩,
    ⟨some 4, .alloc (.agg [(.v (.int .i64 0)), (.v (.int .i64 0)), (.v (.int .i64 0)), (.v (.slice none 0 0))]), none⟩])
  (.seq (.ops [⟨some 5, .load 4 true (.t 2), none⟩,
    ⟨some 6, .load 4 true (.t 3), none⟩,
    ⟨some 7, .call 19 [(.c (.v (.int .i64 16))), (.t 5), (.t 6)], none⟩,
    ⟨none, .store 4 (.t 4) (.t 7), none⟩])
  .ret))⟩ := by kernel_rfl

theorem ir27 : compF Try.prog 27 = some ⟨5, [.c 2 4 true],
  (.seq (.ops [⟨some 1, .box (.t 0), none⟩,
    ⟨some 2, .alloc (.agg [(.v (.int .i64 0)), (.v (.int .i64 0)), (.v (.int .i64 0)), (.v (.slice none 0 0))]), none⟩])
  (.seq (.ops [⟨some 3, .load 4 true (.t 1), none⟩,
    ⟨some 4, .call 21 [(.c (.v (.int .i64 20))), (.t 3)], none⟩,
    ⟨none, .store 4 (.t 2) (.t 4), none⟩])
  .ret))⟩ := by kernel_rfl

theorem ir28 : compF Try.prog 28 = some ⟨8, [.c 4 4 true],
  (.seq (.ops [⟨some 2, .box (.t 0), none⟩,
    ⟨some 3, .box (.t 1), none⟩,
    ⟨some 4, .alloc (.agg [(.v (.int .i64 0)), (.v (.int .i64 0)), (.v (.int .i64 0)), (.v (.slice none 0 0))]), none⟩])
  (.seq (.ops [⟨some 5, .load 4 true (.t 2), none⟩,
    ⟨some 6, .load 4 true (.t 3), none⟩,
    ⟨some 7, .call 19 [(.c (.v (.int .i64 23))), (.t 5), (.t 6)], none⟩,
    ⟨none, .store 4 (.t 4) (.t 7), none⟩])
  .ret))⟩ := by kernel_rfl

theorem ir29 : compF Try.prog 29 = some ⟨25, [.t 2],
  (.seq (.ops [⟨some 1, .box (.t 0), none⟩,
    ⟨some 2, .mov (.c (.v (.int .i64 0))), none⟩])
  (.seq (.ops [⟨some 6, .load 4 true (.t 1), none⟩,
    ⟨some 7, .call 23 [(.t 6)], none⟩,
    ⟨some 3, .mov (.t 7), none⟩])
  (.seq (.seq (.ops [⟨some 8, .mov (.t 3), none⟩])
  (.cond (.t 8)
    (.seq (.ops [⟨some 2, .mov (.c (.v (.int .i64 1))), none⟩])
    .ret)
    .skip))
  (.seq (.ops [⟨some 4, .mov (.c (.v (.int .i64 1))), none⟩])
  (.seq (.seq (.ops [⟨some 5, .mov (.c (.v (.int .i64 0))), none⟩])
  (.block 0 (.loop
    (.seq (.seq (.ops [⟨some 9, .mov (.t 5), none⟩,
      ⟨some 10, .faddr 3 (.t 1), none⟩,
      ⟨some 11, .load 1 false (.t 10), none⟩,
      ⟨some 12, .len false (.t 11), none⟩,
      ⟨some 13, .bin .lss false (.t 9) (.t 12), none⟩])
    (.cond (.t 13)
      .skip
      (.exit 0)))
    (.seq (.block 1 (.ops [⟨some 16, .mov (.t 4), none⟩,
      ⟨some 17, .faddr 3 (.t 1), none⟩,
      ⟨some 18, .load 1 false (.t 17), none⟩,
      ⟨some 19, .mov (.t 5), none⟩,
      ⟨some 20, .iaddr 4 (.t 18) (.t 19), none⟩,
      ⟨some 21, .load 4 true (.t 20), none⟩,
      ⟨some 22, .call 29 [(.t 21)], none⟩,
      ⟨some 23, .bin .add false (.t 16) (.t 22), none⟩,
      ⟨some 4, .mov (.t 23), none⟩]))
    (.ops [⟨some 14, .mov (.t 5), none⟩,
      ⟨some 15, .bin .add false (.t 14) (.c (.v (.int .i64 1))), none⟩,
      ⟨some 5, .mov (.t 15), none⟩]))))))
  (.seq (.ops [⟨some 24, .mov (.t 4), none⟩,
    ⟨some 2, .mov (.t 24), none⟩])
  .ret))))))⟩ := by kernel_rfl

theorem ir30 : compF Try.prog 30 = some ⟨8, [.c 2 4 true, .t 3],
  (.seq (.ops [⟨some 1, .box (.t 0), none⟩,
    ⟨some 2, .alloc (.agg [(.v (.int .i64 0)), (.v (.int .i64 0)), (.v (.int .i64 0)), (.v (.slice none 0 0))]), none⟩,
    ⟨some 3, .mov (.c (.v (.int .i64 0))), none⟩])
  (.seq (.ops [⟨some 4, .load 4 true (.t 1), none⟩,
    ⟨some 5, .call 54 [(.t 4), (.c (.v (.bool false)))], none⟩,
    ⟨some 6, .extract (.t 5) 0, none⟩,
    ⟨some 7, .extract (.t 5) 1, none⟩,
    ⟨none, .store 4 (.t 2) (.t 6), none⟩,
    ⟨some 3, .mov (.t 7), none⟩])
  .ret))⟩ := by kernel_rfl

theorem ir31 : compF Try.prog 31 = some ⟨8, [.c 2 4 true, .t 3],
  (.seq (.ops [⟨some 1, .box (.t 0), none⟩,
    ⟨some 2, .alloc (.agg [(.v (.int .i64 0)), (.v (.int .i64 0)), (.v (.int .i64 0)), (.v (.slice none 0 0))]), none⟩,
    ⟨some 3, .mov (.c (.v (.int .i64 0))), none⟩])
  (.seq (.ops [⟨some 4, .load 4 true (.t 1), none⟩,
    ⟨some 5, .call 54 [(.t 4), (.c (.v (.bool true)))], none⟩,
    ⟨some 6, .extract (.t 5) 0, none⟩,
    ⟨some 7, .extract (.t 5) 1, none⟩,
    ⟨none, .store 4 (.t 2) (.t 6), none⟩,
    ⟨some 3, .mov (.t 7), none⟩])
  .ret))⟩ := by kernel_rfl

theorem ir32 : compF Try.prog 32 = some ⟨8, [.c 2 4 true],
  (.seq (.ops [⟨some 2, .alloc (.agg [(.v (.int .i64 0)), (.v (.int .i64 0)), (.v (.int .i64 0)), (.v (.slice none 0 0))]), none⟩])
  (.seq (.ops [⟨some 3, .build [(.v (.int .i64 0)), (.v (.int .i64 0)), (.v (.int .i64 0)), (.v (.slice none 0 0))] [(0, 1, (.c (.v (.int .i64 2))))], none⟩,
    ⟨some 4, .mov (.t 0), none⟩,
    ⟨some 5, .build [(.v (.int .i64 0)), (.v (.int .i64 0)), (.v (.int .i64 0)), (.v (.slice none 0 0))] [(0, 1, (.c (.v (.int .i64 1)))), (1, 1, (.t 4))], none⟩,
    ⟨some 6, .bslice 4 [(.v (.int .i64 0)), (.v (.int .i64 0)), (.v (.int .i64 0)), (.v (.slice none 0 0))] 2 [(0, 4, (.t 3)), (4, 4, (.t 5))], none⟩,
    ⟨some 7, .build [(.v (.int .i64 0)), (.v (.int .i64 0)), (.v (.int .i64 0)), (.v (.slice none 0 0))] [(0, 1, (.c (.v (.int .i64 7)))), (3, 1, (.t 6))], none⟩,
    ⟨none, .store 4 (.t 2) (.t 7), none⟩])
  .ret))⟩ := by kernel_rfl

theorem ir33 : compF Try.prog 33 = some ⟨9, [.c 4 4 true],
  (.seq (.ops [⟨some 3, .box (.t 1), none⟩,
    ⟨some 4, .alloc (.agg [(.v (.int .i64 0)), (.v (.int .i64 0)), (.v (.int .i64 0)), (.v (.slice none 0 0))]), none⟩])
  (.seq (.ops [⟨some 5, .mov (.t 0), none⟩,
    ⟨some 6, .load 4 true (.t 3), none⟩,
    ⟨some 7, .bslice 4 [(.v (.int .i64 0)), (.v (.int .i64 0)), (.v (.int .i64 0)), (.v (.slice none 0 0))] 1 [(0, 4, (.t 6))], none⟩,
    ⟨some 8, .build [(.v (.int .i64 0)), (.v (.int .i64 0)), (.v (.int .i64 0)), (.v (.slice none 0 0))] [(0, 1, (.t 5)), (3, 1, (.t 7))], none⟩,
    ⟨none, .store 4 (.t 4) (.t 8), none⟩])
  .ret))⟩ := by kernel_rfl

theorem ir34 : compF Try.prog 34 = some ⟨15, [.t 2],
  (.seq (.ops [⟨some 1, .box (.t 0), none⟩,
    ⟨some 2, .mov (.c (.v (.bool false))), none⟩])
  (.seq (.ops [⟨some 5, .load 4 true (.t 1), none⟩,
    ⟨some 6, .call 55 [(.t 5), (.c (.v (.int .i64 45)))], none⟩,
    ⟨some 3, .mov (.t 6), none⟩])
  (.seq (.ops [⟨some 7, .load 4 true (.t 1), none⟩,
    ⟨some 8, .call 56 [(.t 7), (.c (.v (.int .i64 300)))], none⟩,
    ⟨some 4, .mov (.t 8), none⟩])
  (.seq (.ops [⟨some 9, .mov (.t 3), none⟩,
    ⟨some 10, .bin .lss false (.t 9) (.c (.v (.int .i64 45))), none⟩,
    ⟨some 11, .mov (.t 10), none⟩,
    ⟨some 12, .mov (.t 4), some (11, true)⟩,
    ⟨some 13, .bin .lss false (.t 12) (.c (.v (.int .i64 300))), some (11, true)⟩,
    ⟨some 14, .pick (.t 11) (.t 13) (.c (.v (.bool false))), none⟩,
    ⟨some 2, .mov (.t 14), none⟩])
  .ret))))⟩ := by kernel_rfl

set_option maxRecDepth 100000 in
theorem ir35 : compF Try.prog 35 = some ⟨89, [.t 4],
  (.seq (.ops [⟨some 2, .box (.t 0), none⟩,
    ⟨some 4, .mov (.c (.v (.bool false))), none⟩])
  (.seq (.ops [⟨some 5, .mov (.c (.v (.int .i64 2))), none⟩])
  (.seq (.seq (.ops [⟨some 8, .faddr 0 (.t 2), none⟩,
    ⟨some 9, .load 1 false (.t 8), none⟩])
  (.block 0 (.seq (.seq (.ops [⟨some 11, .bin .eql false (.t 9) (.c (.v (.int .i64 1))), none⟩,
    ⟨some 10, .mov (.t 11), none⟩])
  (.cond (.t 10)
    .skip
    (.seq (.ops [⟨some 12, .bin .eql false (.t 9) (.c (.v (.int .i64 2))), none⟩,
      ⟨some 10, .mov (.t 12), none⟩])
    (.cond (.t 10)
      .skip
      (.seq (.ops [⟨some 13, .bin .eql false (.t 9) (.c (.v (.int .i64 13))), none⟩,
        ⟨some 10, .mov (.t 13), none⟩])
      (.cond (.t 10)
        .skip
        (.ops [⟨some 14, .bin .eql false (.t 9) (.c (.v (.int .i64 14))), none⟩,
          ⟨some 10, .mov (.t 14), none⟩])))))))
  (.cond (.t 10)
    (.ops [⟨some 5, .mov (.c (.v (.int .i64 0))), none⟩])
    (.seq (.seq (.ops [⟨some 16, .bin .eql false (.t 9) (.c (.v (.int .i64 6))), none⟩,
      ⟨some 15, .mov (.t 16), none⟩])
    (.cond (.t 15)
      .skip
      (.seq (.ops [⟨some 17, .bin .eql false (.t 9) (.c (.v (.int .i64 15))), none⟩,
        ⟨some 15, .mov (.t 17), none⟩])
      (.cond (.t 15)
        .skip
        (.seq (.ops [⟨some 18, .bin .eql false (.t 9) (.c (.v (.int .i64 20))), none⟩,
          ⟨some 15, .mov (.t 18), none⟩])
        (.cond (.t 15)
          .skip
          (.seq (.ops [⟨some 19, .bin .eql false (.t 9) (.c (.v (.int .i64 21))), none⟩,
            ⟨some 15, .mov (.t 19), none⟩])
          (.cond (.t 15)
            .skip
            (.ops [⟨some 20, .bin .eql false (.t 9) (.c (.v (.int .i64 22))), none⟩,
              ⟨some 15, .mov (.t 20), none⟩])))))))))
    (.cond (.t 15)
      (.ops [⟨some 5, .mov (.c (.v (.int .i64 1))), none⟩])
      .skip))))))
  (.seq (.seq (.ops [⟨some 21, .faddr 0 (.t 2), none⟩,
    ⟨some 22, .load 1 false (.t 21), none⟩,
    ⟨some 23, .bin .lss false (.t 22) (.c (.v (.int .i64 1))), none⟩,
    ⟨some 24, .mov (.t 23), none⟩,
    ⟨some 25, .faddr 0 (.t 2), some (24, false)⟩,
    ⟨some 26, .load 1 false (.t 25), some (24, false)⟩,
    ⟨some 27, .bin .gtr false (.t 26) (.c (.v (.int .i64 24))), some (24, false)⟩,
    ⟨some 28, .pick (.t 24) (.c (.v (.bool true))) (.t 27), none⟩,
    ⟨some 29, .mov (.t 28), none⟩,
    ⟨some 30, .faddr 3 (.t 2), some (29, false)⟩,
    ⟨some 31, .load 1 false (.t 30), some (29, false)⟩,
    ⟨some 32, .len false (.t 31), some (29, false)⟩,
    ⟨some 33, .mov (.t 5), some (29, false)⟩,
    ⟨some 34, .bin .neq false (.t 32) (.t 33), some (29, false)⟩,
    ⟨some 35, .pick (.t 29) (.c (.v (.bool true))) (.t 34), none⟩])
  (.cond (.t 35)
    (.seq (.ops [⟨some 4, .mov (.c (.v (.bool false))), none⟩])
    .ret)
    .skip))
  (.seq (.seq (.ops [⟨some 36, .faddr 0 (.t 2), none⟩,
    ⟨some 37, .load 1 false (.t 36), none⟩,
    ⟨some 38, .bin .eql false (.t 37) (.c (.v (.int .i64 1))), none⟩,
    ⟨some 39, .mov (.t 38), none⟩,
    ⟨some 40, .faddr 1 (.t 2), some (39, true)⟩,
    ⟨some 41, .load 1 false (.t 40), some (39, true)⟩,
    ⟨some 42, .bin .lss false (.t 41) (.c (.v (.int .i64 0))), some (39, true)⟩,
    ⟨some 43, .mov (.t 42), some (39, true)⟩,
    ⟨some 44, .faddr 1 (.t 2), some (43, false)⟩,
    ⟨some 45, .load 1 false (.t 44), some (43, false)⟩,
    ⟨some 46, .bin .gtr false (.t 45) (.c (.v (.int .i64 1073741824))), some (43, false)⟩,
    ⟨some 47, .pick (.t 43) (.c (.v (.bool true))) (.t 46), some (39, true)⟩,
    ⟨some 48, .pick (.t 39) (.t 47) (.c (.v (.bool false))), none⟩,
    ⟨some 49, .mov (.t 48), none⟩,
    ⟨some 50, .faddr 0 (.t 2), some (49, false)⟩,
    ⟨some 51, .load 1 false (.t 50), some (49, false)⟩,
    ⟨some 52, .bin .eql false (.t 51) (.c (.v (.int .i64 2))), some (49, false)⟩,
    ⟨some 53, .mov (.t 52), some (49, false)⟩,
    ⟨some 54, .faddr 1 (.t 2), some (53, true)⟩,
    ⟨some 55, .load 1 false (.t 54), some (53, true)⟩,
    ⟨some 56, .bin .lss false (.t 55) (.c (.v (.int .i64 0))), some (53, true)⟩,
    ⟨some 57, .mov (.t 56), some (53, true)⟩,
    ⟨some 58, .faddr 1 (.t 2), some (57, false)⟩,
    ⟨some 59, .load 1 false (.t 58), some (57, false)⟩,
    ⟨some 60, .mov (.t 1), some (57, false)⟩,
    ⟨some 61, .bin .geq false (.t 59) (.t 60), some (57, false)⟩,
    ⟨some 62, .pick (.t 57) (.c (.v (.bool true))) (.t 61), some (53, true)⟩,
    ⟨some 63, .pick (.t 53) (.t 62) (.c (.v (.bool false))), some (49, false)⟩,
    ⟨some 64, .pick (.t 49) (.c (.v (.bool true))) (.t 63), none⟩,
    ⟨some 65, .mov (.t 64), none⟩,
    ⟨some 66, .faddr 0 (.t 2), some (65, false)⟩,
    ⟨some 67, .load 1 false (.t 66), some (65, false)⟩,
    ⟨some 68, .bin .gtr false (.t 67) (.c (.v (.int .i64 2))), some (65, false)⟩,
    ⟨some 69, .mov (.t 68), some (65, false)⟩,
    ⟨some 70, .faddr 1 (.t 2), some (69, true)⟩,
    ⟨some 71, .load 1 false (.t 70), some (69, true)⟩,
    ⟨some 72, .bin .neq false (.t 71) (.c (.v (.int .i64 0))), some (69, true)⟩,
    ⟨some 73, .pick (.t 69) (.t 72) (.c (.v (.bool false))), some (65, false)⟩,
    ⟨some 74, .pick (.t 65) (.c (.v (.bool true))) (.t 73), none⟩])
  (.cond (.t 74)
    (.seq (.ops [⟨some 4, .mov (.c (.v (.bool false))), none⟩])
    .ret)
    .skip))
  (.seq (.seq (.ops [⟨some 6, .mov (.c (.v (.int .i64 0))), none⟩])
  (.block 1 (.loop
    (.seq (.seq (.ops [⟨some 75, .mov (.t 6), none⟩,
      ⟨some 76, .mov (.t 5), none⟩,
      ⟨some 77, .bin .lss false (.t 75) (.t 76), none⟩])
    (.cond (.t 77)
      .skip
      (.exit 1)))
    (.seq (.block 2 (.seq (.ops [⟨some 80, .faddr 3 (.t 2), none⟩,
      ⟨some 81, .load 1 false (.t 80), none⟩,
      ⟨some 82, .mov (.t 6), none⟩,
      ⟨some 83, .iaddr 4 (.t 81) (.t 82), none⟩,
      ⟨some 84, .load 4 true (.t 83), none⟩,
      ⟨some 85, .mov (.t 1), none⟩,
      ⟨some 86, .call 35 [(.t 84), (.t 85)], none⟩,
      ⟨some 7, .mov (.t 86), none⟩])
    (.seq (.ops [⟨some 87, .mov (.t 7), none⟩,
      ⟨some 88, .un .not (.t 87), none⟩])
    (.cond (.t 88)
      (.seq (.ops [⟨some 4, .mov (.c (.v (.bool false))), none⟩])
      .ret)
      .skip))))
    (.ops [⟨some 78, .mov (.t 6), none⟩,
      ⟨some 79, .bin .add false (.t 78) (.c (.v (.int .i64 1))), none⟩,
      ⟨some 6, .mov (.t 79), none⟩]))))))
  (.seq (.ops [⟨some 4, .mov (.c (.v (.bool true))), none⟩])
  .ret)))))))⟩ := by kernel_rfl

set_option maxRecDepth 100000 in
theorem ir36 : compF Try.prog 36 = some ⟨105, [.t 2, .t 3, .t 4],
  (.seq (.ops [⟨some 1, .box (.t 0), none⟩,
    ⟨some 2, .mov (.c (.v (.int .i64 0))), none⟩,
    ⟨some 3, .mov (.c (.v (.int .i64 0))), none⟩,
    ⟨some 4, .mov (.c (.v (.int .i64 0))), none⟩])
  (.seq (.ops [⟨some 5, .mov (.c (.v (.int .i64 0))), none⟩])
  (.seq (.ops [⟨some 6, .mov (.c (.v (.int .i64 0))), none⟩])
  (.seq (.ops [⟨some 7, .mov (.c (.v (.int .i64 0))), none⟩])
  (.seq (.seq (.ops [⟨some 8, .mov (.c (.v (.int .i64 0))), none⟩])
  (.block 0 (.loop
    (.seq (.seq (.ops [⟨some 13, .mov (.t 8), none⟩,
      ⟨some 14, .faddr 3 (.t 1), none⟩,
      ⟨some 15, .load 1 false (.t 14), none⟩,
      ⟨some 16, .len false (.t 15), none⟩,
      ⟨some 17, .bin .lss false (.t 13) (.t 16), none⟩])
    (.cond (.t 17)
      .skip
      (.exit 0)))
    (.seq (.block 1 (.seq (.ops [⟨some 21, .faddr 3 (.t 1), none⟩,
      ⟨some 22, .load 1 false (.t 21), none⟩,
      ⟨some 23, .mov (.t 8), none⟩,
      ⟨some 24, .iaddr 4 (.t 22) (.t 23), none⟩,
      ⟨some 25, .load 4 true (.t 24), none⟩,
      ⟨some 26, .call 36 [(.t 25)], none⟩,
      ⟨some 20, .mov (.t 26), none⟩,
      ⟨some 27, .extract (.t 20) 0, none⟩,
      ⟨some 28, .extract (.t 20) 1, none⟩,
      ⟨some 29, .extract (.t 20) 2, none⟩,
      ⟨some 9, .mov (.t 27), none⟩,
      ⟨some 10, .mov (.t 28), none⟩,
      ⟨some 11, .mov (.t 29), none⟩])
    (.seq (.seq (.ops [⟨some 30, .mov (.t 10), none⟩,
      ⟨some 31, .bin .neq false (.t 30) (.c (.v (.int .i64 0))), none⟩])
    (.cond (.t 31)
      (.seq (.ops [⟨some 32, .mov (.t 10), none⟩,
        ⟨some 33, .mov (.t 11), none⟩,
        ⟨some 2, .mov (.c (.v (.int .i64 0))), none⟩,
        ⟨some 3, .mov (.t 32), none⟩,
        ⟨some 4, .mov (.t 33), none⟩])
      .ret)
      .skip))
    (.seq (.seq (.ops [⟨some 34, .mov (.t 9), none⟩,
      ⟨some 35, .bin .eql false (.t 34) (.c (.v (.int .i64 1))), none⟩])
    (.cond (.t 35)
      (.ops [⟨some 36, .mov (.t 5), none⟩,
        ⟨some 37, .bin .add false (.t 36) (.c (.v (.int .i64 1))), none⟩,
        ⟨some 5, .mov (.t 37), none⟩])
      .skip))
    (.seq (.seq (.ops [⟨some 38, .mov (.t 9), none⟩,
      ⟨some 39, .bin .eql false (.t 38) (.c (.v (.int .i64 2))), none⟩])
    (.cond (.t 39)
      (.ops [⟨some 40, .mov (.t 6), none⟩,
        ⟨some 41, .bin .add false (.t 40) (.c (.v (.int .i64 1))), none⟩,
        ⟨some 6, .mov (.t 41), none⟩])
      .skip))
    (.seq (.ops [⟨some 42, .mov (.t 9), none⟩,
      ⟨some 43, .bin .eql false (.t 42) (.c (.v (.int .i64 3))), none⟩])
    (.cond (.t 43)
      (.ops [⟨some 44, .mov (.t 7), none⟩,
        ⟨some 45, .bin .add false (.t 44) (.c (.v (.int .i64 1))), none⟩,
        ⟨some 7, .mov (.t 45), none⟩])
      .skip)))))))
    (.ops [⟨some 18, .mov (.t 8), none⟩,
      ⟨some 19, .bin .add false (.t 18) (.c (.v (.int .i64 1))), none⟩,
      ⟨some 8, .mov (.t 19), none⟩]))))))
  (.seq (.ops [⟨some 46, .faddr 3 (.t 1), none⟩,
    ⟨some 47, .load 1 false (.t 46), none⟩,
    ⟨some 48, .len false (.t 47), none⟩,
    ⟨some 12, .mov (.t 48), none⟩])
  (.seq (.seq (.ops [⟨some 49, .faddr 0 (.t 1), none⟩,
    ⟨some 50, .load 1 false (.t 49), none⟩,
    ⟨some 51, .bin .leq false (.t 50) (.c (.v (.int .i64 6))), none⟩,
    ⟨some 52, .mov (.t 51), none⟩,
    ⟨some 53, .mov (.t 5), some (52, true)⟩,
    ⟨some 54, .mov (.t 12), some (52, true)⟩,
    ⟨some 55, .bin .eql false (.t 53) (.t 54), some (52, true)⟩,
    ⟨some 56, .pick (.t 52) (.t 55) (.c (.v (.bool false))), none⟩])
  (.cond (.t 56)
    (.seq (.ops [⟨some 2, .mov (.c (.v (.int .i64 1))), none⟩,
      ⟨some 3, .mov (.c (.v (.int .i64 0))), none⟩,
      ⟨some 4, .mov (.c (.v (.int .i64 0))), none⟩])
    .ret)
    .skip))
  (.seq (.seq (.ops [⟨some 57, .faddr 0 (.t 1), none⟩,
    ⟨some 58, .load 1 false (.t 57), none⟩,
    ⟨some 59, .bin .geq false (.t 58) (.c (.v (.int .i64 7))), none⟩,
    ⟨some 60, .mov (.t 59), none⟩,
    ⟨some 61, .faddr 0 (.t 1), some (60, true)⟩,
    ⟨some 62, .load 1 false (.t 61), some (60, true)⟩,
    ⟨some 63, .bin .leq false (.t 62) (.c (.v (.int .i64 12))), some (60, true)⟩,
    ⟨some 64, .pick (.t 60) (.t 63) (.c (.v (.bool false))), none⟩,
    ⟨some 65, .mov (.t 64), none⟩,
    ⟨some 66, .mov (.t 5), some (65, true)⟩,
    ⟨some 67, .mov (.t 12), some (65, true)⟩,
    ⟨some 68, .bin .eql false (.t 66) (.t 67), some (65, true)⟩,
    ⟨some 69, .pick (.t 65) (.t 68) (.c (.v (.bool false))), none⟩,
    ⟨some 70, .mov (.t 69), none⟩,
    ⟨some 71, .faddr 0 (.t 1), some (70, false)⟩,
    ⟨some 72, .load 1 false (.t 71), some (70, false)⟩,
    ⟨some 73, .bin .eql false (.t 72) (.c (.v (.int .i64 13))), some (70, false)⟩,
    ⟨some 74, .pick (.t 70) (.c (.v (.bool true))) (.t 73), none⟩,
    ⟨some 75, .mov (.t 74), none⟩,
    ⟨some 76, .faddr 0 (.t 1), some (75, false)⟩,
    ⟨some 77, .load 1 false (.t 76), some (75, false)⟩,
    ⟨some 78, .bin .eql false (.t 77) (.c (.v (.int .i64 14))), some (75, false)⟩,
    ⟨some 79, .pick (.t 75) (.c (.v (.bool true))) (.t 78), none⟩])
  (.cond (.t 79)
    (.seq (.ops [⟨some 2, .mov (.c (.v (.int .i64 2))), none⟩,
      ⟨some 3, .mov (.c (.v (.int .i64 0))), none⟩,
      ⟨some 4, .mov (.c (.v (.int .i64 0))), none⟩])
    .ret)
    .skip))
  (.seq (.seq (.ops [⟨some 80, .faddr 0 (.t 1), none⟩,
    ⟨some 81, .load 1 false (.t 80), none⟩,
    ⟨some 82, .bin .geq false (.t 81) (.c (.v (.int .i64 15))), none⟩,
    ⟨some 83, .mov (.t 82), none⟩,
    ⟨some 84, .faddr 0 (.t 1), some (83, true)⟩,
    ⟨some 85, .load 1 false (.t 84), some (83, true)⟩,
    ⟨some 86, .bin .leq false (.t 85) (.c (.v (.int .i64 19))), some (83, true)⟩,
    ⟨some 87, .pick (.t 83) (.t 86) (.c (.v (.bool false))), none⟩,
    ⟨some 88, .mov (.t 87), none⟩,
    ⟨some 89, .mov (.t 6), some (88, true)⟩,
    ⟨some 90, .mov (.t 12), some (88, true)⟩,
    ⟨some 91, .bin .eql false (.t 89) (.t 90), some (88, true)⟩,
    ⟨some 92, .pick (.t 88) (.t 91) (.c (.v (.bool false))), none⟩])
  (.cond (.t 92)
    (.seq (.ops [⟨some 2, .mov (.c (.v (.int .i64 2))), none⟩,
      ⟨some 3, .mov (.c (.v (.int .i64 0))), none⟩,
      ⟨some 4, .mov (.c (.v (.int .i64 0))), none⟩])
    .ret)
    .skip))
  (.seq (.seq (.ops [⟨some 93, .faddr 0 (.t 1), none⟩,
    ⟨some 94, .load 1 false (.t 93), none⟩,
    ⟨some 95, .bin .geq false (.t 94) (.c (.v (.int .i64 15))), none⟩,
    ⟨some 96, .mov (.t 95), none⟩,
    ⟨some 97, .mov (.t 6), some (96, true)⟩,
    ⟨some 98, .mov (.t 7), some (96, true)⟩,
    ⟨some 99, .bin .add false (.t 97) (.t 98), some (96, true)⟩,
    ⟨some 100, .mov (.t 12), some (96, true)⟩,
    ⟨some 101, .bin .eql false (.t 99) (.t 100), some (96, true)⟩,
    ⟨some 102, .pick (.t 96) (.t 101) (.c (.v (.bool false))), none⟩])
  (.cond (.t 102)
    (.seq (.ops [⟨some 2, .mov (.c (.v (.int .i64 3))), none⟩,
      ⟨some 3, .mov (.c (.v (.int .i64 0))), none⟩,
      ⟨some 4, .mov (.c (.v (.int .i64 0))), none⟩])
    .ret)
    .skip))
  (.seq (.draw [[⟨some 103, .faddr 2 (.t 1), none⟩,
      ⟨some 104, .load 1 false (.t 103), none⟩,
      ⟨some 2, .mov (.c (.v (.int .i64 0))), none⟩,
      ⟨some 3, .mov (.c (.v (.int .i64 4))), none⟩],
    [⟨some 4, .mov (.t 104), none⟩]])
  .ret)))))))))))⟩ := by kernel_rfl

theorem ir37 : compF Try.prog 37 = some ⟨18, [.t 2],
  (.seq (.ops [⟨some 1, .box (.t 0), none⟩,
    ⟨some 2, .mov (.c (.v (.bool false))), none⟩])
  (.seq (.ops [⟨some 7, .load 4 true (.t 1), none⟩,
    ⟨some 8, .call 57 [(.t 7)], none⟩,
    ⟨some 6, .mov (.t 8), none⟩,
    ⟨some 9, .extract (.t 6) 0, none⟩,
    ⟨some 10, .extract (.t 6) 1, none⟩,
    ⟨some 11, .extract (.t 6) 2, none⟩,
    ⟨some 3, .mov (.t 9), none⟩,
    ⟨some 4, .mov (.t 10), none⟩,
    ⟨some 5, .mov (.t 11), none⟩])
  (.seq (.ops [⟨some 12, .mov (.t 4), none⟩,
    ⟨some 13, .bin .eql false (.t 12) (.c (.v (.int .i64 0))), none⟩,
    ⟨some 14, .mov (.t 13), none⟩,
    ⟨some 15, .mov (.t 3), some (14, true)⟩,
    ⟨some 16, .bin .eql false (.t 15) (.c (.v (.int .i64 2))), some (14, true)⟩,
    ⟨some 17, .pick (.t 14) (.t 16) (.c (.v (.bool false))), none⟩,
    ⟨some 2, .mov (.t 17), none⟩])
  .ret)))⟩ := by kernel_rfl

theorem ir38 : compF Try.prog 38 = some ⟨22, [.t 4],
  (.seq (.ops [⟨some 4, .mov (.c (.v (.slice none 0 0))), none⟩])
  (.seq (.ops [⟨some 7, .mov (.t 0), none⟩,
    ⟨some 8, .mksl 1 1 [(.v (.bool false))] (.t 7) (.t 7), none⟩,
    ⟨some 5, .mov (.t 8), none⟩])
  (.seq (.seq (.ops [⟨some 9, .mov (.t 5), none⟩,
    ⟨some 10, .len false (.t 9), none⟩,
    ⟨some 11, .mov (.c (.v (.int .i64 0))), none⟩])
  (.block 0 (.loop
    (.seq (.ops [⟨some 12, .bin .lss false (.t 11) (.t 10), none⟩])
    (.seq (.cond (.t 12)
      .skip
      (.exit 0))
    (.seq (.block 1 (.seq (.ops [⟨some 13, .mov (.t 11), none⟩,
      ⟨some 6, .mov (.t 13), none⟩])
    (.ops [⟨some 14, .mov (.t 5), none⟩,
      ⟨some 15, .mov (.t 6), none⟩,
      ⟨some 16, .mov (.t 1), none⟩,
      ⟨some 17, .mov (.t 6), none⟩,
      ⟨some 18, .calld (.t 16) [(.t 17)], none⟩,
      ⟨some 19, .iaddr 1 (.t 14) (.t 15), none⟩,
      ⟨none, .store 1 (.t 19) (.t 18), none⟩])))
    (.ops [⟨some 20, .bin .add false (.t 11) (.c (.v (.int .i64 1))), none⟩,
      ⟨some 11, .mov (.t 20), none⟩])))))))
  (.seq (.ops [⟨some 21, .mov (.t 5), none⟩,
    ⟨some 4, .mov (.t 21), none⟩])
  .ret))))⟩ := by kernel_rfl

theorem ir39 : compF Try.prog 39 = some ⟨13, [.t 4],
  (.seq (.ops [⟨some 4, .mov (.c (.v (.bool false))), none⟩])
  (.seq (.draw [[⟨some 5, .load 4 true (.t 1), none⟩,
      ⟨some 6, .faddr 0 (.t 2), none⟩,
      ⟨some 7, .load 1 false (.t 6), none⟩,
      ⟨some 8, .mov (.t 0), none⟩,
      ⟨some 9, .iaddr 1 (.t 7) (.t 8), none⟩,
      ⟨some 10, .load 1 false (.t 9), none⟩],
    [⟨some 11, .call 40 [(.t 5), (.t 10)], none⟩],
    [⟨some 12, .bin .eql false (.t 11) (.c (.v (.int .i64 1))), none⟩],
    [⟨some 4, .mov (.t 12), none⟩]])
  .ret))⟩ := by kernel_rfl

set_option maxRecDepth 100000 in
theorem ir40 : compF Try.prog 40 = some ⟨128, [.t 4],
  (.seq (.ops [⟨some 2, .box (.t 0), none⟩,
    ⟨some 4, .mov (.c (.v (.int .i64 0))), none⟩])
  (.seq (.ops [⟨some 5, .alloc (.agg [(.v (.int .i64 0)), (.v (.int .i64 0))]), none⟩])
  (.seq (.seq (.ops [⟨some 11, .faddr 3 (.t 2), none⟩,
    ⟨some 12, .load 1 false (.t 11), none⟩,
    ⟨some 13, .faddr 3 (.t 2), none⟩,
    ⟨some 14, .load 1 false (.t 13), none⟩,
    ⟨some 15, .len false (.t 14), none⟩,
    ⟨some 16, .mm false (.t 15) [(.c (.v (.int .i64 2)))], none⟩,
    ⟨some 17, .slice 4 (.t 12) none (some (.t 16)) none, none⟩,
    ⟨some 18, .len false (.t 17), none⟩,
    ⟨some 19, .mov (.c (.v (.int .i64 0))), none⟩])
  (.block 0 (.loop
    (.seq (.ops [⟨some 20, .bin .lss false (.t 19) (.t 18), none⟩])
    (.seq (.cond (.t 20)
      .skip
      (.exit 0))
    (.seq (.block 1 (.seq (.ops [⟨some 21, .mov (.t 19), none⟩,
      ⟨some 22, .iaddr 4 (.t 17) (.t 19), none⟩,
      ⟨some 23, .load 4 true (.t 22), none⟩,
      ⟨some 7, .alloc (.agg [(.v (.int .i64 0)), (.v (.int .i64 0)), (.v (.int .i64 0)), (.v (.slice none 0 0))]), none⟩,
      ⟨some 6, .mov (.t 21), none⟩,
      ⟨none, .store 4 (.t 7) (.t 23), none⟩])
    (.ops [⟨some 24, .mov (.t 6), none⟩,
      ⟨some 25, .load 4 true (.t 7), none⟩,
      ⟨some 26, .mov (.t 1), none⟩,
      ⟨some 27, .call 40 [(.t 25), (.t 26)], none⟩,
      ⟨some 28, .iaddrA 2 1 (.t 5) (.t 24), none⟩,
      ⟨none, .store 1 (.t 28) (.t 27), none⟩])))
    (.ops [⟨some 29, .bin .add false (.t 19) (.c (.v (.int .i64 1))), none⟩,
      ⟨some 19, .mov (.t 29), none⟩])))))))
  (.seq (.draw [[⟨some 30, .iaddrA 2 1 (.t 5) (.c (.v (.int .i64 0))), none⟩,
      ⟨some 31, .load 1 false (.t 30), none⟩,
      ⟨some 32, .iaddrA 2 1 (.t 5) (.c (.v (.int .i64 1))), none⟩,
      ⟨some 33, .load 1 false (.t 32), none⟩,
      ⟨some 8, .mov (.t 31), none⟩],
    [⟨some 9, .mov (.t 33), none⟩]])
  (.seq (.ops [⟨some 10, .mov (.c (.v (.bool false))), none⟩])
  (.seq (.seq (.ops [⟨some 34, .faddr 0 (.t 2), none⟩,
    ⟨some 35, .load 1 false (.t 34), none⟩])
  (.block 2 (.seq (.block 19 (.seq (.block 18 (.seq (.block 17 (.seq (.block 16 (.seq (.block 15 (.seq (.block 14 (.seq (.block 13 (.seq (.block 12 (.seq (.block 11 (.seq (.block 10 (.seq (.block 9 (.seq (.block 8 (.seq (.block 7 (.seq (.block 6 (.seq (.block 5 (.seq (.block 4 (.seq (.block 3 (.seq (.seq (.seq (.ops [⟨some 37, .bin .eql false (.t 35) (.c (.v (.int .i64 1))), none⟩,
    ⟨some 36, .mov (.t 37), none⟩])
  (.cond (.t 36)
    (.exit 3)
    .skip))
  (.seq (.seq (.ops [⟨some 39, .bin .eql false (.t 35) (.c (.v (.int .i64 2))), none⟩,
    ⟨some 38, .mov (.t 39), none⟩])
  (.cond (.t 38)
    (.exit 4)
    .skip))
  (.seq (.seq (.ops [⟨some 41, .bin .eql false (.t 35) (.c (.v (.int .i64 3))), none⟩,
    ⟨some 40, .mov (.t 41), none⟩])
  (.cond (.t 40)
    (.exit 5)
    .skip))
  (.seq (.seq (.ops [⟨some 43, .bin .eql false (.t 35) (.c (.v (.int .i64 5))), none⟩,
    ⟨some 42, .mov (.t 43), none⟩])
  (.cond (.t 42)
    (.exit 6)
    .skip))
  (.seq (.seq (.ops [⟨some 45, .bin .eql false (.t 35) (.c (.v (.int .i64 6))), none⟩,
    ⟨some 44, .mov (.t 45), none⟩])
  (.cond (.t 44)
    (.exit 7)
    .skip))
  (.seq (.seq (.ops [⟨some 47, .bin .eql false (.t 35) (.c (.v (.int .i64 4))), none⟩,
    ⟨some 46, .mov (.t 47), none⟩])
  (.cond (.t 46)
    (.exit 8)
    .skip))
  (.seq (.seq (.ops [⟨some 49, .bin .eql false (.t 35) (.c (.v (.int .i64 8))), none⟩,
    ⟨some 48, .mov (.t 49), none⟩])
  (.cond (.t 48)
    (.exit 9)
    .skip))
  (.seq (.seq (.seq (.ops [⟨some 51, .bin .eql false (.t 35) (.c (.v (.int .i64 7))), none⟩,
    ⟨some 50, .mov (.t 51), none⟩])
  (.cond (.t 50)
    .skip
    (.ops [⟨some 52, .bin .eql false (.t 35) (.c (.v (.int .i64 19))), none⟩,
      ⟨some 50, .mov (.t 52), none⟩])))
  (.cond (.t 50)
    (.exit 10)
    .skip))
  (.seq (.seq (.ops [⟨some 54, .bin .eql false (.t 35) (.c (.v (.int .i64 12))), none⟩,
    ⟨some 53, .mov (.t 54), none⟩])
  (.cond (.t 53)
    (.exit 11)
    .skip))
  (.seq (.seq (.ops [⟨some 56, .bin .eql false (.t 35) (.c (.v (.int .i64 9))), none⟩,
    ⟨some 55, .mov (.t 56), none⟩])
  (.cond (.t 55)
    (.exit 12)
    .skip))
  (.seq (.seq (.ops [⟨some 58, .bin .eql false (.t 35) (.c (.v (.int .i64 11))), none⟩,
    ⟨some 57, .mov (.t 58), none⟩])
  (.cond (.t 57)
    (.exit 13)
    .skip))
  (.seq (.seq (.ops [⟨some 60, .bin .eql false (.t 35) (.c (.v (.int .i64 10))), none⟩,
    ⟨some 59, .mov (.t 60), none⟩])
  (.cond (.t 59)
    (.exit 14)
    .skip))
  (.seq (.seq (.ops [⟨some 62, .bin .eql false (.t 35) (.c (.v (.int .i64 13))), none⟩,
    ⟨some 61, .mov (.t 62), none⟩])
  (.cond (.t 61)
    (.exit 15)
    .skip))
  (.seq (.seq (.ops [⟨some 64, .bin .eql false (.t 35) (.c (.v (.int .i64 15))), none⟩,
    ⟨some 63, .mov (.t 64), none⟩])
  (.cond (.t 63)
    (.exit 16)
    .skip))
  (.seq (.seq (.ops [⟨some 66, .bin .eql false (.t 35) (.c (.v (.int .i64 16))), none⟩,
    ⟨some 65, .mov (.t 66), none⟩])
  (.cond (.t 65)
    (.exit 17)
    .skip))
  (.seq (.seq (.ops [⟨some 68, .bin .eql false (.t 35) (.c (.v (.int .i64 17))), none⟩,
    ⟨some 67, .mov (.t 68), none⟩])
  (.cond (.t 67)
    (.exit 18)
    .skip))
  (.seq (.ops [⟨some 70, .bin .eql false (.t 35) (.c (.v (.int .i64 18))), none⟩,
    ⟨some 69, .mov (.t 70), none⟩])
  (.cond (.t 69)
    (.exit 19)
    .skip))))))))))))))))))
  (.exit 2)))
  (.seq (.seq (.ops [⟨some 71, .faddr 1 (.t 2), none⟩,
    ⟨some 72, .load 1 false (.t 71), none⟩,
    ⟨some 4, .mov (.t 72), none⟩])
  .ret)
  (.exit 2))))
  (.seq (.seq (.seq (.ops [⟨some 73, .faddr 1 (.t 2), none⟩,
    ⟨some 74, .load 1 false (.t 73), none⟩,
    ⟨some 75, .bin .lss false (.t 74) (.c (.v (.int .i64 0))), none⟩,
    ⟨some 76, .mov (.t 75), none⟩,
    ⟨some 77, .faddr 1 (.t 2), some (76, false)⟩,
    ⟨some 78, .load 1 false (.t 77), some (76, false)⟩,
    ⟨some 79, .mov (.t 1), some (76, false)⟩,
    ⟨some 80, .len false (.t 79), some (76, false)⟩,
    ⟨some 81, .bin .geq false (.t 78) (.t 80), some (76, false)⟩,
    ⟨some 82, .pick (.t 76) (.c (.v (.bool true))) (.t 81), none⟩])
  (.cond (.t 82)
    (.seq (.ops [⟨some 4, .mov (.c (.v (.int .i64 0))), none⟩])
    .ret)
    .skip))
  (.seq (.ops [⟨some 83, .mov (.t 1), none⟩,
    ⟨some 84, .faddr 1 (.t 2), none⟩,
    ⟨some 85, .load 1 false (.t 84), none⟩,
    ⟨some 86, .iaddr 1 (.t 83) (.t 85), none⟩,
    ⟨some 87, .load 1 false (.t 86), none⟩,
    ⟨some 4, .mov (.t 87), none⟩])
  .ret))
  (.exit 2))))
  (.seq (.seq (.ops [⟨some 88, .mov (.t 8), none⟩,
    ⟨some 89, .mov (.t 9), none⟩,
    ⟨some 90, .bin .add false (.t 88) (.t 89), none⟩,
    ⟨some 4, .mov (.t 90), none⟩])
  .ret)
  (.exit 2))))
  (.seq (.seq (.ops [⟨some 91, .mov (.t 8), none⟩,
    ⟨some 92, .mov (.t 9), none⟩,
    ⟨some 93, .bin .mul false (.t 91) (.t 92), none⟩,
    ⟨some 4, .mov (.t 93), none⟩])
  .ret)
  (.exit 2))))
  (.ops [⟨some 94, .mov (.t 8), none⟩,
    ⟨some 8, .mov (.c (.v (.int .i64 0))), none⟩,
    ⟨some 9, .mov (.t 94), none⟩])))
  (.seq (.seq (.ops [⟨some 95, .mov (.t 8), none⟩,
    ⟨some 96, .mov (.t 9), none⟩,
    ⟨some 97, .bin .sub false (.t 95) (.t 96), none⟩,
    ⟨some 4, .mov (.t 97), none⟩])
  .ret)
  (.exit 2))))
  (.ops [⟨some 10, .mov (.c (.v (.bool true))), none⟩])))
  (.seq (.seq (.ops [⟨some 98, .mov (.t 8), none⟩,
    ⟨some 99, .mov (.t 9), none⟩,
    ⟨some 100, .bin .eql false (.t 98) (.t 99), none⟩,
    ⟨some 101, .mov (.t 10), none⟩,
    ⟨some 102, .bin .neq true (.t 100) (.t 101), none⟩,
    ⟨some 103, .call 58 [(.t 102)], none⟩,
    ⟨some 4, .mov (.t 103), none⟩])
  .ret)
  (.exit 2))))
  (.ops [⟨some 10, .mov (.c (.v (.bool true))), none⟩])))
  (.seq (.seq (.ops [⟨some 104, .mov (.t 8), none⟩,
    ⟨some 105, .mov (.t 9), none⟩,
    ⟨some 106, .bin .lss false (.t 104) (.t 105), none⟩,
    ⟨some 107, .mov (.t 10), none⟩,
    ⟨some 108, .bin .neq true (.t 106) (.t 107), none⟩,
    ⟨some 109, .call 58 [(.t 108)], none⟩,
    ⟨some 4, .mov (.t 109), none⟩])
  .ret)
  (.exit 2))))
  (.ops [⟨some 10, .mov (.c (.v (.bool true))), none⟩])))
  (.seq (.seq (.ops [⟨some 110, .mov (.t 8), none⟩,
    ⟨some 111, .mov (.t 9), none⟩,
    ⟨some 112, .bin .leq false (.t 110) (.t 111), none⟩,
    ⟨some 113, .mov (.t 10), none⟩,
    ⟨some 114, .bin .neq true (.t 112) (.t 113), none⟩,
    ⟨some 115, .call 58 [(.t 114)], none⟩,
    ⟨some 4, .mov (.t 115), none⟩])
  .ret)
  (.exit 2))))
  (.seq (.seq (.ops [⟨some 4, .mov (.c (.v (.int .i64 1))), none⟩])
  .ret)
  (.exit 2))))
  (.seq (.seq (.ops [⟨some 116, .mov (.t 8), none⟩,
    ⟨some 117, .bin .sub false (.c (.v (.int .i64 1))) (.t 116), none⟩,
    ⟨some 4, .mov (.t 117), none⟩])
  .ret)
  (.exit 2))))
  (.seq (.seq (.ops [⟨some 118, .mov (.t 8), none⟩,
    ⟨some 119, .mov (.t 9), none⟩,
    ⟨some 120, .bin .mul false (.t 118) (.t 119), none⟩,
    ⟨some 4, .mov (.t 120), none⟩])
  .ret)
  (.exit 2))))
  (.seq (.seq (.ops [⟨some 121, .mov (.t 8), none⟩,
    ⟨some 122, .mov (.t 9), none⟩,
    ⟨some 123, .mm true (.t 121) [(.t 122)], none⟩,
    ⟨some 4, .mov (.t 123), none⟩])
  .ret)
  (.exit 2))))
  (.seq (.seq (.ops [⟨some 124, .mov (.t 8), none⟩,
    ⟨some 125, .bin .sub false (.c (.v (.int .i64 1))) (.t 124), none⟩,
    ⟨some 126, .mov (.t 9), none⟩,
    ⟨some 127, .mm true (.t 125) [(.t 126)], none⟩,
    ⟨some 4, .mov (.t 127), none⟩])
  .ret)
  (.exit 2)))))
  (.seq (.ops [⟨some 4, .mov (.c (.v (.int .i64 0))), none⟩])
  .ret)))))))⟩ := by kernel_rfl

theorem ir41 : compF Try.prog 41 = some ⟨7, [.t 3],
  (.seq (.ops [⟨some 2, .box (.t 0), none⟩,
    ⟨some 3, .mov (.c (.v (.slice none 0 0))), none⟩])
  (.seq (.ops [⟨some 4, .load 1 false (.t 1), none⟩,
    ⟨some 5, .mkfn (.func 42) [] [(.t 2)], none⟩,
    ⟨some 6, .call 38 [(.t 4), (.t 5)], none⟩,
    ⟨some 3, .mov (.t 6), none⟩])
  .ret))⟩ := by kernel_rfl

theorem ir42 : compF Try.prog 42 = some ⟨5, [.t 3],
  (.seq (.ops [⟨some 3, .mov (.c (.v (.bool false))), none⟩])
  (.seq (.ops [⟨some 4, .load 1 false (.t 1), none⟩,
    ⟨some 3, .mov (.t 4), none⟩])
  .ret))⟩ := by kernel_rfl

theorem ir43 : compF Try.prog 43 = some ⟨9, [.t 3],
  (.seq (.ops [⟨some 3, .mov (.c (.v (.bool false))), none⟩])
  (.seq (.ops [⟨some 4, .load 1 false (.t 1), none⟩,
    ⟨some 5, .mov (.t 0), none⟩,
    ⟨some 6, .iaddr 1 (.t 4) (.t 5), none⟩,
    ⟨some 7, .load 1 false (.t 6), none⟩,
    ⟨some 8, .un .not (.t 7), none⟩,
    ⟨some 3, .mov (.t 8), none⟩])
  .ret))⟩ := by kernel_rfl

theorem ir44 : compF Try.prog 44 = some ⟨15, [.t 4],
  (.seq (.ops [⟨some 4, .mov (.c (.v (.bool false))), none⟩])
  (.seq (.ops [⟨some 5, .load 1 false (.t 1), none⟩,
    ⟨some 6, .mov (.t 0), none⟩,
    ⟨some 7, .iaddr 1 (.t 5) (.t 6), none⟩,
    ⟨some 8, .load 1 false (.t 7), none⟩,
    ⟨some 9, .mov (.t 8), none⟩,
    ⟨some 10, .load 1 false (.t 2), some (9, true)⟩,
    ⟨some 11, .mov (.t 0), some (9, true)⟩,
    ⟨some 12, .iaddr 1 (.t 10) (.t 11), some (9, true)⟩,
    ⟨some 13, .load 1 false (.t 12), some (9, true)⟩,
    ⟨some 14, .pick (.t 9) (.t 13) (.c (.v (.bool false))), none⟩,
    ⟨some 4, .mov (.t 14), none⟩])
  .ret))⟩ := by kernel_rfl

theorem ir45 : compF Try.prog 45 = some ⟨15, [.t 4],
  (.seq (.ops [⟨some 4, .mov (.c (.v (.bool false))), none⟩])
  (.seq (.ops [⟨some 5, .load 1 false (.t 1), none⟩,
    ⟨some 6, .mov (.t 0), none⟩,
    ⟨some 7, .iaddr 1 (.t 5) (.t 6), none⟩,
    ⟨some 8, .load 1 false (.t 7), none⟩,
    ⟨some 9, .mov (.t 8), none⟩,
    ⟨some 10, .load 1 false (.t 2), some (9, false)⟩,
    ⟨some 11, .mov (.t 0), some (9, false)⟩,
    ⟨some 12, .iaddr 1 (.t 10) (.t 11), some (9, false)⟩,
    ⟨some 13, .load 1 false (.t 12), some (9, false)⟩,
    ⟨some 14, .pick (.t 9) (.c (.v (.bool true))) (.t 13), none⟩,
    ⟨some 4, .mov (.t 14), none⟩])
  .ret))⟩ := by kernel_rfl

theorem ir46 : compF Try.prog 46 = some ⟨16, [.t 4],
  (.seq (.ops [⟨some 4, .mov (.c (.v (.bool false))), none⟩])
  (.seq (.ops [⟨some 5, .load 1 false (.t 1), none⟩,
    ⟨some 6, .mov (.t 0), none⟩,
    ⟨some 7, .iaddr 1 (.t 5) (.t 6), none⟩,
    ⟨some 8, .load 1 false (.t 7), none⟩,
    ⟨some 9, .un .not (.t 8), none⟩,
    ⟨some 10, .mov (.t 9), none⟩,
    ⟨some 11, .load 1 false (.t 2), some (10, false)⟩,
    ⟨some 12, .mov (.t 0), some (10, false)⟩,
    ⟨some 13, .iaddr 1 (.t 11) (.t 12), some (10, false)⟩,
    ⟨some 14, .load 1 false (.t 13), some (10, false)⟩,
    ⟨some 15, .pick (.t 10) (.c (.v (.bool true))) (.t 14), none⟩,
    ⟨some 4, .mov (.t 15), none⟩])
  .ret))⟩ := by kernel_rfl

theorem ir47 : compF Try.prog 47 = some ⟨14, [.t 4],
  (.seq (.ops [⟨some 4, .mov (.c (.v (.bool false))), none⟩])
  (.seq (.draw [[⟨some 5, .load 1 false (.t 1), none⟩,
      ⟨some 6, .mov (.t 0), none⟩,
      ⟨some 7, .iaddr 1 (.t 5) (.t 6), none⟩,
      ⟨some 8, .load 1 false (.t 7), none⟩,
      ⟨some 9, .load 1 false (.t 2), none⟩,
      ⟨some 10, .mov (.t 0), none⟩,
      ⟨some 11, .iaddr 1 (.t 9) (.t 10), none⟩,
      ⟨some 12, .load 1 false (.t 11), none⟩],
    [⟨some 13, .bin .eql true (.t 8) (.t 12), none⟩],
    [⟨some 4, .mov (.t 13), none⟩]])
  .ret))⟩ := by kernel_rfl

theorem ir48 : compF Try.prog 48 = some ⟨11, [.t 4],
  (.seq (.ops [⟨some 4, .mov (.c (.v (.bool false))), none⟩])
  (.seq (.draw [[⟨some 5, .load 1 false (.t 1), none⟩,
      ⟨some 6, .load 2 true (.t 2), none⟩,
      ⟨some 7, .mov (.t 0), none⟩,
      ⟨some 8, .call 49 [(.t 6), (.t 7)], none⟩],
    [⟨some 9, .iaddr 1 (.t 5) (.t 8), none⟩],
    [⟨some 10, .load 1 false (.t 9), none⟩],
    [⟨some 4, .mov (.t 10), none⟩]])
  .ret))⟩ := by kernel_rfl

theorem ir49 : compF Try.prog 49 = some ⟨15, [.t 4],
  (.seq (.ops [⟨some 2, .box (.t 0), none⟩,
    ⟨some 4, .mov (.c (.v (.int .i64 0))), none⟩])
  (.seq (.seq (.ops [⟨some 5, .mov (.t 1), none⟩,
    ⟨some 6, .bin .add false (.t 5) (.c (.v (.int .i64 1))), none⟩,
    ⟨some 7, .faddr 0 (.t 2), none⟩,
    ⟨some 8, .load 1 false (.t 7), none⟩,
    ⟨some 9, .len false (.t 8), none⟩,
    ⟨some 10, .bin .eql false (.t 6) (.t 9), none⟩])
  (.cond (.t 10)
    (.seq (.ops [⟨some 11, .faddr 1 (.t 2), none⟩,
      ⟨some 12, .load 1 false (.t 11), none⟩,
      ⟨some 4, .mov (.t 12), none⟩])
    .ret)
    .skip))
  (.seq (.ops [⟨some 13, .mov (.t 1), none⟩,
    ⟨some 14, .bin .add false (.t 13) (.c (.v (.int .i64 1))), none⟩,
    ⟨some 4, .mov (.t 14), none⟩])
  .ret)))⟩ := by kernel_rfl

theorem ir50 : compF Try.prog 50 = some ⟨10, [.t 6],
  (.seq (.ops [⟨some 3, .box (.t 0), none⟩,
    ⟨some 4, .box (.t 1), none⟩,
    ⟨some 5, .box (.t 2), none⟩,
    ⟨some 6, .mov (.c (.v (.slice none 0 0))), none⟩])
  (.seq (.ops [⟨some 7, .load 2 true (.t 3), none⟩,
    ⟨some 8, .mkfn (.func 60) [] [(.t 5), (.t 4), (.t 3)], none⟩,
    ⟨some 9, .call 59 [(.t 7), (.c (.v (.bool false))), (.t 8)], none⟩,
    ⟨some 6, .mov (.t 9), none⟩])
  .ret))⟩ := by kernel_rfl

theorem ir51 : compF Try.prog 51 = some ⟨10, [.t 6],
  (.seq (.ops [⟨some 3, .box (.t 0), none⟩,
    ⟨some 4, .box (.t 1), none⟩,
    ⟨some 5, .box (.t 2), none⟩,
    ⟨some 6, .mov (.c (.v (.slice none 0 0))), none⟩])
  (.seq (.ops [⟨some 7, .load 2 true (.t 3), none⟩,
    ⟨some 8, .mkfn (.func 61) [] [(.t 5), (.t 4), (.t 3)], none⟩,
    ⟨some 9, .call 59 [(.t 7), (.c (.v (.bool true))), (.t 8)], none⟩,
    ⟨some 6, .mov (.t 9), none⟩])
  .ret))⟩ := by kernel_rfl

theorem ir52 : compF Try.prog 52 = some ⟨29, [.t 8],
  (.seq (.ops [⟨some 4, .box (.t 0), none⟩,
    ⟨some 8, .mov (.c (.v (.bool false))), none⟩])
  (.seq (.seq (.ops [⟨some 9, .mov (.c (.v (.int .i64 0))), none⟩])
  (.block 0 (.loop
    (.seq (.seq (.ops [⟨some 10, .mov (.t 9), none⟩,
      ⟨some 11, .faddr 0 (.t 4), none⟩,
      ⟨some 12, .load 1 false (.t 11), none⟩,
      ⟨some 13, .len false (.t 12), none⟩,
      ⟨some 14, .bin .leq false (.t 10) (.t 13), none⟩])
    (.cond (.t 14)
      .skip
      (.exit 0)))
    (.seq (.block 1 (.seq (.seq (.ops [⟨some 17, .mov (.t 3), none⟩,
      ⟨some 18, .mov (.t 1), none⟩,
      ⟨some 19, .iaddr 1 (.t 17) (.t 18), none⟩,
      ⟨some 20, .load 1 false (.t 19), none⟩])
    (.cond (.t 20)
      (.seq (.ops [⟨some 8, .mov (.c (.v (.bool true))), none⟩])
      .ret)
      .skip))
    (.seq (.seq (.ops [⟨some 21, .mov (.t 2), none⟩,
      ⟨some 22, .mov (.t 1), none⟩,
      ⟨some 23, .iaddr 1 (.t 21) (.t 22), none⟩,
      ⟨some 24, .load 1 false (.t 23), none⟩,
      ⟨some 25, .un .not (.t 24), none⟩])
    (.cond (.t 25)
      (.seq (.ops [⟨some 8, .mov (.c (.v (.bool false))), none⟩])
      .ret)
      .skip))
    (.ops [⟨some 26, .load 2 true (.t 4), none⟩,
      ⟨some 27, .mov (.t 1), none⟩,
      ⟨some 28, .call 22 [(.t 26), (.t 27)], none⟩,
      ⟨some 1, .mov (.t 28), none⟩]))))
    (.ops [⟨some 15, .mov (.t 9), none⟩,
      ⟨some 16, .bin .add false (.t 15) (.c (.v (.int .i64 1))), none⟩,
      ⟨some 9, .mov (.t 16), none⟩]))))))
  (.seq (.ops [⟨some 8, .mov (.c (.v (.bool false))), none⟩])
  .ret)))⟩ := by kernel_rfl

theorem ir53 : compF Try.prog 53 = some ⟨4, [.t 2],
  (.seq (.ops [⟨some 2, .mov (.c (.v (.int .i64 0))), none⟩])
  (.seq (.seq (.ops [⟨some 3, .mov (.t 0), none⟩])
  (.cond (.t 3)
    (.seq (.ops [⟨some 2, .mov (.c (.v (.int .i64 1))), none⟩])
    .ret)
    .skip))
  (.seq (.ops [⟨some 2, .mov (.c (.v (.int .i64 0))), none⟩])
  .ret)))⟩ := by kernel_rfl

theorem ir54 : compF Try.prog 54 = some ⟨15, [.c 4 4 true, .t 5],
  (.seq (.ops [⟨some 2, .box (.t 0), none⟩,
    ⟨some 4, .alloc (.agg [(.v (.int .i64 0)), (.v (.int .i64 0)), (.v (.int .i64 0)), (.v (.slice none 0 0))]), none⟩,
    ⟨some 5, .mov (.c (.v (.int .i64 0))), none⟩])
  (.seq (.ops [⟨some 6, .alloc (.v (.int .i64 0)), none⟩,
    ⟨none, .store 1 (.t 6) (.c (.v (.int .i64 24))), none⟩])
  (.seq (.ops [⟨some 8, .load 4 true (.t 2), none⟩,
    ⟨some 9, .mov (.t 1), none⟩,
    ⟨some 10, .call 62 [(.t 8), (.t 9), (.t 6)], none⟩,
    ⟨some 7, .alloc (.agg [(.v (.int .i64 0)), (.v (.int .i64 0)), (.v (.int .i64 0)), (.v (.slice none 0 0))]), none⟩,
    ⟨none, .store 4 (.t 7) (.t 10), none⟩])
  (.seq (.seq (.ops [⟨some 11, .load 1 false (.t 6), none⟩,
    ⟨some 12, .bin .lss false (.t 11) (.c (.v (.int .i64 0))), none⟩])
  (.cond (.t 12)
    (.seq (.ops [⟨some 13, .build [(.v (.int .i64 0)), (.v (.int .i64 0)), (.v (.int .i64 0)), (.v (.slice none 0 0))] [], none⟩,
      ⟨none, .store 4 (.t 4) (.t 13), none⟩,
      ⟨some 5, .mov (.c (.v (.int .i64 9))), none⟩])
    .ret)
    .skip))
  (.seq (.ops [⟨some 14, .load 4 true (.t 7), none⟩,
    ⟨none, .store 4 (.t 4) (.t 14), none⟩,
    ⟨some 5, .mov (.c (.v (.int .i64 0))), none⟩])
  .ret)))))⟩ := by kernel_rfl

theorem ir55 : compF Try.prog 55 = some ⟨33, [.t 4],
  (.seq (.ops [⟨some 2, .box (.t 0), none⟩,
    ⟨some 4, .mov (.c (.v (.int .i64 0))), none⟩])
  (.seq (.ops [⟨some 5, .mov (.c (.v (.int .i64 1))), none⟩])
  (.seq (.seq (.ops [⟨some 6, .mov (.c (.v (.int .i64 0))), none⟩])
  (.block 0 (.loop
    (.seq (.seq (.ops [⟨some 8, .mov (.t 6), none⟩,
      ⟨some 9, .faddr 3 (.t 2), none⟩,
      ⟨some 10, .load 1 false (.t 9), none⟩,
      ⟨some 11, .len false (.t 10), none⟩,
      ⟨some 12, .bin .lss false (.t 8) (.t 11), none⟩,
      ⟨some 13, .mov (.t 12), none⟩,
      ⟨some 14, .mov (.t 1), some (13, true)⟩,
      ⟨some 15, .bin .gtr false (.t 14) (.c (.v (.int .i64 1))), some (13, true)⟩,
      ⟨some 16, .pick (.t 13) (.t 15) (.c (.v (.bool false))), none⟩])
    (.cond (.t 16)
      .skip
      (.exit 0)))
    (.seq (.block 1 (.seq (.ops [⟨some 19, .faddr 3 (.t 2), none⟩,
      ⟨some 20, .load 1 false (.t 19), none⟩,
      ⟨some 21, .mov (.t 6), none⟩,
      ⟨some 22, .iaddr 4 (.t 20) (.t 21), none⟩,
      ⟨some 23, .load 4 true (.t 22), none⟩,
      ⟨some 24, .mov (.t 1), none⟩,
      ⟨some 25, .bin .sub false (.t 24) (.c (.v (.int .i64 1))), none⟩,
      ⟨some 26, .call 55 [(.t 23), (.t 25)], none⟩,
      ⟨some 27, .bin .add false (.c (.v (.int .i64 1))) (.t 26), none⟩,
      ⟨some 7, .mov (.t 27), none⟩])
    (.seq (.ops [⟨some 28, .mov (.t 7), none⟩,
      ⟨some 29, .mov (.t 5), none⟩,
      ⟨some 30, .bin .gtr false (.t 28) (.t 29), none⟩])
    (.cond (.t 30)
      (.ops [⟨some 31, .mov (.t 7), none⟩,
        ⟨some 5, .mov (.t 31), none⟩])
      .skip))))
    (.ops [⟨some 17, .mov (.t 6), none⟩,
      ⟨some 18, .bin .add false (.t 17) (.c (.v (.int .i64 1))), none⟩,
      ⟨some 6, .mov (.t 18), none⟩]))))))
  (.seq (.ops [⟨some 32, .mov (.t 5), none⟩,
    ⟨some 4, .mov (.t 32), none⟩])
  .ret))))⟩ := by kernel_rfl

theorem ir56 : compF Try.prog 56 = some ⟨29, [.t 4],
  (.seq (.ops [⟨some 2, .box (.t 0), none⟩,
    ⟨some 4, .mov (.c (.v (.int .i64 0))), none⟩])
  (.seq (.ops [⟨some 5, .mov (.c (.v (.int .i64 1))), none⟩])
  (.seq (.seq (.ops [⟨some 6, .mov (.c (.v (.int .i64 0))), none⟩])
  (.block 0 (.loop
    (.seq (.seq (.ops [⟨some 7, .mov (.t 6), none⟩,
      ⟨some 8, .faddr 3 (.t 2), none⟩,
      ⟨some 9, .load 1 false (.t 8), none⟩,
      ⟨some 10, .len false (.t 9), none⟩,
      ⟨some 11, .bin .lss false (.t 7) (.t 10), none⟩,
      ⟨some 12, .mov (.t 11), none⟩,
      ⟨some 13, .mov (.t 5), some (12, true)⟩,
      ⟨some 14, .mov (.t 1), some (12, true)⟩,
      ⟨some 15, .bin .lss false (.t 13) (.t 14), some (12, true)⟩,
      ⟨some 16, .pick (.t 12) (.t 15) (.c (.v (.bool false))), none⟩])
    (.cond (.t 16)
      .skip
      (.exit 0)))
    (.seq (.block 1 (.ops [⟨some 19, .mov (.t 5), none⟩,
      ⟨some 20, .faddr 3 (.t 2), none⟩,
      ⟨some 21, .load 1 false (.t 20), none⟩,
      ⟨some 22, .mov (.t 6), none⟩,
      ⟨some 23, .iaddr 4 (.t 21) (.t 22), none⟩,
      ⟨some 24, .load 4 true (.t 23), none⟩,
      ⟨some 25, .mov (.t 1), none⟩,
      ⟨some 26, .call 56 [(.t 24), (.t 25)], none⟩,
      ⟨some 27, .bin .add false (.t 19) (.t 26), none⟩,
      ⟨some 5, .mov (.t 27), none⟩]))
    (.ops [⟨some 17, .mov (.t 6), none⟩,
      ⟨some 18, .bin .add false (.t 17) (.c (.v (.int .i64 1))), none⟩,
      ⟨some 6, .mov (.t 18), none⟩]))))))
  (.seq (.ops [⟨some 28, .mov (.t 5), none⟩,
    ⟨some 4, .mov (.t 28), none⟩])
  .ret))))⟩ := by kernel_rfl

set_option maxRecDepth 100000 in
theorem ir57 : compF Try.prog 57 = some ⟨91, [.t 2, .t 3, .t 4],
  (.seq (.ops [⟨some 1, .box (.t 0), none⟩,
    ⟨some 2, .mov (.c (.v (.int .i64 0))), none⟩,
    ⟨some 3, .mov (.c (.v (.int .i64 0))), none⟩,
    ⟨some 4, .mov (.c (.v (.int .i64 0))), none⟩])
  (.seq (.ops [⟨some 5, .mov (.c (.v (.bool true))), none⟩,
    ⟨some 6, .mov (.c (.v (.bool true))), none⟩,
    ⟨some 7, .mov (.c (.v (.bool true))), none⟩])
  (.seq (.seq (.ops [⟨some 13, .faddr 3 (.t 1), none⟩,
    ⟨some 14, .load 1 false (.t 13), none⟩,
    ⟨some 15, .len false (.t 14), none⟩,
    ⟨some 16, .mov (.c (.v (.int .i64 0))), none⟩])
  (.block 0 (.loop
    (.seq (.ops [⟨some 17, .bin .lss false (.t 16) (.t 15), none⟩])
    (.seq (.cond (.t 17)
      .skip
      (.exit 0))
    (.seq (.block 1 (.seq (.ops [⟨some 18, .iaddr 4 (.t 14) (.t 16), none⟩,
      ⟨some 19, .load 4 true (.t 18), none⟩,
      ⟨some 9, .alloc (.agg [(.v (.int .i64 0)), (.v (.int .i64 0)), (.v (.int .i64 0)), (.v (.slice none 0 0))]), none⟩,
      ⟨none, .store 4 (.t 9) (.t 19), none⟩])
    (.seq (.ops [⟨some 21, .load 4 true (.t 9), none⟩,
      ⟨some 22, .call 57 [(.t 21)], none⟩,
      ⟨some 20, .mov (.t 22), none⟩,
      ⟨some 23, .extract (.t 20) 0, none⟩,
      ⟨some 24, .extract (.t 20) 1, none⟩,
      ⟨some 25, .extract (.t 20) 2, none⟩,
      ⟨some 10, .mov (.t 23), none⟩,
      ⟨some 11, .mov (.t 24), none⟩,
      ⟨some 12, .mov (.t 25), none⟩])
    (.seq (.seq (.ops [⟨some 26, .mov (.t 11), none⟩,
      ⟨some 27, .bin .neq false (.t 26) (.c (.v (.int .i64 0))), none⟩])
    (.cond (.t 27)
      (.seq (.ops [⟨some 28, .mov (.t 11), none⟩,
        ⟨some 29, .mov (.t 12), none⟩,
        ⟨some 2, .mov (.c (.v (.int .i64 0))), none⟩,
        ⟨some 3, .mov (.t 28), none⟩,
        ⟨some 4, .mov (.t 29), none⟩])
      .ret)
      .skip))
    (.seq (.ops [⟨some 30, .mov (.t 5), none⟩,
      ⟨some 31, .mov (.t 30), none⟩,
      ⟨some 32, .mov (.t 10), some (31, true)⟩,
      ⟨some 33, .bin .eql false (.t 32) (.c (.v (.int .i64 1))), some (31, true)⟩,
      ⟨some 34, .pick (.t 31) (.t 33) (.c (.v (.bool false))), none⟩,
      ⟨some 5, .mov (.t 34), none⟩])
    (.seq (.ops [⟨some 35, .mov (.t 6), none⟩,
      ⟨some 36, .mov (.t 35), none⟩,
      ⟨some 37, .mov (.t 10), some (36, true)⟩,
      ⟨some 38, .bin .eql false (.t 37) (.c (.v (.int .i64 2))), some (36, true)⟩,
      ⟨some 39, .pick (.t 36) (.t 38) (.c (.v (.bool false))), none⟩,
      ⟨some 6, .mov (.t 39), none⟩])
    (.ops [⟨some 40, .mov (.t 7), none⟩,
      ⟨some 41, .mov (.t 40), none⟩,
      ⟨some 42, .mov (.t 10), some (41, true)⟩,
      ⟨some 43, .bin .neq false (.t 42) (.c (.v (.int .i64 1))), some (41, true)⟩,
      ⟨some 44, .pick (.t 41) (.t 43) (.c (.v (.bool false))), none⟩,
      ⟨some 7, .mov (.t 44), none⟩])))))))
    (.ops [⟨some 45, .bin .add false (.t 16) (.c (.v (.int .i64 1))), none⟩,
      ⟨some 16, .mov (.t 45), none⟩])))))))
  (.seq (.block 2 (.seq (.ops [⟨some 47, .faddr 0 (.t 1), none⟩,
    ⟨some 48, .load 1 false (.t 47), none⟩,
    ⟨some 49, .bin .leq false (.t 48) (.c (.v (.int .i64 6))), none⟩,
    ⟨some 50, .mov (.t 49), none⟩,
    ⟨some 51, .mov (.t 5), some (50, true)⟩,
    ⟨some 52, .pick (.t 50) (.t 51) (.c (.v (.bool false))), none⟩,
    ⟨some 46, .mov (.t 52), none⟩])
  (.cond (.t 46)
    (.seq (.ops [⟨some 2, .mov (.c (.v (.int .i64 1))), none⟩,
      ⟨some 3, .mov (.c (.v (.int .i64 0))), none⟩,
      ⟨some 4, .mov (.c (.v (.int .i64 0))), none⟩])
    .ret)
    (.seq (.seq (.ops [⟨some 54, .faddr 0 (.t 1), none⟩,
      ⟨some 55, .load 1 false (.t 54), none⟩,
      ⟨some 56, .bin .gtr false (.t 55) (.c (.v (.int .i64 6))), none⟩,
      ⟨some 57, .mov (.t 56), none⟩,
      ⟨some 58, .faddr 0 (.t 1), some (57, true)⟩,
      ⟨some 59, .load 1 false (.t 58), some (57, true)⟩,
      ⟨some 60, .bin .leq false (.t 59) (.c (.v (.int .i64 12))), some (57, true)⟩,
      ⟨some 61, .pick (.t 57) (.t 60) (.c (.v (.bool false))), none⟩,
      ⟨some 62, .mov (.t 61), none⟩,
      ⟨some 63, .mov (.t 5), some (62, true)⟩,
      ⟨some 64, .pick (.t 62) (.t 63) (.c (.v (.bool false))), none⟩,
      ⟨some 53, .mov (.t 64), none⟩])
    (.cond (.t 53)
      .skip
      (.seq (.ops [⟨some 65, .faddr 0 (.t 1), none⟩,
        ⟨some 66, .load 1 false (.t 65), none⟩,
        ⟨some 67, .bin .eql false (.t 66) (.c (.v (.int .i64 13))), none⟩,
        ⟨some 53, .mov (.t 67), none⟩])
      (.cond (.t 53)
        .skip
        (.seq (.ops [⟨some 68, .faddr 0 (.t 1), none⟩,
          ⟨some 69, .load 1 false (.t 68), none⟩,
          ⟨some 70, .bin .eql false (.t 69) (.c (.v (.int .i64 14))), none⟩,
          ⟨some 53, .mov (.t 70), none⟩])
        (.cond (.t 53)
          .skip
          (.ops [⟨some 71, .faddr 0 (.t 1), none⟩,
            ⟨some 72, .load 1 false (.t 71), none⟩,
            ⟨some 73, .bin .geq false (.t 72) (.c (.v (.int .i64 15))), none⟩,
            ⟨some 74, .mov (.t 73), none⟩,
            ⟨some 75, .faddr 0 (.t 1), some (74, true)⟩,
            ⟨some 76, .load 1 false (.t 75), some (74, true)⟩,
            ⟨some 77, .bin .leq false (.t 76) (.c (.v (.int .i64 19))), some (74, true)⟩,
            ⟨some 78, .pick (.t 74) (.t 77) (.c (.v (.bool false))), none⟩,
            ⟨some 79, .mov (.t 78), none⟩,
            ⟨some 80, .mov (.t 6), some (79, true)⟩,
            ⟨some 81, .pick (.t 79) (.t 80) (.c (.v (.bool false))), none⟩,
            ⟨some 53, .mov (.t 81), none⟩])))))))
    (.cond (.t 53)
      (.seq (.ops [⟨some 2, .mov (.c (.v (.int .i64 2))), none⟩,
        ⟨some 3, .mov (.c (.v (.int .i64 0))), none⟩,
        ⟨some 4, .mov (.c (.v (.int .i64 0))), none⟩])
      .ret)
      (.seq (.ops [⟨some 83, .faddr 0 (.t 1), none⟩,
        ⟨some 84, .load 1 false (.t 83), none⟩,
        ⟨some 85, .bin .geq false (.t 84) (.c (.v (.int .i64 15))), none⟩,
        ⟨some 86, .mov (.t 85), none⟩,
        ⟨some 87, .mov (.t 7), some (86, true)⟩,
        ⟨some 88, .pick (.t 86) (.t 87) (.c (.v (.bool false))), none⟩,
        ⟨some 82, .mov (.t 88), none⟩])
      (.cond (.t 82)
        (.seq (.ops [⟨some 2, .mov (.c (.v (.int .i64 3))), none⟩,
          ⟨some 3, .mov (.c (.v (.int .i64 0))), none⟩,
          ⟨some 4, .mov (.c (.v (.int .i64 0))), none⟩])
        .ret)
        .skip)))))))
  (.seq (.draw [[⟨some 89, .faddr 2 (.t 1), none⟩,
      ⟨some 90, .load 1 false (.t 89), none⟩,
      ⟨some 2, .mov (.c (.v (.int .i64 0))), none⟩,
      ⟨some 3, .mov (.c (.v (.int .i64 4))), none⟩],
    [⟨some 4, .mov (.t 90), none⟩]])
  .ret)))))⟩ := by kernel_rfl

theorem ir58 : compF Try.prog 58 = some ⟨4, [.t 2],
  (.seq (.ops [⟨some 2, .mov (.c (.v (.int .i64 0))), none⟩])
  (.seq (.seq (.ops [⟨some 3, .mov (.t 0), none⟩])
  (.cond (.t 3)
    (.seq (.ops [⟨some 2, .mov (.c (.v (.int .i64 1))), none⟩])
    .ret)
    .skip))
  (.seq (.ops [⟨some 2, .mov (.c (.v (.int .i64 0))), none⟩])
  .ret)))⟩ := by kernel_rfl

theorem ir59 : compF Try.prog 59 = some ⟨25, [.t 6],
  (.seq (.ops [⟨some 3, .box (.t 0), none⟩,
    ⟨some 4, .box (.t 1), none⟩,
    ⟨some 5, .box (.t 2), none⟩,
    ⟨some 6, .mov (.c (.v (.slice none 0 0))), none⟩])
  (.scope 0 (.seq (.ops [⟨some 9, .faddr 0 (.t 3), none⟩,
    ⟨some 10, .load 1 false (.t 9), none⟩,
    ⟨some 11, .len false (.t 10), none⟩,
    ⟨some 12, .mkfn (.func 63) [] [(.t 4)], none⟩,
    ⟨some 13, .call 38 [(.t 11), (.t 12)], none⟩,
    ⟨some 7, .alloc (.v (.slice none 0 0)), none⟩,
    ⟨none, .store 1 (.t 7) (.t 13), none⟩])
  (.seq (.label 0)
  (.seq (.ops [⟨some 14, .faddr 0 (.t 3), none⟩,
    ⟨some 15, .load 1 false (.t 14), none⟩,
    ⟨some 16, .len false (.t 15), none⟩,
    ⟨some 17, .mkfn (.func 64) [] [(.t 5), (.t 7)], none⟩,
    ⟨some 18, .call 38 [(.t 16), (.t 17)], none⟩,
    ⟨some 8, .mov (.t 18), none⟩])
  (.seq (.seq (.ops [⟨some 19, .load 1 false (.t 7), none⟩,
    ⟨some 20, .mov (.t 8), none⟩,
    ⟨some 21, .call 65 [(.t 19), (.t 20)], none⟩,
    ⟨some 22, .un .not (.t 21), none⟩])
  (.cond (.t 22)
    (.seq (.ops [⟨some 23, .mov (.t 8), none⟩,
      ⟨none, .store 1 (.t 7) (.t 23), none⟩])
    (.goto 0))
    .skip))
  (.seq (.ops [⟨some 24, .load 1 false (.t 7), none⟩,
    ⟨some 6, .mov (.t 24), none⟩])
  .ret)))))
    (.seq .skip
    (.seq (.ops [⟨some 14, .faddr 0 (.t 3), none⟩,
      ⟨some 15, .load 1 false (.t 14), none⟩,
      ⟨some 16, .len false (.t 15), none⟩,
      ⟨some 17, .mkfn (.func 64) [] [(.t 5), (.t 7)], none⟩,
      ⟨some 18, .call 38 [(.t 16), (.t 17)], none⟩,
      ⟨some 8, .mov (.t 18), none⟩])
    (.seq (.seq (.ops [⟨some 19, .load 1 false (.t 7), none⟩,
      ⟨some 20, .mov (.t 8), none⟩,
      ⟨some 21, .call 65 [(.t 19), (.t 20)], none⟩,
      ⟨some 22, .un .not (.t 21), none⟩])
    (.cond (.t 22)
      (.seq (.ops [⟨some 23, .mov (.t 8), none⟩,
        ⟨none, .store 1 (.t 7) (.t 23), none⟩])
      (.goto 0))
      .skip))
    (.seq (.ops [⟨some 24, .load 1 false (.t 7), none⟩,
      ⟨some 6, .mov (.t 24), none⟩])
    .ret))))))⟩ := by kernel_rfl

theorem ir60 : compF Try.prog 60 = some ⟨26, [.t 7],
  (.seq (.ops [⟨some 7, .mov (.c (.v (.bool false))), none⟩])
  (.seq (.ops [⟨some 8, .load 1 false (.t 2), none⟩,
    ⟨some 9, .mov (.t 0), none⟩,
    ⟨some 10, .iaddr 1 (.t 8) (.t 9), none⟩,
    ⟨some 11, .load 1 false (.t 10), none⟩,
    ⟨some 12, .mov (.t 11), none⟩,
    ⟨some 13, .load 1 false (.t 3), some (12, false)⟩,
    ⟨some 14, .mov (.t 0), some (12, false)⟩,
    ⟨some 15, .iaddr 1 (.t 13) (.t 14), some (12, false)⟩,
    ⟨some 16, .load 1 false (.t 15), some (12, false)⟩,
    ⟨some 17, .mov (.t 16), some (12, false)⟩,
    ⟨some 18, .mov (.t 1), some (17, true)⟩,
    ⟨some 19, .load 2 true (.t 4), some (17, true)⟩,
    ⟨some 20, .mov (.t 0), some (17, true)⟩,
    ⟨some 21, .call 49 [(.t 19), (.t 20)], some (17, true)⟩,
    ⟨some 22, .iaddr 1 (.t 18) (.t 21), some (17, true)⟩,
    ⟨some 23, .load 1 false (.t 22), some (17, true)⟩,
    ⟨some 24, .pick (.t 17) (.t 23) (.c (.v (.bool false))), some (12, false)⟩,
    ⟨some 25, .pick (.t 12) (.c (.v (.bool true))) (.t 24), none⟩,
    ⟨some 7, .mov (.t 25), none⟩])
  .ret))⟩ := by kernel_rfl

theorem ir61 : compF Try.prog 61 = some ⟨26, [.t 7],
  (.seq (.ops [⟨some 7, .mov (.c (.v (.bool false))), none⟩])
  (.seq (.ops [⟨some 8, .load 1 false (.t 2), none⟩,
    ⟨some 9, .mov (.t 0), none⟩,
    ⟨some 10, .iaddr 1 (.t 8) (.t 9), none⟩,
    ⟨some 11, .load 1 false (.t 10), none⟩,
    ⟨some 12, .mov (.t 11), none⟩,
    ⟨some 13, .load 1 false (.t 3), some (12, true)⟩,
    ⟨some 14, .mov (.t 0), some (12, true)⟩,
    ⟨some 15, .iaddr 1 (.t 13) (.t 14), some (12, true)⟩,
    ⟨some 16, .load 1 false (.t 15), some (12, true)⟩,
    ⟨some 17, .mov (.t 16), some (12, true)⟩,
    ⟨some 18, .mov (.t 1), some (17, false)⟩,
    ⟨some 19, .load 2 true (.t 4), some (17, false)⟩,
    ⟨some 20, .mov (.t 0), some (17, false)⟩,
    ⟨some 21, .call 49 [(.t 19), (.t 20)], some (17, false)⟩,
    ⟨some 22, .iaddr 1 (.t 18) (.t 21), some (17, false)⟩,
    ⟨some 23, .load 1 false (.t 22), some (17, false)⟩,
    ⟨some 24, .pick (.t 17) (.c (.v (.bool true))) (.t 23), some (12, true)⟩,
    ⟨some 25, .pick (.t 12) (.t 24) (.c (.v (.bool false))), none⟩,
    ⟨some 7, .mov (.t 25), none⟩])
  .ret))⟩ := by kernel_rfl

set_option maxRecDepth 100000 in
theorem ir62 : compF Try.prog 62 = some ⟨136, [.c 6 4 true],
  (.seq (.ops [⟨some 3, .box (.t 0), none⟩,
    ⟨some 4, .box (.t 1), none⟩,
    ⟨some 5, .box (.t 2), none⟩,
    ⟨some 6, .alloc (.agg [(.v (.int .i64 0)), (.v (.int .i64 0)), (.v (.int .i64 0)), (.v (.slice none 0 0))]), none⟩])
  (.seq (.ops [⟨some 12, .load 1 false (.t 5), none⟩,
    ⟨some 13, .nilchk (.t 12), none⟩,
    ⟨some 14, .load 1 false (.t 13), none⟩,
    ⟨some 15, .bin .sub false (.t 14) (.c (.v (.int .i64 1))), none⟩,
    ⟨some 16, .nilchk (.t 12), none⟩,
    ⟨none, .store 1 (.t 16) (.t 15), none⟩])
  (.seq (.seq (.ops [⟨some 17, .load 1 false (.t 5), none⟩,
    ⟨some 18, .nilchk (.t 17), none⟩,
    ⟨some 19, .load 1 false (.t 18), none⟩,
    ⟨some 20, .bin .lss false (.t 19) (.c (.v (.int .i64 0))), none⟩])
  (.cond (.t 20)
    (.seq (.ops [⟨some 21, .build [(.v (.int .i64 0)), (.v (.int .i64 0)), (.v (.int .i64 0)), (.v (.slice none 0 0))] [], none⟩,
      ⟨none, .store 4 (.t 6) (.t 21), none⟩])
    .ret)
    .skip))
  (.seq (.seq (.ops [⟨some 22, .load 4 true (.t 3), none⟩,
    ⟨some 23, .call 66 [(.t 22)], none⟩])
  (.cond (.t 23)
    (.seq (.seq (.ops [⟨some 24, .load 1 false (.t 4), none⟩])
    (.cond (.t 24)
      (.seq (.ops [⟨some 25, .faddr 2 (.t 3), none⟩,
        ⟨some 26, .load 1 false (.t 25), none⟩,
        ⟨some 27, .load 4 true (.t 3), none⟩,
        ⟨some 28, .bslice 4 [(.v (.int .i64 0)), (.v (.int .i64 0)), (.v (.int .i64 0)), (.v (.slice none 0 0))] 1 [(0, 4, (.t 27))], none⟩,
        ⟨some 29, .build [(.v (.int .i64 0)), (.v (.int .i64 0)), (.v (.int .i64 0)), (.v (.slice none 0 0))] [(0, 1, (.c (.v (.int .i64 15)))), (2, 1, (.t 26)), (3, 1, (.t 28))], none⟩,
        ⟨none, .store 4 (.t 6) (.t 29), none⟩])
      .ret)
      .skip))
    (.seq (.ops [⟨some 30, .load 4 true (.t 3), none⟩,
      ⟨none, .store 4 (.t 6) (.t 30), none⟩])
    .ret))
    .skip))
  (.seq (.ops [⟨some 31, .mkfn (.func 67) [] [(.t 3), (.t 5)], none⟩,
    ⟨some 7, .alloc (.v .nilFunc), none⟩,
    ⟨none, .store 1 (.t 7) (.t 31), none⟩])
  (.seq (.ops [⟨some 32, .mkfn (.func 68) [] [(.t 4), (.t 3)], none⟩,
    ⟨some 8, .mov (.t 32), none⟩])
  (.seq (.ops [⟨some 33, .mkfn (.func 69) [] [(.t 5), (.t 4), (.t 3)], none⟩,
    ⟨some 9, .mov (.t 33), none⟩])
  (.seq (.ops [⟨some 34, .load 1 false (.t 4), none⟩,
    ⟨some 10, .mov (.t 34), none⟩])
  (.seq (.seq (.ops [⟨some 35, .faddr 0 (.t 3), none⟩,
    ⟨some 36, .load 1 false (.t 35), none⟩])
  (.block 0 (.seq (.block 9 (.seq (.block 8 (.seq (.block 7 (.seq (.block 6 (.seq (.block 5 (.seq (.block 4 (.seq (.block 3 (.seq (.block 2 (.seq (.block 1 (.seq (.seq (.seq (.ops [⟨some 38, .bin .eql false (.t 36) (.c (.v (.int .i64 15))), none⟩,
    ⟨some 37, .mov (.t 38), none⟩])
  (.cond (.t 37)
    (.exit 1)
    .skip))
  (.seq (.seq (.ops [⟨some 40, .bin .eql false (.t 36) (.c (.v (.int .i64 18))), none⟩,
    ⟨some 39, .mov (.t 40), none⟩])
  (.cond (.t 39)
    (.exit 2)
    .skip))
  (.seq (.seq (.ops [⟨some 42, .bin .eql false (.t 36) (.c (.v (.int .i64 17))), none⟩,
    ⟨some 41, .mov (.t 42), none⟩])
  (.cond (.t 41)
    (.exit 3)
    .skip))
  (.seq (.seq (.ops [⟨some 44, .bin .eql false (.t 36) (.c (.v (.int .i64 16))), none⟩,
    ⟨some 43, .mov (.t 44), none⟩])
  (.cond (.t 43)
    (.exit 4)
    .skip))
  (.seq (.seq (.ops [⟨some 46, .bin .eql false (.t 36) (.c (.v (.int .i64 19))), none⟩,
    ⟨some 45, .mov (.t 46), none⟩])
  (.cond (.t 45)
    (.exit 5)
    .skip))
  (.seq (.seq (.ops [⟨some 48, .bin .eql false (.t 36) (.c (.v (.int .i64 20))), none⟩,
    ⟨some 47, .mov (.t 48), none⟩])
  (.cond (.t 47)
    (.exit 6)
    .skip))
  (.seq (.seq (.ops [⟨some 50, .bin .eql false (.t 36) (.c (.v (.int .i64 21))), none⟩,
    ⟨some 49, .mov (.t 50), none⟩])
  (.cond (.t 49)
    (.exit 7)
    .skip))
  (.seq (.seq (.ops [⟨some 52, .bin .eql false (.t 36) (.c (.v (.int .i64 22))), none⟩,
    ⟨some 51, .mov (.t 52), none⟩])
  (.cond (.t 51)
    (.exit 8)
    .skip))
  (.seq (.ops [⟨some 54, .bin .eql false (.t 36) (.c (.v (.int .i64 23))), none⟩,
    ⟨some 53, .mov (.t 54), none⟩])
  (.cond (.t 53)
    (.exit 9)
    .skip))))))))))
  (.exit 0)))
  (.seq (.seq (.ops [⟨some 55, .load 1 false (.t 5), none⟩,
    ⟨some 56, .nilchk (.t 55), none⟩,
    ⟨some 57, .load 1 false (.t 56), none⟩,
    ⟨some 58, .bin .add false (.t 57) (.c (.v (.int .i64 1))), none⟩,
    ⟨some 59, .nilchk (.t 55), none⟩,
    ⟨none, .store 1 (.t 59) (.t 58), none⟩])
  (.seq (.ops [⟨some 60, .load 1 false (.t 7), none⟩,
    ⟨some 61, .load 1 false (.t 4), none⟩,
    ⟨some 62, .un .not (.t 61), none⟩,
    ⟨some 63, .calld (.t 60) [(.c (.v (.int .i64 0))), (.t 62)], none⟩,
    ⟨none, .store 4 (.t 6) (.t 63), none⟩])
  .ret))
  (.exit 0))))
  (.ops [⟨some 64, .load 1 false (.t 4), none⟩,
    ⟨some 65, .un .not (.t 64), none⟩,
    ⟨some 10, .mov (.t 65), none⟩])))
  (.seq (.seq (.draw [[⟨some 66, .mov (.t 8), none⟩,
      ⟨some 67, .load 1 false (.t 7), none⟩,
      ⟨some 68, .mov (.t 10), none⟩,
      ⟨some 69, .calld (.t 67) [(.c (.v (.int .i64 0))), (.t 68)], none⟩,
      ⟨some 70, .load 1 false (.t 7), none⟩,
      ⟨some 71, .load 1 false (.t 4), none⟩,
      ⟨some 72, .calld (.t 70) [(.c (.v (.int .i64 1))), (.t 71)], none⟩],
    [⟨some 73, .calld (.t 66) [(.c (.v (.int .i64 17))), (.c (.v (.int .i64 16))), (.t 69), (.t 72)], none⟩],
    [⟨none, .store 4 (.t 6) (.t 73), none⟩]])
  .ret)
  (.exit 0))))
  (.seq (.seq (.draw [[⟨some 74, .mov (.t 8), none⟩,
      ⟨some 75, .load 1 false (.t 7), none⟩,
      ⟨some 76, .load 1 false (.t 4), none⟩,
      ⟨some 77, .calld (.t 75) [(.c (.v (.int .i64 0))), (.t 76)], none⟩,
      ⟨some 78, .load 1 false (.t 7), none⟩,
      ⟨some 79, .load 1 false (.t 4), none⟩,
      ⟨some 80, .calld (.t 78) [(.c (.v (.int .i64 1))), (.t 79)], none⟩],
    [⟨some 81, .calld (.t 74) [(.c (.v (.int .i64 16))), (.c (.v (.int .i64 17))), (.t 77), (.t 80)], none⟩],
    [⟨none, .store 4 (.t 6) (.t 81), none⟩]])
  .ret)
  (.exit 0))))
  (.seq (.seq (.ops [⟨some 82, .load 1 false (.t 5), none⟩,
    ⟨some 83, .nilchk (.t 82), none⟩,
    ⟨some 84, .load 1 false (.t 83), none⟩,
    ⟨some 85, .bin .sub false (.t 84) (.c (.v (.int .i64 2))), none⟩,
    ⟨some 86, .nilchk (.t 82), none⟩,
    ⟨none, .store 1 (.t 86) (.t 85), none⟩])
  (.seq (.ops [⟨some 87, .mkfn (.func 70) [] [(.t 3), (.t 7)], none⟩,
    ⟨some 11, .mov (.t 87), none⟩])
  (.seq (.draw [[⟨some 88, .faddr 2 (.t 3), none⟩,
      ⟨some 89, .load 1 false (.t 88), none⟩,
      ⟨some 90, .mov (.t 11), none⟩,
      ⟨some 91, .load 1 false (.t 4), none⟩,
      ⟨some 92, .calld (.t 90) [(.c (.v (.bool false))), (.t 91)], none⟩,
      ⟨some 93, .mov (.t 11), none⟩,
      ⟨some 94, .load 1 false (.t 4), none⟩,
      ⟨some 95, .un .not (.t 94), none⟩,
      ⟨some 96, .calld (.t 93) [(.c (.v (.bool true))), (.t 95)], none⟩,
      ⟨some 97, .bslice 4 [(.v (.int .i64 0)), (.v (.int .i64 0)), (.v (.int .i64 0)), (.v (.slice none 0 0))] 2 [(0, 4, (.t 92)), (4, 4, (.t 96))], none⟩],
    [⟨some 98, .build [(.v (.int .i64 0)), (.v (.int .i64 0)), (.v (.int .i64 0)), (.v (.slice none 0 0))] [(0, 1, (.c (.v (.int .i64 17)))), (2, 1, (.t 89)), (3, 1, (.t 97))], none⟩],
    [⟨none, .store 4 (.t 6) (.t 98), none⟩]])
  .ret)))
  (.exit 0))))
  (.seq (.seq (.draw [[⟨some 99, .faddr 2 (.t 3), none⟩,
      ⟨some 100, .load 1 false (.t 99), none⟩,
      ⟨some 101, .load 1 false (.t 7), none⟩,
      ⟨some 102, .load 1 false (.t 4), none⟩,
      ⟨some 103, .calld (.t 101) [(.c (.v (.int .i64 0))), (.t 102)], none⟩,
      ⟨some 104, .bslice 4 [(.v (.int .i64 0)), (.v (.int .i64 0)), (.v (.int .i64 0)), (.v (.slice none 0 0))] 1 [(0, 4, (.t 103))], none⟩],
    [⟨some 105, .build [(.v (.int .i64 0)), (.v (.int .i64 0)), (.v (.int .i64 0)), (.v (.slice none 0 0))] [(0, 1, (.c (.v (.int .i64 20)))), (2, 1, (.t 100)), (3, 1, (.t 104))], none⟩],
    [⟨none, .store 4 (.t 6) (.t 105), none⟩]])
  .ret)
  (.exit 0))))
  (.seq (.seq (.draw [[⟨some 106, .mov (.t 8), none⟩,
      ⟨some 107, .mov (.t 9), none⟩,
      ⟨some 108, .calld (.t 107) [(.c (.v (.int .i64 13))), (.c (.v (.int .i64 14)))], none⟩,
      ⟨some 109, .load 1 false (.t 7), none⟩,
      ⟨some 110, .load 1 false (.t 4), none⟩,
      ⟨some 111, .calld (.t 109) [(.c (.v (.int .i64 0))), (.t 110)], none⟩],
    [⟨some 112, .calld (.t 106) [(.c (.v (.int .i64 23))), (.c (.v (.int .i64 24))), (.t 108), (.t 111)], none⟩],
    [⟨none, .store 4 (.t 6) (.t 112), none⟩]])
  .ret)
  (.exit 0))))
  (.seq (.seq (.draw [[⟨some 113, .mov (.t 8), none⟩,
      ⟨some 114, .mov (.t 9), none⟩,
      ⟨some 115, .calld (.t 114) [(.c (.v (.int .i64 14))), (.c (.v (.int .i64 13)))], none⟩,
      ⟨some 116, .load 1 false (.t 7), none⟩,
      ⟨some 117, .load 1 false (.t 4), none⟩,
      ⟨some 118, .calld (.t 116) [(.c (.v (.int .i64 0))), (.t 117)], none⟩],
    [⟨some 119, .calld (.t 113) [(.c (.v (.int .i64 24))), (.c (.v (.int .i64 23))), (.t 115), (.t 118)], none⟩],
    [⟨none, .store 4 (.t 6) (.t 119), none⟩]])
  .ret)
  (.exit 0))))
  (.seq (.seq (.draw [[⟨some 120, .mov (.t 8), none⟩,
      ⟨some 121, .load 1 false (.t 7), none⟩,
      ⟨some 122, .load 1 false (.t 4), none⟩,
      ⟨some 123, .calld (.t 121) [(.c (.v (.int .i64 0))), (.t 122)], none⟩,
      ⟨some 124, .load 1 false (.t 7), none⟩,
      ⟨some 125, .load 1 false (.t 4), none⟩,
      ⟨some 126, .calld (.t 124) [(.c (.v (.int .i64 1))), (.t 125)], none⟩],
    [⟨some 127, .calld (.t 120) [(.c (.v (.int .i64 23))), (.c (.v (.int .i64 24))), (.t 123), (.t 126)], none⟩],
    [⟨none, .store 4 (.t 6) (.t 127), none⟩]])
  .ret)
  (.exit 0)))))
  (.seq (.draw [[⟨some 128, .mov (.t 8), none⟩,
      ⟨some 129, .load 1 false (.t 7), none⟩,
      ⟨some 130, .load 1 false (.t 4), none⟩,
      ⟨some 131, .calld (.t 129) [(.c (.v (.int .i64 0))), (.t 130)], none⟩,
      ⟨some 132, .load 1 false (.t 7), none⟩,
      ⟨some 133, .load 1 false (.t 4), none⟩,
      ⟨some 134, .calld (.t 132) [(.c (.v (.int .i64 1))), (.t 133)], none⟩],
    [⟨some 135, .calld (.t 128) [(.c (.v (.int .i64 24))), (.c (.v (.int .i64 23))), (.t 131), (.t 134)], none⟩],
    [⟨none, .store 4 (.t 6) (.t 135), none⟩]])
  .ret))))))))))⟩ := by kernel_rfl

theorem ir63 : compF Try.prog 63 = some ⟨5, [.t 3],
  (.seq (.ops [⟨some 3, .mov (.c (.v (.bool false))), none⟩])
  (.seq (.ops [⟨some 4, .load 1 false (.t 1), none⟩,
    ⟨some 3, .mov (.t 4), none⟩])
  .ret))⟩ := by kernel_rfl

theorem ir64 : compF Try.prog 64 = some ⟨9, [.t 4],
  (.seq (.ops [⟨some 4, .mov (.c (.v (.bool false))), none⟩])
  (.seq (.ops [⟨some 5, .load 1 false (.t 1), none⟩,
    ⟨some 6, .mov (.t 0), none⟩,
    ⟨some 7, .load 1 false (.t 2), none⟩,
    ⟨some 8, .calld (.t 5) [(.t 6), (.t 7)], none⟩,
    ⟨some 4, .mov (.t 8), none⟩])
  .ret))⟩ := by kernel_rfl

theorem ir65 : compF Try.prog 65 = some ⟨26, [.t 4],
  (.seq (.ops [⟨some 4, .mov (.c (.v (.bool false))), none⟩])
  (.seq (.seq (.ops [⟨some 6, .mov (.t 0), none⟩,
    ⟨some 7, .len false (.t 6), none⟩,
    ⟨some 8, .mov (.t 1), none⟩,
    ⟨some 9, .len false (.t 8), none⟩,
    ⟨some 10, .bin .neq false (.t 7) (.t 9), none⟩])
  (.cond (.t 10)
    (.seq (.ops [⟨some 4, .mov (.c (.v (.bool false))), none⟩])
    .ret)
    .skip))
  (.seq (.seq (.ops [⟨some 11, .mov (.t 0), none⟩,
    ⟨some 12, .len false (.t 11), none⟩,
    ⟨some 13, .mov (.c (.v (.int .i64 0))), none⟩])
  (.block 0 (.loop
    (.seq (.ops [⟨some 14, .bin .lss false (.t 13) (.t 12), none⟩])
    (.seq (.cond (.t 14)
      .skip
      (.exit 0))
    (.seq (.block 1 (.seq (.ops [⟨some 15, .mov (.t 13), none⟩,
      ⟨some 5, .mov (.t 15), none⟩])
    (.seq (.draw [[⟨some 16, .mov (.t 0), none⟩,
        ⟨some 17, .mov (.t 5), none⟩,
        ⟨some 18, .iaddr 1 (.t 16) (.t 17), none⟩,
        ⟨some 19, .load 1 false (.t 18), none⟩,
        ⟨some 20, .mov (.t 1), none⟩,
        ⟨some 21, .mov (.t 5), none⟩,
        ⟨some 22, .iaddr 1 (.t 20) (.t 21), none⟩,
        ⟨some 23, .load 1 false (.t 22), none⟩],
      [⟨some 24, .bin .neq true (.t 19) (.t 23), none⟩]])
    (.cond (.t 24)
      (.seq (.ops [⟨some 4, .mov (.c (.v (.bool false))), none⟩])
      .ret)
      .skip))))
    (.ops [⟨some 25, .bin .add false (.t 13) (.c (.v (.int .i64 1))), none⟩,
      ⟨some 13, .mov (.t 25), none⟩])))))))
  (.seq (.ops [⟨some 4, .mov (.c (.v (.bool true))), none⟩])
  .ret))))⟩ := by kernel_rfl

theorem ir66 : compF Try.prog 66 = some ⟨18, [.t 2],
  (.seq (.ops [⟨some 1, .box (.t 0), none⟩,
    ⟨some 2, .mov (.c (.v (.bool false))), none⟩])
  (.seq (.ops [⟨some 7, .load 4 true (.t 1), none⟩,
    ⟨some 8, .call 57 [(.t 7)], none⟩,
    ⟨some 6, .mov (.t 8), none⟩,
    ⟨some 9, .extract (.t 6) 0, none⟩,
    ⟨some 10, .extract (.t 6) 1, none⟩,
    ⟨some 11, .extract (.t 6) 2, none⟩,
    ⟨some 3, .mov (.t 9), none⟩,
    ⟨some 4, .mov (.t 10), none⟩,
    ⟨some 5, .mov (.t 11), none⟩])
  (.seq (.ops [⟨some 12, .mov (.t 4), none⟩,
    ⟨some 13, .bin .eql false (.t 12) (.c (.v (.int .i64 0))), none⟩,
    ⟨some 14, .mov (.t 13), none⟩,
    ⟨some 15, .mov (.t 3), some (14, true)⟩,
    ⟨some 16, .bin .eql false (.t 15) (.c (.v (.int .i64 2))), some (14, true)⟩,
    ⟨some 17, .pick (.t 14) (.t 16) (.c (.v (.bool false))), none⟩,
    ⟨some 2, .mov (.t 17), none⟩])
  .ret)))⟩ := by kernel_rfl

theorem ir67 : compF Try.prog 67 = some ⟨15, [.c 6 4 true],
  (.seq (.ops [⟨some 6, .alloc (.agg [(.v (.int .i64 0)), (.v (.int .i64 0)), (.v (.int .i64 0)), (.v (.slice none 0 0))]), none⟩])
  (.seq (.draw [[⟨some 7, .faddr 3 (.t 2), none⟩,
      ⟨some 8, .load 1 false (.t 7), none⟩,
      ⟨some 9, .mov (.t 0), none⟩,
      ⟨some 10, .iaddr 4 (.t 8) (.t 9), none⟩,
      ⟨some 11, .load 4 true (.t 10), none⟩,
      ⟨some 12, .mov (.t 1), none⟩,
      ⟨some 13, .load 1 false (.t 3), none⟩],
    [⟨some 14, .call 62 [(.t 11), (.t 12), (.t 13)], none⟩],
    [⟨none, .store 4 (.t 6) (.t 14), none⟩]])
  .ret))⟩ := by kernel_rfl

theorem ir68 : compF Try.prog 68 = some ⟨20, [.c 10 4 true],
  (.seq (.ops [⟨some 8, .box (.t 2), none⟩,
    ⟨some 9, .box (.t 3), none⟩,
    ⟨some 10, .alloc (.agg [(.v (.int .i64 0)), (.v (.int .i64 0)), (.v (.int .i64 0)), (.v (.slice none 0 0))]), none⟩])
  (.seq (.seq (.ops [⟨some 11, .load 1 false (.t 4), none⟩])
  (.cond (.t 11)
    (.ops [⟨some 12, .mov (.t 1), none⟩,
      ⟨some 0, .mov (.t 12), none⟩])
    .skip))
  (.seq (.ops [⟨some 13, .mov (.t 0), none⟩,
    ⟨some 14, .faddr 2 (.t 5), none⟩,
    ⟨some 15, .load 1 false (.t 14), none⟩,
    ⟨some 16, .load 4 true (.t 8), none⟩,
    ⟨some 17, .load 4 true (.t 9), none⟩,
    ⟨some 18, .bslice 4 [(.v (.int .i64 0)), (.v (.int .i64 0)), (.v (.int .i64 0)), (.v (.slice none 0 0))] 2 [(0, 4, (.t 16)), (4, 4, (.t 17))], none⟩,
    ⟨some 19, .build [(.v (.int .i64 0)), (.v (.int .i64 0)), (.v (.int .i64 0)), (.v (.slice none 0 0))] [(0, 1, (.t 13)), (2, 1, (.t 15)), (3, 1, (.t 18))], none⟩,
    ⟨none, .store 4 (.t 10) (.t 19), none⟩])
  .ret)))⟩ := by kernel_rfl

theorem ir69 : compF Try.prog 69 = some ⟨19, [.c 7 4 true],
  (.seq (.ops [⟨some 7, .alloc (.agg [(.v (.int .i64 0)), (.v (.int .i64 0)), (.v (.int .i64 0)), (.v (.slice none 0 0))]), none⟩])
  (.seq (.ops [⟨some 8, .load 1 false (.t 2), none⟩,
    ⟨some 9, .nilchk (.t 8), none⟩,
    ⟨some 10, .load 1 false (.t 9), none⟩,
    ⟨some 11, .bin .sub false (.t 10) (.c (.v (.int .i64 1))), none⟩,
    ⟨some 12, .nilchk (.t 8), none⟩,
    ⟨none, .store 1 (.t 12) (.t 11), none⟩])
  (.seq (.seq (.ops [⟨some 13, .load 1 false (.t 3), none⟩])
  (.cond (.t 13)
    (.ops [⟨some 14, .mov (.t 1), none⟩,
      ⟨some 0, .mov (.t 14), none⟩])
    .skip))
  (.seq (.ops [⟨some 15, .mov (.t 0), none⟩,
    ⟨some 16, .faddr 2 (.t 4), none⟩,
    ⟨some 17, .load 1 false (.t 16), none⟩,
    ⟨some 18, .build [(.v (.int .i64 0)), (.v (.int .i64 0)), (.v (.int .i64 0)), (.v (.slice none 0 0))] [(0, 1, (.t 15)), (2, 1, (.t 17))], none⟩,
    ⟨none, .store 4 (.t 7) (.t 18), none⟩])
  .ret))))⟩ := by kernel_rfl

theorem ir70 : compF Try.prog 70 = some ⟨17, [.c 6 4 true],
  (.seq (.ops [⟨some 6, .alloc (.agg [(.v (.int .i64 0)), (.v (.int .i64 0)), (.v (.int .i64 0)), (.v (.slice none 0 0))]), none⟩])
  (.seq (.draw [[⟨some 7, .faddr 2 (.t 2), none⟩,
      ⟨some 8, .load 1 false (.t 7), none⟩,
      ⟨some 9, .load 1 false (.t 3), none⟩,
      ⟨some 10, .mov (.t 0), none⟩,
      ⟨some 11, .calld (.t 9) [(.c (.v (.int .i64 0))), (.t 10)], none⟩,
      ⟨some 12, .load 1 false (.t 3), none⟩,
      ⟨some 13, .mov (.t 1), none⟩,
      ⟨some 14, .calld (.t 12) [(.c (.v (.int .i64 1))), (.t 13)], none⟩,
      ⟨some 15, .bslice 4 [(.v (.int .i64 0)), (.v (.int .i64 0)), (.v (.int .i64 0)), (.v (.slice none 0 0))] 2 [(0, 4, (.t 11)), (4, 4, (.t 14))], none⟩],
    [⟨some 16, .build [(.v (.int .i64 0)), (.v (.int .i64 0)), (.v (.int .i64 0)), (.v (.slice none 0 0))] [(0, 1, (.c (.v (.int .i64 16)))), (2, 1, (.t 8)), (3, 1, (.t 15))], none⟩],
    [⟨none, .store 4 (.t 6) (.t 16), none⟩]])
  .ret))⟩ := by kernel_rfl

end Go.Proofs.Ytahkjkmkafbakaa
