/- The functions of the program in the small language. -/
import Derived.Test.YthohjhhiphfngaaLgR
import Derived.Test.YthohjhhiphfngaaChecked
namespace Go.Proofs.Ythohjhhiphfngaa
open Go Lg

set_option maxRecDepth 100000 in
theorem ir3 : compF Try.prog 3 = some ⟨211, [.t 2],
  (.seq (.ops [⟨some 2, .mov (.c (.v (.bool false))), none⟩])
  (.seq (.ops [⟨some 25, .call 7 [], none⟩,
    ⟨some 3, .mov (.t 25), none⟩])
  (.seq (.seq (.ops [⟨some 26, .mov (.t 0), none⟩,
    ⟨some 27, .len false (.t 26), none⟩,
    ⟨some 28, .bin .gtr false (.t 27) (.c (.v (.int .i64 60))), none⟩])
  (.cond (.t 28)
    (.seq (.ops [⟨some 29, .mov (.t 3), none⟩,
      ⟨some 2, .mov (.t 29), none⟩])
    .ret)
    .skip))
  (.seq (.ops [⟨some 31, .call 8 [(.c (.v (.int .i64 100)))], none⟩,
    ⟨some 30, .mov (.t 31), none⟩,
    ⟨some 32, .extract (.t 30) 0, none⟩,
    ⟨some 33, .extract (.t 30) 1, none⟩,
    ⟨some 4, .alloc (.agg [(.v (.int .i64 0)), (.v (.slice none 0 0)), (.v (.slice none 0 0))]), none⟩,
    ⟨none, .store 3 (.t 4) (.t 32), none⟩,
    ⟨some 5, .mov (.t 33), none⟩])
  (.seq (.ops [⟨some 34, .mkmap (.p .u32), none⟩,
    ⟨some 6, .mov (.t 34), none⟩])
  (.seq (.seq (.ops [⟨some 7, .mov (.c (.v (.int .i64 0))), none⟩])
  (.block 0 (.loop
    (.seq (.seq (.ops [⟨some 35, .mov (.t 7), none⟩,
      ⟨some 36, .mov (.t 0), none⟩,
      ⟨some 37, .len false (.t 36), none⟩,
      ⟨some 38, .bin .lss false (.t 35) (.t 37), none⟩])
    (.cond (.t 38)
      .skip
      (.exit 0)))
    (.seq (.block 1 (.seq (.ops [⟨some 42, .mov (.t 6), none⟩,
      ⟨some 43, .mov (.t 0), none⟩,
      ⟨some 44, .mov (.t 7), none⟩,
      ⟨some 45, .iaddr 2 (.t 43) (.t 44), none⟩,
      ⟨some 46, .load 2 true (.t 45), none⟩,
      ⟨some 47, .mget (.p .u32) true (.int .i64 0) (.t 42) (.t 46), none⟩,
      ⟨some 41, .mov (.t 47), none⟩,
      ⟨some 48, .extract (.t 41) 0, none⟩,
      ⟨some 49, .extract (.t 41) 1, none⟩,
      ⟨some 8, .mov (.t 48), none⟩,
      ⟨some 9, .mov (.t 49), none⟩])
    (.seq (.draw [[⟨some 51, .load 3 true (.t 4), none⟩,
        ⟨some 52, .mov (.t 0), none⟩,
        ⟨some 53, .mov (.t 7), none⟩,
        ⟨some 54, .iaddr 2 (.t 52) (.t 53), none⟩,
        ⟨some 55, .iaddrA 2 1 (.t 54) (.c (.v (.int .i64 0))), none⟩,
        ⟨some 56, .load 1 false (.t 55), none⟩,
        ⟨some 57, .mov (.t 0), none⟩,
        ⟨some 58, .mov (.t 7), none⟩,
        ⟨some 59, .iaddr 2 (.t 57) (.t 58), none⟩,
        ⟨some 60, .iaddrA 2 1 (.t 59) (.c (.v (.int .i64 1))), none⟩,
        ⟨some 61, .load 1 false (.t 60), none⟩,
        ⟨some 62, .call 9 [(.t 51), (.t 56), (.t 61)], none⟩,
        ⟨some 50, .mov (.t 62), none⟩,
        ⟨some 63, .extract (.t 50) 0, none⟩,
        ⟨some 64, .extract (.t 50) 1, none⟩,
        ⟨some 65, .extract (.t 50) 2, none⟩,
        ⟨some 66, .extract (.t 50) 3, none⟩,
        ⟨some 10, .alloc (.agg [(.v (.int .i64 0)), (.v (.slice none 0 0)), (.v (.slice none 0 0))]), none⟩,
        ⟨none, .store 3 (.t 10) (.t 63), none⟩,
        ⟨some 11, .mov (.t 64), none⟩,
        ⟨some 12, .mov (.t 65), none⟩],
      [⟨some 13, .mov (.t 66), none⟩]])
    (.seq (.seq (.ops [⟨some 67, .mov (.t 13), none⟩,
      ⟨some 68, .bin .neq false (.t 67) (.c (.v (.int .i64 0))), none⟩,
      ⟨some 69, .mov (.t 68), none⟩,
      ⟨some 70, .mov (.t 12), some (69, false)⟩,
      ⟨some 71, .mov (.t 9), some (69, false)⟩,
      ⟨some 72, .bin .eql true (.t 70) (.t 71), some (69, false)⟩,
      ⟨some 73, .pick (.t 69) (.c (.v (.bool true))) (.t 72), none⟩,
      ⟨some 74, .mov (.t 73), none⟩,
      ⟨some 75, .mov (.t 9), some (74, false)⟩,
      ⟨some 76, .mov (.t 75), some (74, false)⟩,
      ⟨some 77, .mov (.t 11), some (76, true)⟩,
      ⟨some 78, .mov (.t 8), some (76, true)⟩,
      ⟨some 79, .bin .neq false (.t 77) (.t 78), some (76, true)⟩,
      ⟨some 80, .pick (.t 76) (.t 79) (.c (.v (.bool false))), some (74, false)⟩,
      ⟨some 81, .pick (.t 74) (.c (.v (.bool true))) (.t 80), none⟩,
      ⟨some 82, .mov (.t 81), none⟩,
      ⟨some 83, .mov (.t 12), some (82, false)⟩,
      ⟨some 84, .mov (.t 83), some (82, false)⟩,
      ⟨some 85, .mov (.t 11), some (84, true)⟩,
      ⟨some 86, .mov (.t 6), some (84, true)⟩,
      ⟨some 87, .mlen (.t 86), some (84, true)⟩,
      ⟨some 88, .bin .neq false (.t 85) (.t 87), some (84, true)⟩,
      ⟨some 89, .pick (.t 84) (.t 88) (.c (.v (.bool false))), some (82, false)⟩,
      ⟨some 90, .pick (.t 82) (.c (.v (.bool true))) (.t 89), none⟩])
    (.cond (.t 90)
      (.seq (.ops [⟨some 2, .mov (.c (.v (.bool false))), none⟩])
      .ret)
      .skip))
    (.seq (.ops [⟨some 91, .mov (.t 6), none⟩,
      ⟨some 92, .mov (.t 0), none⟩,
      ⟨some 93, .mov (.t 7), none⟩,
      ⟨some 94, .iaddr 2 (.t 92) (.t 93), none⟩,
      ⟨some 95, .load 2 true (.t 94), none⟩,
      ⟨some 96, .mov (.t 11), none⟩,
      ⟨none, .mset (.p .u32) (.t 91) (.t 95) (.t 96), none⟩])
    (.ops [⟨some 97, .load 3 true (.t 10), none⟩,
      ⟨none, .store 3 (.t 4) (.t 97), none⟩]))))))
    (.ops [⟨some 39, .mov (.t 7), none⟩,
      ⟨some 40, .bin .add false (.t 39) (.c (.v (.int .i64 1))), none⟩,
      ⟨some 7, .mov (.t 40), none⟩]))))))
  (.seq (.seq (.ops [⟨some 14, .mov (.c (.v (.int .i64 0))), none⟩])
  (.block 2 (.loop
    (.seq (.seq (.ops [⟨some 98, .mov (.t 14), none⟩,
      ⟨some 99, .mov (.t 0), none⟩,
      ⟨some 100, .len false (.t 99), none⟩,
      ⟨some 101, .bin .lss false (.t 98) (.t 100), none⟩])
    (.cond (.t 101)
      .skip
      (.exit 2)))
    (.seq (.block 3 (.seq (.draw [[⟨some 105, .load 3 true (.t 4), none⟩,
        ⟨some 106, .mov (.t 0), none⟩,
        ⟨some 107, .mov (.t 14), none⟩,
        ⟨some 108, .iaddr 2 (.t 106) (.t 107), none⟩,
        ⟨some 109, .iaddrA 2 1 (.t 108) (.c (.v (.int .i64 0))), none⟩,
        ⟨some 110, .load 1 false (.t 109), none⟩,
        ⟨some 111, .mov (.t 0), none⟩,
        ⟨some 112, .mov (.t 14), none⟩,
        ⟨some 113, .iaddr 2 (.t 111) (.t 112), none⟩,
        ⟨some 114, .iaddrA 2 1 (.t 113) (.c (.v (.int .i64 1))), none⟩,
        ⟨some 115, .load 1 false (.t 114), none⟩],
      [⟨some 116, .call 10 [(.t 105), (.t 110), (.t 115)], none⟩],
      [⟨some 104, .mov (.t 116), none⟩],
      [⟨some 117, .extract (.t 104) 0, none⟩,
        ⟨some 118, .extract (.t 104) 1, none⟩,
        ⟨some 15, .mov (.t 117), none⟩],
      [⟨some 16, .mov (.t 118), none⟩]])
    (.seq (.ops [⟨some 120, .load 3 true (.t 4), none⟩,
      ⟨some 121, .mov (.t 15), none⟩,
      ⟨some 122, .call 11 [(.t 120), (.t 121)], none⟩,
      ⟨some 119, .mov (.t 122), none⟩,
      ⟨some 123, .extract (.t 119) 0, none⟩,
      ⟨some 124, .extract (.t 119) 1, none⟩,
      ⟨some 125, .extract (.t 119) 2, none⟩,
      ⟨some 17, .mov (.t 123), none⟩,
      ⟨some 18, .mov (.t 124), none⟩,
      ⟨some 19, .mov (.t 125), none⟩])
    (.seq (.draw [[⟨some 126, .mov (.t 0), none⟩,
        ⟨some 127, .mov (.t 14), none⟩,
        ⟨some 128, .iaddr 2 (.t 126) (.t 127), none⟩,
        ⟨some 129, .iaddrA 2 1 (.t 128) (.c (.v (.int .i64 1))), none⟩,
        ⟨some 130, .load 1 false (.t 129), none⟩,
        ⟨some 131, .mov (.t 0), none⟩,
        ⟨some 132, .mov (.t 14), none⟩,
        ⟨some 133, .iaddr 2 (.t 131) (.t 132), none⟩,
        ⟨some 134, .iaddrA 2 1 (.t 133) (.c (.v (.int .i64 0))), none⟩,
        ⟨some 135, .load 1 false (.t 134), none⟩,
        ⟨some 136, .build [(.v (.int .u32 0)), (.v (.int .u32 0))] [(0, 1, (.t 130)), (1, 1, (.t 135))], none⟩,
        ⟨some 20, .alloc (.agg [(.v (.int .u32 0)), (.v (.int .u32 0))]), none⟩],
      [⟨none, .store 2 (.t 20) (.t 136), none⟩]])
    (.seq (.ops [⟨some 138, .mov (.t 6), none⟩,
      ⟨some 139, .load 2 true (.t 20), none⟩,
      ⟨some 140, .mget (.p .u32) true (.int .i64 0) (.t 138) (.t 139), none⟩,
      ⟨some 137, .mov (.t 140), none⟩,
      ⟨some 141, .extract (.t 137) 0, none⟩,
      ⟨some 142, .extract (.t 137) 1, none⟩,
      ⟨some 21, .mov (.t 141), none⟩,
      ⟨some 22, .mov (.t 142), none⟩])
    (.seq (.ops [⟨some 144, .load 3 true (.t 4), none⟩,
      ⟨some 145, .iaddrA 2 1 (.t 20) (.c (.v (.int .i64 0))), none⟩,
      ⟨some 146, .load 1 false (.t 145), none⟩,
      ⟨some 147, .iaddrA 2 1 (.t 20) (.c (.v (.int .i64 1))), none⟩,
      ⟨some 148, .load 1 false (.t 147), none⟩,
      ⟨some 149, .call 10 [(.t 144), (.t 146), (.t 148)], none⟩,
      ⟨some 143, .mov (.t 149), none⟩,
      ⟨some 150, .extract (.t 143) 0, none⟩,
      ⟨some 151, .extract (.t 143) 1, none⟩,
      ⟨some 23, .mov (.t 150), none⟩,
      ⟨some 24, .mov (.t 151), none⟩])
    (.seq (.ops [⟨some 152, .mov (.t 16), none⟩,
      ⟨some 153, .un .not (.t 152), none⟩,
      ⟨some 154, .mov (.t 153), none⟩,
      ⟨some 155, .mov (.t 15), some (154, false)⟩,
      ⟨some 156, .mov (.t 6), some (154, false)⟩,
      ⟨some 157, .mov (.t 0), some (154, false)⟩,
      ⟨some 158, .mov (.t 14), some (154, false)⟩,
      ⟨some 159, .iaddr 2 (.t 157) (.t 158), some (154, false)⟩,
      ⟨some 160, .load 2 true (.t 159), some (154, false)⟩,
      ⟨some 161, .mget (.p .u32) false (.int .i64 0) (.t 156) (.t 160), some (154, false)⟩,
      ⟨some 162, .bin .neq false (.t 155) (.t 161), some (154, false)⟩,
      ⟨some 163, .pick (.t 154) (.c (.v (.bool true))) (.t 162), none⟩,
      ⟨some 164, .mov (.t 163), none⟩,
      ⟨some 165, .mov (.t 19), some (164, false)⟩,
      ⟨some 166, .bin .neq false (.t 165) (.c (.v (.int .i64 0))), some (164, false)⟩,
      ⟨some 167, .pick (.t 164) (.c (.v (.bool true))) (.t 166), none⟩,
      ⟨some 168, .mov (.t 167), none⟩,
      ⟨some 169, .mov (.t 17), some (168, false)⟩,
      ⟨some 170, .mov (.t 0), some (168, false)⟩,
      ⟨some 171, .mov (.t 14), some (168, false)⟩,
      ⟨some 172, .iaddr 2 (.t 170) (.t 171), some (168, false)⟩,
      ⟨some 173, .iaddrA 2 1 (.t 172) (.c (.v (.int .i64 0))), some (168, false)⟩,
      ⟨some 174, .load 1 false (.t 173), some (168, false)⟩,
      ⟨some 175, .bin .neq false (.t 169) (.t 174), some (168, false)⟩,
      ⟨some 176, .pick (.t 168) (.c (.v (.bool true))) (.t 175), none⟩,
      ⟨some 177, .mov (.t 176), none⟩,
      ⟨some 178, .mov (.t 18), some (177, false)⟩,
      ⟨some 179, .mov (.t 0), some (177, false)⟩,
      ⟨some 180, .mov (.t 14), some (177, false)⟩,
      ⟨some 181, .iaddr 2 (.t 179) (.t 180), some (177, false)⟩,
      ⟨some 182, .iaddrA 2 1 (.t 181) (.c (.v (.int .i64 1))), some (177, false)⟩,
      ⟨some 183, .load 1 false (.t 182), some (177, false)⟩,
      ⟨some 184, .bin .neq false (.t 178) (.t 183), some (177, false)⟩,
      ⟨some 185, .pick (.t 177) (.c (.v (.bool true))) (.t 184), none⟩,
      ⟨some 186, .mov (.t 185), none⟩,
      ⟨some 187, .mov (.t 24), some (186, false)⟩,
      ⟨some 188, .mov (.t 22), some (186, false)⟩,
      ⟨some 189, .bin .neq true (.t 187) (.t 188), some (186, false)⟩,
      ⟨some 190, .pick (.t 186) (.c (.v (.bool true))) (.t 189), none⟩,
      ⟨some 191, .mov (.t 190), none⟩,
      ⟨some 192, .mov (.t 24), some (191, false)⟩,
      ⟨some 193, .mov (.t 192), some (191, false)⟩,
      ⟨some 194, .mov (.t 23), some (193, true)⟩,
      ⟨some 195, .mov (.t 21), some (193, true)⟩,
      ⟨some 196, .bin .neq false (.t 194) (.t 195), some (193, true)⟩,
      ⟨some 197, .pick (.t 193) (.t 196) (.c (.v (.bool false))), some (191, false)⟩,
      ⟨some 198, .pick (.t 191) (.c (.v (.bool true))) (.t 197), none⟩])
    (.cond (.t 198)
      (.seq (.ops [⟨some 2, .mov (.c (.v (.bool false))), none⟩])
      .ret)
      .skip))))))))
    (.ops [⟨some 102, .mov (.t 14), none⟩,
      ⟨some 103, .bin .add false (.t 102) (.c (.v (.int .i64 1))), none⟩,
      ⟨some 14, .mov (.t 103), none⟩]))))))
  (.seq (.ops [⟨some 199, .mov (.t 3), none⟩,
    ⟨some 200, .mov (.t 199), none⟩,
    ⟨some 201, .mov (.t 5), some (200, true)⟩,
    ⟨some 202, .bin .eql false (.t 201) (.c (.v (.int .i64 0))), some (200, true)⟩,
    ⟨some 203, .pick (.t 200) (.t 202) (.c (.v (.bool false))), none⟩,
    ⟨some 204, .mov (.t 203), none⟩,
    ⟨some 205, .load 3 true (.t 4), some (204, true)⟩,
    ⟨some 206, .call 12 [(.t 205)], some (204, true)⟩,
    ⟨some 207, .mov (.t 6), some (204, true)⟩,
    ⟨some 208, .mlen (.t 207), some (204, true)⟩,
    ⟨some 209, .bin .eql false (.t 206) (.t 208), some (204, true)⟩,
    ⟨some 210, .pick (.t 204) (.t 209) (.c (.v (.bool false))), none⟩,
    ⟨some 2, .mov (.t 210), none⟩])
  .ret))))))))⟩ := by kernel_rfl

set_option maxRecDepth 100000 in
theorem ir4 : compF Try.prog 4 = some ⟨140, [.t 6],
  (.seq (.ops [⟨some 6, .mov (.c (.v (.bool false))), none⟩])
  (.seq (.ops [⟨some 23, .call 7 [], none⟩,
    ⟨some 7, .mov (.t 23), none⟩])
  (.seq (.ops [⟨some 24, .mov (.t 0), none⟩,
    ⟨some 25, .conv .i64 (.t 24), none⟩,
    ⟨some 26, .bin .rem false (.t 25) (.c (.v (.int .i64 13))), none⟩,
    ⟨some 8, .mov (.t 26), none⟩])
  (.seq (.ops [⟨some 27, .mov (.t 8), none⟩,
    ⟨some 28, .mov (.t 8), none⟩,
    ⟨some 29, .bin .mul false (.t 27) (.t 28), none⟩,
    ⟨some 30, .mov (.t 2), none⟩,
    ⟨some 31, .conv .i64 (.t 30), none⟩,
    ⟨some 32, .bin .rem false (.t 31) (.c (.v (.int .i64 9))), none⟩,
    ⟨some 33, .bin .sub false (.t 29) (.t 32), none⟩,
    ⟨some 9, .mov (.t 33), none⟩])
  (.seq (.seq (.ops [⟨some 34, .mov (.t 9), none⟩,
    ⟨some 35, .bin .lss false (.t 34) (.c (.v (.int .i64 0))), none⟩])
  (.cond (.t 35)
    (.ops [⟨some 9, .mov (.c (.v (.int .i64 0))), none⟩])
    .skip))
  (.seq (.ops [⟨some 37, .mov (.t 9), none⟩,
    ⟨some 38, .call 8 [(.t 37)], none⟩,
    ⟨some 36, .mov (.t 38), none⟩,
    ⟨some 39, .extract (.t 36) 0, none⟩,
    ⟨some 40, .extract (.t 36) 1, none⟩,
    ⟨some 10, .alloc (.agg [(.v (.int .i64 0)), (.v (.slice none 0 0)), (.v (.slice none 0 0))]), none⟩,
    ⟨none, .store 3 (.t 10) (.t 39), none⟩,
    ⟨some 11, .mov (.t 40), none⟩])
  (.seq (.seq (.ops [⟨some 12, .mov (.c (.v (.int .i64 0))), none⟩])
  (.block 0 (.loop
    (.seq (.seq (.ops [⟨some 41, .mov (.t 12), none⟩,
      ⟨some 42, .mov (.t 8), none⟩,
      ⟨some 43, .bin .lss false (.t 41) (.t 42), none⟩])
    (.cond (.t 43)
      .skip
      (.exit 0)))
    (.seq (.block 1 (.seq (.ops [⟨some 13, .mov (.c (.v (.int .i64 0))), none⟩])
    (.block 2 (.loop
      (.seq (.seq (.ops [⟨some 46, .mov (.t 13), none⟩,
        ⟨some 47, .mov (.t 8), none⟩,
        ⟨some 48, .bin .lss false (.t 46) (.t 47), none⟩])
      (.cond (.t 48)
        .skip
        (.exit 2)))
      (.seq (.block 3 (.seq (.ops [⟨some 52, .load 3 true (.t 10), none⟩,
        ⟨some 53, .mov (.t 1), none⟩,
        ⟨some 54, .mov (.t 12), none⟩,
        ⟨some 55, .conv .u32 (.t 54), none⟩,
        ⟨some 56, .bin .add false (.t 53) (.t 55), none⟩,
        ⟨some 57, .mov (.t 1), none⟩,
        ⟨some 58, .mov (.t 13), none⟩,
        ⟨some 59, .conv .u32 (.t 58), none⟩,
        ⟨some 60, .bin .sub false (.t 57) (.t 59), none⟩,
        ⟨some 61, .call 9 [(.t 52), (.t 56), (.t 60)], none⟩,
        ⟨some 51, .mov (.t 61), none⟩,
        ⟨some 62, .extract (.t 51) 0, none⟩,
        ⟨some 63, .extract (.t 51) 1, none⟩,
        ⟨some 64, .extract (.t 51) 2, none⟩,
        ⟨some 65, .extract (.t 51) 3, none⟩,
        ⟨some 14, .alloc (.agg [(.v (.int .i64 0)), (.v (.slice none 0 0)), (.v (.slice none 0 0))]), none⟩,
        ⟨none, .store 3 (.t 14) (.t 62), none⟩,
        ⟨some 15, .mov (.t 63), none⟩,
        ⟨some 16, .mov (.t 64), none⟩,
        ⟨some 17, .mov (.t 65), none⟩])
      (.seq (.ops [⟨some 66, .mov (.t 12), none⟩,
        ⟨some 67, .mov (.t 8), none⟩,
        ⟨some 68, .bin .mul false (.t 66) (.t 67), none⟩,
        ⟨some 69, .mov (.t 13), none⟩,
        ⟨some 70, .bin .add false (.t 68) (.t 69), none⟩,
        ⟨some 71, .mov (.t 9), none⟩,
        ⟨some 72, .bin .lss false (.t 70) (.t 71), none⟩,
        ⟨some 18, .mov (.t 72), none⟩])
      (.seq (.seq (.ops [⟨some 73, .mov (.t 17), none⟩,
        ⟨some 74, .bin .eql false (.t 73) (.c (.v (.int .i64 0))), none⟩,
        ⟨some 75, .mov (.t 18), none⟩,
        ⟨some 76, .bin .neq true (.t 74) (.t 75), none⟩,
        ⟨some 77, .mov (.t 76), none⟩,
        ⟨some 78, .mov (.t 16), some (77, false)⟩,
        ⟨some 79, .mov (.t 18), some (77, false)⟩,
        ⟨some 80, .bin .neq true (.t 78) (.t 79), some (77, false)⟩,
        ⟨some 81, .pick (.t 77) (.c (.v (.bool true))) (.t 80), none⟩,
        ⟨some 82, .mov (.t 81), none⟩,
        ⟨some 83, .mov (.t 18), some (82, false)⟩,
        ⟨some 84, .mov (.t 83), some (82, false)⟩,
        ⟨some 85, .mov (.t 15), some (84, true)⟩,
        ⟨some 86, .mov (.t 12), some (84, true)⟩,
        ⟨some 87, .mov (.t 8), some (84, true)⟩,
        ⟨some 88, .bin .mul false (.t 86) (.t 87), some (84, true)⟩,
        ⟨some 89, .mov (.t 13), some (84, true)⟩,
        ⟨some 90, .bin .add false (.t 88) (.t 89), some (84, true)⟩,
        ⟨some 91, .bin .neq false (.t 85) (.t 90), some (84, true)⟩,
        ⟨some 92, .pick (.t 84) (.t 91) (.c (.v (.bool false))), some (82, false)⟩,
        ⟨some 93, .pick (.t 82) (.c (.v (.bool true))) (.t 92), none⟩])
      (.cond (.t 93)
        (.seq (.ops [⟨some 6, .mov (.c (.v (.bool false))), none⟩])
        .ret)
        .skip))
      (.ops [⟨some 94, .load 3 true (.t 14), none⟩,
        ⟨none, .store 3 (.t 10) (.t 94), none⟩])))))
      (.ops [⟨some 49, .mov (.t 13), none⟩,
        ⟨some 50, .bin .add false (.t 49) (.c (.v (.int .i64 1))), none⟩,
        ⟨some 13, .mov (.t 50), none⟩])))))))
    (.ops [⟨some 44, .mov (.t 12), none⟩,
      ⟨some 45, .bin .add false (.t 44) (.c (.v (.int .i64 1))), none⟩,
      ⟨some 12, .mov (.t 45), none⟩]))))))
  (.seq (.seq (.ops [⟨some 19, .mov (.c (.v (.int .i64 0))), none⟩])
  (.block 4 (.loop
    (.seq (.seq (.ops [⟨some 95, .mov (.t 19), none⟩,
      ⟨some 96, .mov (.t 9), none⟩,
      ⟨some 97, .bin .lss false (.t 95) (.t 96), none⟩])
    (.cond (.t 97)
      .skip
      (.exit 4)))
    (.seq (.block 5 (.seq (.ops [⟨some 101, .load 3 true (.t 10), none⟩,
      ⟨some 102, .mov (.t 19), none⟩,
      ⟨some 103, .call 11 [(.t 101), (.t 102)], none⟩,
      ⟨some 100, .mov (.t 103), none⟩,
      ⟨some 104, .extract (.t 100) 0, none⟩,
      ⟨some 105, .extract (.t 100) 1, none⟩,
      ⟨some 106, .extract (.t 100) 2, none⟩,
      ⟨some 20, .mov (.t 104), none⟩,
      ⟨some 21, .mov (.t 105), none⟩,
      ⟨some 22, .mov (.t 106), none⟩])
    (.seq (.ops [⟨some 107, .mov (.t 22), none⟩,
      ⟨some 108, .bin .neq false (.t 107) (.c (.v (.int .i64 0))), none⟩,
      ⟨some 109, .mov (.t 108), none⟩,
      ⟨some 110, .mov (.t 20), some (109, false)⟩,
      ⟨some 111, .mov (.t 1), some (109, false)⟩,
      ⟨some 112, .mov (.t 19), some (109, false)⟩,
      ⟨some 113, .mov (.t 8), some (109, false)⟩,
      ⟨some 114, .bin .quo false (.t 112) (.t 113), some (109, false)⟩,
      ⟨some 115, .conv .u32 (.t 114), some (109, false)⟩,
      ⟨some 116, .bin .add false (.t 111) (.t 115), some (109, false)⟩,
      ⟨some 117, .bin .neq false (.t 110) (.t 116), some (109, false)⟩,
      ⟨some 118, .pick (.t 109) (.c (.v (.bool true))) (.t 117), none⟩,
      ⟨some 119, .mov (.t 118), none⟩,
      ⟨some 120, .mov (.t 21), some (119, false)⟩,
      ⟨some 121, .mov (.t 1), some (119, false)⟩,
      ⟨some 122, .mov (.t 19), some (119, false)⟩,
      ⟨some 123, .mov (.t 8), some (119, false)⟩,
      ⟨some 124, .bin .rem false (.t 122) (.t 123), some (119, false)⟩,
      ⟨some 125, .conv .u32 (.t 124), some (119, false)⟩,
      ⟨some 126, .bin .sub false (.t 121) (.t 125), some (119, false)⟩,
      ⟨some 127, .bin .neq false (.t 120) (.t 126), some (119, false)⟩,
      ⟨some 128, .pick (.t 119) (.c (.v (.bool true))) (.t 127), none⟩])
    (.cond (.t 128)
      (.seq (.ops [⟨some 6, .mov (.c (.v (.bool false))), none⟩])
      .ret)
      .skip))))
    (.ops [⟨some 98, .mov (.t 19), none⟩,
      ⟨some 99, .bin .add false (.t 98) (.c (.v (.int .i64 1))), none⟩,
      ⟨some 19, .mov (.t 99), none⟩]))))))
  (.seq (.ops [⟨some 129, .mov (.t 7), none⟩,
    ⟨some 130, .mov (.t 129), none⟩,
    ⟨some 131, .mov (.t 11), some (130, true)⟩,
    ⟨some 132, .bin .eql false (.t 131) (.c (.v (.int .i64 0))), some (130, true)⟩,
    ⟨some 133, .pick (.t 130) (.t 132) (.c (.v (.bool false))), none⟩,
    ⟨some 134, .mov (.t 133), none⟩,
    ⟨some 135, .load 3 true (.t 10), some (134, true)⟩,
    ⟨some 136, .call 12 [(.t 135)], some (134, true)⟩,
    ⟨some 137, .mov (.t 9), some (134, true)⟩,
    ⟨some 138, .bin .eql false (.t 136) (.t 137), some (134, true)⟩,
    ⟨some 139, .pick (.t 134) (.t 138) (.c (.v (.bool false))), none⟩,
    ⟨some 6, .mov (.t 139), none⟩])
  .ret)))))))))⟩ := by kernel_rfl

set_option maxRecDepth 100000 in
theorem ir5 : compF Try.prog 5 = some ⟨158, [.t 4],
  (.seq (.ops [⟨some 4, .mov (.c (.v (.bool false))), none⟩])
  (.seq (.ops [⟨some 20, .call 7 [], none⟩,
    ⟨some 5, .mov (.t 20), none⟩])
  (.seq (.seq (.ops [⟨some 21, .mov (.t 1), none⟩,
    ⟨some 22, .len false (.t 21), none⟩,
    ⟨some 23, .bin .gtr false (.t 22) (.c (.v (.int .i64 40))), none⟩])
  (.cond (.t 23)
    (.seq (.ops [⟨some 24, .mov (.t 5), none⟩,
      ⟨some 4, .mov (.t 24), none⟩])
    .ret)
    .skip))
  (.seq (.ops [⟨some 25, .mov (.t 0), none⟩,
    ⟨some 26, .conv .i64 (.t 25), none⟩,
    ⟨some 27, .bin .rem false (.t 26) (.c (.v (.int .i64 21))), none⟩,
    ⟨some 6, .mov (.t 27), none⟩])
  (.seq (.ops [⟨some 29, .mov (.t 6), none⟩,
    ⟨some 30, .call 8 [(.t 29)], none⟩,
    ⟨some 28, .mov (.t 30), none⟩,
    ⟨some 31, .extract (.t 28) 0, none⟩,
    ⟨some 32, .extract (.t 28) 1, none⟩,
    ⟨some 7, .alloc (.agg [(.v (.int .i64 0)), (.v (.slice none 0 0)), (.v (.slice none 0 0))]), none⟩,
    ⟨none, .store 3 (.t 7) (.t 31), none⟩,
    ⟨some 8, .mov (.t 32), none⟩])
  (.seq (.seq (.ops [⟨some 33, .mov (.t 8), none⟩,
    ⟨some 34, .bin .neq false (.t 33) (.c (.v (.int .i64 0))), none⟩])
  (.cond (.t 34)
    (.seq (.ops [⟨some 4, .mov (.c (.v (.bool false))), none⟩])
    .ret)
    .skip))
  (.seq (.ops [⟨some 35, .mkmap (.p .u32), none⟩,
    ⟨some 9, .mov (.t 35), none⟩])
  (.seq (.seq (.ops [⟨some 10, .mov (.c (.v (.int .i64 0))), none⟩])
  (.block 0 (.loop
    (.seq (.seq (.ops [⟨some 36, .mov (.t 10), none⟩,
      ⟨some 37, .mov (.t 1), none⟩,
      ⟨some 38, .len false (.t 37), none⟩,
      ⟨some 39, .bin .lss false (.t 36) (.t 38), none⟩])
    (.cond (.t 39)
      .skip
      (.exit 0)))
    (.seq (.block 1 (.seq (.ops [⟨some 43, .mov (.t 9), none⟩,
      ⟨some 44, .mov (.t 1), none⟩,
      ⟨some 45, .mov (.t 10), none⟩,
      ⟨some 46, .iaddr 2 (.t 44) (.t 45), none⟩,
      ⟨some 47, .load 2 true (.t 46), none⟩,
      ⟨some 48, .mget (.p .u32) true (.int .i64 0) (.t 43) (.t 47), none⟩,
      ⟨some 42, .mov (.t 48), none⟩,
      ⟨some 49, .extract (.t 42) 0, none⟩,
      ⟨some 50, .extract (.t 42) 1, none⟩,
      ⟨some 11, .mov (.t 49), none⟩,
      ⟨some 12, .mov (.t 50), none⟩])
    (.seq (.draw [[⟨some 52, .load 3 true (.t 7), none⟩,
        ⟨some 53, .mov (.t 1), none⟩,
        ⟨some 54, .mov (.t 10), none⟩,
        ⟨some 55, .iaddr 2 (.t 53) (.t 54), none⟩,
        ⟨some 56, .iaddrA 2 1 (.t 55) (.c (.v (.int .i64 0))), none⟩,
        ⟨some 57, .load 1 false (.t 56), none⟩,
        ⟨some 58, .mov (.t 1), none⟩,
        ⟨some 59, .mov (.t 10), none⟩,
        ⟨some 60, .iaddr 2 (.t 58) (.t 59), none⟩,
        ⟨some 61, .iaddrA 2 1 (.t 60) (.c (.v (.int .i64 1))), none⟩,
        ⟨some 62, .load 1 false (.t 61), none⟩,
        ⟨some 63, .call 9 [(.t 52), (.t 57), (.t 62)], none⟩,
        ⟨some 51, .mov (.t 63), none⟩,
        ⟨some 64, .extract (.t 51) 0, none⟩,
        ⟨some 65, .extract (.t 51) 1, none⟩,
        ⟨some 66, .extract (.t 51) 2, none⟩,
        ⟨some 67, .extract (.t 51) 3, none⟩,
        ⟨some 13, .alloc (.agg [(.v (.int .i64 0)), (.v (.slice none 0 0)), (.v (.slice none 0 0))]), none⟩,
        ⟨none, .store 3 (.t 13) (.t 64), none⟩,
        ⟨some 14, .mov (.t 65), none⟩,
        ⟨some 15, .mov (.t 66), none⟩],
      [⟨some 16, .mov (.t 67), none⟩]])
    (.seq (.ops [⟨some 68, .mov (.t 12), none⟩,
      ⟨some 69, .un .not (.t 68), none⟩,
      ⟨some 70, .mov (.t 69), none⟩,
      ⟨some 71, .mov (.t 9), some (70, true)⟩,
      ⟨some 72, .mlen (.t 71), some (70, true)⟩,
      ⟨some 73, .mov (.t 6), some (70, true)⟩,
      ⟨some 74, .bin .geq false (.t 72) (.t 73), some (70, true)⟩,
      ⟨some 75, .pick (.t 70) (.t 74) (.c (.v (.bool false))), none⟩,
      ⟨some 17, .mov (.t 75), none⟩])
    (.seq (.seq (.ops [⟨some 76, .mov (.t 16), none⟩,
      ⟨some 77, .bin .eql false (.t 76) (.c (.v (.int .i64 7))), none⟩,
      ⟨some 78, .mov (.t 17), none⟩,
      ⟨some 79, .bin .neq true (.t 77) (.t 78), none⟩,
      ⟨some 80, .mov (.t 79), none⟩,
      ⟨some 81, .mov (.t 16), some (80, false)⟩,
      ⟨some 82, .bin .eql false (.t 81) (.c (.v (.int .i64 0))), some (80, false)⟩,
      ⟨some 83, .mov (.t 17), some (80, false)⟩,
      ⟨some 84, .bin .eql true (.t 82) (.t 83), some (80, false)⟩,
      ⟨some 85, .pick (.t 80) (.c (.v (.bool true))) (.t 84), none⟩,
      ⟨some 86, .mov (.t 85), none⟩,
      ⟨some 87, .mov (.t 15), some (86, false)⟩,
      ⟨some 88, .mov (.t 12), some (86, false)⟩,
      ⟨some 89, .un .not (.t 88), some (86, false)⟩,
      ⟨some 90, .mov (.t 89), some (86, false)⟩,
      ⟨some 91, .mov (.t 17), some (90, true)⟩,
      ⟨some 92, .un .not (.t 91), some (90, true)⟩,
      ⟨some 93, .pick (.t 90) (.t 92) (.c (.v (.bool false))), some (86, false)⟩,
      ⟨some 94, .bin .neq true (.t 87) (.t 93), some (86, false)⟩,
      ⟨some 95, .pick (.t 86) (.c (.v (.bool true))) (.t 94), none⟩,
      ⟨some 96, .mov (.t 95), none⟩,
      ⟨some 97, .mov (.t 12), some (96, false)⟩,
      ⟨some 98, .mov (.t 97), some (96, false)⟩,
      ⟨some 99, .mov (.t 14), some (98, true)⟩,
      ⟨some 100, .mov (.t 11), some (98, true)⟩,
      ⟨some 101, .bin .neq false (.t 99) (.t 100), some (98, true)⟩,
      ⟨some 102, .pick (.t 98) (.t 101) (.c (.v (.bool false))), some (96, false)⟩,
      ⟨some 103, .pick (.t 96) (.c (.v (.bool true))) (.t 102), none⟩,
      ⟨some 104, .mov (.t 103), none⟩,
      ⟨some 105, .mov (.t 17), some (104, false)⟩,
      ⟨some 106, .mov (.t 105), some (104, false)⟩,
      ⟨some 107, .mov (.t 14), some (106, true)⟩,
      ⟨some 108, .bin .neq false (.t 107) (.c (.v (.int .i64 0))), some (106, true)⟩,
      ⟨some 109, .pick (.t 106) (.t 108) (.c (.v (.bool false))), some (104, false)⟩,
      ⟨some 110, .pick (.t 104) (.c (.v (.bool true))) (.t 109), none⟩])
    (.cond (.t 110)
      (.seq (.ops [⟨some 4, .mov (.c (.v (.bool false))), none⟩])
      .ret)
      .skip))
    (.seq (.seq (.ops [⟨some 111, .mov (.t 15), none⟩])
    (.cond (.t 111)
      (.ops [⟨some 112, .mov (.t 9), none⟩,
        ⟨some 113, .mov (.t 1), none⟩,
        ⟨some 114, .mov (.t 10), none⟩,
        ⟨some 115, .iaddr 2 (.t 113) (.t 114), none⟩,
        ⟨some 116, .load 2 true (.t 115), none⟩,
        ⟨some 117, .mov (.t 14), none⟩,
        ⟨none, .mset (.p .u32) (.t 112) (.t 116) (.t 117), none⟩])
      .skip))
    (.seq (.ops [⟨some 118, .load 3 true (.t 13), none⟩,
      ⟨none, .store 3 (.t 7) (.t 118), none⟩])
    (.seq (.draw [[⟨some 120, .load 3 true (.t 7), none⟩,
        ⟨some 121, .mov (.t 1), none⟩,
        ⟨some 122, .mov (.t 10), none⟩,
        ⟨some 123, .iaddr 2 (.t 121) (.t 122), none⟩,
        ⟨some 124, .iaddrA 2 1 (.t 123) (.c (.v (.int .i64 0))), none⟩,
        ⟨some 125, .load 1 false (.t 124), none⟩,
        ⟨some 126, .mov (.t 1), none⟩,
        ⟨some 127, .mov (.t 10), none⟩,
        ⟨some 128, .iaddr 2 (.t 126) (.t 127), none⟩,
        ⟨some 129, .iaddrA 2 1 (.t 128) (.c (.v (.int .i64 1))), none⟩,
        ⟨some 130, .load 1 false (.t 129), none⟩],
      [⟨some 131, .call 10 [(.t 120), (.t 125), (.t 130)], none⟩],
      [⟨some 119, .mov (.t 131), none⟩],
      [⟨some 132, .extract (.t 119) 0, none⟩,
        ⟨some 133, .extract (.t 119) 1, none⟩,
        ⟨some 18, .mov (.t 132), none⟩],
      [⟨some 19, .mov (.t 133), none⟩]])
    (.seq (.ops [⟨some 134, .mov (.t 19), none⟩,
      ⟨some 135, .mov (.t 17), none⟩,
      ⟨some 136, .bin .eql true (.t 134) (.t 135), none⟩,
      ⟨some 137, .mov (.t 136), none⟩,
      ⟨some 138, .mov (.t 19), some (137, false)⟩,
      ⟨some 139, .mov (.t 138), some (137, false)⟩,
      ⟨some 140, .mov (.t 18), some (139, true)⟩,
      ⟨some 141, .mov (.t 9), some (139, true)⟩,
      ⟨some 142, .mov (.t 1), some (139, true)⟩,
      ⟨some 143, .mov (.t 10), some (139, true)⟩,
      ⟨some 144, .iaddr 2 (.t 142) (.t 143), some (139, true)⟩,
      ⟨some 145, .load 2 true (.t 144), some (139, true)⟩,
      ⟨some 146, .mget (.p .u32) false (.int .i64 0) (.t 141) (.t 145), some (139, true)⟩,
      ⟨some 147, .bin .neq false (.t 140) (.t 146), some (139, true)⟩,
      ⟨some 148, .pick (.t 139) (.t 147) (.c (.v (.bool false))), some (137, false)⟩,
      ⟨some 149, .pick (.t 137) (.c (.v (.bool true))) (.t 148), none⟩,
      ⟨some 150, .mov (.t 149), none⟩,
      ⟨some 151, .load 3 true (.t 7), some (150, false)⟩,
      ⟨some 152, .call 12 [(.t 151)], some (150, false)⟩,
      ⟨some 153, .mov (.t 9), some (150, false)⟩,
      ⟨some 154, .mlen (.t 153), some (150, false)⟩,
      ⟨some 155, .bin .neq false (.t 152) (.t 154), some (150, false)⟩,
      ⟨some 156, .pick (.t 150) (.c (.v (.bool true))) (.t 155), none⟩])
    (.cond (.t 156)
      (.seq (.ops [⟨some 4, .mov (.c (.v (.bool false))), none⟩])
      .ret)
      .skip))))))))))
    (.ops [⟨some 40, .mov (.t 10), none⟩,
      ⟨some 41, .bin .add false (.t 40) (.c (.v (.int .i64 1))), none⟩,
      ⟨some 10, .mov (.t 41), none⟩]))))))
  (.seq (.ops [⟨some 157, .mov (.t 5), none⟩,
    ⟨some 4, .mov (.t 157), none⟩])
  .ret)))))))))⟩ := by kernel_rfl

set_option maxRecDepth 100000 in
theorem ir6 : compF Try.prog 6 = some ⟨216, [.t 6],
  (.seq (.ops [⟨some 4, .box (.t 1), none⟩,
    ⟨some 5, .box (.t 2), none⟩,
    ⟨some 6, .mov (.c (.v (.bool false))), none⟩])
  (.seq (.ops [⟨some 35, .call 7 [], none⟩,
    ⟨some 7, .mov (.t 35), none⟩])
  (.seq (.seq (.ops [⟨some 36, .mov (.t 0), none⟩,
    ⟨some 37, .len false (.t 36), none⟩,
    ⟨some 38, .bin .gtr false (.t 37) (.c (.v (.int .i64 40))), none⟩])
  (.cond (.t 38)
    (.seq (.ops [⟨some 39, .mov (.t 7), none⟩,
      ⟨some 6, .mov (.t 39), none⟩])
    .ret)
    .skip))
  (.seq (.ops [⟨some 41, .call 8 [(.c (.v (.int .i64 100)))], none⟩,
    ⟨some 40, .mov (.t 41), none⟩,
    ⟨some 42, .extract (.t 40) 0, none⟩,
    ⟨some 43, .extract (.t 40) 1, none⟩,
    ⟨some 8, .alloc (.agg [(.v (.int .i64 0)), (.v (.slice none 0 0)), (.v (.slice none 0 0))]), none⟩,
    ⟨none, .store 3 (.t 8) (.t 42), none⟩,
    ⟨some 9, .mov (.t 43), none⟩])
  (.seq (.seq (.ops [⟨some 10, .mov (.c (.v (.int .i64 0))), none⟩])
  (.block 0 (.loop
    (.seq (.seq (.ops [⟨some 44, .mov (.t 10), none⟩,
      ⟨some 45, .mov (.t 0), none⟩,
      ⟨some 46, .len false (.t 45), none⟩,
      ⟨some 47, .bin .lss false (.t 44) (.t 46), none⟩])
    (.cond (.t 47)
      .skip
      (.exit 0)))
    (.seq (.block 1 (.seq (.draw [[⟨some 51, .load 3 true (.t 8), none⟩,
        ⟨some 52, .mov (.t 0), none⟩,
        ⟨some 53, .mov (.t 10), none⟩,
        ⟨some 54, .iaddr 2 (.t 52) (.t 53), none⟩,
        ⟨some 55, .iaddrA 2 1 (.t 54) (.c (.v (.int .i64 0))), none⟩,
        ⟨some 56, .load 1 false (.t 55), none⟩,
        ⟨some 57, .mov (.t 0), none⟩,
        ⟨some 58, .mov (.t 10), none⟩,
        ⟨some 59, .iaddr 2 (.t 57) (.t 58), none⟩,
        ⟨some 60, .iaddrA 2 1 (.t 59) (.c (.v (.int .i64 1))), none⟩,
        ⟨some 61, .load 1 false (.t 60), none⟩,
        ⟨some 62, .call 9 [(.t 51), (.t 56), (.t 61)], none⟩,
        ⟨some 50, .mov (.t 62), none⟩,
        ⟨some 63, .extract (.t 50) 0, none⟩,
        ⟨some 64, .extract (.t 50) 1, none⟩,
        ⟨some 65, .extract (.t 50) 2, none⟩,
        ⟨some 66, .extract (.t 50) 3, none⟩,
        ⟨some 11, .alloc (.agg [(.v (.int .i64 0)), (.v (.slice none 0 0)), (.v (.slice none 0 0))]), none⟩,
        ⟨none, .store 3 (.t 11) (.t 63), none⟩,
        ⟨some 12, .mov (.t 64), none⟩,
        ⟨some 13, .mov (.t 65), none⟩],
      [⟨some 14, .mov (.t 66), none⟩]])
    (.seq (.seq (.ops [⟨some 67, .mov (.t 14), none⟩,
      ⟨some 68, .bin .neq false (.t 67) (.c (.v (.int .i64 0))), none⟩])
    (.cond (.t 68)
      (.seq (.ops [⟨some 6, .mov (.c (.v (.bool false))), none⟩])
      .ret)
      .skip))
    (.ops [⟨some 69, .load 3 true (.t 11), none⟩,
      ⟨none, .store 3 (.t 8) (.t 69), none⟩]))))
    (.ops [⟨some 48, .mov (.t 10), none⟩,
      ⟨some 49, .bin .add false (.t 48) (.c (.v (.int .i64 1))), none⟩,
      ⟨some 10, .mov (.t 49), none⟩]))))))
  (.seq (.ops [⟨some 70, .load 3 true (.t 8), none⟩,
    ⟨some 71, .call 12 [(.t 70)], none⟩,
    ⟨some 15, .mov (.t 71), none⟩])
  (.seq (.ops [⟨some 73, .load 3 true (.t 8), none⟩,
    ⟨some 74, .iaddrA 2 1 (.t 4) (.c (.v (.int .i64 0))), none⟩,
    ⟨some 75, .load 1 false (.t 74), none⟩,
    ⟨some 76, .iaddrA 2 1 (.t 4) (.c (.v (.int .i64 1))), none⟩,
    ⟨some 77, .load 1 false (.t 76), none⟩,
    ⟨some 78, .call 10 [(.t 73), (.t 75), (.t 77)], none⟩,
    ⟨some 72, .mov (.t 78), none⟩,
    ⟨some 79, .extract (.t 72) 0, none⟩,
    ⟨some 80, .extract (.t 72) 1, none⟩,
    ⟨some 16, .mov (.t 79), none⟩,
    ⟨some 17, .mov (.t 80), none⟩])
  (.seq (.ops [⟨some 82, .load 3 true (.t 8), none⟩,
    ⟨some 83, .iaddrA 2 1 (.t 4) (.c (.v (.int .i64 0))), none⟩,
    ⟨some 84, .load 1 false (.t 83), none⟩,
    ⟨some 85, .iaddrA 2 1 (.t 4) (.c (.v (.int .i64 1))), none⟩,
    ⟨some 86, .load 1 false (.t 85), none⟩,
    ⟨some 87, .call 9 [(.t 82), (.t 84), (.t 86)], none⟩,
    ⟨some 81, .mov (.t 87), none⟩,
    ⟨some 88, .extract (.t 81) 0, none⟩,
    ⟨some 89, .extract (.t 81) 1, none⟩,
    ⟨some 90, .extract (.t 81) 2, none⟩,
    ⟨some 91, .extract (.t 81) 3, none⟩,
    ⟨some 18, .alloc (.agg [(.v (.int .i64 0)), (.v (.slice none 0 0)), (.v (.slice none 0 0))]), none⟩,
    ⟨none, .store 3 (.t 18) (.t 88), none⟩,
    ⟨some 19, .mov (.t 89), none⟩,
    ⟨some 20, .mov (.t 90), none⟩,
    ⟨some 21, .mov (.t 91), none⟩])
  (.seq (.ops [⟨some 93, .load 3 true (.t 8), none⟩,
    ⟨some 94, .iaddrA 2 1 (.t 5) (.c (.v (.int .i64 0))), none⟩,
    ⟨some 95, .load 1 false (.t 94), none⟩,
    ⟨some 96, .iaddrA 2 1 (.t 5) (.c (.v (.int .i64 1))), none⟩,
    ⟨some 97, .load 1 false (.t 96), none⟩,
    ⟨some 98, .call 9 [(.t 93), (.t 95), (.t 97)], none⟩,
    ⟨some 92, .mov (.t 98), none⟩,
    ⟨some 99, .extract (.t 92) 0, none⟩,
    ⟨some 100, .extract (.t 92) 1, none⟩,
    ⟨some 101, .extract (.t 92) 2, none⟩,
    ⟨some 102, .extract (.t 92) 3, none⟩,
    ⟨some 22, .alloc (.agg [(.v (.int .i64 0)), (.v (.slice none 0 0)), (.v (.slice none 0 0))]), none⟩,
    ⟨none, .store 3 (.t 22) (.t 99), none⟩,
    ⟨some 23, .mov (.t 100), none⟩,
    ⟨some 24, .mov (.t 101), none⟩,
    ⟨some 25, .mov (.t 102), none⟩])
  (.seq (.ops [⟨some 104, .load 3 true (.t 8), none⟩,
    ⟨some 105, .iaddrA 2 1 (.t 4) (.c (.v (.int .i64 0))), none⟩,
    ⟨some 106, .load 1 false (.t 105), none⟩,
    ⟨some 107, .iaddrA 2 1 (.t 4) (.c (.v (.int .i64 1))), none⟩,
    ⟨some 108, .load 1 false (.t 107), none⟩,
    ⟨some 109, .call 10 [(.t 104), (.t 106), (.t 108)], none⟩,
    ⟨some 103, .mov (.t 109), none⟩,
    ⟨some 110, .extract (.t 103) 0, none⟩,
    ⟨some 111, .extract (.t 103) 1, none⟩,
    ⟨some 26, .mov (.t 110), none⟩,
    ⟨some 27, .mov (.t 111), none⟩])
  (.seq (.ops [⟨some 113, .load 3 true (.t 8), none⟩,
    ⟨some 114, .mov (.t 15), none⟩,
    ⟨some 115, .call 11 [(.t 113), (.t 114)], none⟩,
    ⟨some 112, .mov (.t 115), none⟩,
    ⟨some 116, .extract (.t 112) 0, none⟩,
    ⟨some 117, .extract (.t 112) 1, none⟩,
    ⟨some 118, .extract (.t 112) 2, none⟩,
    ⟨some 28, .mov (.t 116), none⟩,
    ⟨some 29, .mov (.t 117), none⟩,
    ⟨some 30, .mov (.t 118), none⟩])
  (.seq (.ops [⟨some 120, .load 3 true (.t 18), none⟩,
    ⟨some 121, .iaddrA 2 1 (.t 4) (.c (.v (.int .i64 0))), none⟩,
    ⟨some 122, .load 1 false (.t 121), none⟩,
    ⟨some 123, .iaddrA 2 1 (.t 4) (.c (.v (.int .i64 1))), none⟩,
    ⟨some 124, .load 1 false (.t 123), none⟩,
    ⟨some 125, .call 10 [(.t 120), (.t 122), (.t 124)], none⟩,
    ⟨some 119, .mov (.t 125), none⟩,
    ⟨some 126, .extract (.t 119) 0, none⟩,
    ⟨some 127, .extract (.t 119) 1, none⟩,
    ⟨some 31, .mov (.t 126), none⟩,
    ⟨some 32, .mov (.t 127), none⟩])
  (.seq (.ops [⟨some 129, .load 3 true (.t 22), none⟩,
    ⟨some 130, .iaddrA 2 1 (.t 4) (.c (.v (.int .i64 0))), none⟩,
    ⟨some 131, .load 1 false (.t 130), none⟩,
    ⟨some 132, .iaddrA 2 1 (.t 4) (.c (.v (.int .i64 1))), none⟩,
    ⟨some 133, .load 1 false (.t 132), none⟩,
    ⟨some 134, .call 10 [(.t 129), (.t 131), (.t 133)], none⟩,
    ⟨some 128, .mov (.t 134), none⟩,
    ⟨some 135, .extract (.t 128) 0, none⟩,
    ⟨some 136, .extract (.t 128) 1, none⟩,
    ⟨some 33, .mov (.t 135), none⟩,
    ⟨some 34, .mov (.t 136), none⟩])
  (.seq (.ops [⟨some 137, .mov (.t 7), none⟩,
    ⟨some 138, .mov (.t 137), none⟩,
    ⟨some 139, .mov (.t 9), some (138, true)⟩,
    ⟨some 140, .bin .eql false (.t 139) (.c (.v (.int .i64 0))), some (138, true)⟩,
    ⟨some 141, .pick (.t 138) (.t 140) (.c (.v (.bool false))), none⟩,
    ⟨some 142, .mov (.t 141), none⟩,
    ⟨some 143, .mov (.t 21), some (142, true)⟩,
    ⟨some 144, .bin .eql false (.t 143) (.c (.v (.int .i64 0))), some (142, true)⟩,
    ⟨some 145, .pick (.t 142) (.t 144) (.c (.v (.bool false))), none⟩,
    ⟨some 146, .mov (.t 145), none⟩,
    ⟨some 147, .mov (.t 25), some (146, true)⟩,
    ⟨some 148, .bin .eql false (.t 147) (.c (.v (.int .i64 0))), some (146, true)⟩,
    ⟨some 149, .pick (.t 146) (.t 148) (.c (.v (.bool false))), none⟩,
    ⟨some 150, .mov (.t 149), none⟩,
    ⟨some 151, .load 3 true (.t 8), some (150, true)⟩,
    ⟨some 152, .call 12 [(.t 151)], some (150, true)⟩,
    ⟨some 153, .mov (.t 15), some (150, true)⟩,
    ⟨some 154, .bin .eql false (.t 152) (.t 153), some (150, true)⟩,
    ⟨some 155, .pick (.t 150) (.t 154) (.c (.v (.bool false))), none⟩,
    ⟨some 156, .mov (.t 155), none⟩,
    ⟨some 157, .mov (.t 27), some (156, true)⟩,
    ⟨some 158, .mov (.t 17), some (156, true)⟩,
    ⟨some 159, .bin .eql true (.t 157) (.t 158), some (156, true)⟩,
    ⟨some 160, .pick (.t 156) (.t 159) (.c (.v (.bool false))), none⟩,
    ⟨some 161, .mov (.t 160), none⟩,
    ⟨some 162, .mov (.t 26), some (161, true)⟩,
    ⟨some 163, .mov (.t 16), some (161, true)⟩,
    ⟨some 164, .bin .eql false (.t 162) (.t 163), some (161, true)⟩,
    ⟨some 165, .pick (.t 161) (.t 164) (.c (.v (.bool false))), none⟩,
    ⟨some 166, .mov (.t 165), none⟩,
    ⟨some 167, .mov (.t 20), some (166, true)⟩,
    ⟨some 168, .mov (.t 17), some (166, true)⟩,
    ⟨some 169, .un .not (.t 168), some (166, true)⟩,
    ⟨some 170, .bin .eql true (.t 167) (.t 169), some (166, true)⟩,
    ⟨some 171, .pick (.t 166) (.t 170) (.c (.v (.bool false))), none⟩,
    ⟨some 172, .mov (.t 171), none⟩,
    ⟨some 173, .mov (.t 30), some (172, true)⟩,
    ⟨some 174, .bin .eql false (.t 173) (.c (.v (.int .i64 10))), some (172, true)⟩,
    ⟨some 175, .pick (.t 172) (.t 174) (.c (.v (.bool false))), none⟩,
    ⟨some 176, .mov (.t 175), none⟩,
    ⟨some 177, .mov (.t 28), some (176, true)⟩,
    ⟨some 178, .bin .eql false (.t 177) (.c (.v (.int .u32 0))), some (176, true)⟩,
    ⟨some 179, .pick (.t 176) (.t 178) (.c (.v (.bool false))), none⟩,
    ⟨some 180, .mov (.t 179), none⟩,
    ⟨some 181, .mov (.t 32), some (180, true)⟩,
    ⟨some 182, .pick (.t 180) (.t 181) (.c (.v (.bool false))), none⟩,
    ⟨some 183, .mov (.t 182), none⟩,
    ⟨some 184, .mov (.t 31), some (183, true)⟩,
    ⟨some 185, .mov (.t 19), some (183, true)⟩,
    ⟨some 186, .bin .eql false (.t 184) (.t 185), some (183, true)⟩,
    ⟨some 187, .pick (.t 183) (.t 186) (.c (.v (.bool false))), none⟩,
    ⟨some 188, .mov (.t 187), none⟩,
    ⟨some 189, .mov (.t 20), some (188, true)⟩,
    ⟨some 190, .un .not (.t 189), some (188, true)⟩,
    ⟨some 191, .mov (.t 190), some (188, true)⟩,
    ⟨some 192, .mov (.t 19), some (191, false)⟩,
    ⟨some 193, .mov (.t 15), some (191, false)⟩,
    ⟨some 194, .bin .eql false (.t 192) (.t 193), some (191, false)⟩,
    ⟨some 195, .pick (.t 191) (.c (.v (.bool true))) (.t 194), some (188, true)⟩,
    ⟨some 196, .pick (.t 188) (.t 195) (.c (.v (.bool false))), none⟩,
    ⟨some 197, .mov (.t 196), none⟩,
    ⟨some 198, .mov (.t 24), some (197, true)⟩,
    ⟨some 199, .un .not (.t 198), some (197, true)⟩,
    ⟨some 200, .mov (.t 199), some (197, true)⟩,
    ⟨some 201, .mov (.t 23), some (200, false)⟩,
    ⟨some 202, .mov (.t 15), some (200, false)⟩,
    ⟨some 203, .bin .eql false (.t 201) (.t 202), some (200, false)⟩,
    ⟨some 204, .pick (.t 200) (.c (.v (.bool true))) (.t 203), some (197, true)⟩,
    ⟨some 205, .pick (.t 197) (.t 204) (.c (.v (.bool false))), none⟩,
    ⟨some 206, .mov (.t 205), none⟩,
    ⟨some 207, .mov (.t 34), some (206, true)⟩,
    ⟨some 208, .mov (.t 17), some (206, true)⟩,
    ⟨some 209, .mov (.t 208), some (206, true)⟩,
    ⟨some 210, .load 2 true (.t 4), some (209, false)⟩,
    ⟨some 211, .load 2 true (.t 5), some (209, false)⟩,
    ⟨some 212, .eq2 .u32 (.t 210) (.t 211), some (209, false)⟩,
    ⟨some 213, .pick (.t 209) (.c (.v (.bool true))) (.t 212), some (206, true)⟩,
    ⟨some 214, .bin .eql true (.t 207) (.t 213), some (206, true)⟩,
    ⟨some 215, .pick (.t 206) (.t 214) (.c (.v (.bool false))), none⟩,
    ⟨some 6, .mov (.t 215), none⟩])
  .ret))))))))))))))⟩ := by kernel_rfl

set_option maxRecDepth 100000 in
theorem ir7 : compF Try.prog 7 = some ⟨165, [.t 0],
  (.seq (.ops [⟨some 0, .mov (.c (.v (.bool false))), none⟩])
  (.seq (.ops [⟨some 32, .call 8 [(.c (.v (.int .i64 2)))], none⟩,
    ⟨some 31, .mov (.t 32), none⟩,
    ⟨some 33, .extract (.t 31) 0, none⟩,
    ⟨some 34, .extract (.t 31) 1, none⟩,
    ⟨some 1, .alloc (.agg [(.v (.int .i64 0)), (.v (.slice none 0 0)), (.v (.slice none 0 0))]), none⟩,
    ⟨none, .store 3 (.t 1) (.t 33), none⟩,
    ⟨some 2, .mov (.t 34), none⟩])
  (.seq (.ops [⟨some 36, .load 3 true (.t 1), none⟩,
    ⟨some 37, .call 9 [(.t 36), (.c (.v (.int .u32 1))), (.c (.v (.int .u32 2)))], none⟩,
    ⟨some 35, .mov (.t 37), none⟩,
    ⟨some 38, .extract (.t 35) 0, none⟩,
    ⟨some 39, .extract (.t 35) 1, none⟩,
    ⟨some 40, .extract (.t 35) 2, none⟩,
    ⟨some 41, .extract (.t 35) 3, none⟩,
    ⟨some 3, .alloc (.agg [(.v (.int .i64 0)), (.v (.slice none 0 0)), (.v (.slice none 0 0))]), none⟩,
    ⟨none, .store 3 (.t 3) (.t 38), none⟩,
    ⟨some 4, .mov (.t 39), none⟩,
    ⟨some 5, .mov (.t 40), none⟩,
    ⟨some 6, .mov (.t 41), none⟩])
  (.seq (.ops [⟨some 43, .load 3 true (.t 3), none⟩,
    ⟨some 44, .call 9 [(.t 43), (.c (.v (.int .u32 2))), (.c (.v (.int .u32 1)))], none⟩,
    ⟨some 42, .mov (.t 44), none⟩,
    ⟨some 45, .extract (.t 42) 0, none⟩,
    ⟨some 46, .extract (.t 42) 1, none⟩,
    ⟨some 47, .extract (.t 42) 2, none⟩,
    ⟨some 48, .extract (.t 42) 3, none⟩,
    ⟨some 7, .alloc (.agg [(.v (.int .i64 0)), (.v (.slice none 0 0)), (.v (.slice none 0 0))]), none⟩,
    ⟨none, .store 3 (.t 7) (.t 45), none⟩,
    ⟨some 8, .mov (.t 46), none⟩,
    ⟨some 9, .mov (.t 47), none⟩,
    ⟨some 10, .mov (.t 48), none⟩])
  (.seq (.ops [⟨some 50, .load 3 true (.t 7), none⟩,
    ⟨some 51, .call 9 [(.t 50), (.c (.v (.int .u32 1))), (.c (.v (.int .u32 2)))], none⟩,
    ⟨some 49, .mov (.t 51), none⟩,
    ⟨some 52, .extract (.t 49) 0, none⟩,
    ⟨some 53, .extract (.t 49) 1, none⟩,
    ⟨some 54, .extract (.t 49) 2, none⟩,
    ⟨some 55, .extract (.t 49) 3, none⟩,
    ⟨some 11, .alloc (.agg [(.v (.int .i64 0)), (.v (.slice none 0 0)), (.v (.slice none 0 0))]), none⟩,
    ⟨none, .store 3 (.t 11) (.t 52), none⟩,
    ⟨some 12, .mov (.t 53), none⟩,
    ⟨some 13, .mov (.t 54), none⟩,
    ⟨some 14, .mov (.t 55), none⟩])
  (.seq (.ops [⟨some 57, .load 3 true (.t 7), none⟩,
    ⟨some 58, .call 9 [(.t 57), (.c (.v (.int .u32 2))), (.c (.v (.int .u32 2)))], none⟩,
    ⟨some 56, .mov (.t 58), none⟩,
    ⟨some 59, .extract (.t 56) 0, none⟩,
    ⟨some 60, .extract (.t 56) 1, none⟩,
    ⟨some 61, .extract (.t 56) 2, none⟩,
    ⟨some 62, .extract (.t 56) 3, none⟩,
    ⟨some 15, .alloc (.agg [(.v (.int .i64 0)), (.v (.slice none 0 0)), (.v (.slice none 0 0))]), none⟩,
    ⟨none, .store 3 (.t 15) (.t 59), none⟩,
    ⟨some 16, .mov (.t 60), none⟩,
    ⟨some 17, .mov (.t 61), none⟩,
    ⟨some 18, .mov (.t 62), none⟩])
  (.seq (.ops [⟨some 64, .load 3 true (.t 7), none⟩,
    ⟨some 65, .call 10 [(.t 64), (.c (.v (.int .u32 2))), (.c (.v (.int .u32 1)))], none⟩,
    ⟨some 63, .mov (.t 65), none⟩,
    ⟨some 66, .extract (.t 63) 0, none⟩,
    ⟨some 67, .extract (.t 63) 1, none⟩,
    ⟨some 19, .mov (.t 66), none⟩,
    ⟨some 20, .mov (.t 67), none⟩])
  (.seq (.ops [⟨some 69, .load 3 true (.t 3), none⟩,
    ⟨some 70, .call 10 [(.t 69), (.c (.v (.int .u32 2))), (.c (.v (.int .u32 1)))], none⟩,
    ⟨some 68, .mov (.t 70), none⟩,
    ⟨some 71, .extract (.t 68) 0, none⟩,
    ⟨some 72, .extract (.t 68) 1, none⟩,
    ⟨some 21, .mov (.t 71), none⟩,
    ⟨some 22, .mov (.t 72), none⟩])
  (.seq (.ops [⟨some 74, .load 3 true (.t 7), none⟩,
    ⟨some 75, .call 11 [(.t 74), (.c (.v (.int .i64 1)))], none⟩,
    ⟨some 73, .mov (.t 75), none⟩,
    ⟨some 76, .extract (.t 73) 0, none⟩,
    ⟨some 77, .extract (.t 73) 1, none⟩,
    ⟨some 78, .extract (.t 73) 2, none⟩,
    ⟨some 23, .mov (.t 76), none⟩,
    ⟨some 24, .mov (.t 77), none⟩,
    ⟨some 25, .mov (.t 78), none⟩])
  (.seq (.ops [⟨some 80, .load 3 true (.t 7), none⟩,
    ⟨some 81, .call 11 [(.t 80), (.c (.v (.int .i64 2)))], none⟩,
    ⟨some 79, .mov (.t 81), none⟩,
    ⟨some 82, .extract (.t 79) 0, none⟩,
    ⟨some 83, .extract (.t 79) 1, none⟩,
    ⟨some 84, .extract (.t 79) 2, none⟩,
    ⟨some 26, .mov (.t 82), none⟩,
    ⟨some 27, .mov (.t 83), none⟩,
    ⟨some 28, .mov (.t 84), none⟩])
  (.seq (.ops [⟨some 86, .call 8 [(.c (.v (.int .i64 (-1))))], none⟩,
    ⟨some 85, .mov (.t 86), none⟩,
    ⟨some 87, .extract (.t 85) 0, none⟩,
    ⟨some 88, .extract (.t 85) 1, none⟩,
    ⟨some 29, .alloc (.agg [(.v (.int .i64 0)), (.v (.slice none 0 0)), (.v (.slice none 0 0))]), none⟩,
    ⟨none, .store 3 (.t 29) (.t 87), none⟩,
    ⟨some 30, .mov (.t 88), none⟩])
  (.seq (.ops [⟨some 89, .mov (.t 2), none⟩,
    ⟨some 90, .bin .eql false (.t 89) (.c (.v (.int .i64 0))), none⟩,
    ⟨some 91, .mov (.t 90), none⟩,
    ⟨some 92, .mov (.t 4), some (91, true)⟩,
    ⟨some 93, .bin .eql false (.t 92) (.c (.v (.int .i64 0))), some (91, true)⟩,
    ⟨some 94, .pick (.t 91) (.t 93) (.c (.v (.bool false))), none⟩,
    ⟨some 95, .mov (.t 94), none⟩,
    ⟨some 96, .mov (.t 5), some (95, true)⟩,
    ⟨some 97, .pick (.t 95) (.t 96) (.c (.v (.bool false))), none⟩,
    ⟨some 98, .mov (.t 97), none⟩,
    ⟨some 99, .mov (.t 6), some (98, true)⟩,
    ⟨some 100, .bin .eql false (.t 99) (.c (.v (.int .i64 0))), some (98, true)⟩,
    ⟨some 101, .pick (.t 98) (.t 100) (.c (.v (.bool false))), none⟩,
    ⟨some 102, .mov (.t 101), none⟩,
    ⟨some 103, .mov (.t 8), some (102, true)⟩,
    ⟨some 104, .bin .eql false (.t 103) (.c (.v (.int .i64 1))), some (102, true)⟩,
    ⟨some 105, .pick (.t 102) (.t 104) (.c (.v (.bool false))), none⟩,
    ⟨some 106, .mov (.t 105), none⟩,
    ⟨some 107, .mov (.t 9), some (106, true)⟩,
    ⟨some 108, .pick (.t 106) (.t 107) (.c (.v (.bool false))), none⟩,
    ⟨some 109, .mov (.t 108), none⟩,
    ⟨some 110, .mov (.t 10), some (109, true)⟩,
    ⟨some 111, .bin .eql false (.t 110) (.c (.v (.int .i64 0))), some (109, true)⟩,
    ⟨some 112, .pick (.t 109) (.t 111) (.c (.v (.bool false))), none⟩,
    ⟨some 113, .mov (.t 112), none⟩,
    ⟨some 114, .mov (.t 12), some (113, true)⟩,
    ⟨some 115, .bin .eql false (.t 114) (.c (.v (.int .i64 0))), some (113, true)⟩,
    ⟨some 116, .pick (.t 113) (.t 115) (.c (.v (.bool false))), none⟩,
    ⟨some 117, .mov (.t 116), none⟩,
    ⟨some 118, .mov (.t 13), some (117, true)⟩,
    ⟨some 119, .un .not (.t 118), some (117, true)⟩,
    ⟨some 120, .pick (.t 117) (.t 119) (.c (.v (.bool false))), none⟩,
    ⟨some 121, .mov (.t 120), none⟩,
    ⟨some 122, .mov (.t 14), some (121, true)⟩,
    ⟨some 123, .bin .eql false (.t 122) (.c (.v (.int .i64 0))), some (121, true)⟩,
    ⟨some 124, .pick (.t 121) (.t 123) (.c (.v (.bool false))), none⟩,
    ⟨some 125, .mov (.t 124), none⟩,
    ⟨some 126, .mov (.t 18), some (125, true)⟩,
    ⟨some 127, .bin .eql false (.t 126) (.c (.v (.int .i64 7))), some (125, true)⟩,
    ⟨some 128, .pick (.t 125) (.t 127) (.c (.v (.bool false))), none⟩,
    ⟨some 129, .mov (.t 128), none⟩,
    ⟨some 130, .mov (.t 19), some (129, true)⟩,
    ⟨some 131, .bin .eql false (.t 130) (.c (.v (.int .i64 1))), some (129, true)⟩,
    ⟨some 132, .pick (.t 129) (.t 131) (.c (.v (.bool false))), none⟩,
    ⟨some 133, .mov (.t 132), none⟩,
    ⟨some 134, .mov (.t 20), some (133, true)⟩,
    ⟨some 135, .pick (.t 133) (.t 134) (.c (.v (.bool false))), none⟩,
    ⟨some 136, .mov (.t 135), none⟩,
    ⟨some 137, .mov (.t 22), some (136, true)⟩,
    ⟨some 138, .un .not (.t 137), some (136, true)⟩,
    ⟨some 139, .pick (.t 136) (.t 138) (.c (.v (.bool false))), none⟩,
    ⟨some 140, .mov (.t 139), none⟩,
    ⟨some 141, .mov (.t 23), some (140, true)⟩,
    ⟨some 142, .bin .eql false (.t 141) (.c (.v (.int .u32 2))), some (140, true)⟩,
    ⟨some 143, .pick (.t 140) (.t 142) (.c (.v (.bool false))), none⟩,
    ⟨some 144, .mov (.t 143), none⟩,
    ⟨some 145, .mov (.t 24), some (144, true)⟩,
    ⟨some 146, .bin .eql false (.t 145) (.c (.v (.int .u32 1))), some (144, true)⟩,
    ⟨some 147, .pick (.t 144) (.t 146) (.c (.v (.bool false))), none⟩,
    ⟨some 148, .mov (.t 147), none⟩,
    ⟨some 149, .mov (.t 25), some (148, true)⟩,
    ⟨some 150, .bin .eql false (.t 149) (.c (.v (.int .i64 0))), some (148, true)⟩,
    ⟨some 151, .pick (.t 148) (.t 150) (.c (.v (.bool false))), none⟩,
    ⟨some 152, .mov (.t 151), none⟩,
    ⟨some 153, .mov (.t 28), some (152, true)⟩,
    ⟨some 154, .bin .eql false (.t 153) (.c (.v (.int .i64 10))), some (152, true)⟩,
    ⟨some 155, .pick (.t 152) (.t 154) (.c (.v (.bool false))), none⟩,
    ⟨some 156, .mov (.t 155), none⟩,
    ⟨some 157, .mov (.t 30), some (156, true)⟩,
    ⟨some 158, .bin .eql false (.t 157) (.c (.v (.int .i64 1))), some (156, true)⟩,
    ⟨some 159, .pick (.t 156) (.t 158) (.c (.v (.bool false))), none⟩,
    ⟨some 160, .mov (.t 159), none⟩,
    ⟨some 161, .load 3 true (.t 7), some (160, true)⟩,
    ⟨some 162, .call 12 [(.t 161)], some (160, true)⟩,
    ⟨some 163, .bin .eql false (.t 162) (.c (.v (.int .i64 2))), some (160, true)⟩,
    ⟨some 164, .pick (.t 160) (.t 163) (.c (.v (.bool false))), none⟩,
    ⟨some 0, .mov (.t 164), none⟩])
  .ret))))))))))))⟩ := by kernel_rfl

theorem ir8 : compF Try.prog 8 = some ⟨14, [.c 2 3 true, .t 3],
  (.seq (.ops [⟨some 2, .alloc (.agg [(.v (.int .i64 0)), (.v (.slice none 0 0)), (.v (.slice none 0 0))]), none⟩,
    ⟨some 3, .mov (.c (.v (.int .i64 0))), none⟩])
  (.seq (.ops [⟨some 7, .mov (.t 0), none⟩,
    ⟨some 8, .call 13 [(.t 7)], none⟩,
    ⟨some 6, .mov (.t 8), none⟩,
    ⟨some 9, .extract (.t 6) 0, none⟩,
    ⟨some 10, .extract (.t 6) 1, none⟩,
    ⟨some 4, .alloc (.agg [(.v (.int .i64 0)), (.v (.slice none 0 0)), (.v (.slice none 0 0))]), none⟩,
    ⟨none, .store 3 (.t 4) (.t 9), none⟩,
    ⟨some 5, .mov (.t 10), none⟩])
  (.seq (.ops [⟨some 11, .load 3 true (.t 4), none⟩,
    ⟨some 12, .build [(.v (.int .i64 0)), (.v (.slice none 0 0)), (.v (.slice none 0 0))] [(0, 3, (.t 11))], none⟩,
    ⟨some 13, .mov (.t 5), none⟩,
    ⟨none, .store 3 (.t 2) (.t 12), none⟩,
    ⟨some 3, .mov (.t 13), none⟩])
  .ret)))⟩ := by kernel_rfl

theorem ir9 : compF Try.prog 9 = some ⟨31, [.c 6 3 true, .t 7, .t 8, .t 9],
  (.seq (.ops [⟨some 3, .box (.t 0), none⟩,
    ⟨some 6, .alloc (.agg [(.v (.int .i64 0)), (.v (.slice none 0 0)), (.v (.slice none 0 0))]), none⟩,
    ⟨some 7, .mov (.c (.v (.int .i64 0))), none⟩,
    ⟨some 8, .mov (.c (.v (.bool false))), none⟩,
    ⟨some 9, .mov (.c (.v (.int .i64 0))), none⟩])
  (.seq (.draw [[⟨some 15, .faddr 0 (.t 3), none⟩,
      ⟨some 16, .load 3 true (.t 15), none⟩,
      ⟨some 17, .mov (.t 1), none⟩,
      ⟨some 18, .mov (.t 2), none⟩,
      ⟨some 19, .call 15 [(.t 17), (.t 18)], none⟩,
      ⟨some 20, .call 16 [(.t 19)], none⟩,
      ⟨some 21, .call 14 [(.t 16), (.t 20)], none⟩,
      ⟨some 14, .mov (.t 21), none⟩,
      ⟨some 22, .extract (.t 14) 0, none⟩,
      ⟨some 23, .extract (.t 14) 1, none⟩,
      ⟨some 24, .extract (.t 14) 2, none⟩,
      ⟨some 25, .extract (.t 14) 3, none⟩,
      ⟨some 10, .alloc (.agg [(.v (.int .i64 0)), (.v (.slice none 0 0)), (.v (.slice none 0 0))]), none⟩,
      ⟨none, .store 3 (.t 10) (.t 22), none⟩,
      ⟨some 11, .mov (.t 23), none⟩,
      ⟨some 12, .mov (.t 24), none⟩],
    [⟨some 13, .mov (.t 25), none⟩]])
  (.seq (.ops [⟨some 26, .load 3 true (.t 10), none⟩,
    ⟨some 27, .build [(.v (.int .i64 0)), (.v (.slice none 0 0)), (.v (.slice none 0 0))] [(0, 3, (.t 26))], none⟩,
    ⟨some 28, .mov (.t 11), none⟩,
    ⟨some 29, .mov (.t 12), none⟩,
    ⟨some 30, .mov (.t 13), none⟩,
    ⟨none, .store 3 (.t 6) (.t 27), none⟩,
    ⟨some 7, .mov (.t 28), none⟩,
    ⟨some 8, .mov (.t 29), none⟩,
    ⟨some 9, .mov (.t 30), none⟩])
  .ret)))⟩ := by kernel_rfl

theorem ir10 : compF Try.prog 10 = some ⟨17, [.t 6, .t 7],
  (.seq (.ops [⟨some 3, .box (.t 0), none⟩,
    ⟨some 6, .mov (.c (.v (.int .i64 0))), none⟩,
    ⟨some 7, .mov (.c (.v (.bool false))), none⟩])
  (.seq (.draw [[⟨some 8, .faddr 0 (.t 3), none⟩,
      ⟨some 9, .load 3 true (.t 8), none⟩,
      ⟨some 10, .mov (.t 1), none⟩,
      ⟨some 11, .mov (.t 2), none⟩,
      ⟨some 12, .call 15 [(.t 10), (.t 11)], none⟩,
      ⟨some 13, .call 16 [(.t 12)], none⟩],
    [⟨some 14, .call 17 [(.t 9), (.t 13)], none⟩],
    [⟨some 15, .extract (.t 14) 0, none⟩,
      ⟨some 16, .extract (.t 14) 1, none⟩],
    [⟨some 6, .mov (.t 15), none⟩],
    [⟨some 7, .mov (.t 16), none⟩]])
  .ret))⟩ := by kernel_rfl

theorem ir11 : compF Try.prog 11 = some ⟨30, [.t 4, .t 5, .t 6],
  (.seq (.ops [⟨some 2, .box (.t 0), none⟩,
    ⟨some 4, .mov (.c (.v (.int .u32 0))), none⟩,
    ⟨some 5, .mov (.c (.v (.int .u32 0))), none⟩,
    ⟨some 6, .mov (.c (.v (.int .i64 0))), none⟩])
  (.seq (.ops [⟨some 12, .faddr 0 (.t 2), none⟩,
    ⟨some 13, .load 3 true (.t 12), none⟩,
    ⟨some 14, .mov (.t 1), none⟩,
    ⟨some 15, .call 18 [(.t 13), (.t 14)], none⟩,
    ⟨some 11, .mov (.t 15), none⟩,
    ⟨some 16, .extract (.t 11) 0, none⟩,
    ⟨some 17, .extract (.t 11) 1, none⟩,
    ⟨some 7, .mov (.t 16), none⟩,
    ⟨some 8, .mov (.t 17), none⟩])
  (.seq (.seq (.ops [⟨some 18, .mov (.t 8), none⟩,
    ⟨some 19, .bin .neq false (.t 18) (.c (.v (.int .i64 0))), none⟩])
  (.cond (.t 19)
    (.seq (.ops [⟨some 20, .mov (.t 8), none⟩,
      ⟨some 4, .mov (.c (.v (.int .u32 0))), none⟩,
      ⟨some 5, .mov (.c (.v (.int .u32 0))), none⟩,
      ⟨some 6, .mov (.t 20), none⟩])
    .ret)
    .skip))
  (.seq (.ops [⟨some 22, .mov (.t 7), none⟩,
    ⟨some 23, .s2ap 8 (.t 22), none⟩,
    ⟨some 24, .load 8 true (.t 23), none⟩,
    ⟨some 25, .call 19 [(.t 24)], none⟩,
    ⟨some 21, .mov (.t 25), none⟩,
    ⟨some 26, .extract (.t 21) 0, none⟩,
    ⟨some 27, .extract (.t 21) 1, none⟩,
    ⟨some 9, .mov (.t 26), none⟩,
    ⟨some 10, .mov (.t 27), none⟩])
  (.seq (.ops [⟨some 28, .mov (.t 9), none⟩,
    ⟨some 29, .mov (.t 10), none⟩,
    ⟨some 4, .mov (.t 28), none⟩,
    ⟨some 5, .mov (.t 29), none⟩,
    ⟨some 6, .mov (.c (.v (.int .i64 0))), none⟩])
  .ret)))))⟩ := by kernel_rfl

theorem ir12 : compF Try.prog 12 = some ⟨6, [.t 2],
  (.seq (.ops [⟨some 1, .box (.t 0), none⟩,
    ⟨some 2, .mov (.c (.v (.int .i64 0))), none⟩])
  (.seq (.ops [⟨some 3, .faddr 0 (.t 1), none⟩,
    ⟨some 4, .load 3 true (.t 3), none⟩,
    ⟨some 5, .call 20 [(.t 4)], none⟩,
    ⟨some 2, .mov (.t 5), none⟩])
  .ret))⟩ := by kernel_rfl

theorem ir13 : compF Try.prog 13 = some ⟨14, [.c 2 3 true, .t 3],
  (.seq (.ops [⟨some 2, .alloc (.agg [(.v (.int .i64 0)), (.v (.slice none 0 0)), (.v (.slice none 0 0))]), none⟩,
    ⟨some 3, .mov (.c (.v (.int .i64 0))), none⟩])
  (.seq (.seq (.ops [⟨some 4, .mov (.t 0), none⟩,
    ⟨some 5, .bin .lss false (.t 4) (.c (.v (.int .i64 0))), none⟩,
    ⟨some 6, .mov (.t 5), none⟩,
    ⟨some 7, .mov (.t 0), some (6, false)⟩,
    ⟨some 8, .bin .gtr false (.t 7) (.c (.v (.int .i64 1048576))), some (6, false)⟩,
    ⟨some 9, .pick (.t 6) (.c (.v (.bool true))) (.t 8), none⟩])
  (.cond (.t 9)
    (.seq (.ops [⟨some 10, .build [(.v (.int .i64 0)), (.v (.slice none 0 0)), (.v (.slice none 0 0))] [], none⟩,
      ⟨none, .store 3 (.t 2) (.t 10), none⟩,
      ⟨some 3, .mov (.c (.v (.int .i64 1))), none⟩])
    .ret)
    .skip))
  (.seq (.ops [⟨some 11, .mov (.t 0), none⟩,
    ⟨some 12, .mksl 1 8 [(.v (.int .i64 0))] (.c (.v (.int .i64 8))) (.c (.v (.int .i64 8))), none⟩,
    ⟨some 13, .build [(.v (.int .i64 0)), (.v (.slice none 0 0)), (.v (.slice none 0 0))] [(0, 1, (.t 11)), (2, 1, (.t 12))], none⟩,
    ⟨none, .store 3 (.t 2) (.t 13), none⟩,
    ⟨some 3, .mov (.c (.v (.int .i64 0))), none⟩])
  .ret)))⟩ := by kernel_rfl

theorem ir14 : compF Try.prog 14 = some ⟨86, [.c 4 3 true, .t 5, .t 6, .t 7],
  (.seq (.ops [⟨some 2, .box (.t 0), none⟩,
    ⟨some 4, .alloc (.agg [(.v (.int .i64 0)), (.v (.slice none 0 0)), (.v (.slice none 0 0))]), none⟩,
    ⟨some 5, .mov (.c (.v (.int .i64 0))), none⟩,
    ⟨some 6, .mov (.c (.v (.bool false))), none⟩,
    ⟨some 7, .mov (.c (.v (.int .i64 0))), none⟩])
  (.seq (.seq (.ops [⟨some 14, .load 3 true (.t 2), none⟩,
    ⟨some 15, .mov (.t 1), none⟩,
    ⟨some 16, .call 17 [(.t 14), (.t 15)], none⟩,
    ⟨some 13, .mov (.t 16), none⟩,
    ⟨some 17, .extract (.t 13) 0, none⟩,
    ⟨some 18, .extract (.t 13) 1, none⟩,
    ⟨some 8, .mov (.t 17), none⟩,
    ⟨some 9, .mov (.t 18), none⟩])
  (.seq (.ops [⟨some 19, .mov (.t 9), none⟩])
  (.cond (.t 19)
    (.seq (.ops [⟨some 20, .load 3 true (.t 2), none⟩,
      ⟨some 21, .mov (.t 8), none⟩,
      ⟨none, .store 3 (.t 4) (.t 20), none⟩,
      ⟨some 5, .mov (.t 21), none⟩,
      ⟨some 6, .mov (.c (.v (.bool false))), none⟩,
      ⟨some 7, .mov (.c (.v (.int .i64 0))), none⟩])
    .ret)
    .skip)))
  (.seq (.ops [⟨some 22, .faddr 1 (.t 2), none⟩,
    ⟨some 23, .load 1 false (.t 22), none⟩,
    ⟨some 24, .len false (.t 23), none⟩,
    ⟨some 10, .mov (.t 24), none⟩])
  (.seq (.seq (.ops [⟨some 25, .mov (.t 10), none⟩,
    ⟨some 26, .faddr 0 (.t 2), none⟩,
    ⟨some 27, .load 1 false (.t 26), none⟩,
    ⟨some 28, .bin .geq false (.t 25) (.t 27), none⟩])
  (.cond (.t 28)
    (.seq (.ops [⟨some 29, .load 3 true (.t 2), none⟩,
      ⟨none, .store 3 (.t 4) (.t 29), none⟩,
      ⟨some 5, .mov (.c (.v (.int .i64 0))), none⟩,
      ⟨some 6, .mov (.c (.v (.bool false))), none⟩,
      ⟨some 7, .mov (.c (.v (.int .i64 7))), none⟩])
    .ret)
    .skip))
  (.seq (.ops [⟨some 30, .load 3 true (.t 2), none⟩,
    ⟨some 31, .build [(.v (.int .i64 0)), (.v (.slice none 0 0)), (.v (.slice none 0 0))] [(0, 3, (.t 30))], none⟩,
    ⟨some 32, .build [(.v (.int .i64 0)), (.v (.slice none 0 0)), (.v (.slice none 0 0))] [(0, 3, (.t 31))], none⟩,
    ⟨some 33, .box (.t 32), none⟩,
    ⟨some 11, .mov (.t 33), none⟩])
  (.seq (.ops [⟨some 34, .mov (.t 11), none⟩,
    ⟨some 35, .faddr 1 (.t 2), none⟩,
    ⟨some 36, .load 1 false (.t 35), none⟩,
    ⟨some 37, .call 21 [(.t 36)], none⟩,
    ⟨some 38, .mov (.t 1), none⟩,
    ⟨some 39, .call 22 [(.t 38)], none⟩,
    ⟨some 40, .bslice 1 [(.v (.slice none 0 0))] 1 [(0, 1, (.t 39))], none⟩,
    ⟨some 41, .append 1 24 [(.v (.slice none 0 0))] (.t 37) (.t 40), none⟩,
    ⟨some 42, .nilchk (.t 34), none⟩,
    ⟨some 43, .faddr 0 (.t 42), none⟩,
    ⟨some 44, .faddr 0 (.t 43), none⟩,
    ⟨some 45, .faddr 1 (.t 44), none⟩,
    ⟨none, .store 1 (.t 45) (.t 41), none⟩])
  (.seq (.seq (.ops [⟨some 46, .faddr 2 (.t 2), none⟩,
    ⟨some 47, .load 1 false (.t 46), none⟩,
    ⟨some 48, .len false (.t 47), none⟩,
    ⟨some 49, .mm true (.t 48) [(.c (.v (.int .i64 8)))], none⟩,
    ⟨some 12, .mov (.t 49), none⟩])
  (.seq (.ops [⟨some 50, .mov (.t 10), none⟩,
    ⟨some 51, .bin .add false (.t 50) (.c (.v (.int .i64 1))), none⟩,
    ⟨some 52, .bin .mul false (.c (.v (.int .i64 2))) (.t 51), none⟩,
    ⟨some 53, .mov (.t 12), none⟩,
    ⟨some 54, .bin .gtr false (.t 52) (.t 53), none⟩])
  (.cond (.t 54)
    (.ops [⟨some 55, .mov (.t 11), none⟩,
      ⟨some 56, .mov (.t 12), none⟩,
      ⟨some 57, .bin .mul false (.c (.v (.int .i64 2))) (.t 56), none⟩,
      ⟨some 58, .call 23 [(.t 55), (.t 57)], none⟩])
    (.seq (.ops [⟨some 59, .mov (.t 11), none⟩,
      ⟨some 60, .faddr 2 (.t 2), none⟩,
      ⟨some 61, .load 1 false (.t 60), none⟩,
      ⟨some 62, .call 24 [(.t 61)], none⟩,
      ⟨some 63, .nilchk (.t 59), none⟩,
      ⟨some 64, .faddr 0 (.t 63), none⟩,
      ⟨some 65, .faddr 0 (.t 64), none⟩,
      ⟨some 66, .faddr 2 (.t 65), none⟩,
      ⟨none, .store 1 (.t 66) (.t 62), none⟩])
    (.draw [[⟨some 67, .mov (.t 11), none⟩,
        ⟨some 68, .nilchk (.t 67), none⟩,
        ⟨some 69, .faddr 0 (.t 68), none⟩,
        ⟨some 70, .faddr 0 (.t 69), none⟩,
        ⟨some 71, .faddr 2 (.t 70), none⟩,
        ⟨some 72, .load 1 false (.t 71), none⟩,
        ⟨some 73, .load 3 true (.t 2), none⟩,
        ⟨some 74, .build [(.v (.int .i64 0)), (.v (.slice none 0 0)), (.v (.slice none 0 0))] [(0, 3, (.t 73))], none⟩,
        ⟨some 75, .mov (.t 1), none⟩,
        ⟨some 76, .call 25 [(.t 74), (.t 75)], none⟩,
        ⟨some 77, .mov (.t 10), none⟩,
        ⟨some 78, .bin .add false (.t 77) (.c (.v (.int .i64 1))), none⟩],
      [⟨some 79, .iaddr 1 (.t 72) (.t 76), none⟩],
      [⟨none, .store 1 (.t 79) (.t 78), none⟩]])))))
  (.seq (.ops [⟨some 80, .mov (.t 11), none⟩,
    ⟨some 81, .nilchk (.t 80), none⟩,
    ⟨some 82, .faddr 0 (.t 81), none⟩,
    ⟨some 83, .faddr 0 (.t 82), none⟩,
    ⟨some 84, .load 3 true (.t 83), none⟩,
    ⟨some 85, .mov (.t 10), none⟩,
    ⟨none, .store 3 (.t 4) (.t 84), none⟩,
    ⟨some 5, .mov (.t 85), none⟩,
    ⟨some 6, .mov (.c (.v (.bool true))), none⟩,
    ⟨some 7, .mov (.c (.v (.int .i64 0))), none⟩])
  .ret))))))))⟩ := by kernel_rfl

theorem ir15 : compF Try.prog 15 = some ⟨27, [.c 4 8 true],
  (.seq (.ops [⟨some 4, .alloc (.agg [(.v (.int .u8 0)), (.v (.int .u8 0)), (.v (.int .u8 0)), (.v (.int .u8 0)), (.v (.int .u8 0)), (.v (.int .u8 0)), (.v (.int .u8 0)), (.v (.int .u8 0))]), none⟩])
  (.seq (.ops [⟨some 5, .alloc (.agg [(.v (.int .u8 0)), (.v (.int .u8 0)), (.v (.int .u8 0)), (.v (.int .u8 0)), (.v (.int .u8 0)), (.v (.int .u8 0)), (.v (.int .u8 0)), (.v (.int .u8 0))]), none⟩])
  (.seq (.seq (.ops [⟨some 7, .mov (.c (.v (.int .i64 0))), none⟩])
  (.block 0 (.loop
    (.seq (.ops [⟨some 8, .bin .lss false (.t 7) (.c (.v (.int .i64 4))), none⟩])
    (.seq (.cond (.t 8)
      .skip
      (.exit 0))
    (.seq (.block 1 (.seq (.ops [⟨some 9, .mov (.t 7), none⟩,
      ⟨some 6, .mov (.t 9), none⟩])
    (.drawF [([1, 2, 8, 9, 10, 11, 12], [⟨some 10, .mov (.t 6), none⟩,
        ⟨some 11, .mov (.t 6), none⟩,
        ⟨some 12, .bin .add false (.c (.v (.int .i64 4))) (.t 11), none⟩,
        ⟨some 13, .mov (.t 0), none⟩,
        ⟨some 14, .mov (.t 6), none⟩,
        ⟨some 15, .bin .mul false (.c (.v (.int .i64 8))) (.t 14), none⟩,
        ⟨some 16, .bin .shr false (.t 13) (.t 15), none⟩,
        ⟨some 17, .conv .u8 (.t 16), none⟩,
        ⟨some 18, .mov (.t 1), none⟩,
        ⟨some 19, .mov (.t 6), none⟩,
        ⟨some 20, .bin .mul false (.c (.v (.int .i64 8))) (.t 19), none⟩,
        ⟨some 21, .bin .shr false (.t 18) (.t 20), none⟩,
        ⟨some 22, .conv .u8 (.t 21), none⟩,
        ⟨some 23, .iaddrA 8 1 (.t 5) (.t 10), none⟩,
        ⟨none, .store 1 (.t 23) (.t 17), none⟩]),
      ([], [⟨some 24, .iaddrA 8 1 (.t 5) (.t 12), none⟩]),
      ([], [⟨none, .store 1 (.t 24) (.t 22), none⟩])])))
    (.ops [⟨some 25, .bin .add false (.t 7) (.c (.v (.int .i64 1))), none⟩,
      ⟨some 7, .mov (.t 25), none⟩])))))))
  (.seq (.ops [⟨some 26, .load 8 true (.t 5), none⟩,
    ⟨none, .store 8 (.t 4) (.t 26), none⟩])
  .ret))))⟩ := by kernel_rfl

theorem ir16 : compF Try.prog 16 = some ⟨7, [.t 2],
  (.seq (.ops [⟨some 1, .box (.t 0), none⟩,
    ⟨some 2, .mov (.c (.v (.slice none 0 0))), none⟩])
  (.seq (.ops [⟨some 3, .mov (.c (.v (.int .i64 8))), none⟩])
  (.seq (.ops [⟨some 4, .mov (.t 3), none⟩,
    ⟨some 5, .mov (.t 3), none⟩,
    ⟨some 6, .sliceA 8 1 (.t 1) none (some (.t 4)) (some (.t 5)), none⟩,
    ⟨some 2, .mov (.t 6), none⟩])
  .ret)))⟩ := by kernel_rfl

theorem ir17 : compF Try.prog 17 = some ⟨12, [.t 4, .t 5],
  (.seq (.ops [⟨some 2, .box (.t 0), none⟩,
    ⟨some 4, .mov (.c (.v (.int .i64 0))), none⟩,
    ⟨some 5, .mov (.c (.v (.bool false))), none⟩])
  (.seq (.ops [⟨some 6, .load 3 true (.t 2), none⟩,
    ⟨some 7, .build [(.v (.int .i64 0)), (.v (.slice none 0 0)), (.v (.slice none 0 0))] [(0, 3, (.t 6))], none⟩,
    ⟨some 8, .mov (.t 1), none⟩,
    ⟨some 9, .call 26 [(.t 7), (.t 8)], none⟩,
    ⟨some 10, .extract (.t 9) 0, none⟩,
    ⟨some 11, .extract (.t 9) 1, none⟩,
    ⟨some 4, .mov (.t 10), none⟩,
    ⟨some 5, .mov (.t 11), none⟩])
  .ret))⟩ := by kernel_rfl

theorem ir18 : compF Try.prog 18 = some ⟨21, [.t 4, .t 5],
  (.seq (.ops [⟨some 2, .box (.t 0), none⟩,
    ⟨some 4, .mov (.c (.v (.slice none 0 0))), none⟩,
    ⟨some 5, .mov (.c (.v (.int .i64 0))), none⟩])
  (.seq (.seq (.ops [⟨some 6, .mov (.t 1), none⟩,
    ⟨some 7, .bin .lss false (.t 6) (.c (.v (.int .i64 0))), none⟩,
    ⟨some 8, .mov (.t 7), none⟩,
    ⟨some 9, .mov (.t 1), some (8, false)⟩,
    ⟨some 10, .faddr 1 (.t 2), some (8, false)⟩,
    ⟨some 11, .load 1 false (.t 10), some (8, false)⟩,
    ⟨some 12, .len false (.t 11), some (8, false)⟩,
    ⟨some 13, .bin .geq false (.t 9) (.t 12), some (8, false)⟩,
    ⟨some 14, .pick (.t 8) (.c (.v (.bool true))) (.t 13), none⟩])
  (.cond (.t 14)
    (.seq (.ops [⟨some 4, .mov (.c (.v (.slice none 0 0))), none⟩,
      ⟨some 5, .mov (.c (.v (.int .i64 10))), none⟩])
    .ret)
    .skip))
  (.seq (.ops [⟨some 15, .faddr 1 (.t 2), none⟩,
    ⟨some 16, .load 1 false (.t 15), none⟩,
    ⟨some 17, .mov (.t 1), none⟩,
    ⟨some 18, .iaddr 1 (.t 16) (.t 17), none⟩,
    ⟨some 19, .load 1 false (.t 18), none⟩,
    ⟨some 20, .call 22 [(.t 19)], none⟩,
    ⟨some 4, .mov (.t 20), none⟩,
    ⟨some 5, .mov (.c (.v (.int .i64 0))), none⟩])
  .ret)))⟩ := by kernel_rfl

theorem ir19 : compF Try.prog 19 = some ⟨28, [.t 2, .t 3],
  (.seq (.ops [⟨some 1, .box (.t 0), none⟩,
    ⟨some 2, .mov (.c (.v (.int .u32 0))), none⟩,
    ⟨some 3, .mov (.c (.v (.int .u32 0))), none⟩])
  (.seq (.ops [⟨some 4, .mov (.c (.v (.int .u32 0))), none⟩,
    ⟨some 5, .mov (.c (.v (.int .u32 0))), none⟩])
  (.seq (.seq (.ops [⟨some 6, .mov (.c (.v (.int .i64 3))), none⟩])
  (.block 0 (.loop
    (.seq (.seq (.ops [⟨some 7, .mov (.t 6), none⟩,
      ⟨some 8, .bin .geq false (.t 7) (.c (.v (.int .i64 0))), none⟩])
    (.cond (.t 8)
      .skip
      (.exit 0)))
    (.seq (.block 1 (.draw [[⟨some 11, .mov (.t 4), none⟩,
        ⟨some 12, .bin .shl false (.t 11) (.c (.v (.int .u64 8))), none⟩,
        ⟨some 13, .mov (.t 6), none⟩,
        ⟨some 14, .iaddrA 8 1 (.t 1) (.t 13), none⟩,
        ⟨some 15, .load 1 false (.t 14), none⟩,
        ⟨some 16, .conv .u32 (.t 15), none⟩,
        ⟨some 17, .bin .or false (.t 12) (.t 16), none⟩,
        ⟨some 18, .mov (.t 5), none⟩,
        ⟨some 19, .bin .shl false (.t 18) (.c (.v (.int .u64 8))), none⟩,
        ⟨some 20, .mov (.t 6), none⟩,
        ⟨some 21, .bin .add false (.c (.v (.int .i64 4))) (.t 20), none⟩,
        ⟨some 22, .iaddrA 8 1 (.t 1) (.t 21), none⟩,
        ⟨some 23, .load 1 false (.t 22), none⟩,
        ⟨some 24, .conv .u32 (.t 23), none⟩,
        ⟨some 25, .bin .or false (.t 19) (.t 24), none⟩,
        ⟨some 4, .mov (.t 17), none⟩],
      [⟨some 5, .mov (.t 25), none⟩]]))
    (.ops [⟨some 9, .mov (.t 6), none⟩,
      ⟨some 10, .bin .sub false (.t 9) (.c (.v (.int .i64 1))), none⟩,
      ⟨some 6, .mov (.t 10), none⟩]))))))
  (.seq (.ops [⟨some 26, .mov (.t 4), none⟩,
    ⟨some 27, .mov (.t 5), none⟩,
    ⟨some 2, .mov (.t 26), none⟩,
    ⟨some 3, .mov (.t 27), none⟩])
  .ret))))⟩ := by kernel_rfl

theorem ir20 : compF Try.prog 20 = some ⟨6, [.t 2],
  (.seq (.ops [⟨some 1, .box (.t 0), none⟩,
    ⟨some 2, .mov (.c (.v (.int .i64 0))), none⟩])
  (.seq (.ops [⟨some 3, .faddr 1 (.t 1), none⟩,
    ⟨some 4, .load 1 false (.t 3), none⟩,
    ⟨some 5, .len false (.t 4), none⟩,
    ⟨some 2, .mov (.t 5), none⟩])
  .ret))⟩ := by kernel_rfl

theorem ir21 : compF Try.prog 21 = some ⟨9, [.t 2],
  (.seq (.ops [⟨some 2, .mov (.c (.v (.slice none 0 0))), none⟩])
  (.seq (.ops [⟨some 3, .mov (.t 0), none⟩,
    ⟨some 4, .mov (.t 0), none⟩,
    ⟨some 5, .len false (.t 4), none⟩,
    ⟨some 6, .mov (.t 0), none⟩,
    ⟨some 7, .len false (.t 6), none⟩,
    ⟨some 8, .slice 1 (.t 3) none (some (.t 5)) (some (.t 7)), none⟩,
    ⟨some 2, .mov (.t 8), none⟩])
  .ret))⟩ := by kernel_rfl

theorem ir22 : compF Try.prog 22 = some ⟨8, [.t 2],
  (.seq (.ops [⟨some 2, .mov (.c (.v (.slice none 0 0))), none⟩])
  (.seq (.seq (.ops [⟨some 3, .mov (.t 0), none⟩,
    ⟨some 4, .isnil false (.t 3), none⟩])
  (.cond (.t 4)
    (.seq (.ops [⟨some 2, .mov (.c (.v (.slice none 0 0))), none⟩])
    .ret)
    .skip))
  (.seq (.ops [⟨some 5, .bslice 1 [(.v (.int .u8 0))] 0 [], none⟩,
    ⟨some 6, .mov (.t 0), none⟩,
    ⟨some 7, .append 1 1 [(.v (.int .u8 0))] (.t 5) (.t 6), none⟩,
    ⟨some 2, .mov (.t 7), none⟩])
  .ret)))⟩ := by kernel_rfl

theorem ir23 : compF Try.prog 23 = some ⟨41, [],
  (.seq (.ops [⟨some 6, .mov (.t 0), none⟩,
    ⟨some 7, .mov (.t 1), none⟩,
    ⟨some 8, .mksl 1 8 [(.v (.int .i64 0))] (.t 7) (.t 7), none⟩,
    ⟨some 9, .nilchk (.t 6), none⟩,
    ⟨some 10, .faddr 0 (.t 9), none⟩,
    ⟨some 11, .faddr 0 (.t 10), none⟩,
    ⟨some 12, .faddr 2 (.t 11), none⟩,
    ⟨none, .store 1 (.t 12) (.t 8), none⟩])
  (.seq (.ops [⟨some 13, .mov (.t 0), none⟩,
    ⟨some 14, .nilchk (.t 13), none⟩,
    ⟨some 15, .faddr 0 (.t 14), none⟩,
    ⟨some 16, .faddr 0 (.t 15), none⟩,
    ⟨some 17, .faddr 1 (.t 16), none⟩,
    ⟨some 18, .load 1 false (.t 17), none⟩,
    ⟨some 19, .len false (.t 18), none⟩,
    ⟨some 20, .mov (.c (.v (.int .i64 0))), none⟩])
  (.block 0 (.loop
    (.seq (.ops [⟨some 21, .bin .lss false (.t 20) (.t 19), none⟩])
    (.seq (.cond (.t 21)
      .skip
      (.exit 0))
    (.seq (.block 1 (.seq (.ops [⟨some 22, .mov (.t 20), none⟩,
      ⟨some 23, .iaddr 1 (.t 18) (.t 20), none⟩,
      ⟨some 24, .load 1 false (.t 23), none⟩,
      ⟨some 4, .mov (.t 22), none⟩,
      ⟨some 5, .mov (.t 24), none⟩])
    (.draw [[⟨some 25, .mov (.t 0), none⟩,
        ⟨some 26, .nilchk (.t 25), none⟩,
        ⟨some 27, .faddr 0 (.t 26), none⟩,
        ⟨some 28, .faddr 0 (.t 27), none⟩,
        ⟨some 29, .faddr 2 (.t 28), none⟩,
        ⟨some 30, .load 1 false (.t 29), none⟩,
        ⟨some 31, .mov (.t 0), none⟩,
        ⟨some 32, .nilchk (.t 31), none⟩,
        ⟨some 33, .faddr 0 (.t 32), none⟩,
        ⟨some 34, .load 3 true (.t 33), none⟩,
        ⟨some 35, .mov (.t 5), none⟩,
        ⟨some 36, .call 25 [(.t 34), (.t 35)], none⟩,
        ⟨some 37, .mov (.t 4), none⟩,
        ⟨some 38, .bin .add false (.t 37) (.c (.v (.int .i64 1))), none⟩],
      [⟨some 39, .iaddr 1 (.t 30) (.t 36), none⟩],
      [⟨none, .store 1 (.t 39) (.t 38), none⟩]])))
    (.ops [⟨some 40, .bin .add false (.t 20) (.c (.v (.int .i64 1))), none⟩,
      ⟨some 20, .mov (.t 40), none⟩]))))))))⟩ := by kernel_rfl

theorem ir24 : compF Try.prog 24 = some ⟨8, [.t 2],
  (.seq (.ops [⟨some 2, .mov (.c (.v (.slice none 0 0))), none⟩])
  (.seq (.seq (.ops [⟨some 3, .mov (.t 0), none⟩,
    ⟨some 4, .isnil false (.t 3), none⟩])
  (.cond (.t 4)
    (.seq (.ops [⟨some 2, .mov (.c (.v (.slice none 0 0))), none⟩])
    .ret)
    .skip))
  (.seq (.ops [⟨some 5, .bslice 1 [(.v (.int .i64 0))] 0 [], none⟩,
    ⟨some 6, .mov (.t 0), none⟩,
    ⟨some 7, .append 1 8 [(.v (.int .i64 0))] (.t 5) (.t 6), none⟩,
    ⟨some 2, .mov (.t 7), none⟩])
  .ret)))⟩ := by kernel_rfl

theorem ir25 : compF Try.prog 25 = some ⟨41, [.t 4],
  (.seq (.ops [⟨some 2, .box (.t 0), none⟩,
    ⟨some 4, .mov (.c (.v (.int .i64 0))), none⟩])
  (.scope 0 (.seq (.draw [[⟨some 7, .mov (.t 1), none⟩,
      ⟨some 8, .call 28 [(.t 7), (.c (.v (.int .u64 0)))], none⟩,
      ⟨some 9, .faddr 0 (.t 2), none⟩,
      ⟨some 10, .faddr 2 (.t 9), none⟩,
      ⟨some 11, .load 1 false (.t 10), none⟩,
      ⟨some 12, .len false (.t 11), none⟩],
    [⟨some 13, .call 27 [(.t 8), (.t 12)], none⟩],
    [⟨some 5, .mov (.t 13), none⟩]])
  (.seq (.label 0)
  (.seq (.ops [⟨some 14, .faddr 0 (.t 2), none⟩,
    ⟨some 15, .faddr 2 (.t 14), none⟩,
    ⟨some 16, .load 1 false (.t 15), none⟩,
    ⟨some 17, .mov (.t 5), none⟩,
    ⟨some 18, .iaddr 1 (.t 16) (.t 17), none⟩,
    ⟨some 19, .load 1 false (.t 18), none⟩,
    ⟨some 6, .mov (.t 19), none⟩])
  (.seq (.seq (.ops [⟨some 20, .mov (.t 6), none⟩,
    ⟨some 21, .bin .eql false (.t 20) (.c (.v (.int .i64 0))), none⟩,
    ⟨some 22, .mov (.t 21), none⟩,
    ⟨some 23, .faddr 0 (.t 2), some (22, false)⟩,
    ⟨some 24, .faddr 1 (.t 23), some (22, false)⟩,
    ⟨some 25, .load 1 false (.t 24), some (22, false)⟩,
    ⟨some 26, .mov (.t 6), some (22, false)⟩,
    ⟨some 27, .bin .sub false (.t 26) (.c (.v (.int .i64 1))), some (22, false)⟩,
    ⟨some 28, .iaddr 1 (.t 25) (.t 27), some (22, false)⟩,
    ⟨some 29, .load 1 false (.t 28), some (22, false)⟩,
    ⟨some 30, .mov (.t 1), some (22, false)⟩,
    ⟨some 31, .call 29 [(.t 29), (.t 30)], some (22, false)⟩,
    ⟨some 32, .pick (.t 22) (.c (.v (.bool true))) (.t 31), none⟩])
  (.cond (.t 32)
    (.seq (.ops [⟨some 33, .mov (.t 5), none⟩,
      ⟨some 4, .mov (.t 33), none⟩])
    .ret)
    .skip))
  (.seq (.ops [⟨some 34, .mov (.t 5), none⟩,
    ⟨some 35, .bin .add false (.t 34) (.c (.v (.int .i64 1))), none⟩,
    ⟨some 36, .faddr 0 (.t 2), none⟩,
    ⟨some 37, .faddr 2 (.t 36), none⟩,
    ⟨some 38, .load 1 false (.t 37), none⟩,
    ⟨some 39, .len false (.t 38), none⟩,
    ⟨some 40, .bin .rem false (.t 35) (.t 39), none⟩,
    ⟨some 5, .mov (.t 40), none⟩])
  (.goto 0))))))
    (.seq .skip
    (.seq (.ops [⟨some 14, .faddr 0 (.t 2), none⟩,
      ⟨some 15, .faddr 2 (.t 14), none⟩,
      ⟨some 16, .load 1 false (.t 15), none⟩,
      ⟨some 17, .mov (.t 5), none⟩,
      ⟨some 18, .iaddr 1 (.t 16) (.t 17), none⟩,
      ⟨some 19, .load 1 false (.t 18), none⟩,
      ⟨some 6, .mov (.t 19), none⟩])
    (.seq (.seq (.ops [⟨some 20, .mov (.t 6), none⟩,
      ⟨some 21, .bin .eql false (.t 20) (.c (.v (.int .i64 0))), none⟩,
      ⟨some 22, .mov (.t 21), none⟩,
      ⟨some 23, .faddr 0 (.t 2), some (22, false)⟩,
      ⟨some 24, .faddr 1 (.t 23), some (22, false)⟩,
      ⟨some 25, .load 1 false (.t 24), some (22, false)⟩,
      ⟨some 26, .mov (.t 6), some (22, false)⟩,
      ⟨some 27, .bin .sub false (.t 26) (.c (.v (.int .i64 1))), some (22, false)⟩,
      ⟨some 28, .iaddr 1 (.t 25) (.t 27), some (22, false)⟩,
      ⟨some 29, .load 1 false (.t 28), some (22, false)⟩,
      ⟨some 30, .mov (.t 1), some (22, false)⟩,
      ⟨some 31, .call 29 [(.t 29), (.t 30)], some (22, false)⟩,
      ⟨some 32, .pick (.t 22) (.c (.v (.bool true))) (.t 31), none⟩])
    (.cond (.t 32)
      (.seq (.ops [⟨some 33, .mov (.t 5), none⟩,
        ⟨some 4, .mov (.t 33), none⟩])
      .ret)
      .skip))
    (.seq (.ops [⟨some 34, .mov (.t 5), none⟩,
      ⟨some 35, .bin .add false (.t 34) (.c (.v (.int .i64 1))), none⟩,
      ⟨some 36, .faddr 0 (.t 2), none⟩,
      ⟨some 37, .faddr 2 (.t 36), none⟩,
      ⟨some 38, .load 1 false (.t 37), none⟩,
      ⟨some 39, .len false (.t 38), none⟩,
      ⟨some 40, .bin .rem false (.t 35) (.t 39), none⟩,
      ⟨some 5, .mov (.t 40), none⟩])
    (.goto 0)))))))⟩ := by kernel_rfl

theorem ir26 : compF Try.prog 26 = some ⟨25, [.t 4, .t 5],
  (.seq (.ops [⟨some 2, .box (.t 0), none⟩,
    ⟨some 4, .mov (.c (.v (.int .i64 0))), none⟩,
    ⟨some 5, .mov (.c (.v (.bool false))), none⟩])
  (.seq (.seq (.ops [⟨some 7, .faddr 0 (.t 2), none⟩,
    ⟨some 8, .faddr 2 (.t 7), none⟩,
    ⟨some 9, .load 1 false (.t 8), none⟩,
    ⟨some 10, .len false (.t 9), none⟩,
    ⟨some 11, .bin .eql false (.t 10) (.c (.v (.int .i64 0))), none⟩])
  (.cond (.t 11)
    (.seq (.ops [⟨some 4, .mov (.c (.v (.int .i64 0))), none⟩,
      ⟨some 5, .mov (.c (.v (.bool false))), none⟩])
    .ret)
    .skip))
  (.seq (.draw [[⟨some 12, .faddr 0 (.t 2), none⟩,
      ⟨some 13, .faddr 2 (.t 12), none⟩,
      ⟨some 14, .load 1 false (.t 13), none⟩,
      ⟨some 15, .load 3 true (.t 2), none⟩,
      ⟨some 16, .mov (.t 1), none⟩,
      ⟨some 17, .call 25 [(.t 15), (.t 16)], none⟩],
    [⟨some 18, .iaddr 1 (.t 14) (.t 17), none⟩],
    [⟨some 19, .load 1 false (.t 18), none⟩],
    [⟨some 6, .mov (.t 19), none⟩]])
  (.seq (.ops [⟨some 20, .mov (.t 6), none⟩,
    ⟨some 21, .bin .sub false (.t 20) (.c (.v (.int .i64 1))), none⟩,
    ⟨some 22, .mm true (.t 21) [(.c (.v (.int .i64 0)))], none⟩,
    ⟨some 23, .mov (.t 6), none⟩,
    ⟨some 24, .bin .gtr false (.t 23) (.c (.v (.int .i64 0))), none⟩,
    ⟨some 4, .mov (.t 22), none⟩,
    ⟨some 5, .mov (.t 24), none⟩])
  .ret))))⟩ := by kernel_rfl

theorem ir27 : compF Try.prog 27 = some ⟨12, [.t 4],
  (.seq (.ops [⟨some 4, .mov (.c (.v (.int .i64 0))), none⟩])
  (.seq (.seq (.ops [⟨some 5, .mov (.t 1), none⟩,
    ⟨some 6, .bin .lss false (.t 5) (.c (.v (.int .i64 1))), none⟩])
  (.cond (.t 6)
    (.seq (.ops [⟨some 4, .mov (.c (.v (.int .i64 0))), none⟩])
    .ret)
    .skip))
  (.seq (.ops [⟨some 7, .mov (.t 0), none⟩,
    ⟨some 8, .mov (.t 1), none⟩,
    ⟨some 9, .conv .u64 (.t 8), none⟩,
    ⟨some 10, .bin .rem false (.t 7) (.t 9), none⟩,
    ⟨some 11, .conv .i64 (.t 10), none⟩,
    ⟨some 4, .mov (.t 11), none⟩])
  .ret)))⟩ := by kernel_rfl

theorem ir28 : compF Try.prog 28 = some ⟨37, [.t 4],
  (.seq (.ops [⟨some 4, .mov (.c (.v (.int .u64 0))), none⟩])
  (.seq (.ops [⟨some 11, .mov (.t 1), none⟩,
    ⟨some 12, .bin .xor false (.t 11) (.c (.v (.int .u64 11400714819323198485))), none⟩,
    ⟨some 5, .alloc (.v (.int .u64 0)), none⟩,
    ⟨none, .store 1 (.t 5) (.t 12), none⟩])
  (.seq (.seq (.ops [⟨some 13, .mov (.t 0), none⟩,
    ⟨some 14, .len false (.t 13), none⟩,
    ⟨some 15, .mov (.c (.v (.int .i64 0))), none⟩])
  (.block 0 (.loop
    (.seq (.ops [⟨some 16, .bin .lss false (.t 15) (.t 14), none⟩])
    (.seq (.cond (.t 16)
      .skip
      (.exit 0))
    (.seq (.block 1 (.seq (.ops [⟨some 17, .iaddr 1 (.t 13) (.t 15), none⟩,
      ⟨some 18, .load 1 false (.t 17), none⟩,
      ⟨some 7, .mov (.t 18), none⟩])
    (.ops [⟨some 19, .load 1 false (.t 5), none⟩,
      ⟨some 20, .mov (.t 7), none⟩,
      ⟨some 21, .conv .u64 (.t 20), none⟩,
      ⟨some 22, .bin .xor false (.t 19) (.t 21), none⟩,
      ⟨some 23, .bin .mul false (.t 22) (.c (.v (.int .u64 1099511628211))), none⟩,
      ⟨none, .store 1 (.t 5) (.t 23), none⟩])))
    (.ops [⟨some 24, .bin .add false (.t 15) (.c (.v (.int .i64 1))), none⟩,
      ⟨some 15, .mov (.t 24), none⟩])))))))
  (.seq (.ops [⟨some 25, .mkfn (.func 30) [] [(.t 5)], none⟩,
    ⟨some 26, .mkfn (.func 31) [] [(.t 5)], none⟩,
    ⟨some 27, .mkfn (.func 32) [] [(.t 5)], none⟩,
    ⟨some 28, .build [(.v .nilFunc), (.v .nilFunc), (.v .nilFunc)] [(0, 1, (.t 25)), (1, 1, (.t 26)), (2, 1, (.t 27))], none⟩,
    ⟨some 8, .alloc (.agg [(.v .nilFunc), (.v .nilFunc), (.v .nilFunc)]), none⟩,
    ⟨none, .store 3 (.t 8) (.t 28), none⟩])
  (.seq (.seq (.ops [⟨some 29, .load 3 true (.t 8), none⟩,
    ⟨some 30, .mov (.c (.v (.int .i64 0))), none⟩])
  (.block 2 (.loop
    (.seq (.ops [⟨some 31, .bin .lss false (.t 30) (.c (.v (.int .i64 3))), none⟩])
    (.seq (.cond (.t 31)
      .skip
      (.exit 2))
    (.seq (.block 3 (.seq (.ops [⟨some 32, .idx 3 1 false (.t 29) (.t 30), none⟩,
      ⟨some 10, .mov (.t 32), none⟩])
    (.ops [⟨some 33, .mov (.t 10), none⟩,
      ⟨some 34, .calld (.t 33) [], none⟩])))
    (.ops [⟨some 35, .bin .add false (.t 30) (.c (.v (.int .i64 1))), none⟩,
      ⟨some 30, .mov (.t 35), none⟩])))))))
  (.seq (.ops [⟨some 36, .load 1 false (.t 5), none⟩,
    ⟨some 4, .mov (.t 36), none⟩])
  .ret))))))⟩ := by kernel_rfl

theorem ir29 : compF Try.prog 29 = some ⟨10, [.t 4],
  (.seq (.ops [⟨some 4, .mov (.c (.v (.bool false))), none⟩])
  (.seq (.ops [⟨some 5, .mov (.t 0), none⟩,
    ⟨some 6, .b2s (.t 5), none⟩,
    ⟨some 7, .mov (.t 1), none⟩,
    ⟨some 8, .b2s (.t 7), none⟩,
    ⟨some 9, .bin .eql false (.t 6) (.t 8), none⟩,
    ⟨some 4, .mov (.t 9), none⟩])
  .ret))⟩ := by kernel_rfl

theorem ir30 : compF Try.prog 30 = some ⟨5, [],
  (.ops [⟨some 1, .load 1 false (.t 0), none⟩,
    ⟨some 2, .load 1 false (.t 0), none⟩,
    ⟨some 3, .bin .shr false (.t 2) (.c (.v (.int .u64 29))), none⟩,
    ⟨some 4, .bin .xor false (.t 1) (.t 3), none⟩,
    ⟨none, .store 1 (.t 0) (.t 4), none⟩])⟩ := by kernel_rfl

theorem ir31 : compF Try.prog 31 = some ⟨3, [],
  (.ops [⟨some 1, .load 1 false (.t 0), none⟩,
    ⟨some 2, .bin .mul false (.t 1) (.c (.v (.int .u64 13787848793156543929))), none⟩,
    ⟨none, .store 1 (.t 0) (.t 2), none⟩])⟩ := by kernel_rfl

theorem ir32 : compF Try.prog 32 = some ⟨5, [],
  (.ops [⟨some 1, .load 1 false (.t 0), none⟩,
    ⟨some 2, .load 1 false (.t 0), none⟩,
    ⟨some 3, .bin .shr false (.t 2) (.c (.v (.int .u64 32))), none⟩,
    ⟨some 4, .bin .xor false (.t 1) (.t 3), none⟩,
    ⟨none, .store 1 (.t 0) (.t 4), none⟩])⟩ := by kernel_rfl

end Go.Proofs.Ythohjhhiphfngaa
