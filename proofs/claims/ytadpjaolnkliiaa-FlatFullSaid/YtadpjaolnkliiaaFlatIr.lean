/- The functions of the program in the small language. -/
import Derived.Test.YtadpjaolnkliiaaLgR
import Derived.Test.YtadpjaolnkliiaaChecked
namespace Go.Proofs.Ytadpjaolnkliiaa
open Go Lg

set_option maxRecDepth 100000 in
theorem ir3 : compF Try.prog 3 = some ⟨153, [.t 2],
  (.seq (.ops [⟨some 2, .mov (.c (.v (.bool false))), none⟩])
  (.seq (.ops [⟨some 20, .call 6 [], none⟩,
    ⟨some 3, .mov (.t 20), none⟩])
  (.seq (.seq (.ops [⟨some 21, .mov (.t 0), none⟩,
    ⟨some 22, .call 7 [(.t 21), (.c (.v (.int .i64 60)))], none⟩,
    ⟨some 23, .un .not (.t 22), none⟩])
  (.cond (.t 23)
    (.seq (.ops [⟨some 24, .mov (.t 3), none⟩,
      ⟨some 2, .mov (.t 24), none⟩])
    .ret)
    .skip))
  (.seq (.ops [⟨some 26, .call 8 [(.c (.v (.int .i64 100)))], none⟩,
    ⟨some 25, .mov (.t 26), none⟩,
    ⟨some 27, .extract (.t 25) 0, none⟩,
    ⟨some 28, .extract (.t 25) 1, none⟩,
    ⟨some 4, .alloc (.agg [(.v (.int .i64 0)), (.v (.slice none 0 0)), (.v (.slice none 0 0)), (.v (.slice none 0 0))]), none⟩,
    ⟨none, .store 4 (.t 4) (.t 27), none⟩,
    ⟨some 5, .mov (.t 28), none⟩])
  (.seq (.ops [⟨some 29, .mkmap .s, none⟩,
    ⟨some 6, .mov (.t 29), none⟩])
  (.seq (.ops [⟨some 30, .mkmap .s, none⟩,
    ⟨some 7, .mov (.t 30), none⟩])
  (.seq (.seq (.ops [⟨some 8, .mov (.c (.v (.int .i64 0))), none⟩])
  (.block 0 (.loop
    (.seq (.seq (.ops [⟨some 31, .mov (.t 8), none⟩,
      ⟨some 32, .mov (.t 0), none⟩,
      ⟨some 33, .len false (.t 32), none⟩,
      ⟨some 34, .bin .lss false (.t 31) (.t 33), none⟩])
    (.cond (.t 34)
      .skip
      (.exit 0)))
    (.seq (.block 1 (.seq (.ops [⟨some 37, .mov (.t 0), none⟩,
      ⟨some 38, .mov (.t 8), none⟩,
      ⟨some 39, .iaddr 3 (.t 37) (.t 38), none⟩,
      ⟨some 40, .faddr 1 (.t 39), none⟩,
      ⟨some 41, .load 1 false (.t 40), none⟩,
      ⟨some 42, .b2s (.t 41), none⟩,
      ⟨some 9, .mov (.t 42), none⟩])
    (.seq (.draw [[⟨some 44, .load 4 true (.t 4), none⟩,
        ⟨some 45, .mov (.t 0), none⟩,
        ⟨some 46, .mov (.t 8), none⟩,
        ⟨some 47, .iaddr 3 (.t 45) (.t 46), none⟩,
        ⟨some 48, .faddr 1 (.t 47), none⟩,
        ⟨some 49, .load 1 false (.t 48), none⟩,
        ⟨some 50, .call 9 [(.t 44), (.t 49)], none⟩,
        ⟨some 43, .mov (.t 50), none⟩,
        ⟨some 51, .extract (.t 43) 0, none⟩,
        ⟨some 52, .extract (.t 43) 1, none⟩,
        ⟨some 53, .extract (.t 43) 2, none⟩,
        ⟨some 10, .alloc (.agg [(.v (.int .i64 0)), (.v (.slice none 0 0)), (.v (.slice none 0 0)), (.v (.slice none 0 0))]), none⟩,
        ⟨none, .store 4 (.t 10) (.t 51), none⟩,
        ⟨some 11, .mov (.t 52), none⟩],
      [⟨some 12, .mov (.t 53), none⟩]])
    (.seq (.seq (.ops [⟨some 54, .mov (.t 12), none⟩,
      ⟨some 55, .bin .neq false (.t 54) (.c (.v (.int .i64 0))), none⟩,
      ⟨some 56, .mov (.t 55), none⟩,
      ⟨some 57, .mov (.t 11), some (56, false)⟩,
      ⟨some 58, .mov (.t 6), some (56, false)⟩,
      ⟨some 59, .mov (.t 9), some (56, false)⟩,
      ⟨some 60, .mget .s false (.bool false) (.t 58) (.t 59), some (56, false)⟩,
      ⟨some 61, .bin .eql true (.t 57) (.t 60), some (56, false)⟩,
      ⟨some 62, .pick (.t 56) (.c (.v (.bool true))) (.t 61), none⟩])
    (.cond (.t 62)
      (.seq (.ops [⟨some 2, .mov (.c (.v (.bool false))), none⟩])
      .ret)
      .skip))
    (.seq (.ops [⟨some 63, .mov (.t 6), none⟩,
      ⟨some 64, .mov (.t 9), none⟩,
      ⟨none, .mset .s (.t 63) (.t 64) (.c (.v (.bool true))), none⟩])
    (.seq (.ops [⟨some 65, .mov (.t 0), none⟩,
      ⟨some 66, .mov (.t 8), none⟩,
      ⟨some 67, .iaddr 3 (.t 65) (.t 66), none⟩,
      ⟨some 68, .faddr 0 (.t 67), none⟩,
      ⟨some 69, .load 1 false (.t 68), none⟩,
      ⟨some 70, .conv .i64 (.t 69), none⟩,
      ⟨some 71, .bin .rem false (.t 70) (.c (.v (.int .i64 2))), none⟩,
      ⟨some 13, .mov (.t 71), none⟩])
    (.seq (.seq (.ops [⟨some 72, .mov (.t 0), none⟩,
      ⟨some 73, .mov (.t 8), none⟩,
      ⟨some 74, .iaddr 3 (.t 72) (.t 73), none⟩,
      ⟨some 75, .faddr 2 (.t 74), none⟩,
      ⟨some 76, .load 1 false (.t 75), none⟩,
      ⟨some 77, .bin .rem false (.t 76) (.c (.v (.int .i64 2))), none⟩,
      ⟨some 78, .bin .neq false (.t 77) (.c (.v (.int .i64 0))), none⟩])
    (.cond (.t 78)
      (.seq (.draw [[⟨some 80, .load 4 true (.t 10), none⟩,
          ⟨some 81, .mov (.t 0), none⟩,
          ⟨some 82, .mov (.t 8), none⟩,
          ⟨some 83, .iaddr 3 (.t 81) (.t 82), none⟩,
          ⟨some 84, .faddr 1 (.t 83), none⟩,
          ⟨some 85, .load 1 false (.t 84), none⟩,
          ⟨some 86, .mov (.t 13), none⟩,
          ⟨some 87, .call 10 [(.t 80), (.t 85), (.t 86)], none⟩,
          ⟨some 79, .mov (.t 87), none⟩,
          ⟨some 88, .extract (.t 79) 0, none⟩,
          ⟨some 89, .extract (.t 79) 1, none⟩,
          ⟨some 14, .alloc (.agg [(.v (.int .i64 0)), (.v (.slice none 0 0)), (.v (.slice none 0 0)), (.v (.slice none 0 0))]), none⟩,
          ⟨none, .store 4 (.t 14) (.t 88), none⟩],
        [⟨some 15, .mov (.t 89), none⟩]])
      (.seq (.seq (.ops [⟨some 90, .mov (.t 15), none⟩,
        ⟨some 91, .bin .neq false (.t 90) (.c (.v (.int .i64 0))), none⟩])
      (.cond (.t 91)
        (.seq (.ops [⟨some 2, .mov (.c (.v (.bool false))), none⟩])
        .ret)
        .skip))
      (.seq (.ops [⟨some 92, .load 4 true (.t 14), none⟩,
        ⟨none, .store 4 (.t 10) (.t 92), none⟩])
      (.ops [⟨some 93, .mov (.t 7), none⟩,
        ⟨some 94, .mov (.t 9), none⟩,
        ⟨some 95, .mov (.t 13), none⟩,
        ⟨some 96, .bin .add false (.c (.v (.int .i64 48))) (.t 95), none⟩,
        ⟨some 97, .conv .i32 (.t 96), none⟩,
        ⟨some 98, .r2s (.t 97), none⟩,
        ⟨some 99, .bin .add false (.t 94) (.t 98), none⟩,
        ⟨none, .mset .s (.t 93) (.t 99) (.c (.v (.bool true))), none⟩]))))
      .skip))
    (.ops [⟨some 100, .load 4 true (.t 10), none⟩,
      ⟨none, .store 4 (.t 4) (.t 100), none⟩]))))))))
    (.ops [⟨some 35, .mov (.t 8), none⟩,
      ⟨some 36, .bin .add false (.t 35) (.c (.v (.int .i64 1))), none⟩,
      ⟨some 8, .mov (.t 36), none⟩]))))))
  (.seq (.seq (.ops [⟨some 16, .mov (.c (.v (.int .i64 0))), none⟩])
  (.block 2 (.loop
    (.seq (.seq (.ops [⟨some 101, .mov (.t 16), none⟩,
      ⟨some 102, .mov (.t 0), none⟩,
      ⟨some 103, .len false (.t 102), none⟩,
      ⟨some 104, .bin .lss false (.t 101) (.t 103), none⟩])
    (.cond (.t 104)
      .skip
      (.exit 2)))
    (.seq (.block 3 (.seq (.ops [⟨some 17, .mov (.c (.v (.int .i64 0))), none⟩])
    (.block 4 (.loop
      (.seq (.seq (.ops [⟨some 107, .mov (.t 17), none⟩,
        ⟨some 108, .bin .lss false (.t 107) (.c (.v (.int .i64 2))), none⟩])
      (.cond (.t 108)
        .skip
        (.exit 4)))
      (.seq (.block 5 (.seq (.draw [[⟨some 112, .load 4 true (.t 4), none⟩,
          ⟨some 113, .mov (.t 0), none⟩,
          ⟨some 114, .mov (.t 16), none⟩,
          ⟨some 115, .iaddr 3 (.t 113) (.t 114), none⟩,
          ⟨some 116, .faddr 1 (.t 115), none⟩,
          ⟨some 117, .load 1 false (.t 116), none⟩,
          ⟨some 118, .mov (.t 17), none⟩],
        [⟨some 119, .call 11 [(.t 112), (.t 117), (.t 118)], none⟩],
        [⟨some 111, .mov (.t 119), none⟩],
        [⟨some 120, .extract (.t 111) 0, none⟩,
          ⟨some 121, .extract (.t 111) 1, none⟩,
          ⟨some 18, .mov (.t 120), none⟩],
        [⟨some 19, .mov (.t 121), none⟩]])
      (.seq (.ops [⟨some 122, .mov (.t 19), none⟩,
        ⟨some 123, .bin .neq false (.t 122) (.c (.v (.int .i64 0))), none⟩,
        ⟨some 124, .mov (.t 123), none⟩,
        ⟨some 125, .mov (.t 18), some (124, false)⟩,
        ⟨some 126, .mov (.t 7), some (124, false)⟩,
        ⟨some 127, .mov (.t 0), some (124, false)⟩,
        ⟨some 128, .mov (.t 16), some (124, false)⟩,
        ⟨some 129, .iaddr 3 (.t 127) (.t 128), some (124, false)⟩,
        ⟨some 130, .faddr 1 (.t 129), some (124, false)⟩,
        ⟨some 131, .load 1 false (.t 130), some (124, false)⟩,
        ⟨some 132, .b2s (.t 131), some (124, false)⟩,
        ⟨some 133, .mov (.t 17), some (124, false)⟩,
        ⟨some 134, .bin .add false (.c (.v (.int .i64 48))) (.t 133), some (124, false)⟩,
        ⟨some 135, .conv .i32 (.t 134), some (124, false)⟩,
        ⟨some 136, .r2s (.t 135), some (124, false)⟩,
        ⟨some 137, .bin .add false (.t 132) (.t 136), some (124, false)⟩,
        ⟨some 138, .mget .s false (.bool false) (.t 126) (.t 137), some (124, false)⟩,
        ⟨some 139, .bin .neq true (.t 125) (.t 138), some (124, false)⟩,
        ⟨some 140, .pick (.t 124) (.c (.v (.bool true))) (.t 139), none⟩])
      (.cond (.t 140)
        (.seq (.ops [⟨some 2, .mov (.c (.v (.bool false))), none⟩])
        .ret)
        .skip))))
      (.ops [⟨some 109, .mov (.t 17), none⟩,
        ⟨some 110, .bin .add false (.t 109) (.c (.v (.int .i64 1))), none⟩,
        ⟨some 17, .mov (.t 110), none⟩])))))))
    (.ops [⟨some 105, .mov (.t 16), none⟩,
      ⟨some 106, .bin .add false (.t 105) (.c (.v (.int .i64 1))), none⟩,
      ⟨some 16, .mov (.t 106), none⟩]))))))
  (.seq (.ops [⟨some 141, .mov (.t 3), none⟩,
    ⟨some 142, .mov (.t 141), none⟩,
    ⟨some 143, .mov (.t 5), some (142, true)⟩,
    ⟨some 144, .bin .eql false (.t 143) (.c (.v (.int .i64 0))), some (142, true)⟩,
    ⟨some 145, .pick (.t 142) (.t 144) (.c (.v (.bool false))), none⟩,
    ⟨some 146, .mov (.t 145), none⟩,
    ⟨some 147, .load 4 true (.t 4), some (146, true)⟩,
    ⟨some 148, .call 12 [(.t 147)], some (146, true)⟩,
    ⟨some 149, .mov (.t 6), some (146, true)⟩,
    ⟨some 150, .mlen (.t 149), some (146, true)⟩,
    ⟨some 151, .bin .eql false (.t 148) (.t 150), some (146, true)⟩,
    ⟨some 152, .pick (.t 146) (.t 151) (.c (.v (.bool false))), none⟩,
    ⟨some 2, .mov (.t 152), none⟩])
  .ret)))))))))⟩ := by kernel_rfl

set_option maxRecDepth 100000 in
theorem ir4 : compF Try.prog 4 = some ⟨123, [.t 4],
  (.seq (.ops [⟨some 4, .mov (.c (.v (.bool false))), none⟩])
  (.seq (.ops [⟨some 18, .call 6 [], none⟩,
    ⟨some 5, .mov (.t 18), none⟩])
  (.seq (.seq (.ops [⟨some 19, .mov (.t 1), none⟩,
    ⟨some 20, .call 7 [(.t 19), (.c (.v (.int .i64 40)))], none⟩,
    ⟨some 21, .un .not (.t 20), none⟩])
  (.cond (.t 21)
    (.seq (.ops [⟨some 22, .mov (.t 5), none⟩,
      ⟨some 4, .mov (.t 22), none⟩])
    .ret)
    .skip))
  (.seq (.ops [⟨some 23, .mov (.t 0), none⟩,
    ⟨some 24, .conv .i64 (.t 23), none⟩,
    ⟨some 25, .bin .rem false (.t 24) (.c (.v (.int .i64 21))), none⟩,
    ⟨some 6, .mov (.t 25), none⟩])
  (.seq (.ops [⟨some 27, .mov (.t 6), none⟩,
    ⟨some 28, .call 8 [(.t 27)], none⟩,
    ⟨some 26, .mov (.t 28), none⟩,
    ⟨some 29, .extract (.t 26) 0, none⟩,
    ⟨some 30, .extract (.t 26) 1, none⟩,
    ⟨some 7, .alloc (.agg [(.v (.int .i64 0)), (.v (.slice none 0 0)), (.v (.slice none 0 0)), (.v (.slice none 0 0))]), none⟩,
    ⟨none, .store 4 (.t 7) (.t 29), none⟩,
    ⟨some 8, .mov (.t 30), none⟩])
  (.seq (.ops [⟨some 31, .mkmap .s, none⟩,
    ⟨some 9, .mov (.t 31), none⟩])
  (.seq (.seq (.ops [⟨some 10, .mov (.c (.v (.int .i64 0))), none⟩])
  (.block 0 (.loop
    (.seq (.seq (.ops [⟨some 32, .mov (.t 10), none⟩,
      ⟨some 33, .mov (.t 1), none⟩,
      ⟨some 34, .len false (.t 33), none⟩,
      ⟨some 35, .bin .lss false (.t 32) (.t 34), none⟩])
    (.cond (.t 35)
      .skip
      (.exit 0)))
    (.seq (.block 1 (.seq (.ops [⟨some 38, .mov (.t 1), none⟩,
      ⟨some 39, .mov (.t 10), none⟩,
      ⟨some 40, .iaddr 3 (.t 38) (.t 39), none⟩,
      ⟨some 41, .faddr 1 (.t 40), none⟩,
      ⟨some 42, .load 1 false (.t 41), none⟩,
      ⟨some 43, .b2s (.t 42), none⟩,
      ⟨some 11, .mov (.t 43), none⟩])
    (.seq (.draw [[⟨some 45, .load 4 true (.t 7), none⟩,
        ⟨some 46, .mov (.t 1), none⟩,
        ⟨some 47, .mov (.t 10), none⟩,
        ⟨some 48, .iaddr 3 (.t 46) (.t 47), none⟩,
        ⟨some 49, .faddr 1 (.t 48), none⟩,
        ⟨some 50, .load 1 false (.t 49), none⟩,
        ⟨some 51, .call 9 [(.t 45), (.t 50)], none⟩,
        ⟨some 44, .mov (.t 51), none⟩,
        ⟨some 52, .extract (.t 44) 0, none⟩,
        ⟨some 53, .extract (.t 44) 1, none⟩,
        ⟨some 54, .extract (.t 44) 2, none⟩,
        ⟨some 12, .alloc (.agg [(.v (.int .i64 0)), (.v (.slice none 0 0)), (.v (.slice none 0 0)), (.v (.slice none 0 0))]), none⟩,
        ⟨none, .store 4 (.t 12) (.t 52), none⟩,
        ⟨some 13, .mov (.t 53), none⟩],
      [⟨some 14, .mov (.t 54), none⟩]])
    (.seq (.ops [⟨some 55, .mov (.t 9), none⟩,
      ⟨some 56, .mov (.t 11), none⟩,
      ⟨some 57, .mget .s false (.bool false) (.t 55) (.t 56), none⟩,
      ⟨some 58, .un .not (.t 57), none⟩,
      ⟨some 59, .mov (.t 58), none⟩,
      ⟨some 60, .mov (.t 9), some (59, true)⟩,
      ⟨some 61, .mlen (.t 60), some (59, true)⟩,
      ⟨some 62, .mov (.t 6), some (59, true)⟩,
      ⟨some 63, .bin .geq false (.t 61) (.t 62), some (59, true)⟩,
      ⟨some 64, .pick (.t 59) (.t 63) (.c (.v (.bool false))), none⟩,
      ⟨some 15, .mov (.t 64), none⟩])
    (.seq (.seq (.draw [[⟨some 65, .mov (.t 14), none⟩,
        ⟨some 66, .bin .eql false (.t 65) (.c (.v (.int .i64 7))), none⟩,
        ⟨some 67, .mov (.t 15), none⟩],
      [⟨some 68, .bin .neq true (.t 66) (.t 67), none⟩],
      [⟨some 69, .mov (.t 68), none⟩],
      [⟨some 70, .mov (.t 14), some (69, false)⟩,
        ⟨some 71, .bin .eql false (.t 70) (.c (.v (.int .i64 0))), some (69, false)⟩,
        ⟨some 72, .mov (.t 15), some (69, false)⟩],
      [⟨some 73, .bin .eql true (.t 71) (.t 72), some (69, false)⟩],
      [⟨some 74, .pick (.t 69) (.c (.v (.bool true))) (.t 73), none⟩],
      [⟨some 75, .mov (.t 74), none⟩],
      [⟨some 76, .mov (.t 13), some (75, false)⟩,
        ⟨some 77, .mov (.t 9), some (75, false)⟩,
        ⟨some 78, .mov (.t 11), some (75, false)⟩,
        ⟨some 79, .mget .s false (.bool false) (.t 77) (.t 78), some (75, false)⟩,
        ⟨some 80, .un .not (.t 79), some (75, false)⟩,
        ⟨some 81, .mov (.t 80), some (75, false)⟩,
        ⟨some 82, .mov (.t 15), some (81, true)⟩,
        ⟨some 83, .un .not (.t 82), some (81, true)⟩,
        ⟨some 84, .pick (.t 81) (.t 83) (.c (.v (.bool false))), some (75, false)⟩],
      [⟨some 85, .bin .neq true (.t 76) (.t 84), some (75, false)⟩],
      [⟨some 86, .pick (.t 75) (.c (.v (.bool true))) (.t 85), none⟩],
      [⟨some 87, .mov (.t 86), none⟩],
      [⟨some 88, .load 4 true (.t 12), some (87, false)⟩,
        ⟨some 89, .call 12 [(.t 88)], some (87, false)⟩,
        ⟨some 90, .mov (.t 9), some (87, false)⟩,
        ⟨some 91, .mlen (.t 90), some (87, false)⟩,
        ⟨some 92, .mov (.t 13), some (87, false)⟩],
      [⟨some 93, .call 13 [(.t 92)], some (87, false)⟩],
      [⟨some 94, .bin .add false (.t 91) (.t 93), some (87, false)⟩],
      [⟨some 95, .bin .neq false (.t 89) (.t 94), some (87, false)⟩],
      [⟨some 96, .pick (.t 87) (.c (.v (.bool true))) (.t 95), none⟩],
      [⟨some 97, .mov (.t 96), none⟩],
      [⟨some 98, .load 4 true (.t 12), some (97, false)⟩,
        ⟨some 99, .mov (.t 1), some (97, false)⟩,
        ⟨some 100, .mov (.t 10), some (97, false)⟩,
        ⟨some 101, .iaddr 3 (.t 99) (.t 100), some (97, false)⟩,
        ⟨some 102, .faddr 1 (.t 101), some (97, false)⟩,
        ⟨some 103, .load 1 false (.t 102), some (97, false)⟩,
        ⟨some 104, .call 14 [(.t 98), (.t 103)], some (97, false)⟩,
        ⟨some 105, .mov (.t 15), some (97, false)⟩],
      [⟨some 106, .bin .eql true (.t 104) (.t 105), some (97, false)⟩],
      [⟨some 107, .pick (.t 97) (.c (.v (.bool true))) (.t 106), none⟩]])
    (.cond (.t 107)
      (.seq (.ops [⟨some 4, .mov (.c (.v (.bool false))), none⟩])
      .ret)
      .skip))
    (.seq (.seq (.ops [⟨some 108, .mov (.t 13), none⟩])
    (.cond (.t 108)
      (.ops [⟨some 109, .mov (.t 9), none⟩,
        ⟨some 110, .mov (.t 11), none⟩,
        ⟨none, .mset .s (.t 109) (.t 110) (.c (.v (.bool true))), none⟩])
      .skip))
    (.ops [⟨some 111, .load 4 true (.t 12), none⟩,
      ⟨none, .store 4 (.t 7) (.t 111), none⟩])))))))
    (.ops [⟨some 36, .mov (.t 10), none⟩,
      ⟨some 37, .bin .add false (.t 36) (.c (.v (.int .i64 1))), none⟩,
      ⟨some 10, .mov (.t 37), none⟩]))))))
  (.seq (.draw [[⟨some 113, .load 4 true (.t 7), none⟩,
      ⟨some 114, .mksl 1 1 [(.v (.int .u8 0))] (.c (.v (.int .i64 201))) (.c (.v (.int .i64 201))), none⟩,
      ⟨some 115, .call 10 [(.t 113), (.t 114), (.c (.v (.int .i64 0)))], none⟩,
      ⟨some 112, .mov (.t 115), none⟩,
      ⟨some 116, .extract (.t 112) 0, none⟩,
      ⟨some 117, .extract (.t 112) 1, none⟩,
      ⟨some 16, .alloc (.agg [(.v (.int .i64 0)), (.v (.slice none 0 0)), (.v (.slice none 0 0)), (.v (.slice none 0 0))]), none⟩,
      ⟨none, .store 4 (.t 16) (.t 116), none⟩],
    [⟨some 17, .mov (.t 117), none⟩]])
  (.seq (.ops [⟨some 118, .mov (.t 5), none⟩,
    ⟨some 119, .mov (.t 118), none⟩,
    ⟨some 120, .mov (.t 17), some (119, true)⟩,
    ⟨some 121, .bin .eql false (.t 120) (.c (.v (.int .i64 10))), some (119, true)⟩,
    ⟨some 122, .pick (.t 119) (.t 121) (.c (.v (.bool false))), none⟩,
    ⟨some 4, .mov (.t 122), none⟩])
  .ret)))))))))⟩ := by kernel_rfl

set_option maxRecDepth 100000 in
theorem ir5 : compF Try.prog 5 = some ⟨157, [.t 6],
  (.seq (.ops [⟨some 6, .mov (.c (.v (.bool false))), none⟩])
  (.seq (.ops [⟨some 28, .call 6 [], none⟩,
    ⟨some 7, .mov (.t 28), none⟩])
  (.seq (.seq (.ops [⟨some 29, .mov (.t 0), none⟩,
    ⟨some 30, .call 7 [(.t 29), (.c (.v (.int .i64 30)))], none⟩,
    ⟨some 31, .un .not (.t 30), none⟩,
    ⟨some 32, .mov (.t 31), none⟩,
    ⟨some 33, .mov (.t 1), some (32, false)⟩,
    ⟨some 34, .len false (.t 33), some (32, false)⟩,
    ⟨some 35, .bin .gtr false (.t 34) (.c (.v (.int .i64 200))), some (32, false)⟩,
    ⟨some 36, .pick (.t 32) (.c (.v (.bool true))) (.t 35), none⟩])
  (.cond (.t 36)
    (.seq (.ops [⟨some 37, .mov (.t 7), none⟩,
      ⟨some 6, .mov (.t 37), none⟩])
    .ret)
    .skip))
  (.seq (.ops [⟨some 39, .call 8 [(.c (.v (.int .i64 100)))], none⟩,
    ⟨some 38, .mov (.t 39), none⟩,
    ⟨some 40, .extract (.t 38) 0, none⟩,
    ⟨some 41, .extract (.t 38) 1, none⟩,
    ⟨some 8, .alloc (.agg [(.v (.int .i64 0)), (.v (.slice none 0 0)), (.v (.slice none 0 0)), (.v (.slice none 0 0))]), none⟩,
    ⟨none, .store 4 (.t 8) (.t 40), none⟩,
    ⟨some 9, .mov (.t 41), none⟩])
  (.seq (.seq (.ops [⟨some 10, .mov (.c (.v (.int .i64 0))), none⟩])
  (.block 0 (.loop
    (.seq (.seq (.ops [⟨some 42, .mov (.t 10), none⟩,
      ⟨some 43, .mov (.t 0), none⟩,
      ⟨some 44, .len false (.t 43), none⟩,
      ⟨some 45, .bin .lss false (.t 42) (.t 44), none⟩])
    (.cond (.t 45)
      .skip
      (.exit 0)))
    (.seq (.block 1 (.seq (.draw [[⟨some 49, .load 4 true (.t 8), none⟩,
        ⟨some 50, .mov (.t 0), none⟩,
        ⟨some 51, .mov (.t 10), none⟩,
        ⟨some 52, .iaddr 3 (.t 50) (.t 51), none⟩,
        ⟨some 53, .faddr 1 (.t 52), none⟩,
        ⟨some 54, .load 1 false (.t 53), none⟩,
        ⟨some 55, .call 9 [(.t 49), (.t 54)], none⟩,
        ⟨some 48, .mov (.t 55), none⟩,
        ⟨some 56, .extract (.t 48) 0, none⟩,
        ⟨some 57, .extract (.t 48) 1, none⟩,
        ⟨some 58, .extract (.t 48) 2, none⟩,
        ⟨some 11, .alloc (.agg [(.v (.int .i64 0)), (.v (.slice none 0 0)), (.v (.slice none 0 0)), (.v (.slice none 0 0))]), none⟩,
        ⟨none, .store 4 (.t 11) (.t 56), none⟩,
        ⟨some 12, .mov (.t 57), none⟩],
      [⟨some 13, .mov (.t 58), none⟩]])
    (.seq (.seq (.ops [⟨some 59, .mov (.t 13), none⟩,
      ⟨some 60, .bin .neq false (.t 59) (.c (.v (.int .i64 0))), none⟩])
    (.cond (.t 60)
      (.seq (.ops [⟨some 6, .mov (.c (.v (.bool false))), none⟩])
      .ret)
      .skip))
    (.ops [⟨some 61, .load 4 true (.t 11), none⟩,
      ⟨none, .store 4 (.t 8) (.t 61), none⟩]))))
    (.ops [⟨some 46, .mov (.t 10), none⟩,
      ⟨some 47, .bin .add false (.t 46) (.c (.v (.int .i64 1))), none⟩,
      ⟨some 10, .mov (.t 47), none⟩]))))))
  (.seq (.ops [⟨some 62, .load 4 true (.t 8), none⟩,
    ⟨some 63, .mov (.t 1), none⟩,
    ⟨some 64, .call 14 [(.t 62), (.t 63)], none⟩,
    ⟨some 14, .mov (.t 64), none⟩])
  (.seq (.ops [⟨some 65, .load 4 true (.t 8), none⟩,
    ⟨some 66, .call 12 [(.t 65)], none⟩,
    ⟨some 15, .mov (.t 66), none⟩])
  (.seq (.ops [⟨some 68, .load 4 true (.t 8), none⟩,
    ⟨some 69, .mov (.t 1), none⟩,
    ⟨some 70, .call 9 [(.t 68), (.t 69)], none⟩,
    ⟨some 67, .mov (.t 70), none⟩,
    ⟨some 71, .extract (.t 67) 0, none⟩,
    ⟨some 72, .extract (.t 67) 1, none⟩,
    ⟨some 73, .extract (.t 67) 2, none⟩,
    ⟨some 16, .alloc (.agg [(.v (.int .i64 0)), (.v (.slice none 0 0)), (.v (.slice none 0 0)), (.v (.slice none 0 0))]), none⟩,
    ⟨none, .store 4 (.t 16) (.t 71), none⟩,
    ⟨some 17, .mov (.t 72), none⟩,
    ⟨some 18, .mov (.t 73), none⟩])
  (.seq (.ops [⟨some 74, .mov (.t 2), none⟩,
    ⟨some 75, .conv .i64 (.t 74), none⟩,
    ⟨some 76, .bin .rem false (.t 75) (.c (.v (.int .i64 2))), none⟩,
    ⟨some 19, .mov (.t 76), none⟩])
  (.seq (.ops [⟨some 78, .load 4 true (.t 16), none⟩,
    ⟨some 79, .mov (.t 1), none⟩,
    ⟨some 80, .mov (.t 19), none⟩,
    ⟨some 81, .call 10 [(.t 78), (.t 79), (.t 80)], none⟩,
    ⟨some 77, .mov (.t 81), none⟩,
    ⟨some 82, .extract (.t 77) 0, none⟩,
    ⟨some 83, .extract (.t 77) 1, none⟩,
    ⟨some 20, .alloc (.agg [(.v (.int .i64 0)), (.v (.slice none 0 0)), (.v (.slice none 0 0)), (.v (.slice none 0 0))]), none⟩,
    ⟨none, .store 4 (.t 20) (.t 82), none⟩,
    ⟨some 21, .mov (.t 83), none⟩])
  (.seq (.ops [⟨some 85, .load 4 true (.t 16), none⟩,
    ⟨some 86, .mov (.t 1), none⟩,
    ⟨some 87, .mov (.t 19), none⟩,
    ⟨some 88, .call 11 [(.t 85), (.t 86), (.t 87)], none⟩,
    ⟨some 84, .mov (.t 88), none⟩,
    ⟨some 89, .extract (.t 84) 0, none⟩,
    ⟨some 90, .extract (.t 84) 1, none⟩,
    ⟨some 22, .mov (.t 89), none⟩,
    ⟨some 23, .mov (.t 90), none⟩])
  (.seq (.ops [⟨some 92, .load 4 true (.t 20), none⟩,
    ⟨some 93, .mov (.t 1), none⟩,
    ⟨some 94, .mov (.t 19), none⟩,
    ⟨some 95, .call 11 [(.t 92), (.t 93), (.t 94)], none⟩,
    ⟨some 91, .mov (.t 95), none⟩,
    ⟨some 96, .extract (.t 91) 0, none⟩,
    ⟨some 97, .extract (.t 91) 1, none⟩,
    ⟨some 24, .mov (.t 96), none⟩,
    ⟨some 25, .mov (.t 97), none⟩])
  (.seq (.ops [⟨some 99, .load 4 true (.t 20), none⟩,
    ⟨some 100, .mov (.t 1), none⟩,
    ⟨some 101, .mov (.t 19), none⟩,
    ⟨some 102, .bin .sub false (.c (.v (.int .i64 1))) (.t 101), none⟩,
    ⟨some 103, .call 11 [(.t 99), (.t 100), (.t 102)], none⟩,
    ⟨some 98, .mov (.t 103), none⟩,
    ⟨some 104, .extract (.t 98) 0, none⟩,
    ⟨some 105, .extract (.t 98) 1, none⟩,
    ⟨some 26, .mov (.t 104), none⟩,
    ⟨some 27, .mov (.t 105), none⟩])
  (.seq (.ops [⟨some 106, .mov (.t 7), none⟩,
    ⟨some 107, .mov (.t 106), none⟩,
    ⟨some 108, .mov (.t 18), some (107, true)⟩,
    ⟨some 109, .bin .eql false (.t 108) (.c (.v (.int .i64 0))), some (107, true)⟩,
    ⟨some 110, .pick (.t 107) (.t 109) (.c (.v (.bool false))), none⟩,
    ⟨some 111, .mov (.t 110), none⟩,
    ⟨some 112, .mov (.t 17), some (111, true)⟩,
    ⟨some 113, .mov (.t 14), some (111, true)⟩,
    ⟨some 114, .un .not (.t 113), some (111, true)⟩,
    ⟨some 115, .bin .eql true (.t 112) (.t 114), some (111, true)⟩,
    ⟨some 116, .pick (.t 111) (.t 115) (.c (.v (.bool false))), none⟩,
    ⟨some 117, .mov (.t 116), none⟩,
    ⟨some 118, .load 4 true (.t 8), some (117, true)⟩,
    ⟨some 119, .mov (.t 1), some (117, true)⟩,
    ⟨some 120, .call 14 [(.t 118), (.t 119)], some (117, true)⟩,
    ⟨some 121, .mov (.t 14), some (117, true)⟩,
    ⟨some 122, .bin .eql true (.t 120) (.t 121), some (117, true)⟩,
    ⟨some 123, .pick (.t 117) (.t 122) (.c (.v (.bool false))), none⟩,
    ⟨some 124, .mov (.t 123), none⟩,
    ⟨some 125, .load 4 true (.t 8), some (124, true)⟩,
    ⟨some 126, .call 12 [(.t 125)], some (124, true)⟩,
    ⟨some 127, .mov (.t 15), some (124, true)⟩,
    ⟨some 128, .bin .eql false (.t 126) (.t 127), some (124, true)⟩,
    ⟨some 129, .pick (.t 124) (.t 128) (.c (.v (.bool false))), none⟩,
    ⟨some 130, .mov (.t 129), none⟩,
    ⟨some 131, .mov (.t 21), some (130, true)⟩,
    ⟨some 132, .bin .eql false (.t 131) (.c (.v (.int .i64 0))), some (130, true)⟩,
    ⟨some 133, .pick (.t 130) (.t 132) (.c (.v (.bool false))), none⟩,
    ⟨some 134, .mov (.t 133), none⟩,
    ⟨some 135, .mov (.t 23), some (134, true)⟩,
    ⟨some 136, .bin .eql false (.t 135) (.c (.v (.int .i64 0))), some (134, true)⟩,
    ⟨some 137, .pick (.t 134) (.t 136) (.c (.v (.bool false))), none⟩,
    ⟨some 138, .mov (.t 137), none⟩,
    ⟨some 139, .mov (.t 22), some (138, true)⟩,
    ⟨some 140, .un .not (.t 139), some (138, true)⟩,
    ⟨some 141, .pick (.t 138) (.t 140) (.c (.v (.bool false))), none⟩,
    ⟨some 142, .mov (.t 141), none⟩,
    ⟨some 143, .mov (.t 25), some (142, true)⟩,
    ⟨some 144, .bin .eql false (.t 143) (.c (.v (.int .i64 0))), some (142, true)⟩,
    ⟨some 145, .pick (.t 142) (.t 144) (.c (.v (.bool false))), none⟩,
    ⟨some 146, .mov (.t 145), none⟩,
    ⟨some 147, .mov (.t 24), some (146, true)⟩,
    ⟨some 148, .pick (.t 146) (.t 147) (.c (.v (.bool false))), none⟩,
    ⟨some 149, .mov (.t 148), none⟩,
    ⟨some 150, .mov (.t 27), some (149, true)⟩,
    ⟨some 151, .bin .eql false (.t 150) (.c (.v (.int .i64 0))), some (149, true)⟩,
    ⟨some 152, .pick (.t 149) (.t 151) (.c (.v (.bool false))), none⟩,
    ⟨some 153, .mov (.t 152), none⟩,
    ⟨some 154, .mov (.t 26), some (153, true)⟩,
    ⟨some 155, .un .not (.t 154), some (153, true)⟩,
    ⟨some 156, .pick (.t 153) (.t 155) (.c (.v (.bool false))), none⟩,
    ⟨some 6, .mov (.t 156), none⟩])
  .ret))))))))))))))⟩ := by kernel_rfl

set_option maxRecDepth 100000 in
theorem ir6 : compF Try.prog 6 = some ⟨155, [.t 0],
  (.seq (.ops [⟨some 0, .mov (.c (.v (.bool false))), none⟩])
  (.seq (.ops [⟨some 23, .call 8 [(.c (.v (.int .i64 1)))], none⟩,
    ⟨some 22, .mov (.t 23), none⟩,
    ⟨some 24, .extract (.t 22) 0, none⟩,
    ⟨some 25, .extract (.t 22) 1, none⟩,
    ⟨some 1, .alloc (.agg [(.v (.int .i64 0)), (.v (.slice none 0 0)), (.v (.slice none 0 0)), (.v (.slice none 0 0))]), none⟩,
    ⟨none, .store 4 (.t 1) (.t 24), none⟩,
    ⟨some 2, .mov (.t 25), none⟩])
  (.seq (.ops [⟨some 27, .load 4 true (.t 1), none⟩,
    ⟨some 28, .bslice 1 [(.v (.int .u8 0))] 1 [(0, 1, (.c (.v (.int .u8 97))))], none⟩,
    ⟨some 29, .sames (.t 28), none⟩,
    ⟨some 30, .call 9 [(.t 27), (.t 29)], none⟩,
    ⟨some 26, .mov (.t 30), none⟩,
    ⟨some 31, .extract (.t 26) 0, none⟩,
    ⟨some 32, .extract (.t 26) 1, none⟩,
    ⟨some 33, .extract (.t 26) 2, none⟩,
    ⟨some 3, .alloc (.agg [(.v (.int .i64 0)), (.v (.slice none 0 0)), (.v (.slice none 0 0)), (.v (.slice none 0 0))]), none⟩,
    ⟨none, .store 4 (.t 3) (.t 31), none⟩,
    ⟨some 4, .mov (.t 32), none⟩,
    ⟨some 5, .mov (.t 33), none⟩])
  (.seq (.ops [⟨some 35, .load 4 true (.t 3), none⟩,
    ⟨some 36, .bslice 1 [(.v (.int .u8 0))] 1 [(0, 1, (.c (.v (.int .u8 97))))], none⟩,
    ⟨some 37, .sames (.t 36), none⟩,
    ⟨some 38, .call 9 [(.t 35), (.t 37)], none⟩,
    ⟨some 34, .mov (.t 38), none⟩,
    ⟨some 39, .extract (.t 34) 0, none⟩,
    ⟨some 40, .extract (.t 34) 1, none⟩,
    ⟨some 41, .extract (.t 34) 2, none⟩,
    ⟨some 6, .alloc (.agg [(.v (.int .i64 0)), (.v (.slice none 0 0)), (.v (.slice none 0 0)), (.v (.slice none 0 0))]), none⟩,
    ⟨none, .store 4 (.t 6) (.t 39), none⟩,
    ⟨some 7, .mov (.t 40), none⟩,
    ⟨some 8, .mov (.t 41), none⟩])
  (.seq (.ops [⟨some 43, .load 4 true (.t 3), none⟩,
    ⟨some 44, .bslice 1 [(.v (.int .u8 0))] 1 [(0, 1, (.c (.v (.int .u8 98))))], none⟩,
    ⟨some 45, .sames (.t 44), none⟩,
    ⟨some 46, .call 9 [(.t 43), (.t 45)], none⟩,
    ⟨some 42, .mov (.t 46), none⟩,
    ⟨some 47, .extract (.t 42) 0, none⟩,
    ⟨some 48, .extract (.t 42) 1, none⟩,
    ⟨some 49, .extract (.t 42) 2, none⟩,
    ⟨some 9, .alloc (.agg [(.v (.int .i64 0)), (.v (.slice none 0 0)), (.v (.slice none 0 0)), (.v (.slice none 0 0))]), none⟩,
    ⟨none, .store 4 (.t 9) (.t 47), none⟩,
    ⟨some 10, .mov (.t 48), none⟩,
    ⟨some 11, .mov (.t 49), none⟩])
  (.seq (.ops [⟨some 51, .load 4 true (.t 3), none⟩,
    ⟨some 52, .bslice 1 [(.v (.int .u8 0))] 1 [(0, 1, (.c (.v (.int .u8 97))))], none⟩,
    ⟨some 53, .sames (.t 52), none⟩,
    ⟨some 54, .call 10 [(.t 51), (.t 53), (.c (.v (.int .i64 1)))], none⟩,
    ⟨some 50, .mov (.t 54), none⟩,
    ⟨some 55, .extract (.t 50) 0, none⟩,
    ⟨some 56, .extract (.t 50) 1, none⟩,
    ⟨some 12, .alloc (.agg [(.v (.int .i64 0)), (.v (.slice none 0 0)), (.v (.slice none 0 0)), (.v (.slice none 0 0))]), none⟩,
    ⟨none, .store 4 (.t 12) (.t 55), none⟩,
    ⟨some 13, .mov (.t 56), none⟩])
  (.seq (.ops [⟨some 58, .load 4 true (.t 12), none⟩,
    ⟨some 59, .bslice 1 [(.v (.int .u8 0))] 1 [(0, 1, (.c (.v (.int .u8 97))))], none⟩,
    ⟨some 60, .sames (.t 59), none⟩,
    ⟨some 61, .call 11 [(.t 58), (.t 60), (.c (.v (.int .i64 1)))], none⟩,
    ⟨some 57, .mov (.t 61), none⟩,
    ⟨some 62, .extract (.t 57) 0, none⟩,
    ⟨some 63, .extract (.t 57) 1, none⟩,
    ⟨some 14, .mov (.t 62), none⟩,
    ⟨some 15, .mov (.t 63), none⟩])
  (.seq (.ops [⟨some 65, .load 4 true (.t 12), none⟩,
    ⟨some 66, .bslice 1 [(.v (.int .u8 0))] 1 [(0, 1, (.c (.v (.int .u8 97))))], none⟩,
    ⟨some 67, .sames (.t 66), none⟩,
    ⟨some 68, .call 11 [(.t 65), (.t 67), (.c (.v (.int .i64 0)))], none⟩,
    ⟨some 64, .mov (.t 68), none⟩,
    ⟨some 69, .extract (.t 64) 0, none⟩,
    ⟨some 70, .extract (.t 64) 1, none⟩,
    ⟨some 16, .mov (.t 69), none⟩,
    ⟨some 17, .mov (.t 70), none⟩])
  (.seq (.ops [⟨some 72, .load 4 true (.t 12), none⟩,
    ⟨some 73, .bslice 1 [(.v (.int .u8 0))] 1 [(0, 1, (.c (.v (.int .u8 98))))], none⟩,
    ⟨some 74, .sames (.t 73), none⟩,
    ⟨some 75, .call 11 [(.t 72), (.t 74), (.c (.v (.int .i64 0)))], none⟩,
    ⟨some 71, .mov (.t 75), none⟩,
    ⟨some 76, .extract (.t 71) 0, none⟩,
    ⟨some 77, .extract (.t 71) 1, none⟩,
    ⟨some 18, .mov (.t 76), none⟩,
    ⟨some 19, .mov (.t 77), none⟩])
  (.seq (.ops [⟨some 79, .load 4 true (.t 12), none⟩,
    ⟨some 80, .bslice 1 [(.v (.int .u8 0))] 1 [(0, 1, (.c (.v (.int .u8 97))))], none⟩,
    ⟨some 81, .sames (.t 80), none⟩,
    ⟨some 82, .call 11 [(.t 79), (.t 81), (.c (.v (.int .i64 2)))], none⟩,
    ⟨some 78, .mov (.t 82), none⟩,
    ⟨some 83, .extract (.t 78) 0, none⟩,
    ⟨some 84, .extract (.t 78) 1, none⟩,
    ⟨some 20, .mov (.t 83), none⟩,
    ⟨some 21, .mov (.t 84), none⟩])
  (.seq (.ops [⟨some 85, .mov (.t 2), none⟩,
    ⟨some 86, .bin .eql false (.t 85) (.c (.v (.int .i64 0))), none⟩,
    ⟨some 87, .mov (.t 86), none⟩,
    ⟨some 88, .mov (.t 4), some (87, true)⟩,
    ⟨some 89, .pick (.t 87) (.t 88) (.c (.v (.bool false))), none⟩,
    ⟨some 90, .mov (.t 89), none⟩,
    ⟨some 91, .mov (.t 5), some (90, true)⟩,
    ⟨some 92, .bin .eql false (.t 91) (.c (.v (.int .i64 0))), some (90, true)⟩,
    ⟨some 93, .pick (.t 90) (.t 92) (.c (.v (.bool false))), none⟩,
    ⟨some 94, .mov (.t 93), none⟩,
    ⟨some 95, .mov (.t 7), some (94, true)⟩,
    ⟨some 96, .un .not (.t 95), some (94, true)⟩,
    ⟨some 97, .pick (.t 94) (.t 96) (.c (.v (.bool false))), none⟩,
    ⟨some 98, .mov (.t 97), none⟩,
    ⟨some 99, .mov (.t 8), some (98, true)⟩,
    ⟨some 100, .bin .eql false (.t 99) (.c (.v (.int .i64 0))), some (98, true)⟩,
    ⟨some 101, .pick (.t 98) (.t 100) (.c (.v (.bool false))), none⟩,
    ⟨some 102, .mov (.t 101), none⟩,
    ⟨some 103, .mov (.t 10), some (102, true)⟩,
    ⟨some 104, .un .not (.t 103), some (102, true)⟩,
    ⟨some 105, .pick (.t 102) (.t 104) (.c (.v (.bool false))), none⟩,
    ⟨some 106, .mov (.t 105), none⟩,
    ⟨some 107, .mov (.t 11), some (106, true)⟩,
    ⟨some 108, .bin .eql false (.t 107) (.c (.v (.int .i64 7))), some (106, true)⟩,
    ⟨some 109, .pick (.t 106) (.t 108) (.c (.v (.bool false))), none⟩,
    ⟨some 110, .mov (.t 109), none⟩,
    ⟨some 111, .mov (.t 13), some (110, true)⟩,
    ⟨some 112, .bin .eql false (.t 111) (.c (.v (.int .i64 0))), some (110, true)⟩,
    ⟨some 113, .pick (.t 110) (.t 112) (.c (.v (.bool false))), none⟩,
    ⟨some 114, .mov (.t 113), none⟩,
    ⟨some 115, .mov (.t 14), some (114, true)⟩,
    ⟨some 116, .pick (.t 114) (.t 115) (.c (.v (.bool false))), none⟩,
    ⟨some 117, .mov (.t 116), none⟩,
    ⟨some 118, .mov (.t 15), some (117, true)⟩,
    ⟨some 119, .bin .eql false (.t 118) (.c (.v (.int .i64 0))), some (117, true)⟩,
    ⟨some 120, .pick (.t 117) (.t 119) (.c (.v (.bool false))), none⟩,
    ⟨some 121, .mov (.t 120), none⟩,
    ⟨some 122, .mov (.t 16), some (121, true)⟩,
    ⟨some 123, .un .not (.t 122), some (121, true)⟩,
    ⟨some 124, .pick (.t 121) (.t 123) (.c (.v (.bool false))), none⟩,
    ⟨some 125, .mov (.t 124), none⟩,
    ⟨some 126, .mov (.t 17), some (125, true)⟩,
    ⟨some 127, .bin .eql false (.t 126) (.c (.v (.int .i64 0))), some (125, true)⟩,
    ⟨some 128, .pick (.t 125) (.t 127) (.c (.v (.bool false))), none⟩,
    ⟨some 129, .mov (.t 128), none⟩,
    ⟨some 130, .mov (.t 19), some (129, true)⟩,
    ⟨some 131, .bin .eql false (.t 130) (.c (.v (.int .i64 10))), some (129, true)⟩,
    ⟨some 132, .pick (.t 129) (.t 131) (.c (.v (.bool false))), none⟩,
    ⟨some 133, .mov (.t 132), none⟩,
    ⟨some 134, .mov (.t 21), some (133, true)⟩,
    ⟨some 135, .bin .eql false (.t 134) (.c (.v (.int .i64 1))), some (133, true)⟩,
    ⟨some 136, .pick (.t 133) (.t 135) (.c (.v (.bool false))), none⟩,
    ⟨some 137, .mov (.t 136), none⟩,
    ⟨some 138, .load 4 true (.t 12), some (137, true)⟩,
    ⟨some 139, .call 12 [(.t 138)], some (137, true)⟩,
    ⟨some 140, .bin .eql false (.t 139) (.c (.v (.int .i64 1))), some (137, true)⟩,
    ⟨some 141, .pick (.t 137) (.t 140) (.c (.v (.bool false))), none⟩,
    ⟨some 142, .mov (.t 141), none⟩,
    ⟨some 143, .load 4 true (.t 12), some (142, true)⟩,
    ⟨some 144, .bslice 1 [(.v (.int .u8 0))] 1 [(0, 1, (.c (.v (.int .u8 97))))], some (142, true)⟩,
    ⟨some 145, .sames (.t 144), some (142, true)⟩,
    ⟨some 146, .call 14 [(.t 143), (.t 145)], some (142, true)⟩,
    ⟨some 147, .pick (.t 142) (.t 146) (.c (.v (.bool false))), none⟩,
    ⟨some 148, .mov (.t 147), none⟩,
    ⟨some 149, .load 4 true (.t 1), some (148, true)⟩,
    ⟨some 150, .bslice 1 [(.v (.int .u8 0))] 1 [(0, 1, (.c (.v (.int .u8 97))))], some (148, true)⟩,
    ⟨some 151, .sames (.t 150), some (148, true)⟩,
    ⟨some 152, .call 14 [(.t 149), (.t 151)], some (148, true)⟩,
    ⟨some 153, .un .not (.t 152), some (148, true)⟩,
    ⟨some 154, .pick (.t 148) (.t 153) (.c (.v (.bool false))), none⟩,
    ⟨some 0, .mov (.t 154), none⟩])
  .ret)))))))))))⟩ := by kernel_rfl

theorem ir7 : compF Try.prog 7 = some ⟨23, [.t 4],
  (.seq (.ops [⟨some 4, .mov (.c (.v (.bool false))), none⟩])
  (.seq (.seq (.ops [⟨some 6, .mov (.t 0), none⟩,
    ⟨some 7, .len false (.t 6), none⟩,
    ⟨some 8, .mov (.t 1), none⟩,
    ⟨some 9, .bin .gtr false (.t 7) (.t 8), none⟩])
  (.cond (.t 9)
    (.seq (.ops [⟨some 4, .mov (.c (.v (.bool false))), none⟩])
    .ret)
    .skip))
  (.seq (.seq (.ops [⟨some 5, .mov (.c (.v (.int .i64 0))), none⟩])
  (.block 0 (.loop
    (.seq (.seq (.ops [⟨some 10, .mov (.t 5), none⟩,
      ⟨some 11, .mov (.t 0), none⟩,
      ⟨some 12, .len false (.t 11), none⟩,
      ⟨some 13, .bin .lss false (.t 10) (.t 12), none⟩])
    (.cond (.t 13)
      .skip
      (.exit 0)))
    (.seq (.block 1 (.seq (.ops [⟨some 16, .mov (.t 0), none⟩,
      ⟨some 17, .mov (.t 5), none⟩,
      ⟨some 18, .iaddr 3 (.t 16) (.t 17), none⟩,
      ⟨some 19, .faddr 1 (.t 18), none⟩,
      ⟨some 20, .load 1 false (.t 19), none⟩,
      ⟨some 21, .len false (.t 20), none⟩,
      ⟨some 22, .bin .gtr false (.t 21) (.c (.v (.int .i64 200))), none⟩])
    (.cond (.t 22)
      (.seq (.ops [⟨some 4, .mov (.c (.v (.bool false))), none⟩])
      .ret)
      .skip)))
    (.ops [⟨some 14, .mov (.t 5), none⟩,
      ⟨some 15, .bin .add false (.t 14) (.c (.v (.int .i64 1))), none⟩,
      ⟨some 5, .mov (.t 15), none⟩]))))))
  (.seq (.ops [⟨some 4, .mov (.c (.v (.bool true))), none⟩])
  .ret))))⟩ := by kernel_rfl

theorem ir8 : compF Try.prog 8 = some ⟨14, [.c 2 4 true, .t 3],
  (.seq (.ops [⟨some 2, .alloc (.agg [(.v (.int .i64 0)), (.v (.slice none 0 0)), (.v (.slice none 0 0)), (.v (.slice none 0 0))]), none⟩,
    ⟨some 3, .mov (.c (.v (.int .i64 0))), none⟩])
  (.seq (.ops [⟨some 7, .mov (.t 0), none⟩,
    ⟨some 8, .call 15 [(.t 7)], none⟩,
    ⟨some 6, .mov (.t 8), none⟩,
    ⟨some 9, .extract (.t 6) 0, none⟩,
    ⟨some 10, .extract (.t 6) 1, none⟩,
    ⟨some 4, .alloc (.agg [(.v (.int .i64 0)), (.v (.slice none 0 0)), (.v (.slice none 0 0))]), none⟩,
    ⟨none, .store 3 (.t 4) (.t 9), none⟩,
    ⟨some 5, .mov (.t 10), none⟩])
  (.seq (.ops [⟨some 11, .load 3 true (.t 4), none⟩,
    ⟨some 12, .build [(.v (.int .i64 0)), (.v (.slice none 0 0)), (.v (.slice none 0 0)), (.v (.slice none 0 0))] [(0, 3, (.t 11))], none⟩,
    ⟨some 13, .mov (.t 5), none⟩,
    ⟨none, .store 4 (.t 2) (.t 12), none⟩,
    ⟨some 3, .mov (.t 13), none⟩])
  .ret)))⟩ := by kernel_rfl

theorem ir9 : compF Try.prog 9 = some ⟨31, [.c 4 4 true, .t 5, .t 6],
  (.seq (.ops [⟨some 2, .box (.t 0), none⟩,
    ⟨some 4, .alloc (.agg [(.v (.int .i64 0)), (.v (.slice none 0 0)), (.v (.slice none 0 0)), (.v (.slice none 0 0))]), none⟩,
    ⟨some 5, .mov (.c (.v (.bool false))), none⟩,
    ⟨some 6, .mov (.c (.v (.int .i64 0))), none⟩])
  (.seq (.ops [⟨some 12, .faddr 0 (.t 2), none⟩,
    ⟨some 13, .load 3 true (.t 12), none⟩,
    ⟨some 14, .mov (.t 1), none⟩,
    ⟨some 15, .call 16 [(.t 13), (.t 14)], none⟩,
    ⟨some 11, .mov (.t 15), none⟩,
    ⟨some 16, .extract (.t 11) 0, none⟩,
    ⟨some 17, .extract (.t 11) 1, none⟩,
    ⟨some 18, .extract (.t 11) 2, none⟩,
    ⟨some 19, .extract (.t 11) 3, none⟩,
    ⟨some 7, .alloc (.agg [(.v (.int .i64 0)), (.v (.slice none 0 0)), (.v (.slice none 0 0))]), none⟩,
    ⟨none, .store 3 (.t 7) (.t 16), none⟩,
    ⟨some 8, .mov (.t 17), none⟩,
    ⟨some 9, .mov (.t 18), none⟩,
    ⟨some 10, .mov (.t 19), none⟩])
  (.seq (.seq (.ops [⟨some 20, .mov (.t 9), none⟩,
    ⟨some 21, .un .not (.t 20), none⟩])
  (.cond (.t 21)
    (.seq (.ops [⟨some 22, .load 4 true (.t 2), none⟩,
      ⟨some 23, .mov (.t 10), none⟩,
      ⟨none, .store 4 (.t 4) (.t 22), none⟩,
      ⟨some 5, .mov (.c (.v (.bool false))), none⟩,
      ⟨some 6, .mov (.t 23), none⟩])
    .ret)
    .skip))
  (.seq (.drawF [([0], [⟨some 24, .load 3 true (.t 7), none⟩,
      ⟨some 25, .faddr 3 (.t 2), none⟩,
      ⟨some 26, .load 1 false (.t 25), none⟩,
      ⟨some 27, .call 17 [(.t 26)], none⟩,
      ⟨some 28, .bslice 1 [(.v (.int .u8 0))] 1 [(0, 1, (.c (.v (.int .u8 0))))], none⟩,
      ⟨some 29, .append 1 1 [(.v (.int .u8 0))] (.t 27) (.t 28), none⟩]),
    ([], [⟨some 30, .build [(.v (.int .i64 0)), (.v (.slice none 0 0)), (.v (.slice none 0 0)), (.v (.slice none 0 0))] [(0, 3, (.t 24)), (3, 1, (.t 29))], none⟩]),
    ([], [⟨none, .store 4 (.t 4) (.t 30), none⟩]),
    ([], [⟨some 5, .mov (.c (.v (.bool true))), none⟩]),
    ([], [⟨some 6, .mov (.c (.v (.int .i64 0))), none⟩])])
  .ret))))⟩ := by kernel_rfl

theorem ir10 : compF Try.prog 10 = some ⟨18, [.c 6 4 true, .t 7],
  (.seq (.ops [⟨some 3, .box (.t 0), none⟩,
    ⟨some 6, .alloc (.agg [(.v (.int .i64 0)), (.v (.slice none 0 0)), (.v (.slice none 0 0)), (.v (.slice none 0 0))]), none⟩,
    ⟨some 7, .mov (.c (.v (.int .i64 0))), none⟩])
  (.seq (.ops [⟨some 10, .load 4 true (.t 3), none⟩,
    ⟨some 8, .alloc (.agg [(.v (.int .i64 0)), (.v (.slice none 0 0)), (.v (.slice none 0 0)), (.v (.slice none 0 0))]), none⟩,
    ⟨none, .store 4 (.t 8) (.t 10), none⟩])
  (.seq (.ops [⟨some 11, .load 4 true (.t 3), none⟩,
    ⟨some 12, .mov (.t 1), none⟩,
    ⟨some 13, .mov (.t 2), none⟩,
    ⟨some 14, .mkfn (.func 19) [] [(.t 3), (.t 8)], none⟩,
    ⟨some 15, .call 18 [(.t 11), (.t 12), (.t 13), (.t 14)], none⟩,
    ⟨some 9, .mov (.t 15), none⟩])
  (.seq (.ops [⟨some 16, .load 4 true (.t 8), none⟩,
    ⟨some 17, .mov (.t 9), none⟩,
    ⟨none, .store 4 (.t 6) (.t 16), none⟩,
    ⟨some 7, .mov (.t 17), none⟩])
  .ret))))⟩ := by kernel_rfl

theorem ir11 : compF Try.prog 11 = some ⟨17, [.t 6, .t 7],
  (.seq (.ops [⟨some 3, .box (.t 0), none⟩,
    ⟨some 6, .mov (.c (.v (.bool false))), none⟩,
    ⟨some 7, .mov (.c (.v (.int .i64 0))), none⟩])
  (.seq (.ops [⟨some 8, .alloc (.v (.bool false)), none⟩,
    ⟨none, .store 1 (.t 8) (.c (.v (.bool false))), none⟩])
  (.seq (.ops [⟨some 10, .load 4 true (.t 3), none⟩,
    ⟨some 11, .mov (.t 1), none⟩,
    ⟨some 12, .mov (.t 2), none⟩,
    ⟨some 13, .mkfn (.func 21) [] [(.t 3), (.t 8)], none⟩,
    ⟨some 14, .call 18 [(.t 10), (.t 11), (.t 12), (.t 13)], none⟩,
    ⟨some 9, .mov (.t 14), none⟩])
  (.seq (.ops [⟨some 15, .load 1 false (.t 8), none⟩,
    ⟨some 16, .mov (.t 9), none⟩,
    ⟨some 6, .mov (.t 15), none⟩,
    ⟨some 7, .mov (.t 16), none⟩])
  .ret))))⟩ := by kernel_rfl

theorem ir12 : compF Try.prog 12 = some ⟨6, [.t 2],
  (.seq (.ops [⟨some 1, .box (.t 0), none⟩,
    ⟨some 2, .mov (.c (.v (.int .i64 0))), none⟩])
  (.seq (.ops [⟨some 3, .faddr 0 (.t 1), none⟩,
    ⟨some 4, .load 3 true (.t 3), none⟩,
    ⟨some 5, .call 22 [(.t 4)], none⟩,
    ⟨some 2, .mov (.t 5), none⟩])
  .ret))⟩ := by kernel_rfl

theorem ir13 : compF Try.prog 13 = some ⟨4, [.t 2],
  (.seq (.ops [⟨some 2, .mov (.c (.v (.int .i64 0))), none⟩])
  (.seq (.seq (.ops [⟨some 3, .mov (.t 0), none⟩])
  (.cond (.t 3)
    (.seq (.ops [⟨some 2, .mov (.c (.v (.int .i64 1))), none⟩])
    .ret)
    .skip))
  (.seq (.ops [⟨some 2, .mov (.c (.v (.int .i64 0))), none⟩])
  .ret)))⟩ := by kernel_rfl

theorem ir14 : compF Try.prog 14 = some ⟨15, [.t 4],
  (.seq (.ops [⟨some 2, .box (.t 0), none⟩,
    ⟨some 4, .mov (.c (.v (.bool false))), none⟩])
  (.seq (.ops [⟨some 8, .faddr 0 (.t 2), none⟩,
    ⟨some 9, .load 3 true (.t 8), none⟩,
    ⟨some 10, .mov (.t 1), none⟩,
    ⟨some 11, .call 23 [(.t 9), (.t 10)], none⟩,
    ⟨some 7, .mov (.t 11), none⟩,
    ⟨some 12, .extract (.t 7) 0, none⟩,
    ⟨some 13, .extract (.t 7) 1, none⟩,
    ⟨some 5, .mov (.t 12), none⟩,
    ⟨some 6, .mov (.t 13), none⟩])
  (.seq (.ops [⟨some 14, .mov (.t 6), none⟩,
    ⟨some 4, .mov (.t 14), none⟩])
  .ret)))⟩ := by kernel_rfl

theorem ir15 : compF Try.prog 15 = some ⟨14, [.c 2 3 true, .t 3],
  (.seq (.ops [⟨some 2, .alloc (.agg [(.v (.int .i64 0)), (.v (.slice none 0 0)), (.v (.slice none 0 0))]), none⟩,
    ⟨some 3, .mov (.c (.v (.int .i64 0))), none⟩])
  (.seq (.seq (.ops [⟨some 4, .mov (.t 0), none⟩,
    ⟨some 5, .bin .lss false (.t 4) (.c (.v (.int .i64 0))), none⟩,
    ⟨some 6, .mov (.t 5), none⟩,
    ⟨some 7, .mov (.t 0), some (6, false)⟩,
    ⟨some 8, .bin .gtr false (.t 7) (.c (.v (.int .i64 1048576))), some (6, false)⟩,
    ⟨some 9, .pick (.t 6) (.c (.v (.bool true))) (.t 8), none⟩])
  (.cond (.t 9)
    (.seq (.ops [⟨some 10, .build [(.v (.int .i64 0)), (.v (.slice none 0 0)), (.v (.slice none 0 0))] [], none⟩,
      ⟨none, .store 3 (.t 2) (.t 10), none⟩,
      ⟨some 3, .mov (.c (.v (.int .i64 1))), none⟩])
    .ret)
    .skip))
  (.seq (.ops [⟨some 11, .mov (.t 0), none⟩,
    ⟨some 12, .mksl 1 8 [(.v (.int .i64 0))] (.c (.v (.int .i64 8))) (.c (.v (.int .i64 8))), none⟩,
    ⟨some 13, .build [(.v (.int .i64 0)), (.v (.slice none 0 0)), (.v (.slice none 0 0))] [(0, 1, (.t 11)), (2, 1, (.t 12))], none⟩,
    ⟨none, .store 3 (.t 2) (.t 13), none⟩,
    ⟨some 3, .mov (.c (.v (.int .i64 0))), none⟩])
  .ret)))⟩ := by kernel_rfl

theorem ir16 : compF Try.prog 16 = some ⟨86, [.c 4 3 true, .t 5, .t 6, .t 7],
  (.seq (.ops [⟨some 2, .box (.t 0), none⟩,
    ⟨some 4, .alloc (.agg [(.v (.int .i64 0)), (.v (.slice none 0 0)), (.v (.slice none 0 0))]), none⟩,
    ⟨some 5, .mov (.c (.v (.int .i64 0))), none⟩,
    ⟨some 6, .mov (.c (.v (.bool false))), none⟩,
    ⟨some 7, .mov (.c (.v (.int .i64 0))), none⟩])
  (.seq (.seq (.ops [⟨some 14, .load 3 true (.t 2), none⟩,
    ⟨some 15, .mov (.t 1), none⟩,
    ⟨some 16, .call 23 [(.t 14), (.t 15)], none⟩,
    ⟨some 13, .mov (.t 16), none⟩,
    ⟨some 17, .extract (.t 13) 0, none⟩,
    ⟨some 18, .extract (.t 13) 1, none⟩,
    ⟨some 8, .mov (.t 17), none⟩,
    ⟨some 9, .mov (.t 18), none⟩])
  (.seq (.ops [⟨some 19, .mov (.t 9), none⟩])
  (.cond (.t 19)
    (.seq (.ops [⟨some 20, .load 3 true (.t 2), none⟩,
      ⟨some 21, .mov (.t 8), none⟩,
      ⟨none, .store 3 (.t 4) (.t 20), none⟩,
      ⟨some 5, .mov (.t 21), none⟩,
      ⟨some 6, .mov (.c (.v (.bool false))), none⟩,
      ⟨some 7, .mov (.c (.v (.int .i64 0))), none⟩])
    .ret)
    .skip)))
  (.seq (.ops [⟨some 22, .faddr 1 (.t 2), none⟩,
    ⟨some 23, .load 1 false (.t 22), none⟩,
    ⟨some 24, .len false (.t 23), none⟩,
    ⟨some 10, .mov (.t 24), none⟩])
  (.seq (.seq (.ops [⟨some 25, .mov (.t 10), none⟩,
    ⟨some 26, .faddr 0 (.t 2), none⟩,
    ⟨some 27, .load 1 false (.t 26), none⟩,
    ⟨some 28, .bin .geq false (.t 25) (.t 27), none⟩])
  (.cond (.t 28)
    (.seq (.ops [⟨some 29, .load 3 true (.t 2), none⟩,
      ⟨none, .store 3 (.t 4) (.t 29), none⟩,
      ⟨some 5, .mov (.c (.v (.int .i64 0))), none⟩,
      ⟨some 6, .mov (.c (.v (.bool false))), none⟩,
      ⟨some 7, .mov (.c (.v (.int .i64 7))), none⟩])
    .ret)
    .skip))
  (.seq (.ops [⟨some 30, .load 3 true (.t 2), none⟩,
    ⟨some 31, .build [(.v (.int .i64 0)), (.v (.slice none 0 0)), (.v (.slice none 0 0))] [(0, 3, (.t 30))], none⟩,
    ⟨some 32, .build [(.v (.int .i64 0)), (.v (.slice none 0 0)), (.v (.slice none 0 0))] [(0, 3, (.t 31))], none⟩,
    ⟨some 33, .box (.t 32), none⟩,
    ⟨some 11, .mov (.t 33), none⟩])
  (.seq (.ops [⟨some 34, .mov (.t 11), none⟩,
    ⟨some 35, .faddr 1 (.t 2), none⟩,
    ⟨some 36, .load 1 false (.t 35), none⟩,
    ⟨some 37, .call 24 [(.t 36)], none⟩,
    ⟨some 38, .mov (.t 1), none⟩,
    ⟨some 39, .call 25 [(.t 38)], none⟩,
    ⟨some 40, .bslice 1 [(.v (.slice none 0 0))] 1 [(0, 1, (.t 39))], none⟩,
    ⟨some 41, .append 1 24 [(.v (.slice none 0 0))] (.t 37) (.t 40), none⟩,
    ⟨some 42, .nilchk (.t 34), none⟩,
    ⟨some 43, .faddr 0 (.t 42), none⟩,
    ⟨some 44, .faddr 0 (.t 43), none⟩,
    ⟨some 45, .faddr 1 (.t 44), none⟩,
    ⟨none, .store 1 (.t 45) (.t 41), none⟩])
  (.seq (.seq (.ops [⟨some 46, .faddr 2 (.t 2), none⟩,
    ⟨some 47, .load 1 false (.t 46), none⟩,
    ⟨some 48, .len false (.t 47), none⟩,
    ⟨some 49, .mm true (.t 48) [(.c (.v (.int .i64 8)))], none⟩,
    ⟨some 12, .mov (.t 49), none⟩])
  (.seq (.ops [⟨some 50, .mov (.t 10), none⟩,
    ⟨some 51, .bin .add false (.t 50) (.c (.v (.int .i64 1))), none⟩,
    ⟨some 52, .bin .mul false (.c (.v (.int .i64 2))) (.t 51), none⟩,
    ⟨some 53, .mov (.t 12), none⟩,
    ⟨some 54, .bin .gtr false (.t 52) (.t 53), none⟩])
  (.cond (.t 54)
    (.ops [⟨some 55, .mov (.t 11), none⟩,
      ⟨some 56, .mov (.t 12), none⟩,
      ⟨some 57, .bin .mul false (.c (.v (.int .i64 2))) (.t 56), none⟩,
      ⟨some 58, .call 26 [(.t 55), (.t 57)], none⟩])
    (.seq (.ops [⟨some 59, .mov (.t 11), none⟩,
      ⟨some 60, .faddr 2 (.t 2), none⟩,
      ⟨some 61, .load 1 false (.t 60), none⟩,
      ⟨some 62, .call 27 [(.t 61)], none⟩,
      ⟨some 63, .nilchk (.t 59), none⟩,
      ⟨some 64, .faddr 0 (.t 63), none⟩,
      ⟨some 65, .faddr 0 (.t 64), none⟩,
      ⟨some 66, .faddr 2 (.t 65), none⟩,
      ⟨none, .store 1 (.t 66) (.t 62), none⟩])
    (.draw [[⟨some 67, .mov (.t 11), none⟩,
        ⟨some 68, .nilchk (.t 67), none⟩,
        ⟨some 69, .faddr 0 (.t 68), none⟩,
        ⟨some 70, .faddr 0 (.t 69), none⟩,
        ⟨some 71, .faddr 2 (.t 70), none⟩,
        ⟨some 72, .load 1 false (.t 71), none⟩,
        ⟨some 73, .load 3 true (.t 2), none⟩,
        ⟨some 74, .build [(.v (.int .i64 0)), (.v (.slice none 0 0)), (.v (.slice none 0 0))] [(0, 3, (.t 73))], none⟩,
        ⟨some 75, .mov (.t 1), none⟩,
        ⟨some 76, .call 28 [(.t 74), (.t 75)], none⟩,
        ⟨some 77, .mov (.t 10), none⟩,
        ⟨some 78, .bin .add false (.t 77) (.c (.v (.int .i64 1))), none⟩],
      [⟨some 79, .iaddr 1 (.t 72) (.t 76), none⟩],
      [⟨none, .store 1 (.t 79) (.t 78), none⟩]])))))
  (.seq (.ops [⟨some 80, .mov (.t 11), none⟩,
    ⟨some 81, .nilchk (.t 80), none⟩,
    ⟨some 82, .faddr 0 (.t 81), none⟩,
    ⟨some 83, .faddr 0 (.t 82), none⟩,
    ⟨some 84, .load 3 true (.t 83), none⟩,
    ⟨some 85, .mov (.t 10), none⟩,
    ⟨none, .store 3 (.t 4) (.t 84), none⟩,
    ⟨some 5, .mov (.t 85), none⟩,
    ⟨some 6, .mov (.c (.v (.bool true))), none⟩,
    ⟨some 7, .mov (.c (.v (.int .i64 0))), none⟩])
  .ret))))))))⟩ := by kernel_rfl

theorem ir17 : compF Try.prog 17 = some ⟨9, [.t 2],
  (.seq (.ops [⟨some 2, .mov (.c (.v (.slice none 0 0))), none⟩])
  (.seq (.ops [⟨some 3, .mov (.t 0), none⟩,
    ⟨some 4, .mov (.t 0), none⟩,
    ⟨some 5, .len false (.t 4), none⟩,
    ⟨some 6, .mov (.t 0), none⟩,
    ⟨some 7, .len false (.t 6), none⟩,
    ⟨some 8, .slice 1 (.t 3) none (some (.t 5)) (some (.t 7)), none⟩,
    ⟨some 2, .mov (.t 8), none⟩])
  .ret))⟩ := by kernel_rfl

theorem ir18 : compF Try.prog 18 = some ⟨29, [.t 8],
  (.seq (.ops [⟨some 4, .box (.t 0), none⟩,
    ⟨some 8, .mov (.c (.v (.int .i64 0))), none⟩])
  (.seq (.ops [⟨some 12, .mov (.t 2), none⟩,
    ⟨some 13, .call 29 [(.t 12)], none⟩,
    ⟨some 9, .mov (.t 13), none⟩])
  (.seq (.seq (.ops [⟨some 14, .mov (.t 9), none⟩,
    ⟨some 15, .bin .eql false (.t 14) (.c (.v (.int .u8 0))), none⟩])
  (.cond (.t 15)
    (.seq (.ops [⟨some 8, .mov (.c (.v (.int .i64 1))), none⟩])
    .ret)
    .skip))
  (.seq (.ops [⟨some 17, .faddr 0 (.t 4), none⟩,
    ⟨some 18, .load 3 true (.t 17), none⟩,
    ⟨some 19, .mov (.t 1), none⟩,
    ⟨some 20, .call 23 [(.t 18), (.t 19)], none⟩,
    ⟨some 16, .mov (.t 20), none⟩,
    ⟨some 21, .extract (.t 16) 0, none⟩,
    ⟨some 22, .extract (.t 16) 1, none⟩,
    ⟨some 10, .mov (.t 21), none⟩,
    ⟨some 11, .mov (.t 22), none⟩])
  (.seq (.seq (.ops [⟨some 23, .mov (.t 11), none⟩,
    ⟨some 24, .un .not (.t 23), none⟩])
  (.cond (.t 24)
    (.seq (.ops [⟨some 8, .mov (.c (.v (.int .i64 10))), none⟩])
    .ret)
    .skip))
  (.seq (.ops [⟨some 25, .mov (.t 3), none⟩,
    ⟨some 26, .mov (.t 10), none⟩,
    ⟨some 27, .mov (.t 9), none⟩,
    ⟨some 28, .calld (.t 25) [(.t 26), (.t 27)], none⟩])
  (.seq (.ops [⟨some 8, .mov (.c (.v (.int .i64 0))), none⟩])
  .ret)))))))⟩ := by kernel_rfl

theorem ir19 : compF Try.prog 19 = some ⟨18, [],
  (.seq (.ops [⟨some 6, .faddr 3 (.t 2), none⟩,
    ⟨some 7, .load 1 false (.t 6), none⟩,
    ⟨some 8, .call 20 [(.t 7)], none⟩,
    ⟨some 9, .faddr 3 (.t 3), none⟩,
    ⟨none, .store 1 (.t 9) (.t 8), none⟩])
  (.ops [⟨some 10, .faddr 3 (.t 3), none⟩,
    ⟨some 11, .load 1 false (.t 10), none⟩,
    ⟨some 12, .mov (.t 0), none⟩,
    ⟨some 13, .iaddr 1 (.t 11) (.t 12), none⟩,
    ⟨some 14, .load 1 false (.t 13), none⟩,
    ⟨some 15, .mov (.t 1), none⟩,
    ⟨some 16, .bin .or false (.t 14) (.t 15), none⟩,
    ⟨some 17, .iaddr 1 (.t 11) (.t 12), none⟩,
    ⟨none, .store 1 (.t 17) (.t 16), none⟩]))⟩ := by kernel_rfl

theorem ir20 : compF Try.prog 20 = some ⟨8, [.t 2],
  (.seq (.ops [⟨some 2, .mov (.c (.v (.slice none 0 0))), none⟩])
  (.seq (.seq (.ops [⟨some 3, .mov (.t 0), none⟩,
    ⟨some 4, .isnil false (.t 3), none⟩])
  (.cond (.t 4)
    (.seq (.ops [⟨some 2, .mov (.c (.v (.slice none 0 0))), none⟩])
    .ret)
    .skip))
  (.seq (.ops [⟨some 5, .bslice 1 [(.v (.int .u8 0))] 0 [], none⟩,
    ⟨some 6, .mov (.t 0), none⟩,
    ⟨some 7, .append 1 1 [(.v (.int .u8 0))] (.t 5) (.t 6), none⟩,
    ⟨some 2, .mov (.t 7), none⟩])
  .ret)))⟩ := by kernel_rfl

theorem ir21 : compF Try.prog 21 = some ⟨14, [],
  (.ops [⟨some 6, .faddr 3 (.t 2), none⟩,
    ⟨some 7, .load 1 false (.t 6), none⟩,
    ⟨some 8, .mov (.t 0), none⟩,
    ⟨some 9, .iaddr 1 (.t 7) (.t 8), none⟩,
    ⟨some 10, .load 1 false (.t 9), none⟩,
    ⟨some 11, .mov (.t 1), none⟩,
    ⟨some 12, .bin .and false (.t 10) (.t 11), none⟩,
    ⟨some 13, .bin .neq false (.t 12) (.c (.v (.int .u8 0))), none⟩,
    ⟨none, .store 1 (.t 3) (.t 13), none⟩])⟩ := by kernel_rfl

theorem ir22 : compF Try.prog 22 = some ⟨6, [.t 2],
  (.seq (.ops [⟨some 1, .box (.t 0), none⟩,
    ⟨some 2, .mov (.c (.v (.int .i64 0))), none⟩])
  (.seq (.ops [⟨some 3, .faddr 1 (.t 1), none⟩,
    ⟨some 4, .load 1 false (.t 3), none⟩,
    ⟨some 5, .len false (.t 4), none⟩,
    ⟨some 2, .mov (.t 5), none⟩])
  .ret))⟩ := by kernel_rfl

theorem ir23 : compF Try.prog 23 = some ⟨12, [.t 4, .t 5],
  (.seq (.ops [⟨some 2, .box (.t 0), none⟩,
    ⟨some 4, .mov (.c (.v (.int .i64 0))), none⟩,
    ⟨some 5, .mov (.c (.v (.bool false))), none⟩])
  (.seq (.ops [⟨some 6, .load 3 true (.t 2), none⟩,
    ⟨some 7, .build [(.v (.int .i64 0)), (.v (.slice none 0 0)), (.v (.slice none 0 0))] [(0, 3, (.t 6))], none⟩,
    ⟨some 8, .mov (.t 1), none⟩,
    ⟨some 9, .call 30 [(.t 7), (.t 8)], none⟩,
    ⟨some 10, .extract (.t 9) 0, none⟩,
    ⟨some 11, .extract (.t 9) 1, none⟩,
    ⟨some 4, .mov (.t 10), none⟩,
    ⟨some 5, .mov (.t 11), none⟩])
  .ret))⟩ := by kernel_rfl

theorem ir24 : compF Try.prog 24 = some ⟨9, [.t 2],
  (.seq (.ops [⟨some 2, .mov (.c (.v (.slice none 0 0))), none⟩])
  (.seq (.ops [⟨some 3, .mov (.t 0), none⟩,
    ⟨some 4, .mov (.t 0), none⟩,
    ⟨some 5, .len false (.t 4), none⟩,
    ⟨some 6, .mov (.t 0), none⟩,
    ⟨some 7, .len false (.t 6), none⟩,
    ⟨some 8, .slice 1 (.t 3) none (some (.t 5)) (some (.t 7)), none⟩,
    ⟨some 2, .mov (.t 8), none⟩])
  .ret))⟩ := by kernel_rfl

theorem ir25 : compF Try.prog 25 = some ⟨8, [.t 2],
  (.seq (.ops [⟨some 2, .mov (.c (.v (.slice none 0 0))), none⟩])
  (.seq (.seq (.ops [⟨some 3, .mov (.t 0), none⟩,
    ⟨some 4, .isnil false (.t 3), none⟩])
  (.cond (.t 4)
    (.seq (.ops [⟨some 2, .mov (.c (.v (.slice none 0 0))), none⟩])
    .ret)
    .skip))
  (.seq (.ops [⟨some 5, .bslice 1 [(.v (.int .u8 0))] 0 [], none⟩,
    ⟨some 6, .mov (.t 0), none⟩,
    ⟨some 7, .append 1 1 [(.v (.int .u8 0))] (.t 5) (.t 6), none⟩,
    ⟨some 2, .mov (.t 7), none⟩])
  .ret)))⟩ := by kernel_rfl

theorem ir26 : compF Try.prog 26 = some ⟨41, [],
  (.seq (.ops [⟨some 6, .mov (.t 0), none⟩,
    ⟨some 7, .mov (.t 1), none⟩,
    ⟨some 8, .mksl 1 8 [(.v (.int .i64 0))] (.t 7) (.t 7), none⟩,
    ⟨some 9, .nilchk (.t 6), none⟩,
    ⟨some 10, .faddr 0 (.t 9), none⟩,
    ⟨some 11, .faddr 0 (.t 10), none⟩,
    ⟨some 12, .faddr 2 (.t 11), none⟩,
    ⟨none, .store 1 (.t 12) (.t 8), none⟩])
  (.seq (.ops [⟨some 13, .mov (.t 0), none⟩,
    ⟨some 14, .nilchk (.t 13), none⟩,
    ⟨some 15, .faddr 0 (.t 14), none⟩,
    ⟨some 16, .faddr 0 (.t 15), none⟩,
    ⟨some 17, .faddr 1 (.t 16), none⟩,
    ⟨some 18, .load 1 false (.t 17), none⟩,
    ⟨some 19, .len false (.t 18), none⟩,
    ⟨some 20, .mov (.c (.v (.int .i64 0))), none⟩])
  (.block 0 (.loop
    (.seq (.ops [⟨some 21, .bin .lss false (.t 20) (.t 19), none⟩])
    (.seq (.cond (.t 21)
      .skip
      (.exit 0))
    (.seq (.block 1 (.seq (.ops [⟨some 22, .mov (.t 20), none⟩,
      ⟨some 23, .iaddr 1 (.t 18) (.t 20), none⟩,
      ⟨some 24, .load 1 false (.t 23), none⟩,
      ⟨some 4, .mov (.t 22), none⟩,
      ⟨some 5, .mov (.t 24), none⟩])
    (.draw [[⟨some 25, .mov (.t 0), none⟩,
        ⟨some 26, .nilchk (.t 25), none⟩,
        ⟨some 27, .faddr 0 (.t 26), none⟩,
        ⟨some 28, .faddr 0 (.t 27), none⟩,
        ⟨some 29, .faddr 2 (.t 28), none⟩,
        ⟨some 30, .load 1 false (.t 29), none⟩,
        ⟨some 31, .mov (.t 0), none⟩,
        ⟨some 32, .nilchk (.t 31), none⟩,
        ⟨some 33, .faddr 0 (.t 32), none⟩,
        ⟨some 34, .load 3 true (.t 33), none⟩,
        ⟨some 35, .mov (.t 5), none⟩,
        ⟨some 36, .call 28 [(.t 34), (.t 35)], none⟩,
        ⟨some 37, .mov (.t 4), none⟩,
        ⟨some 38, .bin .add false (.t 37) (.c (.v (.int .i64 1))), none⟩],
      [⟨some 39, .iaddr 1 (.t 30) (.t 36), none⟩],
      [⟨none, .store 1 (.t 39) (.t 38), none⟩]])))
    (.ops [⟨some 40, .bin .add false (.t 20) (.c (.v (.int .i64 1))), none⟩,
      ⟨some 20, .mov (.t 40), none⟩]))))))))⟩ := by kernel_rfl

theorem ir27 : compF Try.prog 27 = some ⟨8, [.t 2],
  (.seq (.ops [⟨some 2, .mov (.c (.v (.slice none 0 0))), none⟩])
  (.seq (.seq (.ops [⟨some 3, .mov (.t 0), none⟩,
    ⟨some 4, .isnil false (.t 3), none⟩])
  (.cond (.t 4)
    (.seq (.ops [⟨some 2, .mov (.c (.v (.slice none 0 0))), none⟩])
    .ret)
    .skip))
  (.seq (.ops [⟨some 5, .bslice 1 [(.v (.int .i64 0))] 0 [], none⟩,
    ⟨some 6, .mov (.t 0), none⟩,
    ⟨some 7, .append 1 8 [(.v (.int .i64 0))] (.t 5) (.t 6), none⟩,
    ⟨some 2, .mov (.t 7), none⟩])
  .ret)))⟩ := by kernel_rfl

theorem ir28 : compF Try.prog 28 = some ⟨41, [.t 4],
  (.seq (.ops [⟨some 2, .box (.t 0), none⟩,
    ⟨some 4, .mov (.c (.v (.int .i64 0))), none⟩])
  (.scope 0 (.seq (.draw [[⟨some 7, .mov (.t 1), none⟩,
      ⟨some 8, .call 32 [(.t 7), (.c (.v (.int .u64 0)))], none⟩,
      ⟨some 9, .faddr 0 (.t 2), none⟩,
      ⟨some 10, .faddr 2 (.t 9), none⟩,
      ⟨some 11, .load 1 false (.t 10), none⟩,
      ⟨some 12, .len false (.t 11), none⟩],
    [⟨some 13, .call 31 [(.t 8), (.t 12)], none⟩],
    [⟨some 5, .mov (.t 13), none⟩]])
  (.seq (.label 0)
  (.seq (.ops [⟨some 14, .faddr 0 (.t 2), none⟩,
    ⟨some 15, .faddr 2 (.t 14), none⟩,
    ⟨some 16, .load 1 false (.t 15), none⟩,
    ⟨some 17, .mov (.t 5), none⟩,
    ⟨some 18, .iaddr 1 (.t 16) (.t 17), none⟩,
    ⟨some 19, .load 1 false (.t 18), none⟩,
    ⟨some 6, .mov (.t 19), none⟩])
  (.seq (.seq (.ops [⟨some 20, .mov (.t 6), none⟩,
    ⟨some 21, .bin .eql false (.t 20) (.c (.v (.int .i64 0))), none⟩,
    ⟨some 22, .mov (.t 21), none⟩,
    ⟨some 23, .faddr 0 (.t 2), some (22, false)⟩,
    ⟨some 24, .faddr 1 (.t 23), some (22, false)⟩,
    ⟨some 25, .load 1 false (.t 24), some (22, false)⟩,
    ⟨some 26, .mov (.t 6), some (22, false)⟩,
    ⟨some 27, .bin .sub false (.t 26) (.c (.v (.int .i64 1))), some (22, false)⟩,
    ⟨some 28, .iaddr 1 (.t 25) (.t 27), some (22, false)⟩,
    ⟨some 29, .load 1 false (.t 28), some (22, false)⟩,
    ⟨some 30, .mov (.t 1), some (22, false)⟩,
    ⟨some 31, .call 33 [(.t 29), (.t 30)], some (22, false)⟩,
    ⟨some 32, .pick (.t 22) (.c (.v (.bool true))) (.t 31), none⟩])
  (.cond (.t 32)
    (.seq (.ops [⟨some 33, .mov (.t 5), none⟩,
      ⟨some 4, .mov (.t 33), none⟩])
    .ret)
    .skip))
  (.seq (.ops [⟨some 34, .mov (.t 5), none⟩,
    ⟨some 35, .bin .add false (.t 34) (.c (.v (.int .i64 1))), none⟩,
    ⟨some 36, .faddr 0 (.t 2), none⟩,
    ⟨some 37, .faddr 2 (.t 36), none⟩,
    ⟨some 38, .load 1 false (.t 37), none⟩,
    ⟨some 39, .len false (.t 38), none⟩,
    ⟨some 40, .bin .rem false (.t 35) (.t 39), none⟩,
    ⟨some 5, .mov (.t 40), none⟩])
  (.goto 0))))))
    (.seq .skip
    (.seq (.ops [⟨some 14, .faddr 0 (.t 2), none⟩,
      ⟨some 15, .faddr 2 (.t 14), none⟩,
      ⟨some 16, .load 1 false (.t 15), none⟩,
      ⟨some 17, .mov (.t 5), none⟩,
      ⟨some 18, .iaddr 1 (.t 16) (.t 17), none⟩,
      ⟨some 19, .load 1 false (.t 18), none⟩,
      ⟨some 6, .mov (.t 19), none⟩])
    (.seq (.seq (.ops [⟨some 20, .mov (.t 6), none⟩,
      ⟨some 21, .bin .eql false (.t 20) (.c (.v (.int .i64 0))), none⟩,
      ⟨some 22, .mov (.t 21), none⟩,
      ⟨some 23, .faddr 0 (.t 2), some (22, false)⟩,
      ⟨some 24, .faddr 1 (.t 23), some (22, false)⟩,
      ⟨some 25, .load 1 false (.t 24), some (22, false)⟩,
      ⟨some 26, .mov (.t 6), some (22, false)⟩,
      ⟨some 27, .bin .sub false (.t 26) (.c (.v (.int .i64 1))), some (22, false)⟩,
      ⟨some 28, .iaddr 1 (.t 25) (.t 27), some (22, false)⟩,
      ⟨some 29, .load 1 false (.t 28), some (22, false)⟩,
      ⟨some 30, .mov (.t 1), some (22, false)⟩,
      ⟨some 31, .call 33 [(.t 29), (.t 30)], some (22, false)⟩,
      ⟨some 32, .pick (.t 22) (.c (.v (.bool true))) (.t 31), none⟩])
    (.cond (.t 32)
      (.seq (.ops [⟨some 33, .mov (.t 5), none⟩,
        ⟨some 4, .mov (.t 33), none⟩])
      .ret)
      .skip))
    (.seq (.ops [⟨some 34, .mov (.t 5), none⟩,
      ⟨some 35, .bin .add false (.t 34) (.c (.v (.int .i64 1))), none⟩,
      ⟨some 36, .faddr 0 (.t 2), none⟩,
      ⟨some 37, .faddr 2 (.t 36), none⟩,
      ⟨some 38, .load 1 false (.t 37), none⟩,
      ⟨some 39, .len false (.t 38), none⟩,
      ⟨some 40, .bin .rem false (.t 35) (.t 39), none⟩,
      ⟨some 5, .mov (.t 40), none⟩])
    (.goto 0)))))))⟩ := by kernel_rfl

theorem ir29 : compF Try.prog 29 = some ⟨8, [.t 2],
  (.seq (.ops [⟨some 2, .mov (.c (.v (.int .u8 0))), none⟩])
  (.seq (.seq (.ops [⟨some 3, .mov (.t 0), none⟩])
  (.block 0 (.seq (.ops [⟨some 5, .bin .eql false (.t 3) (.c (.v (.int .i64 0))), none⟩,
    ⟨some 4, .mov (.t 5), none⟩])
  (.cond (.t 4)
    (.seq (.ops [⟨some 2, .mov (.c (.v (.int .u8 1))), none⟩])
    .ret)
    (.seq (.ops [⟨some 7, .bin .eql false (.t 3) (.c (.v (.int .i64 1))), none⟩,
      ⟨some 6, .mov (.t 7), none⟩])
    (.cond (.t 6)
      (.seq (.ops [⟨some 2, .mov (.c (.v (.int .u8 2))), none⟩])
      .ret)
      .skip))))))
  (.seq (.ops [⟨some 2, .mov (.c (.v (.int .u8 0))), none⟩])
  .ret)))⟩ := by kernel_rfl

theorem ir30 : compF Try.prog 30 = some ⟨25, [.t 4, .t 5],
  (.seq (.ops [⟨some 2, .box (.t 0), none⟩,
    ⟨some 4, .mov (.c (.v (.int .i64 0))), none⟩,
    ⟨some 5, .mov (.c (.v (.bool false))), none⟩])
  (.seq (.seq (.ops [⟨some 7, .faddr 0 (.t 2), none⟩,
    ⟨some 8, .faddr 2 (.t 7), none⟩,
    ⟨some 9, .load 1 false (.t 8), none⟩,
    ⟨some 10, .len false (.t 9), none⟩,
    ⟨some 11, .bin .eql false (.t 10) (.c (.v (.int .i64 0))), none⟩])
  (.cond (.t 11)
    (.seq (.ops [⟨some 4, .mov (.c (.v (.int .i64 0))), none⟩,
      ⟨some 5, .mov (.c (.v (.bool false))), none⟩])
    .ret)
    .skip))
  (.seq (.draw [[⟨some 12, .faddr 0 (.t 2), none⟩,
      ⟨some 13, .faddr 2 (.t 12), none⟩,
      ⟨some 14, .load 1 false (.t 13), none⟩,
      ⟨some 15, .load 3 true (.t 2), none⟩,
      ⟨some 16, .mov (.t 1), none⟩,
      ⟨some 17, .call 28 [(.t 15), (.t 16)], none⟩],
    [⟨some 18, .iaddr 1 (.t 14) (.t 17), none⟩],
    [⟨some 19, .load 1 false (.t 18), none⟩],
    [⟨some 6, .mov (.t 19), none⟩]])
  (.seq (.ops [⟨some 20, .mov (.t 6), none⟩,
    ⟨some 21, .bin .sub false (.t 20) (.c (.v (.int .i64 1))), none⟩,
    ⟨some 22, .mm true (.t 21) [(.c (.v (.int .i64 0)))], none⟩,
    ⟨some 23, .mov (.t 6), none⟩,
    ⟨some 24, .bin .gtr false (.t 23) (.c (.v (.int .i64 0))), none⟩,
    ⟨some 4, .mov (.t 22), none⟩,
    ⟨some 5, .mov (.t 24), none⟩])
  .ret))))⟩ := by kernel_rfl

theorem ir31 : compF Try.prog 31 = some ⟨12, [.t 4],
  (.seq (.ops [⟨some 4, .mov (.c (.v (.int .i64 0))), none⟩])
  (.seq (.seq (.ops [⟨some 5, .mov (.t 1), none⟩,
    ⟨some 6, .bin .lss false (.t 5) (.c (.v (.int .i64 1))), none⟩])
  (.cond (.t 6)
    (.seq (.ops [⟨some 4, .mov (.c (.v (.int .i64 0))), none⟩])
    .ret)
    .skip))
  (.seq (.ops [⟨some 7, .mov (.t 0), none⟩,
    ⟨some 8, .mov (.t 1), none⟩,
    ⟨some 9, .conv .u64 (.t 8), none⟩,
    ⟨some 10, .bin .rem false (.t 7) (.t 9), none⟩,
    ⟨some 11, .conv .i64 (.t 10), none⟩,
    ⟨some 4, .mov (.t 11), none⟩])
  .ret)))⟩ := by kernel_rfl

theorem ir32 : compF Try.prog 32 = some ⟨37, [.t 4],
  (.seq (.ops [⟨some 4, .mov (.c (.v (.int .u64 0))), none⟩])
  (.seq (.ops [⟨some 11, .mov (.t 1), none⟩,
    ⟨some 12, .bin .xor false (.t 11) (.c (.v (.int .u64 11400714819323198485))), none⟩,
    ⟨some 5, .alloc (.v (.int .u64 0)), none⟩,
    ⟨none, .store 1 (.t 5) (.t 12), none⟩])
  (.seq (.seq (.ops [⟨some 13, .mov (.t 0), none⟩,
    ⟨some 14, .len false (.t 13), none⟩,
    ⟨some 15, .mov (.c (.v (.int .i64 0))), none⟩])
  (.block 0 (.loop
    (.seq (.ops [⟨some 16, .bin .lss false (.t 15) (.t 14), none⟩])
    (.seq (.cond (.t 16)
      .skip
      (.exit 0))
    (.seq (.block 1 (.seq (.ops [⟨some 17, .iaddr 1 (.t 13) (.t 15), none⟩,
      ⟨some 18, .load 1 false (.t 17), none⟩,
      ⟨some 7, .mov (.t 18), none⟩])
    (.ops [⟨some 19, .load 1 false (.t 5), none⟩,
      ⟨some 20, .mov (.t 7), none⟩,
      ⟨some 21, .conv .u64 (.t 20), none⟩,
      ⟨some 22, .bin .xor false (.t 19) (.t 21), none⟩,
      ⟨some 23, .bin .mul false (.t 22) (.c (.v (.int .u64 1099511628211))), none⟩,
      ⟨none, .store 1 (.t 5) (.t 23), none⟩])))
    (.ops [⟨some 24, .bin .add false (.t 15) (.c (.v (.int .i64 1))), none⟩,
      ⟨some 15, .mov (.t 24), none⟩])))))))
  (.seq (.ops [⟨some 25, .mkfn (.func 34) [] [(.t 5)], none⟩,
    ⟨some 26, .mkfn (.func 35) [] [(.t 5)], none⟩,
    ⟨some 27, .mkfn (.func 36) [] [(.t 5)], none⟩,
    ⟨some 28, .build [(.v .nilFunc), (.v .nilFunc), (.v .nilFunc)] [(0, 1, (.t 25)), (1, 1, (.t 26)), (2, 1, (.t 27))], none⟩,
    ⟨some 8, .alloc (.agg [(.v .nilFunc), (.v .nilFunc), (.v .nilFunc)]), none⟩,
    ⟨none, .store 3 (.t 8) (.t 28), none⟩])
  (.seq (.seq (.ops [⟨some 29, .load 3 true (.t 8), none⟩,
    ⟨some 30, .mov (.c (.v (.int .i64 0))), none⟩])
  (.block 2 (.loop
    (.seq (.ops [⟨some 31, .bin .lss false (.t 30) (.c (.v (.int .i64 3))), none⟩])
    (.seq (.cond (.t 31)
      .skip
      (.exit 2))
    (.seq (.block 3 (.seq (.ops [⟨some 32, .idx 3 1 false (.t 29) (.t 30), none⟩,
      ⟨some 10, .mov (.t 32), none⟩])
    (.ops [⟨some 33, .mov (.t 10), none⟩,
      ⟨some 34, .calld (.t 33) [], none⟩])))
    (.ops [⟨some 35, .bin .add false (.t 30) (.c (.v (.int .i64 1))), none⟩,
      ⟨some 30, .mov (.t 35), none⟩])))))))
  (.seq (.ops [⟨some 36, .load 1 false (.t 5), none⟩,
    ⟨some 4, .mov (.t 36), none⟩])
  .ret))))))⟩ := by kernel_rfl

theorem ir33 : compF Try.prog 33 = some ⟨10, [.t 4],
  (.seq (.ops [⟨some 4, .mov (.c (.v (.bool false))), none⟩])
  (.seq (.ops [⟨some 5, .mov (.t 0), none⟩,
    ⟨some 6, .b2s (.t 5), none⟩,
    ⟨some 7, .mov (.t 1), none⟩,
    ⟨some 8, .b2s (.t 7), none⟩,
    ⟨some 9, .bin .eql false (.t 6) (.t 8), none⟩,
    ⟨some 4, .mov (.t 9), none⟩])
  .ret))⟩ := by kernel_rfl

theorem ir34 : compF Try.prog 34 = some ⟨5, [],
  (.ops [⟨some 1, .load 1 false (.t 0), none⟩,
    ⟨some 2, .load 1 false (.t 0), none⟩,
    ⟨some 3, .bin .shr false (.t 2) (.c (.v (.int .u64 29))), none⟩,
    ⟨some 4, .bin .xor false (.t 1) (.t 3), none⟩,
    ⟨none, .store 1 (.t 0) (.t 4), none⟩])⟩ := by kernel_rfl

theorem ir35 : compF Try.prog 35 = some ⟨3, [],
  (.ops [⟨some 1, .load 1 false (.t 0), none⟩,
    ⟨some 2, .bin .mul false (.t 1) (.c (.v (.int .u64 13787848793156543929))), none⟩,
    ⟨none, .store 1 (.t 0) (.t 2), none⟩])⟩ := by kernel_rfl

theorem ir36 : compF Try.prog 36 = some ⟨5, [],
  (.ops [⟨some 1, .load 1 false (.t 0), none⟩,
    ⟨some 2, .load 1 false (.t 0), none⟩,
    ⟨some 3, .bin .shr false (.t 2) (.c (.v (.int .u64 32))), none⟩,
    ⟨some 4, .bin .xor false (.t 1) (.t 3), none⟩,
    ⟨none, .store 1 (.t 0) (.t 4), none⟩])⟩ := by kernel_rfl

end Go.Proofs.Ytadpjaolnkliiaa
