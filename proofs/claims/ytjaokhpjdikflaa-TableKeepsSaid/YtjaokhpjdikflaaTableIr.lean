/- The functions of the program in the small language. -/
import Derived.Test.YtjaokhpjdikflaaLgR
import Derived.Test.YtjaokhpjdikflaaChecked
namespace Go.Proofs.Ytjaokhpjdikflaa
open Go Lg

theorem ir3 : compF Try.prog 3 = some ⟨85, [.t 4],
  (.seq (.ops [⟨some 4, .mov (.c (.v (.bool false))), none⟩])
  (.seq (.ops [⟨some 15, .call 7 [], none⟩,
    ⟨some 5, .mov (.t 15), none⟩])
  (.seq (.ops [⟨some 16, .mov (.t 0), none⟩,
    ⟨some 17, .conv .i64 (.t 16), none⟩,
    ⟨some 18, .bin .rem false (.t 17) (.c (.v (.int .i64 301))), none⟩,
    ⟨some 6, .mov (.t 18), none⟩])
  (.seq (.ops [⟨some 20, .mov (.t 6), none⟩,
    ⟨some 21, .call 8 [(.t 20)], none⟩,
    ⟨some 19, .mov (.t 21), none⟩,
    ⟨some 22, .extract (.t 19) 0, none⟩,
    ⟨some 23, .extract (.t 19) 1, none⟩,
    ⟨some 7, .alloc (.agg [(.v (.int .i64 0)), (.v (.slice none 0 0)), (.v (.slice none 0 0))]), none⟩,
    ⟨none, .store 3 (.t 7) (.t 22), none⟩,
    ⟨some 8, .mov (.t 23), none⟩])
  (.seq (.seq (.ops [⟨some 24, .mov (.t 8), none⟩,
    ⟨some 25, .bin .neq false (.t 24) (.c (.v (.int .i64 0))), none⟩])
  (.cond (.t 25)
    (.seq (.ops [⟨some 4, .mov (.c (.v (.bool false))), none⟩])
    .ret)
    .skip))
  (.seq (.seq (.ops [⟨some 9, .mov (.c (.v (.int .i64 0))), none⟩])
  (.block 0 (.loop
    (.seq (.seq (.ops [⟨some 26, .mov (.t 9), none⟩,
      ⟨some 27, .mov (.t 6), none⟩,
      ⟨some 28, .bin .leq false (.t 26) (.t 27), none⟩])
    (.cond (.t 28)
      .skip
      (.exit 0)))
    (.seq (.block 1 (.seq (.ops [⟨some 31, .mov (.t 9), none⟩,
      ⟨some 32, .conv .u32 (.t 31), none⟩,
      ⟨some 33, .mov (.t 1), none⟩,
      ⟨some 34, .bin .mul false (.c (.v (.int .u32 2))) (.t 33), none⟩,
      ⟨some 35, .bin .add false (.t 34) (.c (.v (.int .u32 1))), none⟩,
      ⟨some 36, .bin .mul false (.t 32) (.t 35), none⟩,
      ⟨some 10, .mov (.t 36), none⟩])
    (.seq (.ops [⟨some 38, .load 3 true (.t 7), none⟩,
      ⟨some 39, .mov (.t 10), none⟩,
      ⟨some 40, .conv .u8 (.t 39), none⟩,
      ⟨some 41, .mov (.t 10), none⟩,
      ⟨some 42, .bin .shr false (.t 41) (.c (.v (.int .u64 8))), none⟩,
      ⟨some 43, .conv .u8 (.t 42), none⟩,
      ⟨some 44, .mov (.t 10), none⟩,
      ⟨some 45, .bin .shr false (.t 44) (.c (.v (.int .u64 16))), none⟩,
      ⟨some 46, .conv .u8 (.t 45), none⟩,
      ⟨some 47, .mov (.t 10), none⟩,
      ⟨some 48, .bin .shr false (.t 47) (.c (.v (.int .u64 24))), none⟩,
      ⟨some 49, .conv .u8 (.t 48), none⟩,
      ⟨some 50, .bslice 1 [(.v (.int .u8 0))] 4 [(0, 1, (.t 40)), (1, 1, (.t 43)), (2, 1, (.t 46)), (3, 1, (.t 49))], none⟩,
      ⟨some 51, .call 9 [(.t 38), (.t 50)], none⟩,
      ⟨some 37, .mov (.t 51), none⟩,
      ⟨some 52, .extract (.t 37) 0, none⟩,
      ⟨some 53, .extract (.t 37) 1, none⟩,
      ⟨some 54, .extract (.t 37) 2, none⟩,
      ⟨some 55, .extract (.t 37) 3, none⟩,
      ⟨some 11, .alloc (.agg [(.v (.int .i64 0)), (.v (.slice none 0 0)), (.v (.slice none 0 0))]), none⟩,
      ⟨none, .store 3 (.t 11) (.t 52), none⟩,
      ⟨some 12, .mov (.t 53), none⟩,
      ⟨some 13, .mov (.t 54), none⟩,
      ⟨some 14, .mov (.t 55), none⟩])
    (.seq (.seq (.ops [⟨some 56, .mov (.t 14), none⟩,
      ⟨some 57, .bin .eql false (.t 56) (.c (.v (.int .i64 0))), none⟩,
      ⟨some 58, .mov (.t 9), none⟩,
      ⟨some 59, .mov (.t 6), none⟩,
      ⟨some 60, .bin .lss false (.t 58) (.t 59), none⟩,
      ⟨some 61, .bin .neq true (.t 57) (.t 60), none⟩,
      ⟨some 62, .mov (.t 61), none⟩,
      ⟨some 63, .mov (.t 13), some (62, false)⟩,
      ⟨some 64, .mov (.t 9), some (62, false)⟩,
      ⟨some 65, .mov (.t 6), some (62, false)⟩,
      ⟨some 66, .bin .lss false (.t 64) (.t 65), some (62, false)⟩,
      ⟨some 67, .bin .neq true (.t 63) (.t 66), some (62, false)⟩,
      ⟨some 68, .pick (.t 62) (.c (.v (.bool true))) (.t 67), none⟩,
      ⟨some 69, .mov (.t 68), none⟩,
      ⟨some 70, .mov (.t 13), some (69, false)⟩,
      ⟨some 71, .mov (.t 70), some (69, false)⟩,
      ⟨some 72, .mov (.t 12), some (71, true)⟩,
      ⟨some 73, .mov (.t 9), some (71, true)⟩,
      ⟨some 74, .bin .neq false (.t 72) (.t 73), some (71, true)⟩,
      ⟨some 75, .pick (.t 71) (.t 74) (.c (.v (.bool false))), some (69, false)⟩,
      ⟨some 76, .pick (.t 69) (.c (.v (.bool true))) (.t 75), none⟩])
    (.cond (.t 76)
      (.seq (.ops [⟨some 4, .mov (.c (.v (.bool false))), none⟩])
      .ret)
      .skip))
    (.ops [⟨some 77, .load 3 true (.t 11), none⟩,
      ⟨none, .store 3 (.t 7) (.t 77), none⟩])))))
    (.ops [⟨some 29, .mov (.t 9), none⟩,
      ⟨some 30, .bin .add false (.t 29) (.c (.v (.int .i64 1))), none⟩,
      ⟨some 9, .mov (.t 30), none⟩]))))))
  (.seq (.ops [⟨some 78, .mov (.t 5), none⟩,
    ⟨some 79, .mov (.t 78), none⟩,
    ⟨some 80, .load 3 true (.t 7), some (79, true)⟩,
    ⟨some 81, .call 10 [(.t 80)], some (79, true)⟩,
    ⟨some 82, .mov (.t 6), some (79, true)⟩,
    ⟨some 83, .bin .eql false (.t 81) (.t 82), some (79, true)⟩,
    ⟨some 84, .pick (.t 79) (.t 83) (.c (.v (.bool false))), none⟩,
    ⟨some 4, .mov (.t 84), none⟩])
  .ret)))))))⟩ := by kernel_rfl

set_option maxRecDepth 100000 in
theorem ir4 : compF Try.prog 4 = some ⟨195, [.t 4],
  (.seq (.ops [⟨some 4, .mov (.c (.v (.bool false))), none⟩])
  (.seq (.ops [⟨some 25, .call 7 [], none⟩,
    ⟨some 5, .mov (.t 25), none⟩])
  (.seq (.seq (.ops [⟨some 26, .mov (.t 1), none⟩,
    ⟨some 27, .call 11 [(.t 26), (.c (.v (.int .i64 60)))], none⟩,
    ⟨some 28, .un .not (.t 27), none⟩])
  (.cond (.t 28)
    (.seq (.ops [⟨some 29, .mov (.t 5), none⟩,
      ⟨some 4, .mov (.t 29), none⟩])
    .ret)
    .skip))
  (.seq (.ops [⟨some 30, .mov (.t 0), none⟩,
    ⟨some 31, .conv .i64 (.t 30), none⟩,
    ⟨some 32, .bin .rem false (.t 31) (.c (.v (.int .i64 101))), none⟩,
    ⟨some 6, .mov (.t 32), none⟩])
  (.seq (.ops [⟨some 34, .mov (.t 6), none⟩,
    ⟨some 35, .call 8 [(.t 34)], none⟩,
    ⟨some 33, .mov (.t 35), none⟩,
    ⟨some 36, .extract (.t 33) 0, none⟩,
    ⟨some 37, .extract (.t 33) 1, none⟩,
    ⟨some 7, .alloc (.agg [(.v (.int .i64 0)), (.v (.slice none 0 0)), (.v (.slice none 0 0))]), none⟩,
    ⟨none, .store 3 (.t 7) (.t 36), none⟩,
    ⟨some 8, .mov (.t 37), none⟩])
  (.seq (.ops [⟨some 38, .mkmap .s, none⟩,
    ⟨some 9, .mov (.t 38), none⟩])
  (.seq (.seq (.ops [⟨some 10, .mov (.c (.v (.int .i64 0))), none⟩])
  (.block 0 (.loop
    (.seq (.seq (.ops [⟨some 39, .mov (.t 10), none⟩,
      ⟨some 40, .mov (.t 1), none⟩,
      ⟨some 41, .len false (.t 40), none⟩,
      ⟨some 42, .bin .lss false (.t 39) (.t 41), none⟩])
    (.cond (.t 42)
      .skip
      (.exit 0)))
    (.seq (.block 1 (.seq (.ops [⟨some 46, .mov (.t 9), none⟩,
      ⟨some 47, .mov (.t 1), none⟩,
      ⟨some 48, .mov (.t 10), none⟩,
      ⟨some 49, .iaddr 1 (.t 47) (.t 48), none⟩,
      ⟨some 50, .load 1 false (.t 49), none⟩,
      ⟨some 51, .b2s (.t 50), none⟩,
      ⟨some 52, .mget .s true (.int .i64 0) (.t 46) (.t 51), none⟩,
      ⟨some 45, .mov (.t 52), none⟩,
      ⟨some 53, .extract (.t 45) 0, none⟩,
      ⟨some 54, .extract (.t 45) 1, none⟩,
      ⟨some 11, .mov (.t 53), none⟩,
      ⟨some 12, .mov (.t 54), none⟩])
    (.seq (.draw [[⟨some 56, .load 3 true (.t 7), none⟩,
        ⟨some 57, .mov (.t 1), none⟩,
        ⟨some 58, .mov (.t 10), none⟩,
        ⟨some 59, .iaddr 1 (.t 57) (.t 58), none⟩,
        ⟨some 60, .load 1 false (.t 59), none⟩,
        ⟨some 61, .call 9 [(.t 56), (.t 60)], none⟩,
        ⟨some 55, .mov (.t 61), none⟩,
        ⟨some 62, .extract (.t 55) 0, none⟩,
        ⟨some 63, .extract (.t 55) 1, none⟩,
        ⟨some 64, .extract (.t 55) 2, none⟩,
        ⟨some 65, .extract (.t 55) 3, none⟩,
        ⟨some 13, .alloc (.agg [(.v (.int .i64 0)), (.v (.slice none 0 0)), (.v (.slice none 0 0))]), none⟩,
        ⟨none, .store 3 (.t 13) (.t 62), none⟩,
        ⟨some 14, .mov (.t 63), none⟩,
        ⟨some 15, .mov (.t 64), none⟩],
      [⟨some 16, .mov (.t 65), none⟩]])
    (.seq (.ops [⟨some 66, .mov (.t 12), none⟩,
      ⟨some 67, .un .not (.t 66), none⟩,
      ⟨some 68, .mov (.t 67), none⟩,
      ⟨some 69, .mov (.t 9), some (68, true)⟩,
      ⟨some 70, .mlen (.t 69), some (68, true)⟩,
      ⟨some 71, .mov (.t 6), some (68, true)⟩,
      ⟨some 72, .bin .geq false (.t 70) (.t 71), some (68, true)⟩,
      ⟨some 73, .pick (.t 68) (.t 72) (.c (.v (.bool false))), none⟩,
      ⟨some 17, .mov (.t 73), none⟩])
    (.seq (.seq (.ops [⟨some 74, .mov (.t 16), none⟩,
      ⟨some 75, .bin .eql false (.t 74) (.c (.v (.int .i64 7))), none⟩,
      ⟨some 76, .mov (.t 17), none⟩,
      ⟨some 77, .bin .neq true (.t 75) (.t 76), none⟩,
      ⟨some 78, .mov (.t 77), none⟩,
      ⟨some 79, .mov (.t 16), some (78, false)⟩,
      ⟨some 80, .bin .eql false (.t 79) (.c (.v (.int .i64 0))), some (78, false)⟩,
      ⟨some 81, .mov (.t 17), some (78, false)⟩,
      ⟨some 82, .bin .eql true (.t 80) (.t 81), some (78, false)⟩,
      ⟨some 83, .pick (.t 78) (.c (.v (.bool true))) (.t 82), none⟩,
      ⟨some 84, .mov (.t 83), none⟩,
      ⟨some 85, .mov (.t 15), some (84, false)⟩,
      ⟨some 86, .mov (.t 12), some (84, false)⟩,
      ⟨some 87, .un .not (.t 86), some (84, false)⟩,
      ⟨some 88, .mov (.t 87), some (84, false)⟩,
      ⟨some 89, .mov (.t 17), some (88, true)⟩,
      ⟨some 90, .un .not (.t 89), some (88, true)⟩,
      ⟨some 91, .pick (.t 88) (.t 90) (.c (.v (.bool false))), some (84, false)⟩,
      ⟨some 92, .bin .neq true (.t 85) (.t 91), some (84, false)⟩,
      ⟨some 93, .pick (.t 84) (.c (.v (.bool true))) (.t 92), none⟩,
      ⟨some 94, .mov (.t 93), none⟩,
      ⟨some 95, .mov (.t 12), some (94, false)⟩,
      ⟨some 96, .mov (.t 95), some (94, false)⟩,
      ⟨some 97, .mov (.t 14), some (96, true)⟩,
      ⟨some 98, .mov (.t 11), some (96, true)⟩,
      ⟨some 99, .bin .neq false (.t 97) (.t 98), some (96, true)⟩,
      ⟨some 100, .pick (.t 96) (.t 99) (.c (.v (.bool false))), some (94, false)⟩,
      ⟨some 101, .pick (.t 94) (.c (.v (.bool true))) (.t 100), none⟩,
      ⟨some 102, .mov (.t 101), none⟩,
      ⟨some 103, .mov (.t 15), some (102, false)⟩,
      ⟨some 104, .mov (.t 103), some (102, false)⟩,
      ⟨some 105, .mov (.t 14), some (104, true)⟩,
      ⟨some 106, .mov (.t 9), some (104, true)⟩,
      ⟨some 107, .mlen (.t 106), some (104, true)⟩,
      ⟨some 108, .bin .neq false (.t 105) (.t 107), some (104, true)⟩,
      ⟨some 109, .pick (.t 104) (.t 108) (.c (.v (.bool false))), some (102, false)⟩,
      ⟨some 110, .pick (.t 102) (.c (.v (.bool true))) (.t 109), none⟩])
    (.cond (.t 110)
      (.seq (.ops [⟨some 4, .mov (.c (.v (.bool false))), none⟩])
      .ret)
      .skip))
    (.seq (.seq (.ops [⟨some 111, .mov (.t 15), none⟩])
    (.cond (.t 111)
      (.ops [⟨some 112, .mov (.t 9), none⟩,
        ⟨some 113, .mov (.t 1), none⟩,
        ⟨some 114, .mov (.t 10), none⟩,
        ⟨some 115, .iaddr 1 (.t 113) (.t 114), none⟩,
        ⟨some 116, .load 1 false (.t 115), none⟩,
        ⟨some 117, .b2s (.t 116), none⟩,
        ⟨some 118, .mov (.t 14), none⟩,
        ⟨none, .mset .s (.t 112) (.t 117) (.t 118), none⟩])
      .skip))
    (.ops [⟨some 119, .load 3 true (.t 13), none⟩,
      ⟨none, .store 3 (.t 7) (.t 119), none⟩])))))))
    (.ops [⟨some 43, .mov (.t 10), none⟩,
      ⟨some 44, .bin .add false (.t 43) (.c (.v (.int .i64 1))), none⟩,
      ⟨some 10, .mov (.t 44), none⟩]))))))
  (.seq (.seq (.ops [⟨some 18, .mov (.c (.v (.int .i64 0))), none⟩])
  (.block 2 (.loop
    (.seq (.seq (.ops [⟨some 120, .mov (.t 18), none⟩,
      ⟨some 121, .mov (.t 1), none⟩,
      ⟨some 122, .len false (.t 121), none⟩,
      ⟨some 123, .bin .lss false (.t 120) (.t 122), none⟩])
    (.cond (.t 123)
      .skip
      (.exit 2)))
    (.seq (.block 3 (.seq (.ops [⟨some 127, .mov (.t 9), none⟩,
      ⟨some 128, .mov (.t 1), none⟩,
      ⟨some 129, .mov (.t 18), none⟩,
      ⟨some 130, .iaddr 1 (.t 128) (.t 129), none⟩,
      ⟨some 131, .load 1 false (.t 130), none⟩,
      ⟨some 132, .b2s (.t 131), none⟩,
      ⟨some 133, .mget .s true (.int .i64 0) (.t 127) (.t 132), none⟩,
      ⟨some 126, .mov (.t 133), none⟩,
      ⟨some 134, .extract (.t 126) 0, none⟩,
      ⟨some 135, .extract (.t 126) 1, none⟩,
      ⟨some 19, .mov (.t 134), none⟩,
      ⟨some 20, .mov (.t 135), none⟩])
    (.seq (.draw [[⟨some 137, .load 3 true (.t 7), none⟩,
        ⟨some 138, .mov (.t 1), none⟩,
        ⟨some 139, .mov (.t 18), none⟩,
        ⟨some 140, .iaddr 1 (.t 138) (.t 139), none⟩,
        ⟨some 141, .load 1 false (.t 140), none⟩],
      [⟨some 142, .call 12 [(.t 137), (.t 141)], none⟩],
      [⟨some 136, .mov (.t 142), none⟩],
      [⟨some 143, .extract (.t 136) 0, none⟩,
        ⟨some 144, .extract (.t 136) 1, none⟩,
        ⟨some 21, .mov (.t 143), none⟩],
      [⟨some 22, .mov (.t 144), none⟩]])
    (.seq (.seq (.ops [⟨some 145, .mov (.t 22), none⟩,
      ⟨some 146, .mov (.t 20), none⟩,
      ⟨some 147, .bin .neq true (.t 145) (.t 146), none⟩,
      ⟨some 148, .mov (.t 147), none⟩,
      ⟨some 149, .mov (.t 22), some (148, false)⟩,
      ⟨some 150, .mov (.t 149), some (148, false)⟩,
      ⟨some 151, .mov (.t 21), some (150, true)⟩,
      ⟨some 152, .mov (.t 19), some (150, true)⟩,
      ⟨some 153, .bin .neq false (.t 151) (.t 152), some (150, true)⟩,
      ⟨some 154, .pick (.t 150) (.t 153) (.c (.v (.bool false))), some (148, false)⟩,
      ⟨some 155, .pick (.t 148) (.c (.v (.bool true))) (.t 154), none⟩])
    (.cond (.t 155)
      (.seq (.ops [⟨some 4, .mov (.c (.v (.bool false))), none⟩])
      .ret)
      .skip))
    (.seq (.ops [⟨some 156, .mov (.t 22), none⟩])
    (.cond (.t 156)
      (.seq (.ops [⟨some 158, .load 3 true (.t 7), none⟩,
        ⟨some 159, .mov (.t 21), none⟩,
        ⟨some 160, .call 13 [(.t 158), (.t 159)], none⟩,
        ⟨some 157, .mov (.t 160), none⟩,
        ⟨some 161, .extract (.t 157) 0, none⟩,
        ⟨some 162, .extract (.t 157) 1, none⟩,
        ⟨some 23, .mov (.t 161), none⟩,
        ⟨some 24, .mov (.t 162), none⟩])
      (.seq (.draw [[⟨some 163, .mov (.t 24), none⟩],
        [⟨some 164, .bin .neq false (.t 163) (.c (.v (.int .i64 0))), none⟩],
        [⟨some 165, .mov (.t 164), none⟩],
        [⟨some 166, .mov (.t 23), some (165, false)⟩,
          ⟨some 167, .b2s (.t 166), some (165, false)⟩,
          ⟨some 168, .mov (.t 1), some (165, false)⟩,
          ⟨some 169, .mov (.t 18), some (165, false)⟩,
          ⟨some 170, .iaddr 1 (.t 168) (.t 169), some (165, false)⟩,
          ⟨some 171, .load 1 false (.t 170), some (165, false)⟩,
          ⟨some 172, .b2s (.t 171), some (165, false)⟩],
        [⟨some 173, .bin .neq false (.t 167) (.t 172), some (165, false)⟩],
        [⟨some 174, .pick (.t 165) (.c (.v (.bool true))) (.t 173), none⟩]])
      (.cond (.t 174)
        (.seq (.ops [⟨some 4, .mov (.c (.v (.bool false))), none⟩])
        .ret)
        .skip)))
      .skip))))))
    (.ops [⟨some 124, .mov (.t 18), none⟩,
      ⟨some 125, .bin .add false (.t 124) (.c (.v (.int .i64 1))), none⟩,
      ⟨some 18, .mov (.t 125), none⟩]))))))
  (.seq (.ops [⟨some 175, .mov (.t 5), none⟩,
    ⟨some 176, .mov (.t 175), none⟩,
    ⟨some 177, .mov (.t 8), some (176, true)⟩,
    ⟨some 178, .bin .eql false (.t 177) (.c (.v (.int .i64 0))), some (176, true)⟩,
    ⟨some 179, .pick (.t 176) (.t 178) (.c (.v (.bool false))), none⟩,
    ⟨some 180, .mov (.t 179), none⟩,
    ⟨some 181, .load 3 true (.t 7), some (180, true)⟩,
    ⟨some 182, .call 10 [(.t 181)], some (180, true)⟩,
    ⟨some 183, .mov (.t 9), some (180, true)⟩,
    ⟨some 184, .mlen (.t 183), some (180, true)⟩,
    ⟨some 185, .bin .eql false (.t 182) (.t 184), some (180, true)⟩,
    ⟨some 186, .pick (.t 180) (.t 185) (.c (.v (.bool false))), none⟩,
    ⟨some 187, .mov (.t 186), none⟩,
    ⟨some 188, .load 3 true (.t 7), some (187, true)⟩,
    ⟨some 189, .call 14 [(.t 188)], some (187, true)⟩,
    ⟨some 190, .len false (.t 189), some (187, true)⟩,
    ⟨some 191, .mov (.t 9), some (187, true)⟩,
    ⟨some 192, .mlen (.t 191), some (187, true)⟩,
    ⟨some 193, .bin .eql false (.t 190) (.t 192), some (187, true)⟩,
    ⟨some 194, .pick (.t 187) (.t 193) (.c (.v (.bool false))), none⟩,
    ⟨some 4, .mov (.t 194), none⟩])
  .ret)))))))))⟩ := by kernel_rfl

set_option maxRecDepth 100000 in
theorem ir5 : compF Try.prog 5 = some ⟨153, [.t 6],
  (.seq (.ops [⟨some 6, .mov (.c (.v (.bool false))), none⟩])
  (.seq (.ops [⟨some 30, .call 7 [], none⟩,
    ⟨some 7, .mov (.t 30), none⟩])
  (.seq (.seq (.ops [⟨some 31, .mov (.t 0), none⟩,
    ⟨some 32, .call 11 [(.t 31), (.c (.v (.int .i64 40)))], none⟩,
    ⟨some 33, .un .not (.t 32), none⟩,
    ⟨some 34, .mov (.t 33), none⟩,
    ⟨some 35, .mov (.t 1), some (34, false)⟩,
    ⟨some 36, .len false (.t 35), some (34, false)⟩,
    ⟨some 37, .bin .gtr false (.t 36) (.c (.v (.int .i64 200))), some (34, false)⟩,
    ⟨some 38, .pick (.t 34) (.c (.v (.bool true))) (.t 37), none⟩,
    ⟨some 39, .mov (.t 38), none⟩,
    ⟨some 40, .mov (.t 2), some (39, false)⟩,
    ⟨some 41, .len false (.t 40), some (39, false)⟩,
    ⟨some 42, .bin .gtr false (.t 41) (.c (.v (.int .i64 200))), some (39, false)⟩,
    ⟨some 43, .pick (.t 39) (.c (.v (.bool true))) (.t 42), none⟩])
  (.cond (.t 43)
    (.seq (.ops [⟨some 44, .mov (.t 7), none⟩,
      ⟨some 6, .mov (.t 44), none⟩])
    .ret)
    .skip))
  (.seq (.ops [⟨some 46, .call 8 [(.c (.v (.int .i64 100)))], none⟩,
    ⟨some 45, .mov (.t 46), none⟩,
    ⟨some 47, .extract (.t 45) 0, none⟩,
    ⟨some 48, .extract (.t 45) 1, none⟩,
    ⟨some 8, .alloc (.agg [(.v (.int .i64 0)), (.v (.slice none 0 0)), (.v (.slice none 0 0))]), none⟩,
    ⟨none, .store 3 (.t 8) (.t 47), none⟩,
    ⟨some 9, .mov (.t 48), none⟩])
  (.seq (.seq (.ops [⟨some 10, .mov (.c (.v (.int .i64 0))), none⟩])
  (.block 0 (.loop
    (.seq (.seq (.ops [⟨some 49, .mov (.t 10), none⟩,
      ⟨some 50, .mov (.t 0), none⟩,
      ⟨some 51, .len false (.t 50), none⟩,
      ⟨some 52, .bin .lss false (.t 49) (.t 51), none⟩])
    (.cond (.t 52)
      .skip
      (.exit 0)))
    (.seq (.block 1 (.seq (.draw [[⟨some 56, .load 3 true (.t 8), none⟩,
        ⟨some 57, .mov (.t 0), none⟩,
        ⟨some 58, .mov (.t 10), none⟩,
        ⟨some 59, .iaddr 1 (.t 57) (.t 58), none⟩,
        ⟨some 60, .load 1 false (.t 59), none⟩,
        ⟨some 61, .call 9 [(.t 56), (.t 60)], none⟩,
        ⟨some 55, .mov (.t 61), none⟩,
        ⟨some 62, .extract (.t 55) 0, none⟩,
        ⟨some 63, .extract (.t 55) 1, none⟩,
        ⟨some 64, .extract (.t 55) 2, none⟩,
        ⟨some 65, .extract (.t 55) 3, none⟩,
        ⟨some 11, .alloc (.agg [(.v (.int .i64 0)), (.v (.slice none 0 0)), (.v (.slice none 0 0))]), none⟩,
        ⟨none, .store 3 (.t 11) (.t 62), none⟩,
        ⟨some 12, .mov (.t 63), none⟩,
        ⟨some 13, .mov (.t 64), none⟩],
      [⟨some 14, .mov (.t 65), none⟩]])
    (.seq (.seq (.ops [⟨some 66, .mov (.t 14), none⟩,
      ⟨some 67, .bin .neq false (.t 66) (.c (.v (.int .i64 0))), none⟩])
    (.cond (.t 67)
      (.seq (.ops [⟨some 6, .mov (.c (.v (.bool false))), none⟩])
      .ret)
      .skip))
    (.ops [⟨some 68, .load 3 true (.t 11), none⟩,
      ⟨none, .store 3 (.t 8) (.t 68), none⟩]))))
    (.ops [⟨some 53, .mov (.t 10), none⟩,
      ⟨some 54, .bin .add false (.t 53) (.c (.v (.int .i64 1))), none⟩,
      ⟨some 10, .mov (.t 54), none⟩]))))))
  (.seq (.ops [⟨some 69, .load 3 true (.t 8), none⟩,
    ⟨some 70, .call 14 [(.t 69)], none⟩,
    ⟨some 15, .mov (.t 70), none⟩])
  (.seq (.ops [⟨some 72, .load 3 true (.t 8), none⟩,
    ⟨some 73, .mov (.t 1), none⟩,
    ⟨some 74, .call 9 [(.t 72), (.t 73)], none⟩,
    ⟨some 71, .mov (.t 74), none⟩,
    ⟨some 75, .extract (.t 71) 0, none⟩,
    ⟨some 76, .extract (.t 71) 1, none⟩,
    ⟨some 77, .extract (.t 71) 2, none⟩,
    ⟨some 78, .extract (.t 71) 3, none⟩,
    ⟨some 16, .alloc (.agg [(.v (.int .i64 0)), (.v (.slice none 0 0)), (.v (.slice none 0 0))]), none⟩,
    ⟨none, .store 3 (.t 16) (.t 75), none⟩,
    ⟨some 17, .mov (.t 76), none⟩,
    ⟨some 18, .mov (.t 77), none⟩,
    ⟨some 19, .mov (.t 78), none⟩])
  (.seq (.ops [⟨some 80, .load 3 true (.t 8), none⟩,
    ⟨some 81, .mov (.t 2), none⟩,
    ⟨some 82, .call 9 [(.t 80), (.t 81)], none⟩,
    ⟨some 79, .mov (.t 82), none⟩,
    ⟨some 83, .extract (.t 79) 0, none⟩,
    ⟨some 84, .extract (.t 79) 1, none⟩,
    ⟨some 85, .extract (.t 79) 2, none⟩,
    ⟨some 86, .extract (.t 79) 3, none⟩,
    ⟨some 20, .alloc (.agg [(.v (.int .i64 0)), (.v (.slice none 0 0)), (.v (.slice none 0 0))]), none⟩,
    ⟨none, .store 3 (.t 20) (.t 83), none⟩,
    ⟨some 21, .mov (.t 84), none⟩,
    ⟨some 22, .mov (.t 85), none⟩,
    ⟨some 23, .mov (.t 86), none⟩])
  (.seq (.ops [⟨some 88, .load 3 true (.t 8), none⟩,
    ⟨some 89, .mov (.t 1), none⟩,
    ⟨some 90, .call 12 [(.t 88), (.t 89)], none⟩,
    ⟨some 87, .mov (.t 90), none⟩,
    ⟨some 91, .extract (.t 87) 0, none⟩,
    ⟨some 92, .extract (.t 87) 1, none⟩,
    ⟨some 24, .mov (.t 91), none⟩,
    ⟨some 25, .mov (.t 92), none⟩])
  (.seq (.ops [⟨some 94, .load 3 true (.t 20), none⟩,
    ⟨some 95, .mov (.t 1), none⟩,
    ⟨some 96, .call 12 [(.t 94), (.t 95)], none⟩,
    ⟨some 93, .mov (.t 96), none⟩,
    ⟨some 97, .extract (.t 93) 0, none⟩,
    ⟨some 98, .extract (.t 93) 1, none⟩,
    ⟨some 26, .mov (.t 97), none⟩,
    ⟨some 27, .mov (.t 98), none⟩])
  (.seq (.ops [⟨some 100, .load 3 true (.t 16), none⟩,
    ⟨some 101, .mov (.t 1), none⟩,
    ⟨some 102, .call 12 [(.t 100), (.t 101)], none⟩,
    ⟨some 99, .mov (.t 102), none⟩,
    ⟨some 103, .extract (.t 99) 0, none⟩,
    ⟨some 104, .extract (.t 99) 1, none⟩,
    ⟨some 28, .mov (.t 103), none⟩,
    ⟨some 29, .mov (.t 104), none⟩])
  (.seq (.ops [⟨some 105, .mov (.t 7), none⟩,
    ⟨some 106, .mov (.t 105), none⟩,
    ⟨some 107, .load 3 true (.t 8), some (106, true)⟩,
    ⟨some 108, .call 14 [(.t 107)], some (106, true)⟩,
    ⟨some 109, .mov (.t 15), some (106, true)⟩,
    ⟨some 110, .call 15 [(.t 108), (.t 109)], some (106, true)⟩,
    ⟨some 111, .pick (.t 106) (.t 110) (.c (.v (.bool false))), none⟩,
    ⟨some 112, .mov (.t 111), none⟩,
    ⟨some 113, .mov (.t 25), some (112, true)⟩,
    ⟨some 114, .mov (.t 18), some (112, true)⟩,
    ⟨some 115, .un .not (.t 114), some (112, true)⟩,
    ⟨some 116, .bin .eql true (.t 113) (.t 115), some (112, true)⟩,
    ⟨some 117, .pick (.t 112) (.t 116) (.c (.v (.bool false))), none⟩,
    ⟨some 118, .mov (.t 117), none⟩,
    ⟨some 119, .mov (.t 29), some (118, true)⟩,
    ⟨some 120, .pick (.t 118) (.t 119) (.c (.v (.bool false))), none⟩,
    ⟨some 121, .mov (.t 120), none⟩,
    ⟨some 122, .mov (.t 27), some (121, true)⟩,
    ⟨some 123, .mov (.t 25), some (121, true)⟩,
    ⟨some 124, .mov (.t 123), some (121, true)⟩,
    ⟨some 125, .mov (.t 1), some (124, false)⟩,
    ⟨some 126, .b2s (.t 125), some (124, false)⟩,
    ⟨some 127, .mov (.t 2), some (124, false)⟩,
    ⟨some 128, .b2s (.t 127), some (124, false)⟩,
    ⟨some 129, .bin .eql false (.t 126) (.t 128), some (124, false)⟩,
    ⟨some 130, .pick (.t 124) (.c (.v (.bool true))) (.t 129), some (121, true)⟩,
    ⟨some 131, .bin .eql true (.t 122) (.t 130), some (121, true)⟩,
    ⟨some 132, .pick (.t 121) (.t 131) (.c (.v (.bool false))), none⟩,
    ⟨some 133, .mov (.t 132), none⟩,
    ⟨some 134, .load 3 true (.t 16), some (133, true)⟩,
    ⟨some 135, .call 10 [(.t 134)], some (133, true)⟩,
    ⟨some 136, .mov (.t 15), some (133, true)⟩,
    ⟨some 137, .len false (.t 136), some (133, true)⟩,
    ⟨some 138, .mov (.t 18), some (133, true)⟩,
    ⟨some 139, .call 16 [(.t 138)], some (133, true)⟩,
    ⟨some 140, .bin .add false (.t 137) (.t 139), some (133, true)⟩,
    ⟨some 141, .bin .eql false (.t 135) (.t 140), some (133, true)⟩,
    ⟨some 142, .pick (.t 133) (.t 141) (.c (.v (.bool false))), none⟩,
    ⟨some 143, .mov (.t 142), none⟩,
    ⟨some 144, .load 3 true (.t 20), some (143, true)⟩,
    ⟨some 145, .call 10 [(.t 144)], some (143, true)⟩,
    ⟨some 146, .mov (.t 15), some (143, true)⟩,
    ⟨some 147, .len false (.t 146), some (143, true)⟩,
    ⟨some 148, .mov (.t 22), some (143, true)⟩,
    ⟨some 149, .call 16 [(.t 148)], some (143, true)⟩,
    ⟨some 150, .bin .add false (.t 147) (.t 149), some (143, true)⟩,
    ⟨some 151, .bin .eql false (.t 145) (.t 150), some (143, true)⟩,
    ⟨some 152, .pick (.t 143) (.t 151) (.c (.v (.bool false))), none⟩,
    ⟨some 6, .mov (.t 152), none⟩])
  .ret))))))))))))⟩ := by kernel_rfl

set_option maxRecDepth 100000 in
theorem ir6 : compF Try.prog 6 = some ⟨176, [.t 4],
  (.seq (.ops [⟨some 4, .mov (.c (.v (.bool false))), none⟩])
  (.seq (.ops [⟨some 28, .call 7 [], none⟩,
    ⟨some 5, .mov (.t 28), none⟩])
  (.seq (.seq (.ops [⟨some 29, .mov (.t 0), none⟩,
    ⟨some 30, .call 11 [(.t 29), (.c (.v (.int .i64 60)))], none⟩,
    ⟨some 31, .un .not (.t 30), none⟩])
  (.cond (.t 31)
    (.seq (.ops [⟨some 32, .mov (.t 5), none⟩,
      ⟨some 4, .mov (.t 32), none⟩])
    .ret)
    .skip))
  (.seq (.ops [⟨some 34, .call 8 [(.c (.v (.int .i64 1000)))], none⟩,
    ⟨some 33, .mov (.t 34), none⟩,
    ⟨some 35, .extract (.t 33) 0, none⟩,
    ⟨some 36, .extract (.t 33) 1, none⟩,
    ⟨some 6, .alloc (.agg [(.v (.int .i64 0)), (.v (.slice none 0 0)), (.v (.slice none 0 0))]), none⟩,
    ⟨none, .store 3 (.t 6) (.t 35), none⟩,
    ⟨some 7, .mov (.t 36), none⟩])
  (.seq (.ops [⟨some 38, .call 8 [(.c (.v (.int .i64 1000)))], none⟩,
    ⟨some 37, .mov (.t 38), none⟩,
    ⟨some 39, .extract (.t 37) 0, none⟩,
    ⟨some 40, .extract (.t 37) 1, none⟩,
    ⟨some 8, .alloc (.agg [(.v (.int .i64 0)), (.v (.slice none 0 0)), (.v (.slice none 0 0))]), none⟩,
    ⟨none, .store 3 (.t 8) (.t 39), none⟩,
    ⟨some 9, .mov (.t 40), none⟩])
  (.seq (.ops [⟨some 41, .mov (.t 1), none⟩,
    ⟨some 42, .conv .i64 (.t 41), none⟩,
    ⟨some 43, .mov (.t 0), none⟩,
    ⟨some 44, .len false (.t 43), none⟩,
    ⟨some 45, .bin .add false (.t 44) (.c (.v (.int .i64 1))), none⟩,
    ⟨some 46, .bin .rem false (.t 42) (.t 45), none⟩,
    ⟨some 10, .mov (.t 46), none⟩])
  (.seq (.seq (.ops [⟨some 11, .mov (.c (.v (.int .i64 0))), none⟩])
  (.block 0 (.loop
    (.seq (.seq (.ops [⟨some 47, .mov (.t 11), none⟩,
      ⟨some 48, .mov (.t 0), none⟩,
      ⟨some 49, .len false (.t 48), none⟩,
      ⟨some 50, .bin .lss false (.t 47) (.t 49), none⟩])
    (.cond (.t 50)
      .skip
      (.exit 0)))
    (.seq (.block 1 (.seq (.draw [[⟨some 54, .load 3 true (.t 6), none⟩,
        ⟨some 55, .mov (.t 0), none⟩,
        ⟨some 56, .mov (.t 11), none⟩,
        ⟨some 57, .iaddr 1 (.t 55) (.t 56), none⟩,
        ⟨some 58, .load 1 false (.t 57), none⟩,
        ⟨some 59, .call 9 [(.t 54), (.t 58)], none⟩,
        ⟨some 53, .mov (.t 59), none⟩,
        ⟨some 60, .extract (.t 53) 0, none⟩,
        ⟨some 61, .extract (.t 53) 1, none⟩,
        ⟨some 62, .extract (.t 53) 2, none⟩,
        ⟨some 63, .extract (.t 53) 3, none⟩,
        ⟨some 12, .alloc (.agg [(.v (.int .i64 0)), (.v (.slice none 0 0)), (.v (.slice none 0 0))]), none⟩,
        ⟨none, .store 3 (.t 12) (.t 60), none⟩,
        ⟨some 13, .mov (.t 61), none⟩,
        ⟨some 14, .mov (.t 62), none⟩],
      [⟨some 15, .mov (.t 63), none⟩]])
    (.seq (.seq (.ops [⟨some 64, .mov (.t 15), none⟩,
      ⟨some 65, .bin .neq false (.t 64) (.c (.v (.int .i64 0))), none⟩])
    (.cond (.t 65)
      (.seq (.ops [⟨some 4, .mov (.c (.v (.bool false))), none⟩])
      .ret)
      .skip))
    (.seq (.ops [⟨some 66, .load 3 true (.t 12), none⟩,
      ⟨none, .store 3 (.t 6) (.t 66), none⟩])
    (.seq (.ops [⟨some 67, .mov (.t 11), none⟩,
      ⟨some 68, .mov (.t 10), none⟩,
      ⟨some 69, .bin .lss false (.t 67) (.t 68), none⟩])
    (.cond (.t 69)
      (.seq (.draw [[⟨some 71, .load 3 true (.t 8), none⟩,
          ⟨some 72, .mov (.t 0), none⟩,
          ⟨some 73, .mov (.t 11), none⟩,
          ⟨some 74, .iaddr 1 (.t 72) (.t 73), none⟩,
          ⟨some 75, .load 1 false (.t 74), none⟩,
          ⟨some 76, .call 9 [(.t 71), (.t 75)], none⟩,
          ⟨some 70, .mov (.t 76), none⟩,
          ⟨some 77, .extract (.t 70) 0, none⟩,
          ⟨some 78, .extract (.t 70) 1, none⟩,
          ⟨some 79, .extract (.t 70) 2, none⟩,
          ⟨some 80, .extract (.t 70) 3, none⟩,
          ⟨some 16, .alloc (.agg [(.v (.int .i64 0)), (.v (.slice none 0 0)), (.v (.slice none 0 0))]), none⟩,
          ⟨none, .store 3 (.t 16) (.t 77), none⟩,
          ⟨some 17, .mov (.t 78), none⟩,
          ⟨some 18, .mov (.t 79), none⟩],
        [⟨some 19, .mov (.t 80), none⟩]])
      (.ops [⟨some 81, .load 3 true (.t 16), none⟩,
        ⟨none, .store 3 (.t 8) (.t 81), none⟩]))
      .skip))))))
    (.ops [⟨some 51, .mov (.t 11), none⟩,
      ⟨some 52, .bin .add false (.t 51) (.c (.v (.int .i64 1))), none⟩,
      ⟨some 11, .mov (.t 52), none⟩]))))))
  (.seq (.ops [⟨some 82, .load 3 true (.t 6), none⟩,
    ⟨some 83, .call 14 [(.t 82)], none⟩,
    ⟨some 20, .mov (.t 83), none⟩])
  (.seq (.ops [⟨some 84, .load 3 true (.t 8), none⟩,
    ⟨some 85, .call 14 [(.t 84)], none⟩,
    ⟨some 21, .mov (.t 85), none⟩])
  (.seq (.seq (.ops [⟨some 86, .mov (.t 21), none⟩,
    ⟨some 87, .len false (.t 86), none⟩,
    ⟨some 88, .mov (.t 20), none⟩,
    ⟨some 89, .len false (.t 88), none⟩,
    ⟨some 90, .bin .gtr false (.t 87) (.t 89), none⟩,
    ⟨some 91, .mov (.t 90), none⟩,
    ⟨some 92, .mov (.t 20), some (91, false)⟩,
    ⟨some 93, .mov (.t 21), some (91, false)⟩,
    ⟨some 94, .len false (.t 93), some (91, false)⟩,
    ⟨some 95, .slice 1 (.t 92) none (some (.t 94)) none, some (91, false)⟩,
    ⟨some 96, .mov (.t 21), some (91, false)⟩,
    ⟨some 97, .call 15 [(.t 95), (.t 96)], some (91, false)⟩,
    ⟨some 98, .un .not (.t 97), some (91, false)⟩,
    ⟨some 99, .pick (.t 91) (.c (.v (.bool true))) (.t 98), none⟩,
    ⟨some 100, .mov (.t 99), none⟩,
    ⟨some 101, .load 3 true (.t 6), some (100, false)⟩,
    ⟨some 102, .call 10 [(.t 101)], some (100, false)⟩,
    ⟨some 103, .mov (.t 20), some (100, false)⟩,
    ⟨some 104, .len false (.t 103), some (100, false)⟩,
    ⟨some 105, .bin .neq false (.t 102) (.t 104), some (100, false)⟩,
    ⟨some 106, .pick (.t 100) (.c (.v (.bool true))) (.t 105), none⟩])
  (.cond (.t 106)
    (.seq (.ops [⟨some 4, .mov (.c (.v (.bool false))), none⟩])
    .ret)
    .skip))
  (.seq (.ops [⟨some 22, .mov (.c (.v (.int .i64 0))), none⟩])
  (.seq (.seq (.ops [⟨some 23, .mov (.c (.v (.int .i64 0))), none⟩])
  (.block 2 (.loop
    (.seq (.seq (.ops [⟨some 107, .mov (.t 23), none⟩,
      ⟨some 108, .mov (.t 0), none⟩,
      ⟨some 109, .len false (.t 108), none⟩,
      ⟨some 110, .bin .lss false (.t 107) (.t 109), none⟩])
    (.cond (.t 110)
      .skip
      (.exit 2)))
    (.seq (.block 3 (.seq (.draw [[⟨some 114, .load 3 true (.t 6), none⟩,
        ⟨some 115, .mov (.t 0), none⟩,
        ⟨some 116, .mov (.t 23), none⟩,
        ⟨some 117, .iaddr 1 (.t 115) (.t 116), none⟩,
        ⟨some 118, .load 1 false (.t 117), none⟩],
      [⟨some 119, .call 12 [(.t 114), (.t 118)], none⟩],
      [⟨some 113, .mov (.t 119), none⟩],
      [⟨some 120, .extract (.t 113) 0, none⟩,
        ⟨some 121, .extract (.t 113) 1, none⟩,
        ⟨some 24, .mov (.t 120), none⟩],
      [⟨some 25, .mov (.t 121), none⟩]])
    (.seq (.seq (.ops [⟨some 122, .mov (.t 25), none⟩,
      ⟨some 123, .un .not (.t 122), none⟩,
      ⟨some 124, .mov (.t 123), none⟩,
      ⟨some 125, .mov (.t 24), some (124, false)⟩,
      ⟨some 126, .mov (.t 22), some (124, false)⟩,
      ⟨some 127, .bin .gtr false (.t 125) (.t 126), some (124, false)⟩,
      ⟨some 128, .pick (.t 124) (.c (.v (.bool true))) (.t 127), none⟩,
      ⟨some 129, .mov (.t 128), none⟩,
      ⟨some 130, .mov (.t 24), some (129, false)⟩,
      ⟨some 131, .bin .lss false (.t 130) (.c (.v (.int .i64 0))), some (129, false)⟩,
      ⟨some 132, .pick (.t 129) (.c (.v (.bool true))) (.t 131), none⟩])
    (.cond (.t 132)
      (.seq (.ops [⟨some 4, .mov (.c (.v (.bool false))), none⟩])
      .ret)
      .skip))
    (.seq (.seq (.ops [⟨some 133, .mov (.t 24), none⟩,
      ⟨some 134, .mov (.t 22), none⟩,
      ⟨some 135, .bin .eql false (.t 133) (.t 134), none⟩])
    (.cond (.t 135)
      (.ops [⟨some 136, .mov (.t 22), none⟩,
        ⟨some 137, .bin .add false (.t 136) (.c (.v (.int .i64 1))), none⟩,
        ⟨some 22, .mov (.t 137), none⟩])
      .skip))
    (.seq (.ops [⟨some 139, .load 3 true (.t 6), none⟩,
      ⟨some 140, .mov (.t 24), none⟩,
      ⟨some 141, .call 13 [(.t 139), (.t 140)], none⟩,
      ⟨some 138, .mov (.t 141), none⟩,
      ⟨some 142, .extract (.t 138) 0, none⟩,
      ⟨some 143, .extract (.t 138) 1, none⟩,
      ⟨some 26, .mov (.t 142), none⟩,
      ⟨some 27, .mov (.t 143), none⟩])
    (.seq (.draw [[⟨some 144, .mov (.t 27), none⟩],
      [⟨some 145, .bin .neq false (.t 144) (.c (.v (.int .i64 0))), none⟩],
      [⟨some 146, .mov (.t 145), none⟩],
      [⟨some 147, .mov (.t 26), some (146, false)⟩,
        ⟨some 148, .b2s (.t 147), some (146, false)⟩,
        ⟨some 149, .mov (.t 0), some (146, false)⟩,
        ⟨some 150, .mov (.t 23), some (146, false)⟩,
        ⟨some 151, .iaddr 1 (.t 149) (.t 150), some (146, false)⟩,
        ⟨some 152, .load 1 false (.t 151), some (146, false)⟩,
        ⟨some 153, .b2s (.t 152), some (146, false)⟩],
      [⟨some 154, .bin .neq false (.t 148) (.t 153), some (146, false)⟩],
      [⟨some 155, .pick (.t 146) (.c (.v (.bool true))) (.t 154), none⟩],
      [⟨some 156, .mov (.t 155), none⟩],
      [⟨some 157, .mov (.t 20), some (156, false)⟩,
        ⟨some 158, .mov (.t 24), some (156, false)⟩,
        ⟨some 159, .iaddr 1 (.t 157) (.t 158), some (156, false)⟩,
        ⟨some 160, .load 1 false (.t 159), some (156, false)⟩,
        ⟨some 161, .b2s (.t 160), some (156, false)⟩,
        ⟨some 162, .mov (.t 0), some (156, false)⟩,
        ⟨some 163, .mov (.t 23), some (156, false)⟩,
        ⟨some 164, .iaddr 1 (.t 162) (.t 163), some (156, false)⟩,
        ⟨some 165, .load 1 false (.t 164), some (156, false)⟩,
        ⟨some 166, .b2s (.t 165), some (156, false)⟩],
      [⟨some 167, .bin .neq false (.t 161) (.t 166), some (156, false)⟩],
      [⟨some 168, .pick (.t 156) (.c (.v (.bool true))) (.t 167), none⟩]])
    (.cond (.t 168)
      (.seq (.ops [⟨some 4, .mov (.c (.v (.bool false))), none⟩])
      .ret)
      .skip)))))))
    (.ops [⟨some 111, .mov (.t 23), none⟩,
      ⟨some 112, .bin .add false (.t 111) (.c (.v (.int .i64 1))), none⟩,
      ⟨some 23, .mov (.t 112), none⟩]))))))
  (.seq (.ops [⟨some 169, .mov (.t 5), none⟩,
    ⟨some 170, .mov (.t 169), none⟩,
    ⟨some 171, .mov (.t 22), some (170, true)⟩,
    ⟨some 172, .mov (.t 20), some (170, true)⟩,
    ⟨some 173, .len false (.t 172), some (170, true)⟩,
    ⟨some 174, .bin .eql false (.t 171) (.t 173), some (170, true)⟩,
    ⟨some 175, .pick (.t 170) (.t 174) (.c (.v (.bool false))), none⟩,
    ⟨some 4, .mov (.t 175), none⟩])
  .ret)))))))))))))⟩ := by kernel_rfl

set_option maxRecDepth 100000 in
theorem ir7 : compF Try.prog 7 = some ⟨175, [.t 0],
  (.seq (.ops [⟨some 0, .mov (.c (.v (.bool false))), none⟩])
  (.seq (.ops [⟨some 30, .call 8 [(.c (.v (.int .i64 2)))], none⟩,
    ⟨some 29, .mov (.t 30), none⟩,
    ⟨some 31, .extract (.t 29) 0, none⟩,
    ⟨some 32, .extract (.t 29) 1, none⟩,
    ⟨some 1, .alloc (.agg [(.v (.int .i64 0)), (.v (.slice none 0 0)), (.v (.slice none 0 0))]), none⟩,
    ⟨none, .store 3 (.t 1) (.t 31), none⟩,
    ⟨some 2, .mov (.t 32), none⟩])
  (.seq (.ops [⟨some 34, .load 3 true (.t 1), none⟩,
    ⟨some 35, .bslice 1 [(.v (.int .u8 0))] 1 [(0, 1, (.c (.v (.int .u8 97))))], none⟩,
    ⟨some 36, .sames (.t 35), none⟩,
    ⟨some 37, .call 9 [(.t 34), (.t 36)], none⟩,
    ⟨some 33, .mov (.t 37), none⟩,
    ⟨some 38, .extract (.t 33) 0, none⟩,
    ⟨some 39, .extract (.t 33) 1, none⟩,
    ⟨some 40, .extract (.t 33) 2, none⟩,
    ⟨some 41, .extract (.t 33) 3, none⟩,
    ⟨some 3, .alloc (.agg [(.v (.int .i64 0)), (.v (.slice none 0 0)), (.v (.slice none 0 0))]), none⟩,
    ⟨none, .store 3 (.t 3) (.t 38), none⟩,
    ⟨some 4, .mov (.t 39), none⟩,
    ⟨some 5, .mov (.t 40), none⟩,
    ⟨some 6, .mov (.t 41), none⟩])
  (.seq (.ops [⟨some 43, .load 3 true (.t 3), none⟩,
    ⟨some 44, .bslice 1 [(.v (.int .u8 0))] 1 [(0, 1, (.c (.v (.int .u8 98))))], none⟩,
    ⟨some 45, .sames (.t 44), none⟩,
    ⟨some 46, .call 9 [(.t 43), (.t 45)], none⟩,
    ⟨some 42, .mov (.t 46), none⟩,
    ⟨some 47, .extract (.t 42) 0, none⟩,
    ⟨some 48, .extract (.t 42) 1, none⟩,
    ⟨some 49, .extract (.t 42) 2, none⟩,
    ⟨some 50, .extract (.t 42) 3, none⟩,
    ⟨some 7, .alloc (.agg [(.v (.int .i64 0)), (.v (.slice none 0 0)), (.v (.slice none 0 0))]), none⟩,
    ⟨none, .store 3 (.t 7) (.t 47), none⟩,
    ⟨some 8, .mov (.t 48), none⟩,
    ⟨some 9, .mov (.t 49), none⟩,
    ⟨some 10, .mov (.t 50), none⟩])
  (.seq (.ops [⟨some 52, .load 3 true (.t 7), none⟩,
    ⟨some 53, .bslice 1 [(.v (.int .u8 0))] 1 [(0, 1, (.c (.v (.int .u8 97))))], none⟩,
    ⟨some 54, .sames (.t 53), none⟩,
    ⟨some 55, .call 9 [(.t 52), (.t 54)], none⟩,
    ⟨some 51, .mov (.t 55), none⟩,
    ⟨some 56, .extract (.t 51) 0, none⟩,
    ⟨some 57, .extract (.t 51) 1, none⟩,
    ⟨some 58, .extract (.t 51) 2, none⟩,
    ⟨some 59, .extract (.t 51) 3, none⟩,
    ⟨some 11, .alloc (.agg [(.v (.int .i64 0)), (.v (.slice none 0 0)), (.v (.slice none 0 0))]), none⟩,
    ⟨none, .store 3 (.t 11) (.t 56), none⟩,
    ⟨some 12, .mov (.t 57), none⟩,
    ⟨some 13, .mov (.t 58), none⟩,
    ⟨some 14, .mov (.t 59), none⟩])
  (.seq (.ops [⟨some 61, .load 3 true (.t 7), none⟩,
    ⟨some 62, .bslice 1 [(.v (.int .u8 0))] 1 [(0, 1, (.c (.v (.int .u8 99))))], none⟩,
    ⟨some 63, .sames (.t 62), none⟩,
    ⟨some 64, .call 9 [(.t 61), (.t 63)], none⟩,
    ⟨some 60, .mov (.t 64), none⟩,
    ⟨some 65, .extract (.t 60) 0, none⟩,
    ⟨some 66, .extract (.t 60) 1, none⟩,
    ⟨some 67, .extract (.t 60) 2, none⟩,
    ⟨some 68, .extract (.t 60) 3, none⟩,
    ⟨some 15, .alloc (.agg [(.v (.int .i64 0)), (.v (.slice none 0 0)), (.v (.slice none 0 0))]), none⟩,
    ⟨none, .store 3 (.t 15) (.t 65), none⟩,
    ⟨some 16, .mov (.t 66), none⟩,
    ⟨some 17, .mov (.t 67), none⟩,
    ⟨some 18, .mov (.t 68), none⟩])
  (.seq (.ops [⟨some 70, .load 3 true (.t 7), none⟩,
    ⟨some 71, .bslice 1 [(.v (.int .u8 0))] 1 [(0, 1, (.c (.v (.int .u8 98))))], none⟩,
    ⟨some 72, .sames (.t 71), none⟩,
    ⟨some 73, .call 12 [(.t 70), (.t 72)], none⟩,
    ⟨some 69, .mov (.t 73), none⟩,
    ⟨some 74, .extract (.t 69) 0, none⟩,
    ⟨some 75, .extract (.t 69) 1, none⟩,
    ⟨some 19, .mov (.t 74), none⟩,
    ⟨some 20, .mov (.t 75), none⟩])
  (.seq (.ops [⟨some 77, .load 3 true (.t 3), none⟩,
    ⟨some 78, .bslice 1 [(.v (.int .u8 0))] 1 [(0, 1, (.c (.v (.int .u8 98))))], none⟩,
    ⟨some 79, .sames (.t 78), none⟩,
    ⟨some 80, .call 12 [(.t 77), (.t 79)], none⟩,
    ⟨some 76, .mov (.t 80), none⟩,
    ⟨some 81, .extract (.t 76) 0, none⟩,
    ⟨some 82, .extract (.t 76) 1, none⟩,
    ⟨some 21, .mov (.t 81), none⟩,
    ⟨some 22, .mov (.t 82), none⟩])
  (.seq (.ops [⟨some 84, .load 3 true (.t 7), none⟩,
    ⟨some 85, .call 13 [(.t 84), (.c (.v (.int .i64 0)))], none⟩,
    ⟨some 83, .mov (.t 85), none⟩,
    ⟨some 86, .extract (.t 83) 0, none⟩,
    ⟨some 87, .extract (.t 83) 1, none⟩,
    ⟨some 23, .mov (.t 86), none⟩,
    ⟨some 24, .mov (.t 87), none⟩])
  (.seq (.ops [⟨some 89, .load 3 true (.t 7), none⟩,
    ⟨some 90, .call 13 [(.t 89), (.c (.v (.int .i64 2)))], none⟩,
    ⟨some 88, .mov (.t 90), none⟩,
    ⟨some 91, .extract (.t 88) 0, none⟩,
    ⟨some 92, .extract (.t 88) 1, none⟩,
    ⟨some 25, .mov (.t 91), none⟩,
    ⟨some 26, .mov (.t 92), none⟩])
  (.seq (.ops [⟨some 94, .call 8 [(.c (.v (.int .i64 (-1))))], none⟩,
    ⟨some 93, .mov (.t 94), none⟩,
    ⟨some 95, .extract (.t 93) 0, none⟩,
    ⟨some 96, .extract (.t 93) 1, none⟩,
    ⟨some 27, .alloc (.agg [(.v (.int .i64 0)), (.v (.slice none 0 0)), (.v (.slice none 0 0))]), none⟩,
    ⟨none, .store 3 (.t 27) (.t 95), none⟩,
    ⟨some 28, .mov (.t 96), none⟩])
  (.seq (.ops [⟨some 97, .mov (.t 2), none⟩,
    ⟨some 98, .bin .eql false (.t 97) (.c (.v (.int .i64 0))), none⟩,
    ⟨some 99, .mov (.t 98), none⟩,
    ⟨some 100, .mov (.t 4), some (99, true)⟩,
    ⟨some 101, .bin .eql false (.t 100) (.c (.v (.int .i64 0))), some (99, true)⟩,
    ⟨some 102, .pick (.t 99) (.t 101) (.c (.v (.bool false))), none⟩,
    ⟨some 103, .mov (.t 102), none⟩,
    ⟨some 104, .mov (.t 5), some (103, true)⟩,
    ⟨some 105, .pick (.t 103) (.t 104) (.c (.v (.bool false))), none⟩,
    ⟨some 106, .mov (.t 105), none⟩,
    ⟨some 107, .mov (.t 6), some (106, true)⟩,
    ⟨some 108, .bin .eql false (.t 107) (.c (.v (.int .i64 0))), some (106, true)⟩,
    ⟨some 109, .pick (.t 106) (.t 108) (.c (.v (.bool false))), none⟩,
    ⟨some 110, .mov (.t 109), none⟩,
    ⟨some 111, .mov (.t 8), some (110, true)⟩,
    ⟨some 112, .bin .eql false (.t 111) (.c (.v (.int .i64 1))), some (110, true)⟩,
    ⟨some 113, .pick (.t 110) (.t 112) (.c (.v (.bool false))), none⟩,
    ⟨some 114, .mov (.t 113), none⟩,
    ⟨some 115, .mov (.t 9), some (114, true)⟩,
    ⟨some 116, .pick (.t 114) (.t 115) (.c (.v (.bool false))), none⟩,
    ⟨some 117, .mov (.t 116), none⟩,
    ⟨some 118, .mov (.t 10), some (117, true)⟩,
    ⟨some 119, .bin .eql false (.t 118) (.c (.v (.int .i64 0))), some (117, true)⟩,
    ⟨some 120, .pick (.t 117) (.t 119) (.c (.v (.bool false))), none⟩,
    ⟨some 121, .mov (.t 120), none⟩,
    ⟨some 122, .mov (.t 12), some (121, true)⟩,
    ⟨some 123, .bin .eql false (.t 122) (.c (.v (.int .i64 0))), some (121, true)⟩,
    ⟨some 124, .pick (.t 121) (.t 123) (.c (.v (.bool false))), none⟩,
    ⟨some 125, .mov (.t 124), none⟩,
    ⟨some 126, .mov (.t 13), some (125, true)⟩,
    ⟨some 127, .un .not (.t 126), some (125, true)⟩,
    ⟨some 128, .pick (.t 125) (.t 127) (.c (.v (.bool false))), none⟩,
    ⟨some 129, .mov (.t 128), none⟩,
    ⟨some 130, .mov (.t 14), some (129, true)⟩,
    ⟨some 131, .bin .eql false (.t 130) (.c (.v (.int .i64 0))), some (129, true)⟩,
    ⟨some 132, .pick (.t 129) (.t 131) (.c (.v (.bool false))), none⟩,
    ⟨some 133, .mov (.t 132), none⟩,
    ⟨some 134, .mov (.t 18), some (133, true)⟩,
    ⟨some 135, .bin .eql false (.t 134) (.c (.v (.int .i64 7))), some (133, true)⟩,
    ⟨some 136, .pick (.t 133) (.t 135) (.c (.v (.bool false))), none⟩,
    ⟨some 137, .mov (.t 136), none⟩,
    ⟨some 138, .mov (.t 19), some (137, true)⟩,
    ⟨some 139, .bin .eql false (.t 138) (.c (.v (.int .i64 1))), some (137, true)⟩,
    ⟨some 140, .pick (.t 137) (.t 139) (.c (.v (.bool false))), none⟩,
    ⟨some 141, .mov (.t 140), none⟩,
    ⟨some 142, .mov (.t 20), some (141, true)⟩,
    ⟨some 143, .pick (.t 141) (.t 142) (.c (.v (.bool false))), none⟩,
    ⟨some 144, .mov (.t 143), none⟩,
    ⟨some 145, .mov (.t 22), some (144, true)⟩,
    ⟨some 146, .un .not (.t 145), some (144, true)⟩,
    ⟨some 147, .pick (.t 144) (.t 146) (.c (.v (.bool false))), none⟩,
    ⟨some 148, .mov (.t 147), none⟩,
    ⟨some 149, .mov (.t 23), some (148, true)⟩,
    ⟨some 150, .b2s (.t 149), some (148, true)⟩,
    ⟨some 151, .bin .eql false (.t 150) (.c (.v (.string ⟨#[97]⟩))), some (148, true)⟩,
    ⟨some 152, .pick (.t 148) (.t 151) (.c (.v (.bool false))), none⟩,
    ⟨some 153, .mov (.t 152), none⟩,
    ⟨some 154, .mov (.t 24), some (153, true)⟩,
    ⟨some 155, .bin .eql false (.t 154) (.c (.v (.int .i64 0))), some (153, true)⟩,
    ⟨some 156, .pick (.t 153) (.t 155) (.c (.v (.bool false))), none⟩,
    ⟨some 157, .mov (.t 156), none⟩,
    ⟨some 158, .mov (.t 26), some (157, true)⟩,
    ⟨some 159, .bin .eql false (.t 158) (.c (.v (.int .i64 10))), some (157, true)⟩,
    ⟨some 160, .pick (.t 157) (.t 159) (.c (.v (.bool false))), none⟩,
    ⟨some 161, .mov (.t 160), none⟩,
    ⟨some 162, .mov (.t 28), some (161, true)⟩,
    ⟨some 163, .bin .eql false (.t 162) (.c (.v (.int .i64 1))), some (161, true)⟩,
    ⟨some 164, .pick (.t 161) (.t 163) (.c (.v (.bool false))), none⟩,
    ⟨some 165, .mov (.t 164), none⟩,
    ⟨some 166, .load 3 true (.t 7), some (165, true)⟩,
    ⟨some 167, .call 10 [(.t 166)], some (165, true)⟩,
    ⟨some 168, .bin .eql false (.t 167) (.c (.v (.int .i64 2))), some (165, true)⟩,
    ⟨some 169, .pick (.t 165) (.t 168) (.c (.v (.bool false))), none⟩,
    ⟨some 170, .mov (.t 169), none⟩,
    ⟨some 171, .load 3 true (.t 3), some (170, true)⟩,
    ⟨some 172, .call 10 [(.t 171)], some (170, true)⟩,
    ⟨some 173, .bin .eql false (.t 172) (.c (.v (.int .i64 1))), some (170, true)⟩,
    ⟨some 174, .pick (.t 170) (.t 173) (.c (.v (.bool false))), none⟩,
    ⟨some 0, .mov (.t 174), none⟩])
  .ret))))))))))))⟩ := by kernel_rfl

theorem ir8 : compF Try.prog 8 = some ⟨14, [.c 2 3 true, .t 3],
  (.seq (.ops [⟨some 2, .alloc (.agg [(.v (.int .i64 0)), (.v (.slice none 0 0)), (.v (.slice none 0 0))]), none⟩,
    ⟨some 3, .mov (.c (.v (.int .i64 0))), none⟩])
  (.seq (.seq (.ops [⟨some 4, .mov (.t 0), none⟩,
    ⟨some 5, .bin .lss false (.t 4) (.c (.v (.int .i64 0))), none⟩,
    ⟨some 6, .mov (.t 5), none⟩,
    ⟨some 7, .mov (.t 0), some (6, false)⟩,
    ⟨some 8, .bin .gtr false (.t 7) (.c (.v (.int .i64 1048576))), some (6, false)⟩,
    ⟨some 9, .pick (.t 6) (.c (.v (.bool true))) (.t 8), none⟩])
  (.cond (.t 9)
    (.seq (.ops [⟨some 10, .build [(.v (.int .i64 0)), (.v (.slice none 0 0)), (.v (.slice none 0 0))] [], none⟩,
      ⟨none, .store 3 (.t 2) (.t 10), none⟩,
      ⟨some 3, .mov (.c (.v (.int .i64 1))), none⟩])
    .ret)
    .skip))
  (.seq (.ops [⟨some 11, .mov (.t 0), none⟩,
    ⟨some 12, .mksl 1 8 [(.v (.int .i64 0))] (.c (.v (.int .i64 8))) (.c (.v (.int .i64 8))), none⟩,
    ⟨some 13, .build [(.v (.int .i64 0)), (.v (.slice none 0 0)), (.v (.slice none 0 0))] [(0, 1, (.t 11)), (2, 1, (.t 12))], none⟩,
    ⟨none, .store 3 (.t 2) (.t 13), none⟩,
    ⟨some 3, .mov (.c (.v (.int .i64 0))), none⟩])
  .ret)))⟩ := by kernel_rfl

theorem ir9 : compF Try.prog 9 = some ⟨86, [.c 4 3 true, .t 5, .t 6, .t 7],
  (.seq (.ops [⟨some 2, .box (.t 0), none⟩,
    ⟨some 4, .alloc (.agg [(.v (.int .i64 0)), (.v (.slice none 0 0)), (.v (.slice none 0 0))]), none⟩,
    ⟨some 5, .mov (.c (.v (.int .i64 0))), none⟩,
    ⟨some 6, .mov (.c (.v (.bool false))), none⟩,
    ⟨some 7, .mov (.c (.v (.int .i64 0))), none⟩])
  (.seq (.seq (.ops [⟨some 14, .load 3 true (.t 2), none⟩,
    ⟨some 15, .mov (.t 1), none⟩,
    ⟨some 16, .call 12 [(.t 14), (.t 15)], none⟩,
    ⟨some 13, .mov (.t 16), none⟩,
    ⟨some 17, .extract (.t 13) 0, none⟩,
    ⟨some 18, .extract (.t 13) 1, none⟩,
    ⟨some 8, .mov (.t 17), none⟩,
    ⟨some 9, .mov (.t 18), none⟩])
  (.seq (.ops [⟨some 19, .mov (.t 9), none⟩])
  (.cond (.t 19)
    (.seq (.ops [⟨some 20, .load 3 true (.t 2), none⟩,
      ⟨some 21, .mov (.t 8), none⟩,
      ⟨none, .store 3 (.t 4) (.t 20), none⟩,
      ⟨some 5, .mov (.t 21), none⟩,
      ⟨some 6, .mov (.c (.v (.bool false))), none⟩,
      ⟨some 7, .mov (.c (.v (.int .i64 0))), none⟩])
    .ret)
    .skip)))
  (.seq (.ops [⟨some 22, .faddr 1 (.t 2), none⟩,
    ⟨some 23, .load 1 false (.t 22), none⟩,
    ⟨some 24, .len false (.t 23), none⟩,
    ⟨some 10, .mov (.t 24), none⟩])
  (.seq (.seq (.ops [⟨some 25, .mov (.t 10), none⟩,
    ⟨some 26, .faddr 0 (.t 2), none⟩,
    ⟨some 27, .load 1 false (.t 26), none⟩,
    ⟨some 28, .bin .geq false (.t 25) (.t 27), none⟩])
  (.cond (.t 28)
    (.seq (.ops [⟨some 29, .load 3 true (.t 2), none⟩,
      ⟨none, .store 3 (.t 4) (.t 29), none⟩,
      ⟨some 5, .mov (.c (.v (.int .i64 0))), none⟩,
      ⟨some 6, .mov (.c (.v (.bool false))), none⟩,
      ⟨some 7, .mov (.c (.v (.int .i64 7))), none⟩])
    .ret)
    .skip))
  (.seq (.ops [⟨some 30, .load 3 true (.t 2), none⟩,
    ⟨some 31, .build [(.v (.int .i64 0)), (.v (.slice none 0 0)), (.v (.slice none 0 0))] [(0, 3, (.t 30))], none⟩,
    ⟨some 32, .build [(.v (.int .i64 0)), (.v (.slice none 0 0)), (.v (.slice none 0 0))] [(0, 3, (.t 31))], none⟩,
    ⟨some 33, .box (.t 32), none⟩,
    ⟨some 11, .mov (.t 33), none⟩])
  (.seq (.ops [⟨some 34, .mov (.t 11), none⟩,
    ⟨some 35, .faddr 1 (.t 2), none⟩,
    ⟨some 36, .load 1 false (.t 35), none⟩,
    ⟨some 37, .call 17 [(.t 36)], none⟩,
    ⟨some 38, .mov (.t 1), none⟩,
    ⟨some 39, .call 18 [(.t 38)], none⟩,
    ⟨some 40, .bslice 1 [(.v (.slice none 0 0))] 1 [(0, 1, (.t 39))], none⟩,
    ⟨some 41, .append 1 24 [(.v (.slice none 0 0))] (.t 37) (.t 40), none⟩,
    ⟨some 42, .nilchk (.t 34), none⟩,
    ⟨some 43, .faddr 0 (.t 42), none⟩,
    ⟨some 44, .faddr 0 (.t 43), none⟩,
    ⟨some 45, .faddr 1 (.t 44), none⟩,
    ⟨none, .store 1 (.t 45) (.t 41), none⟩])
  (.seq (.seq (.ops [⟨some 46, .faddr 2 (.t 2), none⟩,
    ⟨some 47, .load 1 false (.t 46), none⟩,
    ⟨some 48, .len false (.t 47), none⟩,
    ⟨some 49, .mm true (.t 48) [(.c (.v (.int .i64 8)))], none⟩,
    ⟨some 12, .mov (.t 49), none⟩])
  (.seq (.ops [⟨some 50, .mov (.t 10), none⟩,
    ⟨some 51, .bin .add false (.t 50) (.c (.v (.int .i64 1))), none⟩,
    ⟨some 52, .bin .mul false (.c (.v (.int .i64 2))) (.t 51), none⟩,
    ⟨some 53, .mov (.t 12), none⟩,
    ⟨some 54, .bin .gtr false (.t 52) (.t 53), none⟩])
  (.cond (.t 54)
    (.ops [⟨some 55, .mov (.t 11), none⟩,
      ⟨some 56, .mov (.t 12), none⟩,
      ⟨some 57, .bin .mul false (.c (.v (.int .i64 2))) (.t 56), none⟩,
      ⟨some 58, .call 19 [(.t 55), (.t 57)], none⟩])
    (.seq (.ops [⟨some 59, .mov (.t 11), none⟩,
      ⟨some 60, .faddr 2 (.t 2), none⟩,
      ⟨some 61, .load 1 false (.t 60), none⟩,
      ⟨some 62, .call 20 [(.t 61)], none⟩,
      ⟨some 63, .nilchk (.t 59), none⟩,
      ⟨some 64, .faddr 0 (.t 63), none⟩,
      ⟨some 65, .faddr 0 (.t 64), none⟩,
      ⟨some 66, .faddr 2 (.t 65), none⟩,
      ⟨none, .store 1 (.t 66) (.t 62), none⟩])
    (.draw [[⟨some 67, .mov (.t 11), none⟩,
        ⟨some 68, .nilchk (.t 67), none⟩,
        ⟨some 69, .faddr 0 (.t 68), none⟩,
        ⟨some 70, .faddr 0 (.t 69), none⟩,
        ⟨some 71, .faddr 2 (.t 70), none⟩,
        ⟨some 72, .load 1 false (.t 71), none⟩,
        ⟨some 73, .load 3 true (.t 2), none⟩,
        ⟨some 74, .build [(.v (.int .i64 0)), (.v (.slice none 0 0)), (.v (.slice none 0 0))] [(0, 3, (.t 73))], none⟩,
        ⟨some 75, .mov (.t 1), none⟩,
        ⟨some 76, .call 21 [(.t 74), (.t 75)], none⟩,
        ⟨some 77, .mov (.t 10), none⟩,
        ⟨some 78, .bin .add false (.t 77) (.c (.v (.int .i64 1))), none⟩],
      [⟨some 79, .iaddr 1 (.t 72) (.t 76), none⟩],
      [⟨none, .store 1 (.t 79) (.t 78), none⟩]])))))
  (.seq (.ops [⟨some 80, .mov (.t 11), none⟩,
    ⟨some 81, .nilchk (.t 80), none⟩,
    ⟨some 82, .faddr 0 (.t 81), none⟩,
    ⟨some 83, .faddr 0 (.t 82), none⟩,
    ⟨some 84, .load 3 true (.t 83), none⟩,
    ⟨some 85, .mov (.t 10), none⟩,
    ⟨none, .store 3 (.t 4) (.t 84), none⟩,
    ⟨some 5, .mov (.t 85), none⟩,
    ⟨some 6, .mov (.c (.v (.bool true))), none⟩,
    ⟨some 7, .mov (.c (.v (.int .i64 0))), none⟩])
  .ret))))))))⟩ := by kernel_rfl

theorem ir10 : compF Try.prog 10 = some ⟨6, [.t 2],
  (.seq (.ops [⟨some 1, .box (.t 0), none⟩,
    ⟨some 2, .mov (.c (.v (.int .i64 0))), none⟩])
  (.seq (.ops [⟨some 3, .faddr 1 (.t 1), none⟩,
    ⟨some 4, .load 1 false (.t 3), none⟩,
    ⟨some 5, .len false (.t 4), none⟩,
    ⟨some 2, .mov (.t 5), none⟩])
  .ret))⟩ := by kernel_rfl

theorem ir11 : compF Try.prog 11 = some ⟨22, [.t 4],
  (.seq (.ops [⟨some 4, .mov (.c (.v (.bool false))), none⟩])
  (.seq (.seq (.ops [⟨some 6, .mov (.t 0), none⟩,
    ⟨some 7, .len false (.t 6), none⟩,
    ⟨some 8, .mov (.t 1), none⟩,
    ⟨some 9, .bin .gtr false (.t 7) (.t 8), none⟩])
  (.cond (.t 9)
    (.seq (.ops [⟨some 4, .mov (.c (.v (.bool false))), none⟩])
    .ret)
    .skip))
  (.seq (.seq (.ops [⟨some 5, .mov (.c (.v (.int .i64 0))), none⟩])
  (.block 0 (.loop
    (.seq (.seq (.ops [⟨some 10, .mov (.t 5), none⟩,
      ⟨some 11, .mov (.t 0), none⟩,
      ⟨some 12, .len false (.t 11), none⟩,
      ⟨some 13, .bin .lss false (.t 10) (.t 12), none⟩])
    (.cond (.t 13)
      .skip
      (.exit 0)))
    (.seq (.block 1 (.seq (.ops [⟨some 16, .mov (.t 0), none⟩,
      ⟨some 17, .mov (.t 5), none⟩,
      ⟨some 18, .iaddr 1 (.t 16) (.t 17), none⟩,
      ⟨some 19, .load 1 false (.t 18), none⟩,
      ⟨some 20, .len false (.t 19), none⟩,
      ⟨some 21, .bin .gtr false (.t 20) (.c (.v (.int .i64 200))), none⟩])
    (.cond (.t 21)
      (.seq (.ops [⟨some 4, .mov (.c (.v (.bool false))), none⟩])
      .ret)
      .skip)))
    (.ops [⟨some 14, .mov (.t 5), none⟩,
      ⟨some 15, .bin .add false (.t 14) (.c (.v (.int .i64 1))), none⟩,
      ⟨some 5, .mov (.t 15), none⟩]))))))
  (.seq (.ops [⟨some 4, .mov (.c (.v (.bool true))), none⟩])
  .ret))))⟩ := by kernel_rfl

theorem ir12 : compF Try.prog 12 = some ⟨12, [.t 4, .t 5],
  (.seq (.ops [⟨some 2, .box (.t 0), none⟩,
    ⟨some 4, .mov (.c (.v (.int .i64 0))), none⟩,
    ⟨some 5, .mov (.c (.v (.bool false))), none⟩])
  (.seq (.ops [⟨some 6, .load 3 true (.t 2), none⟩,
    ⟨some 7, .build [(.v (.int .i64 0)), (.v (.slice none 0 0)), (.v (.slice none 0 0))] [(0, 3, (.t 6))], none⟩,
    ⟨some 8, .mov (.t 1), none⟩,
    ⟨some 9, .call 22 [(.t 7), (.t 8)], none⟩,
    ⟨some 10, .extract (.t 9) 0, none⟩,
    ⟨some 11, .extract (.t 9) 1, none⟩,
    ⟨some 4, .mov (.t 10), none⟩,
    ⟨some 5, .mov (.t 11), none⟩])
  .ret))⟩ := by kernel_rfl

theorem ir13 : compF Try.prog 13 = some ⟨21, [.t 4, .t 5],
  (.seq (.ops [⟨some 2, .box (.t 0), none⟩,
    ⟨some 4, .mov (.c (.v (.slice none 0 0))), none⟩,
    ⟨some 5, .mov (.c (.v (.int .i64 0))), none⟩])
  (.seq (.seq (.ops [⟨some 6, .mov (.t 1), none⟩,
    ⟨some 7, .bin .lss false (.t 6) (.c (.v (.int .i64 0))), none⟩,
    ⟨some 8, .mov (.t 7), none⟩,
    ⟨some 9, .mov (.t 1), some (8, false)⟩,
    ⟨some 10, .faddr 1 (.t 2), some (8, false)⟩,
    ⟨some 11, .load 1 false (.t 10), some (8, false)⟩,
    ⟨some 12, .len false (.t 11), some (8, false)⟩,
    ⟨some 13, .bin .geq false (.t 9) (.t 12), some (8, false)⟩,
    ⟨some 14, .pick (.t 8) (.c (.v (.bool true))) (.t 13), none⟩])
  (.cond (.t 14)
    (.seq (.ops [⟨some 4, .mov (.c (.v (.slice none 0 0))), none⟩,
      ⟨some 5, .mov (.c (.v (.int .i64 10))), none⟩])
    .ret)
    .skip))
  (.seq (.ops [⟨some 15, .faddr 1 (.t 2), none⟩,
    ⟨some 16, .load 1 false (.t 15), none⟩,
    ⟨some 17, .mov (.t 1), none⟩,
    ⟨some 18, .iaddr 1 (.t 16) (.t 17), none⟩,
    ⟨some 19, .load 1 false (.t 18), none⟩,
    ⟨some 20, .call 18 [(.t 19)], none⟩,
    ⟨some 4, .mov (.t 20), none⟩,
    ⟨some 5, .mov (.c (.v (.int .i64 0))), none⟩])
  .ret)))⟩ := by kernel_rfl

theorem ir14 : compF Try.prog 14 = some ⟨6, [.t 2],
  (.seq (.ops [⟨some 1, .box (.t 0), none⟩,
    ⟨some 2, .mov (.c (.v (.slice none 0 0))), none⟩])
  (.seq (.ops [⟨some 3, .faddr 1 (.t 1), none⟩,
    ⟨some 4, .load 1 false (.t 3), none⟩,
    ⟨some 5, .call 23 [(.t 4)], none⟩,
    ⟨some 2, .mov (.t 5), none⟩])
  .ret))⟩ := by kernel_rfl

theorem ir15 : compF Try.prog 15 = some ⟨28, [.t 4],
  (.seq (.ops [⟨some 4, .mov (.c (.v (.bool false))), none⟩])
  (.seq (.seq (.ops [⟨some 6, .mov (.t 0), none⟩,
    ⟨some 7, .len false (.t 6), none⟩,
    ⟨some 8, .mov (.t 1), none⟩,
    ⟨some 9, .len false (.t 8), none⟩,
    ⟨some 10, .bin .neq false (.t 7) (.t 9), none⟩])
  (.cond (.t 10)
    (.seq (.ops [⟨some 4, .mov (.c (.v (.bool false))), none⟩])
    .ret)
    .skip))
  (.seq (.seq (.ops [⟨some 5, .mov (.c (.v (.int .i64 0))), none⟩])
  (.block 0 (.loop
    (.seq (.seq (.ops [⟨some 11, .mov (.t 5), none⟩,
      ⟨some 12, .mov (.t 0), none⟩,
      ⟨some 13, .len false (.t 12), none⟩,
      ⟨some 14, .bin .lss false (.t 11) (.t 13), none⟩])
    (.cond (.t 14)
      .skip
      (.exit 0)))
    (.seq (.block 1 (.seq (.draw [[⟨some 17, .mov (.t 0), none⟩,
        ⟨some 18, .mov (.t 5), none⟩,
        ⟨some 19, .iaddr 1 (.t 17) (.t 18), none⟩,
        ⟨some 20, .load 1 false (.t 19), none⟩,
        ⟨some 21, .b2s (.t 20), none⟩,
        ⟨some 22, .mov (.t 1), none⟩,
        ⟨some 23, .mov (.t 5), none⟩,
        ⟨some 24, .iaddr 1 (.t 22) (.t 23), none⟩,
        ⟨some 25, .load 1 false (.t 24), none⟩,
        ⟨some 26, .b2s (.t 25), none⟩],
      [⟨some 27, .bin .neq false (.t 21) (.t 26), none⟩]])
    (.cond (.t 27)
      (.seq (.ops [⟨some 4, .mov (.c (.v (.bool false))), none⟩])
      .ret)
      .skip)))
    (.ops [⟨some 15, .mov (.t 5), none⟩,
      ⟨some 16, .bin .add false (.t 15) (.c (.v (.int .i64 1))), none⟩,
      ⟨some 5, .mov (.t 16), none⟩]))))))
  (.seq (.ops [⟨some 4, .mov (.c (.v (.bool true))), none⟩])
  .ret))))⟩ := by kernel_rfl

theorem ir16 : compF Try.prog 16 = some ⟨4, [.t 2],
  (.seq (.ops [⟨some 2, .mov (.c (.v (.int .i64 0))), none⟩])
  (.seq (.seq (.ops [⟨some 3, .mov (.t 0), none⟩])
  (.cond (.t 3)
    (.seq (.ops [⟨some 2, .mov (.c (.v (.int .i64 1))), none⟩])
    .ret)
    .skip))
  (.seq (.ops [⟨some 2, .mov (.c (.v (.int .i64 0))), none⟩])
  .ret)))⟩ := by kernel_rfl

theorem ir17 : compF Try.prog 17 = some ⟨9, [.t 2],
  (.seq (.ops [⟨some 2, .mov (.c (.v (.slice none 0 0))), none⟩])
  (.seq (.ops [⟨some 3, .mov (.t 0), none⟩,
    ⟨some 4, .mov (.t 0), none⟩,
    ⟨some 5, .len false (.t 4), none⟩,
    ⟨some 6, .mov (.t 0), none⟩,
    ⟨some 7, .len false (.t 6), none⟩,
    ⟨some 8, .slice 1 (.t 3) none (some (.t 5)) (some (.t 7)), none⟩,
    ⟨some 2, .mov (.t 8), none⟩])
  .ret))⟩ := by kernel_rfl

theorem ir18 : compF Try.prog 18 = some ⟨8, [.t 2],
  (.seq (.ops [⟨some 2, .mov (.c (.v (.slice none 0 0))), none⟩])
  (.seq (.seq (.ops [⟨some 3, .mov (.t 0), none⟩,
    ⟨some 4, .isnil false (.t 3), none⟩])
  (.cond (.t 4)
    (.seq (.ops [⟨some 2, .mov (.c (.v (.slice none 0 0))), none⟩])
    .ret)
    .skip))
  (.seq (.ops [⟨some 5, .bslice 1 [(.v (.int .u8 0))] 0 [], none⟩,
    ⟨some 6, .mov (.t 0), none⟩,
    ⟨some 7, .append 1 1 [(.v (.int .u8 0))] (.t 5) (.t 6), none⟩,
    ⟨some 2, .mov (.t 7), none⟩])
  .ret)))⟩ := by kernel_rfl

theorem ir19 : compF Try.prog 19 = some ⟨41, [],
  (.seq (.ops [⟨some 6, .mov (.t 0), none⟩,
    ⟨some 7, .mov (.t 1), none⟩,
    ⟨some 8, .mksl 1 8 [(.v (.int .i64 0))] (.t 7) (.t 7), none⟩,
    ⟨some 9, .nilchk (.t 6), none⟩,
    ⟨some 10, .faddr 0 (.t 9), none⟩,
    ⟨some 11, .faddr 0 (.t 10), none⟩,
    ⟨some 12, .faddr 2 (.t 11), none⟩,
    ⟨none, .store 1 (.t 12) (.t 8), none⟩])
  (.seq (.ops [⟨some 13, .mov (.t 0), none⟩,
    ⟨some 14, .nilchk (.t 13), none⟩,
    ⟨some 15, .faddr 0 (.t 14), none⟩,
    ⟨some 16, .faddr 0 (.t 15), none⟩,
    ⟨some 17, .faddr 1 (.t 16), none⟩,
    ⟨some 18, .load 1 false (.t 17), none⟩,
    ⟨some 19, .len false (.t 18), none⟩,
    ⟨some 20, .mov (.c (.v (.int .i64 0))), none⟩])
  (.block 0 (.loop
    (.seq (.ops [⟨some 21, .bin .lss false (.t 20) (.t 19), none⟩])
    (.seq (.cond (.t 21)
      .skip
      (.exit 0))
    (.seq (.block 1 (.seq (.ops [⟨some 22, .mov (.t 20), none⟩,
      ⟨some 23, .iaddr 1 (.t 18) (.t 20), none⟩,
      ⟨some 24, .load 1 false (.t 23), none⟩,
      ⟨some 4, .mov (.t 22), none⟩,
      ⟨some 5, .mov (.t 24), none⟩])
    (.draw [[⟨some 25, .mov (.t 0), none⟩,
        ⟨some 26, .nilchk (.t 25), none⟩,
        ⟨some 27, .faddr 0 (.t 26), none⟩,
        ⟨some 28, .faddr 0 (.t 27), none⟩,
        ⟨some 29, .faddr 2 (.t 28), none⟩,
        ⟨some 30, .load 1 false (.t 29), none⟩,
        ⟨some 31, .mov (.t 0), none⟩,
        ⟨some 32, .nilchk (.t 31), none⟩,
        ⟨some 33, .faddr 0 (.t 32), none⟩,
        ⟨some 34, .load 3 true (.t 33), none⟩,
        ⟨some 35, .mov (.t 5), none⟩,
        ⟨some 36, .call 21 [(.t 34), (.t 35)], none⟩,
        ⟨some 37, .mov (.t 4), none⟩,
        ⟨some 38, .bin .add false (.t 37) (.c (.v (.int .i64 1))), none⟩],
      [⟨some 39, .iaddr 1 (.t 30) (.t 36), none⟩],
      [⟨none, .store 1 (.t 39) (.t 38), none⟩]])))
    (.ops [⟨some 40, .bin .add false (.t 20) (.c (.v (.int .i64 1))), none⟩,
      ⟨some 20, .mov (.t 40), none⟩]))))))))⟩ := by kernel_rfl

theorem ir20 : compF Try.prog 20 = some ⟨8, [.t 2],
  (.seq (.ops [⟨some 2, .mov (.c (.v (.slice none 0 0))), none⟩])
  (.seq (.seq (.ops [⟨some 3, .mov (.t 0), none⟩,
    ⟨some 4, .isnil false (.t 3), none⟩])
  (.cond (.t 4)
    (.seq (.ops [⟨some 2, .mov (.c (.v (.slice none 0 0))), none⟩])
    .ret)
    .skip))
  (.seq (.ops [⟨some 5, .bslice 1 [(.v (.int .i64 0))] 0 [], none⟩,
    ⟨some 6, .mov (.t 0), none⟩,
    ⟨some 7, .append 1 8 [(.v (.int .i64 0))] (.t 5) (.t 6), none⟩,
    ⟨some 2, .mov (.t 7), none⟩])
  .ret)))⟩ := by kernel_rfl

theorem ir21 : compF Try.prog 21 = some ⟨41, [.t 4],
  (.seq (.ops [⟨some 2, .box (.t 0), none⟩,
    ⟨some 4, .mov (.c (.v (.int .i64 0))), none⟩])
  (.scope 0 (.seq (.draw [[⟨some 7, .mov (.t 1), none⟩,
      ⟨some 8, .call 25 [(.t 7), (.c (.v (.int .u64 0)))], none⟩,
      ⟨some 9, .faddr 0 (.t 2), none⟩,
      ⟨some 10, .faddr 2 (.t 9), none⟩,
      ⟨some 11, .load 1 false (.t 10), none⟩,
      ⟨some 12, .len false (.t 11), none⟩],
    [⟨some 13, .call 24 [(.t 8), (.t 12)], none⟩],
    [⟨some 5, .mov (.t 13), none⟩]])
  (.seq (.label 0)
  (.seq (.ops [⟨some 14, .faddr 0 (.t 2), none⟩,
    ⟨some 15, .faddr 2 (.t 14), none⟩,
    ⟨some 16, .load 1 false (.t 15), none⟩,
    ⟨some 17, .mov (.t 5), none⟩,
    ⟨some 18, .iaddr 1 (.t 16) (.t 17), none⟩,
    ⟨some 19, .load 1 false (.t 18), none⟩,
    ⟨some 6, .mov (.t 19), none⟩])
  (.seq (.seq (.ops [⟨some 20, .mov (.t 6), none⟩,
    ⟨some 21, .bin .eql false (.t 20) (.c (.v (.int .i64 0))), none⟩,
    ⟨some 22, .mov (.t 21), none⟩,
    ⟨some 23, .faddr 0 (.t 2), some (22, false)⟩,
    ⟨some 24, .faddr 1 (.t 23), some (22, false)⟩,
    ⟨some 25, .load 1 false (.t 24), some (22, false)⟩,
    ⟨some 26, .mov (.t 6), some (22, false)⟩,
    ⟨some 27, .bin .sub false (.t 26) (.c (.v (.int .i64 1))), some (22, false)⟩,
    ⟨some 28, .iaddr 1 (.t 25) (.t 27), some (22, false)⟩,
    ⟨some 29, .load 1 false (.t 28), some (22, false)⟩,
    ⟨some 30, .mov (.t 1), some (22, false)⟩,
    ⟨some 31, .call 26 [(.t 29), (.t 30)], some (22, false)⟩,
    ⟨some 32, .pick (.t 22) (.c (.v (.bool true))) (.t 31), none⟩])
  (.cond (.t 32)
    (.seq (.ops [⟨some 33, .mov (.t 5), none⟩,
      ⟨some 4, .mov (.t 33), none⟩])
    .ret)
    .skip))
  (.seq (.ops [⟨some 34, .mov (.t 5), none⟩,
    ⟨some 35, .bin .add false (.t 34) (.c (.v (.int .i64 1))), none⟩,
    ⟨some 36, .faddr 0 (.t 2), none⟩,
    ⟨some 37, .faddr 2 (.t 36), none⟩,
    ⟨some 38, .load 1 false (.t 37), none⟩,
    ⟨some 39, .len false (.t 38), none⟩,
    ⟨some 40, .bin .rem false (.t 35) (.t 39), none⟩,
    ⟨some 5, .mov (.t 40), none⟩])
  (.goto 0))))))
    (.seq .skip
    (.seq (.ops [⟨some 14, .faddr 0 (.t 2), none⟩,
      ⟨some 15, .faddr 2 (.t 14), none⟩,
      ⟨some 16, .load 1 false (.t 15), none⟩,
      ⟨some 17, .mov (.t 5), none⟩,
      ⟨some 18, .iaddr 1 (.t 16) (.t 17), none⟩,
      ⟨some 19, .load 1 false (.t 18), none⟩,
      ⟨some 6, .mov (.t 19), none⟩])
    (.seq (.seq (.ops [⟨some 20, .mov (.t 6), none⟩,
      ⟨some 21, .bin .eql false (.t 20) (.c (.v (.int .i64 0))), none⟩,
      ⟨some 22, .mov (.t 21), none⟩,
      ⟨some 23, .faddr 0 (.t 2), some (22, false)⟩,
      ⟨some 24, .faddr 1 (.t 23), some (22, false)⟩,
      ⟨some 25, .load 1 false (.t 24), some (22, false)⟩,
      ⟨some 26, .mov (.t 6), some (22, false)⟩,
      ⟨some 27, .bin .sub false (.t 26) (.c (.v (.int .i64 1))), some (22, false)⟩,
      ⟨some 28, .iaddr 1 (.t 25) (.t 27), some (22, false)⟩,
      ⟨some 29, .load 1 false (.t 28), some (22, false)⟩,
      ⟨some 30, .mov (.t 1), some (22, false)⟩,
      ⟨some 31, .call 26 [(.t 29), (.t 30)], some (22, false)⟩,
      ⟨some 32, .pick (.t 22) (.c (.v (.bool true))) (.t 31), none⟩])
    (.cond (.t 32)
      (.seq (.ops [⟨some 33, .mov (.t 5), none⟩,
        ⟨some 4, .mov (.t 33), none⟩])
      .ret)
      .skip))
    (.seq (.ops [⟨some 34, .mov (.t 5), none⟩,
      ⟨some 35, .bin .add false (.t 34) (.c (.v (.int .i64 1))), none⟩,
      ⟨some 36, .faddr 0 (.t 2), none⟩,
      ⟨some 37, .faddr 2 (.t 36), none⟩,
      ⟨some 38, .load 1 false (.t 37), none⟩,
      ⟨some 39, .len false (.t 38), none⟩,
      ⟨some 40, .bin .rem false (.t 35) (.t 39), none⟩,
      ⟨some 5, .mov (.t 40), none⟩])
    (.goto 0)))))))⟩ := by kernel_rfl

theorem ir22 : compF Try.prog 22 = some ⟨25, [.t 4, .t 5],
  (.seq (.ops [⟨some 2, .box (.t 0), none⟩,
    ⟨some 4, .mov (.c (.v (.int .i64 0))), none⟩,
    ⟨some 5, .mov (.c (.v (.bool false))), none⟩])
  (.seq (.seq (.ops [⟨some 7, .faddr 0 (.t 2), none⟩,
    ⟨some 8, .faddr 2 (.t 7), none⟩,
    ⟨some 9, .load 1 false (.t 8), none⟩,
    ⟨some 10, .len false (.t 9), none⟩,
    ⟨some 11, .bin .eql false (.t 10) (.c (.v (.int .i64 0))), none⟩])
  (.cond (.t 11)
    (.seq (.ops [⟨some 4, .mov (.c (.v (.int .i64 0))), none⟩,
      ⟨some 5, .mov (.c (.v (.bool false))), none⟩])
    .ret)
    .skip))
  (.seq (.draw [[⟨some 12, .faddr 0 (.t 2), none⟩,
      ⟨some 13, .faddr 2 (.t 12), none⟩,
      ⟨some 14, .load 1 false (.t 13), none⟩,
      ⟨some 15, .load 3 true (.t 2), none⟩,
      ⟨some 16, .mov (.t 1), none⟩,
      ⟨some 17, .call 21 [(.t 15), (.t 16)], none⟩],
    [⟨some 18, .iaddr 1 (.t 14) (.t 17), none⟩],
    [⟨some 19, .load 1 false (.t 18), none⟩],
    [⟨some 6, .mov (.t 19), none⟩]])
  (.seq (.ops [⟨some 20, .mov (.t 6), none⟩,
    ⟨some 21, .bin .sub false (.t 20) (.c (.v (.int .i64 1))), none⟩,
    ⟨some 22, .mm true (.t 21) [(.c (.v (.int .i64 0)))], none⟩,
    ⟨some 23, .mov (.t 6), none⟩,
    ⟨some 24, .bin .gtr false (.t 23) (.c (.v (.int .i64 0))), none⟩,
    ⟨some 4, .mov (.t 22), none⟩,
    ⟨some 5, .mov (.t 24), none⟩])
  .ret))))⟩ := by kernel_rfl

theorem ir23 : compF Try.prog 23 = some ⟨8, [.t 2],
  (.seq (.ops [⟨some 2, .mov (.c (.v (.slice none 0 0))), none⟩])
  (.seq (.seq (.ops [⟨some 3, .mov (.t 0), none⟩,
    ⟨some 4, .isnil false (.t 3), none⟩])
  (.cond (.t 4)
    (.seq (.ops [⟨some 2, .mov (.c (.v (.slice none 0 0))), none⟩])
    .ret)
    .skip))
  (.seq (.ops [⟨some 5, .bslice 1 [(.v (.slice none 0 0))] 0 [], none⟩,
    ⟨some 6, .mov (.t 0), none⟩,
    ⟨some 7, .append 1 24 [(.v (.slice none 0 0))] (.t 5) (.t 6), none⟩,
    ⟨some 2, .mov (.t 7), none⟩])
  .ret)))⟩ := by kernel_rfl

theorem ir24 : compF Try.prog 24 = some ⟨12, [.t 4],
  (.seq (.ops [⟨some 4, .mov (.c (.v (.int .i64 0))), none⟩])
  (.seq (.seq (.ops [⟨some 5, .mov (.t 1), none⟩,
    ⟨some 6, .bin .lss false (.t 5) (.c (.v (.int .i64 1))), none⟩])
  (.cond (.t 6)
    (.seq (.ops [⟨some 4, .mov (.c (.v (.int .i64 0))), none⟩])
    .ret)
    .skip))
  (.seq (.ops [⟨some 7, .mov (.t 0), none⟩,
    ⟨some 8, .mov (.t 1), none⟩,
    ⟨some 9, .conv .u64 (.t 8), none⟩,
    ⟨some 10, .bin .rem false (.t 7) (.t 9), none⟩,
    ⟨some 11, .conv .i64 (.t 10), none⟩,
    ⟨some 4, .mov (.t 11), none⟩])
  .ret)))⟩ := by kernel_rfl

theorem ir25 : compF Try.prog 25 = some ⟨37, [.t 4],
  (.seq (.ops [⟨some 4, .mov (.c (.v (.int .u64 0))), none⟩])
  (.seq (.ops [⟨some 11, .mov (.t 1), none⟩,
    ⟨some 12, .bin .xor false (.t 11) (.c (.v (.int .u64 11400714819323198485))), none⟩,
    ⟨some 5, .alloc (.v (.int .u64 0)), none⟩,
    ⟨none, .store 1 (.t 5) (.t 12), none⟩])
  (.seq (.seq (.ops [⟨some 13, .mov (.t 0), none⟩,
    ⟨some 14, .len false (.t 13), none⟩,
    ⟨some 15, .mov (.c (.v (.int .i64 0))), none⟩])
  (.block 0 (.loop
    (.seq (.ops [⟨some 16, .bin .lss false (.t 15) (.t 14), none⟩])
    (.seq (.cond (.t 16)
      .skip
      (.exit 0))
    (.seq (.block 1 (.seq (.ops [⟨some 17, .iaddr 1 (.t 13) (.t 15), none⟩,
      ⟨some 18, .load 1 false (.t 17), none⟩,
      ⟨some 7, .mov (.t 18), none⟩])
    (.ops [⟨some 19, .load 1 false (.t 5), none⟩,
      ⟨some 20, .mov (.t 7), none⟩,
      ⟨some 21, .conv .u64 (.t 20), none⟩,
      ⟨some 22, .bin .xor false (.t 19) (.t 21), none⟩,
      ⟨some 23, .bin .mul false (.t 22) (.c (.v (.int .u64 1099511628211))), none⟩,
      ⟨none, .store 1 (.t 5) (.t 23), none⟩])))
    (.ops [⟨some 24, .bin .add false (.t 15) (.c (.v (.int .i64 1))), none⟩,
      ⟨some 15, .mov (.t 24), none⟩])))))))
  (.seq (.ops [⟨some 25, .mkfn (.func 27) [] [(.t 5)], none⟩,
    ⟨some 26, .mkfn (.func 28) [] [(.t 5)], none⟩,
    ⟨some 27, .mkfn (.func 29) [] [(.t 5)], none⟩,
    ⟨some 28, .build [(.v .nilFunc), (.v .nilFunc), (.v .nilFunc)] [(0, 1, (.t 25)), (1, 1, (.t 26)), (2, 1, (.t 27))], none⟩,
    ⟨some 8, .alloc (.agg [(.v .nilFunc), (.v .nilFunc), (.v .nilFunc)]), none⟩,
    ⟨none, .store 3 (.t 8) (.t 28), none⟩])
  (.seq (.seq (.ops [⟨some 29, .load 3 true (.t 8), none⟩,
    ⟨some 30, .mov (.c (.v (.int .i64 0))), none⟩])
  (.block 2 (.loop
    (.seq (.ops [⟨some 31, .bin .lss false (.t 30) (.c (.v (.int .i64 3))), none⟩])
    (.seq (.cond (.t 31)
      .skip
      (.exit 2))
    (.seq (.block 3 (.seq (.ops [⟨some 32, .idx 3 1 false (.t 29) (.t 30), none⟩,
      ⟨some 10, .mov (.t 32), none⟩])
    (.ops [⟨some 33, .mov (.t 10), none⟩,
      ⟨some 34, .calld (.t 33) [], none⟩])))
    (.ops [⟨some 35, .bin .add false (.t 30) (.c (.v (.int .i64 1))), none⟩,
      ⟨some 30, .mov (.t 35), none⟩])))))))
  (.seq (.ops [⟨some 36, .load 1 false (.t 5), none⟩,
    ⟨some 4, .mov (.t 36), none⟩])
  .ret))))))⟩ := by kernel_rfl

theorem ir26 : compF Try.prog 26 = some ⟨10, [.t 4],
  (.seq (.ops [⟨some 4, .mov (.c (.v (.bool false))), none⟩])
  (.seq (.ops [⟨some 5, .mov (.t 0), none⟩,
    ⟨some 6, .b2s (.t 5), none⟩,
    ⟨some 7, .mov (.t 1), none⟩,
    ⟨some 8, .b2s (.t 7), none⟩,
    ⟨some 9, .bin .eql false (.t 6) (.t 8), none⟩,
    ⟨some 4, .mov (.t 9), none⟩])
  .ret))⟩ := by kernel_rfl

theorem ir27 : compF Try.prog 27 = some ⟨5, [],
  (.ops [⟨some 1, .load 1 false (.t 0), none⟩,
    ⟨some 2, .load 1 false (.t 0), none⟩,
    ⟨some 3, .bin .shr false (.t 2) (.c (.v (.int .u64 29))), none⟩,
    ⟨some 4, .bin .xor false (.t 1) (.t 3), none⟩,
    ⟨none, .store 1 (.t 0) (.t 4), none⟩])⟩ := by kernel_rfl

theorem ir28 : compF Try.prog 28 = some ⟨3, [],
  (.ops [⟨some 1, .load 1 false (.t 0), none⟩,
    ⟨some 2, .bin .mul false (.t 1) (.c (.v (.int .u64 13787848793156543929))), none⟩,
    ⟨none, .store 1 (.t 0) (.t 2), none⟩])⟩ := by kernel_rfl

theorem ir29 : compF Try.prog 29 = some ⟨5, [],
  (.ops [⟨some 1, .load 1 false (.t 0), none⟩,
    ⟨some 2, .load 1 false (.t 0), none⟩,
    ⟨some 3, .bin .shr false (.t 2) (.c (.v (.int .u64 32))), none⟩,
    ⟨some 4, .bin .xor false (.t 1) (.t 3), none⟩,
    ⟨none, .store 1 (.t 0) (.t 4), none⟩])⟩ := by kernel_rfl

end Go.Proofs.Ytjaokhpjdikflaa
