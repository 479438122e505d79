/- The functions of the program in the small language. -/
import Derived.Test.YtblhaolmoekjhaaLgNX
import Derived.Test.YtblhaolmoekjhaaChecked
namespace Go.Proofs.Ytblhaolmoekjhaa
open Go Lg

set_option maxRecDepth 100000 in
theorem ir3 : compF Try.prog 3 = some ⟨189, [.t 6],
  (.seq (.ops [⟨some 6, .mov (.c (.v (.bool false))), none⟩])
  (.seq (.ops [⟨some 32, .call 7 [], none⟩,
    ⟨some 7, .mov (.t 32), none⟩])
  (.seq (.seq (.ops [⟨some 33, .mov (.t 0), none⟩,
    ⟨some 34, .call 8 [(.t 33)], none⟩,
    ⟨some 35, .un .not (.t 34), none⟩,
    ⟨some 36, .mov (.t 35), none⟩,
    ⟨some 37, .mov (.t 2), some (36, false)⟩,
    ⟨some 38, .call 9 [(.t 37), (.c (.v (.int .i64 50)))], some (36, false)⟩,
    ⟨some 39, .un .not (.t 38), some (36, false)⟩,
    ⟨some 40, .pick (.t 36) (.c (.v (.bool true))) (.t 39), none⟩])
  (.cond (.t 40)
    (.seq (.ops [⟨some 41, .mov (.t 7), none⟩,
      ⟨some 6, .mov (.t 41), none⟩])
    .ret)
    .skip))
  (.seq (.ops [⟨some 43, .mov (.t 0), none⟩,
    ⟨some 44, .mov (.t 1), none⟩,
    ⟨some 45, .call 10 [(.t 43), (.t 44)], none⟩,
    ⟨some 42, .mov (.t 45), none⟩,
    ⟨some 46, .extract (.t 42) 0, none⟩,
    ⟨some 47, .extract (.t 42) 1, none⟩,
    ⟨some 8, .alloc (.agg [(.v (.slice none 0 0)), (.v (.int .i64 0)), (.v (.slice none 0 0)), (.v (.slice none 0 0)), (.v (.slice none 0 0))]), none⟩,
    ⟨none, .store 5 (.t 8) (.t 46), none⟩,
    ⟨some 9, .mov (.t 47), none⟩])
  (.seq (.ops [⟨some 49, .mov (.t 0), none⟩,
    ⟨some 50, .mov (.t 1), none⟩,
    ⟨some 51, .call 11 [(.t 49), (.t 50)], none⟩,
    ⟨some 48, .mov (.t 51), none⟩,
    ⟨some 52, .extract (.t 48) 0, none⟩,
    ⟨some 53, .extract (.t 48) 1, none⟩,
    ⟨some 10, .alloc (.agg [(.v (.slice none 0 0)), (.v (.int .i64 0)), (.v (.slice none 0 0)), (.v (.slice none 0 0))]), none⟩,
    ⟨none, .store 4 (.t 10) (.t 52), none⟩,
    ⟨some 11, .mov (.t 53), none⟩])
  (.seq (.seq (.ops [⟨some 54, .mov (.t 9), none⟩,
    ⟨some 55, .mov (.t 11), none⟩,
    ⟨some 56, .bin .neq false (.t 54) (.t 55), none⟩])
  (.cond (.t 56)
    (.seq (.ops [⟨some 6, .mov (.c (.v (.bool false))), none⟩])
    .ret)
    .skip))
  (.seq (.seq (.ops [⟨some 57, .mov (.t 11), none⟩,
    ⟨some 58, .bin .neq false (.t 57) (.c (.v (.int .i64 0))), none⟩])
  (.cond (.t 58)
    (.seq (.ops [⟨some 59, .mov (.t 7), none⟩,
      ⟨some 6, .mov (.t 59), none⟩])
    .ret)
    .skip))
  (.seq (.seq (.ops [⟨some 12, .mov (.c (.v (.int .i64 0))), none⟩])
  (.block 0 (.loop
    (.seq (.seq (.ops [⟨some 60, .mov (.t 12), none⟩,
      ⟨some 61, .mov (.t 2), none⟩,
      ⟨some 62, .len false (.t 61), none⟩,
      ⟨some 63, .bin .lss false (.t 60) (.t 62), none⟩])
    (.cond (.t 63)
      .skip
      (.exit 0)))
    (.seq (.block 1 (.seq (.ops [⟨some 66, .mov (.t 2), none⟩,
      ⟨some 67, .mov (.t 12), none⟩,
      ⟨some 68, .iaddr 3 (.t 66) (.t 67), none⟩,
      ⟨some 69, .load 3 true (.t 68), none⟩,
      ⟨some 13, .alloc (.agg [(.v (.int .u8 0)), (.v (.slice none 0 0)), (.v (.int .i64 0))]), none⟩,
      ⟨none, .store 3 (.t 13) (.t 69), none⟩])
    (.seq (.seq (.ops [⟨some 70, .faddr 0 (.t 13), none⟩,
      ⟨some 71, .load 1 false (.t 70), none⟩,
      ⟨some 72, .bin .rem false (.t 71) (.c (.v (.int .u8 3))), none⟩])
    (.block 2 (.seq (.ops [⟨some 74, .bin .eql false (.t 72) (.c (.v (.int .u8 0))), none⟩,
      ⟨some 73, .mov (.t 74), none⟩])
    (.cond (.t 73)
      (.seq (.ops [⟨some 76, .load 5 true (.t 8), none⟩,
        ⟨some 77, .mov (.t 0), none⟩,
        ⟨some 78, .faddr 1 (.t 13), none⟩,
        ⟨some 79, .load 1 false (.t 78), none⟩,
        ⟨some 80, .call 12 [(.t 76), (.t 77), (.t 79)], none⟩,
        ⟨some 75, .mov (.t 80), none⟩,
        ⟨some 81, .extract (.t 75) 0, none⟩,
        ⟨some 82, .extract (.t 75) 1, none⟩,
        ⟨some 83, .extract (.t 75) 2, none⟩,
        ⟨some 14, .alloc (.agg [(.v (.slice none 0 0)), (.v (.int .i64 0)), (.v (.slice none 0 0)), (.v (.slice none 0 0)), (.v (.slice none 0 0))]), none⟩,
        ⟨none, .store 5 (.t 14) (.t 81), none⟩,
        ⟨some 15, .mov (.t 82), none⟩,
        ⟨some 16, .mov (.t 83), none⟩])
      (.seq (.ops [⟨some 85, .load 4 true (.t 10), none⟩,
        ⟨some 86, .faddr 1 (.t 13), none⟩,
        ⟨some 87, .load 1 false (.t 86), none⟩,
        ⟨some 88, .call 13 [(.t 85), (.t 87)], none⟩,
        ⟨some 84, .mov (.t 88), none⟩,
        ⟨some 89, .extract (.t 84) 0, none⟩,
        ⟨some 90, .extract (.t 84) 1, none⟩,
        ⟨some 91, .extract (.t 84) 2, none⟩,
        ⟨some 17, .alloc (.agg [(.v (.slice none 0 0)), (.v (.int .i64 0)), (.v (.slice none 0 0)), (.v (.slice none 0 0))]), none⟩,
        ⟨none, .store 4 (.t 17) (.t 89), none⟩,
        ⟨some 18, .mov (.t 90), none⟩,
        ⟨some 19, .mov (.t 91), none⟩])
      (.seq (.seq (.ops [⟨some 92, .mov (.t 15), none⟩,
        ⟨some 93, .mov (.t 18), none⟩,
        ⟨some 94, .bin .neq true (.t 92) (.t 93), none⟩,
        ⟨some 95, .mov (.t 94), none⟩,
        ⟨some 96, .mov (.t 16), some (95, false)⟩,
        ⟨some 97, .mov (.t 19), some (95, false)⟩,
        ⟨some 98, .bin .neq false (.t 96) (.t 97), some (95, false)⟩,
        ⟨some 99, .pick (.t 95) (.c (.v (.bool true))) (.t 98), none⟩])
      (.cond (.t 99)
        (.seq (.ops [⟨some 6, .mov (.c (.v (.bool false))), none⟩])
        .ret)
        .skip))
      (.seq (.ops [⟨some 100, .load 5 true (.t 14), none⟩,
        ⟨none, .store 5 (.t 8) (.t 100), none⟩])
      (.ops [⟨some 101, .load 4 true (.t 17), none⟩,
        ⟨none, .store 4 (.t 10) (.t 101), none⟩])))))
      (.seq (.ops [⟨some 103, .bin .eql false (.t 72) (.c (.v (.int .u8 1))), none⟩,
        ⟨some 102, .mov (.t 103), none⟩])
      (.cond (.t 102)
        (.seq (.ops [⟨some 105, .load 5 true (.t 8), none⟩,
          ⟨some 106, .mov (.t 0), none⟩,
          ⟨some 107, .faddr 1 (.t 13), none⟩,
          ⟨some 108, .load 1 false (.t 107), none⟩,
          ⟨some 109, .faddr 2 (.t 13), none⟩,
          ⟨some 110, .load 1 false (.t 109), none⟩,
          ⟨some 111, .call 14 [(.t 105), (.t 106), (.t 108), (.t 110)], none⟩,
          ⟨some 104, .mov (.t 111), none⟩,
          ⟨some 112, .extract (.t 104) 0, none⟩,
          ⟨some 113, .extract (.t 104) 1, none⟩,
          ⟨some 20, .alloc (.agg [(.v (.slice none 0 0)), (.v (.int .i64 0)), (.v (.slice none 0 0)), (.v (.slice none 0 0)), (.v (.slice none 0 0))]), none⟩,
          ⟨none, .store 5 (.t 20) (.t 112), none⟩,
          ⟨some 21, .mov (.t 113), none⟩])
        (.seq (.ops [⟨some 115, .load 4 true (.t 10), none⟩,
          ⟨some 116, .faddr 1 (.t 13), none⟩,
          ⟨some 117, .load 1 false (.t 116), none⟩,
          ⟨some 118, .faddr 2 (.t 13), none⟩,
          ⟨some 119, .load 1 false (.t 118), none⟩,
          ⟨some 120, .call 15 [(.t 115), (.t 117), (.t 119)], none⟩,
          ⟨some 114, .mov (.t 120), none⟩,
          ⟨some 121, .extract (.t 114) 0, none⟩,
          ⟨some 122, .extract (.t 114) 1, none⟩,
          ⟨some 22, .alloc (.agg [(.v (.slice none 0 0)), (.v (.int .i64 0)), (.v (.slice none 0 0)), (.v (.slice none 0 0))]), none⟩,
          ⟨none, .store 4 (.t 22) (.t 121), none⟩,
          ⟨some 23, .mov (.t 122), none⟩])
        (.seq (.seq (.ops [⟨some 123, .mov (.t 21), none⟩,
          ⟨some 124, .mov (.t 23), none⟩,
          ⟨some 125, .bin .neq false (.t 123) (.t 124), none⟩])
        (.cond (.t 125)
          (.seq (.ops [⟨some 6, .mov (.c (.v (.bool false))), none⟩])
          .ret)
          .skip))
        (.seq (.ops [⟨some 126, .load 5 true (.t 20), none⟩,
          ⟨none, .store 5 (.t 8) (.t 126), none⟩])
        (.ops [⟨some 127, .load 4 true (.t 22), none⟩,
          ⟨none, .store 4 (.t 10) (.t 127), none⟩])))))
        (.seq (.ops [⟨some 129, .bin .eql false (.t 72) (.c (.v (.int .u8 2))), none⟩,
          ⟨some 128, .mov (.t 129), none⟩])
        (.cond (.t 128)
          (.seq (.ops [⟨some 131, .load 5 true (.t 8), none⟩,
            ⟨some 132, .mov (.t 0), none⟩,
            ⟨some 133, .faddr 1 (.t 13), none⟩,
            ⟨some 134, .load 1 false (.t 133), none⟩,
            ⟨some 135, .faddr 2 (.t 13), none⟩,
            ⟨some 136, .load 1 false (.t 135), none⟩,
            ⟨some 137, .call 16 [(.t 131), (.t 132), (.t 134), (.t 136)], none⟩,
            ⟨some 130, .mov (.t 137), none⟩,
            ⟨some 138, .extract (.t 130) 0, none⟩,
            ⟨some 139, .extract (.t 130) 1, none⟩,
            ⟨some 24, .mov (.t 138), none⟩,
            ⟨some 25, .mov (.t 139), none⟩])
          (.seq (.ops [⟨some 141, .load 4 true (.t 10), none⟩,
            ⟨some 142, .faddr 1 (.t 13), none⟩,
            ⟨some 143, .load 1 false (.t 142), none⟩,
            ⟨some 144, .faddr 2 (.t 13), none⟩,
            ⟨some 145, .load 1 false (.t 144), none⟩,
            ⟨some 146, .call 17 [(.t 141), (.t 143), (.t 145)], none⟩,
            ⟨some 140, .mov (.t 146), none⟩,
            ⟨some 147, .extract (.t 140) 0, none⟩,
            ⟨some 148, .extract (.t 140) 1, none⟩,
            ⟨some 26, .mov (.t 147), none⟩,
            ⟨some 27, .mov (.t 148), none⟩])
          (.seq (.ops [⟨some 149, .mov (.t 24), none⟩,
            ⟨some 150, .mov (.t 26), none⟩,
            ⟨some 151, .bin .neq true (.t 149) (.t 150), none⟩,
            ⟨some 152, .mov (.t 151), none⟩,
            ⟨some 153, .mov (.t 25), some (152, false)⟩,
            ⟨some 154, .mov (.t 27), some (152, false)⟩,
            ⟨some 155, .bin .neq false (.t 153) (.t 154), some (152, false)⟩,
            ⟨some 156, .pick (.t 152) (.c (.v (.bool true))) (.t 155), none⟩])
          (.cond (.t 156)
            (.seq (.ops [⟨some 6, .mov (.c (.v (.bool false))), none⟩])
            .ret)
            .skip))))
          .skip))))))))
    (.seq (.ops [⟨some 158, .load 5 true (.t 8), none⟩,
      ⟨some 159, .mov (.t 0), none⟩,
      ⟨some 160, .faddr 1 (.t 13), none⟩,
      ⟨some 161, .load 1 false (.t 160), none⟩,
      ⟨some 162, .call 18 [(.t 158), (.t 159), (.t 161)], none⟩,
      ⟨some 157, .mov (.t 162), none⟩,
      ⟨some 163, .extract (.t 157) 0, none⟩,
      ⟨some 164, .extract (.t 157) 1, none⟩,
      ⟨some 28, .mov (.t 163), none⟩,
      ⟨some 29, .mov (.t 164), none⟩])
    (.seq (.ops [⟨some 166, .load 4 true (.t 10), none⟩,
      ⟨some 167, .faddr 1 (.t 13), none⟩,
      ⟨some 168, .load 1 false (.t 167), none⟩,
      ⟨some 169, .call 19 [(.t 166), (.t 168)], none⟩,
      ⟨some 165, .mov (.t 169), none⟩,
      ⟨some 170, .extract (.t 165) 0, none⟩,
      ⟨some 171, .extract (.t 165) 1, none⟩,
      ⟨some 30, .mov (.t 170), none⟩,
      ⟨some 31, .mov (.t 171), none⟩])
    (.seq (.draw [[⟨some 172, .mov (.t 28), none⟩,
        ⟨some 173, .mov (.t 30), none⟩],
      [⟨some 174, .bin .neq true (.t 172) (.t 173), none⟩],
      [⟨some 175, .mov (.t 174), none⟩],
      [⟨some 176, .mov (.t 29), some (175, false)⟩,
        ⟨some 177, .mov (.t 31), some (175, false)⟩],
      [⟨some 178, .bin .neq false (.t 176) (.t 177), some (175, false)⟩],
      [⟨some 179, .pick (.t 175) (.c (.v (.bool true))) (.t 178), none⟩],
      [⟨some 180, .mov (.t 179), none⟩],
      [⟨some 181, .load 5 true (.t 8), some (180, false)⟩,
        ⟨some 182, .call 20 [(.t 181)], some (180, false)⟩,
        ⟨some 183, .faddr 2 (.t 10), some (180, false)⟩,
        ⟨some 184, .load 1 false (.t 183), some (180, false)⟩,
        ⟨some 185, .len false (.t 184), some (180, false)⟩],
      [⟨some 186, .bin .neq false (.t 182) (.t 185), some (180, false)⟩],
      [⟨some 187, .pick (.t 180) (.c (.v (.bool true))) (.t 186), none⟩]])
    (.cond (.t 187)
      (.seq (.ops [⟨some 6, .mov (.c (.v (.bool false))), none⟩])
      .ret)
      .skip)))))))
    (.ops [⟨some 64, .mov (.t 12), none⟩,
      ⟨some 65, .bin .add false (.t 64) (.c (.v (.int .i64 1))), none⟩,
      ⟨some 12, .mov (.t 65), none⟩]))))))
  (.seq (.ops [⟨some 188, .mov (.t 7), none⟩,
    ⟨some 6, .mov (.t 188), none⟩])
  .ret)))))))))⟩ := by kernel_rfl

set_option maxRecDepth 100000 in
theorem ir4 : compF Try.prog 4 = some ⟨108, [.t 6],
  (.seq (.ops [⟨some 6, .mov (.c (.v (.bool false))), none⟩])
  (.seq (.ops [⟨some 20, .call 7 [], none⟩,
    ⟨some 7, .mov (.t 20), none⟩])
  (.seq (.seq (.ops [⟨some 21, .mov (.t 0), none⟩,
    ⟨some 22, .call 8 [(.t 21)], none⟩,
    ⟨some 23, .un .not (.t 22), none⟩,
    ⟨some 24, .mov (.t 23), none⟩,
    ⟨some 25, .mov (.t 2), some (24, false)⟩,
    ⟨some 26, .len false (.t 25), some (24, false)⟩,
    ⟨some 27, .bin .gtr false (.t 26) (.c (.v (.int .i64 40))), some (24, false)⟩,
    ⟨some 28, .pick (.t 24) (.c (.v (.bool true))) (.t 27), none⟩])
  (.cond (.t 28)
    (.seq (.ops [⟨some 29, .mov (.t 7), none⟩,
      ⟨some 6, .mov (.t 29), none⟩])
    .ret)
    .skip))
  (.seq (.ops [⟨some 30, .mov (.t 1), none⟩,
    ⟨some 31, .conv .i64 (.t 30), none⟩,
    ⟨some 32, .bin .rem false (.t 31) (.c (.v (.int .i64 31))), none⟩,
    ⟨some 8, .mov (.t 32), none⟩])
  (.seq (.ops [⟨some 34, .mov (.t 0), none⟩,
    ⟨some 35, .mov (.t 8), none⟩,
    ⟨some 36, .call 10 [(.t 34), (.t 35)], none⟩,
    ⟨some 33, .mov (.t 36), none⟩,
    ⟨some 37, .extract (.t 33) 0, none⟩,
    ⟨some 38, .extract (.t 33) 1, none⟩,
    ⟨some 9, .alloc (.agg [(.v (.slice none 0 0)), (.v (.int .i64 0)), (.v (.slice none 0 0)), (.v (.slice none 0 0)), (.v (.slice none 0 0))]), none⟩,
    ⟨none, .store 5 (.t 9) (.t 37), none⟩,
    ⟨some 10, .mov (.t 38), none⟩])
  (.seq (.ops [⟨some 40, .mov (.t 0), none⟩,
    ⟨some 41, .mov (.t 8), none⟩,
    ⟨some 42, .call 11 [(.t 40), (.t 41)], none⟩,
    ⟨some 39, .mov (.t 42), none⟩,
    ⟨some 43, .extract (.t 39) 0, none⟩,
    ⟨some 44, .extract (.t 39) 1, none⟩,
    ⟨some 11, .alloc (.agg [(.v (.slice none 0 0)), (.v (.int .i64 0)), (.v (.slice none 0 0)), (.v (.slice none 0 0))]), none⟩,
    ⟨none, .store 4 (.t 11) (.t 43), none⟩,
    ⟨some 12, .mov (.t 44), none⟩])
  (.seq (.seq (.ops [⟨some 13, .mov (.c (.v (.int .i64 0))), none⟩])
  (.block 0 (.loop
    (.seq (.seq (.ops [⟨some 45, .mov (.t 13), none⟩,
      ⟨some 46, .mov (.t 2), none⟩,
      ⟨some 47, .len false (.t 46), none⟩,
      ⟨some 48, .bin .lss false (.t 45) (.t 47), none⟩])
    (.cond (.t 48)
      .skip
      (.exit 0)))
    (.seq (.block 1 (.seq (.seq (.ops [⟨some 51, .mov (.t 2), none⟩,
      ⟨some 52, .mov (.t 13), none⟩,
      ⟨some 53, .iaddr 1 (.t 51) (.t 52), none⟩,
      ⟨some 54, .load 1 false (.t 53), none⟩,
      ⟨some 55, .len false (.t 54), none⟩,
      ⟨some 56, .bin .gtr false (.t 55) (.c (.v (.int .i64 40))), none⟩])
    (.cond (.t 56)
      (.seq (.ops [⟨some 57, .mov (.t 7), none⟩,
        ⟨some 6, .mov (.t 57), none⟩])
      .ret)
      .skip))
    (.seq (.draw [[⟨some 59, .load 5 true (.t 9), none⟩,
        ⟨some 60, .mov (.t 0), none⟩,
        ⟨some 61, .mov (.t 2), none⟩,
        ⟨some 62, .mov (.t 13), none⟩,
        ⟨some 63, .iaddr 1 (.t 61) (.t 62), none⟩,
        ⟨some 64, .load 1 false (.t 63), none⟩,
        ⟨some 65, .call 12 [(.t 59), (.t 60), (.t 64)], none⟩,
        ⟨some 58, .mov (.t 65), none⟩,
        ⟨some 66, .extract (.t 58) 0, none⟩,
        ⟨some 67, .extract (.t 58) 1, none⟩,
        ⟨some 68, .extract (.t 58) 2, none⟩,
        ⟨some 14, .alloc (.agg [(.v (.slice none 0 0)), (.v (.int .i64 0)), (.v (.slice none 0 0)), (.v (.slice none 0 0)), (.v (.slice none 0 0))]), none⟩,
        ⟨none, .store 5 (.t 14) (.t 66), none⟩,
        ⟨some 15, .mov (.t 67), none⟩],
      [⟨some 16, .mov (.t 68), none⟩]])
    (.seq (.seq (.ops [⟨some 69, .mov (.t 15), none⟩])
    (.cond (.t 69)
      (.seq (.draw [[⟨some 71, .load 4 true (.t 11), none⟩,
          ⟨some 72, .mov (.t 2), none⟩,
          ⟨some 73, .mov (.t 13), none⟩,
          ⟨some 74, .iaddr 1 (.t 72) (.t 73), none⟩,
          ⟨some 75, .load 1 false (.t 74), none⟩,
          ⟨some 76, .call 13 [(.t 71), (.t 75)], none⟩,
          ⟨some 70, .mov (.t 76), none⟩,
          ⟨some 77, .extract (.t 70) 0, none⟩,
          ⟨some 78, .extract (.t 70) 1, none⟩,
          ⟨some 79, .extract (.t 70) 2, none⟩,
          ⟨some 17, .alloc (.agg [(.v (.slice none 0 0)), (.v (.int .i64 0)), (.v (.slice none 0 0)), (.v (.slice none 0 0))]), none⟩,
          ⟨none, .store 4 (.t 17) (.t 77), none⟩,
          ⟨some 18, .mov (.t 78), none⟩],
        [⟨some 19, .mov (.t 79), none⟩]])
      (.ops [⟨some 80, .load 4 true (.t 17), none⟩,
        ⟨none, .store 4 (.t 11) (.t 80), none⟩]))
      .skip))
    (.seq (.seq (.draw [[⟨some 81, .mov (.t 15), none⟩],
      [⟨some 82, .mov (.t 81), none⟩],
      [⟨some 83, .mov (.t 16), some (82, true)⟩],
      [⟨some 84, .bin .neq false (.t 83) (.c (.v (.int .i64 0))), some (82, true)⟩],
      [⟨some 85, .pick (.t 82) (.t 84) (.c (.v (.bool false))), none⟩],
      [⟨some 86, .mov (.t 85), none⟩],
      [⟨some 87, .load 5 true (.t 14), some (86, false)⟩,
        ⟨some 88, .call 22 [(.t 87)], some (86, false)⟩,
        ⟨some 89, .load 4 true (.t 11), some (86, false)⟩],
      [⟨some 90, .call 23 [(.t 89)], some (86, false)⟩],
      [⟨some 91, .call 21 [(.t 88), (.t 90)], some (86, false)⟩],
      [⟨some 92, .un .not (.t 91), some (86, false)⟩],
      [⟨some 93, .pick (.t 86) (.c (.v (.bool true))) (.t 92), none⟩]])
    (.cond (.t 93)
      (.seq (.ops [⟨some 6, .mov (.c (.v (.bool false))), none⟩])
      .ret)
      .skip))
    (.ops [⟨some 94, .load 5 true (.t 14), none⟩,
      ⟨none, .store 5 (.t 9) (.t 94), none⟩]))))))
    (.ops [⟨some 49, .mov (.t 13), none⟩,
      ⟨some 50, .bin .add false (.t 49) (.c (.v (.int .i64 1))), none⟩,
      ⟨some 13, .mov (.t 50), none⟩]))))))
  (.seq (.draw [[⟨some 95, .mov (.t 7), none⟩],
    [⟨some 96, .mov (.t 95), none⟩],
    [⟨some 97, .mov (.t 10), some (96, true)⟩],
    [⟨some 98, .bin .eql false (.t 97) (.c (.v (.int .i64 0))), some (96, true)⟩],
    [⟨some 99, .pick (.t 96) (.t 98) (.c (.v (.bool false))), none⟩],
    [⟨some 100, .mov (.t 99), none⟩],
    [⟨some 101, .load 5 true (.t 9), some (100, true)⟩,
      ⟨some 102, .call 20 [(.t 101)], some (100, true)⟩,
      ⟨some 103, .faddr 2 (.t 11), some (100, true)⟩,
      ⟨some 104, .load 1 false (.t 103), some (100, true)⟩,
      ⟨some 105, .len false (.t 104), some (100, true)⟩],
    [⟨some 106, .bin .eql false (.t 102) (.t 105), some (100, true)⟩],
    [⟨some 107, .pick (.t 100) (.t 106) (.c (.v (.bool false))), none⟩],
    [⟨some 6, .mov (.t 107), none⟩]])
  .ret))))))))⟩ := by kernel_rfl

set_option maxRecDepth 100000 in
theorem ir5 : compF Try.prog 5 = some ⟨223, [.t 2],
  (.seq (.ops [⟨some 1, .box (.t 0), none⟩,
    ⟨some 2, .mov (.c (.v (.bool false))), none⟩])
  (.seq (.ops [⟨some 34, .faddr 0 (.t 1), none⟩,
    ⟨some 35, .load 1 false (.t 34), none⟩,
    ⟨some 3, .mov (.t 35), none⟩])
  (.seq (.ops [⟨some 36, .faddr 1 (.t 1), none⟩,
    ⟨some 37, .load 1 false (.t 36), none⟩,
    ⟨some 4, .mov (.t 37), none⟩])
  (.seq (.ops [⟨some 38, .faddr 2 (.t 1), none⟩,
    ⟨some 39, .load 1 false (.t 38), none⟩,
    ⟨some 5, .mov (.t 39), none⟩])
  (.seq (.ops [⟨some 40, .faddr 3 (.t 1), none⟩,
    ⟨some 41, .load 1 false (.t 40), none⟩,
    ⟨some 6, .mov (.t 41), none⟩])
  (.seq (.ops [⟨some 42, .call 7 [], none⟩,
    ⟨some 7, .mov (.t 42), none⟩])
  (.seq (.seq (.ops [⟨some 43, .mov (.t 3), none⟩,
    ⟨some 44, .call 8 [(.t 43)], none⟩,
    ⟨some 45, .un .not (.t 44), none⟩,
    ⟨some 46, .mov (.t 45), none⟩,
    ⟨some 47, .mov (.t 4), some (46, false)⟩,
    ⟨some 48, .len false (.t 47), some (46, false)⟩,
    ⟨some 49, .bin .gtr false (.t 48) (.c (.v (.int .i64 30))), some (46, false)⟩,
    ⟨some 50, .pick (.t 46) (.c (.v (.bool true))) (.t 49), none⟩,
    ⟨some 51, .mov (.t 50), none⟩,
    ⟨some 52, .mov (.t 5), some (51, false)⟩,
    ⟨some 53, .len false (.t 52), some (51, false)⟩,
    ⟨some 54, .bin .gtr false (.t 53) (.c (.v (.int .i64 40))), some (51, false)⟩,
    ⟨some 55, .pick (.t 51) (.c (.v (.bool true))) (.t 54), none⟩])
  (.cond (.t 55)
    (.seq (.ops [⟨some 56, .mov (.t 7), none⟩,
      ⟨some 2, .mov (.t 56), none⟩])
    .ret)
    .skip))
  (.seq (.ops [⟨some 58, .mov (.t 3), none⟩,
    ⟨some 59, .call 10 [(.t 58), (.c (.v (.int .i64 100)))], none⟩,
    ⟨some 57, .mov (.t 59), none⟩,
    ⟨some 60, .extract (.t 57) 0, none⟩,
    ⟨some 61, .extract (.t 57) 1, none⟩,
    ⟨some 8, .alloc (.agg [(.v (.slice none 0 0)), (.v (.int .i64 0)), (.v (.slice none 0 0)), (.v (.slice none 0 0)), (.v (.slice none 0 0))]), none⟩,
    ⟨none, .store 5 (.t 8) (.t 60), none⟩,
    ⟨some 9, .mov (.t 61), none⟩])
  (.seq (.seq (.ops [⟨some 10, .mov (.c (.v (.int .i64 0))), none⟩])
  (.block 0 (.loop
    (.seq (.seq (.ops [⟨some 62, .mov (.t 10), none⟩,
      ⟨some 63, .mov (.t 4), none⟩,
      ⟨some 64, .len false (.t 63), none⟩,
      ⟨some 65, .bin .lss false (.t 62) (.t 64), none⟩])
    (.cond (.t 65)
      .skip
      (.exit 0)))
    (.seq (.block 1 (.seq (.seq (.ops [⟨some 68, .mov (.t 4), none⟩,
      ⟨some 69, .mov (.t 10), none⟩,
      ⟨some 70, .iaddr 1 (.t 68) (.t 69), none⟩,
      ⟨some 71, .load 1 false (.t 70), none⟩,
      ⟨some 72, .len false (.t 71), none⟩,
      ⟨some 73, .bin .gtr false (.t 72) (.c (.v (.int .i64 40))), none⟩])
    (.cond (.t 73)
      (.seq (.ops [⟨some 74, .mov (.t 7), none⟩,
        ⟨some 2, .mov (.t 74), none⟩])
      .ret)
      .skip))
    (.seq (.draw [[⟨some 76, .load 5 true (.t 8), none⟩,
        ⟨some 77, .mov (.t 3), none⟩,
        ⟨some 78, .mov (.t 4), none⟩,
        ⟨some 79, .mov (.t 10), none⟩,
        ⟨some 80, .iaddr 1 (.t 78) (.t 79), none⟩,
        ⟨some 81, .load 1 false (.t 80), none⟩,
        ⟨some 82, .call 12 [(.t 76), (.t 77), (.t 81)], none⟩,
        ⟨some 75, .mov (.t 82), none⟩,
        ⟨some 83, .extract (.t 75) 0, none⟩,
        ⟨some 84, .extract (.t 75) 1, none⟩,
        ⟨some 85, .extract (.t 75) 2, none⟩,
        ⟨some 11, .alloc (.agg [(.v (.slice none 0 0)), (.v (.int .i64 0)), (.v (.slice none 0 0)), (.v (.slice none 0 0)), (.v (.slice none 0 0))]), none⟩,
        ⟨none, .store 5 (.t 11) (.t 83), none⟩,
        ⟨some 12, .mov (.t 84), none⟩],
      [⟨some 13, .mov (.t 85), none⟩]])
    (.ops [⟨some 86, .load 5 true (.t 11), none⟩,
      ⟨none, .store 5 (.t 8) (.t 86), none⟩]))))
    (.ops [⟨some 66, .mov (.t 10), none⟩,
      ⟨some 67, .bin .add false (.t 66) (.c (.v (.int .i64 1))), none⟩,
      ⟨some 10, .mov (.t 67), none⟩]))))))
  (.seq (.ops [⟨some 88, .load 5 true (.t 8), none⟩,
    ⟨some 89, .mov (.t 3), none⟩,
    ⟨some 90, .mov (.t 5), none⟩,
    ⟨some 91, .call 18 [(.t 88), (.t 89), (.t 90)], none⟩,
    ⟨some 87, .mov (.t 91), none⟩,
    ⟨some 92, .extract (.t 87) 0, none⟩,
    ⟨some 93, .extract (.t 87) 1, none⟩,
    ⟨some 14, .mov (.t 92), none⟩,
    ⟨some 15, .mov (.t 93), none⟩])
  (.seq (.ops [⟨some 94, .load 5 true (.t 8), none⟩,
    ⟨some 95, .call 20 [(.t 94)], none⟩,
    ⟨some 16, .mov (.t 95), none⟩])
  (.seq (.ops [⟨some 96, .load 5 true (.t 8), none⟩,
    ⟨some 97, .call 22 [(.t 96)], none⟩,
    ⟨some 17, .mov (.t 97), none⟩])
  (.seq (.ops [⟨some 99, .load 5 true (.t 8), none⟩,
    ⟨some 100, .mov (.t 3), none⟩,
    ⟨some 101, .mov (.t 5), none⟩,
    ⟨some 102, .call 12 [(.t 99), (.t 100), (.t 101)], none⟩,
    ⟨some 98, .mov (.t 102), none⟩,
    ⟨some 103, .extract (.t 98) 0, none⟩,
    ⟨some 104, .extract (.t 98) 1, none⟩,
    ⟨some 105, .extract (.t 98) 2, none⟩,
    ⟨some 18, .alloc (.agg [(.v (.slice none 0 0)), (.v (.int .i64 0)), (.v (.slice none 0 0)), (.v (.slice none 0 0)), (.v (.slice none 0 0))]), none⟩,
    ⟨none, .store 5 (.t 18) (.t 103), none⟩,
    ⟨some 19, .mov (.t 104), none⟩,
    ⟨some 20, .mov (.t 105), none⟩])
  (.seq (.seq (.ops [⟨some 106, .mov (.t 15), none⟩,
    ⟨some 107, .mov (.t 20), none⟩,
    ⟨some 108, .bin .neq false (.t 106) (.t 107), none⟩,
    ⟨some 109, .mov (.t 108), none⟩,
    ⟨some 110, .mov (.t 15), some (109, false)⟩,
    ⟨some 111, .bin .eql false (.t 110) (.c (.v (.int .i64 0))), some (109, false)⟩,
    ⟨some 112, .mov (.t 111), some (109, false)⟩,
    ⟨some 113, .mov (.t 19), some (112, true)⟩,
    ⟨some 114, .mov (.t 14), some (112, true)⟩,
    ⟨some 115, .bin .eql true (.t 113) (.t 114), some (112, true)⟩,
    ⟨some 116, .pick (.t 112) (.t 115) (.c (.v (.bool false))), some (109, false)⟩,
    ⟨some 117, .pick (.t 109) (.c (.v (.bool true))) (.t 116), none⟩])
  (.cond (.t 117)
    (.seq (.ops [⟨some 2, .mov (.c (.v (.bool false))), none⟩])
    .ret)
    .skip))
  (.seq (.ops [⟨some 118, .mov (.t 6), none⟩,
    ⟨some 119, .conv .i64 (.t 118), none⟩,
    ⟨some 120, .bin .rem false (.t 119) (.c (.v (.int .i64 2))), none⟩,
    ⟨some 21, .mov (.t 120), none⟩])
  (.seq (.ops [⟨some 122, .load 5 true (.t 18), none⟩,
    ⟨some 123, .mov (.t 3), none⟩,
    ⟨some 124, .mov (.t 5), none⟩,
    ⟨some 125, .mov (.t 21), none⟩,
    ⟨some 126, .call 16 [(.t 122), (.t 123), (.t 124), (.t 125)], none⟩,
    ⟨some 121, .mov (.t 126), none⟩,
    ⟨some 127, .extract (.t 121) 0, none⟩,
    ⟨some 128, .extract (.t 121) 1, none⟩,
    ⟨some 22, .mov (.t 127), none⟩,
    ⟨some 23, .mov (.t 128), none⟩])
  (.seq (.ops [⟨some 130, .load 5 true (.t 18), none⟩,
    ⟨some 131, .mov (.t 3), none⟩,
    ⟨some 132, .mov (.t 5), none⟩,
    ⟨some 133, .mov (.t 21), none⟩,
    ⟨some 134, .call 14 [(.t 130), (.t 131), (.t 132), (.t 133)], none⟩,
    ⟨some 129, .mov (.t 134), none⟩,
    ⟨some 135, .extract (.t 129) 0, none⟩,
    ⟨some 136, .extract (.t 129) 1, none⟩,
    ⟨some 24, .alloc (.agg [(.v (.slice none 0 0)), (.v (.int .i64 0)), (.v (.slice none 0 0)), (.v (.slice none 0 0)), (.v (.slice none 0 0))]), none⟩,
    ⟨none, .store 5 (.t 24) (.t 135), none⟩,
    ⟨some 25, .mov (.t 136), none⟩])
  (.seq (.ops [⟨some 138, .load 5 true (.t 18), none⟩,
    ⟨some 139, .mov (.t 3), none⟩,
    ⟨some 140, .mov (.t 5), none⟩,
    ⟨some 141, .mov (.t 21), none⟩,
    ⟨some 142, .call 16 [(.t 138), (.t 139), (.t 140), (.t 141)], none⟩,
    ⟨some 137, .mov (.t 142), none⟩,
    ⟨some 143, .extract (.t 137) 0, none⟩,
    ⟨some 144, .extract (.t 137) 1, none⟩,
    ⟨some 26, .mov (.t 143), none⟩,
    ⟨some 27, .mov (.t 144), none⟩])
  (.seq (.ops [⟨some 146, .load 5 true (.t 24), none⟩,
    ⟨some 147, .mov (.t 3), none⟩,
    ⟨some 148, .mov (.t 5), none⟩,
    ⟨some 149, .mov (.t 21), none⟩,
    ⟨some 150, .call 16 [(.t 146), (.t 147), (.t 148), (.t 149)], none⟩,
    ⟨some 145, .mov (.t 150), none⟩,
    ⟨some 151, .extract (.t 145) 0, none⟩,
    ⟨some 152, .extract (.t 145) 1, none⟩,
    ⟨some 28, .mov (.t 151), none⟩,
    ⟨some 29, .mov (.t 152), none⟩])
  (.seq (.ops [⟨some 154, .load 5 true (.t 24), none⟩,
    ⟨some 155, .mov (.t 3), none⟩,
    ⟨some 156, .mov (.t 5), none⟩,
    ⟨some 157, .mov (.t 21), none⟩,
    ⟨some 158, .bin .sub false (.c (.v (.int .i64 1))) (.t 157), none⟩,
    ⟨some 159, .call 16 [(.t 154), (.t 155), (.t 156), (.t 158)], none⟩,
    ⟨some 153, .mov (.t 159), none⟩,
    ⟨some 160, .extract (.t 153) 0, none⟩,
    ⟨some 161, .extract (.t 153) 1, none⟩,
    ⟨some 30, .mov (.t 160), none⟩,
    ⟨some 31, .mov (.t 161), none⟩])
  (.seq (.ops [⟨some 163, .load 5 true (.t 8), none⟩,
    ⟨some 164, .mov (.t 3), none⟩,
    ⟨some 165, .mov (.t 5), none⟩,
    ⟨some 166, .call 18 [(.t 163), (.t 164), (.t 165)], none⟩,
    ⟨some 162, .mov (.t 166), none⟩,
    ⟨some 167, .extract (.t 162) 0, none⟩,
    ⟨some 168, .extract (.t 162) 1, none⟩,
    ⟨some 32, .mov (.t 167), none⟩,
    ⟨some 33, .mov (.t 168), none⟩])
  (.seq (.seq (.ops [⟨some 169, .mov (.t 15), none⟩,
    ⟨some 170, .bin .neq false (.t 169) (.c (.v (.int .i64 0))), none⟩])
  (.cond (.t 170)
    (.seq (.ops [⟨some 171, .mov (.t 7), none⟩,
      ⟨some 172, .mov (.t 171), none⟩,
      ⟨some 173, .mov (.t 25), some (172, true)⟩,
      ⟨some 174, .mov (.t 15), some (172, true)⟩,
      ⟨some 175, .bin .eql false (.t 173) (.t 174), some (172, true)⟩,
      ⟨some 176, .pick (.t 172) (.t 175) (.c (.v (.bool false))), none⟩,
      ⟨some 177, .mov (.t 176), none⟩,
      ⟨some 178, .mov (.t 29), some (177, true)⟩,
      ⟨some 179, .mov (.t 15), some (177, true)⟩,
      ⟨some 180, .bin .eql false (.t 178) (.t 179), some (177, true)⟩,
      ⟨some 181, .pick (.t 177) (.t 180) (.c (.v (.bool false))), none⟩,
      ⟨some 2, .mov (.t 181), none⟩])
    .ret)
    .skip))
  (.seq (.ops [⟨some 182, .mov (.t 7), none⟩,
    ⟨some 183, .mov (.t 182), none⟩,
    ⟨some 184, .mov (.t 32), some (183, true)⟩,
    ⟨some 185, .mov (.t 14), some (183, true)⟩,
    ⟨some 186, .bin .eql true (.t 184) (.t 185), some (183, true)⟩,
    ⟨some 187, .pick (.t 183) (.t 186) (.c (.v (.bool false))), none⟩,
    ⟨some 188, .mov (.t 187), none⟩,
    ⟨some 189, .load 5 true (.t 8), some (188, true)⟩,
    ⟨some 190, .call 20 [(.t 189)], some (188, true)⟩,
    ⟨some 191, .mov (.t 16), some (188, true)⟩,
    ⟨some 192, .bin .eql false (.t 190) (.t 191), some (188, true)⟩,
    ⟨some 193, .pick (.t 188) (.t 192) (.c (.v (.bool false))), none⟩,
    ⟨some 194, .mov (.t 193), none⟩,
    ⟨some 195, .load 5 true (.t 8), some (194, true)⟩,
    ⟨some 196, .call 22 [(.t 195)], some (194, true)⟩,
    ⟨some 197, .mov (.t 17), some (194, true)⟩,
    ⟨some 198, .call 21 [(.t 196), (.t 197)], some (194, true)⟩,
    ⟨some 199, .pick (.t 194) (.t 198) (.c (.v (.bool false))), none⟩,
    ⟨some 200, .mov (.t 199), none⟩,
    ⟨some 201, .mov (.t 22), some (200, true)⟩,
    ⟨some 202, .un .not (.t 201), some (200, true)⟩,
    ⟨some 203, .pick (.t 200) (.t 202) (.c (.v (.bool false))), none⟩,
    ⟨some 204, .mov (.t 203), none⟩,
    ⟨some 205, .mov (.t 26), some (204, true)⟩,
    ⟨some 206, .un .not (.t 205), some (204, true)⟩,
    ⟨some 207, .pick (.t 204) (.t 206) (.c (.v (.bool false))), none⟩,
    ⟨some 208, .mov (.t 207), none⟩,
    ⟨some 209, .mov (.t 25), some (208, true)⟩,
    ⟨some 210, .bin .eql false (.t 209) (.c (.v (.int .i64 0))), some (208, true)⟩,
    ⟨some 211, .pick (.t 208) (.t 210) (.c (.v (.bool false))), none⟩,
    ⟨some 212, .mov (.t 211), none⟩,
    ⟨some 213, .mov (.t 28), some (212, true)⟩,
    ⟨some 214, .pick (.t 212) (.t 213) (.c (.v (.bool false))), none⟩,
    ⟨some 215, .mov (.t 214), none⟩,
    ⟨some 216, .mov (.t 30), some (215, true)⟩,
    ⟨some 217, .un .not (.t 216), some (215, true)⟩,
    ⟨some 218, .pick (.t 215) (.t 217) (.c (.v (.bool false))), none⟩,
    ⟨some 219, .mov (.t 218), none⟩,
    ⟨some 220, .mov (.t 29), some (219, true)⟩,
    ⟨some 221, .bin .eql false (.t 220) (.c (.v (.int .i64 0))), some (219, true)⟩,
    ⟨some 222, .pick (.t 219) (.t 221) (.c (.v (.bool false))), none⟩,
    ⟨some 2, .mov (.t 222), none⟩])
  .ret)))))))))))))))))))))))⟩ := by kernel_rfl

set_option maxRecDepth 100000 in
theorem ir6 : compF Try.prog 6 = some ⟨131, [.t 4],
  (.seq (.ops [⟨some 4, .mov (.c (.v (.bool false))), none⟩])
  (.seq (.ops [⟨some 19, .call 7 [], none⟩,
    ⟨some 5, .mov (.t 19), none⟩])
  (.seq (.ops [⟨some 20, .mov (.t 0), none⟩,
    ⟨some 21, .conv .i64 (.t 20), none⟩,
    ⟨some 22, .bin .rem false (.t 21) (.c (.v (.int .i64 4))), none⟩,
    ⟨some 23, .bin .add false (.c (.v (.int .i64 1))) (.t 22), none⟩,
    ⟨some 6, .mov (.t 23), none⟩])
  (.seq (.ops [⟨some 24, .mov (.t 6), none⟩,
    ⟨some 25, .bin .sub false (.t 24) (.c (.v (.int .i64 2))), none⟩,
    ⟨some 26, .build [(.v (.int .i64 0)), (.v (.int .i64 0))] [(0, 1, (.c (.v (.int .i64 (-1))))), (1, 1, (.t 25))], none⟩,
    ⟨some 7, .alloc (.agg [(.v (.int .i64 0)), (.v (.int .i64 0))]), none⟩,
    ⟨none, .store 2 (.t 7) (.t 26), none⟩])
  (.seq (.ops [⟨some 27, .load 2 true (.t 7), none⟩,
    ⟨some 28, .load 2 true (.t 7), none⟩,
    ⟨some 29, .load 2 true (.t 7), none⟩,
    ⟨some 30, .load 2 true (.t 7), none⟩,
    ⟨some 31, .bslice 2 [(.v (.int .i64 0)), (.v (.int .i64 0))] 4 [(0, 2, (.t 27)), (2, 2, (.t 28)), (4, 2, (.t 29)), (6, 2, (.t 30))], none⟩,
    ⟨some 8, .mov (.t 31), none⟩])
  (.seq (.ops [⟨some 33, .mov (.t 8), none⟩,
    ⟨some 34, .call 10 [(.t 33), (.c (.v (.int .i64 1000)))], none⟩,
    ⟨some 32, .mov (.t 34), none⟩,
    ⟨some 35, .extract (.t 32) 0, none⟩,
    ⟨some 36, .extract (.t 32) 1, none⟩,
    ⟨some 9, .alloc (.agg [(.v (.slice none 0 0)), (.v (.int .i64 0)), (.v (.slice none 0 0)), (.v (.slice none 0 0)), (.v (.slice none 0 0))]), none⟩,
    ⟨none, .store 5 (.t 9) (.t 35), none⟩,
    ⟨some 10, .mov (.t 36), none⟩])
  (.seq (.ops [⟨some 37, .mov (.t 6), none⟩,
    ⟨some 38, .mov (.t 6), none⟩,
    ⟨some 39, .bin .mul false (.t 37) (.t 38), none⟩,
    ⟨some 40, .mov (.t 6), none⟩,
    ⟨some 41, .bin .mul false (.t 39) (.t 40), none⟩,
    ⟨some 42, .mov (.t 6), none⟩,
    ⟨some 43, .bin .mul false (.t 41) (.t 42), none⟩,
    ⟨some 11, .mov (.t 43), none⟩])
  (.seq (.ops [⟨some 44, .mov (.t 1), none⟩,
    ⟨some 45, .conv .i64 (.t 44), none⟩,
    ⟨some 46, .bin .rem false (.t 45) (.c (.v (.int .i64 50))), none⟩,
    ⟨some 47, .bin .mul false (.c (.v (.int .i64 2))) (.t 46), none⟩,
    ⟨some 48, .bin .add false (.c (.v (.int .i64 1))) (.t 47), none⟩,
    ⟨some 12, .mov (.t 48), none⟩])
  (.seq (.block 0 (.loop
    (.seq (.seq (.ops [⟨some 49, .mov (.t 12), none⟩,
      ⟨some 50, .bin .rem false (.t 49) (.c (.v (.int .i64 3))), none⟩,
      ⟨some 51, .bin .eql false (.t 50) (.c (.v (.int .i64 0))), none⟩])
    (.cond (.t 51)
      .skip
      (.exit 0)))
    (.block 1 (.ops [⟨some 52, .mov (.t 12), none⟩,
      ⟨some 53, .bin .add false (.t 52) (.c (.v (.int .i64 2))), none⟩,
      ⟨some 12, .mov (.t 53), none⟩])))))
  (.seq (.seq (.ops [⟨some 13, .mov (.c (.v (.int .i64 0))), none⟩])
  (.block 2 (.loop
    (.seq (.seq (.ops [⟨some 54, .mov (.t 13), none⟩,
      ⟨some 55, .mov (.t 11), none⟩,
      ⟨some 56, .bin .lss false (.t 54) (.t 55), none⟩])
    (.cond (.t 56)
      .skip
      (.exit 2)))
    (.seq (.block 3 (.seq (.ops [⟨some 59, .mov (.t 13), none⟩,
      ⟨some 60, .mov (.t 12), none⟩,
      ⟨some 61, .bin .mul false (.t 59) (.t 60), none⟩,
      ⟨some 62, .mov (.t 11), none⟩,
      ⟨some 63, .bin .rem false (.t 61) (.t 62), none⟩,
      ⟨some 14, .mov (.t 63), none⟩])
    (.seq (.draw [[⟨some 64, .mov (.t 14), none⟩,
        ⟨some 65, .mov (.t 6), none⟩,
        ⟨some 66, .bin .rem false (.t 64) (.t 65), none⟩,
        ⟨some 67, .bin .sub false (.t 66) (.c (.v (.int .i64 1))), none⟩,
        ⟨some 68, .mov (.t 14), none⟩,
        ⟨some 69, .mov (.t 6), none⟩,
        ⟨some 70, .bin .quo false (.t 68) (.t 69), none⟩,
        ⟨some 71, .mov (.t 6), none⟩,
        ⟨some 72, .bin .rem false (.t 70) (.t 71), none⟩,
        ⟨some 73, .bin .sub false (.t 72) (.c (.v (.int .i64 1))), none⟩,
        ⟨some 74, .mov (.t 14), none⟩,
        ⟨some 75, .mov (.t 6), none⟩,
        ⟨some 76, .bin .quo false (.t 74) (.t 75), none⟩,
        ⟨some 77, .mov (.t 6), none⟩,
        ⟨some 78, .bin .quo false (.t 76) (.t 77), none⟩,
        ⟨some 79, .mov (.t 6), none⟩,
        ⟨some 80, .bin .rem false (.t 78) (.t 79), none⟩,
        ⟨some 81, .bin .sub false (.t 80) (.c (.v (.int .i64 1))), none⟩,
        ⟨some 82, .mov (.t 14), none⟩,
        ⟨some 83, .mov (.t 6), none⟩,
        ⟨some 84, .bin .quo false (.t 82) (.t 83), none⟩,
        ⟨some 85, .mov (.t 6), none⟩,
        ⟨some 86, .bin .quo false (.t 84) (.t 85), none⟩,
        ⟨some 87, .mov (.t 6), none⟩,
        ⟨some 88, .bin .quo false (.t 86) (.t 87), none⟩,
        ⟨some 89, .mov (.t 6), none⟩,
        ⟨some 90, .bin .rem false (.t 88) (.t 89), none⟩,
        ⟨some 91, .bin .sub false (.t 90) (.c (.v (.int .i64 1))), none⟩],
      [⟨some 92, .bslice 1 [(.v (.int .i64 0))] 4 [(0, 1, (.t 67)), (1, 1, (.t 73)), (2, 1, (.t 81)), (3, 1, (.t 91))], none⟩],
      [⟨some 15, .mov (.t 92), none⟩]])
    (.seq (.ops [⟨some 94, .load 5 true (.t 9), none⟩,
      ⟨some 95, .mov (.t 8), none⟩,
      ⟨some 96, .mov (.t 15), none⟩,
      ⟨some 97, .call 12 [(.t 94), (.t 95), (.t 96)], none⟩,
      ⟨some 93, .mov (.t 97), none⟩,
      ⟨some 98, .extract (.t 93) 0, none⟩,
      ⟨some 99, .extract (.t 93) 1, none⟩,
      ⟨some 100, .extract (.t 93) 2, none⟩,
      ⟨some 16, .alloc (.agg [(.v (.slice none 0 0)), (.v (.int .i64 0)), (.v (.slice none 0 0)), (.v (.slice none 0 0)), (.v (.slice none 0 0))]), none⟩,
      ⟨none, .store 5 (.t 16) (.t 98), none⟩,
      ⟨some 17, .mov (.t 99), none⟩,
      ⟨some 18, .mov (.t 100), none⟩])
    (.seq (.seq (.ops [⟨some 101, .mov (.t 17), none⟩,
      ⟨some 102, .un .not (.t 101), none⟩,
      ⟨some 103, .mov (.t 102), none⟩,
      ⟨some 104, .mov (.t 18), some (103, false)⟩,
      ⟨some 105, .bin .neq false (.t 104) (.c (.v (.int .i64 0))), some (103, false)⟩,
      ⟨some 106, .pick (.t 103) (.c (.v (.bool true))) (.t 105), none⟩])
    (.cond (.t 106)
      (.seq (.ops [⟨some 4, .mov (.c (.v (.bool false))), none⟩])
      .ret)
      .skip))
    (.ops [⟨some 107, .load 5 true (.t 16), none⟩,
      ⟨none, .store 5 (.t 9) (.t 107), none⟩]))))))
    (.ops [⟨some 57, .mov (.t 13), none⟩,
      ⟨some 58, .bin .add false (.t 57) (.c (.v (.int .i64 1))), none⟩,
      ⟨some 13, .mov (.t 58), none⟩]))))))
  (.seq (.ops [⟨some 108, .mov (.t 5), none⟩,
    ⟨some 109, .mov (.t 108), none⟩,
    ⟨some 110, .mov (.t 10), some (109, true)⟩,
    ⟨some 111, .bin .eql false (.t 110) (.c (.v (.int .i64 0))), some (109, true)⟩,
    ⟨some 112, .pick (.t 109) (.t 111) (.c (.v (.bool false))), none⟩,
    ⟨some 113, .mov (.t 112), none⟩,
    ⟨some 114, .load 5 true (.t 9), some (113, true)⟩,
    ⟨some 115, .call 20 [(.t 114)], some (113, true)⟩,
    ⟨some 116, .mov (.t 11), some (113, true)⟩,
    ⟨some 117, .bin .eql false (.t 115) (.t 116), some (113, true)⟩,
    ⟨some 118, .pick (.t 113) (.t 117) (.c (.v (.bool false))), none⟩,
    ⟨some 119, .mov (.t 118), none⟩,
    ⟨some 120, .load 5 true (.t 9), some (119, true)⟩,
    ⟨some 121, .call 22 [(.t 120)], some (119, true)⟩,
    ⟨some 122, .mov (.t 6), some (119, true)⟩,
    ⟨some 123, .mov (.t 6), some (119, true)⟩,
    ⟨some 124, .bin .mul false (.t 122) (.t 123), some (119, true)⟩,
    ⟨some 125, .mov (.t 6), some (119, true)⟩,
    ⟨some 126, .mov (.t 6), some (119, true)⟩,
    ⟨some 127, .bin .mul false (.t 125) (.t 126), some (119, true)⟩,
    ⟨some 128, .bslice 1 [(.v (.int .i64 0))] 2 [(0, 1, (.t 124)), (1, 1, (.t 127))], some (119, true)⟩,
    ⟨some 129, .call 21 [(.t 121), (.t 128)], some (119, true)⟩,
    ⟨some 130, .pick (.t 119) (.t 129) (.c (.v (.bool false))), none⟩,
    ⟨some 4, .mov (.t 130), none⟩])
  .ret)))))))))))⟩ := by kernel_rfl

set_option maxRecDepth 100000 in
theorem ir7 : compF Try.prog 7 = some ⟨193, [.t 0],
  (.seq (.ops [⟨some 0, .mov (.c (.v (.bool false))), none⟩])
  (.seq (.ops [⟨some 29, .build [(.v (.int .i64 0)), (.v (.int .i64 0))] [(0, 1, (.c (.v (.int .i64 0)))), (1, 1, (.c (.v (.int .i64 3))))], none⟩,
    ⟨some 30, .build [(.v (.int .i64 0)), (.v (.int .i64 0))] [(0, 1, (.c (.v (.int .i64 0)))), (1, 1, (.c (.v (.int .i64 3))))], none⟩,
    ⟨some 31, .build [(.v (.int .i64 0)), (.v (.int .i64 0))] [(0, 1, (.c (.v (.int .i64 0)))), (1, 1, (.c (.v (.int .i64 5))))], none⟩,
    ⟨some 32, .bslice 2 [(.v (.int .i64 0)), (.v (.int .i64 0))] 3 [(0, 2, (.t 29)), (2, 2, (.t 30)), (4, 2, (.t 31))], none⟩,
    ⟨some 1, .mov (.t 32), none⟩])
  (.seq (.ops [⟨some 34, .mov (.t 1), none⟩,
    ⟨some 35, .call 10 [(.t 34), (.c (.v (.int .i64 2)))], none⟩,
    ⟨some 33, .mov (.t 35), none⟩,
    ⟨some 36, .extract (.t 33) 0, none⟩,
    ⟨some 37, .extract (.t 33) 1, none⟩,
    ⟨some 2, .alloc (.agg [(.v (.slice none 0 0)), (.v (.int .i64 0)), (.v (.slice none 0 0)), (.v (.slice none 0 0)), (.v (.slice none 0 0))]), none⟩,
    ⟨none, .store 5 (.t 2) (.t 36), none⟩,
    ⟨some 3, .mov (.t 37), none⟩])
  (.seq (.ops [⟨some 39, .load 5 true (.t 2), none⟩,
    ⟨some 40, .mov (.t 1), none⟩,
    ⟨some 41, .bslice 1 [(.v (.int .i64 0))] 3 [(0, 1, (.c (.v (.int .i64 1)))), (1, 1, (.c (.v (.int .i64 2)))), (2, 1, (.c (.v (.int .i64 3))))], none⟩,
    ⟨some 42, .call 12 [(.t 39), (.t 40), (.t 41)], none⟩,
    ⟨some 38, .mov (.t 42), none⟩,
    ⟨some 43, .extract (.t 38) 0, none⟩,
    ⟨some 44, .extract (.t 38) 1, none⟩,
    ⟨some 45, .extract (.t 38) 2, none⟩,
    ⟨some 4, .alloc (.agg [(.v (.slice none 0 0)), (.v (.int .i64 0)), (.v (.slice none 0 0)), (.v (.slice none 0 0)), (.v (.slice none 0 0))]), none⟩,
    ⟨none, .store 5 (.t 4) (.t 43), none⟩,
    ⟨some 5, .mov (.t 44), none⟩,
    ⟨some 6, .mov (.t 45), none⟩])
  (.seq (.ops [⟨some 47, .load 5 true (.t 4), none⟩,
    ⟨some 48, .mov (.t 1), none⟩,
    ⟨some 49, .bslice 1 [(.v (.int .i64 0))] 3 [(0, 1, (.c (.v (.int .i64 1)))), (1, 1, (.c (.v (.int .i64 2)))), (2, 1, (.c (.v (.int .i64 4))))], none⟩,
    ⟨some 50, .call 12 [(.t 47), (.t 48), (.t 49)], none⟩,
    ⟨some 46, .mov (.t 50), none⟩,
    ⟨some 51, .extract (.t 46) 0, none⟩,
    ⟨some 52, .extract (.t 46) 1, none⟩,
    ⟨some 53, .extract (.t 46) 2, none⟩,
    ⟨some 7, .alloc (.agg [(.v (.slice none 0 0)), (.v (.int .i64 0)), (.v (.slice none 0 0)), (.v (.slice none 0 0)), (.v (.slice none 0 0))]), none⟩,
    ⟨none, .store 5 (.t 7) (.t 51), none⟩,
    ⟨some 8, .mov (.t 52), none⟩,
    ⟨some 9, .mov (.t 53), none⟩])
  (.seq (.ops [⟨some 55, .load 5 true (.t 7), none⟩,
    ⟨some 56, .mov (.t 1), none⟩,
    ⟨some 57, .bslice 1 [(.v (.int .i64 0))] 3 [(0, 1, (.c (.v (.int .i64 0)))), (1, 1, (.c (.v (.int .i64 0)))), (2, 1, (.c (.v (.int .i64 0))))], none⟩,
    ⟨some 58, .call 12 [(.t 55), (.t 56), (.t 57)], none⟩,
    ⟨some 54, .mov (.t 58), none⟩,
    ⟨some 59, .extract (.t 54) 0, none⟩,
    ⟨some 60, .extract (.t 54) 1, none⟩,
    ⟨some 61, .extract (.t 54) 2, none⟩,
    ⟨some 10, .alloc (.agg [(.v (.slice none 0 0)), (.v (.int .i64 0)), (.v (.slice none 0 0)), (.v (.slice none 0 0)), (.v (.slice none 0 0))]), none⟩,
    ⟨none, .store 5 (.t 10) (.t 59), none⟩,
    ⟨some 11, .mov (.t 60), none⟩,
    ⟨some 12, .mov (.t 61), none⟩])
  (.seq (.ops [⟨some 63, .load 5 true (.t 7), none⟩,
    ⟨some 64, .mov (.t 1), none⟩,
    ⟨some 65, .bslice 1 [(.v (.int .i64 0))] 3 [(0, 1, (.c (.v (.int .i64 1)))), (1, 1, (.c (.v (.int .i64 2)))), (2, 1, (.c (.v (.int .i64 4))))], none⟩,
    ⟨some 66, .call 14 [(.t 63), (.t 64), (.t 65), (.c (.v (.int .i64 1)))], none⟩,
    ⟨some 62, .mov (.t 66), none⟩,
    ⟨some 67, .extract (.t 62) 0, none⟩,
    ⟨some 68, .extract (.t 62) 1, none⟩,
    ⟨some 13, .alloc (.agg [(.v (.slice none 0 0)), (.v (.int .i64 0)), (.v (.slice none 0 0)), (.v (.slice none 0 0)), (.v (.slice none 0 0))]), none⟩,
    ⟨none, .store 5 (.t 13) (.t 67), none⟩,
    ⟨some 14, .mov (.t 68), none⟩])
  (.seq (.ops [⟨some 70, .load 5 true (.t 13), none⟩,
    ⟨some 71, .mov (.t 1), none⟩,
    ⟨some 72, .bslice 1 [(.v (.int .i64 0))] 3 [(0, 1, (.c (.v (.int .i64 1)))), (1, 1, (.c (.v (.int .i64 2)))), (2, 1, (.c (.v (.int .i64 4))))], none⟩,
    ⟨some 73, .call 16 [(.t 70), (.t 71), (.t 72), (.c (.v (.int .i64 1)))], none⟩,
    ⟨some 69, .mov (.t 73), none⟩,
    ⟨some 74, .extract (.t 69) 0, none⟩,
    ⟨some 75, .extract (.t 69) 1, none⟩,
    ⟨some 15, .mov (.t 74), none⟩,
    ⟨some 16, .mov (.t 75), none⟩])
  (.seq (.ops [⟨some 77, .load 5 true (.t 13), none⟩,
    ⟨some 78, .mov (.t 1), none⟩,
    ⟨some 79, .bslice 1 [(.v (.int .i64 0))] 3 [(0, 1, (.c (.v (.int .i64 1)))), (1, 1, (.c (.v (.int .i64 2)))), (2, 1, (.c (.v (.int .i64 3))))], none⟩,
    ⟨some 80, .call 16 [(.t 77), (.t 78), (.t 79), (.c (.v (.int .i64 1)))], none⟩,
    ⟨some 76, .mov (.t 80), none⟩,
    ⟨some 81, .extract (.t 76) 0, none⟩,
    ⟨some 82, .extract (.t 76) 1, none⟩,
    ⟨some 17, .mov (.t 81), none⟩,
    ⟨some 18, .mov (.t 82), none⟩])
  (.seq (.ops [⟨some 84, .load 5 true (.t 13), none⟩,
    ⟨some 85, .mov (.t 1), none⟩,
    ⟨some 86, .bslice 1 [(.v (.int .i64 0))] 3 [(0, 1, (.c (.v (.int .i64 1)))), (1, 1, (.c (.v (.int .i64 2)))), (2, 1, (.c (.v (.int .i64 3))))], none⟩,
    ⟨some 87, .call 18 [(.t 84), (.t 85), (.t 86)], none⟩,
    ⟨some 83, .mov (.t 87), none⟩,
    ⟨some 88, .extract (.t 83) 0, none⟩,
    ⟨some 89, .extract (.t 83) 1, none⟩,
    ⟨some 19, .mov (.t 88), none⟩,
    ⟨some 20, .mov (.t 89), none⟩])
  (.seq (.ops [⟨some 91, .load 5 true (.t 13), none⟩,
    ⟨some 92, .mov (.t 1), none⟩,
    ⟨some 93, .bslice 1 [(.v (.int .i64 0))] 3 [(0, 1, (.c (.v (.int .i64 1)))), (1, 1, (.c (.v (.int .i64 2)))), (2, 1, (.c (.v (.int .i64 6))))], none⟩,
    ⟨some 94, .call 18 [(.t 91), (.t 92), (.t 93)], none⟩,
    ⟨some 90, .mov (.t 94), none⟩,
    ⟨some 95, .extract (.t 90) 0, none⟩,
    ⟨some 96, .extract (.t 90) 1, none⟩,
    ⟨some 21, .mov (.t 95), none⟩,
    ⟨some 22, .mov (.t 96), none⟩])
  (.seq (.ops [⟨some 98, .load 5 true (.t 13), none⟩,
    ⟨some 99, .mov (.t 1), none⟩,
    ⟨some 100, .bslice 1 [(.v (.int .i64 0))] 1 [(0, 1, (.c (.v (.int .i64 1))))], none⟩,
    ⟨some 101, .call 18 [(.t 98), (.t 99), (.t 100)], none⟩,
    ⟨some 97, .mov (.t 101), none⟩,
    ⟨some 102, .extract (.t 97) 0, none⟩,
    ⟨some 103, .extract (.t 97) 1, none⟩,
    ⟨some 23, .mov (.t 102), none⟩,
    ⟨some 24, .mov (.t 103), none⟩])
  (.seq (.ops [⟨some 105, .load 5 true (.t 13), none⟩,
    ⟨some 106, .mov (.t 1), none⟩,
    ⟨some 107, .bslice 1 [(.v (.int .i64 0))] 3 [(0, 1, (.c (.v (.int .i64 0)))), (1, 1, (.c (.v (.int .i64 0)))), (2, 1, (.c (.v (.int .i64 0))))], none⟩,
    ⟨some 108, .call 16 [(.t 105), (.t 106), (.t 107), (.c (.v (.int .i64 0)))], none⟩,
    ⟨some 104, .mov (.t 108), none⟩,
    ⟨some 109, .extract (.t 104) 0, none⟩,
    ⟨some 110, .extract (.t 104) 1, none⟩,
    ⟨some 25, .mov (.t 109), none⟩,
    ⟨some 26, .mov (.t 110), none⟩])
  (.seq (.ops [⟨some 112, .mov (.t 1), none⟩,
    ⟨some 113, .call 10 [(.t 112), (.c (.v (.int .i64 (-1))))], none⟩,
    ⟨some 111, .mov (.t 113), none⟩,
    ⟨some 114, .extract (.t 111) 0, none⟩,
    ⟨some 115, .extract (.t 111) 1, none⟩,
    ⟨some 27, .alloc (.agg [(.v (.slice none 0 0)), (.v (.int .i64 0)), (.v (.slice none 0 0)), (.v (.slice none 0 0)), (.v (.slice none 0 0))]), none⟩,
    ⟨none, .store 5 (.t 27) (.t 114), none⟩,
    ⟨some 28, .mov (.t 115), none⟩])
  (.seq (.ops [⟨some 116, .mov (.t 3), none⟩,
    ⟨some 117, .bin .eql false (.t 116) (.c (.v (.int .i64 0))), none⟩,
    ⟨some 118, .mov (.t 117), none⟩,
    ⟨some 119, .mov (.t 5), some (118, true)⟩,
    ⟨some 120, .pick (.t 118) (.t 119) (.c (.v (.bool false))), none⟩,
    ⟨some 121, .mov (.t 120), none⟩,
    ⟨some 122, .mov (.t 6), some (121, true)⟩,
    ⟨some 123, .bin .eql false (.t 122) (.c (.v (.int .i64 0))), some (121, true)⟩,
    ⟨some 124, .pick (.t 121) (.t 123) (.c (.v (.bool false))), none⟩,
    ⟨some 125, .mov (.t 124), none⟩,
    ⟨some 126, .mov (.t 8), some (125, true)⟩,
    ⟨some 127, .pick (.t 125) (.t 126) (.c (.v (.bool false))), none⟩,
    ⟨some 128, .mov (.t 127), none⟩,
    ⟨some 129, .mov (.t 9), some (128, true)⟩,
    ⟨some 130, .bin .eql false (.t 129) (.c (.v (.int .i64 0))), some (128, true)⟩,
    ⟨some 131, .pick (.t 128) (.t 130) (.c (.v (.bool false))), none⟩,
    ⟨some 132, .mov (.t 131), none⟩,
    ⟨some 133, .mov (.t 11), some (132, true)⟩,
    ⟨some 134, .un .not (.t 133), some (132, true)⟩,
    ⟨some 135, .pick (.t 132) (.t 134) (.c (.v (.bool false))), none⟩,
    ⟨some 136, .mov (.t 135), none⟩,
    ⟨some 137, .mov (.t 12), some (136, true)⟩,
    ⟨some 138, .bin .eql false (.t 137) (.c (.v (.int .i64 7))), some (136, true)⟩,
    ⟨some 139, .pick (.t 136) (.t 138) (.c (.v (.bool false))), none⟩,
    ⟨some 140, .mov (.t 139), none⟩,
    ⟨some 141, .mov (.t 14), some (140, true)⟩,
    ⟨some 142, .bin .eql false (.t 141) (.c (.v (.int .i64 0))), some (140, true)⟩,
    ⟨some 143, .pick (.t 140) (.t 142) (.c (.v (.bool false))), none⟩,
    ⟨some 144, .mov (.t 143), none⟩,
    ⟨some 145, .mov (.t 15), some (144, true)⟩,
    ⟨some 146, .pick (.t 144) (.t 145) (.c (.v (.bool false))), none⟩,
    ⟨some 147, .mov (.t 146), none⟩,
    ⟨some 148, .mov (.t 16), some (147, true)⟩,
    ⟨some 149, .bin .eql false (.t 148) (.c (.v (.int .i64 0))), some (147, true)⟩,
    ⟨some 150, .pick (.t 147) (.t 149) (.c (.v (.bool false))), none⟩,
    ⟨some 151, .mov (.t 150), none⟩,
    ⟨some 152, .mov (.t 17), some (151, true)⟩,
    ⟨some 153, .un .not (.t 152), some (151, true)⟩,
    ⟨some 154, .pick (.t 151) (.t 153) (.c (.v (.bool false))), none⟩,
    ⟨some 155, .mov (.t 154), none⟩,
    ⟨some 156, .mov (.t 18), some (155, true)⟩,
    ⟨some 157, .bin .eql false (.t 156) (.c (.v (.int .i64 0))), some (155, true)⟩,
    ⟨some 158, .pick (.t 155) (.t 157) (.c (.v (.bool false))), none⟩,
    ⟨some 159, .mov (.t 158), none⟩,
    ⟨some 160, .mov (.t 19), some (159, true)⟩,
    ⟨some 161, .pick (.t 159) (.t 160) (.c (.v (.bool false))), none⟩,
    ⟨some 162, .mov (.t 161), none⟩,
    ⟨some 163, .mov (.t 20), some (162, true)⟩,
    ⟨some 164, .bin .eql false (.t 163) (.c (.v (.int .i64 0))), some (162, true)⟩,
    ⟨some 165, .pick (.t 162) (.t 164) (.c (.v (.bool false))), none⟩,
    ⟨some 166, .mov (.t 165), none⟩,
    ⟨some 167, .mov (.t 22), some (166, true)⟩,
    ⟨some 168, .bin .eql false (.t 167) (.c (.v (.int .i64 5))), some (166, true)⟩,
    ⟨some 169, .pick (.t 166) (.t 168) (.c (.v (.bool false))), none⟩,
    ⟨some 170, .mov (.t 169), none⟩,
    ⟨some 171, .mov (.t 24), some (170, true)⟩,
    ⟨some 172, .bin .eql false (.t 171) (.c (.v (.int .i64 1))), some (170, true)⟩,
    ⟨some 173, .pick (.t 170) (.t 172) (.c (.v (.bool false))), none⟩,
    ⟨some 174, .mov (.t 173), none⟩,
    ⟨some 175, .mov (.t 26), some (174, true)⟩,
    ⟨some 176, .bin .eql false (.t 175) (.c (.v (.int .i64 10))), some (174, true)⟩,
    ⟨some 177, .pick (.t 174) (.t 176) (.c (.v (.bool false))), none⟩,
    ⟨some 178, .mov (.t 177), none⟩,
    ⟨some 179, .mov (.t 28), some (178, true)⟩,
    ⟨some 180, .bin .eql false (.t 179) (.c (.v (.int .i64 1))), some (178, true)⟩,
    ⟨some 181, .pick (.t 178) (.t 180) (.c (.v (.bool false))), none⟩,
    ⟨some 182, .mov (.t 181), none⟩,
    ⟨some 183, .load 5 true (.t 13), some (182, true)⟩,
    ⟨some 184, .call 20 [(.t 183)], some (182, true)⟩,
    ⟨some 185, .bin .eql false (.t 184) (.c (.v (.int .i64 2))), some (182, true)⟩,
    ⟨some 186, .pick (.t 182) (.t 185) (.c (.v (.bool false))), none⟩,
    ⟨some 187, .mov (.t 186), none⟩,
    ⟨some 188, .load 5 true (.t 13), some (187, true)⟩,
    ⟨some 189, .call 22 [(.t 188)], some (187, true)⟩,
    ⟨some 190, .bslice 1 [(.v (.int .i64 0))] 2 [(0, 1, (.c (.v (.int .i64 1)))), (1, 1, (.c (.v (.int .i64 2))))], some (187, true)⟩,
    ⟨some 191, .call 21 [(.t 189), (.t 190)], some (187, true)⟩,
    ⟨some 192, .pick (.t 187) (.t 191) (.c (.v (.bool false))), none⟩,
    ⟨some 0, .mov (.t 192), none⟩])
  .ret)))))))))))))))⟩ := by kernel_rfl

theorem ir8 : compF Try.prog 8 = some ⟨59, [.t 2],
  (.seq (.ops [⟨some 2, .mov (.c (.v (.bool false))), none⟩])
  (.seq (.seq (.ops [⟨some 4, .mov (.t 0), none⟩,
    ⟨some 5, .len false (.t 4), none⟩,
    ⟨some 6, .bin .lss false (.t 5) (.c (.v (.int .i64 1))), none⟩,
    ⟨some 7, .mov (.t 6), none⟩,
    ⟨some 8, .mov (.t 0), some (7, false)⟩,
    ⟨some 9, .len false (.t 8), some (7, false)⟩,
    ⟨some 10, .bin .gtr false (.t 9) (.c (.v (.int .i64 17))), some (7, false)⟩,
    ⟨some 11, .pick (.t 7) (.c (.v (.bool true))) (.t 10), none⟩])
  (.cond (.t 11)
    (.seq (.ops [⟨some 2, .mov (.c (.v (.bool false))), none⟩])
    .ret)
    .skip))
  (.seq (.seq (.ops [⟨some 3, .mov (.c (.v (.int .i64 0))), none⟩])
  (.block 0 (.loop
    (.seq (.seq (.ops [⟨some 12, .mov (.t 3), none⟩,
      ⟨some 13, .mov (.t 0), none⟩,
      ⟨some 14, .len false (.t 13), none⟩,
      ⟨some 15, .bin .lss false (.t 12) (.t 14), none⟩])
    (.cond (.t 15)
      .skip
      (.exit 0)))
    (.seq (.block 1 (.seq (.draw [[⟨some 18, .mov (.t 0), none⟩,
        ⟨some 19, .mov (.t 3), none⟩,
        ⟨some 20, .iaddr 2 (.t 18) (.t 19), none⟩,
        ⟨some 21, .faddr 0 (.t 20), none⟩,
        ⟨some 22, .load 1 false (.t 21), none⟩,
        ⟨some 23, .mov (.t 0), none⟩,
        ⟨some 24, .mov (.t 3), none⟩,
        ⟨some 25, .iaddr 2 (.t 23) (.t 24), none⟩,
        ⟨some 26, .faddr 1 (.t 25), none⟩,
        ⟨some 27, .load 1 false (.t 26), none⟩],
      [⟨some 28, .bin .gtr false (.t 22) (.t 27), none⟩],
      [⟨some 29, .mov (.t 28), none⟩],
      [⟨some 30, .mov (.t 0), some (29, false)⟩,
        ⟨some 31, .mov (.t 3), some (29, false)⟩],
      [⟨some 32, .iaddr 2 (.t 30) (.t 31), some (29, false)⟩],
      [⟨some 33, .faddr 0 (.t 32), some (29, false)⟩],
      [⟨some 34, .load 1 false (.t 33), some (29, false)⟩],
      [⟨some 35, .bin .lss false (.t 34) (.c (.v (.int .i64 (-1073741824)))), some (29, false)⟩],
      [⟨some 36, .pick (.t 29) (.c (.v (.bool true))) (.t 35), none⟩],
      [⟨some 37, .mov (.t 36), none⟩],
      [⟨some 38, .mov (.t 0), some (37, false)⟩,
        ⟨some 39, .mov (.t 3), some (37, false)⟩],
      [⟨some 40, .iaddr 2 (.t 38) (.t 39), some (37, false)⟩],
      [⟨some 41, .faddr 1 (.t 40), some (37, false)⟩],
      [⟨some 42, .load 1 false (.t 41), some (37, false)⟩],
      [⟨some 43, .bin .gtr false (.t 42) (.c (.v (.int .i64 1073741824))), some (37, false)⟩],
      [⟨some 44, .pick (.t 37) (.c (.v (.bool true))) (.t 43), none⟩],
      [⟨some 45, .mov (.t 44), none⟩],
      [⟨some 46, .mov (.t 0), some (45, false)⟩,
        ⟨some 47, .mov (.t 3), some (45, false)⟩,
        ⟨some 48, .iaddr 2 (.t 46) (.t 47), some (45, false)⟩,
        ⟨some 49, .faddr 1 (.t 48), some (45, false)⟩,
        ⟨some 50, .load 1 false (.t 49), some (45, false)⟩,
        ⟨some 51, .mov (.t 0), some (45, false)⟩,
        ⟨some 52, .mov (.t 3), some (45, false)⟩,
        ⟨some 53, .iaddr 2 (.t 51) (.t 52), some (45, false)⟩,
        ⟨some 54, .faddr 0 (.t 53), some (45, false)⟩,
        ⟨some 55, .load 1 false (.t 54), some (45, false)⟩],
      [⟨some 56, .bin .sub false (.t 50) (.t 55), some (45, false)⟩],
      [⟨some 57, .bin .gtr false (.t 56) (.c (.v (.int .i64 65535))), some (45, false)⟩],
      [⟨some 58, .pick (.t 45) (.c (.v (.bool true))) (.t 57), none⟩]])
    (.cond (.t 58)
      (.seq (.ops [⟨some 2, .mov (.c (.v (.bool false))), none⟩])
      .ret)
      .skip)))
    (.ops [⟨some 16, .mov (.t 3), none⟩,
      ⟨some 17, .bin .add false (.t 16) (.c (.v (.int .i64 1))), none⟩,
      ⟨some 3, .mov (.t 17), none⟩]))))))
  (.seq (.ops [⟨some 2, .mov (.c (.v (.bool true))), none⟩])
  .ret))))⟩ := by kernel_rfl

theorem ir9 : compF Try.prog 9 = some ⟨23, [.t 4],
  (.seq (.ops [⟨some 4, .mov (.c (.v (.bool false))), none⟩])
  (.seq (.seq (.ops [⟨some 6, .mov (.t 0), none⟩,
    ⟨some 7, .len false (.t 6), none⟩,
    ⟨some 8, .mov (.t 1), none⟩,
    ⟨some 9, .bin .gtr false (.t 7) (.t 8), none⟩])
  (.cond (.t 9)
    (.seq (.ops [⟨some 4, .mov (.c (.v (.bool false))), none⟩])
    .ret)
    .skip))
  (.seq (.seq (.ops [⟨some 5, .mov (.c (.v (.int .i64 0))), none⟩])
  (.block 0 (.loop
    (.seq (.seq (.ops [⟨some 10, .mov (.t 5), none⟩,
      ⟨some 11, .mov (.t 0), none⟩,
      ⟨some 12, .len false (.t 11), none⟩,
      ⟨some 13, .bin .lss false (.t 10) (.t 12), none⟩])
    (.cond (.t 13)
      .skip
      (.exit 0)))
    (.seq (.block 1 (.seq (.ops [⟨some 16, .mov (.t 0), none⟩,
      ⟨some 17, .mov (.t 5), none⟩,
      ⟨some 18, .iaddr 3 (.t 16) (.t 17), none⟩,
      ⟨some 19, .faddr 1 (.t 18), none⟩,
      ⟨some 20, .load 1 false (.t 19), none⟩,
      ⟨some 21, .len false (.t 20), none⟩,
      ⟨some 22, .bin .gtr false (.t 21) (.c (.v (.int .i64 40))), none⟩])
    (.cond (.t 22)
      (.seq (.ops [⟨some 4, .mov (.c (.v (.bool false))), none⟩])
      .ret)
      .skip)))
    (.ops [⟨some 14, .mov (.t 5), none⟩,
      ⟨some 15, .bin .add false (.t 14) (.c (.v (.int .i64 1))), none⟩,
      ⟨some 5, .mov (.t 15), none⟩]))))))
  (.seq (.ops [⟨some 4, .mov (.c (.v (.bool true))), none⟩])
  .ret))))⟩ := by kernel_rfl

theorem ir10 : compF Try.prog 10 = some ⟨42, [.c 4 5 true, .t 5],
  (.seq (.ops [⟨some 4, .alloc (.agg [(.v (.slice none 0 0)), (.v (.int .i64 0)), (.v (.slice none 0 0)), (.v (.slice none 0 0)), (.v (.slice none 0 0))]), none⟩,
    ⟨some 5, .mov (.c (.v (.int .i64 0))), none⟩])
  (.seq (.ops [⟨some 12, .mov (.t 1), none⟩,
    ⟨some 13, .call 24 [(.t 12)], none⟩,
    ⟨some 11, .mov (.t 13), none⟩,
    ⟨some 14, .extract (.t 11) 0, none⟩,
    ⟨some 15, .extract (.t 11) 1, none⟩,
    ⟨some 6, .alloc (.agg [(.v (.int .i64 0)), (.v (.slice none 0 0)), (.v (.slice none 0 0))]), none⟩,
    ⟨none, .store 3 (.t 6) (.t 14), none⟩,
    ⟨some 7, .mov (.t 15), none⟩])
  (.seq (.seq (.ops [⟨some 16, .mov (.t 7), none⟩,
    ⟨some 17, .bin .neq false (.t 16) (.c (.v (.int .i64 0))), none⟩])
  (.cond (.t 17)
    (.seq (.ops [⟨some 18, .build [(.v (.slice none 0 0)), (.v (.int .i64 0)), (.v (.slice none 0 0)), (.v (.slice none 0 0)), (.v (.slice none 0 0))] [], none⟩,
      ⟨some 19, .mov (.t 7), none⟩,
      ⟨none, .store 5 (.t 4) (.t 18), none⟩,
      ⟨some 5, .mov (.t 19), none⟩])
    .ret)
    .skip))
  (.seq (.ops [⟨some 20, .load 3 true (.t 6), none⟩,
    ⟨some 21, .build [(.v (.slice none 0 0)), (.v (.int .i64 0)), (.v (.slice none 0 0)), (.v (.slice none 0 0)), (.v (.slice none 0 0))] [(1, 3, (.t 20))], none⟩,
    ⟨some 8, .alloc (.agg [(.v (.slice none 0 0)), (.v (.int .i64 0)), (.v (.slice none 0 0)), (.v (.slice none 0 0)), (.v (.slice none 0 0))]), none⟩,
    ⟨none, .store 5 (.t 8) (.t 21), none⟩])
  (.seq (.seq (.ops [⟨some 22, .mov (.t 0), none⟩,
    ⟨some 23, .len false (.t 22), none⟩,
    ⟨some 24, .bin .add false (.t 23) (.c (.v (.int .i64 2))), none⟩,
    ⟨some 25, .bin .sub false (.t 24) (.c (.v (.int .i64 1))), none⟩,
    ⟨some 26, .bin .quo false (.t 25) (.c (.v (.int .i64 2))), none⟩,
    ⟨some 27, .mov (.c (.v (.int .i64 0))), none⟩])
  (.block 0 (.loop
    (.seq (.ops [⟨some 28, .bin .lss false (.t 27) (.t 26), none⟩])
    (.seq (.cond (.t 28)
      .skip
      (.exit 0))
    (.seq (.block 1 (.seq (.ops [⟨some 30, .mov (.t 1), none⟩,
      ⟨some 31, .call 24 [(.t 30)], none⟩,
      ⟨some 29, .mov (.t 31), none⟩,
      ⟨some 32, .extract (.t 29) 0, none⟩,
      ⟨some 33, .extract (.t 29) 1, none⟩,
      ⟨some 9, .alloc (.agg [(.v (.int .i64 0)), (.v (.slice none 0 0)), (.v (.slice none 0 0))]), none⟩,
      ⟨none, .store 3 (.t 9) (.t 32), none⟩,
      ⟨some 10, .mov (.t 33), none⟩])
    (.ops [⟨some 34, .faddr 0 (.t 8), none⟩,
      ⟨some 35, .load 1 false (.t 34), none⟩,
      ⟨some 36, .load 3 true (.t 9), none⟩,
      ⟨some 37, .bslice 3 [(.v (.int .i64 0)), (.v (.slice none 0 0)), (.v (.slice none 0 0))] 1 [(0, 3, (.t 36))], none⟩,
      ⟨some 38, .append 3 56 [(.v (.int .i64 0)), (.v (.slice none 0 0)), (.v (.slice none 0 0))] (.t 35) (.t 37), none⟩,
      ⟨some 39, .faddr 0 (.t 8), none⟩,
      ⟨none, .store 1 (.t 39) (.t 38), none⟩])))
    (.ops [⟨some 40, .bin .add false (.t 27) (.c (.v (.int .i64 1))), none⟩,
      ⟨some 27, .mov (.t 40), none⟩])))))))
  (.seq (.ops [⟨some 41, .load 5 true (.t 8), none⟩,
    ⟨none, .store 5 (.t 4) (.t 41), none⟩,
    ⟨some 5, .mov (.c (.v (.int .i64 0))), none⟩])
  .ret))))))⟩ := by kernel_rfl

theorem ir11 : compF Try.prog 11 = some ⟨16, [.c 4 4 true, .t 5],
  (.seq (.ops [⟨some 4, .alloc (.agg [(.v (.slice none 0 0)), (.v (.int .i64 0)), (.v (.slice none 0 0)), (.v (.slice none 0 0))]), none⟩,
    ⟨some 5, .mov (.c (.v (.int .i64 0))), none⟩])
  (.seq (.seq (.ops [⟨some 6, .mov (.t 1), none⟩,
    ⟨some 7, .bin .lss false (.t 6) (.c (.v (.int .i64 0))), none⟩,
    ⟨some 8, .mov (.t 7), none⟩,
    ⟨some 9, .mov (.t 1), some (8, false)⟩,
    ⟨some 10, .bin .gtr false (.t 9) (.c (.v (.int .i64 1048576))), some (8, false)⟩,
    ⟨some 11, .pick (.t 8) (.c (.v (.bool true))) (.t 10), none⟩])
  (.cond (.t 11)
    (.seq (.ops [⟨some 12, .build [(.v (.slice none 0 0)), (.v (.int .i64 0)), (.v (.slice none 0 0)), (.v (.slice none 0 0))] [], none⟩,
      ⟨none, .store 4 (.t 4) (.t 12), none⟩,
      ⟨some 5, .mov (.c (.v (.int .i64 1))), none⟩])
    .ret)
    .skip))
  (.seq (.ops [⟨some 13, .mov (.t 0), none⟩,
    ⟨some 14, .mov (.t 1), none⟩,
    ⟨some 15, .build [(.v (.slice none 0 0)), (.v (.int .i64 0)), (.v (.slice none 0 0)), (.v (.slice none 0 0))] [(0, 1, (.t 13)), (1, 1, (.t 14))], none⟩,
    ⟨none, .store 4 (.t 4) (.t 15), none⟩,
    ⟨some 5, .mov (.c (.v (.int .i64 0))), none⟩])
  .ret)))⟩ := by kernel_rfl

theorem ir12 : compF Try.prog 12 = some ⟨84, [.c 6 5 true, .t 7, .t 8],
  (.seq (.ops [⟨some 3, .box (.t 0), none⟩,
    ⟨some 6, .alloc (.agg [(.v (.slice none 0 0)), (.v (.int .i64 0)), (.v (.slice none 0 0)), (.v (.slice none 0 0)), (.v (.slice none 0 0))]), none⟩,
    ⟨some 7, .mov (.c (.v (.bool false))), none⟩,
    ⟨some 8, .mov (.c (.v (.int .i64 0))), none⟩])
  (.seq (.seq (.ops [⟨some 17, .mov (.t 1), none⟩,
    ⟨some 18, .mov (.t 2), none⟩,
    ⟨some 19, .call 25 [(.t 17), (.t 18)], none⟩,
    ⟨some 9, .mov (.t 19), none⟩])
  (.seq (.ops [⟨some 20, .mov (.t 9), none⟩,
    ⟨some 21, .bin .neq false (.t 20) (.c (.v (.int .i64 0))), none⟩])
  (.cond (.t 21)
    (.seq (.ops [⟨some 22, .load 5 true (.t 3), none⟩,
      ⟨some 23, .mov (.t 9), none⟩,
      ⟨none, .store 5 (.t 6) (.t 22), none⟩,
      ⟨some 7, .mov (.c (.v (.bool false))), none⟩,
      ⟨some 8, .mov (.t 23), none⟩])
    .ret)
    .skip)))
  (.seq (.seq (.ops [⟨some 24, .load 5 true (.t 3), none⟩,
    ⟨some 25, .mov (.t 1), none⟩,
    ⟨some 26, .mov (.t 2), none⟩,
    ⟨some 27, .call 26 [(.t 24), (.t 25), (.t 26)], none⟩,
    ⟨some 28, .bin .geq false (.t 27) (.c (.v (.int .i64 0))), none⟩])
  (.cond (.t 28)
    (.seq (.ops [⟨some 29, .load 5 true (.t 3), none⟩,
      ⟨none, .store 5 (.t 6) (.t 29), none⟩,
      ⟨some 7, .mov (.c (.v (.bool false))), none⟩,
      ⟨some 8, .mov (.c (.v (.int .i64 0))), none⟩])
    .ret)
    .skip))
  (.seq (.seq (.draw [[⟨some 30, .load 5 true (.t 3), none⟩,
      ⟨some 31, .call 20 [(.t 30)], none⟩,
      ⟨some 32, .faddr 1 (.t 3), none⟩,
      ⟨some 33, .faddr 0 (.t 32), none⟩,
      ⟨some 34, .load 1 false (.t 33), none⟩],
    [⟨some 35, .bin .geq false (.t 31) (.t 34), none⟩]])
  (.cond (.t 35)
    (.seq (.ops [⟨some 36, .load 5 true (.t 3), none⟩,
      ⟨none, .store 5 (.t 6) (.t 36), none⟩,
      ⟨some 7, .mov (.c (.v (.bool false))), none⟩,
      ⟨some 8, .mov (.c (.v (.int .i64 7))), none⟩])
    .ret)
    .skip))
  (.seq (.ops [⟨some 37, .faddr 0 (.t 3), none⟩,
    ⟨some 38, .load 1 false (.t 37), none⟩,
    ⟨some 39, .call 27 [(.t 38)], none⟩,
    ⟨some 40, .faddr 0 (.t 3), none⟩,
    ⟨none, .store 1 (.t 40) (.t 39), none⟩])
  (.seq (.ops [⟨some 10, .alloc (.v (.slice none 0 0)), none⟩])
  (.seq (.seq (.ops [⟨some 41, .mov (.t 1), none⟩,
    ⟨some 42, .mov (.t 2), none⟩,
    ⟨some 43, .call 28 [(.t 41), (.t 42)], none⟩])
  (.block 0 (.range (.t 43) [3, 10] (rcAt Try.prog 12 0))))
  (.seq (.ops [⟨some 68, .faddr 1 (.t 3), none⟩,
    ⟨some 69, .load 3 true (.t 68), none⟩,
    ⟨some 70, .load 1 false (.t 10), none⟩,
    ⟨some 71, .call 29 [(.t 69), (.t 70)], none⟩,
    ⟨some 67, .mov (.t 71), none⟩,
    ⟨some 72, .extract (.t 67) 0, none⟩,
    ⟨some 73, .extract (.t 67) 1, none⟩,
    ⟨some 74, .extract (.t 67) 2, none⟩,
    ⟨some 75, .extract (.t 67) 3, none⟩,
    ⟨some 76, .faddr 1 (.t 3), none⟩,
    ⟨none, .store 3 (.t 76) (.t 72), none⟩])
  (.seq (.ops [⟨some 77, .faddr 4 (.t 3), none⟩,
    ⟨some 78, .load 1 false (.t 77), none⟩,
    ⟨some 79, .call 31 [(.t 78)], none⟩,
    ⟨some 80, .bslice 1 [(.v (.int .u8 0))] 1 [(0, 1, (.c (.v (.int .u8 0))))], none⟩,
    ⟨some 81, .append 1 1 [(.v (.int .u8 0))] (.t 79) (.t 80), none⟩,
    ⟨some 82, .faddr 4 (.t 3), none⟩,
    ⟨none, .store 1 (.t 82) (.t 81), none⟩])
  (.seq (.ops [⟨some 83, .load 5 true (.t 3), none⟩,
    ⟨none, .store 5 (.t 6) (.t 83), none⟩,
    ⟨some 7, .mov (.c (.v (.bool true))), none⟩,
    ⟨some 8, .mov (.c (.v (.int .i64 0))), none⟩])
  .ret))))))))))⟩ := by kernel_rfl

theorem rc12 : RcOK (fun _ => false) Try.prog 84 (rcAt Try.prog 12 0) [44, 45]
  (.seq (.ops [⟨some 11, .mov (.t 44), none⟩])
  (.ops [⟨some 12, .mov (.t 45), none⟩]))
  (.block 1 (.seq (.ops [⟨some 47, .faddr 0 (.t 3), none⟩,
    ⟨some 48, .load 1 false (.t 47), none⟩,
    ⟨some 49, .mov (.t 11), none⟩,
    ⟨some 50, .iaddr 3 (.t 48) (.t 49), none⟩,
    ⟨some 51, .load 3 true (.t 50), none⟩,
    ⟨some 52, .mov (.t 12), none⟩,
    ⟨some 53, .call 29 [(.t 51), (.t 52)], none⟩,
    ⟨some 46, .mov (.t 53), none⟩,
    ⟨some 54, .extract (.t 46) 0, none⟩,
    ⟨some 55, .extract (.t 46) 1, none⟩,
    ⟨some 56, .extract (.t 46) 2, none⟩,
    ⟨some 57, .extract (.t 46) 3, none⟩,
    ⟨some 13, .alloc (.agg [(.v (.int .i64 0)), (.v (.slice none 0 0)), (.v (.slice none 0 0))]), none⟩,
    ⟨none, .store 3 (.t 13) (.t 54), none⟩,
    ⟨some 14, .mov (.t 55), none⟩,
    ⟨some 15, .mov (.t 56), none⟩,
    ⟨some 16, .mov (.t 57), none⟩])
  (.drawF [([0, 1, 2, 3], [⟨some 58, .faddr 0 (.t 3), none⟩,
      ⟨some 59, .load 1 false (.t 58), none⟩,
      ⟨some 60, .mov (.t 11), none⟩,
      ⟨some 61, .load 3 true (.t 13), none⟩,
      ⟨some 62, .load 1 false (.t 10), none⟩,
      ⟨some 63, .mov (.t 14), none⟩,
      ⟨some 64, .bslice 1 [(.v (.int .i64 0))] 1 [(0, 1, (.t 63))], none⟩,
      ⟨some 65, .call 30 [(.t 62), (.t 64)], none⟩]),
    ([], [⟨some 66, .iaddr 3 (.t 59) (.t 60), none⟩]),
    ([], [⟨none, .store 3 (.t 66) (.t 61), none⟩]),
    ([], [⟨none, .store 1 (.t 10) (.t 65), none⟩])]))) := ⟨by kernel_rfl, by kernel_rfl, by kernel_rfl, by kernel_rfl, by kernel_rfl, by kernel_rfl, by kernel_rfl⟩

theorem ir13 : compF Try.prog 13 = some ⟨49, [.c 4 4 true, .t 5, .t 6],
  (.seq (.ops [⟨some 2, .box (.t 0), none⟩,
    ⟨some 4, .alloc (.agg [(.v (.slice none 0 0)), (.v (.int .i64 0)), (.v (.slice none 0 0)), (.v (.slice none 0 0))]), none⟩,
    ⟨some 5, .mov (.c (.v (.bool false))), none⟩,
    ⟨some 6, .mov (.c (.v (.int .i64 0))), none⟩])
  (.seq (.ops [⟨some 8, .faddr 0 (.t 2), none⟩,
    ⟨some 9, .load 1 false (.t 8), none⟩,
    ⟨some 10, .mov (.t 1), none⟩,
    ⟨some 11, .call 32 [(.t 9), (.t 10)], none⟩,
    ⟨some 7, .mov (.t 11), none⟩])
  (.seq (.seq (.ops [⟨some 12, .mov (.t 7), none⟩,
    ⟨some 13, .bin .neq false (.t 12) (.c (.v (.int .i64 0))), none⟩])
  (.cond (.t 13)
    (.seq (.ops [⟨some 14, .load 4 true (.t 2), none⟩,
      ⟨some 15, .mov (.t 7), none⟩,
      ⟨none, .store 4 (.t 4) (.t 14), none⟩,
      ⟨some 5, .mov (.c (.v (.bool false))), none⟩,
      ⟨some 6, .mov (.t 15), none⟩])
    .ret)
    .skip))
  (.seq (.seq (.ops [⟨some 16, .load 4 true (.t 2), none⟩,
    ⟨some 17, .mov (.t 1), none⟩,
    ⟨some 18, .call 33 [(.t 16), (.t 17)], none⟩,
    ⟨some 19, .bin .geq false (.t 18) (.c (.v (.int .i64 0))), none⟩])
  (.cond (.t 19)
    (.seq (.ops [⟨some 20, .load 4 true (.t 2), none⟩,
      ⟨none, .store 4 (.t 4) (.t 20), none⟩,
      ⟨some 5, .mov (.c (.v (.bool false))), none⟩,
      ⟨some 6, .mov (.c (.v (.int .i64 0))), none⟩])
    .ret)
    .skip))
  (.seq (.seq (.ops [⟨some 21, .faddr 2 (.t 2), none⟩,
    ⟨some 22, .load 1 false (.t 21), none⟩,
    ⟨some 23, .len false (.t 22), none⟩,
    ⟨some 24, .faddr 1 (.t 2), none⟩,
    ⟨some 25, .load 1 false (.t 24), none⟩,
    ⟨some 26, .bin .geq false (.t 23) (.t 25), none⟩])
  (.cond (.t 26)
    (.seq (.ops [⟨some 27, .load 4 true (.t 2), none⟩,
      ⟨none, .store 4 (.t 4) (.t 27), none⟩,
      ⟨some 5, .mov (.c (.v (.bool false))), none⟩,
      ⟨some 6, .mov (.c (.v (.int .i64 7))), none⟩])
    .ret)
    .skip))
  (.seq (.drawF [([0, 1, 2, 3], [⟨some 28, .faddr 0 (.t 2), none⟩,
      ⟨some 29, .load 1 false (.t 28), none⟩,
      ⟨some 30, .faddr 1 (.t 2), none⟩,
      ⟨some 31, .load 1 false (.t 30), none⟩,
      ⟨some 32, .bslice 1 [(.v (.slice none 0 0))] 0 [], none⟩,
      ⟨some 33, .faddr 2 (.t 2), none⟩,
      ⟨some 34, .load 1 false (.t 33), none⟩,
      ⟨some 35, .append 1 24 [(.v (.slice none 0 0))] (.t 32) (.t 34), none⟩,
      ⟨some 36, .bslice 1 [(.v (.int .i64 0))] 0 [], none⟩,
      ⟨some 37, .mov (.t 1), none⟩,
      ⟨some 38, .append 1 8 [(.v (.int .i64 0))] (.t 36) (.t 37), none⟩,
      ⟨some 39, .bslice 1 [(.v (.slice none 0 0))] 1 [(0, 1, (.t 38))], none⟩,
      ⟨some 40, .append 1 24 [(.v (.slice none 0 0))] (.t 35) (.t 39), none⟩,
      ⟨some 41, .bslice 2 [(.v (.bool false)), (.v (.bool false))] 0 [], none⟩,
      ⟨some 42, .faddr 3 (.t 2), none⟩,
      ⟨some 43, .load 1 false (.t 42), none⟩,
      ⟨some 44, .append 2 2 [(.v (.bool false)), (.v (.bool false))] (.t 41) (.t 43), none⟩,
      ⟨some 45, .build [(.v (.bool false)), (.v (.bool false))] [], none⟩,
      ⟨some 46, .bslice 2 [(.v (.bool false)), (.v (.bool false))] 1 [(0, 2, (.t 45))], none⟩,
      ⟨some 47, .append 2 2 [(.v (.bool false)), (.v (.bool false))] (.t 44) (.t 46), none⟩]),
    ([], [⟨some 48, .build [(.v (.slice none 0 0)), (.v (.int .i64 0)), (.v (.slice none 0 0)), (.v (.slice none 0 0))] [(0, 1, (.t 29)), (1, 1, (.t 31)), (2, 1, (.t 40)), (3, 1, (.t 47))], none⟩]),
    ([], [⟨none, .store 4 (.t 4) (.t 48), none⟩]),
    ([], [⟨some 5, .mov (.c (.v (.bool true))), none⟩]),
    ([], [⟨some 6, .mov (.c (.v (.int .i64 0))), none⟩])])
  .ret))))))⟩ := by kernel_rfl

theorem ir14 : compF Try.prog 14 = some ⟨38, [.c 8 5 true, .t 9],
  (.seq (.ops [⟨some 4, .box (.t 0), none⟩,
    ⟨some 8, .alloc (.agg [(.v (.slice none 0 0)), (.v (.int .i64 0)), (.v (.slice none 0 0)), (.v (.slice none 0 0)), (.v (.slice none 0 0))]), none⟩,
    ⟨some 9, .mov (.c (.v (.int .i64 0))), none⟩])
  (.seq (.ops [⟨some 13, .load 5 true (.t 4), none⟩,
    ⟨some 14, .mov (.t 1), none⟩,
    ⟨some 15, .mov (.t 2), none⟩,
    ⟨some 16, .mov (.t 3), none⟩,
    ⟨some 17, .call 34 [(.t 13), (.t 14), (.t 15), (.t 16)], none⟩,
    ⟨some 12, .mov (.t 17), none⟩,
    ⟨some 18, .extract (.t 12) 0, none⟩,
    ⟨some 19, .extract (.t 12) 1, none⟩,
    ⟨some 10, .mov (.t 18), none⟩,
    ⟨some 11, .mov (.t 19), none⟩])
  (.seq (.seq (.ops [⟨some 20, .mov (.t 11), none⟩,
    ⟨some 21, .bin .neq false (.t 20) (.c (.v (.int .i64 0))), none⟩])
  (.cond (.t 21)
    (.seq (.ops [⟨some 22, .load 5 true (.t 4), none⟩,
      ⟨some 23, .mov (.t 11), none⟩,
      ⟨none, .store 5 (.t 8) (.t 22), none⟩,
      ⟨some 9, .mov (.t 23), none⟩])
    .ret)
    .skip))
  (.seq (.ops [⟨some 24, .faddr 4 (.t 4), none⟩,
    ⟨some 25, .load 1 false (.t 24), none⟩,
    ⟨some 26, .call 35 [(.t 25)], none⟩,
    ⟨some 27, .faddr 4 (.t 4), none⟩,
    ⟨none, .store 1 (.t 27) (.t 26), none⟩])
  (.seq (.draw [[⟨some 28, .faddr 4 (.t 4), none⟩,
      ⟨some 29, .load 1 false (.t 28), none⟩,
      ⟨some 30, .mov (.t 10), none⟩,
      ⟨some 31, .iaddr 1 (.t 29) (.t 30), none⟩,
      ⟨some 32, .load 1 false (.t 31), none⟩,
      ⟨some 33, .mov (.t 3), none⟩,
      ⟨some 34, .bin .shl false (.c (.v (.int .u8 1))) (.t 33), none⟩],
    [⟨some 35, .bin .or false (.t 32) (.t 34), none⟩],
    [⟨some 36, .iaddr 1 (.t 29) (.t 30), none⟩],
    [⟨none, .store 1 (.t 36) (.t 35), none⟩]])
  (.seq (.ops [⟨some 37, .load 5 true (.t 4), none⟩,
    ⟨none, .store 5 (.t 8) (.t 37), none⟩,
    ⟨some 9, .mov (.c (.v (.int .i64 0))), none⟩])
  .ret))))))⟩ := by kernel_rfl

theorem ir15 : compF Try.prog 15 = some ⟨39, [.c 6 4 true, .t 7],
  (.seq (.ops [⟨some 3, .box (.t 0), none⟩,
    ⟨some 6, .alloc (.agg [(.v (.slice none 0 0)), (.v (.int .i64 0)), (.v (.slice none 0 0)), (.v (.slice none 0 0))]), none⟩,
    ⟨some 7, .mov (.c (.v (.int .i64 0))), none⟩])
  (.seq (.ops [⟨some 12, .load 4 true (.t 3), none⟩,
    ⟨some 13, .mov (.t 1), none⟩,
    ⟨some 14, .mov (.t 2), none⟩,
    ⟨some 15, .call 36 [(.t 12), (.t 13), (.t 14)], none⟩,
    ⟨some 11, .mov (.t 15), none⟩,
    ⟨some 16, .extract (.t 11) 0, none⟩,
    ⟨some 17, .extract (.t 11) 1, none⟩,
    ⟨some 8, .mov (.t 16), none⟩,
    ⟨some 9, .mov (.t 17), none⟩])
  (.seq (.seq (.ops [⟨some 18, .mov (.t 9), none⟩,
    ⟨some 19, .bin .neq false (.t 18) (.c (.v (.int .i64 0))), none⟩])
  (.cond (.t 19)
    (.seq (.ops [⟨some 20, .load 4 true (.t 3), none⟩,
      ⟨some 21, .mov (.t 9), none⟩,
      ⟨none, .store 4 (.t 6) (.t 20), none⟩,
      ⟨some 7, .mov (.t 21), none⟩])
    .ret)
    .skip))
  (.seq (.ops [⟨some 22, .bslice 2 [(.v (.bool false)), (.v (.bool false))] 0 [], none⟩,
    ⟨some 23, .faddr 3 (.t 3), none⟩,
    ⟨some 24, .load 1 false (.t 23), none⟩,
    ⟨some 25, .append 2 2 [(.v (.bool false)), (.v (.bool false))] (.t 22) (.t 24), none⟩,
    ⟨some 10, .mov (.t 25), none⟩])
  (.seq (.ops [⟨some 26, .mov (.t 10), none⟩,
    ⟨some 27, .mov (.t 8), none⟩,
    ⟨some 28, .mov (.t 2), none⟩,
    ⟨some 29, .iaddr 2 (.t 26) (.t 27), none⟩,
    ⟨some 30, .iaddrA 2 1 (.t 29) (.t 28), none⟩,
    ⟨none, .store 1 (.t 30) (.c (.v (.bool true))), none⟩])
  (.seq (.ops [⟨some 31, .faddr 0 (.t 3), none⟩,
    ⟨some 32, .load 1 false (.t 31), none⟩,
    ⟨some 33, .faddr 1 (.t 3), none⟩,
    ⟨some 34, .load 1 false (.t 33), none⟩,
    ⟨some 35, .faddr 2 (.t 3), none⟩,
    ⟨some 36, .load 1 false (.t 35), none⟩,
    ⟨some 37, .mov (.t 10), none⟩,
    ⟨some 38, .build [(.v (.slice none 0 0)), (.v (.int .i64 0)), (.v (.slice none 0 0)), (.v (.slice none 0 0))] [(0, 1, (.t 32)), (1, 1, (.t 34)), (2, 1, (.t 36)), (3, 1, (.t 37))], none⟩,
    ⟨none, .store 4 (.t 6) (.t 38), none⟩,
    ⟨some 7, .mov (.c (.v (.int .i64 0))), none⟩])
  .ret))))))⟩ := by kernel_rfl

theorem ir16 : compF Try.prog 16 = some ⟨32, [.t 8, .t 9],
  (.seq (.ops [⟨some 4, .box (.t 0), none⟩,
    ⟨some 8, .mov (.c (.v (.bool false))), none⟩,
    ⟨some 9, .mov (.c (.v (.int .i64 0))), none⟩])
  (.seq (.ops [⟨some 13, .load 5 true (.t 4), none⟩,
    ⟨some 14, .mov (.t 1), none⟩,
    ⟨some 15, .mov (.t 2), none⟩,
    ⟨some 16, .mov (.t 3), none⟩,
    ⟨some 17, .call 34 [(.t 13), (.t 14), (.t 15), (.t 16)], none⟩,
    ⟨some 12, .mov (.t 17), none⟩,
    ⟨some 18, .extract (.t 12) 0, none⟩,
    ⟨some 19, .extract (.t 12) 1, none⟩,
    ⟨some 10, .mov (.t 18), none⟩,
    ⟨some 11, .mov (.t 19), none⟩])
  (.seq (.seq (.ops [⟨some 20, .mov (.t 11), none⟩,
    ⟨some 21, .bin .neq false (.t 20) (.c (.v (.int .i64 0))), none⟩])
  (.cond (.t 21)
    (.seq (.ops [⟨some 22, .mov (.t 11), none⟩,
      ⟨some 8, .mov (.c (.v (.bool false))), none⟩,
      ⟨some 9, .mov (.t 22), none⟩])
    .ret)
    .skip))
  (.seq (.ops [⟨some 23, .faddr 4 (.t 4), none⟩,
    ⟨some 24, .load 1 false (.t 23), none⟩,
    ⟨some 25, .mov (.t 10), none⟩,
    ⟨some 26, .iaddr 1 (.t 24) (.t 25), none⟩,
    ⟨some 27, .load 1 false (.t 26), none⟩,
    ⟨some 28, .mov (.t 3), none⟩,
    ⟨some 29, .bin .shr false (.t 27) (.t 28), none⟩,
    ⟨some 30, .bin .and false (.t 29) (.c (.v (.int .u8 1))), none⟩,
    ⟨some 31, .bin .eql false (.t 30) (.c (.v (.int .u8 1))), none⟩,
    ⟨some 8, .mov (.t 31), none⟩,
    ⟨some 9, .mov (.c (.v (.int .i64 0))), none⟩])
  .ret))))⟩ := by kernel_rfl

theorem ir17 : compF Try.prog 17 = some ⟨27, [.t 6, .t 7],
  (.seq (.ops [⟨some 3, .box (.t 0), none⟩,
    ⟨some 6, .mov (.c (.v (.bool false))), none⟩,
    ⟨some 7, .mov (.c (.v (.int .i64 0))), none⟩])
  (.seq (.ops [⟨some 11, .load 4 true (.t 3), none⟩,
    ⟨some 12, .mov (.t 1), none⟩,
    ⟨some 13, .mov (.t 2), none⟩,
    ⟨some 14, .call 36 [(.t 11), (.t 12), (.t 13)], none⟩,
    ⟨some 10, .mov (.t 14), none⟩,
    ⟨some 15, .extract (.t 10) 0, none⟩,
    ⟨some 16, .extract (.t 10) 1, none⟩,
    ⟨some 8, .mov (.t 15), none⟩,
    ⟨some 9, .mov (.t 16), none⟩])
  (.seq (.seq (.ops [⟨some 17, .mov (.t 9), none⟩,
    ⟨some 18, .bin .neq false (.t 17) (.c (.v (.int .i64 0))), none⟩])
  (.cond (.t 18)
    (.seq (.ops [⟨some 19, .mov (.t 9), none⟩,
      ⟨some 6, .mov (.c (.v (.bool false))), none⟩,
      ⟨some 7, .mov (.t 19), none⟩])
    .ret)
    .skip))
  (.seq (.ops [⟨some 20, .faddr 3 (.t 3), none⟩,
    ⟨some 21, .load 1 false (.t 20), none⟩,
    ⟨some 22, .mov (.t 8), none⟩,
    ⟨some 23, .mov (.t 2), none⟩,
    ⟨some 24, .iaddr 2 (.t 21) (.t 22), none⟩,
    ⟨some 25, .iaddrA 2 1 (.t 24) (.t 23), none⟩,
    ⟨some 26, .load 1 false (.t 25), none⟩,
    ⟨some 6, .mov (.t 26), none⟩,
    ⟨some 7, .mov (.c (.v (.int .i64 0))), none⟩])
  .ret))))⟩ := by kernel_rfl

theorem ir18 : compF Try.prog 18 = some ⟨20, [.t 6, .t 7],
  (.seq (.ops [⟨some 3, .box (.t 0), none⟩,
    ⟨some 6, .mov (.c (.v (.bool false))), none⟩,
    ⟨some 7, .mov (.c (.v (.int .i64 0))), none⟩])
  (.seq (.seq (.ops [⟨some 9, .mov (.t 1), none⟩,
    ⟨some 10, .mov (.t 2), none⟩,
    ⟨some 11, .call 25 [(.t 9), (.t 10)], none⟩,
    ⟨some 8, .mov (.t 11), none⟩])
  (.seq (.ops [⟨some 12, .mov (.t 8), none⟩,
    ⟨some 13, .bin .neq false (.t 12) (.c (.v (.int .i64 0))), none⟩])
  (.cond (.t 13)
    (.seq (.ops [⟨some 14, .mov (.t 8), none⟩,
      ⟨some 6, .mov (.c (.v (.bool false))), none⟩,
      ⟨some 7, .mov (.t 14), none⟩])
    .ret)
    .skip)))
  (.seq (.ops [⟨some 15, .load 5 true (.t 3), none⟩,
    ⟨some 16, .mov (.t 1), none⟩,
    ⟨some 17, .mov (.t 2), none⟩,
    ⟨some 18, .call 26 [(.t 15), (.t 16), (.t 17)], none⟩,
    ⟨some 19, .bin .geq false (.t 18) (.c (.v (.int .i64 0))), none⟩,
    ⟨some 6, .mov (.t 19), none⟩,
    ⟨some 7, .mov (.c (.v (.int .i64 0))), none⟩])
  .ret)))⟩ := by kernel_rfl

theorem ir19 : compF Try.prog 19 = some ⟨18, [.t 4, .t 5],
  (.seq (.ops [⟨some 2, .box (.t 0), none⟩,
    ⟨some 4, .mov (.c (.v (.bool false))), none⟩,
    ⟨some 5, .mov (.c (.v (.int .i64 0))), none⟩])
  (.seq (.ops [⟨some 7, .faddr 0 (.t 2), none⟩,
    ⟨some 8, .load 1 false (.t 7), none⟩,
    ⟨some 9, .mov (.t 1), none⟩,
    ⟨some 10, .call 32 [(.t 8), (.t 9)], none⟩,
    ⟨some 6, .mov (.t 10), none⟩])
  (.seq (.seq (.ops [⟨some 11, .mov (.t 6), none⟩,
    ⟨some 12, .bin .neq false (.t 11) (.c (.v (.int .i64 0))), none⟩])
  (.cond (.t 12)
    (.seq (.ops [⟨some 13, .mov (.t 6), none⟩,
      ⟨some 4, .mov (.c (.v (.bool false))), none⟩,
      ⟨some 5, .mov (.t 13), none⟩])
    .ret)
    .skip))
  (.seq (.ops [⟨some 14, .load 4 true (.t 2), none⟩,
    ⟨some 15, .mov (.t 1), none⟩,
    ⟨some 16, .call 33 [(.t 14), (.t 15)], none⟩,
    ⟨some 17, .bin .geq false (.t 16) (.c (.v (.int .i64 0))), none⟩,
    ⟨some 4, .mov (.t 17), none⟩,
    ⟨some 5, .mov (.c (.v (.int .i64 0))), none⟩])
  .ret))))⟩ := by kernel_rfl

theorem ir20 : compF Try.prog 20 = some ⟨6, [.t 2],
  (.seq (.ops [⟨some 1, .box (.t 0), none⟩,
    ⟨some 2, .mov (.c (.v (.int .i64 0))), none⟩])
  (.seq (.ops [⟨some 3, .faddr 1 (.t 1), none⟩,
    ⟨some 4, .load 3 true (.t 3), none⟩,
    ⟨some 5, .call 37 [(.t 4)], none⟩,
    ⟨some 2, .mov (.t 5), none⟩])
  .ret))⟩ := by kernel_rfl

theorem ir21 : compF Try.prog 21 = some ⟨26, [.t 4],
  (.seq (.ops [⟨some 4, .mov (.c (.v (.bool false))), none⟩])
  (.seq (.seq (.ops [⟨some 6, .mov (.t 0), none⟩,
    ⟨some 7, .len false (.t 6), none⟩,
    ⟨some 8, .mov (.t 1), none⟩,
    ⟨some 9, .len false (.t 8), none⟩,
    ⟨some 10, .bin .neq false (.t 7) (.t 9), none⟩])
  (.cond (.t 10)
    (.seq (.ops [⟨some 4, .mov (.c (.v (.bool false))), none⟩])
    .ret)
    .skip))
  (.seq (.seq (.ops [⟨some 5, .mov (.c (.v (.int .i64 0))), none⟩])
  (.block 0 (.loop
    (.seq (.seq (.ops [⟨some 11, .mov (.t 5), none⟩,
      ⟨some 12, .mov (.t 0), none⟩,
      ⟨some 13, .len false (.t 12), none⟩,
      ⟨some 14, .bin .lss false (.t 11) (.t 13), none⟩])
    (.cond (.t 14)
      .skip
      (.exit 0)))
    (.seq (.block 1 (.seq (.draw [[⟨some 17, .mov (.t 0), none⟩,
        ⟨some 18, .mov (.t 5), none⟩,
        ⟨some 19, .iaddr 1 (.t 17) (.t 18), none⟩,
        ⟨some 20, .load 1 false (.t 19), none⟩,
        ⟨some 21, .mov (.t 1), none⟩,
        ⟨some 22, .mov (.t 5), none⟩,
        ⟨some 23, .iaddr 1 (.t 21) (.t 22), none⟩,
        ⟨some 24, .load 1 false (.t 23), none⟩],
      [⟨some 25, .bin .neq false (.t 20) (.t 24), none⟩]])
    (.cond (.t 25)
      (.seq (.ops [⟨some 4, .mov (.c (.v (.bool false))), none⟩])
      .ret)
      .skip)))
    (.ops [⟨some 15, .mov (.t 5), none⟩,
      ⟨some 16, .bin .add false (.t 15) (.c (.v (.int .i64 1))), none⟩,
      ⟨some 5, .mov (.t 16), none⟩]))))))
  (.seq (.ops [⟨some 4, .mov (.c (.v (.bool true))), none⟩])
  .ret))))⟩ := by kernel_rfl

theorem ir22 : compF Try.prog 22 = some ⟨20, [.t 2],
  (.seq (.ops [⟨some 1, .box (.t 0), none⟩,
    ⟨some 2, .mov (.c (.v (.slice none 0 0))), none⟩])
  (.seq (.ops [⟨some 3, .mov (.c (.v (.slice none 0 0))), none⟩])
  (.seq (.seq (.ops [⟨some 6, .faddr 0 (.t 1), none⟩,
    ⟨some 7, .load 1 false (.t 6), none⟩,
    ⟨some 8, .len false (.t 7), none⟩,
    ⟨some 9, .mov (.c (.v (.int .i64 0))), none⟩])
  (.block 0 (.loop
    (.seq (.ops [⟨some 10, .bin .lss false (.t 9) (.t 8), none⟩])
    (.seq (.cond (.t 10)
      .skip
      (.exit 0))
    (.seq (.block 1 (.seq (.ops [⟨some 11, .iaddr 3 (.t 7) (.t 9), none⟩,
      ⟨some 12, .load 3 true (.t 11), none⟩,
      ⟨some 5, .alloc (.agg [(.v (.int .i64 0)), (.v (.slice none 0 0)), (.v (.slice none 0 0))]), none⟩,
      ⟨none, .store 3 (.t 5) (.t 12), none⟩])
    (.ops [⟨some 13, .mov (.t 3), none⟩,
      ⟨some 14, .load 3 true (.t 5), none⟩,
      ⟨some 15, .call 37 [(.t 14)], none⟩,
      ⟨some 16, .bslice 1 [(.v (.int .i64 0))] 1 [(0, 1, (.t 15))], none⟩,
      ⟨some 17, .append 1 8 [(.v (.int .i64 0))] (.t 13) (.t 16), none⟩,
      ⟨some 3, .mov (.t 17), none⟩])))
    (.ops [⟨some 18, .bin .add false (.t 9) (.c (.v (.int .i64 1))), none⟩,
      ⟨some 9, .mov (.t 18), none⟩])))))))
  (.seq (.ops [⟨some 19, .mov (.t 3), none⟩,
    ⟨some 2, .mov (.t 19), none⟩])
  .ret))))⟩ := by kernel_rfl

theorem ir23 : compF Try.prog 23 = some ⟨32, [.t 2],
  (.seq (.ops [⟨some 1, .box (.t 0), none⟩,
    ⟨some 2, .mov (.c (.v (.slice none 0 0))), none⟩])
  (.seq (.ops [⟨some 3, .mov (.c (.v (.slice none 0 0))), none⟩])
  (.seq (.seq (.ops [⟨some 4, .mov (.c (.v (.int .i64 0))), none⟩])
  (.block 0 (.loop
    (.seq (.seq (.ops [⟨some 6, .mov (.t 4), none⟩,
      ⟨some 7, .faddr 0 (.t 1), none⟩,
      ⟨some 8, .load 1 false (.t 7), none⟩,
      ⟨some 9, .len false (.t 8), none⟩,
      ⟨some 10, .bin .lss false (.t 6) (.t 9), none⟩])
    (.cond (.t 10)
      .skip
      (.exit 0)))
    (.seq (.block 1 (.seq (.ops [⟨some 13, .mov (.t 4), none⟩,
      ⟨some 14, .bin .add false (.t 13) (.c (.v (.int .i64 2))), none⟩,
      ⟨some 5, .mov (.t 14), none⟩])
    (.seq (.seq (.ops [⟨some 15, .mov (.t 5), none⟩,
      ⟨some 16, .faddr 0 (.t 1), none⟩,
      ⟨some 17, .load 1 false (.t 16), none⟩,
      ⟨some 18, .len false (.t 17), none⟩,
      ⟨some 19, .bin .gtr false (.t 15) (.t 18), none⟩])
    (.cond (.t 19)
      (.ops [⟨some 20, .faddr 0 (.t 1), none⟩,
        ⟨some 21, .load 1 false (.t 20), none⟩,
        ⟨some 22, .len false (.t 21), none⟩,
        ⟨some 5, .mov (.t 22), none⟩])
      .skip))
    (.ops [⟨some 23, .mov (.t 3), none⟩,
      ⟨some 24, .faddr 2 (.t 1), none⟩,
      ⟨some 25, .load 1 false (.t 24), none⟩,
      ⟨some 26, .mov (.t 4), none⟩,
      ⟨some 27, .mov (.t 5), none⟩,
      ⟨some 28, .call 38 [(.t 25), (.t 26), (.t 27)], none⟩,
      ⟨some 29, .bslice 1 [(.v (.int .i64 0))] 1 [(0, 1, (.t 28))], none⟩,
      ⟨some 30, .append 1 8 [(.v (.int .i64 0))] (.t 23) (.t 29), none⟩,
      ⟨some 3, .mov (.t 30), none⟩]))))
    (.ops [⟨some 11, .mov (.t 4), none⟩,
      ⟨some 12, .bin .add false (.t 11) (.c (.v (.int .i64 2))), none⟩,
      ⟨some 4, .mov (.t 12), none⟩]))))))
  (.seq (.ops [⟨some 31, .mov (.t 3), none⟩,
    ⟨some 2, .mov (.t 31), none⟩])
  .ret))))⟩ := by kernel_rfl

theorem ir24 : compF Try.prog 24 = some ⟨14, [.c 2 3 true, .t 3],
  (.seq (.ops [⟨some 2, .alloc (.agg [(.v (.int .i64 0)), (.v (.slice none 0 0)), (.v (.slice none 0 0))]), none⟩,
    ⟨some 3, .mov (.c (.v (.int .i64 0))), none⟩])
  (.seq (.seq (.ops [⟨some 4, .mov (.t 0), none⟩,
    ⟨some 5, .bin .lss false (.t 4) (.c (.v (.int .i64 0))), none⟩,
    ⟨some 6, .mov (.t 5), none⟩,
    ⟨some 7, .mov (.t 0), some (6, false)⟩,
    ⟨some 8, .bin .gtr false (.t 7) (.c (.v (.int .i64 1048576))), some (6, false)⟩,
    ⟨some 9, .pick (.t 6) (.c (.v (.bool true))) (.t 8), none⟩])
  (.cond (.t 9)
    (.seq (.ops [⟨some 10, .build [(.v (.int .i64 0)), (.v (.slice none 0 0)), (.v (.slice none 0 0))] [], none⟩,
      ⟨none, .store 3 (.t 2) (.t 10), none⟩,
      ⟨some 3, .mov (.c (.v (.int .i64 1))), none⟩])
    .ret)
    .skip))
  (.seq (.ops [⟨some 11, .mov (.t 0), none⟩,
    ⟨some 12, .mksl 1 8 [(.v (.int .i64 0))] (.c (.v (.int .i64 8))) (.c (.v (.int .i64 8))), none⟩,
    ⟨some 13, .build [(.v (.int .i64 0)), (.v (.slice none 0 0)), (.v (.slice none 0 0))] [(0, 1, (.t 11)), (2, 1, (.t 12))], none⟩,
    ⟨none, .store 3 (.t 2) (.t 13), none⟩,
    ⟨some 3, .mov (.c (.v (.int .i64 0))), none⟩])
  .ret)))⟩ := by kernel_rfl

theorem ir25 : compF Try.prog 25 = some ⟨27, [.t 4],
  (.seq (.ops [⟨some 4, .mov (.c (.v (.int .i64 0))), none⟩])
  (.seq (.seq (.ops [⟨some 7, .mov (.t 1), none⟩,
    ⟨some 8, .len false (.t 7), none⟩,
    ⟨some 9, .mov (.t 0), none⟩,
    ⟨some 10, .len false (.t 9), none⟩,
    ⟨some 11, .bin .neq false (.t 8) (.t 10), none⟩])
  (.cond (.t 11)
    (.seq (.ops [⟨some 4, .mov (.c (.v (.int .i64 1))), none⟩])
    .ret)
    .skip))
  (.seq (.seq (.ops [⟨some 12, .mov (.t 1), none⟩,
    ⟨some 13, .len false (.t 12), none⟩,
    ⟨some 14, .mov (.c (.v (.int .i64 0))), none⟩])
  (.block 0 (.loop
    (.seq (.ops [⟨some 15, .bin .lss false (.t 14) (.t 13), none⟩])
    (.seq (.cond (.t 15)
      .skip
      (.exit 0))
    (.seq (.block 1 (.seq (.ops [⟨some 16, .mov (.t 14), none⟩,
      ⟨some 17, .iaddr 1 (.t 12) (.t 14), none⟩,
      ⟨some 18, .load 1 false (.t 17), none⟩,
      ⟨some 5, .mov (.t 16), none⟩,
      ⟨some 6, .mov (.t 18), none⟩])
    (.seq (.ops [⟨some 19, .mov (.t 0), none⟩,
      ⟨some 20, .mov (.t 5), none⟩,
      ⟨some 21, .iaddr 2 (.t 19) (.t 20), none⟩,
      ⟨some 22, .load 2 true (.t 21), none⟩,
      ⟨some 23, .mov (.t 6), none⟩,
      ⟨some 24, .call 39 [(.t 22), (.t 23)], none⟩,
      ⟨some 25, .un .not (.t 24), none⟩])
    (.cond (.t 25)
      (.seq (.ops [⟨some 4, .mov (.c (.v (.int .i64 5))), none⟩])
      .ret)
      .skip))))
    (.ops [⟨some 26, .bin .add false (.t 14) (.c (.v (.int .i64 1))), none⟩,
      ⟨some 14, .mov (.t 26), none⟩])))))))
  (.seq (.ops [⟨some 4, .mov (.c (.v (.int .i64 0))), none⟩])
  .ret))))⟩ := by kernel_rfl

theorem ir26 : compF Try.prog 26 = some ⟨45, [.c 6 1 false],
  (.seq (.ops [⟨some 3, .box (.t 0), none⟩,
    ⟨some 6, .alloc (.v (.int .i64 0)), none⟩])
  (.seq (.ops [⟨some 7, .alloc (.v (.slice none 0 0)), none⟩])
  (.seq (.seq (.ops [⟨some 14, .mov (.t 1), none⟩,
    ⟨some 15, .mov (.t 2), none⟩,
    ⟨some 16, .call 28 [(.t 14), (.t 15)], none⟩])
  (.block 0 (.range (.t 16) [3, 6, 7] (rcAt Try.prog 26 0))))
  (.seq (.ops [⟨some 36, .faddr 1 (.t 3), none⟩,
    ⟨some 37, .load 3 true (.t 36), none⟩,
    ⟨some 38, .load 1 false (.t 7), none⟩,
    ⟨some 39, .call 40 [(.t 37), (.t 38)], none⟩,
    ⟨some 35, .mov (.t 39), none⟩,
    ⟨some 40, .extract (.t 35) 0, none⟩,
    ⟨some 41, .extract (.t 35) 1, none⟩,
    ⟨some 12, .mov (.t 40), none⟩,
    ⟨some 13, .mov (.t 41), none⟩])
  (.seq (.seq (.ops [⟨some 42, .mov (.t 13), none⟩,
    ⟨some 43, .un .not (.t 42), none⟩])
  (.cond (.t 43)
    (.seq (.ops [⟨none, .store 1 (.t 6) (.c (.v (.int .i64 (-1)))), none⟩])
    .ret)
    .skip))
  (.seq (.ops [⟨some 44, .mov (.t 12), none⟩,
    ⟨none, .store 1 (.t 6) (.t 44), none⟩])
  .ret))))))⟩ := by kernel_rfl

theorem rc26 : RcOK (fun _ => false) Try.prog 45 (rcAt Try.prog 26 0) [17, 18]
  (.seq (.ops [⟨some 8, .mov (.t 17), none⟩])
  (.ops [⟨some 9, .mov (.t 18), none⟩]))
  (.block 1 (.seq (.ops [⟨some 20, .faddr 0 (.t 3), none⟩,
    ⟨some 21, .load 1 false (.t 20), none⟩,
    ⟨some 22, .mov (.t 8), none⟩,
    ⟨some 23, .iaddr 3 (.t 21) (.t 22), none⟩,
    ⟨some 24, .load 3 true (.t 23), none⟩,
    ⟨some 25, .mov (.t 9), none⟩,
    ⟨some 26, .call 40 [(.t 24), (.t 25)], none⟩,
    ⟨some 19, .mov (.t 26), none⟩,
    ⟨some 27, .extract (.t 19) 0, none⟩,
    ⟨some 28, .extract (.t 19) 1, none⟩,
    ⟨some 10, .mov (.t 27), none⟩,
    ⟨some 11, .mov (.t 28), none⟩])
  (.seq (.seq (.ops [⟨some 29, .mov (.t 11), none⟩,
    ⟨some 30, .un .not (.t 29), none⟩])
  (.cond (.t 30)
    (.seq (.ops [⟨none, .store 1 (.t 6) (.c (.v (.int .i64 (-1)))), none⟩])
    .ret)
    .skip))
  (.ops [⟨some 31, .load 1 false (.t 7), none⟩,
    ⟨some 32, .mov (.t 10), none⟩,
    ⟨some 33, .bslice 1 [(.v (.int .i64 0))] 1 [(0, 1, (.t 32))], none⟩,
    ⟨some 34, .call 30 [(.t 31), (.t 33)], none⟩,
    ⟨none, .store 1 (.t 7) (.t 34), none⟩])))) := ⟨by kernel_rfl, by kernel_rfl, by kernel_rfl, by kernel_rfl, by kernel_rfl, by kernel_rfl, by kernel_rfl⟩

theorem ir27 : compF Try.prog 27 = some ⟨8, [.t 2],
  (.seq (.ops [⟨some 2, .mov (.c (.v (.slice none 0 0))), none⟩])
  (.seq (.seq (.ops [⟨some 3, .mov (.t 0), none⟩,
    ⟨some 4, .isnil false (.t 3), none⟩])
  (.cond (.t 4)
    (.seq (.ops [⟨some 2, .mov (.c (.v (.slice none 0 0))), none⟩])
    .ret)
    .skip))
  (.seq (.ops [⟨some 5, .bslice 3 [(.v (.int .i64 0)), (.v (.slice none 0 0)), (.v (.slice none 0 0))] 0 [], none⟩,
    ⟨some 6, .mov (.t 0), none⟩,
    ⟨some 7, .append 3 56 [(.v (.int .i64 0)), (.v (.slice none 0 0)), (.v (.slice none 0 0))] (.t 5) (.t 6), none⟩,
    ⟨some 2, .mov (.t 7), none⟩])
  .ret)))⟩ := by kernel_rfl

theorem ir28 : compF Try.prog 28 = some ⟨6, [.t 4],
  (.seq (.ops [⟨some 2, .box (.t 0), none⟩,
    ⟨some 3, .box (.t 1), none⟩,
    ⟨some 4, .mov (.c (.v .nilFunc)), none⟩])
  (.seq (.ops [⟨some 5, .mkfn (.func 41) [] [(.t 2), (.t 3)], none⟩,
    ⟨some 4, .mov (.t 5), none⟩])
  .ret))⟩ := by kernel_rfl

theorem ir29 : compF Try.prog 29 = some ⟨86, [.c 4 3 true, .t 5, .t 6, .t 7],
  (.seq (.ops [⟨some 2, .box (.t 0), none⟩,
    ⟨some 4, .alloc (.agg [(.v (.int .i64 0)), (.v (.slice none 0 0)), (.v (.slice none 0 0))]), none⟩,
    ⟨some 5, .mov (.c (.v (.int .i64 0))), none⟩,
    ⟨some 6, .mov (.c (.v (.bool false))), none⟩,
    ⟨some 7, .mov (.c (.v (.int .i64 0))), none⟩])
  (.seq (.seq (.ops [⟨some 14, .load 3 true (.t 2), none⟩,
    ⟨some 15, .mov (.t 1), none⟩,
    ⟨some 16, .call 40 [(.t 14), (.t 15)], none⟩,
    ⟨some 13, .mov (.t 16), none⟩,
    ⟨some 17, .extract (.t 13) 0, none⟩,
    ⟨some 18, .extract (.t 13) 1, none⟩,
    ⟨some 8, .mov (.t 17), none⟩,
    ⟨some 9, .mov (.t 18), none⟩])
  (.seq (.ops [⟨some 19, .mov (.t 9), none⟩])
  (.cond (.t 19)
    (.seq (.ops [⟨some 20, .load 3 true (.t 2), none⟩,
      ⟨some 21, .mov (.t 8), none⟩,
      ⟨none, .store 3 (.t 4) (.t 20), none⟩,
      ⟨some 5, .mov (.t 21), none⟩,
      ⟨some 6, .mov (.c (.v (.bool false))), none⟩,
      ⟨some 7, .mov (.c (.v (.int .i64 0))), none⟩])
    .ret)
    .skip)))
  (.seq (.ops [⟨some 22, .faddr 1 (.t 2), none⟩,
    ⟨some 23, .load 1 false (.t 22), none⟩,
    ⟨some 24, .len false (.t 23), none⟩,
    ⟨some 10, .mov (.t 24), none⟩])
  (.seq (.seq (.ops [⟨some 25, .mov (.t 10), none⟩,
    ⟨some 26, .faddr 0 (.t 2), none⟩,
    ⟨some 27, .load 1 false (.t 26), none⟩,
    ⟨some 28, .bin .geq false (.t 25) (.t 27), none⟩])
  (.cond (.t 28)
    (.seq (.ops [⟨some 29, .load 3 true (.t 2), none⟩,
      ⟨none, .store 3 (.t 4) (.t 29), none⟩,
      ⟨some 5, .mov (.c (.v (.int .i64 0))), none⟩,
      ⟨some 6, .mov (.c (.v (.bool false))), none⟩,
      ⟨some 7, .mov (.c (.v (.int .i64 7))), none⟩])
    .ret)
    .skip))
  (.seq (.ops [⟨some 30, .load 3 true (.t 2), none⟩,
    ⟨some 31, .build [(.v (.int .i64 0)), (.v (.slice none 0 0)), (.v (.slice none 0 0))] [(0, 3, (.t 30))], none⟩,
    ⟨some 32, .build [(.v (.int .i64 0)), (.v (.slice none 0 0)), (.v (.slice none 0 0))] [(0, 3, (.t 31))], none⟩,
    ⟨some 33, .box (.t 32), none⟩,
    ⟨some 11, .mov (.t 33), none⟩])
  (.seq (.ops [⟨some 34, .mov (.t 11), none⟩,
    ⟨some 35, .faddr 1 (.t 2), none⟩,
    ⟨some 36, .load 1 false (.t 35), none⟩,
    ⟨some 37, .call 43 [(.t 36)], none⟩,
    ⟨some 38, .mov (.t 1), none⟩,
    ⟨some 39, .call 44 [(.t 38)], none⟩,
    ⟨some 40, .bslice 1 [(.v (.slice none 0 0))] 1 [(0, 1, (.t 39))], none⟩,
    ⟨some 41, .append 1 24 [(.v (.slice none 0 0))] (.t 37) (.t 40), none⟩,
    ⟨some 42, .nilchk (.t 34), none⟩,
    ⟨some 43, .faddr 0 (.t 42), none⟩,
    ⟨some 44, .faddr 0 (.t 43), none⟩,
    ⟨some 45, .faddr 1 (.t 44), none⟩,
    ⟨none, .store 1 (.t 45) (.t 41), none⟩])
  (.seq (.seq (.ops [⟨some 46, .faddr 2 (.t 2), none⟩,
    ⟨some 47, .load 1 false (.t 46), none⟩,
    ⟨some 48, .len false (.t 47), none⟩,
    ⟨some 49, .mm true (.t 48) [(.c (.v (.int .i64 8)))], none⟩,
    ⟨some 12, .mov (.t 49), none⟩])
  (.seq (.ops [⟨some 50, .mov (.t 10), none⟩,
    ⟨some 51, .bin .add false (.t 50) (.c (.v (.int .i64 1))), none⟩,
    ⟨some 52, .bin .mul false (.c (.v (.int .i64 2))) (.t 51), none⟩,
    ⟨some 53, .mov (.t 12), none⟩,
    ⟨some 54, .bin .gtr false (.t 52) (.t 53), none⟩])
  (.cond (.t 54)
    (.ops [⟨some 55, .mov (.t 11), none⟩,
      ⟨some 56, .mov (.t 12), none⟩,
      ⟨some 57, .bin .mul false (.c (.v (.int .i64 2))) (.t 56), none⟩,
      ⟨some 58, .call 45 [(.t 55), (.t 57)], none⟩])
    (.seq (.ops [⟨some 59, .mov (.t 11), none⟩,
      ⟨some 60, .faddr 2 (.t 2), none⟩,
      ⟨some 61, .load 1 false (.t 60), none⟩,
      ⟨some 62, .call 46 [(.t 61)], none⟩,
      ⟨some 63, .nilchk (.t 59), none⟩,
      ⟨some 64, .faddr 0 (.t 63), none⟩,
      ⟨some 65, .faddr 0 (.t 64), none⟩,
      ⟨some 66, .faddr 2 (.t 65), none⟩,
      ⟨none, .store 1 (.t 66) (.t 62), none⟩])
    (.draw [[⟨some 67, .mov (.t 11), none⟩,
        ⟨some 68, .nilchk (.t 67), none⟩,
        ⟨some 69, .faddr 0 (.t 68), none⟩,
        ⟨some 70, .faddr 0 (.t 69), none⟩,
        ⟨some 71, .faddr 2 (.t 70), none⟩,
        ⟨some 72, .load 1 false (.t 71), none⟩,
        ⟨some 73, .load 3 true (.t 2), none⟩,
        ⟨some 74, .build [(.v (.int .i64 0)), (.v (.slice none 0 0)), (.v (.slice none 0 0))] [(0, 3, (.t 73))], none⟩,
        ⟨some 75, .mov (.t 1), none⟩,
        ⟨some 76, .call 47 [(.t 74), (.t 75)], none⟩,
        ⟨some 77, .mov (.t 10), none⟩,
        ⟨some 78, .bin .add false (.t 77) (.c (.v (.int .i64 1))), none⟩],
      [⟨some 79, .iaddr 1 (.t 72) (.t 76), none⟩],
      [⟨none, .store 1 (.t 79) (.t 78), none⟩]])))))
  (.seq (.ops [⟨some 80, .mov (.t 11), none⟩,
    ⟨some 81, .nilchk (.t 80), none⟩,
    ⟨some 82, .faddr 0 (.t 81), none⟩,
    ⟨some 83, .faddr 0 (.t 82), none⟩,
    ⟨some 84, .load 3 true (.t 83), none⟩,
    ⟨some 85, .mov (.t 10), none⟩,
    ⟨none, .store 3 (.t 4) (.t 84), none⟩,
    ⟨some 5, .mov (.t 85), none⟩,
    ⟨some 6, .mov (.c (.v (.bool true))), none⟩,
    ⟨some 7, .mov (.c (.v (.int .i64 0))), none⟩])
  .ret))))))))⟩ := by kernel_rfl

theorem ir30 : compF Try.prog 30 = some ⟨28, [.t 4],
  (.seq (.ops [⟨some 4, .mov (.c (.v (.slice none 0 0))), none⟩])
  (.seq (.seq (.ops [⟨some 8, .mov (.t 1), none⟩,
    ⟨some 9, .len false (.t 8), none⟩,
    ⟨some 10, .mov (.c (.v (.int .i64 0))), none⟩])
  (.block 0 (.loop
    (.seq (.ops [⟨some 11, .bin .lss false (.t 10) (.t 9), none⟩])
    (.seq (.cond (.t 11)
      .skip
      (.exit 0))
    (.seq (.block 1 (.seq (.ops [⟨some 12, .iaddr 1 (.t 8) (.t 10), none⟩,
      ⟨some 13, .load 1 false (.t 12), none⟩,
      ⟨some 6, .mov (.t 13), none⟩])
    (.seq (.ops [⟨some 14, .mov (.c (.v (.int .i64 0))), none⟩])
    (.block 2 (.loop
      (.seq (.ops [⟨some 15, .bin .lss false (.t 14) (.c (.v (.int .i64 4))), none⟩])
      (.seq (.cond (.t 15)
        .skip
        (.exit 2))
      (.seq (.block 3 (.seq (.ops [⟨some 16, .mov (.t 14), none⟩,
        ⟨some 7, .mov (.t 16), none⟩])
      (.ops [⟨some 17, .mov (.t 0), none⟩,
        ⟨some 18, .mov (.t 6), none⟩,
        ⟨some 19, .mov (.t 7), none⟩,
        ⟨some 20, .bin .mul false (.c (.v (.int .i64 8))) (.t 19), none⟩,
        ⟨some 21, .bin .shr false (.t 18) (.t 20), none⟩,
        ⟨some 22, .conv .u8 (.t 21), none⟩,
        ⟨some 23, .bslice 1 [(.v (.int .u8 0))] 1 [(0, 1, (.t 22))], none⟩,
        ⟨some 24, .append 1 1 [(.v (.int .u8 0))] (.t 17) (.t 23), none⟩,
        ⟨some 0, .mov (.t 24), none⟩])))
      (.ops [⟨some 25, .bin .add false (.t 14) (.c (.v (.int .i64 1))), none⟩,
        ⟨some 14, .mov (.t 25), none⟩])))))))))
    (.ops [⟨some 26, .bin .add false (.t 10) (.c (.v (.int .i64 1))), none⟩,
      ⟨some 10, .mov (.t 26), none⟩])))))))
  (.seq (.ops [⟨some 27, .mov (.t 0), none⟩,
    ⟨some 4, .mov (.t 27), none⟩])
  .ret)))⟩ := by kernel_rfl

theorem ir31 : compF Try.prog 31 = some ⟨9, [.t 2],
  (.seq (.ops [⟨some 2, .mov (.c (.v (.slice none 0 0))), none⟩])
  (.seq (.ops [⟨some 3, .mov (.t 0), none⟩,
    ⟨some 4, .mov (.t 0), none⟩,
    ⟨some 5, .len false (.t 4), none⟩,
    ⟨some 6, .mov (.t 0), none⟩,
    ⟨some 7, .len false (.t 6), none⟩,
    ⟨some 8, .slice 1 (.t 3) none (some (.t 5)) (some (.t 7)), none⟩,
    ⟨some 2, .mov (.t 8), none⟩])
  .ret))⟩ := by kernel_rfl

theorem ir32 : compF Try.prog 32 = some ⟨39, [.t 4],
  (.seq (.ops [⟨some 4, .mov (.c (.v (.int .i64 0))), none⟩])
  (.seq (.seq (.ops [⟨some 6, .mov (.t 1), none⟩,
    ⟨some 7, .len false (.t 6), none⟩,
    ⟨some 8, .mov (.t 0), none⟩,
    ⟨some 9, .len false (.t 8), none⟩,
    ⟨some 10, .bin .neq false (.t 7) (.t 9), none⟩])
  (.cond (.t 10)
    (.seq (.ops [⟨some 4, .mov (.c (.v (.int .i64 1))), none⟩])
    .ret)
    .skip))
  (.seq (.seq (.ops [⟨some 5, .mov (.c (.v (.int .i64 0))), none⟩])
  (.block 0 (.loop
    (.seq (.seq (.ops [⟨some 11, .mov (.t 5), none⟩,
      ⟨some 12, .mov (.t 1), none⟩,
      ⟨some 13, .len false (.t 12), none⟩,
      ⟨some 14, .bin .lss false (.t 11) (.t 13), none⟩])
    (.cond (.t 14)
      .skip
      (.exit 0)))
    (.seq (.block 1 (.seq (.draw [[⟨some 17, .mov (.t 1), none⟩,
        ⟨some 18, .mov (.t 5), none⟩,
        ⟨some 19, .iaddr 1 (.t 17) (.t 18), none⟩,
        ⟨some 20, .load 1 false (.t 19), none⟩,
        ⟨some 21, .mov (.t 0), none⟩,
        ⟨some 22, .mov (.t 5), none⟩,
        ⟨some 23, .iaddr 2 (.t 21) (.t 22), none⟩,
        ⟨some 24, .faddr 0 (.t 23), none⟩,
        ⟨some 25, .load 1 false (.t 24), none⟩],
      [⟨some 26, .bin .lss false (.t 20) (.t 25), none⟩],
      [⟨some 27, .mov (.t 26), none⟩],
      [⟨some 28, .mov (.t 1), some (27, false)⟩,
        ⟨some 29, .mov (.t 5), some (27, false)⟩,
        ⟨some 30, .iaddr 1 (.t 28) (.t 29), some (27, false)⟩,
        ⟨some 31, .load 1 false (.t 30), some (27, false)⟩,
        ⟨some 32, .mov (.t 0), some (27, false)⟩,
        ⟨some 33, .mov (.t 5), some (27, false)⟩,
        ⟨some 34, .iaddr 2 (.t 32) (.t 33), some (27, false)⟩,
        ⟨some 35, .faddr 1 (.t 34), some (27, false)⟩,
        ⟨some 36, .load 1 false (.t 35), some (27, false)⟩],
      [⟨some 37, .bin .gtr false (.t 31) (.t 36), some (27, false)⟩],
      [⟨some 38, .pick (.t 27) (.c (.v (.bool true))) (.t 37), none⟩]])
    (.cond (.t 38)
      (.seq (.ops [⟨some 4, .mov (.c (.v (.int .i64 5))), none⟩])
      .ret)
      .skip)))
    (.ops [⟨some 15, .mov (.t 5), none⟩,
      ⟨some 16, .bin .add false (.t 15) (.c (.v (.int .i64 1))), none⟩,
      ⟨some 5, .mov (.t 16), none⟩]))))))
  (.seq (.ops [⟨some 4, .mov (.c (.v (.int .i64 0))), none⟩])
  .ret))))⟩ := by kernel_rfl

theorem ir33 : compF Try.prog 33 = some ⟨23, [.t 4],
  (.seq (.ops [⟨some 2, .box (.t 0), none⟩,
    ⟨some 4, .mov (.c (.v (.int .i64 0))), none⟩])
  (.seq (.seq (.ops [⟨some 5, .mov (.c (.v (.int .i64 0))), none⟩])
  (.block 0 (.loop
    (.seq (.seq (.ops [⟨some 7, .mov (.t 5), none⟩,
      ⟨some 8, .faddr 2 (.t 2), none⟩,
      ⟨some 9, .load 1 false (.t 8), none⟩,
      ⟨some 10, .len false (.t 9), none⟩,
      ⟨some 11, .bin .lss false (.t 7) (.t 10), none⟩])
    (.cond (.t 11)
      .skip
      (.exit 0)))
    (.seq (.block 1 (.seq (.ops [⟨some 14, .faddr 2 (.t 2), none⟩,
      ⟨some 15, .load 1 false (.t 14), none⟩,
      ⟨some 16, .mov (.t 5), none⟩,
      ⟨some 17, .iaddr 1 (.t 15) (.t 16), none⟩,
      ⟨some 18, .load 1 false (.t 17), none⟩,
      ⟨some 19, .mov (.t 1), none⟩,
      ⟨some 20, .call 21 [(.t 18), (.t 19)], none⟩,
      ⟨some 6, .mov (.t 20), none⟩])
    (.seq (.ops [⟨some 21, .mov (.t 6), none⟩])
    (.cond (.t 21)
      (.seq (.ops [⟨some 22, .mov (.t 5), none⟩,
        ⟨some 4, .mov (.t 22), none⟩])
      .ret)
      .skip))))
    (.ops [⟨some 12, .mov (.t 5), none⟩,
      ⟨some 13, .bin .add false (.t 12) (.c (.v (.int .i64 1))), none⟩,
      ⟨some 5, .mov (.t 13), none⟩]))))))
  (.seq (.ops [⟨some 4, .mov (.c (.v (.int .i64 (-1)))), none⟩])
  .ret)))⟩ := by kernel_rfl

theorem ir34 : compF Try.prog 34 = some ⟨31, [.t 8, .t 9],
  (.seq (.ops [⟨some 4, .box (.t 0), none⟩,
    ⟨some 8, .mov (.c (.v (.int .i64 0))), none⟩,
    ⟨some 9, .mov (.c (.v (.int .i64 0))), none⟩])
  (.seq (.seq (.ops [⟨some 12, .mov (.t 1), none⟩,
    ⟨some 13, .mov (.t 2), none⟩,
    ⟨some 14, .call 25 [(.t 12), (.t 13)], none⟩,
    ⟨some 10, .mov (.t 14), none⟩])
  (.seq (.ops [⟨some 15, .mov (.t 10), none⟩,
    ⟨some 16, .bin .neq false (.t 15) (.c (.v (.int .i64 0))), none⟩])
  (.cond (.t 16)
    (.seq (.ops [⟨some 17, .mov (.t 10), none⟩,
      ⟨some 8, .mov (.c (.v (.int .i64 0))), none⟩,
      ⟨some 9, .mov (.t 17), none⟩])
    .ret)
    .skip)))
  (.seq (.seq (.ops [⟨some 18, .mov (.t 3), none⟩,
    ⟨some 19, .bin .lss false (.t 18) (.c (.v (.int .i64 0))), none⟩,
    ⟨some 20, .mov (.t 19), none⟩,
    ⟨some 21, .mov (.t 3), some (20, false)⟩,
    ⟨some 22, .bin .gtr false (.t 21) (.c (.v (.int .i64 1))), some (20, false)⟩,
    ⟨some 23, .pick (.t 20) (.c (.v (.bool true))) (.t 22), none⟩])
  (.cond (.t 23)
    (.seq (.ops [⟨some 8, .mov (.c (.v (.int .i64 0))), none⟩,
      ⟨some 9, .mov (.c (.v (.int .i64 1))), none⟩])
    .ret)
    .skip))
  (.seq (.ops [⟨some 24, .load 5 true (.t 4), none⟩,
    ⟨some 25, .mov (.t 1), none⟩,
    ⟨some 26, .mov (.t 2), none⟩,
    ⟨some 27, .call 26 [(.t 24), (.t 25), (.t 26)], none⟩,
    ⟨some 11, .mov (.t 27), none⟩])
  (.seq (.seq (.ops [⟨some 28, .mov (.t 11), none⟩,
    ⟨some 29, .bin .lss false (.t 28) (.c (.v (.int .i64 0))), none⟩])
  (.cond (.t 29)
    (.seq (.ops [⟨some 8, .mov (.c (.v (.int .i64 0))), none⟩,
      ⟨some 9, .mov (.c (.v (.int .i64 10))), none⟩])
    .ret)
    .skip))
  (.seq (.ops [⟨some 30, .mov (.t 11), none⟩,
    ⟨some 8, .mov (.t 30), none⟩,
    ⟨some 9, .mov (.c (.v (.int .i64 0))), none⟩])
  .ret))))))⟩ := by kernel_rfl

theorem ir35 : compF Try.prog 35 = some ⟨8, [.t 2],
  (.seq (.ops [⟨some 2, .mov (.c (.v (.slice none 0 0))), none⟩])
  (.seq (.seq (.ops [⟨some 3, .mov (.t 0), none⟩,
    ⟨some 4, .isnil false (.t 3), none⟩])
  (.cond (.t 4)
    (.seq (.ops [⟨some 2, .mov (.c (.v (.slice none 0 0))), none⟩])
    .ret)
    .skip))
  (.seq (.ops [⟨some 5, .bslice 1 [(.v (.int .u8 0))] 0 [], none⟩,
    ⟨some 6, .mov (.t 0), none⟩,
    ⟨some 7, .append 1 1 [(.v (.int .u8 0))] (.t 5) (.t 6), none⟩,
    ⟨some 2, .mov (.t 7), none⟩])
  .ret)))⟩ := by kernel_rfl

theorem ir36 : compF Try.prog 36 = some ⟨29, [.t 6, .t 7],
  (.seq (.ops [⟨some 3, .box (.t 0), none⟩,
    ⟨some 6, .mov (.c (.v (.int .i64 0))), none⟩,
    ⟨some 7, .mov (.c (.v (.int .i64 0))), none⟩])
  (.seq (.ops [⟨some 10, .faddr 0 (.t 3), none⟩,
    ⟨some 11, .load 1 false (.t 10), none⟩,
    ⟨some 12, .mov (.t 1), none⟩,
    ⟨some 13, .call 32 [(.t 11), (.t 12)], none⟩,
    ⟨some 8, .mov (.t 13), none⟩])
  (.seq (.seq (.ops [⟨some 14, .mov (.t 8), none⟩,
    ⟨some 15, .bin .neq false (.t 14) (.c (.v (.int .i64 0))), none⟩])
  (.cond (.t 15)
    (.seq (.ops [⟨some 16, .mov (.t 8), none⟩,
      ⟨some 6, .mov (.c (.v (.int .i64 0))), none⟩,
      ⟨some 7, .mov (.t 16), none⟩])
    .ret)
    .skip))
  (.seq (.seq (.ops [⟨some 17, .mov (.t 2), none⟩,
    ⟨some 18, .bin .lss false (.t 17) (.c (.v (.int .i64 0))), none⟩,
    ⟨some 19, .mov (.t 18), none⟩,
    ⟨some 20, .mov (.t 2), some (19, false)⟩,
    ⟨some 21, .bin .gtr false (.t 20) (.c (.v (.int .i64 1))), some (19, false)⟩,
    ⟨some 22, .pick (.t 19) (.c (.v (.bool true))) (.t 21), none⟩])
  (.cond (.t 22)
    (.seq (.ops [⟨some 6, .mov (.c (.v (.int .i64 0))), none⟩,
      ⟨some 7, .mov (.c (.v (.int .i64 1))), none⟩])
    .ret)
    .skip))
  (.seq (.ops [⟨some 23, .load 4 true (.t 3), none⟩,
    ⟨some 24, .mov (.t 1), none⟩,
    ⟨some 25, .call 33 [(.t 23), (.t 24)], none⟩,
    ⟨some 9, .mov (.t 25), none⟩])
  (.seq (.seq (.ops [⟨some 26, .mov (.t 9), none⟩,
    ⟨some 27, .bin .lss false (.t 26) (.c (.v (.int .i64 0))), none⟩])
  (.cond (.t 27)
    (.seq (.ops [⟨some 6, .mov (.c (.v (.int .i64 0))), none⟩,
      ⟨some 7, .mov (.c (.v (.int .i64 10))), none⟩])
    .ret)
    .skip))
  (.seq (.ops [⟨some 28, .mov (.t 9), none⟩,
    ⟨some 6, .mov (.t 28), none⟩,
    ⟨some 7, .mov (.c (.v (.int .i64 0))), none⟩])
  .ret)))))))⟩ := by kernel_rfl

theorem ir37 : compF Try.prog 37 = some ⟨6, [.t 2],
  (.seq (.ops [⟨some 1, .box (.t 0), none⟩,
    ⟨some 2, .mov (.c (.v (.int .i64 0))), none⟩])
  (.seq (.ops [⟨some 3, .faddr 1 (.t 1), none⟩,
    ⟨some 4, .load 1 false (.t 3), none⟩,
    ⟨some 5, .len false (.t 4), none⟩,
    ⟨some 2, .mov (.t 5), none⟩])
  .ret))⟩ := by kernel_rfl

theorem ir38 : compF Try.prog 38 = some ⟨47, [.t 6],
  (.seq (.ops [⟨some 6, .mov (.c (.v (.int .i64 0))), none⟩])
  (.seq (.ops [⟨some 7, .mov (.c (.v (.int .i64 0))), none⟩])
  (.seq (.seq (.ops [⟨some 8, .mov (.c (.v (.int .i64 0))), none⟩])
  (.block 0 (.loop
    (.seq (.seq (.ops [⟨some 12, .mov (.t 8), none⟩,
      ⟨some 13, .mov (.t 0), none⟩,
      ⟨some 14, .len false (.t 13), none⟩,
      ⟨some 15, .bin .lss false (.t 12) (.t 14), none⟩])
    (.cond (.t 15)
      .skip
      (.exit 0)))
    (.seq (.block 1 (.seq (.ops [⟨some 9, .mov (.c (.v (.bool false))), none⟩])
    (.seq (.seq (.ops [⟨some 10, .mov (.c (.v (.int .i64 0))), none⟩])
    (.block 2 (.loop
      (.seq (.seq (.ops [⟨some 18, .mov (.t 10), none⟩,
        ⟨some 19, .mov (.t 8), none⟩,
        ⟨some 20, .bin .lss false (.t 18) (.t 19), none⟩])
      (.cond (.t 20)
        .skip
        (.exit 2)))
      (.seq (.block 3 (.seq (.draw [[⟨some 23, .mov (.t 0), none⟩,
          ⟨some 24, .mov (.t 8), none⟩,
          ⟨some 25, .iaddr 1 (.t 23) (.t 24), none⟩,
          ⟨some 26, .load 1 false (.t 25), none⟩,
          ⟨some 27, .mov (.t 1), none⟩,
          ⟨some 28, .mov (.t 2), none⟩,
          ⟨some 29, .slice 1 (.t 26) (some (.t 27)) (some (.t 28)) none, none⟩,
          ⟨some 30, .mov (.t 0), none⟩,
          ⟨some 31, .mov (.t 10), none⟩,
          ⟨some 32, .iaddr 1 (.t 30) (.t 31), none⟩,
          ⟨some 33, .load 1 false (.t 32), none⟩,
          ⟨some 34, .mov (.t 1), none⟩,
          ⟨some 35, .mov (.t 2), none⟩,
          ⟨some 36, .slice 1 (.t 33) (some (.t 34)) (some (.t 35)) none, none⟩],
        [⟨some 37, .call 21 [(.t 29), (.t 36)], none⟩],
        [⟨some 11, .mov (.t 37), none⟩]])
      (.ops [⟨some 38, .mov (.t 9), none⟩,
        ⟨some 39, .mov (.t 38), none⟩,
        ⟨some 40, .mov (.t 11), some (39, false)⟩,
        ⟨some 41, .pick (.t 39) (.c (.v (.bool true))) (.t 40), none⟩,
        ⟨some 9, .mov (.t 41), none⟩])))
      (.ops [⟨some 21, .mov (.t 10), none⟩,
        ⟨some 22, .bin .add false (.t 21) (.c (.v (.int .i64 1))), none⟩,
        ⟨some 10, .mov (.t 22), none⟩]))))))
    (.seq (.ops [⟨some 42, .mov (.t 9), none⟩,
      ⟨some 43, .un .not (.t 42), none⟩])
    (.cond (.t 43)
      (.ops [⟨some 44, .mov (.t 7), none⟩,
        ⟨some 45, .bin .add false (.t 44) (.c (.v (.int .i64 1))), none⟩,
        ⟨some 7, .mov (.t 45), none⟩])
      .skip)))))
    (.ops [⟨some 16, .mov (.t 8), none⟩,
      ⟨some 17, .bin .add false (.t 16) (.c (.v (.int .i64 1))), none⟩,
      ⟨some 8, .mov (.t 17), none⟩]))))))
  (.seq (.ops [⟨some 46, .mov (.t 7), none⟩,
    ⟨some 6, .mov (.t 46), none⟩])
  .ret))))⟩ := by kernel_rfl

theorem ir39 : compF Try.prog 39 = some ⟨15, [.t 4],
  (.seq (.ops [⟨some 2, .box (.t 0), none⟩,
    ⟨some 4, .mov (.c (.v (.bool false))), none⟩])
  (.seq (.ops [⟨some 5, .mov (.t 1), none⟩,
    ⟨some 6, .faddr 0 (.t 2), none⟩,
    ⟨some 7, .load 1 false (.t 6), none⟩,
    ⟨some 8, .bin .geq false (.t 5) (.t 7), none⟩,
    ⟨some 9, .mov (.t 8), none⟩,
    ⟨some 10, .mov (.t 1), some (9, true)⟩,
    ⟨some 11, .faddr 1 (.t 2), some (9, true)⟩,
    ⟨some 12, .load 1 false (.t 11), some (9, true)⟩,
    ⟨some 13, .bin .leq false (.t 10) (.t 12), some (9, true)⟩,
    ⟨some 14, .pick (.t 9) (.t 13) (.c (.v (.bool false))), none⟩,
    ⟨some 4, .mov (.t 14), none⟩])
  .ret))⟩ := by kernel_rfl

theorem ir40 : compF Try.prog 40 = some ⟨12, [.t 4, .t 5],
  (.seq (.ops [⟨some 2, .box (.t 0), none⟩,
    ⟨some 4, .mov (.c (.v (.int .i64 0))), none⟩,
    ⟨some 5, .mov (.c (.v (.bool false))), none⟩])
  (.seq (.ops [⟨some 6, .load 3 true (.t 2), none⟩,
    ⟨some 7, .build [(.v (.int .i64 0)), (.v (.slice none 0 0)), (.v (.slice none 0 0))] [(0, 3, (.t 6))], none⟩,
    ⟨some 8, .mov (.t 1), none⟩,
    ⟨some 9, .call 48 [(.t 7), (.t 8)], none⟩,
    ⟨some 10, .extract (.t 9) 0, none⟩,
    ⟨some 11, .extract (.t 9) 1, none⟩,
    ⟨some 4, .mov (.t 10), none⟩,
    ⟨some 5, .mov (.t 11), none⟩])
  .ret))⟩ := by kernel_rfl

theorem ir41 : compF Try.prog 41 = some ⟨40, [],
  (.seq (.ops [⟨some 4, .mov (.c (.v (.int .i64 0))), none⟩])
  (.block 0 (.loop
    (.seq (.seq (.ops [⟨some 8, .mov (.t 4), none⟩,
      ⟨some 9, .bin .mul false (.t 8) (.c (.v (.int .i64 2))), none⟩,
      ⟨some 10, .load 1 false (.t 1), none⟩,
      ⟨some 11, .len false (.t 10), none⟩,
      ⟨some 12, .bin .lss false (.t 9) (.t 11), none⟩])
    (.cond (.t 12)
      .skip
      (.exit 0)))
    (.seq (.block 1 (.seq (.ops [⟨some 15, .load 1 false (.t 1), none⟩,
      ⟨some 16, .len false (.t 15), none⟩,
      ⟨some 17, .mov (.t 4), none⟩,
      ⟨some 18, .bin .add false (.t 17) (.c (.v (.int .i64 1))), none⟩,
      ⟨some 19, .bin .mul false (.t 18) (.c (.v (.int .i64 2))), none⟩,
      ⟨some 20, .mm false (.t 16) [(.t 19)], none⟩,
      ⟨some 5, .mov (.t 20), none⟩])
    (.seq (.draw [[⟨some 22, .load 1 false (.t 1), none⟩,
        ⟨some 23, .mov (.t 4), none⟩,
        ⟨some 24, .bin .mul false (.t 23) (.c (.v (.int .i64 2))), none⟩,
        ⟨some 25, .mov (.t 5), none⟩,
        ⟨some 26, .slice 2 (.t 22) (some (.t 24)) (some (.t 25)) none, none⟩,
        ⟨some 27, .load 1 false (.t 2), none⟩,
        ⟨some 28, .mov (.t 4), none⟩,
        ⟨some 29, .bin .mul false (.t 28) (.c (.v (.int .i64 2))), none⟩,
        ⟨some 30, .mov (.t 5), none⟩,
        ⟨some 31, .slice 1 (.t 27) (some (.t 29)) (some (.t 30)) none, none⟩],
      [⟨some 32, .call 42 [(.t 26), (.t 31)], none⟩],
      [⟨some 21, .mov (.t 32), none⟩],
      [⟨some 33, .extract (.t 21) 0, none⟩,
        ⟨some 34, .extract (.t 21) 1, none⟩,
        ⟨some 6, .mov (.t 33), none⟩],
      [⟨some 7, .mov (.t 34), none⟩]])
    (.seq (.ops [⟨some 35, .mov (.t 0), none⟩,
      ⟨some 36, .mov (.t 4), none⟩,
      ⟨some 37, .mov (.t 6), none⟩,
      ⟨some 38, .calld (.t 35) [(.t 36), (.t 37)], none⟩,
      ⟨some 39, .un .not (.t 38), none⟩])
    (.cond (.t 39)
      .ret
      .skip)))))
    (.ops [⟨some 13, .mov (.t 4), none⟩,
      ⟨some 14, .bin .add false (.t 13) (.c (.v (.int .i64 1))), none⟩,
      ⟨some 4, .mov (.t 14), none⟩]))))))⟩ := by kernel_rfl

theorem ir42 : compF Try.prog 42 = some ⟨51, [.t 4, .t 5],
  (.seq (.ops [⟨some 4, .mov (.c (.v (.slice none 0 0))), none⟩,
    ⟨some 5, .mov (.c (.v (.int .i64 0))), none⟩])
  (.seq (.seq (.ops [⟨some 11, .mov (.t 0), none⟩,
    ⟨some 12, .mov (.t 1), none⟩,
    ⟨some 13, .call 25 [(.t 11), (.t 12)], none⟩,
    ⟨some 6, .mov (.t 13), none⟩])
  (.seq (.ops [⟨some 14, .mov (.t 6), none⟩,
    ⟨some 15, .bin .neq false (.t 14) (.c (.v (.int .i64 0))), none⟩])
  (.cond (.t 15)
    (.seq (.ops [⟨some 16, .mov (.t 6), none⟩,
      ⟨some 4, .mov (.c (.v (.slice none 0 0))), none⟩,
      ⟨some 5, .mov (.t 16), none⟩])
    .ret)
    .skip)))
  (.seq (.ops [⟨some 7, .alloc (.agg [(.v (.slice none 0 0)), (.v (.int .i64 0))]), none⟩])
  (.seq (.seq (.ops [⟨some 17, .mov (.t 0), none⟩,
    ⟨some 18, .call 49 [(.t 17), (.c (.fn (.func 50) [] []))], none⟩,
    ⟨some 19, .len false (.t 18), none⟩,
    ⟨some 20, .mov (.c (.v (.int .i64 0))), none⟩])
  (.block 0 (.loop
    (.seq (.ops [⟨some 21, .bin .lss false (.t 20) (.t 19), none⟩])
    (.seq (.cond (.t 21)
      .skip
      (.exit 0))
    (.seq (.block 1 (.seq (.ops [⟨some 22, .mov (.t 20), none⟩,
      ⟨some 23, .iaddr 1 (.t 18) (.t 20), none⟩,
      ⟨some 24, .load 1 false (.t 23), none⟩,
      ⟨some 8, .mov (.t 22), none⟩,
      ⟨some 9, .mov (.t 24), none⟩])
    (.drawF [([], [⟨some 26, .load 2 true (.t 7), none⟩,
        ⟨some 27, .mov (.t 1), none⟩,
        ⟨some 28, .mov (.t 8), none⟩,
        ⟨some 29, .iaddr 1 (.t 27) (.t 28), none⟩,
        ⟨some 30, .load 1 false (.t 29), none⟩,
        ⟨some 31, .mov (.t 0), none⟩,
        ⟨some 32, .mov (.t 8), none⟩,
        ⟨some 33, .iaddr 2 (.t 31) (.t 32), none⟩,
        ⟨some 34, .faddr 0 (.t 33), none⟩,
        ⟨some 35, .load 1 false (.t 34), none⟩,
        ⟨some 36, .bin .sub false (.t 30) (.t 35), none⟩,
        ⟨some 37, .conv .u64 (.t 36), none⟩,
        ⟨some 38, .mov (.t 9), none⟩]),
      ([], [⟨some 39, .call 51 [(.t 26), (.t 37), (.t 38)], none⟩]),
      ([], [⟨some 25, .mov (.t 39), none⟩]),
      ([1], [⟨some 40, .extract (.t 25) 0, none⟩,
        ⟨some 41, .extract (.t 25) 1, none⟩,
        ⟨none, .store 2 (.t 7) (.t 40), none⟩])])))
    (.ops [⟨some 42, .bin .add false (.t 20) (.c (.v (.int .i64 1))), none⟩,
      ⟨some 20, .mov (.t 42), none⟩])))))))
  (.seq (.ops [⟨some 43, .mov (.t 0), none⟩,
    ⟨some 44, .call 52 [(.t 43)], none⟩,
    ⟨some 45, .mksl 1 1 [(.v (.int .u8 0))] (.t 44) (.t 44), none⟩,
    ⟨some 10, .mov (.t 45), none⟩])
  (.seq (.ops [⟨some 46, .mov (.t 10), none⟩,
    ⟨some 47, .faddr 0 (.t 7), none⟩,
    ⟨some 48, .load 1 false (.t 47), none⟩,
    ⟨some 49, .copy 1 (.t 46) (.t 48), none⟩])
  (.seq (.ops [⟨some 50, .mov (.t 10), none⟩,
    ⟨some 4, .mov (.t 50), none⟩,
    ⟨some 5, .mov (.c (.v (.int .i64 0))), none⟩])
  .ret)))))))⟩ := by kernel_rfl

theorem ir43 : compF Try.prog 43 = some ⟨9, [.t 2],
  (.seq (.ops [⟨some 2, .mov (.c (.v (.slice none 0 0))), none⟩])
  (.seq (.ops [⟨some 3, .mov (.t 0), none⟩,
    ⟨some 4, .mov (.t 0), none⟩,
    ⟨some 5, .len false (.t 4), none⟩,
    ⟨some 6, .mov (.t 0), none⟩,
    ⟨some 7, .len false (.t 6), none⟩,
    ⟨some 8, .slice 1 (.t 3) none (some (.t 5)) (some (.t 7)), none⟩,
    ⟨some 2, .mov (.t 8), none⟩])
  .ret))⟩ := by kernel_rfl

theorem ir44 : compF Try.prog 44 = some ⟨8, [.t 2],
  (.seq (.ops [⟨some 2, .mov (.c (.v (.slice none 0 0))), none⟩])
  (.seq (.seq (.ops [⟨some 3, .mov (.t 0), none⟩,
    ⟨some 4, .isnil false (.t 3), none⟩])
  (.cond (.t 4)
    (.seq (.ops [⟨some 2, .mov (.c (.v (.slice none 0 0))), none⟩])
    .ret)
    .skip))
  (.seq (.ops [⟨some 5, .bslice 1 [(.v (.int .u8 0))] 0 [], none⟩,
    ⟨some 6, .mov (.t 0), none⟩,
    ⟨some 7, .append 1 1 [(.v (.int .u8 0))] (.t 5) (.t 6), none⟩,
    ⟨some 2, .mov (.t 7), none⟩])
  .ret)))⟩ := by kernel_rfl

theorem ir45 : compF Try.prog 45 = some ⟨41, [],
  (.seq (.ops [⟨some 6, .mov (.t 0), none⟩,
    ⟨some 7, .mov (.t 1), none⟩,
    ⟨some 8, .mksl 1 8 [(.v (.int .i64 0))] (.t 7) (.t 7), none⟩,
    ⟨some 9, .nilchk (.t 6), none⟩,
    ⟨some 10, .faddr 0 (.t 9), none⟩,
    ⟨some 11, .faddr 0 (.t 10), none⟩,
    ⟨some 12, .faddr 2 (.t 11), none⟩,
    ⟨none, .store 1 (.t 12) (.t 8), none⟩])
  (.seq (.ops [⟨some 13, .mov (.t 0), none⟩,
    ⟨some 14, .nilchk (.t 13), none⟩,
    ⟨some 15, .faddr 0 (.t 14), none⟩,
    ⟨some 16, .faddr 0 (.t 15), none⟩,
    ⟨some 17, .faddr 1 (.t 16), none⟩,
    ⟨some 18, .load 1 false (.t 17), none⟩,
    ⟨some 19, .len false (.t 18), none⟩,
    ⟨some 20, .mov (.c (.v (.int .i64 0))), none⟩])
  (.block 0 (.loop
    (.seq (.ops [⟨some 21, .bin .lss false (.t 20) (.t 19), none⟩])
    (.seq (.cond (.t 21)
      .skip
      (.exit 0))
    (.seq (.block 1 (.seq (.ops [⟨some 22, .mov (.t 20), none⟩,
      ⟨some 23, .iaddr 1 (.t 18) (.t 20), none⟩,
      ⟨some 24, .load 1 false (.t 23), none⟩,
      ⟨some 4, .mov (.t 22), none⟩,
      ⟨some 5, .mov (.t 24), none⟩])
    (.draw [[⟨some 25, .mov (.t 0), none⟩,
        ⟨some 26, .nilchk (.t 25), none⟩,
        ⟨some 27, .faddr 0 (.t 26), none⟩,
        ⟨some 28, .faddr 0 (.t 27), none⟩,
        ⟨some 29, .faddr 2 (.t 28), none⟩,
        ⟨some 30, .load 1 false (.t 29), none⟩,
        ⟨some 31, .mov (.t 0), none⟩,
        ⟨some 32, .nilchk (.t 31), none⟩,
        ⟨some 33, .faddr 0 (.t 32), none⟩,
        ⟨some 34, .load 3 true (.t 33), none⟩,
        ⟨some 35, .mov (.t 5), none⟩,
        ⟨some 36, .call 47 [(.t 34), (.t 35)], none⟩,
        ⟨some 37, .mov (.t 4), none⟩,
        ⟨some 38, .bin .add false (.t 37) (.c (.v (.int .i64 1))), none⟩],
      [⟨some 39, .iaddr 1 (.t 30) (.t 36), none⟩],
      [⟨none, .store 1 (.t 39) (.t 38), none⟩]])))
    (.ops [⟨some 40, .bin .add false (.t 20) (.c (.v (.int .i64 1))), none⟩,
      ⟨some 20, .mov (.t 40), none⟩]))))))))⟩ := by kernel_rfl

theorem ir46 : compF Try.prog 46 = some ⟨8, [.t 2],
  (.seq (.ops [⟨some 2, .mov (.c (.v (.slice none 0 0))), none⟩])
  (.seq (.seq (.ops [⟨some 3, .mov (.t 0), none⟩,
    ⟨some 4, .isnil false (.t 3), none⟩])
  (.cond (.t 4)
    (.seq (.ops [⟨some 2, .mov (.c (.v (.slice none 0 0))), none⟩])
    .ret)
    .skip))
  (.seq (.ops [⟨some 5, .bslice 1 [(.v (.int .i64 0))] 0 [], none⟩,
    ⟨some 6, .mov (.t 0), none⟩,
    ⟨some 7, .append 1 8 [(.v (.int .i64 0))] (.t 5) (.t 6), none⟩,
    ⟨some 2, .mov (.t 7), none⟩])
  .ret)))⟩ := by kernel_rfl

theorem ir47 : compF Try.prog 47 = some ⟨41, [.t 4],
  (.seq (.ops [⟨some 2, .box (.t 0), none⟩,
    ⟨some 4, .mov (.c (.v (.int .i64 0))), none⟩])
  (.scope 0 (.seq (.draw [[⟨some 7, .mov (.t 1), none⟩,
      ⟨some 8, .call 54 [(.t 7), (.c (.v (.int .u64 0)))], none⟩,
      ⟨some 9, .faddr 0 (.t 2), none⟩,
      ⟨some 10, .faddr 2 (.t 9), none⟩,
      ⟨some 11, .load 1 false (.t 10), none⟩,
      ⟨some 12, .len false (.t 11), none⟩],
    [⟨some 13, .call 53 [(.t 8), (.t 12)], none⟩],
    [⟨some 5, .mov (.t 13), none⟩]])
  (.seq (.label 0)
  (.seq (.ops [⟨some 14, .faddr 0 (.t 2), none⟩,
    ⟨some 15, .faddr 2 (.t 14), none⟩,
    ⟨some 16, .load 1 false (.t 15), none⟩,
    ⟨some 17, .mov (.t 5), none⟩,
    ⟨some 18, .iaddr 1 (.t 16) (.t 17), none⟩,
    ⟨some 19, .load 1 false (.t 18), none⟩,
    ⟨some 6, .mov (.t 19), none⟩])
  (.seq (.seq (.ops [⟨some 20, .mov (.t 6), none⟩,
    ⟨some 21, .bin .eql false (.t 20) (.c (.v (.int .i64 0))), none⟩,
    ⟨some 22, .mov (.t 21), none⟩,
    ⟨some 23, .faddr 0 (.t 2), some (22, false)⟩,
    ⟨some 24, .faddr 1 (.t 23), some (22, false)⟩,
    ⟨some 25, .load 1 false (.t 24), some (22, false)⟩,
    ⟨some 26, .mov (.t 6), some (22, false)⟩,
    ⟨some 27, .bin .sub false (.t 26) (.c (.v (.int .i64 1))), some (22, false)⟩,
    ⟨some 28, .iaddr 1 (.t 25) (.t 27), some (22, false)⟩,
    ⟨some 29, .load 1 false (.t 28), some (22, false)⟩,
    ⟨some 30, .mov (.t 1), some (22, false)⟩,
    ⟨some 31, .call 55 [(.t 29), (.t 30)], some (22, false)⟩,
    ⟨some 32, .pick (.t 22) (.c (.v (.bool true))) (.t 31), none⟩])
  (.cond (.t 32)
    (.seq (.ops [⟨some 33, .mov (.t 5), none⟩,
      ⟨some 4, .mov (.t 33), none⟩])
    .ret)
    .skip))
  (.seq (.ops [⟨some 34, .mov (.t 5), none⟩,
    ⟨some 35, .bin .add false (.t 34) (.c (.v (.int .i64 1))), none⟩,
    ⟨some 36, .faddr 0 (.t 2), none⟩,
    ⟨some 37, .faddr 2 (.t 36), none⟩,
    ⟨some 38, .load 1 false (.t 37), none⟩,
    ⟨some 39, .len false (.t 38), none⟩,
    ⟨some 40, .bin .rem false (.t 35) (.t 39), none⟩,
    ⟨some 5, .mov (.t 40), none⟩])
  (.goto 0))))))
    (.seq .skip
    (.seq (.ops [⟨some 14, .faddr 0 (.t 2), none⟩,
      ⟨some 15, .faddr 2 (.t 14), none⟩,
      ⟨some 16, .load 1 false (.t 15), none⟩,
      ⟨some 17, .mov (.t 5), none⟩,
      ⟨some 18, .iaddr 1 (.t 16) (.t 17), none⟩,
      ⟨some 19, .load 1 false (.t 18), none⟩,
      ⟨some 6, .mov (.t 19), none⟩])
    (.seq (.seq (.ops [⟨some 20, .mov (.t 6), none⟩,
      ⟨some 21, .bin .eql false (.t 20) (.c (.v (.int .i64 0))), none⟩,
      ⟨some 22, .mov (.t 21), none⟩,
      ⟨some 23, .faddr 0 (.t 2), some (22, false)⟩,
      ⟨some 24, .faddr 1 (.t 23), some (22, false)⟩,
      ⟨some 25, .load 1 false (.t 24), some (22, false)⟩,
      ⟨some 26, .mov (.t 6), some (22, false)⟩,
      ⟨some 27, .bin .sub false (.t 26) (.c (.v (.int .i64 1))), some (22, false)⟩,
      ⟨some 28, .iaddr 1 (.t 25) (.t 27), some (22, false)⟩,
      ⟨some 29, .load 1 false (.t 28), some (22, false)⟩,
      ⟨some 30, .mov (.t 1), some (22, false)⟩,
      ⟨some 31, .call 55 [(.t 29), (.t 30)], some (22, false)⟩,
      ⟨some 32, .pick (.t 22) (.c (.v (.bool true))) (.t 31), none⟩])
    (.cond (.t 32)
      (.seq (.ops [⟨some 33, .mov (.t 5), none⟩,
        ⟨some 4, .mov (.t 33), none⟩])
      .ret)
      .skip))
    (.seq (.ops [⟨some 34, .mov (.t 5), none⟩,
      ⟨some 35, .bin .add false (.t 34) (.c (.v (.int .i64 1))), none⟩,
      ⟨some 36, .faddr 0 (.t 2), none⟩,
      ⟨some 37, .faddr 2 (.t 36), none⟩,
      ⟨some 38, .load 1 false (.t 37), none⟩,
      ⟨some 39, .len false (.t 38), none⟩,
      ⟨some 40, .bin .rem false (.t 35) (.t 39), none⟩,
      ⟨some 5, .mov (.t 40), none⟩])
    (.goto 0)))))))⟩ := by kernel_rfl

theorem ir48 : compF Try.prog 48 = some ⟨25, [.t 4, .t 5],
  (.seq (.ops [⟨some 2, .box (.t 0), none⟩,
    ⟨some 4, .mov (.c (.v (.int .i64 0))), none⟩,
    ⟨some 5, .mov (.c (.v (.bool false))), none⟩])
  (.seq (.seq (.ops [⟨some 7, .faddr 0 (.t 2), none⟩,
    ⟨some 8, .faddr 2 (.t 7), none⟩,
    ⟨some 9, .load 1 false (.t 8), none⟩,
    ⟨some 10, .len false (.t 9), none⟩,
    ⟨some 11, .bin .eql false (.t 10) (.c (.v (.int .i64 0))), none⟩])
  (.cond (.t 11)
    (.seq (.ops [⟨some 4, .mov (.c (.v (.int .i64 0))), none⟩,
      ⟨some 5, .mov (.c (.v (.bool false))), none⟩])
    .ret)
    .skip))
  (.seq (.draw [[⟨some 12, .faddr 0 (.t 2), none⟩,
      ⟨some 13, .faddr 2 (.t 12), none⟩,
      ⟨some 14, .load 1 false (.t 13), none⟩,
      ⟨some 15, .load 3 true (.t 2), none⟩,
      ⟨some 16, .mov (.t 1), none⟩,
      ⟨some 17, .call 47 [(.t 15), (.t 16)], none⟩],
    [⟨some 18, .iaddr 1 (.t 14) (.t 17), none⟩],
    [⟨some 19, .load 1 false (.t 18), none⟩],
    [⟨some 6, .mov (.t 19), none⟩]])
  (.seq (.ops [⟨some 20, .mov (.t 6), none⟩,
    ⟨some 21, .bin .sub false (.t 20) (.c (.v (.int .i64 1))), none⟩,
    ⟨some 22, .mm true (.t 21) [(.c (.v (.int .i64 0)))], none⟩,
    ⟨some 23, .mov (.t 6), none⟩,
    ⟨some 24, .bin .gtr false (.t 23) (.c (.v (.int .i64 0))), none⟩,
    ⟨some 4, .mov (.t 22), none⟩,
    ⟨some 5, .mov (.t 24), none⟩])
  .ret))))⟩ := by kernel_rfl

theorem ir49 : compF Try.prog 49 = some ⟨26, [.t 4],
  (.seq (.ops [⟨some 4, .mov (.c (.v (.slice none 0 0))), none⟩])
  (.seq (.ops [⟨some 8, .mov (.t 0), none⟩,
    ⟨some 9, .len false (.t 8), none⟩,
    ⟨some 10, .mksl 1 8 [(.v (.int .i64 0))] (.t 9) (.t 9), none⟩,
    ⟨some 5, .mov (.t 10), none⟩])
  (.seq (.seq (.ops [⟨some 11, .mov (.t 0), none⟩,
    ⟨some 12, .len false (.t 11), none⟩,
    ⟨some 13, .mov (.c (.v (.int .i64 0))), none⟩])
  (.block 0 (.loop
    (.seq (.ops [⟨some 14, .bin .lss false (.t 13) (.t 12), none⟩])
    (.seq (.cond (.t 14)
      .skip
      (.exit 0))
    (.seq (.block 1 (.seq (.ops [⟨some 15, .mov (.t 13), none⟩,
      ⟨some 16, .iaddr 2 (.t 11) (.t 13), none⟩,
      ⟨some 17, .load 2 true (.t 16), none⟩,
      ⟨some 7, .alloc (.agg [(.v (.int .i64 0)), (.v (.int .i64 0))]), none⟩,
      ⟨some 6, .mov (.t 15), none⟩,
      ⟨none, .store 2 (.t 7) (.t 17), none⟩])
    (.ops [⟨some 18, .mov (.t 5), none⟩,
      ⟨some 19, .mov (.t 6), none⟩,
      ⟨some 20, .mov (.t 1), none⟩,
      ⟨some 21, .load 2 true (.t 7), none⟩,
      ⟨some 22, .calld (.t 20) [(.t 21)], none⟩,
      ⟨some 23, .iaddr 1 (.t 18) (.t 19), none⟩,
      ⟨none, .store 1 (.t 23) (.t 22), none⟩])))
    (.ops [⟨some 24, .bin .add false (.t 13) (.c (.v (.int .i64 1))), none⟩,
      ⟨some 13, .mov (.t 24), none⟩])))))))
  (.seq (.ops [⟨some 25, .mov (.t 5), none⟩,
    ⟨some 4, .mov (.t 25), none⟩])
  .ret))))⟩ := by kernel_rfl

theorem ir50 : compF Try.prog 50 = some ⟨10, [.t 2],
  (.seq (.ops [⟨some 1, .box (.t 0), none⟩,
    ⟨some 2, .mov (.c (.v (.int .i64 0))), none⟩])
  (.seq (.ops [⟨some 3, .faddr 1 (.t 1), none⟩,
    ⟨some 4, .load 1 false (.t 3), none⟩,
    ⟨some 5, .faddr 0 (.t 1), none⟩,
    ⟨some 6, .load 1 false (.t 5), none⟩,
    ⟨some 7, .bin .sub false (.t 4) (.t 6), none⟩,
    ⟨some 8, .conv .u64 (.t 7), none⟩,
    ⟨some 9, .call 56 [(.t 8)], none⟩,
    ⟨some 2, .mov (.t 9), none⟩])
  .ret))⟩ := by kernel_rfl

theorem ir51 : compF Try.prog 51 = some ⟨44, [.c 6 2 true, .t 7],
  (.seq (.ops [⟨some 3, .box (.t 0), none⟩,
    ⟨some 6, .alloc (.agg [(.v (.slice none 0 0)), (.v (.int .i64 0))]), none⟩,
    ⟨some 7, .mov (.c (.v (.int .i64 0))), none⟩])
  (.seq (.seq (.ops [⟨some 10, .mov (.t 2), none⟩,
    ⟨some 11, .bin .lss false (.t 10) (.c (.v (.int .i64 0))), none⟩,
    ⟨some 12, .mov (.t 11), none⟩,
    ⟨some 13, .mov (.t 2), some (12, false)⟩,
    ⟨some 14, .bin .gtr false (.t 13) (.c (.v (.int .i64 64))), some (12, false)⟩,
    ⟨some 15, .pick (.t 12) (.c (.v (.bool true))) (.t 14), none⟩])
  (.cond (.t 15)
    (.seq (.ops [⟨some 16, .load 2 true (.t 3), none⟩,
      ⟨none, .store 2 (.t 6) (.t 16), none⟩,
      ⟨some 7, .mov (.c (.v (.int .i64 1))), none⟩])
    .ret)
    .skip))
  (.seq (.seq (.ops [⟨some 17, .mov (.t 1), none⟩,
    ⟨some 18, .call 56 [(.t 17)], none⟩,
    ⟨some 19, .mov (.t 2), none⟩,
    ⟨some 20, .bin .gtr false (.t 18) (.t 19), none⟩])
  (.cond (.t 20)
    (.seq (.ops [⟨some 21, .load 2 true (.t 3), none⟩,
      ⟨none, .store 2 (.t 6) (.t 21), none⟩,
      ⟨some 7, .mov (.c (.v (.int .i64 5))), none⟩])
    .ret)
    .skip))
  (.seq (.ops [⟨some 22, .load 2 true (.t 3), none⟩,
    ⟨some 23, .call 57 [(.t 22)], none⟩,
    ⟨some 8, .mov (.t 23), none⟩])
  (.seq (.seq (.ops [⟨some 24, .mov (.t 2), none⟩,
    ⟨some 25, .bin .sub false (.t 24) (.c (.v (.int .i64 1))), none⟩,
    ⟨some 9, .mov (.t 25), none⟩])
  (.block 0 (.loop
    (.seq (.seq (.ops [⟨some 26, .mov (.t 9), none⟩,
      ⟨some 27, .bin .geq false (.t 26) (.c (.v (.int .i64 0))), none⟩])
    (.cond (.t 27)
      .skip
      (.exit 0)))
    (.seq (.block 1 (.draw [[⟨some 30, .mov (.t 8), none⟩,
        ⟨some 31, .nilchk (.t 30), none⟩,
        ⟨some 32, .faddr 0 (.t 31), none⟩,
        ⟨some 33, .mov (.t 1), none⟩,
        ⟨some 34, .mov (.t 9), none⟩,
        ⟨some 35, .bin .shr false (.t 33) (.t 34), none⟩,
        ⟨some 36, .bin .and false (.t 35) (.c (.v (.int .u64 1))), none⟩,
        ⟨some 37, .bin .eql false (.t 36) (.c (.v (.int .u64 1))), none⟩],
      [⟨some 38, .call 58 [(.t 32), (.t 37)], none⟩]]))
    (.ops [⟨some 28, .mov (.t 9), none⟩,
      ⟨some 29, .bin .sub false (.t 28) (.c (.v (.int .i64 1))), none⟩,
      ⟨some 9, .mov (.t 29), none⟩]))))))
  (.seq (.ops [⟨some 39, .mov (.t 8), none⟩,
    ⟨some 40, .nilchk (.t 39), none⟩,
    ⟨some 41, .faddr 0 (.t 40), none⟩,
    ⟨some 42, .faddr 0 (.t 41), none⟩,
    ⟨some 43, .load 2 true (.t 42), none⟩,
    ⟨none, .store 2 (.t 6) (.t 43), none⟩,
    ⟨some 7, .mov (.c (.v (.int .i64 0))), none⟩])
  .ret))))))⟩ := by kernel_rfl

theorem ir52 : compF Try.prog 52 = some ⟨8, [.t 2],
  (.seq (.ops [⟨some 2, .mov (.c (.v (.int .i64 0))), none⟩])
  (.seq (.ops [⟨some 3, .mov (.t 0), none⟩,
    ⟨some 4, .call 59 [(.t 3)], none⟩,
    ⟨some 5, .bin .add false (.t 4) (.c (.v (.int .i64 7))), none⟩,
    ⟨some 6, .bin .quo false (.t 5) (.c (.v (.int .i64 8))), none⟩,
    ⟨some 7, .mm true (.c (.v (.int .i64 1))) [(.t 6)], none⟩,
    ⟨some 2, .mov (.t 7), none⟩])
  .ret))⟩ := by kernel_rfl

theorem ir53 : compF Try.prog 53 = some ⟨12, [.t 4],
  (.seq (.ops [⟨some 4, .mov (.c (.v (.int .i64 0))), none⟩])
  (.seq (.seq (.ops [⟨some 5, .mov (.t 1), none⟩,
    ⟨some 6, .bin .lss false (.t 5) (.c (.v (.int .i64 1))), none⟩])
  (.cond (.t 6)
    (.seq (.ops [⟨some 4, .mov (.c (.v (.int .i64 0))), none⟩])
    .ret)
    .skip))
  (.seq (.ops [⟨some 7, .mov (.t 0), none⟩,
    ⟨some 8, .mov (.t 1), none⟩,
    ⟨some 9, .conv .u64 (.t 8), none⟩,
    ⟨some 10, .bin .rem false (.t 7) (.t 9), none⟩,
    ⟨some 11, .conv .i64 (.t 10), none⟩,
    ⟨some 4, .mov (.t 11), none⟩])
  .ret)))⟩ := by kernel_rfl

theorem ir54 : compF Try.prog 54 = some ⟨37, [.t 4],
  (.seq (.ops [⟨some 4, .mov (.c (.v (.int .u64 0))), none⟩])
  (.seq (.ops [⟨some 11, .mov (.t 1), none⟩,
    ⟨some 12, .bin .xor false (.t 11) (.c (.v (.int .u64 11400714819323198485))), none⟩,
    ⟨some 5, .alloc (.v (.int .u64 0)), none⟩,
    ⟨none, .store 1 (.t 5) (.t 12), none⟩])
  (.seq (.seq (.ops [⟨some 13, .mov (.t 0), none⟩,
    ⟨some 14, .len false (.t 13), none⟩,
    ⟨some 15, .mov (.c (.v (.int .i64 0))), none⟩])
  (.block 0 (.loop
    (.seq (.ops [⟨some 16, .bin .lss false (.t 15) (.t 14), none⟩])
    (.seq (.cond (.t 16)
      .skip
      (.exit 0))
    (.seq (.block 1 (.seq (.ops [⟨some 17, .iaddr 1 (.t 13) (.t 15), none⟩,
      ⟨some 18, .load 1 false (.t 17), none⟩,
      ⟨some 7, .mov (.t 18), none⟩])
    (.ops [⟨some 19, .load 1 false (.t 5), none⟩,
      ⟨some 20, .mov (.t 7), none⟩,
      ⟨some 21, .conv .u64 (.t 20), none⟩,
      ⟨some 22, .bin .xor false (.t 19) (.t 21), none⟩,
      ⟨some 23, .bin .mul false (.t 22) (.c (.v (.int .u64 1099511628211))), none⟩,
      ⟨none, .store 1 (.t 5) (.t 23), none⟩])))
    (.ops [⟨some 24, .bin .add false (.t 15) (.c (.v (.int .i64 1))), none⟩,
      ⟨some 15, .mov (.t 24), none⟩])))))))
  (.seq (.ops [⟨some 25, .mkfn (.func 60) [] [(.t 5)], none⟩,
    ⟨some 26, .mkfn (.func 61) [] [(.t 5)], none⟩,
    ⟨some 27, .mkfn (.func 62) [] [(.t 5)], none⟩,
    ⟨some 28, .build [(.v .nilFunc), (.v .nilFunc), (.v .nilFunc)] [(0, 1, (.t 25)), (1, 1, (.t 26)), (2, 1, (.t 27))], none⟩,
    ⟨some 8, .alloc (.agg [(.v .nilFunc), (.v .nilFunc), (.v .nilFunc)]), none⟩,
    ⟨none, .store 3 (.t 8) (.t 28), none⟩])
  (.seq (.seq (.ops [⟨some 29, .load 3 true (.t 8), none⟩,
    ⟨some 30, .mov (.c (.v (.int .i64 0))), none⟩])
  (.block 2 (.loop
    (.seq (.ops [⟨some 31, .bin .lss false (.t 30) (.c (.v (.int .i64 3))), none⟩])
    (.seq (.cond (.t 31)
      .skip
      (.exit 2))
    (.seq (.block 3 (.seq (.ops [⟨some 32, .idx 3 1 false (.t 29) (.t 30), none⟩,
      ⟨some 10, .mov (.t 32), none⟩])
    (.ops [⟨some 33, .mov (.t 10), none⟩,
      ⟨some 34, .calld (.t 33) [], none⟩])))
    (.ops [⟨some 35, .bin .add false (.t 30) (.c (.v (.int .i64 1))), none⟩,
      ⟨some 30, .mov (.t 35), none⟩])))))))
  (.seq (.ops [⟨some 36, .load 1 false (.t 5), none⟩,
    ⟨some 4, .mov (.t 36), none⟩])
  .ret))))))⟩ := by kernel_rfl

theorem ir55 : compF Try.prog 55 = some ⟨10, [.t 4],
  (.seq (.ops [⟨some 4, .mov (.c (.v (.bool false))), none⟩])
  (.seq (.ops [⟨some 5, .mov (.t 0), none⟩,
    ⟨some 6, .b2s (.t 5), none⟩,
    ⟨some 7, .mov (.t 1), none⟩,
    ⟨some 8, .b2s (.t 7), none⟩,
    ⟨some 9, .bin .eql false (.t 6) (.t 8), none⟩,
    ⟨some 4, .mov (.t 9), none⟩])
  .ret))⟩ := by kernel_rfl

theorem ir56 : compF Try.prog 56 = some ⟨11, [.t 2],
  (.seq (.ops [⟨some 2, .mov (.c (.v (.int .i64 0))), none⟩])
  (.seq (.ops [⟨some 3, .mov (.c (.v (.int .i64 0))), none⟩])
  (.seq (.block 0 (.loop
    (.seq (.seq (.ops [⟨some 4, .mov (.t 0), none⟩,
      ⟨some 5, .bin .gtr false (.t 4) (.c (.v (.int .u64 0))), none⟩])
    (.cond (.t 5)
      .skip
      (.exit 0)))
    (.seq (.block 1 (.ops [⟨some 8, .mov (.t 3), none⟩,
      ⟨some 9, .bin .add false (.t 8) (.c (.v (.int .i64 1))), none⟩,
      ⟨some 3, .mov (.t 9), none⟩]))
    (.ops [⟨some 6, .mov (.t 0), none⟩,
      ⟨some 7, .bin .shr false (.t 6) (.c (.v (.int .u64 1))), none⟩,
      ⟨some 0, .mov (.t 7), none⟩])))))
  (.seq (.ops [⟨some 10, .mov (.t 3), none⟩,
    ⟨some 2, .mov (.t 10), none⟩])
  .ret))))⟩ := by kernel_rfl

theorem ir57 : compF Try.prog 57 = some ⟨12, [.t 2],
  (.seq (.ops [⟨some 1, .box (.t 0), none⟩,
    ⟨some 2, .mov (.c (.v (.pointer none))), none⟩])
  (.seq (.draw [[⟨some 3, .faddr 0 (.t 1), none⟩,
      ⟨some 4, .load 1 false (.t 3), none⟩,
      ⟨some 5, .call 44 [(.t 4)], none⟩,
      ⟨some 6, .faddr 1 (.t 1), none⟩,
      ⟨some 7, .load 1 false (.t 6), none⟩],
    [⟨some 8, .build [(.v (.slice none 0 0)), (.v (.int .i64 0))] [(0, 1, (.t 5)), (1, 1, (.t 7))], none⟩],
    [⟨some 9, .build [(.v (.slice none 0 0)), (.v (.int .i64 0))] [(0, 2, (.t 8))], none⟩],
    [⟨some 10, .build [(.v (.slice none 0 0)), (.v (.int .i64 0))] [(0, 2, (.t 9))], none⟩],
    [⟨some 11, .box (.t 10), none⟩],
    [⟨some 2, .mov (.t 11), none⟩]])
  .ret))⟩ := by kernel_rfl

theorem ir58 : compF Try.prog 58 = some ⟨54, [],
  (.seq (.seq (.ops [⟨some 4, .mov (.t 0), none⟩,
    ⟨some 5, .nilchk (.t 4), none⟩,
    ⟨some 6, .faddr 0 (.t 5), none⟩,
    ⟨some 7, .faddr 1 (.t 6), none⟩,
    ⟨some 8, .load 1 false (.t 7), none⟩,
    ⟨some 9, .bin .rem false (.t 8) (.c (.v (.int .i64 8))), none⟩,
    ⟨some 10, .bin .eql false (.t 9) (.c (.v (.int .i64 0))), none⟩])
  (.cond (.t 10)
    (.ops [⟨some 11, .mov (.t 0), none⟩,
      ⟨some 12, .mov (.t 0), none⟩,
      ⟨some 13, .nilchk (.t 12), none⟩,
      ⟨some 14, .faddr 0 (.t 13), none⟩,
      ⟨some 15, .faddr 0 (.t 14), none⟩,
      ⟨some 16, .load 1 false (.t 15), none⟩,
      ⟨some 17, .bslice 1 [(.v (.int .u8 0))] 1 [(0, 1, (.c (.v (.int .u8 0))))], none⟩,
      ⟨some 18, .append 1 1 [(.v (.int .u8 0))] (.t 16) (.t 17), none⟩,
      ⟨some 19, .nilchk (.t 11), none⟩,
      ⟨some 20, .faddr 0 (.t 19), none⟩,
      ⟨some 21, .faddr 0 (.t 20), none⟩,
      ⟨none, .store 1 (.t 21) (.t 18), none⟩])
    .skip))
  (.seq (.seq (.ops [⟨some 22, .mov (.t 1), none⟩])
  (.cond (.t 22)
    (.draw [[⟨some 23, .mov (.t 0), none⟩,
        ⟨some 24, .nilchk (.t 23), none⟩,
        ⟨some 25, .faddr 0 (.t 24), none⟩,
        ⟨some 26, .faddr 0 (.t 25), none⟩,
        ⟨some 27, .load 1 false (.t 26), none⟩,
        ⟨some 28, .mov (.t 0), none⟩,
        ⟨some 29, .nilchk (.t 28), none⟩,
        ⟨some 30, .faddr 0 (.t 29), none⟩,
        ⟨some 31, .faddr 1 (.t 30), none⟩,
        ⟨some 32, .load 1 false (.t 31), none⟩,
        ⟨some 33, .bin .quo false (.t 32) (.c (.v (.int .i64 8))), none⟩,
        ⟨some 34, .iaddr 1 (.t 27) (.t 33), none⟩,
        ⟨some 35, .load 1 false (.t 34), none⟩,
        ⟨some 36, .mov (.t 0), none⟩,
        ⟨some 37, .nilchk (.t 36), none⟩,
        ⟨some 38, .faddr 0 (.t 37), none⟩,
        ⟨some 39, .faddr 1 (.t 38), none⟩,
        ⟨some 40, .load 1 false (.t 39), none⟩,
        ⟨some 41, .bin .rem false (.t 40) (.c (.v (.int .i64 8))), none⟩,
        ⟨some 42, .bin .shr false (.c (.v (.int .u8 128))) (.t 41), none⟩],
      [⟨some 43, .bin .or false (.t 35) (.t 42), none⟩],
      [⟨some 44, .iaddr 1 (.t 27) (.t 33), none⟩],
      [⟨none, .store 1 (.t 44) (.t 43), none⟩]])
    .skip))
  (.ops [⟨some 45, .mov (.t 0), none⟩,
    ⟨some 46, .nilchk (.t 45), none⟩,
    ⟨some 47, .faddr 0 (.t 46), none⟩,
    ⟨some 48, .faddr 1 (.t 47), none⟩,
    ⟨some 49, .load 1 false (.t 48), none⟩,
    ⟨some 50, .bin .add false (.t 49) (.c (.v (.int .i64 1))), none⟩,
    ⟨some 51, .nilchk (.t 45), none⟩,
    ⟨some 52, .faddr 0 (.t 51), none⟩,
    ⟨some 53, .faddr 1 (.t 52), none⟩,
    ⟨none, .store 1 (.t 53) (.t 50), none⟩])))⟩ := by kernel_rfl

theorem ir59 : compF Try.prog 59 = some ⟨18, [.t 2],
  (.seq (.ops [⟨some 2, .mov (.c (.v (.int .i64 0))), none⟩])
  (.seq (.ops [⟨some 3, .mov (.c (.v (.int .i64 0))), none⟩])
  (.seq (.seq (.ops [⟨some 6, .mov (.t 0), none⟩,
    ⟨some 7, .call 49 [(.t 6), (.c (.fn (.func 50) [] []))], none⟩,
    ⟨some 8, .len false (.t 7), none⟩,
    ⟨some 9, .mov (.c (.v (.int .i64 0))), none⟩])
  (.block 0 (.loop
    (.seq (.ops [⟨some 10, .bin .lss false (.t 9) (.t 8), none⟩])
    (.seq (.cond (.t 10)
      .skip
      (.exit 0))
    (.seq (.block 1 (.seq (.ops [⟨some 11, .iaddr 1 (.t 7) (.t 9), none⟩,
      ⟨some 12, .load 1 false (.t 11), none⟩,
      ⟨some 5, .mov (.t 12), none⟩])
    (.ops [⟨some 13, .mov (.t 3), none⟩,
      ⟨some 14, .mov (.t 5), none⟩,
      ⟨some 15, .bin .add false (.t 13) (.t 14), none⟩,
      ⟨some 3, .mov (.t 15), none⟩])))
    (.ops [⟨some 16, .bin .add false (.t 9) (.c (.v (.int .i64 1))), none⟩,
      ⟨some 9, .mov (.t 16), none⟩])))))))
  (.seq (.ops [⟨some 17, .mov (.t 3), none⟩,
    ⟨some 2, .mov (.t 17), none⟩])
  .ret))))⟩ := by kernel_rfl

theorem ir60 : compF Try.prog 60 = some ⟨5, [],
  (.ops [⟨some 1, .load 1 false (.t 0), none⟩,
    ⟨some 2, .load 1 false (.t 0), none⟩,
    ⟨some 3, .bin .shr false (.t 2) (.c (.v (.int .u64 29))), none⟩,
    ⟨some 4, .bin .xor false (.t 1) (.t 3), none⟩,
    ⟨none, .store 1 (.t 0) (.t 4), none⟩])⟩ := by kernel_rfl

theorem ir61 : compF Try.prog 61 = some ⟨3, [],
  (.ops [⟨some 1, .load 1 false (.t 0), none⟩,
    ⟨some 2, .bin .mul false (.t 1) (.c (.v (.int .u64 13787848793156543929))), none⟩,
    ⟨none, .store 1 (.t 0) (.t 2), none⟩])⟩ := by kernel_rfl

theorem ir62 : compF Try.prog 62 = some ⟨5, [],
  (.ops [⟨some 1, .load 1 false (.t 0), none⟩,
    ⟨some 2, .load 1 false (.t 0), none⟩,
    ⟨some 3, .bin .shr false (.t 2) (.c (.v (.int .u64 32))), none⟩,
    ⟨some 4, .bin .xor false (.t 1) (.t 3), none⟩,
    ⟨none, .store 1 (.t 0) (.t 4), none⟩])⟩ := by kernel_rfl

end Go.Proofs.Ytblhaolmoekjhaa
