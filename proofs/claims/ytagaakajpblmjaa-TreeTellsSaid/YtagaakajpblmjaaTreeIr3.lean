/- Functions of the program in the small language. -/
import Derived.Test.YtagaakajpblmjaaTreeIr
import Derived.Test.YtagaakajpblmjaaChecked
namespace Go.Proofs.Ytagaakajpblmjaa
open Go Lg
set_option maxRecDepth 100000 in
theorem ir3 : compF Try.prog 3 = some ⟨189, [.t 6],
  (.seq (.ops [⟨some 6, .mov (.c (.v (.bool false))), none⟩])
  (.seq (.ops [⟨some 32, .call 8 [], none⟩,
    ⟨some 7, .mov (.t 32), none⟩])
  (.seq (.seq (.ops [⟨some 33, .mov (.t 0), none⟩,
    ⟨some 34, .call 9 [(.t 33)], none⟩,
    ⟨some 35, .un .not (.t 34), none⟩,
    ⟨some 36, .mov (.t 35), none⟩,
    ⟨some 37, .mov (.t 2), some (36, false)⟩,
    ⟨some 38, .call 10 [(.t 37), (.c (.v (.int .i64 50)))], some (36, false)⟩,
    ⟨some 39, .un .not (.t 38), some (36, false)⟩,
    ⟨some 40, .pick (.t 36) (.c (.v (.bool true))) (.t 39), none⟩])
  (.cond (.t 40)
    (.seq (.ops [⟨some 41, .mov (.t 7), none⟩,
      ⟨some 6, .mov (.t 41), none⟩])
    .ret)
    .skip))
  (.seq (.ops [⟨some 43, .mov (.t 0), none⟩,
    ⟨some 44, .mov (.t 1), none⟩,
    ⟨some 45, .call 11 [(.t 43), (.t 44)], none⟩,
    ⟨some 42, .mov (.t 45), none⟩,
    ⟨some 46, .extract (.t 42) 0, none⟩,
    ⟨some 47, .extract (.t 42) 1, none⟩,
    ⟨some 8, .alloc (.agg [(.v (.slice none 0 0)), (.v (.slice none 0 0))]), none⟩,
    ⟨none, .store 2 (.t 8) (.t 46), none⟩,
    ⟨some 9, .mov (.t 47), none⟩])
  (.seq (.ops [⟨some 49, .mov (.t 0), none⟩,
    ⟨some 50, .mov (.t 1), none⟩,
    ⟨some 51, .call 12 [(.t 49), (.t 50)], none⟩,
    ⟨some 48, .mov (.t 51), none⟩,
    ⟨some 52, .extract (.t 48) 0, none⟩,
    ⟨some 53, .extract (.t 48) 1, none⟩,
    ⟨some 10, .alloc (.agg [(.v (.slice none 0 0)), (.v (.int .i64 0)), (.v (.slice none 0 0)), (.v (.slice none 0 0))]), none⟩,
    ⟨none, .store 4 (.t 10) (.t 52), none⟩,
    ⟨some 11, .mov (.t 53), none⟩])
  (.seq (.seq (.ops [⟨some 54, .mov (.t 9), none⟩,
    ⟨some 55, .mov (.t 11), none⟩,
    ⟨some 56, .bin .neq false (.t 54) (.t 55), none⟩])
  (.cond (.t 56)
    (.seq (.ops [⟨some 6, .mov (.c (.v (.bool false))), none⟩])
    .ret)
    .skip))
  (.seq (.seq (.ops [⟨some 57, .mov (.t 11), none⟩,
    ⟨some 58, .bin .neq false (.t 57) (.c (.v (.int .i64 0))), none⟩])
  (.cond (.t 58)
    (.seq (.ops [⟨some 59, .mov (.t 7), none⟩,
      ⟨some 6, .mov (.t 59), none⟩])
    .ret)
    .skip))
  (.seq (.seq (.ops [⟨some 12, .mov (.c (.v (.int .i64 0))), none⟩])
  (.block 0 (.loop
    (.seq (.seq (.ops [⟨some 60, .mov (.t 12), none⟩,
      ⟨some 61, .mov (.t 2), none⟩,
      ⟨some 62, .len false (.t 61), none⟩,
      ⟨some 63, .bin .lss false (.t 60) (.t 62), none⟩])
    (.cond (.t 63)
      .skip
      (.exit 0)))
    (.seq (.block 1 (.seq (.ops [⟨some 66, .mov (.t 2), none⟩,
      ⟨some 67, .mov (.t 12), none⟩,
      ⟨some 68, .iaddr 3 (.t 66) (.t 67), none⟩,
      ⟨some 69, .load 3 true (.t 68), none⟩,
      ⟨some 13, .alloc (.agg [(.v (.int .u8 0)), (.v (.slice none 0 0)), (.v (.int .i64 0))]), none⟩,
      ⟨none, .store 3 (.t 13) (.t 69), none⟩])
    (.seq (.seq (.ops [⟨some 70, .faddr 0 (.t 13), none⟩,
      ⟨some 71, .load 1 false (.t 70), none⟩,
      ⟨some 72, .bin .rem false (.t 71) (.c (.v (.int .u8 3))), none⟩])
    (.block 2 (.seq (.ops [⟨some 74, .bin .eql false (.t 72) (.c (.v (.int .u8 0))), none⟩,
      ⟨some 73, .mov (.t 74), none⟩])
    (.cond (.t 73)
      (.seq (.ops [⟨some 76, .load 2 true (.t 8), none⟩,
        ⟨some 77, .mov (.t 0), none⟩,
        ⟨some 78, .faddr 1 (.t 13), none⟩,
        ⟨some 79, .load 1 false (.t 78), none⟩,
        ⟨some 80, .call 13 [(.t 76), (.t 77), (.t 79)], none⟩,
        ⟨some 75, .mov (.t 80), none⟩,
        ⟨some 81, .extract (.t 75) 0, none⟩,
        ⟨some 82, .extract (.t 75) 1, none⟩,
        ⟨some 83, .extract (.t 75) 2, none⟩,
        ⟨some 14, .alloc (.agg [(.v (.slice none 0 0)), (.v (.slice none 0 0))]), none⟩,
        ⟨none, .store 2 (.t 14) (.t 81), none⟩,
        ⟨some 15, .mov (.t 82), none⟩,
        ⟨some 16, .mov (.t 83), none⟩])
      (.seq (.ops [⟨some 85, .load 4 true (.t 10), none⟩,
        ⟨some 86, .faddr 1 (.t 13), none⟩,
        ⟨some 87, .load 1 false (.t 86), none⟩,
        ⟨some 88, .call 14 [(.t 85), (.t 87)], none⟩,
        ⟨some 84, .mov (.t 88), none⟩,
        ⟨some 89, .extract (.t 84) 0, none⟩,
        ⟨some 90, .extract (.t 84) 1, none⟩,
        ⟨some 91, .extract (.t 84) 2, none⟩,
        ⟨some 17, .alloc (.agg [(.v (.slice none 0 0)), (.v (.int .i64 0)), (.v (.slice none 0 0)), (.v (.slice none 0 0))]), none⟩,
        ⟨none, .store 4 (.t 17) (.t 89), none⟩,
        ⟨some 18, .mov (.t 90), none⟩,
        ⟨some 19, .mov (.t 91), none⟩])
      (.seq (.seq (.ops [⟨some 92, .mov (.t 15), none⟩,
        ⟨some 93, .mov (.t 18), none⟩,
        ⟨some 94, .bin .neq true (.t 92) (.t 93), none⟩,
        ⟨some 95, .mov (.t 94), none⟩,
        ⟨some 96, .mov (.t 16), some (95, false)⟩,
        ⟨some 97, .mov (.t 19), some (95, false)⟩,
        ⟨some 98, .bin .neq false (.t 96) (.t 97), some (95, false)⟩,
        ⟨some 99, .pick (.t 95) (.c (.v (.bool true))) (.t 98), none⟩])
      (.cond (.t 99)
        (.seq (.ops [⟨some 6, .mov (.c (.v (.bool false))), none⟩])
        .ret)
        .skip))
      (.seq (.ops [⟨some 100, .load 2 true (.t 14), none⟩,
        ⟨none, .store 2 (.t 8) (.t 100), none⟩])
      (.ops [⟨some 101, .load 4 true (.t 17), none⟩,
        ⟨none, .store 4 (.t 10) (.t 101), none⟩])))))
      (.seq (.ops [⟨some 103, .bin .eql false (.t 72) (.c (.v (.int .u8 1))), none⟩,
        ⟨some 102, .mov (.t 103), none⟩])
      (.cond (.t 102)
        (.seq (.ops [⟨some 105, .load 2 true (.t 8), none⟩,
          ⟨some 106, .mov (.t 0), none⟩,
          ⟨some 107, .faddr 1 (.t 13), none⟩,
          ⟨some 108, .load 1 false (.t 107), none⟩,
          ⟨some 109, .faddr 2 (.t 13), none⟩,
          ⟨some 110, .load 1 false (.t 109), none⟩,
          ⟨some 111, .call 15 [(.t 105), (.t 106), (.t 108), (.t 110)], none⟩,
          ⟨some 104, .mov (.t 111), none⟩,
          ⟨some 112, .extract (.t 104) 0, none⟩,
          ⟨some 113, .extract (.t 104) 1, none⟩,
          ⟨some 20, .alloc (.agg [(.v (.slice none 0 0)), (.v (.slice none 0 0))]), none⟩,
          ⟨none, .store 2 (.t 20) (.t 112), none⟩,
          ⟨some 21, .mov (.t 113), none⟩])
        (.seq (.ops [⟨some 115, .load 4 true (.t 10), none⟩,
          ⟨some 116, .faddr 1 (.t 13), none⟩,
          ⟨some 117, .load 1 false (.t 116), none⟩,
          ⟨some 118, .faddr 2 (.t 13), none⟩,
          ⟨some 119, .load 1 false (.t 118), none⟩,
          ⟨some 120, .call 16 [(.t 115), (.t 117), (.t 119)], none⟩,
          ⟨some 114, .mov (.t 120), none⟩,
          ⟨some 121, .extract (.t 114) 0, none⟩,
          ⟨some 122, .extract (.t 114) 1, none⟩,
          ⟨some 22, .alloc (.agg [(.v (.slice none 0 0)), (.v (.int .i64 0)), (.v (.slice none 0 0)), (.v (.slice none 0 0))]), none⟩,
          ⟨none, .store 4 (.t 22) (.t 121), none⟩,
          ⟨some 23, .mov (.t 122), none⟩])
        (.seq (.seq (.ops [⟨some 123, .mov (.t 21), none⟩,
          ⟨some 124, .mov (.t 23), none⟩,
          ⟨some 125, .bin .neq false (.t 123) (.t 124), none⟩])
        (.cond (.t 125)
          (.seq (.ops [⟨some 6, .mov (.c (.v (.bool false))), none⟩])
          .ret)
          .skip))
        (.seq (.ops [⟨some 126, .load 2 true (.t 20), none⟩,
          ⟨none, .store 2 (.t 8) (.t 126), none⟩])
        (.ops [⟨some 127, .load 4 true (.t 22), none⟩,
          ⟨none, .store 4 (.t 10) (.t 127), none⟩])))))
        (.seq (.ops [⟨some 129, .bin .eql false (.t 72) (.c (.v (.int .u8 2))), none⟩,
          ⟨some 128, .mov (.t 129), none⟩])
        (.cond (.t 128)
          (.seq (.ops [⟨some 131, .load 2 true (.t 8), none⟩,
            ⟨some 132, .mov (.t 0), none⟩,
            ⟨some 133, .faddr 1 (.t 13), none⟩,
            ⟨some 134, .load 1 false (.t 133), none⟩,
            ⟨some 135, .faddr 2 (.t 13), none⟩,
            ⟨some 136, .load 1 false (.t 135), none⟩,
            ⟨some 137, .call 17 [(.t 131), (.t 132), (.t 134), (.t 136)], none⟩,
            ⟨some 130, .mov (.t 137), none⟩,
            ⟨some 138, .extract (.t 130) 0, none⟩,
            ⟨some 139, .extract (.t 130) 1, none⟩,
            ⟨some 24, .mov (.t 138), none⟩,
            ⟨some 25, .mov (.t 139), none⟩])
          (.seq (.ops [⟨some 141, .load 4 true (.t 10), none⟩,
            ⟨some 142, .faddr 1 (.t 13), none⟩,
            ⟨some 143, .load 1 false (.t 142), none⟩,
            ⟨some 144, .faddr 2 (.t 13), none⟩,
            ⟨some 145, .load 1 false (.t 144), none⟩,
            ⟨some 146, .call 18 [(.t 141), (.t 143), (.t 145)], none⟩,
            ⟨some 140, .mov (.t 146), none⟩,
            ⟨some 147, .extract (.t 140) 0, none⟩,
            ⟨some 148, .extract (.t 140) 1, none⟩,
            ⟨some 26, .mov (.t 147), none⟩,
            ⟨some 27, .mov (.t 148), none⟩])
          (.seq (.ops [⟨some 149, .mov (.t 24), none⟩,
            ⟨some 150, .mov (.t 26), none⟩,
            ⟨some 151, .bin .neq true (.t 149) (.t 150), none⟩,
            ⟨some 152, .mov (.t 151), none⟩,
            ⟨some 153, .mov (.t 25), some (152, false)⟩,
            ⟨some 154, .mov (.t 27), some (152, false)⟩,
            ⟨some 155, .bin .neq false (.t 153) (.t 154), some (152, false)⟩,
            ⟨some 156, .pick (.t 152) (.c (.v (.bool true))) (.t 155), none⟩])
          (.cond (.t 156)
            (.seq (.ops [⟨some 6, .mov (.c (.v (.bool false))), none⟩])
            .ret)
            .skip))))
          .skip))))))))
    (.seq (.ops [⟨some 158, .load 2 true (.t 8), none⟩,
      ⟨some 159, .mov (.t 0), none⟩,
      ⟨some 160, .faddr 1 (.t 13), none⟩,
      ⟨some 161, .load 1 false (.t 160), none⟩,
      ⟨some 162, .call 19 [(.t 158), (.t 159), (.t 161)], none⟩,
      ⟨some 157, .mov (.t 162), none⟩,
      ⟨some 163, .extract (.t 157) 0, none⟩,
      ⟨some 164, .extract (.t 157) 1, none⟩,
      ⟨some 28, .mov (.t 163), none⟩,
      ⟨some 29, .mov (.t 164), none⟩])
    (.seq (.ops [⟨some 166, .load 4 true (.t 10), none⟩,
      ⟨some 167, .faddr 1 (.t 13), none⟩,
      ⟨some 168, .load 1 false (.t 167), none⟩,
      ⟨some 169, .call 20 [(.t 166), (.t 168)], none⟩,
      ⟨some 165, .mov (.t 169), none⟩,
      ⟨some 170, .extract (.t 165) 0, none⟩,
      ⟨some 171, .extract (.t 165) 1, none⟩,
      ⟨some 30, .mov (.t 170), none⟩,
      ⟨some 31, .mov (.t 171), none⟩])
    (.seq (.draw [[⟨some 172, .mov (.t 28), none⟩,
        ⟨some 173, .mov (.t 30), none⟩],
      [⟨some 174, .bin .neq true (.t 172) (.t 173), none⟩],
      [⟨some 175, .mov (.t 174), none⟩],
      [⟨some 176, .mov (.t 29), some (175, false)⟩,
        ⟨some 177, .mov (.t 31), some (175, false)⟩],
      [⟨some 178, .bin .neq false (.t 176) (.t 177), some (175, false)⟩],
      [⟨some 179, .pick (.t 175) (.c (.v (.bool true))) (.t 178), none⟩],
      [⟨some 180, .mov (.t 179), none⟩],
      [⟨some 181, .load 2 true (.t 8), some (180, false)⟩,
        ⟨some 182, .call 21 [(.t 181)], some (180, false)⟩,
        ⟨some 183, .faddr 2 (.t 10), some (180, false)⟩,
        ⟨some 184, .load 1 false (.t 183), some (180, false)⟩,
        ⟨some 185, .len false (.t 184), some (180, false)⟩],
      [⟨some 186, .bin .neq false (.t 182) (.t 185), some (180, false)⟩],
      [⟨some 187, .pick (.t 180) (.c (.v (.bool true))) (.t 186), none⟩]])
    (.cond (.t 187)
      (.seq (.ops [⟨some 6, .mov (.c (.v (.bool false))), none⟩])
      .ret)
      .skip)))))))
    (.ops [⟨some 64, .mov (.t 12), none⟩,
      ⟨some 65, .bin .add false (.t 64) (.c (.v (.int .i64 1))), none⟩,
      ⟨some 12, .mov (.t 65), none⟩]))))))
  (.seq (.ops [⟨some 188, .mov (.t 7), none⟩,
    ⟨some 6, .mov (.t 188), none⟩])
  .ret)))))))))⟩ := by kernel_rfl
end Go.Proofs.Ytagaakajpblmjaa
