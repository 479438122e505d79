/- Functions of the program in the small language. -/
import Derived.Test.YtagaakajpblmjaaTreeIr
import Derived.Test.YtagaakajpblmjaaChecked
namespace Go.Proofs.Ytagaakajpblmjaa
open Go Lg
set_option maxRecDepth 100000 in
theorem ir5 : compF Try.prog 5 = some ⟨209, [.t 2],
  (.seq (.ops [⟨some 1, .box (.t 0), none⟩,
    ⟨some 2, .mov (.c (.v (.bool false))), none⟩])
  (.seq (.ops [⟨some 32, .faddr 0 (.t 1), none⟩,
    ⟨some 33, .load 1 false (.t 32), none⟩,
    ⟨some 3, .mov (.t 33), none⟩])
  (.seq (.ops [⟨some 34, .faddr 1 (.t 1), none⟩,
    ⟨some 35, .load 1 false (.t 34), none⟩,
    ⟨some 4, .mov (.t 35), none⟩])
  (.seq (.ops [⟨some 36, .faddr 2 (.t 1), none⟩,
    ⟨some 37, .load 1 false (.t 36), none⟩,
    ⟨some 5, .mov (.t 37), none⟩])
  (.seq (.ops [⟨some 38, .faddr 3 (.t 1), none⟩,
    ⟨some 39, .load 1 false (.t 38), none⟩,
    ⟨some 6, .mov (.t 39), none⟩])
  (.seq (.ops [⟨some 40, .call 8 [], none⟩,
    ⟨some 7, .mov (.t 40), none⟩])
  (.seq (.seq (.ops [⟨some 41, .mov (.t 3), none⟩,
    ⟨some 42, .call 9 [(.t 41)], none⟩,
    ⟨some 43, .un .not (.t 42), none⟩,
    ⟨some 44, .mov (.t 43), none⟩,
    ⟨some 45, .mov (.t 4), some (44, false)⟩,
    ⟨some 46, .len false (.t 45), some (44, false)⟩,
    ⟨some 47, .bin .gtr false (.t 46) (.c (.v (.int .i64 30))), some (44, false)⟩,
    ⟨some 48, .pick (.t 44) (.c (.v (.bool true))) (.t 47), none⟩,
    ⟨some 49, .mov (.t 48), none⟩,
    ⟨some 50, .mov (.t 5), some (49, false)⟩,
    ⟨some 51, .len false (.t 50), some (49, false)⟩,
    ⟨some 52, .bin .gtr false (.t 51) (.c (.v (.int .i64 40))), some (49, false)⟩,
    ⟨some 53, .pick (.t 49) (.c (.v (.bool true))) (.t 52), none⟩])
  (.cond (.t 53)
    (.seq (.ops [⟨some 54, .mov (.t 7), none⟩,
      ⟨some 2, .mov (.t 54), none⟩])
    .ret)
    .skip))
  (.seq (.ops [⟨some 56, .mov (.t 3), none⟩,
    ⟨some 57, .call 11 [(.t 56), (.c (.v (.int .i64 100)))], none⟩,
    ⟨some 55, .mov (.t 57), none⟩,
    ⟨some 58, .extract (.t 55) 0, none⟩,
    ⟨some 59, .extract (.t 55) 1, none⟩,
    ⟨some 8, .alloc (.agg [(.v (.slice none 0 0)), (.v (.slice none 0 0))]), none⟩,
    ⟨none, .store 2 (.t 8) (.t 58), none⟩,
    ⟨some 9, .mov (.t 59), none⟩])
  (.seq (.seq (.ops [⟨some 10, .mov (.c (.v (.int .i64 0))), none⟩])
  (.block 0 (.loop
    (.seq (.seq (.ops [⟨some 60, .mov (.t 10), none⟩,
      ⟨some 61, .mov (.t 4), none⟩,
      ⟨some 62, .len false (.t 61), none⟩,
      ⟨some 63, .bin .lss false (.t 60) (.t 62), none⟩])
    (.cond (.t 63)
      .skip
      (.exit 0)))
    (.seq (.block 1 (.seq (.seq (.ops [⟨some 66, .mov (.t 4), none⟩,
      ⟨some 67, .mov (.t 10), none⟩,
      ⟨some 68, .iaddr 1 (.t 66) (.t 67), none⟩,
      ⟨some 69, .load 1 false (.t 68), none⟩,
      ⟨some 70, .len false (.t 69), none⟩,
      ⟨some 71, .bin .gtr false (.t 70) (.c (.v (.int .i64 40))), none⟩])
    (.cond (.t 71)
      (.seq (.ops [⟨some 72, .mov (.t 7), none⟩,
        ⟨some 2, .mov (.t 72), none⟩])
      .ret)
      .skip))
    (.seq (.draw [[⟨some 74, .load 2 true (.t 8), none⟩,
        ⟨some 75, .mov (.t 3), none⟩,
        ⟨some 76, .mov (.t 4), none⟩,
        ⟨some 77, .mov (.t 10), none⟩,
        ⟨some 78, .iaddr 1 (.t 76) (.t 77), none⟩,
        ⟨some 79, .load 1 false (.t 78), none⟩,
        ⟨some 80, .call 13 [(.t 74), (.t 75), (.t 79)], none⟩,
        ⟨some 73, .mov (.t 80), none⟩,
        ⟨some 81, .extract (.t 73) 0, none⟩,
        ⟨some 82, .extract (.t 73) 1, none⟩,
        ⟨some 83, .extract (.t 73) 2, none⟩,
        ⟨some 11, .alloc (.agg [(.v (.slice none 0 0)), (.v (.slice none 0 0))]), none⟩,
        ⟨none, .store 2 (.t 11) (.t 81), none⟩,
        ⟨some 12, .mov (.t 82), none⟩],
      [⟨some 13, .mov (.t 83), none⟩]])
    (.ops [⟨some 84, .load 2 true (.t 11), none⟩,
      ⟨none, .store 2 (.t 8) (.t 84), none⟩]))))
    (.ops [⟨some 64, .mov (.t 10), none⟩,
      ⟨some 65, .bin .add false (.t 64) (.c (.v (.int .i64 1))), none⟩,
      ⟨some 10, .mov (.t 65), none⟩]))))))
  (.seq (.ops [⟨some 86, .load 2 true (.t 8), none⟩,
    ⟨some 87, .mov (.t 3), none⟩,
    ⟨some 88, .mov (.t 5), none⟩,
    ⟨some 89, .call 19 [(.t 86), (.t 87), (.t 88)], none⟩,
    ⟨some 85, .mov (.t 89), none⟩,
    ⟨some 90, .extract (.t 85) 0, none⟩,
    ⟨some 91, .extract (.t 85) 1, none⟩,
    ⟨some 14, .mov (.t 90), none⟩,
    ⟨some 15, .mov (.t 91), none⟩])
  (.seq (.ops [⟨some 92, .load 2 true (.t 8), none⟩,
    ⟨some 93, .call 21 [(.t 92)], none⟩,
    ⟨some 16, .mov (.t 93), none⟩])
  (.seq (.ops [⟨some 94, .load 2 true (.t 8), none⟩,
    ⟨some 95, .call 23 [(.t 94)], none⟩,
    ⟨some 17, .mov (.t 95), none⟩])
  (.seq (.ops [⟨some 97, .load 2 true (.t 8), none⟩,
    ⟨some 98, .mov (.t 3), none⟩,
    ⟨some 99, .mov (.t 5), none⟩,
    ⟨some 100, .call 13 [(.t 97), (.t 98), (.t 99)], none⟩,
    ⟨some 96, .mov (.t 100), none⟩,
    ⟨some 101, .extract (.t 96) 0, none⟩,
    ⟨some 102, .extract (.t 96) 1, none⟩,
    ⟨some 103, .extract (.t 96) 2, none⟩,
    ⟨some 18, .alloc (.agg [(.v (.slice none 0 0)), (.v (.slice none 0 0))]), none⟩,
    ⟨none, .store 2 (.t 18) (.t 101), none⟩,
    ⟨some 19, .mov (.t 102), none⟩,
    ⟨some 20, .mov (.t 103), none⟩])
  (.seq (.seq (.ops [⟨some 104, .mov (.t 15), none⟩,
    ⟨some 105, .mov (.t 20), none⟩,
    ⟨some 106, .bin .neq false (.t 104) (.t 105), none⟩,
    ⟨some 107, .mov (.t 106), none⟩,
    ⟨some 108, .mov (.t 15), some (107, false)⟩,
    ⟨some 109, .bin .eql false (.t 108) (.c (.v (.int .i64 0))), some (107, false)⟩,
    ⟨some 110, .mov (.t 109), some (107, false)⟩,
    ⟨some 111, .mov (.t 19), some (110, true)⟩,
    ⟨some 112, .mov (.t 14), some (110, true)⟩,
    ⟨some 113, .bin .eql true (.t 111) (.t 112), some (110, true)⟩,
    ⟨some 114, .pick (.t 110) (.t 113) (.c (.v (.bool false))), some (107, false)⟩,
    ⟨some 115, .pick (.t 107) (.c (.v (.bool true))) (.t 114), none⟩])
  (.cond (.t 115)
    (.seq (.ops [⟨some 2, .mov (.c (.v (.bool false))), none⟩])
    .ret)
    .skip))
  (.seq (.ops [⟨some 116, .mov (.t 6), none⟩,
    ⟨some 117, .conv .i64 (.t 116), none⟩,
    ⟨some 118, .bin .rem false (.t 117) (.c (.v (.int .i64 2))), none⟩,
    ⟨some 21, .mov (.t 118), none⟩])
  (.seq (.ops [⟨some 120, .load 2 true (.t 18), none⟩,
    ⟨some 121, .mov (.t 3), none⟩,
    ⟨some 122, .mov (.t 5), none⟩,
    ⟨some 123, .mov (.t 21), none⟩,
    ⟨some 124, .call 15 [(.t 120), (.t 121), (.t 122), (.t 123)], none⟩,
    ⟨some 119, .mov (.t 124), none⟩,
    ⟨some 125, .extract (.t 119) 0, none⟩,
    ⟨some 126, .extract (.t 119) 1, none⟩,
    ⟨some 22, .alloc (.agg [(.v (.slice none 0 0)), (.v (.slice none 0 0))]), none⟩,
    ⟨none, .store 2 (.t 22) (.t 125), none⟩,
    ⟨some 23, .mov (.t 126), none⟩])
  (.seq (.ops [⟨some 128, .load 2 true (.t 18), none⟩,
    ⟨some 129, .mov (.t 3), none⟩,
    ⟨some 130, .mov (.t 5), none⟩,
    ⟨some 131, .mov (.t 21), none⟩,
    ⟨some 132, .call 17 [(.t 128), (.t 129), (.t 130), (.t 131)], none⟩,
    ⟨some 127, .mov (.t 132), none⟩,
    ⟨some 133, .extract (.t 127) 0, none⟩,
    ⟨some 134, .extract (.t 127) 1, none⟩,
    ⟨some 24, .mov (.t 133), none⟩,
    ⟨some 25, .mov (.t 134), none⟩])
  (.seq (.ops [⟨some 136, .load 2 true (.t 22), none⟩,
    ⟨some 137, .mov (.t 3), none⟩,
    ⟨some 138, .mov (.t 5), none⟩,
    ⟨some 139, .mov (.t 21), none⟩,
    ⟨some 140, .call 17 [(.t 136), (.t 137), (.t 138), (.t 139)], none⟩,
    ⟨some 135, .mov (.t 140), none⟩,
    ⟨some 141, .extract (.t 135) 0, none⟩,
    ⟨some 142, .extract (.t 135) 1, none⟩,
    ⟨some 26, .mov (.t 141), none⟩,
    ⟨some 27, .mov (.t 142), none⟩])
  (.seq (.ops [⟨some 144, .load 2 true (.t 22), none⟩,
    ⟨some 145, .mov (.t 3), none⟩,
    ⟨some 146, .mov (.t 5), none⟩,
    ⟨some 147, .mov (.t 21), none⟩,
    ⟨some 148, .bin .sub false (.c (.v (.int .i64 1))) (.t 147), none⟩,
    ⟨some 149, .call 17 [(.t 144), (.t 145), (.t 146), (.t 148)], none⟩,
    ⟨some 143, .mov (.t 149), none⟩,
    ⟨some 150, .extract (.t 143) 0, none⟩,
    ⟨some 151, .extract (.t 143) 1, none⟩,
    ⟨some 28, .mov (.t 150), none⟩,
    ⟨some 29, .mov (.t 151), none⟩])
  (.seq (.ops [⟨some 153, .load 2 true (.t 8), none⟩,
    ⟨some 154, .mov (.t 3), none⟩,
    ⟨some 155, .mov (.t 5), none⟩,
    ⟨some 156, .call 19 [(.t 153), (.t 154), (.t 155)], none⟩,
    ⟨some 152, .mov (.t 156), none⟩,
    ⟨some 157, .extract (.t 152) 0, none⟩,
    ⟨some 158, .extract (.t 152) 1, none⟩,
    ⟨some 30, .mov (.t 157), none⟩,
    ⟨some 31, .mov (.t 158), none⟩])
  (.seq (.seq (.ops [⟨some 159, .mov (.t 15), none⟩,
    ⟨some 160, .bin .neq false (.t 159) (.c (.v (.int .i64 0))), none⟩])
  (.cond (.t 160)
    (.seq (.ops [⟨some 161, .mov (.t 7), none⟩,
      ⟨some 162, .mov (.t 161), none⟩,
      ⟨some 163, .mov (.t 23), some (162, true)⟩,
      ⟨some 164, .mov (.t 15), some (162, true)⟩,
      ⟨some 165, .bin .eql false (.t 163) (.t 164), some (162, true)⟩,
      ⟨some 166, .pick (.t 162) (.t 165) (.c (.v (.bool false))), none⟩,
      ⟨some 167, .mov (.t 166), none⟩,
      ⟨some 168, .mov (.t 27), some (167, true)⟩,
      ⟨some 169, .mov (.t 15), some (167, true)⟩,
      ⟨some 170, .bin .eql false (.t 168) (.t 169), some (167, true)⟩,
      ⟨some 171, .pick (.t 167) (.t 170) (.c (.v (.bool false))), none⟩,
      ⟨some 2, .mov (.t 171), none⟩])
    .ret)
    .skip))
  (.seq (.ops [⟨some 172, .mov (.t 7), none⟩,
    ⟨some 173, .mov (.t 172), none⟩,
    ⟨some 174, .mov (.t 30), some (173, true)⟩,
    ⟨some 175, .mov (.t 14), some (173, true)⟩,
    ⟨some 176, .bin .eql true (.t 174) (.t 175), some (173, true)⟩,
    ⟨some 177, .pick (.t 173) (.t 176) (.c (.v (.bool false))), none⟩,
    ⟨some 178, .mov (.t 177), none⟩,
    ⟨some 179, .load 2 true (.t 8), some (178, true)⟩,
    ⟨some 180, .call 21 [(.t 179)], some (178, true)⟩,
    ⟨some 181, .mov (.t 16), some (178, true)⟩,
    ⟨some 182, .bin .eql false (.t 180) (.t 181), some (178, true)⟩,
    ⟨some 183, .pick (.t 178) (.t 182) (.c (.v (.bool false))), none⟩,
    ⟨some 184, .mov (.t 183), none⟩,
    ⟨some 185, .load 2 true (.t 8), some (184, true)⟩,
    ⟨some 186, .call 23 [(.t 185)], some (184, true)⟩,
    ⟨some 187, .mov (.t 17), some (184, true)⟩,
    ⟨some 188, .call 22 [(.t 186), (.t 187)], some (184, true)⟩,
    ⟨some 189, .pick (.t 184) (.t 188) (.c (.v (.bool false))), none⟩,
    ⟨some 190, .mov (.t 189), none⟩,
    ⟨some 191, .mov (.t 24), some (190, true)⟩,
    ⟨some 192, .un .not (.t 191), some (190, true)⟩,
    ⟨some 193, .pick (.t 190) (.t 192) (.c (.v (.bool false))), none⟩,
    ⟨some 194, .mov (.t 193), none⟩,
    ⟨some 195, .mov (.t 23), some (194, true)⟩,
    ⟨some 196, .bin .eql false (.t 195) (.c (.v (.int .i64 0))), some (194, true)⟩,
    ⟨some 197, .pick (.t 194) (.t 196) (.c (.v (.bool false))), none⟩,
    ⟨some 198, .mov (.t 197), none⟩,
    ⟨some 199, .mov (.t 26), some (198, true)⟩,
    ⟨some 200, .pick (.t 198) (.t 199) (.c (.v (.bool false))), none⟩,
    ⟨some 201, .mov (.t 200), none⟩,
    ⟨some 202, .mov (.t 27), some (201, true)⟩,
    ⟨some 203, .bin .eql false (.t 202) (.c (.v (.int .i64 0))), some (201, true)⟩,
    ⟨some 204, .pick (.t 201) (.t 203) (.c (.v (.bool false))), none⟩,
    ⟨some 205, .mov (.t 204), none⟩,
    ⟨some 206, .mov (.t 28), some (205, true)⟩,
    ⟨some 207, .un .not (.t 206), some (205, true)⟩,
    ⟨some 208, .pick (.t 205) (.t 207) (.c (.v (.bool false))), none⟩,
    ⟨some 2, .mov (.t 208), none⟩])
  .ret))))))))))))))))))))))⟩ := by kernel_rfl
end Go.Proofs.Ytagaakajpblmjaa
