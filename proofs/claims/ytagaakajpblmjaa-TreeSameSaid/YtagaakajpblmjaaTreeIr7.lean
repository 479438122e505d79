/- Functions of the program in the small language. -/
import Derived.Test.YtagaakajpblmjaaTreeIr
import Derived.Test.YtagaakajpblmjaaChecked
namespace Go.Proofs.Ytagaakajpblmjaa
open Go Lg
set_option maxRecDepth 100000 in
theorem ir7 : compF Try.prog 7 = some ⟨166, [.t 6],
  (.seq (.ops [⟨some 6, .mov (.c (.v (.bool false))), none⟩])
  (.seq (.ops [⟨some 28, .call 8 [], none⟩,
    ⟨some 7, .mov (.t 28), none⟩])
  (.seq (.seq (.ops [⟨some 29, .mov (.t 0), none⟩,
    ⟨some 30, .call 9 [(.t 29)], none⟩,
    ⟨some 31, .un .not (.t 30), none⟩,
    ⟨some 32, .mov (.t 31), none⟩,
    ⟨some 33, .mov (.t 2), some (32, false)⟩,
    ⟨some 34, .call 10 [(.t 33), (.c (.v (.int .i64 50)))], some (32, false)⟩,
    ⟨some 35, .un .not (.t 34), some (32, false)⟩,
    ⟨some 36, .pick (.t 32) (.c (.v (.bool true))) (.t 35), none⟩])
  (.cond (.t 36)
    (.seq (.ops [⟨some 37, .mov (.t 7), none⟩,
      ⟨some 6, .mov (.t 37), none⟩])
    .ret)
    .skip))
  (.seq (.ops [⟨some 39, .mov (.t 0), none⟩,
    ⟨some 40, .mov (.t 1), none⟩,
    ⟨some 41, .call 11 [(.t 39), (.t 40)], none⟩,
    ⟨some 38, .mov (.t 41), none⟩,
    ⟨some 42, .extract (.t 38) 0, none⟩,
    ⟨some 43, .extract (.t 38) 1, none⟩,
    ⟨some 8, .alloc (.agg [(.v (.slice none 0 0)), (.v (.slice none 0 0))]), none⟩,
    ⟨none, .store 2 (.t 8) (.t 42), none⟩,
    ⟨some 9, .mov (.t 43), none⟩])
  (.seq (.ops [⟨some 45, .mov (.t 0), none⟩,
    ⟨some 46, .mov (.t 1), none⟩,
    ⟨some 47, .call 25 [(.t 45), (.t 46)], none⟩,
    ⟨some 44, .mov (.t 47), none⟩,
    ⟨some 48, .extract (.t 44) 0, none⟩,
    ⟨some 49, .extract (.t 44) 1, none⟩,
    ⟨some 10, .alloc (.agg [(.v (.slice none 0 0)), (.v (.int .i64 0)), (.v (.slice none 0 0)), (.v (.slice none 0 0)), (.v (.slice none 0 0))]), none⟩,
    ⟨none, .store 5 (.t 10) (.t 48), none⟩,
    ⟨some 11, .mov (.t 49), none⟩])
  (.seq (.seq (.ops [⟨some 50, .mov (.t 9), none⟩,
    ⟨some 51, .mov (.t 11), none⟩,
    ⟨some 52, .bin .neq false (.t 50) (.t 51), none⟩,
    ⟨some 53, .mov (.t 52), none⟩,
    ⟨some 54, .mov (.t 9), some (53, false)⟩,
    ⟨some 55, .bin .neq false (.t 54) (.c (.v (.int .i64 0))), some (53, false)⟩,
    ⟨some 56, .pick (.t 53) (.c (.v (.bool true))) (.t 55), none⟩])
  (.cond (.t 56)
    (.seq (.ops [⟨some 57, .mov (.t 7), none⟩,
      ⟨some 58, .mov (.t 57), none⟩,
      ⟨some 59, .mov (.t 9), some (58, true)⟩,
      ⟨some 60, .mov (.t 11), some (58, true)⟩,
      ⟨some 61, .bin .eql false (.t 59) (.t 60), some (58, true)⟩,
      ⟨some 62, .pick (.t 58) (.t 61) (.c (.v (.bool false))), none⟩,
      ⟨some 6, .mov (.t 62), none⟩])
    .ret)
    .skip))
  (.seq (.seq (.ops [⟨some 12, .mov (.c (.v (.int .i64 0))), none⟩])
  (.block 0 (.loop
    (.seq (.seq (.ops [⟨some 63, .mov (.t 12), none⟩,
      ⟨some 64, .mov (.t 2), none⟩,
      ⟨some 65, .len false (.t 64), none⟩,
      ⟨some 66, .bin .lss false (.t 63) (.t 65), none⟩])
    (.cond (.t 66)
      .skip
      (.exit 0)))
    (.seq (.block 1 (.seq (.ops [⟨some 69, .mov (.t 2), none⟩,
      ⟨some 70, .mov (.t 12), none⟩,
      ⟨some 71, .iaddr 3 (.t 69) (.t 70), none⟩,
      ⟨some 72, .load 3 true (.t 71), none⟩,
      ⟨some 13, .alloc (.agg [(.v (.int .u8 0)), (.v (.slice none 0 0)), (.v (.int .i64 0))]), none⟩,
      ⟨none, .store 3 (.t 13) (.t 72), none⟩])
    (.seq (.ops [⟨some 74, .load 2 true (.t 8), none⟩,
      ⟨some 75, .mov (.t 0), none⟩,
      ⟨some 76, .faddr 1 (.t 13), none⟩,
      ⟨some 77, .load 1 false (.t 76), none⟩,
      ⟨some 78, .call 13 [(.t 74), (.t 75), (.t 77)], none⟩,
      ⟨some 73, .mov (.t 78), none⟩,
      ⟨some 79, .extract (.t 73) 0, none⟩,
      ⟨some 80, .extract (.t 73) 1, none⟩,
      ⟨some 81, .extract (.t 73) 2, none⟩,
      ⟨some 14, .alloc (.agg [(.v (.slice none 0 0)), (.v (.slice none 0 0))]), none⟩,
      ⟨none, .store 2 (.t 14) (.t 79), none⟩,
      ⟨some 15, .mov (.t 80), none⟩,
      ⟨some 16, .mov (.t 81), none⟩])
    (.seq (.ops [⟨some 83, .load 5 true (.t 10), none⟩,
      ⟨some 84, .mov (.t 0), none⟩,
      ⟨some 85, .faddr 1 (.t 13), none⟩,
      ⟨some 86, .load 1 false (.t 85), none⟩,
      ⟨some 87, .call 26 [(.t 83), (.t 84), (.t 86)], none⟩,
      ⟨some 82, .mov (.t 87), none⟩,
      ⟨some 88, .extract (.t 82) 0, none⟩,
      ⟨some 89, .extract (.t 82) 1, none⟩,
      ⟨some 90, .extract (.t 82) 2, none⟩,
      ⟨some 17, .alloc (.agg [(.v (.slice none 0 0)), (.v (.int .i64 0)), (.v (.slice none 0 0)), (.v (.slice none 0 0)), (.v (.slice none 0 0))]), none⟩,
      ⟨none, .store 5 (.t 17) (.t 88), none⟩,
      ⟨some 18, .mov (.t 89), none⟩,
      ⟨some 19, .mov (.t 90), none⟩])
    (.seq (.seq (.ops [⟨some 91, .faddr 0 (.t 13), none⟩,
      ⟨some 92, .load 1 false (.t 91), none⟩,
      ⟨some 93, .bin .rem false (.t 92) (.c (.v (.int .u8 2))), none⟩,
      ⟨some 94, .bin .eql false (.t 93) (.c (.v (.int .u8 0))), none⟩])
    (.cond (.t 94)
      (.seq (.seq (.ops [⟨some 95, .mov (.t 15), none⟩,
        ⟨some 96, .mov (.t 18), none⟩,
        ⟨some 97, .bin .neq true (.t 95) (.t 96), none⟩,
        ⟨some 98, .mov (.t 97), none⟩,
        ⟨some 99, .mov (.t 16), some (98, false)⟩,
        ⟨some 100, .mov (.t 19), some (98, false)⟩,
        ⟨some 101, .bin .neq false (.t 99) (.t 100), some (98, false)⟩,
        ⟨some 102, .pick (.t 98) (.c (.v (.bool true))) (.t 101), none⟩])
      (.cond (.t 102)
        (.seq (.ops [⟨some 6, .mov (.c (.v (.bool false))), none⟩])
        .ret)
        .skip))
      (.seq (.ops [⟨some 103, .load 2 true (.t 14), none⟩,
        ⟨none, .store 2 (.t 8) (.t 103), none⟩])
      (.ops [⟨some 104, .load 5 true (.t 17), none⟩,
        ⟨none, .store 5 (.t 10) (.t 104), none⟩])))
      .skip))
    (.seq (.ops [⟨some 106, .load 2 true (.t 8), none⟩,
      ⟨some 107, .mov (.t 0), none⟩,
      ⟨some 108, .faddr 1 (.t 13), none⟩,
      ⟨some 109, .load 1 false (.t 108), none⟩,
      ⟨some 110, .faddr 2 (.t 13), none⟩,
      ⟨some 111, .load 1 false (.t 110), none⟩,
      ⟨some 112, .call 15 [(.t 106), (.t 107), (.t 109), (.t 111)], none⟩,
      ⟨some 105, .mov (.t 112), none⟩,
      ⟨some 113, .extract (.t 105) 0, none⟩,
      ⟨some 114, .extract (.t 105) 1, none⟩,
      ⟨some 20, .alloc (.agg [(.v (.slice none 0 0)), (.v (.slice none 0 0))]), none⟩,
      ⟨none, .store 2 (.t 20) (.t 113), none⟩,
      ⟨some 21, .mov (.t 114), none⟩])
    (.seq (.ops [⟨some 116, .load 5 true (.t 10), none⟩,
      ⟨some 117, .mov (.t 0), none⟩,
      ⟨some 118, .faddr 1 (.t 13), none⟩,
      ⟨some 119, .load 1 false (.t 118), none⟩,
      ⟨some 120, .faddr 2 (.t 13), none⟩,
      ⟨some 121, .load 1 false (.t 120), none⟩,
      ⟨some 122, .call 27 [(.t 116), (.t 117), (.t 119), (.t 121)], none⟩,
      ⟨some 115, .mov (.t 122), none⟩,
      ⟨some 123, .extract (.t 115) 0, none⟩,
      ⟨some 124, .extract (.t 115) 1, none⟩,
      ⟨some 22, .alloc (.agg [(.v (.slice none 0 0)), (.v (.int .i64 0)), (.v (.slice none 0 0)), (.v (.slice none 0 0)), (.v (.slice none 0 0))]), none⟩,
      ⟨none, .store 5 (.t 22) (.t 123), none⟩,
      ⟨some 23, .mov (.t 124), none⟩])
    (.seq (.seq (.ops [⟨some 125, .mov (.t 21), none⟩,
      ⟨some 126, .mov (.t 23), none⟩,
      ⟨some 127, .bin .neq false (.t 125) (.t 126), none⟩])
    (.cond (.t 127)
      (.seq (.ops [⟨some 6, .mov (.c (.v (.bool false))), none⟩])
      .ret)
      .skip))
    (.seq (.seq (.ops [⟨some 128, .faddr 0 (.t 13), none⟩,
      ⟨some 129, .load 1 false (.t 128), none⟩,
      ⟨some 130, .bin .rem false (.t 129) (.c (.v (.int .u8 3))), none⟩,
      ⟨some 131, .bin .eql false (.t 130) (.c (.v (.int .u8 0))), none⟩])
    (.cond (.t 131)
      (.seq (.ops [⟨some 132, .load 2 true (.t 20), none⟩,
        ⟨none, .store 2 (.t 8) (.t 132), none⟩])
      (.ops [⟨some 133, .load 5 true (.t 22), none⟩,
        ⟨none, .store 5 (.t 10) (.t 133), none⟩]))
      .skip))
    (.seq (.ops [⟨some 135, .load 2 true (.t 8), none⟩,
      ⟨some 136, .mov (.t 0), none⟩,
      ⟨some 137, .faddr 1 (.t 13), none⟩,
      ⟨some 138, .load 1 false (.t 137), none⟩,
      ⟨some 139, .call 17 [(.t 135), (.t 136), (.t 138), (.c (.v (.int .i64 0)))], none⟩,
      ⟨some 134, .mov (.t 139), none⟩,
      ⟨some 140, .extract (.t 134) 0, none⟩,
      ⟨some 141, .extract (.t 134) 1, none⟩,
      ⟨some 24, .mov (.t 140), none⟩,
      ⟨some 25, .mov (.t 141), none⟩])
    (.seq (.ops [⟨some 143, .load 5 true (.t 10), none⟩,
      ⟨some 144, .mov (.t 0), none⟩,
      ⟨some 145, .faddr 1 (.t 13), none⟩,
      ⟨some 146, .load 1 false (.t 145), none⟩,
      ⟨some 147, .call 28 [(.t 143), (.t 144), (.t 146), (.c (.v (.int .i64 0)))], none⟩,
      ⟨some 142, .mov (.t 147), none⟩,
      ⟨some 148, .extract (.t 142) 0, none⟩,
      ⟨some 149, .extract (.t 142) 1, none⟩,
      ⟨some 26, .mov (.t 148), none⟩,
      ⟨some 27, .mov (.t 149), none⟩])
    (.seq (.draw [[⟨some 150, .mov (.t 24), none⟩,
        ⟨some 151, .mov (.t 26), none⟩],
      [⟨some 152, .bin .neq true (.t 150) (.t 151), none⟩],
      [⟨some 153, .mov (.t 152), none⟩],
      [⟨some 154, .mov (.t 25), some (153, false)⟩,
        ⟨some 155, .mov (.t 27), some (153, false)⟩],
      [⟨some 156, .bin .neq false (.t 154) (.t 155), some (153, false)⟩],
      [⟨some 157, .pick (.t 153) (.c (.v (.bool true))) (.t 156), none⟩],
      [⟨some 158, .mov (.t 157), none⟩],
      [⟨some 159, .load 2 true (.t 8), some (158, false)⟩,
        ⟨some 160, .call 21 [(.t 159)], some (158, false)⟩,
        ⟨some 161, .load 5 true (.t 10), some (158, false)⟩],
      [⟨some 162, .call 29 [(.t 161)], some (158, false)⟩],
      [⟨some 163, .bin .neq false (.t 160) (.t 162), some (158, false)⟩],
      [⟨some 164, .pick (.t 158) (.c (.v (.bool true))) (.t 163), none⟩]])
    (.cond (.t 164)
      (.seq (.ops [⟨some 6, .mov (.c (.v (.bool false))), none⟩])
      .ret)
      .skip)))))))))))))
    (.ops [⟨some 67, .mov (.t 12), none⟩,
      ⟨some 68, .bin .add false (.t 67) (.c (.v (.int .i64 1))), none⟩,
      ⟨some 12, .mov (.t 68), none⟩]))))))
  (.seq (.ops [⟨some 165, .mov (.t 7), none⟩,
    ⟨some 6, .mov (.t 165), none⟩])
  .ret))))))))⟩ := by kernel_rfl
end Go.Proofs.Ytagaakajpblmjaa
