/- Functions of the program in the small language. -/
import Derived.Test.YtagaakajpblmjaaTreeIr
import Derived.Test.YtagaakajpblmjaaChecked
namespace Go.Proofs.Ytagaakajpblmjaa
open Go Lg
set_option maxRecDepth 100000 in
theorem ir4 : compF Try.prog 4 = some ⟨108, [.t 6],
  (.seq (.ops [⟨some 6, .mov (.c (.v (.bool false))), none⟩])
  (.seq (.ops [⟨some 20, .call 8 [], none⟩,
    ⟨some 7, .mov (.t 20), none⟩])
  (.seq (.seq (.ops [⟨some 21, .mov (.t 0), none⟩,
    ⟨some 22, .call 9 [(.t 21)], none⟩,
    ⟨some 23, .un .not (.t 22), none⟩,
    ⟨some 24, .mov (.t 23), none⟩,
    ⟨some 25, .mov (.t 2), some (24, false)⟩,
    ⟨some 26, .len false (.t 25), some (24, false)⟩,
    ⟨some 27, .bin .gtr false (.t 26) (.c (.v (.int .i64 40))), some (24, false)⟩,
    ⟨some 28, .pick (.t 24) (.c (.v (.bool true))) (.t 27), none⟩])
  (.cond (.t 28)
    (.seq (.ops [⟨some 29, .mov (.t 7), none⟩,
      ⟨some 6, .mov (.t 29), none⟩])
    .ret)
    .skip))
  (.seq (.ops [⟨some 30, .mov (.t 1), none⟩,
    ⟨some 31, .conv .i64 (.t 30), none⟩,
    ⟨some 32, .bin .rem false (.t 31) (.c (.v (.int .i64 31))), none⟩,
    ⟨some 8, .mov (.t 32), none⟩])
  (.seq (.ops [⟨some 34, .mov (.t 0), none⟩,
    ⟨some 35, .mov (.t 8), none⟩,
    ⟨some 36, .call 11 [(.t 34), (.t 35)], none⟩,
    ⟨some 33, .mov (.t 36), none⟩,
    ⟨some 37, .extract (.t 33) 0, none⟩,
    ⟨some 38, .extract (.t 33) 1, none⟩,
    ⟨some 9, .alloc (.agg [(.v (.slice none 0 0)), (.v (.slice none 0 0))]), none⟩,
    ⟨none, .store 2 (.t 9) (.t 37), none⟩,
    ⟨some 10, .mov (.t 38), none⟩])
  (.seq (.ops [⟨some 40, .mov (.t 0), none⟩,
    ⟨some 41, .mov (.t 8), none⟩,
    ⟨some 42, .call 12 [(.t 40), (.t 41)], none⟩,
    ⟨some 39, .mov (.t 42), none⟩,
    ⟨some 43, .extract (.t 39) 0, none⟩,
    ⟨some 44, .extract (.t 39) 1, none⟩,
    ⟨some 11, .alloc (.agg [(.v (.slice none 0 0)), (.v (.int .i64 0)), (.v (.slice none 0 0)), (.v (.slice none 0 0))]), none⟩,
    ⟨none, .store 4 (.t 11) (.t 43), none⟩,
    ⟨some 12, .mov (.t 44), none⟩])
  (.seq (.seq (.ops [⟨some 13, .mov (.c (.v (.int .i64 0))), none⟩])
  (.block 0 (.loop
    (.seq (.seq (.ops [⟨some 45, .mov (.t 13), none⟩,
      ⟨some 46, .mov (.t 2), none⟩,
      ⟨some 47, .len false (.t 46), none⟩,
      ⟨some 48, .bin .lss false (.t 45) (.t 47), none⟩])
    (.cond (.t 48)
      .skip
      (.exit 0)))
    (.seq (.block 1 (.seq (.seq (.ops [⟨some 51, .mov (.t 2), none⟩,
      ⟨some 52, .mov (.t 13), none⟩,
      ⟨some 53, .iaddr 1 (.t 51) (.t 52), none⟩,
      ⟨some 54, .load 1 false (.t 53), none⟩,
      ⟨some 55, .len false (.t 54), none⟩,
      ⟨some 56, .bin .gtr false (.t 55) (.c (.v (.int .i64 40))), none⟩])
    (.cond (.t 56)
      (.seq (.ops [⟨some 57, .mov (.t 7), none⟩,
        ⟨some 6, .mov (.t 57), none⟩])
      .ret)
      .skip))
    (.seq (.draw [[⟨some 59, .load 2 true (.t 9), none⟩,
        ⟨some 60, .mov (.t 0), none⟩,
        ⟨some 61, .mov (.t 2), none⟩,
        ⟨some 62, .mov (.t 13), none⟩,
        ⟨some 63, .iaddr 1 (.t 61) (.t 62), none⟩,
        ⟨some 64, .load 1 false (.t 63), none⟩,
        ⟨some 65, .call 13 [(.t 59), (.t 60), (.t 64)], none⟩,
        ⟨some 58, .mov (.t 65), none⟩,
        ⟨some 66, .extract (.t 58) 0, none⟩,
        ⟨some 67, .extract (.t 58) 1, none⟩,
        ⟨some 68, .extract (.t 58) 2, none⟩,
        ⟨some 14, .alloc (.agg [(.v (.slice none 0 0)), (.v (.slice none 0 0))]), none⟩,
        ⟨none, .store 2 (.t 14) (.t 66), none⟩,
        ⟨some 15, .mov (.t 67), none⟩],
      [⟨some 16, .mov (.t 68), none⟩]])
    (.seq (.seq (.ops [⟨some 69, .mov (.t 15), none⟩])
    (.cond (.t 69)
      (.seq (.draw [[⟨some 71, .load 4 true (.t 11), none⟩,
          ⟨some 72, .mov (.t 2), none⟩,
          ⟨some 73, .mov (.t 13), none⟩,
          ⟨some 74, .iaddr 1 (.t 72) (.t 73), none⟩,
          ⟨some 75, .load 1 false (.t 74), none⟩,
          ⟨some 76, .call 14 [(.t 71), (.t 75)], none⟩,
          ⟨some 70, .mov (.t 76), none⟩,
          ⟨some 77, .extract (.t 70) 0, none⟩,
          ⟨some 78, .extract (.t 70) 1, none⟩,
          ⟨some 79, .extract (.t 70) 2, none⟩,
          ⟨some 17, .alloc (.agg [(.v (.slice none 0 0)), (.v (.int .i64 0)), (.v (.slice none 0 0)), (.v (.slice none 0 0))]), none⟩,
          ⟨none, .store 4 (.t 17) (.t 77), none⟩,
          ⟨some 18, .mov (.t 78), none⟩],
        [⟨some 19, .mov (.t 79), none⟩]])
      (.ops [⟨some 80, .load 4 true (.t 17), none⟩,
        ⟨none, .store 4 (.t 11) (.t 80), none⟩]))
      .skip))
    (.seq (.seq (.draw [[⟨some 81, .mov (.t 15), none⟩],
      [⟨some 82, .mov (.t 81), none⟩],
      [⟨some 83, .mov (.t 16), some (82, true)⟩],
      [⟨some 84, .bin .neq false (.t 83) (.c (.v (.int .i64 0))), some (82, true)⟩],
      [⟨some 85, .pick (.t 82) (.t 84) (.c (.v (.bool false))), none⟩],
      [⟨some 86, .mov (.t 85), none⟩],
      [⟨some 87, .load 2 true (.t 14), some (86, false)⟩,
        ⟨some 88, .call 23 [(.t 87)], some (86, false)⟩,
        ⟨some 89, .load 4 true (.t 11), some (86, false)⟩],
      [⟨some 90, .call 24 [(.t 89)], some (86, false)⟩],
      [⟨some 91, .call 22 [(.t 88), (.t 90)], some (86, false)⟩],
      [⟨some 92, .un .not (.t 91), some (86, false)⟩],
      [⟨some 93, .pick (.t 86) (.c (.v (.bool true))) (.t 92), none⟩]])
    (.cond (.t 93)
      (.seq (.ops [⟨some 6, .mov (.c (.v (.bool false))), none⟩])
      .ret)
      .skip))
    (.ops [⟨some 94, .load 2 true (.t 14), none⟩,
      ⟨none, .store 2 (.t 9) (.t 94), none⟩]))))))
    (.ops [⟨some 49, .mov (.t 13), none⟩,
      ⟨some 50, .bin .add false (.t 49) (.c (.v (.int .i64 1))), none⟩,
      ⟨some 13, .mov (.t 50), none⟩]))))))
  (.seq (.draw [[⟨some 95, .mov (.t 7), none⟩],
    [⟨some 96, .mov (.t 95), none⟩],
    [⟨some 97, .mov (.t 10), some (96, true)⟩],
    [⟨some 98, .bin .eql false (.t 97) (.c (.v (.int .i64 0))), some (96, true)⟩],
    [⟨some 99, .pick (.t 96) (.t 98) (.c (.v (.bool false))), none⟩],
    [⟨some 100, .mov (.t 99), none⟩],
    [⟨some 101, .load 2 true (.t 9), some (100, true)⟩,
      ⟨some 102, .call 21 [(.t 101)], some (100, true)⟩,
      ⟨some 103, .faddr 2 (.t 11), some (100, true)⟩,
      ⟨some 104, .load 1 false (.t 103), some (100, true)⟩,
      ⟨some 105, .len false (.t 104), some (100, true)⟩],
    [⟨some 106, .bin .eql false (.t 102) (.t 105), some (100, true)⟩],
    [⟨some 107, .pick (.t 100) (.t 106) (.c (.v (.bool false))), none⟩],
    [⟨some 6, .mov (.t 107), none⟩]])
  .ret))))))))⟩ := by kernel_rfl
end Go.Proofs.Ytagaakajpblmjaa
