/- The functions of the program in the small language. -/
import Derived.Test.YtfdcjcepokekdaaLgNX
import Derived.Test.YtfdcjcepokekdaaChecked
namespace Go.Proofs.Ytfdcjcepokekdaa
open Go Lg

set_option maxRecDepth 100000 in
theorem ir3 : compF Try.prog 3 = some ⟨122, [.t 6],
  (.seq (.ops [⟨some 6, .mov (.c (.v (.bool false))), none⟩])
  (.seq (.ops [⟨some 17, .call 9 [], none⟩,
    ⟨some 7, .mov (.t 17), none⟩])
  (.seq (.seq (.ops [⟨some 18, .mov (.t 0), none⟩,
    ⟨some 19, .len false (.t 18), none⟩,
    ⟨some 20, .bin .gtr false (.t 19) (.c (.v (.int .i64 40))), none⟩,
    ⟨some 21, .mov (.t 20), none⟩,
    ⟨some 22, .mov (.t 1), some (21, false)⟩,
    ⟨some 23, .len false (.t 22), some (21, false)⟩,
    ⟨some 24, .bin .gtr false (.t 23) (.c (.v (.int .i64 40))), some (21, false)⟩,
    ⟨some 25, .pick (.t 21) (.c (.v (.bool true))) (.t 24), none⟩,
    ⟨some 26, .mov (.t 25), none⟩,
    ⟨some 27, .mov (.t 2), some (26, false)⟩,
    ⟨some 28, .len false (.t 27), some (26, false)⟩,
    ⟨some 29, .bin .gtr false (.t 28) (.c (.v (.int .i64 100))), some (26, false)⟩,
    ⟨some 30, .pick (.t 26) (.c (.v (.bool true))) (.t 29), none⟩])
  (.cond (.t 30)
    (.seq (.ops [⟨some 31, .mov (.t 7), none⟩,
      ⟨some 6, .mov (.t 31), none⟩])
    .ret)
    .skip))
  (.seq (.ops [⟨some 32, .mov (.t 0), none⟩,
    ⟨some 33, .call 10 [(.t 32)], none⟩,
    ⟨some 8, .mov (.t 33), none⟩])
  (.seq (.seq (.ops [⟨some 34, .mov (.t 0), none⟩,
    ⟨some 35, .call 11 [(.t 34)], none⟩,
    ⟨some 36, .mov (.t 8), none⟩,
    ⟨some 37, .bin .neq true (.t 35) (.t 36), none⟩])
  (.cond (.t 37)
    (.seq (.ops [⟨some 6, .mov (.c (.v (.bool false))), none⟩])
    .ret)
    .skip))
  (.seq (.seq (.ops [⟨some 38, .mov (.t 8), none⟩,
    ⟨some 39, .un .not (.t 38), none⟩])
  (.cond (.t 39)
    (.seq (.ops [⟨some 40, .mov (.t 7), none⟩,
      ⟨some 6, .mov (.t 40), none⟩])
    .ret)
    .skip))
  (.seq (.ops [⟨some 42, .mov (.t 0), none⟩,
    ⟨some 43, .mov (.t 1), none⟩,
    ⟨some 44, .call 12 [(.t 42), (.t 43)], none⟩,
    ⟨some 41, .mov (.t 44), none⟩,
    ⟨some 45, .extract (.t 41) 0, none⟩,
    ⟨some 46, .extract (.t 41) 1, none⟩,
    ⟨some 9, .mov (.t 45), none⟩,
    ⟨some 10, .mov (.t 46), none⟩])
  (.seq (.ops [⟨some 48, .mov (.t 0), none⟩,
    ⟨some 49, .mov (.t 1), none⟩,
    ⟨some 50, .call 13 [(.t 48), (.t 49)], none⟩,
    ⟨some 47, .mov (.t 50), none⟩,
    ⟨some 51, .extract (.t 47) 0, none⟩,
    ⟨some 52, .extract (.t 47) 1, none⟩,
    ⟨some 11, .mov (.t 51), none⟩,
    ⟨some 12, .mov (.t 52), none⟩])
  (.seq (.ops [⟨some 54, .mov (.t 0), none⟩,
    ⟨some 55, .mov (.t 2), none⟩,
    ⟨some 56, .call 14 [(.t 54), (.t 55)], none⟩,
    ⟨some 53, .mov (.t 56), none⟩,
    ⟨some 57, .extract (.t 53) 0, none⟩,
    ⟨some 58, .extract (.t 53) 1, none⟩,
    ⟨some 13, .mov (.t 57), none⟩,
    ⟨some 14, .mov (.t 58), none⟩])
  (.seq (.ops [⟨some 60, .mov (.t 0), none⟩,
    ⟨some 61, .mov (.t 2), none⟩,
    ⟨some 62, .call 15 [(.t 60), (.t 61)], none⟩,
    ⟨some 59, .mov (.t 62), none⟩,
    ⟨some 63, .extract (.t 59) 0, none⟩,
    ⟨some 64, .extract (.t 59) 1, none⟩,
    ⟨some 15, .mov (.t 63), none⟩,
    ⟨some 16, .mov (.t 64), none⟩])
  (.seq (.draw [[⟨some 65, .mov (.t 7), none⟩],
    [⟨some 66, .mov (.t 65), none⟩],
    [⟨some 67, .mov (.t 0), some (66, true)⟩,
      ⟨some 68, .iaddr 2 (.t 67) (.c (.v (.int .i64 0))), some (66, true)⟩,
      ⟨some 69, .load 2 true (.t 68), some (66, true)⟩,
      ⟨some 70, .call 16 [(.t 69)], some (66, true)⟩,
      ⟨some 71, .mov (.t 0), some (66, true)⟩,
      ⟨some 72, .iaddr 2 (.t 71) (.c (.v (.int .i64 0))), some (66, true)⟩,
      ⟨some 73, .load 2 true (.t 72), some (66, true)⟩],
    [⟨some 74, .call 17 [(.t 73)], some (66, true)⟩],
    [⟨some 75, .bin .eql false (.t 70) (.t 74), some (66, true)⟩],
    [⟨some 76, .pick (.t 66) (.t 75) (.c (.v (.bool false))), none⟩],
    [⟨some 77, .mov (.t 76), none⟩],
    [⟨some 78, .mov (.t 0), some (77, true)⟩,
      ⟨some 79, .call 18 [(.t 78)], some (77, true)⟩,
      ⟨some 80, .mov (.t 0), some (77, true)⟩],
    [⟨some 81, .call 19 [(.t 80)], some (77, true)⟩],
    [⟨some 82, .bin .eql false (.t 79) (.t 81), some (77, true)⟩],
    [⟨some 83, .pick (.t 77) (.t 82) (.c (.v (.bool false))), none⟩],
    [⟨some 84, .mov (.t 83), none⟩],
    [⟨some 85, .mov (.t 0), some (84, true)⟩,
      ⟨some 86, .call 20 [(.t 85)], some (84, true)⟩,
      ⟨some 87, .mov (.t 0), some (84, true)⟩],
    [⟨some 88, .call 21 [(.t 87)], some (84, true)⟩],
    [⟨some 89, .bin .eql false (.t 86) (.t 88), some (84, true)⟩],
    [⟨some 90, .pick (.t 84) (.t 89) (.c (.v (.bool false))), none⟩],
    [⟨some 91, .mov (.t 90), none⟩],
    [⟨some 92, .mov (.t 0), some (91, true)⟩,
      ⟨some 93, .mov (.t 1), some (91, true)⟩,
      ⟨some 94, .call 22 [(.t 92), (.t 93)], some (91, true)⟩,
      ⟨some 95, .mov (.t 0), some (91, true)⟩,
      ⟨some 96, .mov (.t 1), some (91, true)⟩],
    [⟨some 97, .call 23 [(.t 95), (.t 96)], some (91, true)⟩],
    [⟨some 98, .bin .eql false (.t 94) (.t 97), some (91, true)⟩],
    [⟨some 99, .pick (.t 91) (.t 98) (.c (.v (.bool false))), none⟩],
    [⟨some 100, .mov (.t 99), none⟩],
    [⟨some 101, .mov (.t 9), some (100, true)⟩,
      ⟨some 102, .b2s (.t 101), some (100, true)⟩,
      ⟨some 103, .mov (.t 11), some (100, true)⟩,
      ⟨some 104, .b2s (.t 103), some (100, true)⟩],
    [⟨some 105, .bin .eql false (.t 102) (.t 104), some (100, true)⟩],
    [⟨some 106, .pick (.t 100) (.t 105) (.c (.v (.bool false))), none⟩],
    [⟨some 107, .mov (.t 106), none⟩],
    [⟨some 108, .mov (.t 10), some (107, true)⟩,
      ⟨some 109, .mov (.t 12), some (107, true)⟩],
    [⟨some 110, .bin .eql false (.t 108) (.t 109), some (107, true)⟩],
    [⟨some 111, .pick (.t 107) (.t 110) (.c (.v (.bool false))), none⟩],
    [⟨some 112, .mov (.t 111), none⟩],
    [⟨some 113, .mov (.t 13), some (112, true)⟩,
      ⟨some 114, .mov (.t 15), some (112, true)⟩],
    [⟨some 115, .call 24 [(.t 113), (.t 114)], some (112, true)⟩],
    [⟨some 116, .pick (.t 112) (.t 115) (.c (.v (.bool false))), none⟩],
    [⟨some 117, .mov (.t 116), none⟩],
    [⟨some 118, .mov (.t 14), some (117, true)⟩,
      ⟨some 119, .mov (.t 16), some (117, true)⟩],
    [⟨some 120, .bin .eql false (.t 118) (.t 119), some (117, true)⟩],
    [⟨some 121, .pick (.t 117) (.t 120) (.c (.v (.bool false))), none⟩],
    [⟨some 6, .mov (.t 121), none⟩]])
  .ret)))))))))))⟩ := by kernel_rfl

theorem ir4 : compF Try.prog 4 = some ⟨112, [.t 6],
  (.seq (.ops [⟨some 6, .mov (.c (.v (.bool false))), none⟩])
  (.seq (.ops [⟨some 16, .call 9 [], none⟩,
    ⟨some 7, .mov (.t 16), none⟩])
  (.seq (.seq (.ops [⟨some 17, .mov (.t 0), none⟩,
    ⟨some 18, .len false (.t 17), none⟩,
    ⟨some 19, .bin .gtr false (.t 18) (.c (.v (.int .i64 40))), none⟩,
    ⟨some 20, .mov (.t 19), none⟩,
    ⟨some 21, .mov (.t 1), some (20, false)⟩,
    ⟨some 22, .len false (.t 21), some (20, false)⟩,
    ⟨some 23, .bin .gtr false (.t 22) (.c (.v (.int .i64 40))), some (20, false)⟩,
    ⟨some 24, .pick (.t 20) (.c (.v (.bool true))) (.t 23), none⟩,
    ⟨some 25, .mov (.t 24), none⟩,
    ⟨some 26, .mov (.t 2), some (25, false)⟩,
    ⟨some 27, .len false (.t 26), some (25, false)⟩,
    ⟨some 28, .bin .gtr false (.t 27) (.c (.v (.int .i64 100))), some (25, false)⟩,
    ⟨some 29, .pick (.t 25) (.c (.v (.bool true))) (.t 28), none⟩,
    ⟨some 30, .mov (.t 29), none⟩,
    ⟨some 31, .mov (.t 0), some (30, false)⟩,
    ⟨some 32, .call 10 [(.t 31)], some (30, false)⟩,
    ⟨some 33, .un .not (.t 32), some (30, false)⟩,
    ⟨some 34, .pick (.t 30) (.c (.v (.bool true))) (.t 33), none⟩])
  (.cond (.t 34)
    (.seq (.ops [⟨some 35, .mov (.t 7), none⟩,
      ⟨some 6, .mov (.t 35), none⟩])
    .ret)
    .skip))
  (.seq (.ops [⟨some 37, .mov (.t 0), none⟩,
    ⟨some 38, .mov (.t 1), none⟩,
    ⟨some 39, .call 12 [(.t 37), (.t 38)], none⟩,
    ⟨some 36, .mov (.t 39), none⟩,
    ⟨some 40, .extract (.t 36) 0, none⟩,
    ⟨some 41, .extract (.t 36) 1, none⟩,
    ⟨some 8, .mov (.t 40), none⟩,
    ⟨some 9, .mov (.t 41), none⟩])
  (.seq (.ops [⟨some 43, .mov (.t 0), none⟩,
    ⟨some 44, .mov (.t 2), none⟩,
    ⟨some 45, .call 14 [(.t 43), (.t 44)], none⟩,
    ⟨some 42, .mov (.t 45), none⟩,
    ⟨some 46, .extract (.t 42) 0, none⟩,
    ⟨some 47, .extract (.t 42) 1, none⟩,
    ⟨some 10, .mov (.t 46), none⟩,
    ⟨some 11, .mov (.t 47), none⟩])
  (.seq (.seq (.ops [⟨some 48, .mov (.t 9), none⟩,
    ⟨some 49, .mov (.t 0), none⟩,
    ⟨some 50, .mov (.t 1), none⟩,
    ⟨some 51, .call 22 [(.t 49), (.t 50)], none⟩,
    ⟨some 52, .bin .neq false (.t 48) (.t 51), none⟩,
    ⟨some 53, .mov (.t 52), none⟩,
    ⟨some 54, .mov (.t 9), some (53, false)⟩,
    ⟨some 55, .bin .neq false (.t 54) (.c (.v (.int .i64 0))), some (53, false)⟩,
    ⟨some 56, .mov (.t 55), some (53, false)⟩,
    ⟨some 57, .mov (.t 8), some (56, true)⟩,
    ⟨some 58, .len false (.t 57), some (56, true)⟩,
    ⟨some 59, .bin .gtr false (.t 58) (.c (.v (.int .i64 0))), some (56, true)⟩,
    ⟨some 60, .pick (.t 56) (.t 59) (.c (.v (.bool false))), some (53, false)⟩,
    ⟨some 61, .pick (.t 53) (.c (.v (.bool true))) (.t 60), none⟩])
  (.cond (.t 61)
    (.seq (.ops [⟨some 6, .mov (.c (.v (.bool false))), none⟩])
    .ret)
    .skip))
  (.seq (.seq (.ops [⟨some 62, .mov (.t 11), none⟩,
    ⟨some 63, .bin .eql false (.t 62) (.c (.v (.int .i64 0))), none⟩])
  (.cond (.t 63)
    (.seq (.ops [⟨some 65, .mov (.t 0), none⟩,
      ⟨some 66, .mov (.t 10), none⟩,
      ⟨some 67, .call 12 [(.t 65), (.t 66)], none⟩,
      ⟨some 64, .mov (.t 67), none⟩,
      ⟨some 68, .extract (.t 64) 0, none⟩,
      ⟨some 69, .extract (.t 64) 1, none⟩,
      ⟨some 12, .mov (.t 68), none⟩,
      ⟨some 13, .mov (.t 69), none⟩])
    (.seq (.ops [⟨some 70, .mov (.t 13), none⟩,
      ⟨some 71, .bin .neq false (.t 70) (.c (.v (.int .i64 0))), none⟩,
      ⟨some 72, .mov (.t 71), none⟩,
      ⟨some 73, .mov (.t 12), some (72, false)⟩,
      ⟨some 74, .b2s (.t 73), some (72, false)⟩,
      ⟨some 75, .mov (.t 2), some (72, false)⟩,
      ⟨some 76, .b2s (.t 75), some (72, false)⟩,
      ⟨some 77, .bin .neq false (.t 74) (.t 76), some (72, false)⟩,
      ⟨some 78, .pick (.t 72) (.c (.v (.bool true))) (.t 77), none⟩])
    (.cond (.t 78)
      (.seq (.ops [⟨some 6, .mov (.c (.v (.bool false))), none⟩])
      .ret)
      .skip)))
    (.seq (.ops [⟨some 79, .mov (.t 11), none⟩,
      ⟨some 80, .bin .neq false (.t 79) (.c (.v (.int .i64 2))), none⟩,
      ⟨some 81, .mov (.t 80), none⟩,
      ⟨some 82, .mov (.t 10), some (81, false)⟩,
      ⟨some 83, .len false (.t 82), some (81, false)⟩,
      ⟨some 84, .bin .gtr false (.t 83) (.c (.v (.int .i64 0))), some (81, false)⟩,
      ⟨some 85, .pick (.t 81) (.c (.v (.bool true))) (.t 84), none⟩])
    (.cond (.t 85)
      (.seq (.ops [⟨some 6, .mov (.c (.v (.bool false))), none⟩])
      .ret)
      .skip))))
  (.seq (.seq (.ops [⟨some 86, .mov (.t 9), none⟩,
    ⟨some 87, .bin .neq false (.t 86) (.c (.v (.int .i64 0))), none⟩])
  (.cond (.t 87)
    (.seq (.ops [⟨some 88, .mov (.t 7), none⟩,
      ⟨some 6, .mov (.t 88), none⟩])
    .ret)
    .skip))
  (.seq (.ops [⟨some 90, .mov (.t 0), none⟩,
    ⟨some 91, .mov (.t 8), none⟩,
    ⟨some 92, .call 14 [(.t 90), (.t 91)], none⟩,
    ⟨some 89, .mov (.t 92), none⟩,
    ⟨some 93, .extract (.t 89) 0, none⟩,
    ⟨some 94, .extract (.t 89) 1, none⟩,
    ⟨some 14, .mov (.t 93), none⟩,
    ⟨some 15, .mov (.t 94), none⟩])
  (.seq (.ops [⟨some 95, .mov (.t 7), none⟩,
    ⟨some 96, .mov (.t 95), none⟩,
    ⟨some 97, .mov (.t 15), some (96, true)⟩,
    ⟨some 98, .bin .eql false (.t 97) (.c (.v (.int .i64 0))), some (96, true)⟩,
    ⟨some 99, .pick (.t 96) (.t 98) (.c (.v (.bool false))), none⟩,
    ⟨some 100, .mov (.t 99), none⟩,
    ⟨some 101, .mov (.t 14), some (100, true)⟩,
    ⟨some 102, .mov (.t 1), some (100, true)⟩,
    ⟨some 103, .call 24 [(.t 101), (.t 102)], some (100, true)⟩,
    ⟨some 104, .pick (.t 100) (.t 103) (.c (.v (.bool false))), none⟩,
    ⟨some 105, .mov (.t 104), none⟩,
    ⟨some 106, .mov (.t 8), some (105, true)⟩,
    ⟨some 107, .len false (.t 106), some (105, true)⟩,
    ⟨some 108, .mov (.t 0), some (105, true)⟩,
    ⟨some 109, .call 20 [(.t 108)], some (105, true)⟩,
    ⟨some 110, .bin .eql false (.t 107) (.t 109), some (105, true)⟩,
    ⟨some 111, .pick (.t 105) (.t 110) (.c (.v (.bool false))), none⟩,
    ⟨some 6, .mov (.t 111), none⟩])
  .ret))))))))))⟩ := by kernel_rfl

theorem ir5 : compF Try.prog 5 = some ⟨112, [.t 6],
  (.seq (.ops [⟨some 6, .mov (.c (.v (.bool false))), none⟩])
  (.seq (.ops [⟨some 15, .call 9 [], none⟩,
    ⟨some 7, .mov (.t 15), none⟩])
  (.seq (.seq (.ops [⟨some 16, .mov (.t 0), none⟩,
    ⟨some 17, .len false (.t 16), none⟩,
    ⟨some 18, .bin .gtr false (.t 17) (.c (.v (.int .i64 40))), none⟩,
    ⟨some 19, .mov (.t 18), none⟩,
    ⟨some 20, .mov (.t 1), some (19, false)⟩,
    ⟨some 21, .len false (.t 20), some (19, false)⟩,
    ⟨some 22, .bin .gtr false (.t 21) (.c (.v (.int .i64 40))), some (19, false)⟩,
    ⟨some 23, .pick (.t 19) (.c (.v (.bool true))) (.t 22), none⟩,
    ⟨some 24, .mov (.t 23), none⟩,
    ⟨some 25, .mov (.t 2), some (24, false)⟩,
    ⟨some 26, .len false (.t 25), some (24, false)⟩,
    ⟨some 27, .bin .gtr false (.t 26) (.c (.v (.int .i64 40))), some (24, false)⟩,
    ⟨some 28, .pick (.t 24) (.c (.v (.bool true))) (.t 27), none⟩,
    ⟨some 29, .mov (.t 28), none⟩,
    ⟨some 30, .mov (.t 0), some (29, false)⟩,
    ⟨some 31, .call 10 [(.t 30)], some (29, false)⟩,
    ⟨some 32, .un .not (.t 31), some (29, false)⟩,
    ⟨some 33, .pick (.t 29) (.c (.v (.bool true))) (.t 32), none⟩])
  (.cond (.t 33)
    (.seq (.ops [⟨some 34, .mov (.t 7), none⟩,
      ⟨some 6, .mov (.t 34), none⟩])
    .ret)
    .skip))
  (.seq (.ops [⟨some 36, .mov (.t 0), none⟩,
    ⟨some 37, .mov (.t 1), none⟩,
    ⟨some 38, .call 12 [(.t 36), (.t 37)], none⟩,
    ⟨some 35, .mov (.t 38), none⟩,
    ⟨some 39, .extract (.t 35) 0, none⟩,
    ⟨some 40, .extract (.t 35) 1, none⟩,
    ⟨some 8, .mov (.t 39), none⟩,
    ⟨some 9, .mov (.t 40), none⟩])
  (.seq (.ops [⟨some 42, .mov (.t 0), none⟩,
    ⟨some 43, .mov (.t 2), none⟩,
    ⟨some 44, .call 12 [(.t 42), (.t 43)], none⟩,
    ⟨some 41, .mov (.t 44), none⟩,
    ⟨some 45, .extract (.t 41) 0, none⟩,
    ⟨some 46, .extract (.t 41) 1, none⟩,
    ⟨some 10, .mov (.t 45), none⟩,
    ⟨some 11, .mov (.t 46), none⟩])
  (.seq (.seq (.ops [⟨some 47, .mov (.t 9), none⟩,
    ⟨some 48, .bin .neq false (.t 47) (.c (.v (.int .i64 0))), none⟩,
    ⟨some 49, .mov (.t 48), none⟩,
    ⟨some 50, .mov (.t 11), some (49, false)⟩,
    ⟨some 51, .bin .neq false (.t 50) (.c (.v (.int .i64 0))), some (49, false)⟩,
    ⟨some 52, .pick (.t 49) (.c (.v (.bool true))) (.t 51), none⟩])
  (.cond (.t 52)
    (.seq (.ops [⟨some 53, .mov (.t 7), none⟩,
      ⟨some 6, .mov (.t 53), none⟩])
    .ret)
    .skip))
  (.seq (.seq (.ops [⟨some 54, .mov (.t 1), none⟩,
    ⟨some 55, .len false (.t 54), none⟩,
    ⟨some 56, .mov (.t 0), none⟩,
    ⟨some 57, .len false (.t 56), none⟩,
    ⟨some 58, .bin .neq false (.t 55) (.t 57), none⟩,
    ⟨some 59, .mov (.t 58), none⟩,
    ⟨some 60, .mov (.t 2), some (59, false)⟩,
    ⟨some 61, .len false (.t 60), some (59, false)⟩,
    ⟨some 62, .mov (.t 0), some (59, false)⟩,
    ⟨some 63, .len false (.t 62), some (59, false)⟩,
    ⟨some 64, .bin .neq false (.t 61) (.t 63), some (59, false)⟩,
    ⟨some 65, .pick (.t 59) (.c (.v (.bool true))) (.t 64), none⟩])
  (.cond (.t 65)
    (.seq (.ops [⟨some 6, .mov (.c (.v (.bool false))), none⟩])
    .ret)
    .skip))
  (.seq (.ops [⟨some 12, .mov (.c (.v (.bool false))), none⟩])
  (.seq (.ops [⟨some 13, .mov (.c (.v (.bool true))), none⟩])
  (.seq (.seq (.ops [⟨some 14, .mov (.c (.v (.int .i64 0))), none⟩])
  (.block 0 (.loop
    (.seq (.seq (.ops [⟨some 66, .mov (.t 14), none⟩,
      ⟨some 67, .mov (.t 1), none⟩,
      ⟨some 68, .len false (.t 67), none⟩,
      ⟨some 69, .bin .lss false (.t 66) (.t 68), none⟩,
      ⟨some 70, .mov (.t 69), none⟩,
      ⟨some 71, .mov (.t 13), some (70, true)⟩,
      ⟨some 72, .pick (.t 70) (.t 71) (.c (.v (.bool false))), none⟩])
    (.cond (.t 72)
      .skip
      (.exit 0)))
    (.seq (.block 1 (.seq (.draw [[⟨some 75, .mov (.t 1), none⟩,
        ⟨some 76, .mov (.t 14), none⟩,
        ⟨some 77, .iaddr 1 (.t 75) (.t 76), none⟩,
        ⟨some 78, .load 1 false (.t 77), none⟩,
        ⟨some 79, .mov (.t 2), none⟩,
        ⟨some 80, .mov (.t 14), none⟩,
        ⟨some 81, .iaddr 1 (.t 79) (.t 80), none⟩,
        ⟨some 82, .load 1 false (.t 81), none⟩],
      [⟨some 83, .bin .lss false (.t 78) (.t 82), none⟩],
      [⟨some 12, .mov (.t 83), none⟩]])
    (.draw [[⟨some 84, .mov (.t 1), none⟩,
        ⟨some 85, .mov (.t 14), none⟩,
        ⟨some 86, .iaddr 1 (.t 84) (.t 85), none⟩,
        ⟨some 87, .load 1 false (.t 86), none⟩,
        ⟨some 88, .mov (.t 2), none⟩,
        ⟨some 89, .mov (.t 14), none⟩,
        ⟨some 90, .iaddr 1 (.t 88) (.t 89), none⟩,
        ⟨some 91, .load 1 false (.t 90), none⟩],
      [⟨some 92, .bin .eql false (.t 87) (.t 91), none⟩],
      [⟨some 13, .mov (.t 92), none⟩]])))
    (.ops [⟨some 73, .mov (.t 14), none⟩,
      ⟨some 74, .bin .add false (.t 73) (.c (.v (.int .i64 1))), none⟩,
      ⟨some 14, .mov (.t 74), none⟩]))))))
  (.seq (.ops [⟨some 93, .mov (.t 7), none⟩,
    ⟨some 94, .mov (.t 93), none⟩,
    ⟨some 95, .mov (.t 8), some (94, true)⟩,
    ⟨some 96, .b2s (.t 95), some (94, true)⟩,
    ⟨some 97, .mov (.t 10), some (94, true)⟩,
    ⟨some 98, .b2s (.t 97), some (94, true)⟩,
    ⟨some 99, .bin .eql false (.t 96) (.t 98), some (94, true)⟩,
    ⟨some 100, .mov (.t 13), some (94, true)⟩,
    ⟨some 101, .bin .eql true (.t 99) (.t 100), some (94, true)⟩,
    ⟨some 102, .pick (.t 94) (.t 101) (.c (.v (.bool false))), none⟩,
    ⟨some 103, .mov (.t 102), none⟩,
    ⟨some 104, .mov (.t 8), some (103, true)⟩,
    ⟨some 105, .b2s (.t 104), some (103, true)⟩,
    ⟨some 106, .mov (.t 10), some (103, true)⟩,
    ⟨some 107, .b2s (.t 106), some (103, true)⟩,
    ⟨some 108, .bin .lss false (.t 105) (.t 107), some (103, true)⟩,
    ⟨some 109, .mov (.t 12), some (103, true)⟩,
    ⟨some 110, .bin .eql true (.t 108) (.t 109), some (103, true)⟩,
    ⟨some 111, .pick (.t 103) (.t 110) (.c (.v (.bool false))), none⟩,
    ⟨some 6, .mov (.t 111), none⟩])
  .ret)))))))))))⟩ := by kernel_rfl

set_option maxRecDepth 100000 in
theorem ir6 : compF Try.prog 6 = some ⟨131, [.t 4],
  (.seq (.ops [⟨some 4, .mov (.c (.v (.bool false))), none⟩])
  (.seq (.ops [⟨some 20, .call 9 [], none⟩,
    ⟨some 5, .mov (.t 20), none⟩])
  (.seq (.ops [⟨some 21, .mov (.t 0), none⟩,
    ⟨some 22, .len false (.t 21), none⟩,
    ⟨some 6, .mov (.t 22), none⟩])
  (.seq (.seq (.ops [⟨some 23, .mov (.t 6), none⟩,
    ⟨some 24, .bin .lss false (.t 23) (.c (.v (.int .i64 1))), none⟩,
    ⟨some 25, .mov (.t 24), none⟩,
    ⟨some 26, .mov (.t 6), some (25, false)⟩,
    ⟨some 27, .bin .gtr false (.t 26) (.c (.v (.int .i64 5))), some (25, false)⟩,
    ⟨some 28, .pick (.t 25) (.c (.v (.bool true))) (.t 27), none⟩,
    ⟨some 29, .mov (.t 28), none⟩,
    ⟨some 30, .mov (.t 1), some (29, false)⟩,
    ⟨some 31, .len false (.t 30), some (29, false)⟩,
    ⟨some 32, .mov (.t 6), some (29, false)⟩,
    ⟨some 33, .bin .neq false (.t 31) (.t 32), some (29, false)⟩,
    ⟨some 34, .pick (.t 29) (.c (.v (.bool true))) (.t 33), none⟩])
  (.cond (.t 34)
    (.seq (.ops [⟨some 35, .mov (.t 5), none⟩,
      ⟨some 4, .mov (.t 35), none⟩])
    .ret)
    .skip))
  (.seq (.ops [⟨some 7, .mov (.c (.v (.slice none 0 0))), none⟩])
  (.seq (.ops [⟨some 8, .mov (.c (.v (.int .i64 1))), none⟩])
  (.seq (.ops [⟨some 9, .mov (.c (.v (.int .i64 0))), none⟩])
  (.seq (.seq (.ops [⟨some 10, .mov (.c (.v (.int .i64 0))), none⟩])
  (.block 0 (.loop
    (.seq (.seq (.ops [⟨some 36, .mov (.t 10), none⟩,
      ⟨some 37, .mov (.t 6), none⟩,
      ⟨some 38, .bin .lss false (.t 36) (.t 37), none⟩])
    (.cond (.t 38)
      .skip
      (.exit 0)))
    (.seq (.block 1 (.seq (.ops [⟨some 41, .mov (.t 1), none⟩,
      ⟨some 42, .mov (.t 10), none⟩,
      ⟨some 43, .iaddr 1 (.t 41) (.t 42), none⟩,
      ⟨some 44, .load 1 false (.t 43), none⟩,
      ⟨some 45, .conv .i64 (.t 44), none⟩,
      ⟨some 46, .bin .rem false (.t 45) (.c (.v (.int .i64 6))), none⟩,
      ⟨some 11, .mov (.t 46), none⟩])
    (.seq (.draw [[⟨some 47, .mov (.t 7), none⟩,
        ⟨some 48, .mov (.t 0), none⟩,
        ⟨some 49, .mov (.t 10), none⟩,
        ⟨some 50, .iaddr 1 (.t 48) (.t 49), none⟩,
        ⟨some 51, .load 1 false (.t 50), none⟩,
        ⟨some 52, .conv .i64 (.t 51), none⟩,
        ⟨some 53, .mov (.t 0), none⟩,
        ⟨some 54, .mov (.t 10), none⟩,
        ⟨some 55, .iaddr 1 (.t 53) (.t 54), none⟩,
        ⟨some 56, .load 1 false (.t 55), none⟩,
        ⟨some 57, .conv .i64 (.t 56), none⟩,
        ⟨some 58, .mov (.t 11), none⟩,
        ⟨some 59, .bin .add false (.t 57) (.t 58), none⟩,
        ⟨some 60, .build [(.v (.int .i64 0)), (.v (.int .i64 0))] [(0, 1, (.t 52)), (1, 1, (.t 59))], none⟩,
        ⟨some 61, .bslice 2 [(.v (.int .i64 0)), (.v (.int .i64 0))] 1 [(0, 2, (.t 60))], none⟩],
      [⟨some 62, .append 2 16 [(.v (.int .i64 0)), (.v (.int .i64 0))] (.t 47) (.t 61), none⟩],
      [⟨some 7, .mov (.t 62), none⟩]])
    (.seq (.ops [⟨some 63, .mov (.t 8), none⟩,
      ⟨some 64, .mov (.t 11), none⟩,
      ⟨some 65, .bin .add false (.t 64) (.c (.v (.int .i64 1))), none⟩,
      ⟨some 66, .bin .mul false (.t 63) (.t 65), none⟩,
      ⟨some 8, .mov (.t 66), none⟩])
    (.ops [⟨some 67, .mov (.t 9), none⟩,
      ⟨some 68, .mov (.t 7), none⟩,
      ⟨some 69, .mov (.t 10), none⟩,
      ⟨some 70, .iaddr 2 (.t 68) (.t 69), none⟩,
      ⟨some 71, .load 2 true (.t 70), none⟩,
      ⟨some 72, .call 16 [(.t 71)], none⟩,
      ⟨some 73, .bin .add false (.t 67) (.t 72), none⟩,
      ⟨some 9, .mov (.t 73), none⟩])))))
    (.ops [⟨some 39, .mov (.t 10), none⟩,
      ⟨some 40, .bin .add false (.t 39) (.c (.v (.int .i64 1))), none⟩,
      ⟨some 10, .mov (.t 40), none⟩]))))))
  (.seq (.seq (.ops [⟨some 74, .mov (.t 7), none⟩,
    ⟨some 75, .call 20 [(.t 74)], none⟩,
    ⟨some 76, .bin .gtr false (.t 75) (.c (.v (.int .i64 1))), none⟩,
    ⟨some 77, .mov (.t 76), none⟩,
    ⟨some 78, .mov (.t 9), some (77, false)⟩,
    ⟨some 79, .bin .gtr false (.t 78) (.c (.v (.int .i64 8))), some (77, false)⟩,
    ⟨some 80, .pick (.t 77) (.c (.v (.bool true))) (.t 79), none⟩])
  (.cond (.t 80)
    (.seq (.ops [⟨some 81, .mov (.t 5), none⟩,
      ⟨some 82, .mov (.t 81), none⟩,
      ⟨some 83, .mov (.t 9), some (82, true)⟩,
      ⟨some 84, .bin .gtr false (.t 83) (.c (.v (.int .i64 8))), some (82, true)⟩,
      ⟨some 85, .pick (.t 82) (.t 84) (.c (.v (.bool false))), none⟩,
      ⟨some 4, .mov (.t 85), none⟩])
    .ret)
    .skip))
  (.seq (.ops [⟨some 12, .mov (.c (.v (.int .i64 0))), none⟩])
  (.seq (.seq (.ops [⟨some 13, .mov (.c (.v (.int .i64 0))), none⟩])
  (.block 2 (.loop
    (.seq (.seq (.ops [⟨some 86, .mov (.t 13), none⟩,
      ⟨some 87, .bin .lss false (.t 86) (.c (.v (.int .i64 256))), none⟩])
    (.cond (.t 87)
      .skip
      (.exit 2)))
    (.seq (.block 3 (.seq (.ops [⟨some 91, .mov (.t 7), none⟩,
      ⟨some 92, .mov (.t 13), none⟩,
      ⟨some 93, .conv .u8 (.t 92), none⟩,
      ⟨some 94, .bslice 1 [(.v (.int .u8 0))] 1 [(0, 1, (.t 93))], none⟩,
      ⟨some 95, .call 14 [(.t 91), (.t 94)], none⟩,
      ⟨some 90, .mov (.t 95), none⟩,
      ⟨some 96, .extract (.t 90) 0, none⟩,
      ⟨some 97, .extract (.t 90) 1, none⟩,
      ⟨some 14, .mov (.t 96), none⟩,
      ⟨some 15, .mov (.t 97), none⟩])
    (.seq (.ops [⟨some 98, .mov (.t 15), none⟩,
      ⟨some 99, .bin .eql false (.t 98) (.c (.v (.int .i64 0))), none⟩])
    (.cond (.t 99)
      (.seq (.ops [⟨some 100, .mov (.t 12), none⟩,
        ⟨some 101, .bin .add false (.t 100) (.c (.v (.int .i64 1))), none⟩,
        ⟨some 12, .mov (.t 101), none⟩])
      (.seq (.ops [⟨some 102, .mov (.t 7), none⟩,
        ⟨some 103, .mov (.t 14), none⟩,
        ⟨some 104, .call 22 [(.t 102), (.t 103)], none⟩,
        ⟨some 105, .bin .neq false (.t 104) (.c (.v (.int .i64 0))), none⟩])
      (.cond (.t 105)
        (.seq (.ops [⟨some 4, .mov (.c (.v (.bool false))), none⟩])
        .ret)
        .skip)))
      .skip))))
    (.ops [⟨some 88, .mov (.t 13), none⟩,
      ⟨some 89, .bin .add false (.t 88) (.c (.v (.int .i64 1))), none⟩,
      ⟨some 13, .mov (.t 89), none⟩]))))))
  (.seq (.ops [⟨some 107, .mov (.t 7), none⟩,
    ⟨some 108, .call 14 [(.t 107), (.c (.v (.slice none 0 0)))], none⟩,
    ⟨some 106, .mov (.t 108), none⟩,
    ⟨some 109, .extract (.t 106) 0, none⟩,
    ⟨some 110, .extract (.t 106) 1, none⟩,
    ⟨some 16, .mov (.t 109), none⟩,
    ⟨some 17, .mov (.t 110), none⟩])
  (.seq (.ops [⟨some 112, .mov (.t 7), none⟩,
    ⟨some 113, .bslice 1 [(.v (.int .u8 0))] 2 [(0, 1, (.c (.v (.int .u8 0)))), (1, 1, (.c (.v (.int .u8 0))))], none⟩,
    ⟨some 114, .call 14 [(.t 112), (.t 113)], none⟩,
    ⟨some 111, .mov (.t 114), none⟩,
    ⟨some 115, .extract (.t 111) 0, none⟩,
    ⟨some 116, .extract (.t 111) 1, none⟩,
    ⟨some 18, .mov (.t 115), none⟩,
    ⟨some 19, .mov (.t 116), none⟩])
  (.seq (.ops [⟨some 117, .mov (.t 5), none⟩,
    ⟨some 118, .mov (.t 117), none⟩,
    ⟨some 119, .mov (.t 12), some (118, true)⟩,
    ⟨some 120, .mov (.t 8), some (118, true)⟩,
    ⟨some 121, .bin .eql false (.t 119) (.t 120), some (118, true)⟩,
    ⟨some 122, .pick (.t 118) (.t 121) (.c (.v (.bool false))), none⟩,
    ⟨some 123, .mov (.t 122), none⟩,
    ⟨some 124, .mov (.t 17), some (123, true)⟩,
    ⟨some 125, .bin .eql false (.t 124) (.c (.v (.int .i64 2))), some (123, true)⟩,
    ⟨some 126, .pick (.t 123) (.t 125) (.c (.v (.bool false))), none⟩,
    ⟨some 127, .mov (.t 126), none⟩,
    ⟨some 128, .mov (.t 19), some (127, true)⟩,
    ⟨some 129, .bin .eql false (.t 128) (.c (.v (.int .i64 2))), some (127, true)⟩,
    ⟨some 130, .pick (.t 127) (.t 129) (.c (.v (.bool false))), none⟩,
    ⟨some 4, .mov (.t 130), none⟩])
  .ret))))))))))))))⟩ := by kernel_rfl

theorem ir7 : compF Try.prog 7 = some ⟨94, [.t 4],
  (.seq (.ops [⟨some 4, .mov (.c (.v (.bool false))), none⟩])
  (.seq (.ops [⟨some 10, .call 9 [], none⟩,
    ⟨some 5, .mov (.t 10), none⟩])
  (.seq (.ops [⟨some 11, .mov (.t 1), none⟩,
    ⟨some 12, .conv .i64 (.t 11), none⟩,
    ⟨some 13, .bin .rem false (.t 12) (.c (.v (.int .i64 65600))), none⟩,
    ⟨some 6, .mov (.t 13), none⟩])
  (.seq (.ops [⟨some 14, .mov (.t 0), none⟩,
    ⟨some 15, .conv .i64 (.t 14), none⟩,
    ⟨some 16, .mov (.t 0), none⟩,
    ⟨some 17, .conv .i64 (.t 16), none⟩,
    ⟨some 18, .mov (.t 6), none⟩,
    ⟨some 19, .bin .add false (.t 17) (.t 18), none⟩,
    ⟨some 20, .build [(.v (.int .i64 0)), (.v (.int .i64 0))] [(0, 1, (.t 15)), (1, 1, (.t 19))], none⟩,
    ⟨some 7, .alloc (.agg [(.v (.int .i64 0)), (.v (.int .i64 0))]), none⟩,
    ⟨none, .store 2 (.t 7) (.t 20), none⟩])
  (.seq (.ops [⟨some 21, .load 2 true (.t 7), none⟩,
    ⟨some 22, .bslice 2 [(.v (.int .i64 0)), (.v (.int .i64 0))] 1 [(0, 2, (.t 21))], none⟩,
    ⟨some 8, .mov (.t 22), none⟩])
  (.seq (.ops [⟨some 23, .mov (.t 0), none⟩,
    ⟨some 24, .conv .i64 (.t 23), none⟩,
    ⟨some 25, .bin .geq false (.t 24) (.c (.v (.int .i64 (-1073741824)))), none⟩,
    ⟨some 26, .mov (.t 25), none⟩,
    ⟨some 27, .mov (.t 0), some (26, true)⟩,
    ⟨some 28, .conv .i64 (.t 27), some (26, true)⟩,
    ⟨some 29, .mov (.t 6), some (26, true)⟩,
    ⟨some 30, .bin .add false (.t 28) (.t 29), some (26, true)⟩,
    ⟨some 31, .bin .leq false (.t 30) (.c (.v (.int .i64 1073741824))), some (26, true)⟩,
    ⟨some 32, .pick (.t 26) (.t 31) (.c (.v (.bool false))), none⟩,
    ⟨some 33, .mov (.t 32), none⟩,
    ⟨some 34, .mov (.t 6), some (33, true)⟩,
    ⟨some 35, .bin .leq false (.t 34) (.c (.v (.int .i64 65535))), some (33, true)⟩,
    ⟨some 36, .pick (.t 33) (.t 35) (.c (.v (.bool false))), none⟩,
    ⟨some 9, .mov (.t 36), none⟩])
  (.seq (.seq (.ops [⟨some 37, .mov (.t 8), none⟩,
    ⟨some 38, .call 11 [(.t 37)], none⟩,
    ⟨some 39, .mov (.t 9), none⟩,
    ⟨some 40, .bin .neq true (.t 38) (.t 39), none⟩])
  (.cond (.t 40)
    (.seq (.ops [⟨some 4, .mov (.c (.v (.bool false))), none⟩])
    .ret)
    .skip))
  (.seq (.seq (.ops [⟨some 41, .mov (.t 9), none⟩,
    ⟨some 42, .un .not (.t 41), none⟩])
  (.cond (.t 42)
    (.seq (.ops [⟨some 43, .mov (.t 5), none⟩,
      ⟨some 4, .mov (.t 43), none⟩])
    .ret)
    .skip))
  (.seq (.ops [⟨some 44, .mov (.t 5), none⟩,
    ⟨some 45, .mov (.t 44), none⟩,
    ⟨some 46, .mov (.t 8), some (45, true)⟩,
    ⟨some 47, .faddr 0 (.t 7), some (45, true)⟩,
    ⟨some 48, .load 1 false (.t 47), some (45, true)⟩,
    ⟨some 49, .bslice 1 [(.v (.int .i64 0))] 1 [(0, 1, (.t 48))], some (45, true)⟩,
    ⟨some 50, .call 22 [(.t 46), (.t 49)], some (45, true)⟩,
    ⟨some 51, .bin .eql false (.t 50) (.c (.v (.int .i64 0))), some (45, true)⟩,
    ⟨some 52, .pick (.t 45) (.t 51) (.c (.v (.bool false))), none⟩,
    ⟨some 53, .mov (.t 52), none⟩,
    ⟨some 54, .mov (.t 8), some (53, true)⟩,
    ⟨some 55, .faddr 1 (.t 7), some (53, true)⟩,
    ⟨some 56, .load 1 false (.t 55), some (53, true)⟩,
    ⟨some 57, .bslice 1 [(.v (.int .i64 0))] 1 [(0, 1, (.t 56))], some (53, true)⟩,
    ⟨some 58, .call 22 [(.t 54), (.t 57)], some (53, true)⟩,
    ⟨some 59, .bin .eql false (.t 58) (.c (.v (.int .i64 0))), some (53, true)⟩,
    ⟨some 60, .pick (.t 53) (.t 59) (.c (.v (.bool false))), none⟩,
    ⟨some 61, .mov (.t 60), none⟩,
    ⟨some 62, .mov (.t 8), some (61, true)⟩,
    ⟨some 63, .faddr 0 (.t 7), some (61, true)⟩,
    ⟨some 64, .load 1 false (.t 63), some (61, true)⟩,
    ⟨some 65, .bin .sub false (.t 64) (.c (.v (.int .i64 1))), some (61, true)⟩,
    ⟨some 66, .bslice 1 [(.v (.int .i64 0))] 1 [(0, 1, (.t 65))], some (61, true)⟩,
    ⟨some 67, .call 22 [(.t 62), (.t 66)], some (61, true)⟩,
    ⟨some 68, .bin .eql false (.t 67) (.c (.v (.int .i64 5))), some (61, true)⟩,
    ⟨some 69, .pick (.t 61) (.t 68) (.c (.v (.bool false))), none⟩,
    ⟨some 70, .mov (.t 69), none⟩,
    ⟨some 71, .mov (.t 8), some (70, true)⟩,
    ⟨some 72, .faddr 1 (.t 7), some (70, true)⟩,
    ⟨some 73, .load 1 false (.t 72), some (70, true)⟩,
    ⟨some 74, .bin .add false (.t 73) (.c (.v (.int .i64 1))), some (70, true)⟩,
    ⟨some 75, .bslice 1 [(.v (.int .i64 0))] 1 [(0, 1, (.t 74))], some (70, true)⟩,
    ⟨some 76, .call 22 [(.t 71), (.t 75)], some (70, true)⟩,
    ⟨some 77, .bin .eql false (.t 76) (.c (.v (.int .i64 5))), some (70, true)⟩,
    ⟨some 78, .pick (.t 70) (.t 77) (.c (.v (.bool false))), none⟩,
    ⟨some 79, .mov (.t 78), none⟩,
    ⟨some 80, .mov (.t 8), some (79, true)⟩,
    ⟨some 81, .call 22 [(.t 80), (.c (.v (.slice none 0 0)))], some (79, true)⟩,
    ⟨some 82, .bin .eql false (.t 81) (.c (.v (.int .i64 1))), some (79, true)⟩,
    ⟨some 83, .pick (.t 79) (.t 82) (.c (.v (.bool false))), none⟩,
    ⟨some 84, .mov (.t 83), none⟩,
    ⟨some 85, .mov (.t 8), some (84, true)⟩,
    ⟨some 86, .faddr 0 (.t 7), some (84, true)⟩,
    ⟨some 87, .load 1 false (.t 86), some (84, true)⟩,
    ⟨some 88, .faddr 0 (.t 7), some (84, true)⟩,
    ⟨some 89, .load 1 false (.t 88), some (84, true)⟩,
    ⟨some 90, .bslice 1 [(.v (.int .i64 0))] 2 [(0, 1, (.t 87)), (1, 1, (.t 89))], some (84, true)⟩,
    ⟨some 91, .call 22 [(.t 85), (.t 90)], some (84, true)⟩,
    ⟨some 92, .bin .eql false (.t 91) (.c (.v (.int .i64 1))), some (84, true)⟩,
    ⟨some 93, .pick (.t 84) (.t 92) (.c (.v (.bool false))), none⟩,
    ⟨some 4, .mov (.t 93), none⟩])
  .ret)))))))))⟩ := by kernel_rfl

set_option maxRecDepth 100000 in
theorem ir8 : compF Try.prog 8 = some ⟨175, [.t 2],
  (.seq (.ops [⟨some 1, .box (.t 0), none⟩,
    ⟨some 2, .mov (.c (.v (.bool false))), none⟩])
  (.seq (.ops [⟨some 22, .faddr 0 (.t 1), none⟩,
    ⟨some 23, .load 1 false (.t 22), none⟩,
    ⟨some 3, .mov (.t 23), none⟩])
  (.seq (.ops [⟨some 24, .faddr 1 (.t 1), none⟩,
    ⟨some 25, .load 1 false (.t 24), none⟩,
    ⟨some 4, .mov (.t 25), none⟩])
  (.seq (.ops [⟨some 26, .faddr 2 (.t 1), none⟩,
    ⟨some 27, .load 1 false (.t 26), none⟩,
    ⟨some 5, .mov (.t 27), none⟩])
  (.seq (.ops [⟨some 28, .faddr 3 (.t 1), none⟩,
    ⟨some 29, .load 1 false (.t 28), none⟩,
    ⟨some 6, .mov (.t 29), none⟩])
  (.seq (.ops [⟨some 30, .call 9 [], none⟩,
    ⟨some 7, .mov (.t 30), none⟩])
  (.seq (.seq (.ops [⟨some 31, .mov (.t 3), none⟩,
    ⟨some 32, .len false (.t 31), none⟩,
    ⟨some 33, .bin .gtr false (.t 32) (.c (.v (.int .i64 10))), none⟩,
    ⟨some 34, .mov (.t 33), none⟩,
    ⟨some 35, .mov (.t 4), some (34, false)⟩,
    ⟨some 36, .len false (.t 35), some (34, false)⟩,
    ⟨some 37, .bin .gtr false (.t 36) (.c (.v (.int .i64 7))), some (34, false)⟩,
    ⟨some 38, .pick (.t 34) (.c (.v (.bool true))) (.t 37), none⟩,
    ⟨some 39, .mov (.t 38), none⟩,
    ⟨some 40, .mov (.t 3), some (39, false)⟩,
    ⟨some 41, .call 10 [(.t 40)], some (39, false)⟩,
    ⟨some 42, .un .not (.t 41), some (39, false)⟩,
    ⟨some 43, .pick (.t 39) (.c (.v (.bool true))) (.t 42), none⟩,
    ⟨some 44, .mov (.t 43), none⟩,
    ⟨some 45, .mov (.t 4), some (44, false)⟩,
    ⟨some 46, .call 10 [(.t 45)], some (44, false)⟩,
    ⟨some 47, .un .not (.t 46), some (44, false)⟩,
    ⟨some 48, .pick (.t 44) (.c (.v (.bool true))) (.t 47), none⟩,
    ⟨some 49, .mov (.t 48), none⟩,
    ⟨some 50, .mov (.t 5), some (49, false)⟩,
    ⟨some 51, .len false (.t 50), some (49, false)⟩,
    ⟨some 52, .bin .gtr false (.t 51) (.c (.v (.int .i64 40))), some (49, false)⟩,
    ⟨some 53, .pick (.t 49) (.c (.v (.bool true))) (.t 52), none⟩,
    ⟨some 54, .mov (.t 53), none⟩,
    ⟨some 55, .mov (.t 6), some (54, false)⟩,
    ⟨some 56, .len false (.t 55), some (54, false)⟩,
    ⟨some 57, .bin .gtr false (.t 56) (.c (.v (.int .i64 40))), some (54, false)⟩,
    ⟨some 58, .pick (.t 54) (.c (.v (.bool true))) (.t 57), none⟩])
  (.cond (.t 58)
    (.seq (.ops [⟨some 59, .mov (.t 7), none⟩,
      ⟨some 2, .mov (.t 59), none⟩])
    .ret)
    .skip))
  (.seq (.ops [⟨some 61, .mov (.t 3), none⟩,
    ⟨some 62, .mov (.t 5), none⟩,
    ⟨some 63, .call 12 [(.t 61), (.t 62)], none⟩,
    ⟨some 60, .mov (.t 63), none⟩,
    ⟨some 64, .extract (.t 60) 0, none⟩,
    ⟨some 65, .extract (.t 60) 1, none⟩,
    ⟨some 8, .mov (.t 64), none⟩,
    ⟨some 9, .mov (.t 65), none⟩])
  (.seq (.ops [⟨some 67, .mov (.t 4), none⟩,
    ⟨some 68, .mov (.t 6), none⟩,
    ⟨some 69, .call 12 [(.t 67), (.t 68)], none⟩,
    ⟨some 66, .mov (.t 69), none⟩,
    ⟨some 70, .extract (.t 66) 0, none⟩,
    ⟨some 71, .extract (.t 66) 1, none⟩,
    ⟨some 10, .mov (.t 70), none⟩,
    ⟨some 11, .mov (.t 71), none⟩])
  (.seq (.ops [⟨some 72, .bslice 2 [(.v (.int .i64 0)), (.v (.int .i64 0))] 0 [], none⟩,
    ⟨some 73, .mov (.t 3), none⟩,
    ⟨some 74, .append 2 16 [(.v (.int .i64 0)), (.v (.int .i64 0))] (.t 72) (.t 73), none⟩,
    ⟨some 75, .mov (.t 4), none⟩,
    ⟨some 76, .append 2 16 [(.v (.int .i64 0)), (.v (.int .i64 0))] (.t 74) (.t 75), none⟩,
    ⟨some 12, .mov (.t 76), none⟩])
  (.seq (.seq (.ops [⟨some 77, .mov (.t 12), none⟩,
    ⟨some 78, .call 10 [(.t 77)], none⟩,
    ⟨some 79, .un .not (.t 78), none⟩,
    ⟨some 80, .mov (.t 79), none⟩,
    ⟨some 81, .mov (.t 9), some (80, false)⟩,
    ⟨some 82, .bin .neq false (.t 81) (.c (.v (.int .i64 0))), some (80, false)⟩,
    ⟨some 83, .pick (.t 80) (.c (.v (.bool true))) (.t 82), none⟩,
    ⟨some 84, .mov (.t 83), none⟩,
    ⟨some 85, .mov (.t 11), some (84, false)⟩,
    ⟨some 86, .bin .neq false (.t 85) (.c (.v (.int .i64 0))), some (84, false)⟩,
    ⟨some 87, .pick (.t 84) (.c (.v (.bool true))) (.t 86), none⟩])
  (.cond (.t 87)
    (.seq (.ops [⟨some 88, .mov (.t 7), none⟩,
      ⟨some 2, .mov (.t 88), none⟩])
    .ret)
    .skip))
  (.seq (.ops [⟨some 90, .mov (.t 12), none⟩,
    ⟨some 91, .bslice 1 [(.v (.int .i64 0))] 0 [], none⟩,
    ⟨some 92, .mov (.t 5), none⟩,
    ⟨some 93, .append 1 8 [(.v (.int .i64 0))] (.t 91) (.t 92), none⟩,
    ⟨some 94, .mov (.t 6), none⟩,
    ⟨some 95, .append 1 8 [(.v (.int .i64 0))] (.t 93) (.t 94), none⟩,
    ⟨some 96, .call 12 [(.t 90), (.t 95)], none⟩,
    ⟨some 89, .mov (.t 96), none⟩,
    ⟨some 97, .extract (.t 89) 0, none⟩,
    ⟨some 98, .extract (.t 89) 1, none⟩,
    ⟨some 13, .mov (.t 97), none⟩,
    ⟨some 14, .mov (.t 98), none⟩])
  (.seq (.ops [⟨some 99, .mov (.t 3), none⟩,
    ⟨some 100, .call 18 [(.t 99)], none⟩,
    ⟨some 15, .mov (.t 100), none⟩])
  (.seq (.ops [⟨some 101, .mov (.t 4), none⟩,
    ⟨some 102, .call 18 [(.t 101)], none⟩,
    ⟨some 16, .mov (.t 102), none⟩])
  (.seq (.seq (.ops [⟨some 103, .mov (.t 14), none⟩,
    ⟨some 104, .bin .neq false (.t 103) (.c (.v (.int .i64 0))), none⟩,
    ⟨some 105, .mov (.t 104), none⟩,
    ⟨some 106, .mov (.t 12), some (105, false)⟩,
    ⟨some 107, .call 18 [(.t 106)], some (105, false)⟩,
    ⟨some 108, .mov (.t 15), some (105, false)⟩,
    ⟨some 109, .mov (.t 16), some (105, false)⟩,
    ⟨some 110, .bin .add false (.t 108) (.t 109), some (105, false)⟩,
    ⟨some 111, .bin .neq false (.t 107) (.t 110), some (105, false)⟩,
    ⟨some 112, .pick (.t 105) (.c (.v (.bool true))) (.t 111), none⟩,
    ⟨some 113, .mov (.t 112), none⟩,
    ⟨some 114, .mov (.t 13), some (113, false)⟩,
    ⟨some 115, .len false (.t 114), some (113, false)⟩,
    ⟨some 116, .bin .mul false (.t 115) (.c (.v (.int .i64 8))), some (113, false)⟩,
    ⟨some 117, .mov (.t 15), some (113, false)⟩,
    ⟨some 118, .mov (.t 16), some (113, false)⟩,
    ⟨some 119, .bin .add false (.t 117) (.t 118), some (113, false)⟩,
    ⟨some 120, .bin .lss false (.t 116) (.t 119), some (113, false)⟩,
    ⟨some 121, .pick (.t 113) (.c (.v (.bool true))) (.t 120), none⟩,
    ⟨some 122, .mov (.t 121), none⟩,
    ⟨some 123, .mov (.t 8), some (122, false)⟩,
    ⟨some 124, .len false (.t 123), some (122, false)⟩,
    ⟨some 125, .bin .mul false (.t 124) (.c (.v (.int .i64 8))), some (122, false)⟩,
    ⟨some 126, .mov (.t 15), some (122, false)⟩,
    ⟨some 127, .bin .lss false (.t 125) (.t 126), some (122, false)⟩,
    ⟨some 128, .pick (.t 122) (.c (.v (.bool true))) (.t 127), none⟩,
    ⟨some 129, .mov (.t 128), none⟩,
    ⟨some 130, .mov (.t 10), some (129, false)⟩,
    ⟨some 131, .len false (.t 130), some (129, false)⟩,
    ⟨some 132, .bin .mul false (.t 131) (.c (.v (.int .i64 8))), some (129, false)⟩,
    ⟨some 133, .mov (.t 16), some (129, false)⟩,
    ⟨some 134, .bin .lss false (.t 132) (.t 133), some (129, false)⟩,
    ⟨some 135, .pick (.t 129) (.c (.v (.bool true))) (.t 134), none⟩])
  (.cond (.t 135)
    (.seq (.ops [⟨some 2, .mov (.c (.v (.bool false))), none⟩])
    .ret)
    .skip))
  (.seq (.ops [⟨some 136, .mov (.t 13), none⟩,
    ⟨some 137, .mov (.t 13), none⟩,
    ⟨some 138, .len false (.t 137), none⟩,
    ⟨some 139, .bin .mul false (.c (.v (.int .i64 8))) (.t 138), none⟩,
    ⟨some 140, .build [(.v (.slice none 0 0)), (.v (.int .i64 0))] [(0, 1, (.t 136)), (1, 1, (.t 139))], none⟩,
    ⟨some 17, .alloc (.agg [(.v (.slice none 0 0)), (.v (.int .i64 0))]), none⟩,
    ⟨none, .store 2 (.t 17) (.t 140), none⟩])
  (.seq (.ops [⟨some 141, .mov (.t 8), none⟩,
    ⟨some 142, .mov (.t 8), none⟩,
    ⟨some 143, .len false (.t 142), none⟩,
    ⟨some 144, .bin .mul false (.c (.v (.int .i64 8))) (.t 143), none⟩,
    ⟨some 145, .build [(.v (.slice none 0 0)), (.v (.int .i64 0))] [(0, 1, (.t 141)), (1, 1, (.t 144))], none⟩,
    ⟨some 18, .alloc (.agg [(.v (.slice none 0 0)), (.v (.int .i64 0))]), none⟩,
    ⟨none, .store 2 (.t 18) (.t 145), none⟩])
  (.seq (.ops [⟨some 146, .mov (.t 10), none⟩,
    ⟨some 147, .mov (.t 10), none⟩,
    ⟨some 148, .len false (.t 147), none⟩,
    ⟨some 149, .bin .mul false (.c (.v (.int .i64 8))) (.t 148), none⟩,
    ⟨some 150, .build [(.v (.slice none 0 0)), (.v (.int .i64 0))] [(0, 1, (.t 146)), (1, 1, (.t 149))], none⟩,
    ⟨some 19, .alloc (.agg [(.v (.slice none 0 0)), (.v (.int .i64 0))]), none⟩,
    ⟨none, .store 2 (.t 19) (.t 150), none⟩])
  (.seq (.seq (.ops [⟨some 20, .mov (.c (.v (.int .i64 0))), none⟩])
  (.block 0 (.loop
    (.seq (.seq (.ops [⟨some 151, .mov (.t 20), none⟩,
      ⟨some 152, .mov (.t 15), none⟩,
      ⟨some 153, .mov (.t 16), none⟩,
      ⟨some 154, .bin .add false (.t 152) (.t 153), none⟩,
      ⟨some 155, .bin .lss false (.t 151) (.t 154), none⟩])
    (.cond (.t 155)
      .skip
      (.exit 0)))
    (.seq (.block 1 (.seq (.ops [⟨some 21, .mov (.c (.v (.int .i64 0))), none⟩])
    (.seq (.seq (.ops [⟨some 158, .mov (.t 20), none⟩,
      ⟨some 159, .mov (.t 15), none⟩,
      ⟨some 160, .bin .lss false (.t 158) (.t 159), none⟩])
    (.cond (.t 160)
      (.ops [⟨some 161, .load 2 true (.t 18), none⟩,
        ⟨some 162, .mov (.t 20), none⟩,
        ⟨some 163, .call 25 [(.t 161), (.t 162)], none⟩,
        ⟨some 21, .mov (.t 163), none⟩])
      (.ops [⟨some 164, .load 2 true (.t 19), none⟩,
        ⟨some 165, .mov (.t 20), none⟩,
        ⟨some 166, .mov (.t 15), none⟩,
        ⟨some 167, .bin .sub false (.t 165) (.t 166), none⟩,
        ⟨some 168, .call 25 [(.t 164), (.t 167)], none⟩,
        ⟨some 21, .mov (.t 168), none⟩])))
    (.seq (.ops [⟨some 169, .load 2 true (.t 17), none⟩,
      ⟨some 170, .mov (.t 20), none⟩,
      ⟨some 171, .call 25 [(.t 169), (.t 170)], none⟩,
      ⟨some 172, .mov (.t 21), none⟩,
      ⟨some 173, .bin .neq false (.t 171) (.t 172), none⟩])
    (.cond (.t 173)
      (.seq (.ops [⟨some 2, .mov (.c (.v (.bool false))), none⟩])
      .ret)
      .skip)))))
    (.ops [⟨some 156, .mov (.t 20), none⟩,
      ⟨some 157, .bin .add false (.t 156) (.c (.v (.int .i64 1))), none⟩,
      ⟨some 20, .mov (.t 157), none⟩]))))))
  (.seq (.ops [⟨some 174, .mov (.t 7), none⟩,
    ⟨some 2, .mov (.t 174), none⟩])
  .ret))))))))))))))))))))⟩ := by kernel_rfl

set_option maxRecDepth 100000 in
theorem ir9 : compF Try.prog 9 = some ⟨122, [.t 0],
  (.seq (.ops [⟨some 0, .mov (.c (.v (.bool false))), none⟩])
  (.seq (.ops [⟨some 14, .build [(.v (.int .i64 0)), (.v (.int .i64 0))] [(0, 1, (.c (.v (.int .i64 0)))), (1, 1, (.c (.v (.int .i64 5))))], none⟩,
    ⟨some 15, .build [(.v (.int .i64 0)), (.v (.int .i64 0))] [(0, 1, (.c (.v (.int .i64 (-1))))), (1, 1, (.c (.v (.int .i64 1))))], none⟩,
    ⟨some 16, .bslice 2 [(.v (.int .i64 0)), (.v (.int .i64 0))] 2 [(0, 2, (.t 14)), (2, 2, (.t 15))], none⟩,
    ⟨some 1, .mov (.t 16), none⟩])
  (.seq (.ops [⟨some 18, .mov (.t 1), none⟩,
    ⟨some 19, .bslice 1 [(.v (.int .i64 0))] 2 [(0, 1, (.c (.v (.int .i64 5)))), (1, 1, (.c (.v (.int .i64 0))))], none⟩,
    ⟨some 20, .call 12 [(.t 18), (.t 19)], none⟩,
    ⟨some 17, .mov (.t 20), none⟩,
    ⟨some 21, .extract (.t 17) 0, none⟩,
    ⟨some 22, .extract (.t 17) 1, none⟩,
    ⟨some 2, .mov (.t 21), none⟩,
    ⟨some 3, .mov (.t 22), none⟩])
  (.seq (.ops [⟨some 24, .mov (.t 1), none⟩,
    ⟨some 25, .mov (.t 2), none⟩,
    ⟨some 26, .call 14 [(.t 24), (.t 25)], none⟩,
    ⟨some 23, .mov (.t 26), none⟩,
    ⟨some 27, .extract (.t 23) 0, none⟩,
    ⟨some 28, .extract (.t 23) 1, none⟩,
    ⟨some 4, .mov (.t 27), none⟩,
    ⟨some 5, .mov (.t 28), none⟩])
  (.seq (.ops [⟨some 30, .mov (.t 1), none⟩,
    ⟨some 31, .bslice 1 [(.v (.int .u8 0))] 1 [(0, 1, (.c (.v (.int .u8 255))))], none⟩,
    ⟨some 32, .call 14 [(.t 30), (.t 31)], none⟩,
    ⟨some 29, .mov (.t 32), none⟩,
    ⟨some 33, .extract (.t 29) 0, none⟩,
    ⟨some 34, .extract (.t 29) 1, none⟩,
    ⟨some 6, .mov (.t 33), none⟩,
    ⟨some 7, .mov (.t 34), none⟩])
  (.seq (.ops [⟨some 36, .mov (.t 1), none⟩,
    ⟨some 37, .bslice 1 [(.v (.int .i64 0))] 2 [(0, 1, (.c (.v (.int .i64 6)))), (1, 1, (.c (.v (.int .i64 0))))], none⟩,
    ⟨some 38, .call 12 [(.t 36), (.t 37)], none⟩,
    ⟨some 35, .mov (.t 38), none⟩,
    ⟨some 39, .extract (.t 35) 0, none⟩,
    ⟨some 40, .extract (.t 35) 1, none⟩,
    ⟨some 8, .mov (.t 39), none⟩,
    ⟨some 9, .mov (.t 40), none⟩])
  (.seq (.ops [⟨some 42, .mov (.t 1), none⟩,
    ⟨some 43, .bslice 1 [(.v (.int .i64 0))] 1 [(0, 1, (.c (.v (.int .i64 1))))], none⟩,
    ⟨some 44, .call 12 [(.t 42), (.t 43)], none⟩,
    ⟨some 41, .mov (.t 44), none⟩,
    ⟨some 45, .extract (.t 41) 0, none⟩,
    ⟨some 46, .extract (.t 41) 1, none⟩,
    ⟨some 10, .mov (.t 45), none⟩,
    ⟨some 11, .mov (.t 46), none⟩])
  (.seq (.ops [⟨some 48, .build [(.v (.int .i64 0)), (.v (.int .i64 0))] [(0, 1, (.c (.v (.int .i64 4)))), (1, 1, (.c (.v (.int .i64 4))))], none⟩,
    ⟨some 49, .bslice 2 [(.v (.int .i64 0)), (.v (.int .i64 0))] 1 [(0, 2, (.t 48))], none⟩,
    ⟨some 50, .bslice 1 [(.v (.int .i64 0))] 1 [(0, 1, (.c (.v (.int .i64 4))))], none⟩,
    ⟨some 51, .call 12 [(.t 49), (.t 50)], none⟩,
    ⟨some 47, .mov (.t 51), none⟩,
    ⟨some 52, .extract (.t 47) 0, none⟩,
    ⟨some 53, .extract (.t 47) 1, none⟩,
    ⟨some 12, .mov (.t 52), none⟩,
    ⟨some 13, .mov (.t 53), none⟩])
  (.seq (.ops [⟨some 54, .mov (.t 3), none⟩,
    ⟨some 55, .bin .eql false (.t 54) (.c (.v (.int .i64 0))), none⟩,
    ⟨some 56, .mov (.t 55), none⟩,
    ⟨some 57, .mov (.t 2), some (56, true)⟩,
    ⟨some 58, .b2s (.t 57), some (56, true)⟩,
    ⟨some 59, .bin .eql false (.t 58) (.c (.v (.string ⟨#[168]⟩))), some (56, true)⟩,
    ⟨some 60, .pick (.t 56) (.t 59) (.c (.v (.bool false))), none⟩,
    ⟨some 61, .mov (.t 60), none⟩,
    ⟨some 62, .mov (.t 5), some (61, true)⟩,
    ⟨some 63, .bin .eql false (.t 62) (.c (.v (.int .i64 0))), some (61, true)⟩,
    ⟨some 64, .pick (.t 61) (.t 63) (.c (.v (.bool false))), none⟩,
    ⟨some 65, .mov (.t 64), none⟩,
    ⟨some 66, .mov (.t 4), some (65, true)⟩,
    ⟨some 67, .bslice 1 [(.v (.int .i64 0))] 2 [(0, 1, (.c (.v (.int .i64 5)))), (1, 1, (.c (.v (.int .i64 0))))], some (65, true)⟩,
    ⟨some 68, .call 24 [(.t 66), (.t 67)], some (65, true)⟩,
    ⟨some 69, .pick (.t 65) (.t 68) (.c (.v (.bool false))), none⟩,
    ⟨some 70, .mov (.t 69), none⟩,
    ⟨some 71, .mov (.t 7), some (70, true)⟩,
    ⟨some 72, .bin .eql false (.t 71) (.c (.v (.int .i64 2))), some (70, true)⟩,
    ⟨some 73, .pick (.t 70) (.t 72) (.c (.v (.bool false))), none⟩,
    ⟨some 74, .mov (.t 73), none⟩,
    ⟨some 75, .mov (.t 9), some (74, true)⟩,
    ⟨some 76, .bin .eql false (.t 75) (.c (.v (.int .i64 5))), some (74, true)⟩,
    ⟨some 77, .pick (.t 74) (.t 76) (.c (.v (.bool false))), none⟩,
    ⟨some 78, .mov (.t 77), none⟩,
    ⟨some 79, .mov (.t 11), some (78, true)⟩,
    ⟨some 80, .bin .eql false (.t 79) (.c (.v (.int .i64 1))), some (78, true)⟩,
    ⟨some 81, .pick (.t 78) (.t 80) (.c (.v (.bool false))), none⟩,
    ⟨some 82, .mov (.t 81), none⟩,
    ⟨some 83, .mov (.t 13), some (82, true)⟩,
    ⟨some 84, .bin .eql false (.t 83) (.c (.v (.int .i64 0))), some (82, true)⟩,
    ⟨some 85, .pick (.t 82) (.t 84) (.c (.v (.bool false))), none⟩,
    ⟨some 86, .mov (.t 85), none⟩,
    ⟨some 87, .mov (.t 12), some (86, true)⟩,
    ⟨some 88, .b2s (.t 87), some (86, true)⟩,
    ⟨some 89, .bin .eql false (.t 88) (.c (.v (.string ⟨#[0]⟩))), some (86, true)⟩,
    ⟨some 90, .pick (.t 86) (.t 89) (.c (.v (.bool false))), none⟩,
    ⟨some 91, .mov (.t 90), none⟩,
    ⟨some 92, .mov (.t 1), some (91, true)⟩,
    ⟨some 93, .call 18 [(.t 92)], some (91, true)⟩,
    ⟨some 94, .bin .eql false (.t 93) (.c (.v (.int .i64 5))), some (91, true)⟩,
    ⟨some 95, .pick (.t 91) (.t 94) (.c (.v (.bool false))), none⟩,
    ⟨some 96, .mov (.t 95), none⟩,
    ⟨some 97, .mov (.t 1), some (96, true)⟩,
    ⟨some 98, .call 20 [(.t 97)], some (96, true)⟩,
    ⟨some 99, .bin .eql false (.t 98) (.c (.v (.int .i64 1))), some (96, true)⟩,
    ⟨some 100, .pick (.t 96) (.t 99) (.c (.v (.bool false))), none⟩,
    ⟨some 101, .mov (.t 100), none⟩,
    ⟨some 102, .mov (.t 1), some (101, true)⟩,
    ⟨some 103, .iaddr 2 (.t 102) (.c (.v (.int .i64 0))), some (101, true)⟩,
    ⟨some 104, .load 2 true (.t 103), some (101, true)⟩,
    ⟨some 105, .call 16 [(.t 104)], some (101, true)⟩,
    ⟨some 106, .bin .eql false (.t 105) (.c (.v (.int .i64 3))), some (101, true)⟩,
    ⟨some 107, .pick (.t 101) (.t 106) (.c (.v (.bool false))), none⟩,
    ⟨some 108, .mov (.t 107), none⟩,
    ⟨some 109, .mov (.t 1), some (108, true)⟩,
    ⟨some 110, .mov (.t 4), some (108, true)⟩,
    ⟨some 111, .call 22 [(.t 109), (.t 110)], some (108, true)⟩,
    ⟨some 112, .bin .eql false (.t 111) (.c (.v (.int .i64 0))), some (108, true)⟩,
    ⟨some 113, .pick (.t 108) (.t 112) (.c (.v (.bool false))), none⟩,
    ⟨some 114, .mov (.t 113), none⟩,
    ⟨some 115, .mov (.t 1), some (114, true)⟩,
    ⟨some 116, .call 11 [(.t 115)], some (114, true)⟩,
    ⟨some 117, .pick (.t 114) (.t 116) (.c (.v (.bool false))), none⟩,
    ⟨some 118, .mov (.t 117), none⟩,
    ⟨some 119, .call 11 [(.c (.v (.slice none 0 0)))], some (118, true)⟩,
    ⟨some 120, .un .not (.t 119), some (118, true)⟩,
    ⟨some 121, .pick (.t 118) (.t 120) (.c (.v (.bool false))), none⟩,
    ⟨some 0, .mov (.t 121), none⟩])
  .ret)))))))))⟩ := by kernel_rfl

theorem ir10 : compF Try.prog 10 = some ⟨59, [.t 2],
  (.seq (.ops [⟨some 2, .mov (.c (.v (.bool false))), none⟩])
  (.seq (.seq (.ops [⟨some 4, .mov (.t 0), none⟩,
    ⟨some 5, .len false (.t 4), none⟩,
    ⟨some 6, .bin .lss false (.t 5) (.c (.v (.int .i64 1))), none⟩,
    ⟨some 7, .mov (.t 6), none⟩,
    ⟨some 8, .mov (.t 0), some (7, false)⟩,
    ⟨some 9, .len false (.t 8), some (7, false)⟩,
    ⟨some 10, .bin .gtr false (.t 9) (.c (.v (.int .i64 17))), some (7, false)⟩,
    ⟨some 11, .pick (.t 7) (.c (.v (.bool true))) (.t 10), none⟩])
  (.cond (.t 11)
    (.seq (.ops [⟨some 2, .mov (.c (.v (.bool false))), none⟩])
    .ret)
    .skip))
  (.seq (.seq (.ops [⟨some 3, .mov (.c (.v (.int .i64 0))), none⟩])
  (.block 0 (.loop
    (.seq (.seq (.ops [⟨some 12, .mov (.t 3), none⟩,
      ⟨some 13, .mov (.t 0), none⟩,
      ⟨some 14, .len false (.t 13), none⟩,
      ⟨some 15, .bin .lss false (.t 12) (.t 14), none⟩])
    (.cond (.t 15)
      .skip
      (.exit 0)))
    (.seq (.block 1 (.seq (.draw [[⟨some 18, .mov (.t 0), none⟩,
        ⟨some 19, .mov (.t 3), none⟩,
        ⟨some 20, .iaddr 2 (.t 18) (.t 19), none⟩,
        ⟨some 21, .faddr 0 (.t 20), none⟩,
        ⟨some 22, .load 1 false (.t 21), none⟩,
        ⟨some 23, .mov (.t 0), none⟩,
        ⟨some 24, .mov (.t 3), none⟩,
        ⟨some 25, .iaddr 2 (.t 23) (.t 24), none⟩,
        ⟨some 26, .faddr 1 (.t 25), none⟩,
        ⟨some 27, .load 1 false (.t 26), none⟩],
      [⟨some 28, .bin .gtr false (.t 22) (.t 27), none⟩],
      [⟨some 29, .mov (.t 28), none⟩],
      [⟨some 30, .mov (.t 0), some (29, false)⟩,
        ⟨some 31, .mov (.t 3), some (29, false)⟩],
      [⟨some 32, .iaddr 2 (.t 30) (.t 31), some (29, false)⟩],
      [⟨some 33, .faddr 0 (.t 32), some (29, false)⟩],
      [⟨some 34, .load 1 false (.t 33), some (29, false)⟩],
      [⟨some 35, .bin .lss false (.t 34) (.c (.v (.int .i64 (-1073741824)))), some (29, false)⟩],
      [⟨some 36, .pick (.t 29) (.c (.v (.bool true))) (.t 35), none⟩],
      [⟨some 37, .mov (.t 36), none⟩],
      [⟨some 38, .mov (.t 0), some (37, false)⟩,
        ⟨some 39, .mov (.t 3), some (37, false)⟩],
      [⟨some 40, .iaddr 2 (.t 38) (.t 39), some (37, false)⟩],
      [⟨some 41, .faddr 1 (.t 40), some (37, false)⟩],
      [⟨some 42, .load 1 false (.t 41), some (37, false)⟩],
      [⟨some 43, .bin .gtr false (.t 42) (.c (.v (.int .i64 1073741824))), some (37, false)⟩],
      [⟨some 44, .pick (.t 37) (.c (.v (.bool true))) (.t 43), none⟩],
      [⟨some 45, .mov (.t 44), none⟩],
      [⟨some 46, .mov (.t 0), some (45, false)⟩,
        ⟨some 47, .mov (.t 3), some (45, false)⟩,
        ⟨some 48, .iaddr 2 (.t 46) (.t 47), some (45, false)⟩,
        ⟨some 49, .faddr 1 (.t 48), some (45, false)⟩,
        ⟨some 50, .load 1 false (.t 49), some (45, false)⟩,
        ⟨some 51, .mov (.t 0), some (45, false)⟩,
        ⟨some 52, .mov (.t 3), some (45, false)⟩,
        ⟨some 53, .iaddr 2 (.t 51) (.t 52), some (45, false)⟩,
        ⟨some 54, .faddr 0 (.t 53), some (45, false)⟩,
        ⟨some 55, .load 1 false (.t 54), some (45, false)⟩],
      [⟨some 56, .bin .sub false (.t 50) (.t 55), some (45, false)⟩],
      [⟨some 57, .bin .gtr false (.t 56) (.c (.v (.int .i64 65535))), some (45, false)⟩],
      [⟨some 58, .pick (.t 45) (.c (.v (.bool true))) (.t 57), none⟩]])
    (.cond (.t 58)
      (.seq (.ops [⟨some 2, .mov (.c (.v (.bool false))), none⟩])
      .ret)
      .skip)))
    (.ops [⟨some 16, .mov (.t 3), none⟩,
      ⟨some 17, .bin .add false (.t 16) (.c (.v (.int .i64 1))), none⟩,
      ⟨some 3, .mov (.t 17), none⟩]))))))
  (.seq (.ops [⟨some 2, .mov (.c (.v (.bool true))), none⟩])
  .ret))))⟩ := by kernel_rfl

theorem ir11 : compF Try.prog 11 = some ⟨17, [.t 2],
  (.seq (.ops [⟨some 2, .mov (.c (.v (.bool false))), none⟩])
  (.seq (.ops [⟨some 3, .mov (.t 0), none⟩,
    ⟨some 4, .len false (.t 3), none⟩,
    ⟨some 5, .bin .geq false (.t 4) (.c (.v (.int .i64 1))), none⟩,
    ⟨some 6, .mov (.t 5), none⟩,
    ⟨some 7, .mov (.t 0), some (6, true)⟩,
    ⟨some 8, .len false (.t 7), some (6, true)⟩,
    ⟨some 9, .bin .leq false (.t 8) (.c (.v (.int .i64 17))), some (6, true)⟩,
    ⟨some 10, .pick (.t 6) (.t 9) (.c (.v (.bool false))), none⟩,
    ⟨some 11, .mov (.t 10), none⟩,
    ⟨some 12, .mov (.t 0), some (11, true)⟩,
    ⟨some 13, .call 27 [(.t 12), (.c (.fn (.func 28) [] []))], some (11, true)⟩,
    ⟨some 14, .call 26 [(.t 13), (.c (.v (.bool false)))], some (11, true)⟩,
    ⟨some 15, .un .not (.t 14), some (11, true)⟩,
    ⟨some 16, .pick (.t 11) (.t 15) (.c (.v (.bool false))), none⟩,
    ⟨some 2, .mov (.t 16), none⟩])
  .ret))⟩ := by kernel_rfl

theorem ir12 : compF Try.prog 12 = some ⟨51, [.t 4, .t 5],
  (.seq (.ops [⟨some 4, .mov (.c (.v (.slice none 0 0))), none⟩,
    ⟨some 5, .mov (.c (.v (.int .i64 0))), none⟩])
  (.seq (.seq (.ops [⟨some 11, .mov (.t 0), none⟩,
    ⟨some 12, .mov (.t 1), none⟩,
    ⟨some 13, .call 22 [(.t 11), (.t 12)], none⟩,
    ⟨some 6, .mov (.t 13), none⟩])
  (.seq (.ops [⟨some 14, .mov (.t 6), none⟩,
    ⟨some 15, .bin .neq false (.t 14) (.c (.v (.int .i64 0))), none⟩])
  (.cond (.t 15)
    (.seq (.ops [⟨some 16, .mov (.t 6), none⟩,
      ⟨some 4, .mov (.c (.v (.slice none 0 0))), none⟩,
      ⟨some 5, .mov (.t 16), none⟩])
    .ret)
    .skip)))
  (.seq (.ops [⟨some 7, .alloc (.agg [(.v (.slice none 0 0)), (.v (.int .i64 0))]), none⟩])
  (.seq (.seq (.ops [⟨some 17, .mov (.t 0), none⟩,
    ⟨some 18, .call 29 [(.t 17), (.c (.fn (.func 30) [] []))], none⟩,
    ⟨some 19, .len false (.t 18), none⟩,
    ⟨some 20, .mov (.c (.v (.int .i64 0))), none⟩])
  (.block 0 (.loop
    (.seq (.ops [⟨some 21, .bin .lss false (.t 20) (.t 19), none⟩])
    (.seq (.cond (.t 21)
      .skip
      (.exit 0))
    (.seq (.block 1 (.seq (.ops [⟨some 22, .mov (.t 20), none⟩,
      ⟨some 23, .iaddr 1 (.t 18) (.t 20), none⟩,
      ⟨some 24, .load 1 false (.t 23), none⟩,
      ⟨some 8, .mov (.t 22), none⟩,
      ⟨some 9, .mov (.t 24), none⟩])
    (.drawF [([], [⟨some 26, .load 2 true (.t 7), none⟩,
        ⟨some 27, .mov (.t 1), none⟩,
        ⟨some 28, .mov (.t 8), none⟩,
        ⟨some 29, .iaddr 1 (.t 27) (.t 28), none⟩,
        ⟨some 30, .load 1 false (.t 29), none⟩,
        ⟨some 31, .mov (.t 0), none⟩,
        ⟨some 32, .mov (.t 8), none⟩,
        ⟨some 33, .iaddr 2 (.t 31) (.t 32), none⟩,
        ⟨some 34, .faddr 0 (.t 33), none⟩,
        ⟨some 35, .load 1 false (.t 34), none⟩,
        ⟨some 36, .bin .sub false (.t 30) (.t 35), none⟩,
        ⟨some 37, .conv .u64 (.t 36), none⟩,
        ⟨some 38, .mov (.t 9), none⟩]),
      ([], [⟨some 39, .call 31 [(.t 26), (.t 37), (.t 38)], none⟩]),
      ([], [⟨some 25, .mov (.t 39), none⟩]),
      ([1], [⟨some 40, .extract (.t 25) 0, none⟩,
        ⟨some 41, .extract (.t 25) 1, none⟩,
        ⟨none, .store 2 (.t 7) (.t 40), none⟩])])))
    (.ops [⟨some 42, .bin .add false (.t 20) (.c (.v (.int .i64 1))), none⟩,
      ⟨some 20, .mov (.t 42), none⟩])))))))
  (.seq (.ops [⟨some 43, .mov (.t 0), none⟩,
    ⟨some 44, .call 20 [(.t 43)], none⟩,
    ⟨some 45, .mksl 1 1 [(.v (.int .u8 0))] (.t 44) (.t 44), none⟩,
    ⟨some 10, .mov (.t 45), none⟩])
  (.seq (.ops [⟨some 46, .mov (.t 10), none⟩,
    ⟨some 47, .faddr 0 (.t 7), none⟩,
    ⟨some 48, .load 1 false (.t 47), none⟩,
    ⟨some 49, .copy 1 (.t 46) (.t 48), none⟩])
  (.seq (.ops [⟨some 50, .mov (.t 10), none⟩,
    ⟨some 4, .mov (.t 50), none⟩,
    ⟨some 5, .mov (.c (.v (.int .i64 0))), none⟩])
  .ret)))))))⟩ := by kernel_rfl

theorem ir13 : compF Try.prog 13 = some ⟨59, [.t 4, .t 5],
  (.seq (.ops [⟨some 4, .mov (.c (.v (.slice none 0 0))), none⟩,
    ⟨some 5, .mov (.c (.v (.int .i64 0))), none⟩])
  (.seq (.ops [⟨some 12, .mov (.t 0), none⟩,
    ⟨some 13, .mov (.t 1), none⟩,
    ⟨some 14, .call 23 [(.t 12), (.t 13)], none⟩,
    ⟨some 6, .mov (.t 14), none⟩])
  (.seq (.seq (.ops [⟨some 15, .mov (.t 6), none⟩,
    ⟨some 16, .bin .neq false (.t 15) (.c (.v (.int .i64 0))), none⟩])
  (.cond (.t 16)
    (.seq (.ops [⟨some 17, .mov (.t 6), none⟩,
      ⟨some 4, .mov (.c (.v (.slice none 0 0))), none⟩,
      ⟨some 5, .mov (.t 17), none⟩])
    .ret)
    .skip))
  (.seq (.ops [⟨some 7, .alloc (.agg [(.v (.slice none 0 0)), (.v (.int .i64 0))]), none⟩])
  (.seq (.seq (.ops [⟨some 8, .mov (.c (.v (.int .i64 0))), none⟩])
  (.block 0 (.loop
    (.seq (.seq (.ops [⟨some 18, .mov (.t 8), none⟩,
      ⟨some 19, .mov (.t 1), none⟩,
      ⟨some 20, .len false (.t 19), none⟩,
      ⟨some 21, .bin .lss false (.t 18) (.t 20), none⟩])
    (.cond (.t 21)
      .skip
      (.exit 0)))
    (.seq (.block 1 (.seq (.draw [[⟨some 25, .load 2 true (.t 7), none⟩,
        ⟨some 26, .mov (.t 1), none⟩,
        ⟨some 27, .mov (.t 8), none⟩,
        ⟨some 28, .iaddr 1 (.t 26) (.t 27), none⟩,
        ⟨some 29, .load 1 false (.t 28), none⟩,
        ⟨some 30, .mov (.t 0), none⟩,
        ⟨some 31, .mov (.t 8), none⟩,
        ⟨some 32, .iaddr 2 (.t 30) (.t 31), none⟩,
        ⟨some 33, .faddr 0 (.t 32), none⟩,
        ⟨some 34, .load 1 false (.t 33), none⟩,
        ⟨some 35, .bin .sub false (.t 29) (.t 34), none⟩,
        ⟨some 36, .conv .u64 (.t 35), none⟩,
        ⟨some 37, .mov (.t 0), none⟩,
        ⟨some 38, .mov (.t 8), none⟩,
        ⟨some 39, .iaddr 2 (.t 37) (.t 38), none⟩,
        ⟨some 40, .load 2 true (.t 39), none⟩,
        ⟨some 41, .call 17 [(.t 40)], none⟩,
        ⟨some 42, .call 32 [(.t 25), (.t 36), (.t 41)], none⟩,
        ⟨some 24, .mov (.t 42), none⟩,
        ⟨some 43, .extract (.t 24) 0, none⟩,
        ⟨some 44, .extract (.t 24) 1, none⟩,
        ⟨some 9, .alloc (.agg [(.v (.slice none 0 0)), (.v (.int .i64 0))]), none⟩,
        ⟨none, .store 2 (.t 9) (.t 43), none⟩],
      [⟨some 10, .mov (.t 44), none⟩]])
    (.ops [⟨some 45, .load 2 true (.t 9), none⟩,
      ⟨none, .store 2 (.t 7) (.t 45), none⟩])))
    (.ops [⟨some 22, .mov (.t 8), none⟩,
      ⟨some 23, .bin .add false (.t 22) (.c (.v (.int .i64 1))), none⟩,
      ⟨some 8, .mov (.t 23), none⟩]))))))
  (.seq (.ops [⟨some 46, .bslice 1 [(.v (.int .u8 0))] 0 [], none⟩,
    ⟨some 47, .faddr 0 (.t 7), none⟩,
    ⟨some 48, .load 1 false (.t 47), none⟩,
    ⟨some 49, .append 1 1 [(.v (.int .u8 0))] (.t 46) (.t 48), none⟩,
    ⟨some 11, .mov (.t 49), none⟩])
  (.seq (.block 2 (.loop
    (.seq (.seq (.ops [⟨some 50, .mov (.t 11), none⟩,
      ⟨some 51, .len false (.t 50), none⟩,
      ⟨some 52, .mov (.t 0), none⟩,
      ⟨some 53, .call 21 [(.t 52)], none⟩,
      ⟨some 54, .bin .lss false (.t 51) (.t 53), none⟩])
    (.cond (.t 54)
      .skip
      (.exit 2)))
    (.block 3 (.ops [⟨some 55, .mov (.t 11), none⟩,
      ⟨some 56, .bslice 1 [(.v (.int .u8 0))] 1 [(0, 1, (.c (.v (.int .u8 0))))], none⟩,
      ⟨some 57, .append 1 1 [(.v (.int .u8 0))] (.t 55) (.t 56), none⟩,
      ⟨some 11, .mov (.t 57), none⟩])))))
  (.seq (.ops [⟨some 58, .mov (.t 11), none⟩,
    ⟨some 4, .mov (.t 58), none⟩,
    ⟨some 5, .mov (.c (.v (.int .i64 0))), none⟩])
  .ret))))))))⟩ := by kernel_rfl

theorem ir14 : compF Try.prog 14 = some ⟨70, [.t 4, .t 5],
  (.seq (.ops [⟨some 4, .mov (.c (.v (.slice none 0 0))), none⟩,
    ⟨some 5, .mov (.c (.v (.int .i64 0))), none⟩])
  (.seq (.seq (.ops [⟨some 15, .mov (.t 1), none⟩,
    ⟨some 16, .len false (.t 15), none⟩,
    ⟨some 17, .mov (.t 0), none⟩,
    ⟨some 18, .call 20 [(.t 17)], none⟩,
    ⟨some 19, .bin .neq false (.t 16) (.t 18), none⟩])
  (.cond (.t 19)
    (.seq (.ops [⟨some 4, .mov (.c (.v (.slice none 0 0))), none⟩,
      ⟨some 5, .mov (.c (.v (.int .i64 2))), none⟩])
    .ret)
    .skip))
  (.seq (.ops [⟨some 20, .mov (.t 1), none⟩,
    ⟨some 21, .mov (.t 1), none⟩,
    ⟨some 22, .len false (.t 21), none⟩,
    ⟨some 23, .bin .mul false (.c (.v (.int .i64 8))) (.t 22), none⟩,
    ⟨some 24, .build [(.v (.slice none 0 0)), (.v (.int .i64 0))] [(0, 1, (.t 20)), (1, 1, (.t 23))], none⟩,
    ⟨some 6, .alloc (.agg [(.v (.slice none 0 0)), (.v (.int .i64 0))]), none⟩,
    ⟨none, .store 2 (.t 6) (.t 24), none⟩])
  (.seq (.ops [⟨some 7, .mov (.c (.v (.int .i64 0))), none⟩])
  (.seq (.ops [⟨some 8, .mov (.c (.v (.slice none 0 0))), none⟩])
  (.seq (.seq (.ops [⟨some 25, .mov (.t 0), none⟩,
    ⟨some 26, .call 29 [(.t 25), (.c (.fn (.func 30) [] []))], none⟩,
    ⟨some 27, .len false (.t 26), none⟩,
    ⟨some 28, .mov (.c (.v (.int .i64 0))), none⟩])
  (.block 0 (.loop
    (.seq (.ops [⟨some 29, .bin .lss false (.t 28) (.t 27), none⟩])
    (.seq (.cond (.t 29)
      .skip
      (.exit 0))
    (.seq (.block 1 (.seq (.ops [⟨some 30, .mov (.t 28), none⟩,
      ⟨some 31, .iaddr 1 (.t 26) (.t 28), none⟩,
      ⟨some 32, .load 1 false (.t 31), none⟩,
      ⟨some 9, .mov (.t 30), none⟩,
      ⟨some 10, .mov (.t 32), none⟩])
    (.seq (.ops [⟨some 34, .load 2 true (.t 6), none⟩,
      ⟨some 35, .mov (.t 7), none⟩,
      ⟨some 36, .mov (.t 10), none⟩,
      ⟨some 37, .call 33 [(.t 34), (.t 35), (.t 36)], none⟩,
      ⟨some 33, .mov (.t 37), none⟩,
      ⟨some 38, .extract (.t 33) 0, none⟩,
      ⟨some 39, .extract (.t 33) 1, none⟩,
      ⟨some 11, .mov (.t 38), none⟩,
      ⟨some 12, .mov (.t 39), none⟩])
    (.seq (.ops [⟨some 40, .mov (.t 8), none⟩,
      ⟨some 41, .mov (.t 0), none⟩,
      ⟨some 42, .mov (.t 9), none⟩,
      ⟨some 43, .iaddr 2 (.t 41) (.t 42), none⟩,
      ⟨some 44, .faddr 0 (.t 43), none⟩,
      ⟨some 45, .load 1 false (.t 44), none⟩,
      ⟨some 46, .mov (.t 11), none⟩,
      ⟨some 47, .conv .i64 (.t 46), none⟩,
      ⟨some 48, .bin .add false (.t 45) (.t 47), none⟩,
      ⟨some 49, .bslice 1 [(.v (.int .i64 0))] 1 [(0, 1, (.t 48))], none⟩,
      ⟨some 50, .append 1 8 [(.v (.int .i64 0))] (.t 40) (.t 49), none⟩,
      ⟨some 8, .mov (.t 50), none⟩])
    (.ops [⟨some 51, .mov (.t 7), none⟩,
      ⟨some 52, .mov (.t 10), none⟩,
      ⟨some 53, .bin .add false (.t 51) (.t 52), none⟩,
      ⟨some 7, .mov (.t 53), none⟩])))))
    (.ops [⟨some 54, .bin .add false (.t 28) (.c (.v (.int .i64 1))), none⟩,
      ⟨some 28, .mov (.t 54), none⟩])))))))
  (.seq (.ops [⟨some 56, .mov (.t 0), none⟩,
    ⟨some 57, .mov (.t 8), none⟩,
    ⟨some 58, .call 12 [(.t 56), (.t 57)], none⟩,
    ⟨some 55, .mov (.t 58), none⟩,
    ⟨some 59, .extract (.t 55) 0, none⟩,
    ⟨some 60, .extract (.t 55) 1, none⟩,
    ⟨some 13, .mov (.t 59), none⟩,
    ⟨some 14, .mov (.t 60), none⟩])
  (.seq (.seq (.ops [⟨some 61, .mov (.t 14), none⟩,
    ⟨some 62, .bin .neq false (.t 61) (.c (.v (.int .i64 0))), none⟩,
    ⟨some 63, .mov (.t 62), none⟩,
    ⟨some 64, .mov (.t 1), some (63, false)⟩,
    ⟨some 65, .mov (.t 13), some (63, false)⟩,
    ⟨some 66, .call 34 [(.t 64), (.t 65)], some (63, false)⟩,
    ⟨some 67, .un .not (.t 66), some (63, false)⟩,
    ⟨some 68, .pick (.t 63) (.c (.v (.bool true))) (.t 67), none⟩])
  (.cond (.t 68)
    (.seq (.ops [⟨some 4, .mov (.c (.v (.slice none 0 0))), none⟩,
      ⟨some 5, .mov (.c (.v (.int .i64 2))), none⟩])
    .ret)
    .skip))
  (.seq (.ops [⟨some 69, .mov (.t 8), none⟩,
    ⟨some 4, .mov (.t 69), none⟩,
    ⟨some 5, .mov (.c (.v (.int .i64 0))), none⟩])
  .ret)))))))))⟩ := by kernel_rfl

theorem ir15 : compF Try.prog 15 = some ⟨73, [.t 4, .t 5],
  (.seq (.ops [⟨some 4, .mov (.c (.v (.slice none 0 0))), none⟩,
    ⟨some 5, .mov (.c (.v (.int .i64 0))), none⟩])
  (.seq (.seq (.ops [⟨some 13, .mov (.t 1), none⟩,
    ⟨some 14, .len false (.t 13), none⟩,
    ⟨some 15, .mov (.t 0), none⟩,
    ⟨some 16, .call 21 [(.t 15)], none⟩,
    ⟨some 17, .bin .neq false (.t 14) (.t 16), none⟩])
  (.cond (.t 17)
    (.seq (.ops [⟨some 4, .mov (.c (.v (.slice none 0 0))), none⟩,
      ⟨some 5, .mov (.c (.v (.int .i64 2))), none⟩])
    .ret)
    .skip))
  (.seq (.ops [⟨some 6, .mov (.c (.v (.int .i64 0))), none⟩])
  (.seq (.ops [⟨some 7, .mov (.c (.v (.slice none 0 0))), none⟩])
  (.seq (.seq (.ops [⟨some 8, .mov (.c (.v (.int .i64 0))), none⟩])
  (.block 0 (.loop
    (.seq (.seq (.ops [⟨some 18, .mov (.t 8), none⟩,
      ⟨some 19, .mov (.t 0), none⟩,
      ⟨some 20, .len false (.t 19), none⟩,
      ⟨some 21, .bin .lss false (.t 18) (.t 20), none⟩])
    (.cond (.t 21)
      .skip
      (.exit 0)))
    (.seq (.block 1 (.seq (.ops [⟨some 25, .mov (.t 1), none⟩,
      ⟨some 26, .mov (.t 1), none⟩,
      ⟨some 27, .len false (.t 26), none⟩,
      ⟨some 28, .bin .mul false (.c (.v (.int .i64 8))) (.t 27), none⟩,
      ⟨some 29, .build [(.v (.slice none 0 0)), (.v (.int .i64 0))] [(0, 1, (.t 25)), (1, 1, (.t 28))], none⟩,
      ⟨some 30, .mov (.t 6), none⟩,
      ⟨some 31, .mov (.t 0), none⟩,
      ⟨some 32, .mov (.t 8), none⟩,
      ⟨some 33, .iaddr 2 (.t 31) (.t 32), none⟩,
      ⟨some 34, .load 2 true (.t 33), none⟩,
      ⟨some 35, .call 17 [(.t 34)], none⟩,
      ⟨some 36, .call 35 [(.t 29), (.t 30), (.t 35)], none⟩,
      ⟨some 24, .mov (.t 36), none⟩,
      ⟨some 37, .extract (.t 24) 0, none⟩,
      ⟨some 38, .extract (.t 24) 1, none⟩,
      ⟨some 9, .mov (.t 37), none⟩,
      ⟨some 10, .mov (.t 38), none⟩])
    (.seq (.ops [⟨some 39, .mov (.t 7), none⟩,
      ⟨some 40, .mov (.t 0), none⟩,
      ⟨some 41, .mov (.t 8), none⟩,
      ⟨some 42, .iaddr 2 (.t 40) (.t 41), none⟩,
      ⟨some 43, .faddr 0 (.t 42), none⟩,
      ⟨some 44, .load 1 false (.t 43), none⟩,
      ⟨some 45, .mov (.t 9), none⟩,
      ⟨some 46, .conv .i64 (.t 45), none⟩,
      ⟨some 47, .bin .add false (.t 44) (.t 46), none⟩,
      ⟨some 48, .bslice 1 [(.v (.int .i64 0))] 1 [(0, 1, (.t 47))], none⟩,
      ⟨some 49, .append 1 8 [(.v (.int .i64 0))] (.t 39) (.t 48), none⟩,
      ⟨some 7, .mov (.t 49), none⟩])
    (.ops [⟨some 50, .mov (.t 6), none⟩,
      ⟨some 51, .mov (.t 0), none⟩,
      ⟨some 52, .mov (.t 8), none⟩,
      ⟨some 53, .iaddr 2 (.t 51) (.t 52), none⟩,
      ⟨some 54, .load 2 true (.t 53), none⟩,
      ⟨some 55, .call 17 [(.t 54)], none⟩,
      ⟨some 56, .bin .add false (.t 50) (.t 55), none⟩,
      ⟨some 6, .mov (.t 56), none⟩]))))
    (.ops [⟨some 22, .mov (.t 8), none⟩,
      ⟨some 23, .bin .add false (.t 22) (.c (.v (.int .i64 1))), none⟩,
      ⟨some 8, .mov (.t 23), none⟩]))))))
  (.seq (.ops [⟨some 58, .mov (.t 0), none⟩,
    ⟨some 59, .mov (.t 7), none⟩,
    ⟨some 60, .call 13 [(.t 58), (.t 59)], none⟩,
    ⟨some 57, .mov (.t 60), none⟩,
    ⟨some 61, .extract (.t 57) 0, none⟩,
    ⟨some 62, .extract (.t 57) 1, none⟩,
    ⟨some 11, .mov (.t 61), none⟩,
    ⟨some 12, .mov (.t 62), none⟩])
  (.seq (.seq (.ops [⟨some 63, .mov (.t 12), none⟩,
    ⟨some 64, .bin .neq false (.t 63) (.c (.v (.int .i64 0))), none⟩,
    ⟨some 65, .mov (.t 64), none⟩,
    ⟨some 66, .mov (.t 11), some (65, false)⟩,
    ⟨some 67, .b2s (.t 66), some (65, false)⟩,
    ⟨some 68, .mov (.t 1), some (65, false)⟩,
    ⟨some 69, .b2s (.t 68), some (65, false)⟩,
    ⟨some 70, .bin .neq false (.t 67) (.t 69), some (65, false)⟩,
    ⟨some 71, .pick (.t 65) (.c (.v (.bool true))) (.t 70), none⟩])
  (.cond (.t 71)
    (.seq (.ops [⟨some 4, .mov (.c (.v (.slice none 0 0))), none⟩,
      ⟨some 5, .mov (.c (.v (.int .i64 2))), none⟩])
    .ret)
    .skip))
  (.seq (.ops [⟨some 72, .mov (.t 7), none⟩,
    ⟨some 4, .mov (.t 72), none⟩,
    ⟨some 5, .mov (.c (.v (.int .i64 0))), none⟩])
  .ret))))))))⟩ := by kernel_rfl

theorem ir16 : compF Try.prog 16 = some ⟨5, [.t 2],
  (.seq (.ops [⟨some 1, .box (.t 0), none⟩,
    ⟨some 2, .mov (.c (.v (.int .i64 0))), none⟩])
  (.seq (.ops [⟨some 3, .load 2 true (.t 1), none⟩,
    ⟨some 4, .call 30 [(.t 3)], none⟩,
    ⟨some 2, .mov (.t 4), none⟩])
  .ret))⟩ := by kernel_rfl

theorem ir17 : compF Try.prog 17 = some ⟨17, [.t 2],
  (.seq (.ops [⟨some 1, .box (.t 0), none⟩,
    ⟨some 2, .mov (.c (.v (.int .i64 0))), none⟩])
  (.seq (.ops [⟨some 3, .mov (.c (.v (.int .i64 0))), none⟩])
  (.seq (.seq (.ops [⟨some 5, .faddr 1 (.t 1), none⟩,
    ⟨some 6, .load 1 false (.t 5), none⟩,
    ⟨some 7, .faddr 0 (.t 1), none⟩,
    ⟨some 8, .load 1 false (.t 7), none⟩,
    ⟨some 9, .bin .sub false (.t 6) (.t 8), none⟩,
    ⟨some 4, .mov (.t 9), none⟩])
  (.block 0 (.loop
    (.seq (.seq (.ops [⟨some 10, .mov (.t 4), none⟩,
      ⟨some 11, .bin .gtr false (.t 10) (.c (.v (.int .i64 0))), none⟩])
    (.cond (.t 11)
      .skip
      (.exit 0)))
    (.seq (.block 1 (.ops [⟨some 14, .mov (.t 3), none⟩,
      ⟨some 15, .bin .add false (.t 14) (.c (.v (.int .i64 1))), none⟩,
      ⟨some 3, .mov (.t 15), none⟩]))
    (.ops [⟨some 12, .mov (.t 4), none⟩,
      ⟨some 13, .bin .quo false (.t 12) (.c (.v (.int .i64 2))), none⟩,
      ⟨some 4, .mov (.t 13), none⟩]))))))
  (.seq (.ops [⟨some 16, .mov (.t 3), none⟩,
    ⟨some 2, .mov (.t 16), none⟩])
  .ret))))⟩ := by kernel_rfl

theorem ir18 : compF Try.prog 18 = some ⟨18, [.t 2],
  (.seq (.ops [⟨some 2, .mov (.c (.v (.int .i64 0))), none⟩])
  (.seq (.ops [⟨some 3, .mov (.c (.v (.int .i64 0))), none⟩])
  (.seq (.seq (.ops [⟨some 6, .mov (.t 0), none⟩,
    ⟨some 7, .call 29 [(.t 6), (.c (.fn (.func 30) [] []))], none⟩,
    ⟨some 8, .len false (.t 7), none⟩,
    ⟨some 9, .mov (.c (.v (.int .i64 0))), none⟩])
  (.block 0 (.loop
    (.seq (.ops [⟨some 10, .bin .lss false (.t 9) (.t 8), none⟩])
    (.seq (.cond (.t 10)
      .skip
      (.exit 0))
    (.seq (.block 1 (.seq (.ops [⟨some 11, .iaddr 1 (.t 7) (.t 9), none⟩,
      ⟨some 12, .load 1 false (.t 11), none⟩,
      ⟨some 5, .mov (.t 12), none⟩])
    (.ops [⟨some 13, .mov (.t 3), none⟩,
      ⟨some 14, .mov (.t 5), none⟩,
      ⟨some 15, .bin .add false (.t 13) (.t 14), none⟩,
      ⟨some 3, .mov (.t 15), none⟩])))
    (.ops [⟨some 16, .bin .add false (.t 9) (.c (.v (.int .i64 1))), none⟩,
      ⟨some 9, .mov (.t 16), none⟩])))))))
  (.seq (.ops [⟨some 17, .mov (.t 3), none⟩,
    ⟨some 2, .mov (.t 17), none⟩])
  .ret))))⟩ := by kernel_rfl

theorem ir19 : compF Try.prog 19 = some ⟨19, [.t 2],
  (.seq (.ops [⟨some 2, .mov (.c (.v (.int .i64 0))), none⟩])
  (.seq (.ops [⟨some 3, .mov (.c (.v (.int .i64 0))), none⟩])
  (.seq (.seq (.ops [⟨some 4, .mov (.c (.v (.int .i64 0))), none⟩])
  (.block 0 (.loop
    (.seq (.seq (.ops [⟨some 5, .mov (.t 4), none⟩,
      ⟨some 6, .mov (.t 0), none⟩,
      ⟨some 7, .len false (.t 6), none⟩,
      ⟨some 8, .bin .lss false (.t 5) (.t 7), none⟩])
    (.cond (.t 8)
      .skip
      (.exit 0)))
    (.seq (.block 1 (.ops [⟨some 11, .mov (.t 3), none⟩,
      ⟨some 12, .mov (.t 0), none⟩,
      ⟨some 13, .mov (.t 4), none⟩,
      ⟨some 14, .iaddr 2 (.t 12) (.t 13), none⟩,
      ⟨some 15, .load 2 true (.t 14), none⟩,
      ⟨some 16, .call 17 [(.t 15)], none⟩,
      ⟨some 17, .bin .add false (.t 11) (.t 16), none⟩,
      ⟨some 3, .mov (.t 17), none⟩]))
    (.ops [⟨some 9, .mov (.t 4), none⟩,
      ⟨some 10, .bin .add false (.t 9) (.c (.v (.int .i64 1))), none⟩,
      ⟨some 4, .mov (.t 10), none⟩]))))))
  (.seq (.ops [⟨some 18, .mov (.t 3), none⟩,
    ⟨some 2, .mov (.t 18), none⟩])
  .ret))))⟩ := by kernel_rfl

theorem ir20 : compF Try.prog 20 = some ⟨8, [.t 2],
  (.seq (.ops [⟨some 2, .mov (.c (.v (.int .i64 0))), none⟩])
  (.seq (.ops [⟨some 3, .mov (.t 0), none⟩,
    ⟨some 4, .call 18 [(.t 3)], none⟩,
    ⟨some 5, .bin .add false (.t 4) (.c (.v (.int .i64 7))), none⟩,
    ⟨some 6, .bin .quo false (.t 5) (.c (.v (.int .i64 8))), none⟩,
    ⟨some 7, .mm true (.c (.v (.int .i64 1))) [(.t 6)], none⟩,
    ⟨some 2, .mov (.t 7), none⟩])
  .ret))⟩ := by kernel_rfl

theorem ir21 : compF Try.prog 21 = some ⟨11, [.t 2],
  (.seq (.ops [⟨some 2, .mov (.c (.v (.int .i64 0))), none⟩])
  (.seq (.ops [⟨some 4, .mov (.t 0), none⟩,
    ⟨some 5, .call 19 [(.t 4)], none⟩,
    ⟨some 3, .mov (.t 5), none⟩])
  (.seq (.seq (.ops [⟨some 6, .mov (.t 3), none⟩,
    ⟨some 7, .bin .eql false (.t 6) (.c (.v (.int .i64 0))), none⟩])
  (.cond (.t 7)
    (.seq (.ops [⟨some 2, .mov (.c (.v (.int .i64 1))), none⟩])
    .ret)
    .skip))
  (.seq (.ops [⟨some 8, .mov (.t 3), none⟩,
    ⟨some 9, .bin .add false (.t 8) (.c (.v (.int .i64 7))), none⟩,
    ⟨some 10, .bin .quo false (.t 9) (.c (.v (.int .i64 8))), none⟩,
    ⟨some 2, .mov (.t 10), none⟩])
  .ret))))⟩ := by kernel_rfl

theorem ir22 : compF Try.prog 22 = some ⟨27, [.t 4],
  (.seq (.ops [⟨some 4, .mov (.c (.v (.int .i64 0))), none⟩])
  (.seq (.seq (.ops [⟨some 7, .mov (.t 1), none⟩,
    ⟨some 8, .len false (.t 7), none⟩,
    ⟨some 9, .mov (.t 0), none⟩,
    ⟨some 10, .len false (.t 9), none⟩,
    ⟨some 11, .bin .neq false (.t 8) (.t 10), none⟩])
  (.cond (.t 11)
    (.seq (.ops [⟨some 4, .mov (.c (.v (.int .i64 1))), none⟩])
    .ret)
    .skip))
  (.seq (.seq (.ops [⟨some 12, .mov (.t 1), none⟩,
    ⟨some 13, .len false (.t 12), none⟩,
    ⟨some 14, .mov (.c (.v (.int .i64 0))), none⟩])
  (.block 0 (.loop
    (.seq (.ops [⟨some 15, .bin .lss false (.t 14) (.t 13), none⟩])
    (.seq (.cond (.t 15)
      .skip
      (.exit 0))
    (.seq (.block 1 (.seq (.ops [⟨some 16, .mov (.t 14), none⟩,
      ⟨some 17, .iaddr 1 (.t 12) (.t 14), none⟩,
      ⟨some 18, .load 1 false (.t 17), none⟩,
      ⟨some 5, .mov (.t 16), none⟩,
      ⟨some 6, .mov (.t 18), none⟩])
    (.seq (.ops [⟨some 19, .mov (.t 0), none⟩,
      ⟨some 20, .mov (.t 5), none⟩,
      ⟨some 21, .iaddr 2 (.t 19) (.t 20), none⟩,
      ⟨some 22, .load 2 true (.t 21), none⟩,
      ⟨some 23, .mov (.t 6), none⟩,
      ⟨some 24, .call 36 [(.t 22), (.t 23)], none⟩,
      ⟨some 25, .un .not (.t 24), none⟩])
    (.cond (.t 25)
      (.seq (.ops [⟨some 4, .mov (.c (.v (.int .i64 5))), none⟩])
      .ret)
      .skip))))
    (.ops [⟨some 26, .bin .add false (.t 14) (.c (.v (.int .i64 1))), none⟩,
      ⟨some 14, .mov (.t 26), none⟩])))))))
  (.seq (.ops [⟨some 4, .mov (.c (.v (.int .i64 0))), none⟩])
  .ret))))⟩ := by kernel_rfl

theorem ir23 : compF Try.prog 23 = some ⟨39, [.t 4],
  (.seq (.ops [⟨some 4, .mov (.c (.v (.int .i64 0))), none⟩])
  (.seq (.seq (.ops [⟨some 6, .mov (.t 1), none⟩,
    ⟨some 7, .len false (.t 6), none⟩,
    ⟨some 8, .mov (.t 0), none⟩,
    ⟨some 9, .len false (.t 8), none⟩,
    ⟨some 10, .bin .neq false (.t 7) (.t 9), none⟩])
  (.cond (.t 10)
    (.seq (.ops [⟨some 4, .mov (.c (.v (.int .i64 1))), none⟩])
    .ret)
    .skip))
  (.seq (.seq (.ops [⟨some 5, .mov (.c (.v (.int .i64 0))), none⟩])
  (.block 0 (.loop
    (.seq (.seq (.ops [⟨some 11, .mov (.t 5), none⟩,
      ⟨some 12, .mov (.t 1), none⟩,
      ⟨some 13, .len false (.t 12), none⟩,
      ⟨some 14, .bin .lss false (.t 11) (.t 13), none⟩])
    (.cond (.t 14)
      .skip
      (.exit 0)))
    (.seq (.block 1 (.seq (.draw [[⟨some 17, .mov (.t 1), none⟩,
        ⟨some 18, .mov (.t 5), none⟩,
        ⟨some 19, .iaddr 1 (.t 17) (.t 18), none⟩,
        ⟨some 20, .load 1 false (.t 19), none⟩,
        ⟨some 21, .mov (.t 0), none⟩,
        ⟨some 22, .mov (.t 5), none⟩,
        ⟨some 23, .iaddr 2 (.t 21) (.t 22), none⟩,
        ⟨some 24, .faddr 0 (.t 23), none⟩,
        ⟨some 25, .load 1 false (.t 24), none⟩],
      [⟨some 26, .bin .lss false (.t 20) (.t 25), none⟩],
      [⟨some 27, .mov (.t 26), none⟩],
      [⟨some 28, .mov (.t 1), some (27, false)⟩,
        ⟨some 29, .mov (.t 5), some (27, false)⟩,
        ⟨some 30, .iaddr 1 (.t 28) (.t 29), some (27, false)⟩,
        ⟨some 31, .load 1 false (.t 30), some (27, false)⟩,
        ⟨some 32, .mov (.t 0), some (27, false)⟩,
        ⟨some 33, .mov (.t 5), some (27, false)⟩,
        ⟨some 34, .iaddr 2 (.t 32) (.t 33), some (27, false)⟩,
        ⟨some 35, .faddr 1 (.t 34), some (27, false)⟩,
        ⟨some 36, .load 1 false (.t 35), some (27, false)⟩],
      [⟨some 37, .bin .gtr false (.t 31) (.t 36), some (27, false)⟩],
      [⟨some 38, .pick (.t 27) (.c (.v (.bool true))) (.t 37), none⟩]])
    (.cond (.t 38)
      (.seq (.ops [⟨some 4, .mov (.c (.v (.int .i64 5))), none⟩])
      .ret)
      .skip)))
    (.ops [⟨some 15, .mov (.t 5), none⟩,
      ⟨some 16, .bin .add false (.t 15) (.c (.v (.int .i64 1))), none⟩,
      ⟨some 5, .mov (.t 16), none⟩]))))))
  (.seq (.ops [⟨some 4, .mov (.c (.v (.int .i64 0))), none⟩])
  .ret))))⟩ := by kernel_rfl

theorem ir24 : compF Try.prog 24 = some ⟨26, [.t 4],
  (.seq (.ops [⟨some 4, .mov (.c (.v (.bool false))), none⟩])
  (.seq (.seq (.ops [⟨some 6, .mov (.t 0), none⟩,
    ⟨some 7, .len false (.t 6), none⟩,
    ⟨some 8, .mov (.t 1), none⟩,
    ⟨some 9, .len false (.t 8), none⟩,
    ⟨some 10, .bin .neq false (.t 7) (.t 9), none⟩])
  (.cond (.t 10)
    (.seq (.ops [⟨some 4, .mov (.c (.v (.bool false))), none⟩])
    .ret)
    .skip))
  (.seq (.seq (.ops [⟨some 5, .mov (.c (.v (.int .i64 0))), none⟩])
  (.block 0 (.loop
    (.seq (.seq (.ops [⟨some 11, .mov (.t 5), none⟩,
      ⟨some 12, .mov (.t 0), none⟩,
      ⟨some 13, .len false (.t 12), none⟩,
      ⟨some 14, .bin .lss false (.t 11) (.t 13), none⟩])
    (.cond (.t 14)
      .skip
      (.exit 0)))
    (.seq (.block 1 (.seq (.draw [[⟨some 17, .mov (.t 0), none⟩,
        ⟨some 18, .mov (.t 5), none⟩,
        ⟨some 19, .iaddr 1 (.t 17) (.t 18), none⟩,
        ⟨some 20, .load 1 false (.t 19), none⟩,
        ⟨some 21, .mov (.t 1), none⟩,
        ⟨some 22, .mov (.t 5), none⟩,
        ⟨some 23, .iaddr 1 (.t 21) (.t 22), none⟩,
        ⟨some 24, .load 1 false (.t 23), none⟩],
      [⟨some 25, .bin .neq false (.t 20) (.t 24), none⟩]])
    (.cond (.t 25)
      (.seq (.ops [⟨some 4, .mov (.c (.v (.bool false))), none⟩])
      .ret)
      .skip)))
    (.ops [⟨some 15, .mov (.t 5), none⟩,
      ⟨some 16, .bin .add false (.t 15) (.c (.v (.int .i64 1))), none⟩,
      ⟨some 5, .mov (.t 16), none⟩]))))))
  (.seq (.ops [⟨some 4, .mov (.c (.v (.bool true))), none⟩])
  .ret))))⟩ := by kernel_rfl

theorem ir25 : compF Try.prog 25 = some ⟨25, [.t 4],
  (.seq (.ops [⟨some 2, .box (.t 0), none⟩,
    ⟨some 4, .mov (.c (.v (.int .i64 0))), none⟩])
  (.seq (.ops [⟨some 7, .faddr 0 (.t 2), none⟩,
    ⟨some 8, .load 1 false (.t 7), none⟩,
    ⟨some 9, .mov (.t 1), none⟩,
    ⟨some 10, .bin .quo false (.t 9) (.c (.v (.int .i64 8))), none⟩,
    ⟨some 11, .iaddr 1 (.t 8) (.t 10), none⟩,
    ⟨some 12, .load 1 false (.t 11), none⟩,
    ⟨some 13, .conv .i64 (.t 12), none⟩,
    ⟨some 5, .mov (.t 13), none⟩])
  (.seq (.seq (.ops [⟨some 6, .mov (.c (.v (.int .i64 0))), none⟩])
  (.block 0 (.loop
    (.seq (.seq (.ops [⟨some 14, .mov (.t 6), none⟩,
      ⟨some 15, .mov (.t 1), none⟩,
      ⟨some 16, .bin .rem false (.t 15) (.c (.v (.int .i64 8))), none⟩,
      ⟨some 17, .bin .sub false (.c (.v (.int .i64 7))) (.t 16), none⟩,
      ⟨some 18, .bin .lss false (.t 14) (.t 17), none⟩])
    (.cond (.t 18)
      .skip
      (.exit 0)))
    (.seq (.block 1 (.ops [⟨some 21, .mov (.t 5), none⟩,
      ⟨some 22, .bin .quo false (.t 21) (.c (.v (.int .i64 2))), none⟩,
      ⟨some 5, .mov (.t 22), none⟩]))
    (.ops [⟨some 19, .mov (.t 6), none⟩,
      ⟨some 20, .bin .add false (.t 19) (.c (.v (.int .i64 1))), none⟩,
      ⟨some 6, .mov (.t 20), none⟩]))))))
  (.seq (.ops [⟨some 23, .mov (.t 5), none⟩,
    ⟨some 24, .bin .rem false (.t 23) (.c (.v (.int .i64 2))), none⟩,
    ⟨some 4, .mov (.t 24), none⟩])
  .ret))))⟩ := by kernel_rfl

theorem ir26 : compF Try.prog 26 = some ⟨9, [.t 4],
  (.seq (.ops [⟨some 4, .mov (.c (.v (.bool false))), none⟩])
  (.seq (.ops [⟨some 5, .mov (.t 0), none⟩,
    ⟨some 6, .mov (.t 1), none⟩,
    ⟨some 7, .call 37 [(.t 5), (.t 6)], none⟩,
    ⟨some 8, .bin .geq false (.t 7) (.c (.v (.int .i64 0))), none⟩,
    ⟨some 4, .mov (.t 8), none⟩])
  .ret))⟩ := by kernel_rfl

theorem ir27 : compF Try.prog 27 = some ⟨26, [.t 4],
  (.seq (.ops [⟨some 4, .mov (.c (.v (.slice none 0 0))), none⟩])
  (.seq (.ops [⟨some 8, .mov (.t 0), none⟩,
    ⟨some 9, .len false (.t 8), none⟩,
    ⟨some 10, .mksl 1 1 [(.v (.bool false))] (.t 9) (.t 9), none⟩,
    ⟨some 5, .mov (.t 10), none⟩])
  (.seq (.seq (.ops [⟨some 11, .mov (.t 0), none⟩,
    ⟨some 12, .len false (.t 11), none⟩,
    ⟨some 13, .mov (.c (.v (.int .i64 0))), none⟩])
  (.block 0 (.loop
    (.seq (.ops [⟨some 14, .bin .lss false (.t 13) (.t 12), none⟩])
    (.seq (.cond (.t 14)
      .skip
      (.exit 0))
    (.seq (.block 1 (.seq (.ops [⟨some 15, .mov (.t 13), none⟩,
      ⟨some 16, .iaddr 2 (.t 11) (.t 13), none⟩,
      ⟨some 17, .load 2 true (.t 16), none⟩,
      ⟨some 7, .alloc (.agg [(.v (.int .i64 0)), (.v (.int .i64 0))]), none⟩,
      ⟨some 6, .mov (.t 15), none⟩,
      ⟨none, .store 2 (.t 7) (.t 17), none⟩])
    (.ops [⟨some 18, .mov (.t 5), none⟩,
      ⟨some 19, .mov (.t 6), none⟩,
      ⟨some 20, .mov (.t 1), none⟩,
      ⟨some 21, .load 2 true (.t 7), none⟩,
      ⟨some 22, .calld (.t 20) [(.t 21)], none⟩,
      ⟨some 23, .iaddr 1 (.t 18) (.t 19), none⟩,
      ⟨none, .store 1 (.t 23) (.t 22), none⟩])))
    (.ops [⟨some 24, .bin .add false (.t 13) (.c (.v (.int .i64 1))), none⟩,
      ⟨some 13, .mov (.t 24), none⟩])))))))
  (.seq (.ops [⟨some 25, .mov (.t 5), none⟩,
    ⟨some 4, .mov (.t 25), none⟩])
  .ret))))⟩ := by kernel_rfl

theorem ir28 : compF Try.prog 28 = some ⟨29, [.t 2],
  (.seq (.ops [⟨some 1, .box (.t 0), none⟩,
    ⟨some 2, .mov (.c (.v (.bool false))), none⟩])
  (.seq (.ops [⟨some 4, .faddr 0 (.t 1), none⟩,
    ⟨some 5, .load 1 false (.t 4), none⟩,
    ⟨some 6, .bin .lss false (.t 5) (.c (.v (.int .i64 (-1073741824)))), none⟩,
    ⟨some 7, .mov (.t 6), none⟩,
    ⟨some 8, .faddr 1 (.t 1), some (7, false)⟩,
    ⟨some 9, .load 1 false (.t 8), some (7, false)⟩,
    ⟨some 10, .bin .gtr false (.t 9) (.c (.v (.int .i64 1073741824))), some (7, false)⟩,
    ⟨some 11, .pick (.t 7) (.c (.v (.bool true))) (.t 10), none⟩,
    ⟨some 3, .mov (.t 11), none⟩])
  (.seq (.ops [⟨some 12, .mov (.t 3), none⟩,
    ⟨some 13, .un .not (.t 12), none⟩,
    ⟨some 14, .mov (.t 13), none⟩,
    ⟨some 15, .faddr 0 (.t 1), some (14, true)⟩,
    ⟨some 16, .load 1 false (.t 15), some (14, true)⟩,
    ⟨some 17, .faddr 1 (.t 1), some (14, true)⟩,
    ⟨some 18, .load 1 false (.t 17), some (14, true)⟩,
    ⟨some 19, .bin .leq false (.t 16) (.t 18), some (14, true)⟩,
    ⟨some 20, .pick (.t 14) (.t 19) (.c (.v (.bool false))), none⟩,
    ⟨some 21, .mov (.t 20), none⟩,
    ⟨some 22, .faddr 1 (.t 1), some (21, true)⟩,
    ⟨some 23, .load 1 false (.t 22), some (21, true)⟩,
    ⟨some 24, .faddr 0 (.t 1), some (21, true)⟩,
    ⟨some 25, .load 1 false (.t 24), some (21, true)⟩,
    ⟨some 26, .bin .sub false (.t 23) (.t 25), some (21, true)⟩,
    ⟨some 27, .bin .lss false (.t 26) (.c (.v (.int .i64 65536))), some (21, true)⟩,
    ⟨some 28, .pick (.t 21) (.t 27) (.c (.v (.bool false))), none⟩,
    ⟨some 2, .mov (.t 28), none⟩])
  .ret)))⟩ := by kernel_rfl

theorem ir29 : compF Try.prog 29 = some ⟨26, [.t 4],
  (.seq (.ops [⟨some 4, .mov (.c (.v (.slice none 0 0))), none⟩])
  (.seq (.ops [⟨some 8, .mov (.t 0), none⟩,
    ⟨some 9, .len false (.t 8), none⟩,
    ⟨some 10, .mksl 1 8 [(.v (.int .i64 0))] (.t 9) (.t 9), none⟩,
    ⟨some 5, .mov (.t 10), none⟩])
  (.seq (.seq (.ops [⟨some 11, .mov (.t 0), none⟩,
    ⟨some 12, .len false (.t 11), none⟩,
    ⟨some 13, .mov (.c (.v (.int .i64 0))), none⟩])
  (.block 0 (.loop
    (.seq (.ops [⟨some 14, .bin .lss false (.t 13) (.t 12), none⟩])
    (.seq (.cond (.t 14)
      .skip
      (.exit 0))
    (.seq (.block 1 (.seq (.ops [⟨some 15, .mov (.t 13), none⟩,
      ⟨some 16, .iaddr 2 (.t 11) (.t 13), none⟩,
      ⟨some 17, .load 2 true (.t 16), none⟩,
      ⟨some 7, .alloc (.agg [(.v (.int .i64 0)), (.v (.int .i64 0))]), none⟩,
      ⟨some 6, .mov (.t 15), none⟩,
      ⟨none, .store 2 (.t 7) (.t 17), none⟩])
    (.ops [⟨some 18, .mov (.t 5), none⟩,
      ⟨some 19, .mov (.t 6), none⟩,
      ⟨some 20, .mov (.t 1), none⟩,
      ⟨some 21, .load 2 true (.t 7), none⟩,
      ⟨some 22, .calld (.t 20) [(.t 21)], none⟩,
      ⟨some 23, .iaddr 1 (.t 18) (.t 19), none⟩,
      ⟨none, .store 1 (.t 23) (.t 22), none⟩])))
    (.ops [⟨some 24, .bin .add false (.t 13) (.c (.v (.int .i64 1))), none⟩,
      ⟨some 13, .mov (.t 24), none⟩])))))))
  (.seq (.ops [⟨some 25, .mov (.t 5), none⟩,
    ⟨some 4, .mov (.t 25), none⟩])
  .ret))))⟩ := by kernel_rfl

theorem ir30 : compF Try.prog 30 = some ⟨10, [.t 2],
  (.seq (.ops [⟨some 1, .box (.t 0), none⟩,
    ⟨some 2, .mov (.c (.v (.int .i64 0))), none⟩])
  (.seq (.ops [⟨some 3, .faddr 1 (.t 1), none⟩,
    ⟨some 4, .load 1 false (.t 3), none⟩,
    ⟨some 5, .faddr 0 (.t 1), none⟩,
    ⟨some 6, .load 1 false (.t 5), none⟩,
    ⟨some 7, .bin .sub false (.t 4) (.t 6), none⟩,
    ⟨some 8, .conv .u64 (.t 7), none⟩,
    ⟨some 9, .call 38 [(.t 8)], none⟩,
    ⟨some 2, .mov (.t 9), none⟩])
  .ret))⟩ := by kernel_rfl

theorem ir31 : compF Try.prog 31 = some ⟨44, [.c 6 2 true, .t 7],
  (.seq (.ops [⟨some 3, .box (.t 0), none⟩,
    ⟨some 6, .alloc (.agg [(.v (.slice none 0 0)), (.v (.int .i64 0))]), none⟩,
    ⟨some 7, .mov (.c (.v (.int .i64 0))), none⟩])
  (.seq (.seq (.ops [⟨some 10, .mov (.t 2), none⟩,
    ⟨some 11, .bin .lss false (.t 10) (.c (.v (.int .i64 0))), none⟩,
    ⟨some 12, .mov (.t 11), none⟩,
    ⟨some 13, .mov (.t 2), some (12, false)⟩,
    ⟨some 14, .bin .gtr false (.t 13) (.c (.v (.int .i64 64))), some (12, false)⟩,
    ⟨some 15, .pick (.t 12) (.c (.v (.bool true))) (.t 14), none⟩])
  (.cond (.t 15)
    (.seq (.ops [⟨some 16, .load 2 true (.t 3), none⟩,
      ⟨none, .store 2 (.t 6) (.t 16), none⟩,
      ⟨some 7, .mov (.c (.v (.int .i64 1))), none⟩])
    .ret)
    .skip))
  (.seq (.seq (.ops [⟨some 17, .mov (.t 1), none⟩,
    ⟨some 18, .call 38 [(.t 17)], none⟩,
    ⟨some 19, .mov (.t 2), none⟩,
    ⟨some 20, .bin .gtr false (.t 18) (.t 19), none⟩])
  (.cond (.t 20)
    (.seq (.ops [⟨some 21, .load 2 true (.t 3), none⟩,
      ⟨none, .store 2 (.t 6) (.t 21), none⟩,
      ⟨some 7, .mov (.c (.v (.int .i64 5))), none⟩])
    .ret)
    .skip))
  (.seq (.ops [⟨some 22, .load 2 true (.t 3), none⟩,
    ⟨some 23, .call 39 [(.t 22)], none⟩,
    ⟨some 8, .mov (.t 23), none⟩])
  (.seq (.seq (.ops [⟨some 24, .mov (.t 2), none⟩,
    ⟨some 25, .bin .sub false (.t 24) (.c (.v (.int .i64 1))), none⟩,
    ⟨some 9, .mov (.t 25), none⟩])
  (.block 0 (.loop
    (.seq (.seq (.ops [⟨some 26, .mov (.t 9), none⟩,
      ⟨some 27, .bin .geq false (.t 26) (.c (.v (.int .i64 0))), none⟩])
    (.cond (.t 27)
      .skip
      (.exit 0)))
    (.seq (.block 1 (.draw [[⟨some 30, .mov (.t 8), none⟩,
        ⟨some 31, .nilchk (.t 30), none⟩,
        ⟨some 32, .faddr 0 (.t 31), none⟩,
        ⟨some 33, .mov (.t 1), none⟩,
        ⟨some 34, .mov (.t 9), none⟩,
        ⟨some 35, .bin .shr false (.t 33) (.t 34), none⟩,
        ⟨some 36, .bin .and false (.t 35) (.c (.v (.int .u64 1))), none⟩,
        ⟨some 37, .bin .eql false (.t 36) (.c (.v (.int .u64 1))), none⟩],
      [⟨some 38, .call 40 [(.t 32), (.t 37)], none⟩]]))
    (.ops [⟨some 28, .mov (.t 9), none⟩,
      ⟨some 29, .bin .sub false (.t 28) (.c (.v (.int .i64 1))), none⟩,
      ⟨some 9, .mov (.t 29), none⟩]))))))
  (.seq (.ops [⟨some 39, .mov (.t 8), none⟩,
    ⟨some 40, .nilchk (.t 39), none⟩,
    ⟨some 41, .faddr 0 (.t 40), none⟩,
    ⟨some 42, .faddr 0 (.t 41), none⟩,
    ⟨some 43, .load 2 true (.t 42), none⟩,
    ⟨none, .store 2 (.t 6) (.t 43), none⟩,
    ⟨some 7, .mov (.c (.v (.int .i64 0))), none⟩])
  .ret))))))⟩ := by kernel_rfl

theorem ir32 : compF Try.prog 32 = some ⟨43, [.c 6 2 true, .t 7],
  (.seq (.ops [⟨some 3, .box (.t 0), none⟩,
    ⟨some 6, .alloc (.agg [(.v (.slice none 0 0)), (.v (.int .i64 0))]), none⟩,
    ⟨some 7, .mov (.c (.v (.int .i64 0))), none⟩])
  (.seq (.seq (.ops [⟨some 10, .mov (.t 2), none⟩,
    ⟨some 11, .bin .lss false (.t 10) (.c (.v (.int .i64 0))), none⟩,
    ⟨some 12, .mov (.t 11), none⟩,
    ⟨some 13, .mov (.t 2), some (12, false)⟩,
    ⟨some 14, .bin .gtr false (.t 13) (.c (.v (.int .i64 64))), some (12, false)⟩,
    ⟨some 15, .pick (.t 12) (.c (.v (.bool true))) (.t 14), none⟩])
  (.cond (.t 15)
    (.seq (.ops [⟨some 16, .load 2 true (.t 3), none⟩,
      ⟨none, .store 2 (.t 6) (.t 16), none⟩,
      ⟨some 7, .mov (.c (.v (.int .i64 1))), none⟩])
    .ret)
    .skip))
  (.seq (.seq (.ops [⟨some 17, .mov (.t 1), none⟩,
    ⟨some 18, .call 41 [(.t 17)], none⟩,
    ⟨some 19, .mov (.t 2), none⟩,
    ⟨some 20, .bin .gtr false (.t 18) (.t 19), none⟩])
  (.cond (.t 20)
    (.seq (.ops [⟨some 21, .load 2 true (.t 3), none⟩,
      ⟨none, .store 2 (.t 6) (.t 21), none⟩,
      ⟨some 7, .mov (.c (.v (.int .i64 5))), none⟩])
    .ret)
    .skip))
  (.seq (.ops [⟨some 22, .mov (.t 2), none⟩,
    ⟨some 23, .mksl 1 8 [(.v (.int .i64 0))] (.t 22) (.t 22), none⟩,
    ⟨some 8, .mov (.t 23), none⟩])
  (.seq (.seq (.ops [⟨some 24, .mov (.t 2), none⟩,
    ⟨some 25, .bin .sub false (.t 24) (.c (.v (.int .i64 1))), none⟩,
    ⟨some 9, .mov (.t 25), none⟩])
  (.block 0 (.loop
    (.seq (.seq (.ops [⟨some 26, .mov (.t 9), none⟩,
      ⟨some 27, .bin .geq false (.t 26) (.c (.v (.int .i64 0))), none⟩])
    (.cond (.t 27)
      .skip
      (.exit 0)))
    (.seq (.block 1 (.seq (.ops [⟨some 30, .mov (.t 8), none⟩,
      ⟨some 31, .mov (.t 9), none⟩,
      ⟨some 32, .mov (.t 1), none⟩,
      ⟨some 33, .bin .rem false (.t 32) (.c (.v (.int .u64 2))), none⟩,
      ⟨some 34, .conv .i64 (.t 33), none⟩,
      ⟨some 35, .iaddr 1 (.t 30) (.t 31), none⟩,
      ⟨none, .store 1 (.t 35) (.t 34), none⟩])
    (.ops [⟨some 36, .mov (.t 1), none⟩,
      ⟨some 37, .bin .quo false (.t 36) (.c (.v (.int .u64 2))), none⟩,
      ⟨some 1, .mov (.t 37), none⟩])))
    (.ops [⟨some 28, .mov (.t 9), none⟩,
      ⟨some 29, .bin .sub false (.t 28) (.c (.v (.int .i64 1))), none⟩,
      ⟨some 9, .mov (.t 29), none⟩]))))))
  (.seq (.ops [⟨some 38, .load 2 true (.t 3), none⟩,
    ⟨some 39, .call 43 [(.t 38)], none⟩,
    ⟨some 40, .mov (.t 8), none⟩,
    ⟨some 41, .append 1 8 [(.v (.int .i64 0))] (.t 39) (.t 40), none⟩,
    ⟨some 42, .call 42 [(.t 41)], none⟩,
    ⟨none, .store 2 (.t 6) (.t 42), none⟩,
    ⟨some 7, .mov (.c (.v (.int .i64 0))), none⟩])
  .ret))))))⟩ := by kernel_rfl

theorem ir33 : compF Try.prog 33 = some ⟨37, [.t 6, .t 7],
  (.seq (.ops [⟨some 3, .box (.t 0), none⟩,
    ⟨some 6, .mov (.c (.v (.int .u64 0))), none⟩,
    ⟨some 7, .mov (.c (.v (.int .i64 0))), none⟩])
  (.seq (.seq (.ops [⟨some 10, .mov (.t 2), none⟩,
    ⟨some 11, .bin .lss false (.t 10) (.c (.v (.int .i64 0))), none⟩,
    ⟨some 12, .mov (.t 11), none⟩,
    ⟨some 13, .mov (.t 2), some (12, false)⟩,
    ⟨some 14, .bin .gtr false (.t 13) (.c (.v (.int .i64 64))), some (12, false)⟩,
    ⟨some 15, .pick (.t 12) (.c (.v (.bool true))) (.t 14), none⟩])
  (.cond (.t 15)
    (.seq (.ops [⟨some 6, .mov (.c (.v (.int .u64 0))), none⟩,
      ⟨some 7, .mov (.c (.v (.int .i64 1))), none⟩])
    .ret)
    .skip))
  (.seq (.seq (.ops [⟨some 16, .mov (.t 1), none⟩,
    ⟨some 17, .bin .lss false (.t 16) (.c (.v (.int .i64 0))), none⟩,
    ⟨some 18, .mov (.t 17), none⟩,
    ⟨some 19, .mov (.t 2), some (18, false)⟩,
    ⟨some 20, .faddr 1 (.t 3), some (18, false)⟩,
    ⟨some 21, .load 1 false (.t 20), some (18, false)⟩,
    ⟨some 22, .mov (.t 1), some (18, false)⟩,
    ⟨some 23, .bin .sub false (.t 21) (.t 22), some (18, false)⟩,
    ⟨some 24, .bin .gtr false (.t 19) (.t 23), some (18, false)⟩,
    ⟨some 25, .pick (.t 18) (.c (.v (.bool true))) (.t 24), none⟩])
  (.cond (.t 25)
    (.seq (.ops [⟨some 6, .mov (.c (.v (.int .u64 0))), none⟩,
      ⟨some 7, .mov (.c (.v (.int .i64 10))), none⟩])
    .ret)
    .skip))
  (.seq (.ops [⟨some 8, .alloc (.v (.int .u64 0)), none⟩,
    ⟨none, .store 1 (.t 8) (.c (.v (.int .u64 0))), none⟩])
  (.seq (.seq (.ops [⟨some 26, .load 2 true (.t 3), none⟩,
    ⟨some 27, .mov (.t 1), none⟩,
    ⟨some 28, .mov (.t 2), none⟩,
    ⟨some 29, .call 44 [(.t 26), (.t 27), (.t 28)], none⟩])
  (.block 0 (.range (.t 29) [8] (rcAt Try.prog 33 0))))
  (.seq (.ops [⟨some 36, .load 1 false (.t 8), none⟩,
    ⟨some 6, .mov (.t 36), none⟩,
    ⟨some 7, .mov (.c (.v (.int .i64 0))), none⟩])
  .ret))))))⟩ := by kernel_rfl

theorem rc33 : RcOK (fun _ => false) Try.prog 37 (rcAt Try.prog 33 0) [30]
  (.ops [⟨some 9, .mov (.t 30), none⟩])
  (.block 1 (.seq (.ops [⟨some 31, .load 1 false (.t 8), none⟩,
    ⟨some 32, .bin .shl false (.t 31) (.c (.v (.int .u64 1))), none⟩,
    ⟨none, .store 1 (.t 8) (.t 32), none⟩])
  (.seq (.ops [⟨some 33, .mov (.t 9), none⟩])
  (.cond (.t 33)
    (.ops [⟨some 34, .load 1 false (.t 8), none⟩,
      ⟨some 35, .bin .or false (.t 34) (.c (.v (.int .u64 1))), none⟩,
      ⟨none, .store 1 (.t 8) (.t 35), none⟩])
    .skip)))) := ⟨by kernel_rfl, by kernel_rfl, by kernel_rfl, by kernel_rfl, by kernel_rfl, by kernel_rfl, by kernel_rfl⟩

theorem ir34 : compF Try.prog 34 = some ⟨10, [.t 4],
  (.seq (.ops [⟨some 4, .mov (.c (.v (.bool false))), none⟩])
  (.seq (.ops [⟨some 5, .mov (.t 0), none⟩,
    ⟨some 6, .b2s (.t 5), none⟩,
    ⟨some 7, .mov (.t 1), none⟩,
    ⟨some 8, .b2s (.t 7), none⟩,
    ⟨some 9, .bin .eql false (.t 6) (.t 8), none⟩,
    ⟨some 4, .mov (.t 9), none⟩])
  .ret))⟩ := by kernel_rfl

theorem ir35 : compF Try.prog 35 = some ⟨48, [.t 6, .t 7],
  (.seq (.ops [⟨some 3, .box (.t 0), none⟩,
    ⟨some 6, .mov (.c (.v (.int .u64 0))), none⟩,
    ⟨some 7, .mov (.c (.v (.int .i64 0))), none⟩])
  (.seq (.seq (.ops [⟨some 10, .mov (.t 2), none⟩,
    ⟨some 11, .bin .lss false (.t 10) (.c (.v (.int .i64 0))), none⟩,
    ⟨some 12, .mov (.t 11), none⟩,
    ⟨some 13, .mov (.t 2), some (12, false)⟩,
    ⟨some 14, .bin .gtr false (.t 13) (.c (.v (.int .i64 64))), some (12, false)⟩,
    ⟨some 15, .pick (.t 12) (.c (.v (.bool true))) (.t 14), none⟩])
  (.cond (.t 15)
    (.seq (.ops [⟨some 6, .mov (.c (.v (.int .u64 0))), none⟩,
      ⟨some 7, .mov (.c (.v (.int .i64 1))), none⟩])
    .ret)
    .skip))
  (.seq (.seq (.ops [⟨some 16, .mov (.t 1), none⟩,
    ⟨some 17, .bin .lss false (.t 16) (.c (.v (.int .i64 0))), none⟩,
    ⟨some 18, .mov (.t 17), none⟩,
    ⟨some 19, .mov (.t 1), some (18, false)⟩,
    ⟨some 20, .faddr 1 (.t 3), some (18, false)⟩,
    ⟨some 21, .load 1 false (.t 20), some (18, false)⟩,
    ⟨some 22, .bin .gtr false (.t 19) (.t 21), some (18, false)⟩,
    ⟨some 23, .pick (.t 18) (.c (.v (.bool true))) (.t 22), none⟩,
    ⟨some 24, .mov (.t 23), none⟩,
    ⟨some 25, .faddr 1 (.t 3), some (24, false)⟩,
    ⟨some 26, .load 1 false (.t 25), some (24, false)⟩,
    ⟨some 27, .mov (.t 1), some (24, false)⟩,
    ⟨some 28, .bin .sub false (.t 26) (.t 27), some (24, false)⟩,
    ⟨some 29, .mov (.t 2), some (24, false)⟩,
    ⟨some 30, .bin .lss false (.t 28) (.t 29), some (24, false)⟩,
    ⟨some 31, .pick (.t 24) (.c (.v (.bool true))) (.t 30), none⟩])
  (.cond (.t 31)
    (.seq (.ops [⟨some 6, .mov (.c (.v (.int .u64 0))), none⟩,
      ⟨some 7, .mov (.c (.v (.int .i64 10))), none⟩])
    .ret)
    .skip))
  (.seq (.ops [⟨some 8, .mov (.c (.v (.int .u64 0))), none⟩])
  (.seq (.seq (.ops [⟨some 32, .mov (.t 1), none⟩,
    ⟨some 9, .mov (.t 32), none⟩])
  (.block 0 (.loop
    (.seq (.seq (.ops [⟨some 33, .mov (.t 9), none⟩,
      ⟨some 34, .mov (.t 1), none⟩,
      ⟨some 35, .mov (.t 2), none⟩,
      ⟨some 36, .bin .add false (.t 34) (.t 35), none⟩,
      ⟨some 37, .bin .lss false (.t 33) (.t 36), none⟩])
    (.cond (.t 37)
      .skip
      (.exit 0)))
    (.seq (.block 1 (.ops [⟨some 40, .mov (.t 8), none⟩,
      ⟨some 41, .bin .mul false (.c (.v (.int .u64 2))) (.t 40), none⟩,
      ⟨some 42, .load 2 true (.t 3), none⟩,
      ⟨some 43, .mov (.t 9), none⟩,
      ⟨some 44, .call 25 [(.t 42), (.t 43)], none⟩,
      ⟨some 45, .conv .u64 (.t 44), none⟩,
      ⟨some 46, .bin .add false (.t 41) (.t 45), none⟩,
      ⟨some 8, .mov (.t 46), none⟩]))
    (.ops [⟨some 38, .mov (.t 9), none⟩,
      ⟨some 39, .bin .add false (.t 38) (.c (.v (.int .i64 1))), none⟩,
      ⟨some 9, .mov (.t 39), none⟩]))))))
  (.seq (.ops [⟨some 47, .mov (.t 8), none⟩,
    ⟨some 6, .mov (.t 47), none⟩,
    ⟨some 7, .mov (.c (.v (.int .i64 0))), none⟩])
  .ret))))))⟩ := by kernel_rfl

theorem ir36 : compF Try.prog 36 = some ⟨15, [.t 4],
  (.seq (.ops [⟨some 2, .box (.t 0), none⟩,
    ⟨some 4, .mov (.c (.v (.bool false))), none⟩])
  (.seq (.ops [⟨some 5, .mov (.t 1), none⟩,
    ⟨some 6, .faddr 0 (.t 2), none⟩,
    ⟨some 7, .load 1 false (.t 6), none⟩,
    ⟨some 8, .bin .geq false (.t 5) (.t 7), none⟩,
    ⟨some 9, .mov (.t 8), none⟩,
    ⟨some 10, .mov (.t 1), some (9, true)⟩,
    ⟨some 11, .faddr 1 (.t 2), some (9, true)⟩,
    ⟨some 12, .load 1 false (.t 11), some (9, true)⟩,
    ⟨some 13, .bin .leq false (.t 10) (.t 12), some (9, true)⟩,
    ⟨some 14, .pick (.t 9) (.t 13) (.c (.v (.bool false))), none⟩,
    ⟨some 4, .mov (.t 14), none⟩])
  .ret))⟩ := by kernel_rfl

theorem ir37 : compF Try.prog 37 = some ⟨19, [.t 4],
  (.seq (.ops [⟨some 4, .mov (.c (.v (.int .i64 0))), none⟩])
  (.seq (.seq (.ops [⟨some 6, .mov (.t 0), none⟩,
    ⟨some 7, .len false (.t 6), none⟩,
    ⟨some 8, .mov (.c (.v (.int .i64 0))), none⟩])
  (.block 0 (.loop
    (.seq (.ops [⟨some 9, .bin .lss false (.t 8) (.t 7), none⟩])
    (.seq (.cond (.t 9)
      .skip
      (.exit 0))
    (.seq (.block 1 (.seq (.ops [⟨some 10, .mov (.t 8), none⟩,
      ⟨some 5, .mov (.t 10), none⟩])
    (.seq (.ops [⟨some 11, .mov (.t 1), none⟩,
      ⟨some 12, .mov (.t 0), none⟩,
      ⟨some 13, .mov (.t 5), none⟩,
      ⟨some 14, .iaddr 1 (.t 12) (.t 13), none⟩,
      ⟨some 15, .load 1 false (.t 14), none⟩,
      ⟨some 16, .bin .eql true (.t 11) (.t 15), none⟩])
    (.cond (.t 16)
      (.seq (.ops [⟨some 17, .mov (.t 5), none⟩,
        ⟨some 4, .mov (.t 17), none⟩])
      .ret)
      .skip))))
    (.ops [⟨some 18, .bin .add false (.t 8) (.c (.v (.int .i64 1))), none⟩,
      ⟨some 8, .mov (.t 18), none⟩])))))))
  (.seq (.ops [⟨some 4, .mov (.c (.v (.int .i64 (-1)))), none⟩])
  .ret)))⟩ := by kernel_rfl

theorem ir38 : compF Try.prog 38 = some ⟨11, [.t 2],
  (.seq (.ops [⟨some 2, .mov (.c (.v (.int .i64 0))), none⟩])
  (.seq (.ops [⟨some 3, .mov (.c (.v (.int .i64 0))), none⟩])
  (.seq (.block 0 (.loop
    (.seq (.seq (.ops [⟨some 4, .mov (.t 0), none⟩,
      ⟨some 5, .bin .gtr false (.t 4) (.c (.v (.int .u64 0))), none⟩])
    (.cond (.t 5)
      .skip
      (.exit 0)))
    (.seq (.block 1 (.ops [⟨some 8, .mov (.t 3), none⟩,
      ⟨some 9, .bin .add false (.t 8) (.c (.v (.int .i64 1))), none⟩,
      ⟨some 3, .mov (.t 9), none⟩]))
    (.ops [⟨some 6, .mov (.t 0), none⟩,
      ⟨some 7, .bin .shr false (.t 6) (.c (.v (.int .u64 1))), none⟩,
      ⟨some 0, .mov (.t 7), none⟩])))))
  (.seq (.ops [⟨some 10, .mov (.t 3), none⟩,
    ⟨some 2, .mov (.t 10), none⟩])
  .ret))))⟩ := by kernel_rfl

theorem ir39 : compF Try.prog 39 = some ⟨12, [.t 2],
  (.seq (.ops [⟨some 1, .box (.t 0), none⟩,
    ⟨some 2, .mov (.c (.v (.pointer none))), none⟩])
  (.seq (.draw [[⟨some 3, .faddr 0 (.t 1), none⟩,
      ⟨some 4, .load 1 false (.t 3), none⟩,
      ⟨some 5, .call 45 [(.t 4)], none⟩,
      ⟨some 6, .faddr 1 (.t 1), none⟩,
      ⟨some 7, .load 1 false (.t 6), none⟩],
    [⟨some 8, .build [(.v (.slice none 0 0)), (.v (.int .i64 0))] [(0, 1, (.t 5)), (1, 1, (.t 7))], none⟩],
    [⟨some 9, .build [(.v (.slice none 0 0)), (.v (.int .i64 0))] [(0, 2, (.t 8))], none⟩],
    [⟨some 10, .build [(.v (.slice none 0 0)), (.v (.int .i64 0))] [(0, 2, (.t 9))], none⟩],
    [⟨some 11, .box (.t 10), none⟩],
    [⟨some 2, .mov (.t 11), none⟩]])
  .ret))⟩ := by kernel_rfl

theorem ir40 : compF Try.prog 40 = some ⟨54, [],
  (.seq (.seq (.ops [⟨some 4, .mov (.t 0), none⟩,
    ⟨some 5, .nilchk (.t 4), none⟩,
    ⟨some 6, .faddr 0 (.t 5), none⟩,
    ⟨some 7, .faddr 1 (.t 6), none⟩,
    ⟨some 8, .load 1 false (.t 7), none⟩,
    ⟨some 9, .bin .rem false (.t 8) (.c (.v (.int .i64 8))), none⟩,
    ⟨some 10, .bin .eql false (.t 9) (.c (.v (.int .i64 0))), none⟩])
  (.cond (.t 10)
    (.ops [⟨some 11, .mov (.t 0), none⟩,
      ⟨some 12, .mov (.t 0), none⟩,
      ⟨some 13, .nilchk (.t 12), none⟩,
      ⟨some 14, .faddr 0 (.t 13), none⟩,
      ⟨some 15, .faddr 0 (.t 14), none⟩,
      ⟨some 16, .load 1 false (.t 15), none⟩,
      ⟨some 17, .bslice 1 [(.v (.int .u8 0))] 1 [(0, 1, (.c (.v (.int .u8 0))))], none⟩,
      ⟨some 18, .append 1 1 [(.v (.int .u8 0))] (.t 16) (.t 17), none⟩,
      ⟨some 19, .nilchk (.t 11), none⟩,
      ⟨some 20, .faddr 0 (.t 19), none⟩,
      ⟨some 21, .faddr 0 (.t 20), none⟩,
      ⟨none, .store 1 (.t 21) (.t 18), none⟩])
    .skip))
  (.seq (.seq (.ops [⟨some 22, .mov (.t 1), none⟩])
  (.cond (.t 22)
    (.draw [[⟨some 23, .mov (.t 0), none⟩,
        ⟨some 24, .nilchk (.t 23), none⟩,
        ⟨some 25, .faddr 0 (.t 24), none⟩,
        ⟨some 26, .faddr 0 (.t 25), none⟩,
        ⟨some 27, .load 1 false (.t 26), none⟩,
        ⟨some 28, .mov (.t 0), none⟩,
        ⟨some 29, .nilchk (.t 28), none⟩,
        ⟨some 30, .faddr 0 (.t 29), none⟩,
        ⟨some 31, .faddr 1 (.t 30), none⟩,
        ⟨some 32, .load 1 false (.t 31), none⟩,
        ⟨some 33, .bin .quo false (.t 32) (.c (.v (.int .i64 8))), none⟩,
        ⟨some 34, .iaddr 1 (.t 27) (.t 33), none⟩,
        ⟨some 35, .load 1 false (.t 34), none⟩,
        ⟨some 36, .mov (.t 0), none⟩,
        ⟨some 37, .nilchk (.t 36), none⟩,
        ⟨some 38, .faddr 0 (.t 37), none⟩,
        ⟨some 39, .faddr 1 (.t 38), none⟩,
        ⟨some 40, .load 1 false (.t 39), none⟩,
        ⟨some 41, .bin .rem false (.t 40) (.c (.v (.int .i64 8))), none⟩,
        ⟨some 42, .bin .shr false (.c (.v (.int .u8 128))) (.t 41), none⟩],
      [⟨some 43, .bin .or false (.t 35) (.t 42), none⟩],
      [⟨some 44, .iaddr 1 (.t 27) (.t 33), none⟩],
      [⟨none, .store 1 (.t 44) (.t 43), none⟩]])
    .skip))
  (.ops [⟨some 45, .mov (.t 0), none⟩,
    ⟨some 46, .nilchk (.t 45), none⟩,
    ⟨some 47, .faddr 0 (.t 46), none⟩,
    ⟨some 48, .faddr 1 (.t 47), none⟩,
    ⟨some 49, .load 1 false (.t 48), none⟩,
    ⟨some 50, .bin .add false (.t 49) (.c (.v (.int .i64 1))), none⟩,
    ⟨some 51, .nilchk (.t 45), none⟩,
    ⟨some 52, .faddr 0 (.t 51), none⟩,
    ⟨some 53, .faddr 1 (.t 52), none⟩,
    ⟨none, .store 1 (.t 53) (.t 50), none⟩])))⟩ := by kernel_rfl

theorem ir41 : compF Try.prog 41 = some ⟨11, [.t 2],
  (.seq (.ops [⟨some 2, .mov (.c (.v (.int .i64 0))), none⟩])
  (.seq (.ops [⟨some 3, .mov (.c (.v (.int .i64 0))), none⟩])
  (.seq (.block 0 (.loop
    (.seq (.seq (.ops [⟨some 4, .mov (.t 0), none⟩,
      ⟨some 5, .bin .gtr false (.t 4) (.c (.v (.int .u64 0))), none⟩])
    (.cond (.t 5)
      .skip
      (.exit 0)))
    (.block 1 (.seq (.ops [⟨some 6, .mov (.t 0), none⟩,
      ⟨some 7, .bin .quo false (.t 6) (.c (.v (.int .u64 2))), none⟩,
      ⟨some 0, .mov (.t 7), none⟩])
    (.ops [⟨some 8, .mov (.t 3), none⟩,
      ⟨some 9, .bin .add false (.t 8) (.c (.v (.int .i64 1))), none⟩,
      ⟨some 3, .mov (.t 9), none⟩]))))))
  (.seq (.ops [⟨some 10, .mov (.t 3), none⟩,
    ⟨some 2, .mov (.t 10), none⟩])
  .ret))))⟩ := by kernel_rfl

theorem ir42 : compF Try.prog 42 = some ⟨53, [.c 2 2 true],
  (.seq (.ops [⟨some 2, .alloc (.agg [(.v (.slice none 0 0)), (.v (.int .i64 0))]), none⟩])
  (.seq (.ops [⟨some 3, .alloc (.agg [(.v (.slice none 0 0)), (.v (.int .i64 0))]), none⟩])
  (.seq (.seq (.ops [⟨some 4, .mov (.c (.v (.int .i64 0))), none⟩])
  (.block 0 (.loop
    (.seq (.seq (.ops [⟨some 7, .mov (.t 4), none⟩,
      ⟨some 8, .mov (.t 0), none⟩,
      ⟨some 9, .len false (.t 8), none⟩,
      ⟨some 10, .bin .lss false (.t 7) (.t 9), none⟩])
    (.cond (.t 10)
      .skip
      (.exit 0)))
    (.seq (.block 1 (.seq (.seq (.ops [⟨some 13, .mov (.t 4), none⟩,
      ⟨some 14, .bin .rem false (.t 13) (.c (.v (.int .i64 8))), none⟩,
      ⟨some 15, .bin .eql false (.t 14) (.c (.v (.int .i64 0))), none⟩])
    (.cond (.t 15)
      (.ops [⟨some 16, .faddr 0 (.t 3), none⟩,
        ⟨some 17, .load 1 false (.t 16), none⟩,
        ⟨some 18, .bslice 1 [(.v (.int .u8 0))] 1 [(0, 1, (.c (.v (.int .u8 0))))], none⟩,
        ⟨some 19, .append 1 1 [(.v (.int .u8 0))] (.t 17) (.t 18), none⟩,
        ⟨some 20, .faddr 0 (.t 3), none⟩,
        ⟨none, .store 1 (.t 20) (.t 19), none⟩])
      .skip))
    (.seq (.ops [⟨some 5, .mov (.c (.v (.int .i64 1))), none⟩])
    (.seq (.seq (.ops [⟨some 6, .mov (.c (.v (.int .i64 0))), none⟩])
    (.block 2 (.loop
      (.seq (.seq (.ops [⟨some 21, .mov (.t 6), none⟩,
        ⟨some 22, .mov (.t 4), none⟩,
        ⟨some 23, .bin .rem false (.t 22) (.c (.v (.int .i64 8))), none⟩,
        ⟨some 24, .bin .sub false (.c (.v (.int .i64 7))) (.t 23), none⟩,
        ⟨some 25, .bin .lss false (.t 21) (.t 24), none⟩])
      (.cond (.t 25)
        .skip
        (.exit 2)))
      (.seq (.block 3 (.ops [⟨some 28, .mov (.t 5), none⟩,
        ⟨some 29, .bin .mul false (.c (.v (.int .i64 2))) (.t 28), none⟩,
        ⟨some 5, .mov (.t 29), none⟩]))
      (.ops [⟨some 26, .mov (.t 6), none⟩,
        ⟨some 27, .bin .add false (.t 26) (.c (.v (.int .i64 1))), none⟩,
        ⟨some 6, .mov (.t 27), none⟩]))))))
    (.draw [[⟨some 30, .faddr 0 (.t 3), none⟩,
        ⟨some 31, .load 1 false (.t 30), none⟩,
        ⟨some 32, .mov (.t 4), none⟩,
        ⟨some 33, .bin .quo false (.t 32) (.c (.v (.int .i64 8))), none⟩,
        ⟨some 34, .faddr 0 (.t 3), none⟩,
        ⟨some 35, .load 1 false (.t 34), none⟩,
        ⟨some 36, .mov (.t 4), none⟩,
        ⟨some 37, .bin .quo false (.t 36) (.c (.v (.int .i64 8))), none⟩,
        ⟨some 38, .iaddr 1 (.t 35) (.t 37), none⟩,
        ⟨some 39, .load 1 false (.t 38), none⟩,
        ⟨some 40, .mov (.t 0), none⟩,
        ⟨some 41, .mov (.t 4), none⟩,
        ⟨some 42, .iaddr 1 (.t 40) (.t 41), none⟩,
        ⟨some 43, .load 1 false (.t 42), none⟩,
        ⟨some 44, .mov (.t 5), none⟩,
        ⟨some 45, .bin .mul false (.t 43) (.t 44), none⟩,
        ⟨some 46, .conv .u8 (.t 45), none⟩,
        ⟨some 47, .bin .add false (.t 39) (.t 46), none⟩],
      [⟨some 48, .iaddr 1 (.t 31) (.t 33), none⟩],
      [⟨none, .store 1 (.t 48) (.t 47), none⟩]])))))
    (.ops [⟨some 11, .mov (.t 4), none⟩,
      ⟨some 12, .bin .add false (.t 11) (.c (.v (.int .i64 1))), none⟩,
      ⟨some 4, .mov (.t 12), none⟩]))))))
  (.seq (.ops [⟨some 49, .mov (.t 0), none⟩,
    ⟨some 50, .len false (.t 49), none⟩,
    ⟨some 51, .faddr 1 (.t 3), none⟩,
    ⟨none, .store 1 (.t 51) (.t 50), none⟩])
  (.seq (.ops [⟨some 52, .load 2 true (.t 3), none⟩,
    ⟨none, .store 2 (.t 2) (.t 52), none⟩])
  .ret)))))⟩ := by kernel_rfl

theorem ir43 : compF Try.prog 43 = some ⟨18, [.t 2],
  (.seq (.ops [⟨some 1, .box (.t 0), none⟩,
    ⟨some 2, .mov (.c (.v (.slice none 0 0))), none⟩])
  (.seq (.ops [⟨some 3, .mov (.c (.v (.slice none 0 0))), none⟩])
  (.seq (.seq (.ops [⟨some 4, .mov (.c (.v (.int .i64 0))), none⟩])
  (.block 0 (.loop
    (.seq (.seq (.ops [⟨some 5, .mov (.t 4), none⟩,
      ⟨some 6, .faddr 1 (.t 1), none⟩,
      ⟨some 7, .load 1 false (.t 6), none⟩,
      ⟨some 8, .bin .lss false (.t 5) (.t 7), none⟩])
    (.cond (.t 8)
      .skip
      (.exit 0)))
    (.seq (.block 1 (.ops [⟨some 11, .mov (.t 3), none⟩,
      ⟨some 12, .load 2 true (.t 1), none⟩,
      ⟨some 13, .mov (.t 4), none⟩,
      ⟨some 14, .call 25 [(.t 12), (.t 13)], none⟩,
      ⟨some 15, .bslice 1 [(.v (.int .i64 0))] 1 [(0, 1, (.t 14))], none⟩,
      ⟨some 16, .append 1 8 [(.v (.int .i64 0))] (.t 11) (.t 15), none⟩,
      ⟨some 3, .mov (.t 16), none⟩]))
    (.ops [⟨some 9, .mov (.t 4), none⟩,
      ⟨some 10, .bin .add false (.t 9) (.c (.v (.int .i64 1))), none⟩,
      ⟨some 4, .mov (.t 10), none⟩]))))))
  (.seq (.ops [⟨some 17, .mov (.t 3), none⟩,
    ⟨some 2, .mov (.t 17), none⟩])
  .ret))))⟩ := by kernel_rfl

theorem ir44 : compF Try.prog 44 = some ⟨8, [.t 6],
  (.seq (.ops [⟨some 3, .box (.t 0), none⟩,
    ⟨some 4, .box (.t 1), none⟩,
    ⟨some 5, .box (.t 2), none⟩,
    ⟨some 6, .mov (.c (.v .nilFunc)), none⟩])
  (.seq (.ops [⟨some 7, .mkfn (.func 46) [] [(.t 4), (.t 5), (.t 3)], none⟩,
    ⟨some 6, .mov (.t 7), none⟩])
  .ret))⟩ := by kernel_rfl

theorem ir45 : compF Try.prog 45 = some ⟨8, [.t 2],
  (.seq (.ops [⟨some 2, .mov (.c (.v (.slice none 0 0))), none⟩])
  (.seq (.seq (.ops [⟨some 3, .mov (.t 0), none⟩,
    ⟨some 4, .isnil false (.t 3), none⟩])
  (.cond (.t 4)
    (.seq (.ops [⟨some 2, .mov (.c (.v (.slice none 0 0))), none⟩])
    .ret)
    .skip))
  (.seq (.ops [⟨some 5, .bslice 1 [(.v (.int .u8 0))] 0 [], none⟩,
    ⟨some 6, .mov (.t 0), none⟩,
    ⟨some 7, .append 1 1 [(.v (.int .u8 0))] (.t 5) (.t 6), none⟩,
    ⟨some 2, .mov (.t 7), none⟩])
  .ret)))⟩ := by kernel_rfl

theorem ir46 : compF Try.prog 46 = some ⟨28, [],
  (.seq (.ops [⟨some 6, .load 1 false (.t 1), none⟩,
    ⟨some 5, .mov (.t 6), none⟩])
  (.block 0 (.loop
    (.seq (.seq (.ops [⟨some 7, .mov (.t 5), none⟩,
      ⟨some 8, .load 1 false (.t 1), none⟩,
      ⟨some 9, .load 1 false (.t 2), none⟩,
      ⟨some 10, .bin .add false (.t 8) (.t 9), none⟩,
      ⟨some 11, .bin .lss false (.t 7) (.t 10), none⟩])
    (.cond (.t 11)
      .skip
      (.exit 0)))
    (.seq (.block 1 (.seq (.draw [[⟨some 14, .mov (.t 0), none⟩,
        ⟨some 15, .faddr 0 (.t 3), none⟩,
        ⟨some 16, .load 1 false (.t 15), none⟩,
        ⟨some 17, .mov (.t 5), none⟩,
        ⟨some 18, .bin .quo false (.t 17) (.c (.v (.int .i64 8))), none⟩,
        ⟨some 19, .iaddr 1 (.t 16) (.t 18), none⟩,
        ⟨some 20, .load 1 false (.t 19), none⟩,
        ⟨some 21, .mov (.t 5), none⟩,
        ⟨some 22, .bin .rem false (.t 21) (.c (.v (.int .i64 8))), none⟩,
        ⟨some 23, .bin .shr false (.c (.v (.int .u8 128))) (.t 22), none⟩,
        ⟨some 24, .bin .and false (.t 20) (.t 23), none⟩,
        ⟨some 25, .bin .neq false (.t 24) (.c (.v (.int .u8 0))), none⟩],
      [⟨some 26, .calld (.t 14) [(.t 25)], none⟩],
      [⟨some 27, .un .not (.t 26), none⟩]])
    (.cond (.t 27)
      .ret
      .skip)))
    (.ops [⟨some 12, .mov (.t 5), none⟩,
      ⟨some 13, .bin .add false (.t 12) (.c (.v (.int .i64 1))), none⟩,
      ⟨some 5, .mov (.t 13), none⟩]))))))⟩ := by kernel_rfl

end Go.Proofs.Ytfdcjcepokekdaa
