/- The functions of the program in the small language. -/
import Derived.Test.YtagaakajpblmjaaLgNX
import Derived.Test.YtagaakajpblmjaaChecked
namespace Go.Proofs.Ytagaakajpblmjaa
open Go Lg
set_option maxRecDepth 100000 in
theorem ir8 : compF Try.prog 8 = some ⟨193, [.t 0],
  (.seq (.ops [⟨some 0, .mov (.c (.v (.bool false))), none⟩])
  (.seq (.ops [⟨some 29, .build [(.v (.int .i64 0)), (.v (.int .i64 0))] [(0, 1, (.c (.v (.int .i64 0)))), (1, 1, (.c (.v (.int .i64 3))))], none⟩,
    ⟨some 30, .build [(.v (.int .i64 0)), (.v (.int .i64 0))] [(0, 1, (.c (.v (.int .i64 0)))), (1, 1, (.c (.v (.int .i64 3))))], none⟩,
    ⟨some 31, .build [(.v (.int .i64 0)), (.v (.int .i64 0))] [(0, 1, (.c (.v (.int .i64 0)))), (1, 1, (.c (.v (.int .i64 5))))], none⟩,
    ⟨some 32, .bslice 2 [(.v (.int .i64 0)), (.v (.int .i64 0))] 3 [(0, 2, (.t 29)), (2, 2, (.t 30)), (4, 2, (.t 31))], none⟩,
    ⟨some 1, .mov (.t 32), none⟩])
  (.seq (.ops [⟨some 34, .mov (.t 1), none⟩,
    ⟨some 35, .call 11 [(.t 34), (.c (.v (.int .i64 2)))], none⟩,
    ⟨some 33, .mov (.t 35), none⟩,
    ⟨some 36, .extract (.t 33) 0, none⟩,
    ⟨some 37, .extract (.t 33) 1, none⟩,
    ⟨some 2, .alloc (.agg [(.v (.slice none 0 0)), (.v (.slice none 0 0))]), none⟩,
    ⟨none, .store 2 (.t 2) (.t 36), none⟩,
    ⟨some 3, .mov (.t 37), none⟩])
  (.seq (.ops [⟨some 39, .load 2 true (.t 2), none⟩,
    ⟨some 40, .mov (.t 1), none⟩,
    ⟨some 41, .bslice 1 [(.v (.int .i64 0))] 3 [(0, 1, (.c (.v (.int .i64 1)))), (1, 1, (.c (.v (.int .i64 2)))), (2, 1, (.c (.v (.int .i64 3))))], none⟩,
    ⟨some 42, .call 13 [(.t 39), (.t 40), (.t 41)], none⟩,
    ⟨some 38, .mov (.t 42), none⟩,
    ⟨some 43, .extract (.t 38) 0, none⟩,
    ⟨some 44, .extract (.t 38) 1, none⟩,
    ⟨some 45, .extract (.t 38) 2, none⟩,
    ⟨some 4, .alloc (.agg [(.v (.slice none 0 0)), (.v (.slice none 0 0))]), none⟩,
    ⟨none, .store 2 (.t 4) (.t 43), none⟩,
    ⟨some 5, .mov (.t 44), none⟩,
    ⟨some 6, .mov (.t 45), none⟩])
  (.seq (.ops [⟨some 47, .load 2 true (.t 4), none⟩,
    ⟨some 48, .mov (.t 1), none⟩,
    ⟨some 49, .bslice 1 [(.v (.int .i64 0))] 3 [(0, 1, (.c (.v (.int .i64 1)))), (1, 1, (.c (.v (.int .i64 2)))), (2, 1, (.c (.v (.int .i64 4))))], none⟩,
    ⟨some 50, .call 13 [(.t 47), (.t 48), (.t 49)], none⟩,
    ⟨some 46, .mov (.t 50), none⟩,
    ⟨some 51, .extract (.t 46) 0, none⟩,
    ⟨some 52, .extract (.t 46) 1, none⟩,
    ⟨some 53, .extract (.t 46) 2, none⟩,
    ⟨some 7, .alloc (.agg [(.v (.slice none 0 0)), (.v (.slice none 0 0))]), none⟩,
    ⟨none, .store 2 (.t 7) (.t 51), none⟩,
    ⟨some 8, .mov (.t 52), none⟩,
    ⟨some 9, .mov (.t 53), none⟩])
  (.seq (.ops [⟨some 55, .load 2 true (.t 7), none⟩,
    ⟨some 56, .mov (.t 1), none⟩,
    ⟨some 57, .bslice 1 [(.v (.int .i64 0))] 3 [(0, 1, (.c (.v (.int .i64 0)))), (1, 1, (.c (.v (.int .i64 0)))), (2, 1, (.c (.v (.int .i64 0))))], none⟩,
    ⟨some 58, .call 13 [(.t 55), (.t 56), (.t 57)], none⟩,
    ⟨some 54, .mov (.t 58), none⟩,
    ⟨some 59, .extract (.t 54) 0, none⟩,
    ⟨some 60, .extract (.t 54) 1, none⟩,
    ⟨some 61, .extract (.t 54) 2, none⟩,
    ⟨some 10, .alloc (.agg [(.v (.slice none 0 0)), (.v (.slice none 0 0))]), none⟩,
    ⟨none, .store 2 (.t 10) (.t 59), none⟩,
    ⟨some 11, .mov (.t 60), none⟩,
    ⟨some 12, .mov (.t 61), none⟩])
  (.seq (.ops [⟨some 63, .load 2 true (.t 7), none⟩,
    ⟨some 64, .mov (.t 1), none⟩,
    ⟨some 65, .bslice 1 [(.v (.int .i64 0))] 3 [(0, 1, (.c (.v (.int .i64 1)))), (1, 1, (.c (.v (.int .i64 2)))), (2, 1, (.c (.v (.int .i64 4))))], none⟩,
    ⟨some 66, .call 15 [(.t 63), (.t 64), (.t 65), (.c (.v (.int .i64 1)))], none⟩,
    ⟨some 62, .mov (.t 66), none⟩,
    ⟨some 67, .extract (.t 62) 0, none⟩,
    ⟨some 68, .extract (.t 62) 1, none⟩,
    ⟨some 13, .alloc (.agg [(.v (.slice none 0 0)), (.v (.slice none 0 0))]), none⟩,
    ⟨none, .store 2 (.t 13) (.t 67), none⟩,
    ⟨some 14, .mov (.t 68), none⟩])
  (.seq (.ops [⟨some 70, .load 2 true (.t 13), none⟩,
    ⟨some 71, .mov (.t 1), none⟩,
    ⟨some 72, .bslice 1 [(.v (.int .i64 0))] 3 [(0, 1, (.c (.v (.int .i64 1)))), (1, 1, (.c (.v (.int .i64 2)))), (2, 1, (.c (.v (.int .i64 4))))], none⟩,
    ⟨some 73, .call 17 [(.t 70), (.t 71), (.t 72), (.c (.v (.int .i64 1)))], none⟩,
    ⟨some 69, .mov (.t 73), none⟩,
    ⟨some 74, .extract (.t 69) 0, none⟩,
    ⟨some 75, .extract (.t 69) 1, none⟩,
    ⟨some 15, .mov (.t 74), none⟩,
    ⟨some 16, .mov (.t 75), none⟩])
  (.seq (.ops [⟨some 77, .load 2 true (.t 13), none⟩,
    ⟨some 78, .mov (.t 1), none⟩,
    ⟨some 79, .bslice 1 [(.v (.int .i64 0))] 3 [(0, 1, (.c (.v (.int .i64 1)))), (1, 1, (.c (.v (.int .i64 2)))), (2, 1, (.c (.v (.int .i64 3))))], none⟩,
    ⟨some 80, .call 17 [(.t 77), (.t 78), (.t 79), (.c (.v (.int .i64 1)))], none⟩,
    ⟨some 76, .mov (.t 80), none⟩,
    ⟨some 81, .extract (.t 76) 0, none⟩,
    ⟨some 82, .extract (.t 76) 1, none⟩,
    ⟨some 17, .mov (.t 81), none⟩,
    ⟨some 18, .mov (.t 82), none⟩])
  (.seq (.ops [⟨some 84, .load 2 true (.t 13), none⟩,
    ⟨some 85, .mov (.t 1), none⟩,
    ⟨some 86, .bslice 1 [(.v (.int .i64 0))] 3 [(0, 1, (.c (.v (.int .i64 1)))), (1, 1, (.c (.v (.int .i64 2)))), (2, 1, (.c (.v (.int .i64 3))))], none⟩,
    ⟨some 87, .call 19 [(.t 84), (.t 85), (.t 86)], none⟩,
    ⟨some 83, .mov (.t 87), none⟩,
    ⟨some 88, .extract (.t 83) 0, none⟩,
    ⟨some 89, .extract (.t 83) 1, none⟩,
    ⟨some 19, .mov (.t 88), none⟩,
    ⟨some 20, .mov (.t 89), none⟩])
  (.seq (.ops [⟨some 91, .load 2 true (.t 13), none⟩,
    ⟨some 92, .mov (.t 1), none⟩,
    ⟨some 93, .bslice 1 [(.v (.int .i64 0))] 3 [(0, 1, (.c (.v (.int .i64 1)))), (1, 1, (.c (.v (.int .i64 2)))), (2, 1, (.c (.v (.int .i64 6))))], none⟩,
    ⟨some 94, .call 19 [(.t 91), (.t 92), (.t 93)], none⟩,
    ⟨some 90, .mov (.t 94), none⟩,
    ⟨some 95, .extract (.t 90) 0, none⟩,
    ⟨some 96, .extract (.t 90) 1, none⟩,
    ⟨some 21, .mov (.t 95), none⟩,
    ⟨some 22, .mov (.t 96), none⟩])
  (.seq (.ops [⟨some 98, .load 2 true (.t 13), none⟩,
    ⟨some 99, .mov (.t 1), none⟩,
    ⟨some 100, .bslice 1 [(.v (.int .i64 0))] 1 [(0, 1, (.c (.v (.int .i64 1))))], none⟩,
    ⟨some 101, .call 19 [(.t 98), (.t 99), (.t 100)], none⟩,
    ⟨some 97, .mov (.t 101), none⟩,
    ⟨some 102, .extract (.t 97) 0, none⟩,
    ⟨some 103, .extract (.t 97) 1, none⟩,
    ⟨some 23, .mov (.t 102), none⟩,
    ⟨some 24, .mov (.t 103), none⟩])
  (.seq (.ops [⟨some 105, .load 2 true (.t 13), none⟩,
    ⟨some 106, .mov (.t 1), none⟩,
    ⟨some 107, .bslice 1 [(.v (.int .i64 0))] 3 [(0, 1, (.c (.v (.int .i64 0)))), (1, 1, (.c (.v (.int .i64 0)))), (2, 1, (.c (.v (.int .i64 0))))], none⟩,
    ⟨some 108, .call 17 [(.t 105), (.t 106), (.t 107), (.c (.v (.int .i64 0)))], none⟩,
    ⟨some 104, .mov (.t 108), none⟩,
    ⟨some 109, .extract (.t 104) 0, none⟩,
    ⟨some 110, .extract (.t 104) 1, none⟩,
    ⟨some 25, .mov (.t 109), none⟩,
    ⟨some 26, .mov (.t 110), none⟩])
  (.seq (.ops [⟨some 112, .mov (.t 1), none⟩,
    ⟨some 113, .call 11 [(.t 112), (.c (.v (.int .i64 (-1))))], none⟩,
    ⟨some 111, .mov (.t 113), none⟩,
    ⟨some 114, .extract (.t 111) 0, none⟩,
    ⟨some 115, .extract (.t 111) 1, none⟩,
    ⟨some 27, .alloc (.agg [(.v (.slice none 0 0)), (.v (.slice none 0 0))]), none⟩,
    ⟨none, .store 2 (.t 27) (.t 114), none⟩,
    ⟨some 28, .mov (.t 115), none⟩])
  (.seq (.ops [⟨some 116, .mov (.t 3), none⟩,
    ⟨some 117, .bin .eql false (.t 116) (.c (.v (.int .i64 0))), none⟩,
    ⟨some 118, .mov (.t 117), none⟩,
    ⟨some 119, .mov (.t 5), some (118, true)⟩,
    ⟨some 120, .pick (.t 118) (.t 119) (.c (.v (.bool false))), none⟩,
    ⟨some 121, .mov (.t 120), none⟩,
    ⟨some 122, .mov (.t 6), some (121, true)⟩,
    ⟨some 123, .bin .eql false (.t 122) (.c (.v (.int .i64 0))), some (121, true)⟩,
    ⟨some 124, .pick (.t 121) (.t 123) (.c (.v (.bool false))), none⟩,
    ⟨some 125, .mov (.t 124), none⟩,
    ⟨some 126, .mov (.t 8), some (125, true)⟩,
    ⟨some 127, .pick (.t 125) (.t 126) (.c (.v (.bool false))), none⟩,
    ⟨some 128, .mov (.t 127), none⟩,
    ⟨some 129, .mov (.t 9), some (128, true)⟩,
    ⟨some 130, .bin .eql false (.t 129) (.c (.v (.int .i64 0))), some (128, true)⟩,
    ⟨some 131, .pick (.t 128) (.t 130) (.c (.v (.bool false))), none⟩,
    ⟨some 132, .mov (.t 131), none⟩,
    ⟨some 133, .mov (.t 11), some (132, true)⟩,
    ⟨some 134, .un .not (.t 133), some (132, true)⟩,
    ⟨some 135, .pick (.t 132) (.t 134) (.c (.v (.bool false))), none⟩,
    ⟨some 136, .mov (.t 135), none⟩,
    ⟨some 137, .mov (.t 12), some (136, true)⟩,
    ⟨some 138, .bin .eql false (.t 137) (.c (.v (.int .i64 7))), some (136, true)⟩,
    ⟨some 139, .pick (.t 136) (.t 138) (.c (.v (.bool false))), none⟩,
    ⟨some 140, .mov (.t 139), none⟩,
    ⟨some 141, .mov (.t 14), some (140, true)⟩,
    ⟨some 142, .bin .eql false (.t 141) (.c (.v (.int .i64 0))), some (140, true)⟩,
    ⟨some 143, .pick (.t 140) (.t 142) (.c (.v (.bool false))), none⟩,
    ⟨some 144, .mov (.t 143), none⟩,
    ⟨some 145, .mov (.t 15), some (144, true)⟩,
    ⟨some 146, .pick (.t 144) (.t 145) (.c (.v (.bool false))), none⟩,
    ⟨some 147, .mov (.t 146), none⟩,
    ⟨some 148, .mov (.t 16), some (147, true)⟩,
    ⟨some 149, .bin .eql false (.t 148) (.c (.v (.int .i64 0))), some (147, true)⟩,
    ⟨some 150, .pick (.t 147) (.t 149) (.c (.v (.bool false))), none⟩,
    ⟨some 151, .mov (.t 150), none⟩,
    ⟨some 152, .mov (.t 17), some (151, true)⟩,
    ⟨some 153, .un .not (.t 152), some (151, true)⟩,
    ⟨some 154, .pick (.t 151) (.t 153) (.c (.v (.bool false))), none⟩,
    ⟨some 155, .mov (.t 154), none⟩,
    ⟨some 156, .mov (.t 18), some (155, true)⟩,
    ⟨some 157, .bin .eql false (.t 156) (.c (.v (.int .i64 0))), some (155, true)⟩,
    ⟨some 158, .pick (.t 155) (.t 157) (.c (.v (.bool false))), none⟩,
    ⟨some 159, .mov (.t 158), none⟩,
    ⟨some 160, .mov (.t 19), some (159, true)⟩,
    ⟨some 161, .pick (.t 159) (.t 160) (.c (.v (.bool false))), none⟩,
    ⟨some 162, .mov (.t 161), none⟩,
    ⟨some 163, .mov (.t 20), some (162, true)⟩,
    ⟨some 164, .bin .eql false (.t 163) (.c (.v (.int .i64 0))), some (162, true)⟩,
    ⟨some 165, .pick (.t 162) (.t 164) (.c (.v (.bool false))), none⟩,
    ⟨some 166, .mov (.t 165), none⟩,
    ⟨some 167, .mov (.t 22), some (166, true)⟩,
    ⟨some 168, .bin .eql false (.t 167) (.c (.v (.int .i64 5))), some (166, true)⟩,
    ⟨some 169, .pick (.t 166) (.t 168) (.c (.v (.bool false))), none⟩,
    ⟨some 170, .mov (.t 169), none⟩,
    ⟨some 171, .mov (.t 24), some (170, true)⟩,
    ⟨some 172, .bin .eql false (.t 171) (.c (.v (.int .i64 1))), some (170, true)⟩,
    ⟨some 173, .pick (.t 170) (.t 172) (.c (.v (.bool false))), none⟩,
    ⟨some 174, .mov (.t 173), none⟩,
    ⟨some 175, .mov (.t 26), some (174, true)⟩,
    ⟨some 176, .bin .eql false (.t 175) (.c (.v (.int .i64 10))), some (174, true)⟩,
    ⟨some 177, .pick (.t 174) (.t 176) (.c (.v (.bool false))), none⟩,
    ⟨some 178, .mov (.t 177), none⟩,
    ⟨some 179, .mov (.t 28), some (178, true)⟩,
    ⟨some 180, .bin .eql false (.t 179) (.c (.v (.int .i64 1))), some (178, true)⟩,
    ⟨some 181, .pick (.t 178) (.t 180) (.c (.v (.bool false))), none⟩,
    ⟨some 182, .mov (.t 181), none⟩,
    ⟨some 183, .load 2 true (.t 13), some (182, true)⟩,
    ⟨some 184, .call 21 [(.t 183)], some (182, true)⟩,
    ⟨some 185, .bin .eql false (.t 184) (.c (.v (.int .i64 2))), some (182, true)⟩,
    ⟨some 186, .pick (.t 182) (.t 185) (.c (.v (.bool false))), none⟩,
    ⟨some 187, .mov (.t 186), none⟩,
    ⟨some 188, .load 2 true (.t 13), some (187, true)⟩,
    ⟨some 189, .call 23 [(.t 188)], some (187, true)⟩,
    ⟨some 190, .bslice 1 [(.v (.int .i64 0))] 2 [(0, 1, (.c (.v (.int .i64 2)))), (1, 1, (.c (.v (.int .i64 1))))], some (187, true)⟩,
    ⟨some 191, .call 22 [(.t 189), (.t 190)], some (187, true)⟩,
    ⟨some 192, .pick (.t 187) (.t 191) (.c (.v (.bool false))), none⟩,
    ⟨some 0, .mov (.t 192), none⟩])
  .ret)))))))))))))))⟩ := by kernel_rfl
theorem ir9 : compF Try.prog 9 = some ⟨59, [.t 2],
  (.seq (.ops [⟨some 2, .mov (.c (.v (.bool false))), none⟩])
  (.seq (.seq (.ops [⟨some 4, .mov (.t 0), none⟩,
    ⟨some 5, .len false (.t 4), none⟩,
    ⟨some 6, .bin .lss false (.t 5) (.c (.v (.int .i64 1))), none⟩,
    ⟨some 7, .mov (.t 6), none⟩,
    ⟨some 8, .mov (.t 0), some (7, false)⟩,
    ⟨some 9, .len false (.t 8), some (7, false)⟩,
    ⟨some 10, .bin .gtr false (.t 9) (.c (.v (.int .i64 17))), some (7, false)⟩,
    ⟨some 11, .pick (.t 7) (.c (.v (.bool true))) (.t 10), none⟩])
  (.cond (.t 11)
    (.seq (.ops [⟨some 2, .mov (.c (.v (.bool false))), none⟩])
    .ret)
    .skip))
  (.seq (.seq (.ops [⟨some 3, .mov (.c (.v (.int .i64 0))), none⟩])
  (.block 0 (.loop
    (.seq (.seq (.ops [⟨some 12, .mov (.t 3), none⟩,
      ⟨some 13, .mov (.t 0), none⟩,
      ⟨some 14, .len false (.t 13), none⟩,
      ⟨some 15, .bin .lss false (.t 12) (.t 14), none⟩])
    (.cond (.t 15)
      .skip
      (.exit 0)))
    (.seq (.block 1 (.seq (.draw [[⟨some 18, .mov (.t 0), none⟩,
        ⟨some 19, .mov (.t 3), none⟩,
        ⟨some 20, .iaddr 2 (.t 18) (.t 19), none⟩,
        ⟨some 21, .faddr 0 (.t 20), none⟩,
        ⟨some 22, .load 1 false (.t 21), none⟩,
        ⟨some 23, .mov (.t 0), none⟩,
        ⟨some 24, .mov (.t 3), none⟩,
        ⟨some 25, .iaddr 2 (.t 23) (.t 24), none⟩,
        ⟨some 26, .faddr 1 (.t 25), none⟩,
        ⟨some 27, .load 1 false (.t 26), none⟩],
      [⟨some 28, .bin .gtr false (.t 22) (.t 27), none⟩],
      [⟨some 29, .mov (.t 28), none⟩],
      [⟨some 30, .mov (.t 0), some (29, false)⟩,
        ⟨some 31, .mov (.t 3), some (29, false)⟩],
      [⟨some 32, .iaddr 2 (.t 30) (.t 31), some (29, false)⟩],
      [⟨some 33, .faddr 0 (.t 32), some (29, false)⟩],
      [⟨some 34, .load 1 false (.t 33), some (29, false)⟩],
      [⟨some 35, .bin .lss false (.t 34) (.c (.v (.int .i64 (-1073741824)))), some (29, false)⟩],
      [⟨some 36, .pick (.t 29) (.c (.v (.bool true))) (.t 35), none⟩],
      [⟨some 37, .mov (.t 36), none⟩],
      [⟨some 38, .mov (.t 0), some (37, false)⟩,
        ⟨some 39, .mov (.t 3), some (37, false)⟩],
      [⟨some 40, .iaddr 2 (.t 38) (.t 39), some (37, false)⟩],
      [⟨some 41, .faddr 1 (.t 40), some (37, false)⟩],
      [⟨some 42, .load 1 false (.t 41), some (37, false)⟩],
      [⟨some 43, .bin .gtr false (.t 42) (.c (.v (.int .i64 1073741824))), some (37, false)⟩],
      [⟨some 44, .pick (.t 37) (.c (.v (.bool true))) (.t 43), none⟩],
      [⟨some 45, .mov (.t 44), none⟩],
      [⟨some 46, .mov (.t 0), some (45, false)⟩,
        ⟨some 47, .mov (.t 3), some (45, false)⟩,
        ⟨some 48, .iaddr 2 (.t 46) (.t 47), some (45, false)⟩,
        ⟨some 49, .faddr 1 (.t 48), some (45, false)⟩,
        ⟨some 50, .load 1 false (.t 49), some (45, false)⟩,
        ⟨some 51, .mov (.t 0), some (45, false)⟩,
        ⟨some 52, .mov (.t 3), some (45, false)⟩,
        ⟨some 53, .iaddr 2 (.t 51) (.t 52), some (45, false)⟩,
        ⟨some 54, .faddr 0 (.t 53), some (45, false)⟩,
        ⟨some 55, .load 1 false (.t 54), some (45, false)⟩],
      [⟨some 56, .bin .sub false (.t 50) (.t 55), some (45, false)⟩],
      [⟨some 57, .bin .gtr false (.t 56) (.c (.v (.int .i64 65535))), some (45, false)⟩],
      [⟨some 58, .pick (.t 45) (.c (.v (.bool true))) (.t 57), none⟩]])
    (.cond (.t 58)
      (.seq (.ops [⟨some 2, .mov (.c (.v (.bool false))), none⟩])
      .ret)
      .skip)))
    (.ops [⟨some 16, .mov (.t 3), none⟩,
      ⟨some 17, .bin .add false (.t 16) (.c (.v (.int .i64 1))), none⟩,
      ⟨some 3, .mov (.t 17), none⟩]))))))
  (.seq (.ops [⟨some 2, .mov (.c (.v (.bool true))), none⟩])
  .ret))))⟩ := by kernel_rfl
theorem ir10 : compF Try.prog 10 = some ⟨23, [.t 4],
  (.seq (.ops [⟨some 4, .mov (.c (.v (.bool false))), none⟩])
  (.seq (.seq (.ops [⟨some 6, .mov (.t 0), none⟩,
    ⟨some 7, .len false (.t 6), none⟩,
    ⟨some 8, .mov (.t 1), none⟩,
    ⟨some 9, .bin .gtr false (.t 7) (.t 8), none⟩])
  (.cond (.t 9)
    (.seq (.ops [⟨some 4, .mov (.c (.v (.bool false))), none⟩])
    .ret)
    .skip))
  (.seq (.seq (.ops [⟨some 5, .mov (.c (.v (.int .i64 0))), none⟩])
  (.block 0 (.loop
    (.seq (.seq (.ops [⟨some 10, .mov (.t 5), none⟩,
      ⟨some 11, .mov (.t 0), none⟩,
      ⟨some 12, .len false (.t 11), none⟩,
      ⟨some 13, .bin .lss false (.t 10) (.t 12), none⟩])
    (.cond (.t 13)
      .skip
      (.exit 0)))
    (.seq (.block 1 (.seq (.ops [⟨some 16, .mov (.t 0), none⟩,
      ⟨some 17, .mov (.t 5), none⟩,
      ⟨some 18, .iaddr 3 (.t 16) (.t 17), none⟩,
      ⟨some 19, .faddr 1 (.t 18), none⟩,
      ⟨some 20, .load 1 false (.t 19), none⟩,
      ⟨some 21, .len false (.t 20), none⟩,
      ⟨some 22, .bin .gtr false (.t 21) (.c (.v (.int .i64 40))), none⟩])
    (.cond (.t 22)
      (.seq (.ops [⟨some 4, .mov (.c (.v (.bool false))), none⟩])
      .ret)
      .skip)))
    (.ops [⟨some 14, .mov (.t 5), none⟩,
      ⟨some 15, .bin .add false (.t 14) (.c (.v (.int .i64 1))), none⟩,
      ⟨some 5, .mov (.t 15), none⟩]))))))
  (.seq (.ops [⟨some 4, .mov (.c (.v (.bool true))), none⟩])
  .ret))))⟩ := by kernel_rfl
theorem ir11 : compF Try.prog 11 = some ⟨33, [.c 4 2 true, .t 5],
  (.seq (.ops [⟨some 4, .alloc (.agg [(.v (.slice none 0 0)), (.v (.slice none 0 0))]), none⟩,
    ⟨some 5, .mov (.c (.v (.int .i64 0))), none⟩])
  (.seq (.ops [⟨some 10, .mov (.t 1), none⟩,
    ⟨some 11, .call 30 [(.t 10)], none⟩,
    ⟨some 9, .mov (.t 11), none⟩,
    ⟨some 12, .extract (.t 9) 0, none⟩,
    ⟨some 13, .extract (.t 9) 1, none⟩,
    ⟨some 6, .alloc (.agg [(.v (.int .i64 0)), (.v (.slice none 0 0)), (.v (.slice none 0 0))]), none⟩,
    ⟨none, .store 3 (.t 6) (.t 12), none⟩,
    ⟨some 7, .mov (.t 13), none⟩])
  (.seq (.seq (.ops [⟨some 14, .mov (.t 7), none⟩,
    ⟨some 15, .bin .neq false (.t 14) (.c (.v (.int .i64 0))), none⟩])
  (.cond (.t 15)
    (.seq (.ops [⟨some 16, .build [(.v (.slice none 0 0)), (.v (.slice none 0 0))] [], none⟩,
      ⟨some 17, .mov (.t 7), none⟩,
      ⟨none, .store 2 (.t 4) (.t 16), none⟩,
      ⟨some 5, .mov (.t 17), none⟩])
    .ret)
    .skip))
  (.seq (.ops [⟨some 18, .build [(.v (.slice none 0 0)), (.v (.slice none 0 0))] [], none⟩,
    ⟨some 8, .alloc (.agg [(.v (.slice none 0 0)), (.v (.slice none 0 0))]), none⟩,
    ⟨none, .store 2 (.t 8) (.t 18), none⟩])
  (.seq (.seq (.ops [⟨some 19, .mov (.t 0), none⟩,
    ⟨some 20, .len false (.t 19), none⟩,
    ⟨some 21, .call 31 [(.t 20)], none⟩,
    ⟨some 22, .mm true (.c (.v (.int .i64 1))) [(.t 21)], none⟩,
    ⟨some 23, .mov (.c (.v (.int .i64 0))), none⟩])
  (.block 0 (.loop
    (.seq (.ops [⟨some 24, .bin .lss false (.t 23) (.t 22), none⟩])
    (.seq (.cond (.t 24)
      .skip
      (.exit 0))
    (.seq (.block 1 (.ops [⟨some 25, .faddr 0 (.t 8), none⟩,
      ⟨some 26, .load 1 false (.t 25), none⟩,
      ⟨some 27, .load 3 true (.t 6), none⟩,
      ⟨some 28, .bslice 3 [(.v (.int .i64 0)), (.v (.slice none 0 0)), (.v (.slice none 0 0))] 1 [(0, 3, (.t 27))], none⟩,
      ⟨some 29, .append 3 56 [(.v (.int .i64 0)), (.v (.slice none 0 0)), (.v (.slice none 0 0))] (.t 26) (.t 28), none⟩,
      ⟨some 30, .faddr 0 (.t 8), none⟩,
      ⟨none, .store 1 (.t 30) (.t 29), none⟩]))
    (.ops [⟨some 31, .bin .add false (.t 23) (.c (.v (.int .i64 1))), none⟩,
      ⟨some 23, .mov (.t 31), none⟩])))))))
  (.seq (.ops [⟨some 32, .load 2 true (.t 8), none⟩,
    ⟨none, .store 2 (.t 4) (.t 32), none⟩,
    ⟨some 5, .mov (.c (.v (.int .i64 0))), none⟩])
  .ret))))))⟩ := by kernel_rfl
theorem ir12 : compF Try.prog 12 = some ⟨16, [.c 4 4 true, .t 5],
  (.seq (.ops [⟨some 4, .alloc (.agg [(.v (.slice none 0 0)), (.v (.int .i64 0)), (.v (.slice none 0 0)), (.v (.slice none 0 0))]), none⟩,
    ⟨some 5, .mov (.c (.v (.int .i64 0))), none⟩])
  (.seq (.seq (.ops [⟨some 6, .mov (.t 1), none⟩,
    ⟨some 7, .bin .lss false (.t 6) (.c (.v (.int .i64 0))), none⟩,
    ⟨some 8, .mov (.t 7), none⟩,
    ⟨some 9, .mov (.t 1), some (8, false)⟩,
    ⟨some 10, .bin .gtr false (.t 9) (.c (.v (.int .i64 1048576))), some (8, false)⟩,
    ⟨some 11, .pick (.t 8) (.c (.v (.bool true))) (.t 10), none⟩])
  (.cond (.t 11)
    (.seq (.ops [⟨some 12, .build [(.v (.slice none 0 0)), (.v (.int .i64 0)), (.v (.slice none 0 0)), (.v (.slice none 0 0))] [], none⟩,
      ⟨none, .store 4 (.t 4) (.t 12), none⟩,
      ⟨some 5, .mov (.c (.v (.int .i64 1))), none⟩])
    .ret)
    .skip))
  (.seq (.ops [⟨some 13, .mov (.t 0), none⟩,
    ⟨some 14, .mov (.t 1), none⟩,
    ⟨some 15, .build [(.v (.slice none 0 0)), (.v (.int .i64 0)), (.v (.slice none 0 0)), (.v (.slice none 0 0))] [(0, 1, (.t 13)), (1, 1, (.t 14))], none⟩,
    ⟨none, .store 4 (.t 4) (.t 15), none⟩,
    ⟨some 5, .mov (.c (.v (.int .i64 0))), none⟩])
  .ret)))⟩ := by kernel_rfl
theorem ir13 : compF Try.prog 13 = some ⟨64, [.c 6 2 true, .t 7, .t 8],
  (.seq (.ops [⟨some 3, .box (.t 0), none⟩,
    ⟨some 6, .alloc (.agg [(.v (.slice none 0 0)), (.v (.slice none 0 0))]), none⟩,
    ⟨some 7, .mov (.c (.v (.bool false))), none⟩,
    ⟨some 8, .mov (.c (.v (.int .i64 0))), none⟩])
  (.seq (.seq (.ops [⟨some 13, .mov (.t 1), none⟩,
    ⟨some 14, .mov (.t 2), none⟩,
    ⟨some 15, .call 32 [(.t 13), (.t 14)], none⟩,
    ⟨some 9, .mov (.t 15), none⟩])
  (.seq (.ops [⟨some 16, .mov (.t 9), none⟩,
    ⟨some 17, .bin .neq false (.t 16) (.c (.v (.int .i64 0))), none⟩])
  (.cond (.t 17)
    (.seq (.ops [⟨some 18, .load 2 true (.t 3), none⟩,
      ⟨some 19, .mov (.t 9), none⟩,
      ⟨none, .store 2 (.t 6) (.t 18), none⟩,
      ⟨some 7, .mov (.c (.v (.bool false))), none⟩,
      ⟨some 8, .mov (.t 19), none⟩])
    .ret)
    .skip)))
  (.seq (.seq (.ops [⟨some 21, .load 2 true (.t 3), none⟩,
    ⟨some 22, .mov (.t 1), none⟩,
    ⟨some 23, .mov (.t 2), none⟩,
    ⟨some 24, .call 33 [(.t 21), (.t 22), (.t 23)], none⟩,
    ⟨some 20, .mov (.t 24), none⟩,
    ⟨some 25, .extract (.t 20) 0, none⟩,
    ⟨some 26, .extract (.t 20) 1, none⟩,
    ⟨some 10, .mov (.t 25), none⟩,
    ⟨some 11, .mov (.t 26), none⟩])
  (.seq (.ops [⟨some 27, .mov (.t 11), none⟩])
  (.cond (.t 27)
    (.seq (.ops [⟨some 28, .load 2 true (.t 3), none⟩,
      ⟨none, .store 2 (.t 6) (.t 28), none⟩,
      ⟨some 7, .mov (.c (.v (.bool false))), none⟩,
      ⟨some 8, .mov (.c (.v (.int .i64 0))), none⟩])
    .ret)
    .skip)))
  (.seq (.seq (.draw [[⟨some 29, .load 2 true (.t 3), none⟩,
      ⟨some 30, .call 21 [(.t 29)], none⟩,
      ⟨some 31, .faddr 0 (.t 3), none⟩,
      ⟨some 32, .load 1 false (.t 31), none⟩,
      ⟨some 33, .iaddr 3 (.t 32) (.c (.v (.int .i64 0))), none⟩,
      ⟨some 34, .faddr 0 (.t 33), none⟩,
      ⟨some 35, .faddr 0 (.t 34), none⟩,
      ⟨some 36, .load 1 false (.t 35), none⟩],
    [⟨some 37, .bin .geq false (.t 30) (.t 36), none⟩]])
  (.cond (.t 37)
    (.seq (.ops [⟨some 38, .load 2 true (.t 3), none⟩,
      ⟨none, .store 2 (.t 6) (.t 38), none⟩,
      ⟨some 7, .mov (.c (.v (.bool false))), none⟩,
      ⟨some 8, .mov (.c (.v (.int .i64 7))), none⟩])
    .ret)
    .skip))
  (.seq (.ops [⟨some 39, .faddr 0 (.t 3), none⟩,
    ⟨some 40, .load 1 false (.t 39), none⟩,
    ⟨some 41, .call 34 [(.t 40)], none⟩,
    ⟨some 42, .build [(.v (.slice none 0 0)), (.v .nilFunc)] [(0, 1, (.t 41))], none⟩,
    ⟨some 43, .box (.t 42), none⟩,
    ⟨some 12, .mov (.t 43), none⟩])
  (.seq (.ops [⟨some 44, .mov (.t 12), none⟩,
    ⟨some 45, .mov (.t 12), none⟩,
    ⟨some 46, .mkfn (.func 35) [(.t 45)] [], none⟩,
    ⟨some 47, .nilchk (.t 44), none⟩,
    ⟨some 48, .faddr 1 (.t 47), none⟩,
    ⟨none, .store 1 (.t 48) (.t 46), none⟩])
  (.seq (.ops [⟨some 49, .mov (.t 12), none⟩,
    ⟨some 50, .mov (.t 1), none⟩,
    ⟨some 51, .mov (.t 2), none⟩,
    ⟨some 52, .call 37 [(.t 50), (.t 51)], none⟩,
    ⟨some 53, .call 36 [(.t 49), (.t 52)], none⟩])
  (.seq (.drawF [([0, 1, 2, 3], [⟨some 54, .mov (.t 12), none⟩,
      ⟨some 55, .nilchk (.t 54), none⟩,
      ⟨some 56, .faddr 0 (.t 55), none⟩,
      ⟨some 57, .load 1 false (.t 56), none⟩,
      ⟨some 58, .faddr 1 (.t 3), none⟩,
      ⟨some 59, .load 1 false (.t 58), none⟩,
      ⟨some 60, .call 38 [(.t 59)], none⟩,
      ⟨some 61, .bslice 1 [(.v (.int .u8 0))] 1 [(0, 1, (.c (.v (.int .u8 0))))], none⟩,
      ⟨some 62, .append 1 1 [(.v (.int .u8 0))] (.t 60) (.t 61), none⟩]),
    ([], [⟨some 63, .build [(.v (.slice none 0 0)), (.v (.slice none 0 0))] [(0, 1, (.t 57)), (1, 1, (.t 62))], none⟩]),
    ([], [⟨none, .store 2 (.t 6) (.t 63), none⟩]),
    ([], [⟨some 7, .mov (.c (.v (.bool true))), none⟩]),
    ([], [⟨some 8, .mov (.c (.v (.int .i64 0))), none⟩])])
  .ret))))))))⟩ := by kernel_rfl
theorem ir14 : compF Try.prog 14 = some ⟨49, [.c 4 4 true, .t 5, .t 6],
  (.seq (.ops [⟨some 2, .box (.t 0), none⟩,
    ⟨some 4, .alloc (.agg [(.v (.slice none 0 0)), (.v (.int .i64 0)), (.v (.slice none 0 0)), (.v (.slice none 0 0))]), none⟩,
    ⟨some 5, .mov (.c (.v (.bool false))), none⟩,
    ⟨some 6, .mov (.c (.v (.int .i64 0))), none⟩])
  (.seq (.ops [⟨some 8, .faddr 0 (.t 2), none⟩,
    ⟨some 9, .load 1 false (.t 8), none⟩,
    ⟨some 10, .mov (.t 1), none⟩,
    ⟨some 11, .call 39 [(.t 9), (.t 10)], none⟩,
    ⟨some 7, .mov (.t 11), none⟩])
  (.seq (.seq (.ops [⟨some 12, .mov (.t 7), none⟩,
    ⟨some 13, .bin .neq false (.t 12) (.c (.v (.int .i64 0))), none⟩])
  (.cond (.t 13)
    (.seq (.ops [⟨some 14, .load 4 true (.t 2), none⟩,
      ⟨some 15, .mov (.t 7), none⟩,
      ⟨none, .store 4 (.t 4) (.t 14), none⟩,
      ⟨some 5, .mov (.c (.v (.bool false))), none⟩,
      ⟨some 6, .mov (.t 15), none⟩])
    .ret)
    .skip))
  (.seq (.seq (.ops [⟨some 16, .load 4 true (.t 2), none⟩,
    ⟨some 17, .mov (.t 1), none⟩,
    ⟨some 18, .call 40 [(.t 16), (.t 17)], none⟩,
    ⟨some 19, .bin .geq false (.t 18) (.c (.v (.int .i64 0))), none⟩])
  (.cond (.t 19)
    (.seq (.ops [⟨some 20, .load 4 true (.t 2), none⟩,
      ⟨none, .store 4 (.t 4) (.t 20), none⟩,
      ⟨some 5, .mov (.c (.v (.bool false))), none⟩,
      ⟨some 6, .mov (.c (.v (.int .i64 0))), none⟩])
    .ret)
    .skip))
  (.seq (.seq (.ops [⟨some 21, .faddr 2 (.t 2), none⟩,
    ⟨some 22, .load 1 false (.t 21), none⟩,
    ⟨some 23, .len false (.t 22), none⟩,
    ⟨some 24, .faddr 1 (.t 2), none⟩,
    ⟨some 25, .load 1 false (.t 24), none⟩,
    ⟨some 26, .bin .geq false (.t 23) (.t 25), none⟩])
  (.cond (.t 26)
    (.seq (.ops [⟨some 27, .load 4 true (.t 2), none⟩,
      ⟨none, .store 4 (.t 4) (.t 27), none⟩,
      ⟨some 5, .mov (.c (.v (.bool false))), none⟩,
      ⟨some 6, .mov (.c (.v (.int .i64 7))), none⟩])
    .ret)
    .skip))
  (.seq (.drawF [([0, 1, 2, 3], [⟨some 28, .faddr 0 (.t 2), none⟩,
      ⟨some 29, .load 1 false (.t 28), none⟩,
      ⟨some 30, .faddr 1 (.t 2), none⟩,
      ⟨some 31, .load 1 false (.t 30), none⟩,
      ⟨some 32, .bslice 1 [(.v (.slice none 0 0))] 0 [], none⟩,
      ⟨some 33, .faddr 2 (.t 2), none⟩,
      ⟨some 34, .load 1 false (.t 33), none⟩,
      ⟨some 35, .append 1 24 [(.v (.slice none 0 0))] (.t 32) (.t 34), none⟩,
      ⟨some 36, .bslice 1 [(.v (.int .i64 0))] 0 [], none⟩,
      ⟨some 37, .mov (.t 1), none⟩,
      ⟨some 38, .append 1 8 [(.v (.int .i64 0))] (.t 36) (.t 37), none⟩,
      ⟨some 39, .bslice 1 [(.v (.slice none 0 0))] 1 [(0, 1, (.t 38))], none⟩,
      ⟨some 40, .append 1 24 [(.v (.slice none 0 0))] (.t 35) (.t 39), none⟩,
      ⟨some 41, .bslice 2 [(.v (.bool false)), (.v (.bool false))] 0 [], none⟩,
      ⟨some 42, .faddr 3 (.t 2), none⟩,
      ⟨some 43, .load 1 false (.t 42), none⟩,
      ⟨some 44, .append 2 2 [(.v (.bool false)), (.v (.bool false))] (.t 41) (.t 43), none⟩,
      ⟨some 45, .build [(.v (.bool false)), (.v (.bool false))] [], none⟩,
      ⟨some 46, .bslice 2 [(.v (.bool false)), (.v (.bool false))] 1 [(0, 2, (.t 45))], none⟩,
      ⟨some 47, .append 2 2 [(.v (.bool false)), (.v (.bool false))] (.t 44) (.t 46), none⟩]),
    ([], [⟨some 48, .build [(.v (.slice none 0 0)), (.v (.int .i64 0)), (.v (.slice none 0 0)), (.v (.slice none 0 0))] [(0, 1, (.t 29)), (1, 1, (.t 31)), (2, 1, (.t 40)), (3, 1, (.t 47))], none⟩]),
    ([], [⟨none, .store 4 (.t 4) (.t 48), none⟩]),
    ([], [⟨some 5, .mov (.c (.v (.bool true))), none⟩]),
    ([], [⟨some 6, .mov (.c (.v (.int .i64 0))), none⟩])])
  .ret))))))⟩ := by kernel_rfl
theorem ir15 : compF Try.prog 15 = some ⟨38, [.c 8 2 true, .t 9],
  (.seq (.ops [⟨some 4, .box (.t 0), none⟩,
    ⟨some 8, .alloc (.agg [(.v (.slice none 0 0)), (.v (.slice none 0 0))]), none⟩,
    ⟨some 9, .mov (.c (.v (.int .i64 0))), none⟩])
  (.seq (.ops [⟨some 13, .load 2 true (.t 4), none⟩,
    ⟨some 14, .mov (.t 1), none⟩,
    ⟨some 15, .mov (.t 2), none⟩,
    ⟨some 16, .mov (.t 3), none⟩,
    ⟨some 17, .call 41 [(.t 13), (.t 14), (.t 15), (.t 16)], none⟩,
    ⟨some 12, .mov (.t 17), none⟩,
    ⟨some 18, .extract (.t 12) 0, none⟩,
    ⟨some 19, .extract (.t 12) 1, none⟩,
    ⟨some 10, .mov (.t 18), none⟩,
    ⟨some 11, .mov (.t 19), none⟩])
  (.seq (.seq (.ops [⟨some 20, .mov (.t 11), none⟩,
    ⟨some 21, .bin .neq false (.t 20) (.c (.v (.int .i64 0))), none⟩])
  (.cond (.t 21)
    (.seq (.ops [⟨some 22, .load 2 true (.t 4), none⟩,
      ⟨some 23, .mov (.t 11), none⟩,
      ⟨none, .store 2 (.t 8) (.t 22), none⟩,
      ⟨some 9, .mov (.t 23), none⟩])
    .ret)
    .skip))
  (.seq (.ops [⟨some 24, .faddr 1 (.t 4), none⟩,
    ⟨some 25, .load 1 false (.t 24), none⟩,
    ⟨some 26, .call 42 [(.t 25)], none⟩,
    ⟨some 27, .faddr 1 (.t 4), none⟩,
    ⟨none, .store 1 (.t 27) (.t 26), none⟩])
  (.seq (.draw [[⟨some 28, .faddr 1 (.t 4), none⟩,
      ⟨some 29, .load 1 false (.t 28), none⟩,
      ⟨some 30, .mov (.t 10), none⟩,
      ⟨some 31, .iaddr 1 (.t 29) (.t 30), none⟩,
      ⟨some 32, .load 1 false (.t 31), none⟩,
      ⟨some 33, .mov (.t 3), none⟩,
      ⟨some 34, .bin .shl false (.c (.v (.int .u8 1))) (.t 33), none⟩],
    [⟨some 35, .bin .or false (.t 32) (.t 34), none⟩],
    [⟨some 36, .iaddr 1 (.t 29) (.t 30), none⟩],
    [⟨none, .store 1 (.t 36) (.t 35), none⟩]])
  (.seq (.ops [⟨some 37, .load 2 true (.t 4), none⟩,
    ⟨none, .store 2 (.t 8) (.t 37), none⟩,
    ⟨some 9, .mov (.c (.v (.int .i64 0))), none⟩])
  .ret))))))⟩ := by kernel_rfl
theorem ir16 : compF Try.prog 16 = some ⟨39, [.c 6 4 true, .t 7],
  (.seq (.ops [⟨some 3, .box (.t 0), none⟩,
    ⟨some 6, .alloc (.agg [(.v (.slice none 0 0)), (.v (.int .i64 0)), (.v (.slice none 0 0)), (.v (.slice none 0 0))]), none⟩,
    ⟨some 7, .mov (.c (.v (.int .i64 0))), none⟩])
  (.seq (.ops [⟨some 12, .load 4 true (.t 3), none⟩,
    ⟨some 13, .mov (.t 1), none⟩,
    ⟨some 14, .mov (.t 2), none⟩,
    ⟨some 15, .call 43 [(.t 12), (.t 13), (.t 14)], none⟩,
    ⟨some 11, .mov (.t 15), none⟩,
    ⟨some 16, .extract (.t 11) 0, none⟩,
    ⟨some 17, .extract (.t 11) 1, none⟩,
    ⟨some 8, .mov (.t 16), none⟩,
    ⟨some 9, .mov (.t 17), none⟩])
  (.seq (.seq (.ops [⟨some 18, .mov (.t 9), none⟩,
    ⟨some 19, .bin .neq false (.t 18) (.c (.v (.int .i64 0))), none⟩])
  (.cond (.t 19)
    (.seq (.ops [⟨some 20, .load 4 true (.t 3), none⟩,
      ⟨some 21, .mov (.t 9), none⟩,
      ⟨none, .store 4 (.t 6) (.t 20), none⟩,
      ⟨some 7, .mov (.t 21), none⟩])
    .ret)
    .skip))
  (.seq (.ops [⟨some 22, .bslice 2 [(.v (.bool false)), (.v (.bool false))] 0 [], none⟩,
    ⟨some 23, .faddr 3 (.t 3), none⟩,
    ⟨some 24, .load 1 false (.t 23), none⟩,
    ⟨some 25, .append 2 2 [(.v (.bool false)), (.v (.bool false))] (.t 22) (.t 24), none⟩,
    ⟨some 10, .mov (.t 25), none⟩])
  (.seq (.ops [⟨some 26, .mov (.t 10), none⟩,
    ⟨some 27, .mov (.t 8), none⟩,
    ⟨some 28, .mov (.t 2), none⟩,
    ⟨some 29, .iaddr 2 (.t 26) (.t 27), none⟩,
    ⟨some 30, .iaddrA 2 1 (.t 29) (.t 28), none⟩,
    ⟨none, .store 1 (.t 30) (.c (.v (.bool true))), none⟩])
  (.seq (.ops [⟨some 31, .faddr 0 (.t 3), none⟩,
    ⟨some 32, .load 1 false (.t 31), none⟩,
    ⟨some 33, .faddr 1 (.t 3), none⟩,
    ⟨some 34, .load 1 false (.t 33), none⟩,
    ⟨some 35, .faddr 2 (.t 3), none⟩,
    ⟨some 36, .load 1 false (.t 35), none⟩,
    ⟨some 37, .mov (.t 10), none⟩,
    ⟨some 38, .build [(.v (.slice none 0 0)), (.v (.int .i64 0)), (.v (.slice none 0 0)), (.v (.slice none 0 0))] [(0, 1, (.t 32)), (1, 1, (.t 34)), (2, 1, (.t 36)), (3, 1, (.t 37))], none⟩,
    ⟨none, .store 4 (.t 6) (.t 38), none⟩,
    ⟨some 7, .mov (.c (.v (.int .i64 0))), none⟩])
  .ret))))))⟩ := by kernel_rfl
theorem ir17 : compF Try.prog 17 = some ⟨32, [.t 8, .t 9],
  (.seq (.ops [⟨some 4, .box (.t 0), none⟩,
    ⟨some 8, .mov (.c (.v (.bool false))), none⟩,
    ⟨some 9, .mov (.c (.v (.int .i64 0))), none⟩])
  (.seq (.ops [⟨some 13, .load 2 true (.t 4), none⟩,
    ⟨some 14, .mov (.t 1), none⟩,
    ⟨some 15, .mov (.t 2), none⟩,
    ⟨some 16, .mov (.t 3), none⟩,
    ⟨some 17, .call 41 [(.t 13), (.t 14), (.t 15), (.t 16)], none⟩,
    ⟨some 12, .mov (.t 17), none⟩,
    ⟨some 18, .extract (.t 12) 0, none⟩,
    ⟨some 19, .extract (.t 12) 1, none⟩,
    ⟨some 10, .mov (.t 18), none⟩,
    ⟨some 11, .mov (.t 19), none⟩])
  (.seq (.seq (.ops [⟨some 20, .mov (.t 11), none⟩,
    ⟨some 21, .bin .neq false (.t 20) (.c (.v (.int .i64 0))), none⟩])
  (.cond (.t 21)
    (.seq (.ops [⟨some 22, .mov (.t 11), none⟩,
      ⟨some 8, .mov (.c (.v (.bool false))), none⟩,
      ⟨some 9, .mov (.t 22), none⟩])
    .ret)
    .skip))
  (.seq (.draw [[⟨some 23, .faddr 1 (.t 4), none⟩,
      ⟨some 24, .load 1 false (.t 23), none⟩,
      ⟨some 25, .mov (.t 10), none⟩,
      ⟨some 26, .iaddr 1 (.t 24) (.t 25), none⟩,
      ⟨some 27, .load 1 false (.t 26), none⟩,
      ⟨some 28, .mov (.t 3), none⟩,
      ⟨some 29, .bin .shl false (.c (.v (.int .u8 1))) (.t 28), none⟩],
    [⟨some 30, .bin .and false (.t 27) (.t 29), none⟩],
    [⟨some 31, .bin .neq false (.t 30) (.c (.v (.int .u8 0))), none⟩],
    [⟨some 8, .mov (.t 31), none⟩],
    [⟨some 9, .mov (.c (.v (.int .i64 0))), none⟩]])
  .ret))))⟩ := by kernel_rfl
theorem ir18 : compF Try.prog 18 = some ⟨27, [.t 6, .t 7],
  (.seq (.ops [⟨some 3, .box (.t 0), none⟩,
    ⟨some 6, .mov (.c (.v (.bool false))), none⟩,
    ⟨some 7, .mov (.c (.v (.int .i64 0))), none⟩])
  (.seq (.ops [⟨some 11, .load 4 true (.t 3), none⟩,
    ⟨some 12, .mov (.t 1), none⟩,
    ⟨some 13, .mov (.t 2), none⟩,
    ⟨some 14, .call 43 [(.t 11), (.t 12), (.t 13)], none⟩,
    ⟨some 10, .mov (.t 14), none⟩,
    ⟨some 15, .extract (.t 10) 0, none⟩,
    ⟨some 16, .extract (.t 10) 1, none⟩,
    ⟨some 8, .mov (.t 15), none⟩,
    ⟨some 9, .mov (.t 16), none⟩])
  (.seq (.seq (.ops [⟨some 17, .mov (.t 9), none⟩,
    ⟨some 18, .bin .neq false (.t 17) (.c (.v (.int .i64 0))), none⟩])
  (.cond (.t 18)
    (.seq (.ops [⟨some 19, .mov (.t 9), none⟩,
      ⟨some 6, .mov (.c (.v (.bool false))), none⟩,
      ⟨some 7, .mov (.t 19), none⟩])
    .ret)
    .skip))
  (.seq (.ops [⟨some 20, .faddr 3 (.t 3), none⟩,
    ⟨some 21, .load 1 false (.t 20), none⟩,
    ⟨some 22, .mov (.t 8), none⟩,
    ⟨some 23, .mov (.t 2), none⟩,
    ⟨some 24, .iaddr 2 (.t 21) (.t 22), none⟩,
    ⟨some 25, .iaddrA 2 1 (.t 24) (.t 23), none⟩,
    ⟨some 26, .load 1 false (.t 25), none⟩,
    ⟨some 6, .mov (.t 26), none⟩,
    ⟨some 7, .mov (.c (.v (.int .i64 0))), none⟩])
  .ret))))⟩ := by kernel_rfl
theorem ir19 : compF Try.prog 19 = some ⟨25, [.t 6, .t 7],
  (.seq (.ops [⟨some 3, .box (.t 0), none⟩,
    ⟨some 6, .mov (.c (.v (.bool false))), none⟩,
    ⟨some 7, .mov (.c (.v (.int .i64 0))), none⟩])
  (.seq (.seq (.ops [⟨some 11, .mov (.t 1), none⟩,
    ⟨some 12, .mov (.t 2), none⟩,
    ⟨some 13, .call 32 [(.t 11), (.t 12)], none⟩,
    ⟨some 8, .mov (.t 13), none⟩])
  (.seq (.ops [⟨some 14, .mov (.t 8), none⟩,
    ⟨some 15, .bin .neq false (.t 14) (.c (.v (.int .i64 0))), none⟩])
  (.cond (.t 15)
    (.seq (.ops [⟨some 16, .mov (.t 8), none⟩,
      ⟨some 6, .mov (.c (.v (.bool false))), none⟩,
      ⟨some 7, .mov (.t 16), none⟩])
    .ret)
    .skip)))
  (.seq (.ops [⟨some 18, .load 2 true (.t 3), none⟩,
    ⟨some 19, .mov (.t 1), none⟩,
    ⟨some 20, .mov (.t 2), none⟩,
    ⟨some 21, .call 33 [(.t 18), (.t 19), (.t 20)], none⟩,
    ⟨some 17, .mov (.t 21), none⟩,
    ⟨some 22, .extract (.t 17) 0, none⟩,
    ⟨some 23, .extract (.t 17) 1, none⟩,
    ⟨some 9, .mov (.t 22), none⟩,
    ⟨some 10, .mov (.t 23), none⟩])
  (.seq (.ops [⟨some 24, .mov (.t 10), none⟩,
    ⟨some 6, .mov (.t 24), none⟩,
    ⟨some 7, .mov (.c (.v (.int .i64 0))), none⟩])
  .ret))))⟩ := by kernel_rfl
theorem ir20 : compF Try.prog 20 = some ⟨18, [.t 4, .t 5],
  (.seq (.ops [⟨some 2, .box (.t 0), none⟩,
    ⟨some 4, .mov (.c (.v (.bool false))), none⟩,
    ⟨some 5, .mov (.c (.v (.int .i64 0))), none⟩])
  (.seq (.ops [⟨some 7, .faddr 0 (.t 2), none⟩,
    ⟨some 8, .load 1 false (.t 7), none⟩,
    ⟨some 9, .mov (.t 1), none⟩,
    ⟨some 10, .call 39 [(.t 8), (.t 9)], none⟩,
    ⟨some 6, .mov (.t 10), none⟩])
  (.seq (.seq (.ops [⟨some 11, .mov (.t 6), none⟩,
    ⟨some 12, .bin .neq false (.t 11) (.c (.v (.int .i64 0))), none⟩])
  (.cond (.t 12)
    (.seq (.ops [⟨some 13, .mov (.t 6), none⟩,
      ⟨some 4, .mov (.c (.v (.bool false))), none⟩,
      ⟨some 5, .mov (.t 13), none⟩])
    .ret)
    .skip))
  (.seq (.ops [⟨some 14, .load 4 true (.t 2), none⟩,
    ⟨some 15, .mov (.t 1), none⟩,
    ⟨some 16, .call 40 [(.t 14), (.t 15)], none⟩,
    ⟨some 17, .bin .geq false (.t 16) (.c (.v (.int .i64 0))), none⟩,
    ⟨some 4, .mov (.t 17), none⟩,
    ⟨some 5, .mov (.c (.v (.int .i64 0))), none⟩])
  .ret))))⟩ := by kernel_rfl
theorem ir21 : compF Try.prog 21 = some ⟨12, [.t 2],
  (.seq (.ops [⟨some 1, .box (.t 0), none⟩,
    ⟨some 2, .mov (.c (.v (.int .i64 0))), none⟩])
  (.seq (.seq (.ops [⟨some 3, .faddr 0 (.t 1), none⟩,
    ⟨some 4, .load 1 false (.t 3), none⟩,
    ⟨some 5, .len false (.t 4), none⟩,
    ⟨some 6, .bin .eql false (.t 5) (.c (.v (.int .i64 0))), none⟩])
  (.cond (.t 6)
    (.seq (.ops [⟨some 2, .mov (.c (.v (.int .i64 0))), none⟩])
    .ret)
    .skip))
  (.seq (.ops [⟨some 7, .faddr 0 (.t 1), none⟩,
    ⟨some 8, .load 1 false (.t 7), none⟩,
    ⟨some 9, .iaddr 3 (.t 8) (.c (.v (.int .i64 0))), none⟩,
    ⟨some 10, .load 3 true (.t 9), none⟩,
    ⟨some 11, .call 44 [(.t 10)], none⟩,
    ⟨some 2, .mov (.t 11), none⟩])
  .ret)))⟩ := by kernel_rfl
theorem ir22 : compF Try.prog 22 = some ⟨26, [.t 4],
  (.seq (.ops [⟨some 4, .mov (.c (.v (.bool false))), none⟩])
  (.seq (.seq (.ops [⟨some 6, .mov (.t 0), none⟩,
    ⟨some 7, .len false (.t 6), none⟩,
    ⟨some 8, .mov (.t 1), none⟩,
    ⟨some 9, .len false (.t 8), none⟩,
    ⟨some 10, .bin .neq false (.t 7) (.t 9), none⟩])
  (.cond (.t 10)
    (.seq (.ops [⟨some 4, .mov (.c (.v (.bool false))), none⟩])
    .ret)
    .skip))
  (.seq (.seq (.ops [⟨some 5, .mov (.c (.v (.int .i64 0))), none⟩])
  (.block 0 (.loop
    (.seq (.seq (.ops [⟨some 11, .mov (.t 5), none⟩,
      ⟨some 12, .mov (.t 0), none⟩,
      ⟨some 13, .len false (.t 12), none⟩,
      ⟨some 14, .bin .lss false (.t 11) (.t 13), none⟩])
    (.cond (.t 14)
      .skip
      (.exit 0)))
    (.seq (.block 1 (.seq (.draw [[⟨some 17, .mov (.t 0), none⟩,
        ⟨some 18, .mov (.t 5), none⟩,
        ⟨some 19, .iaddr 1 (.t 17) (.t 18), none⟩,
        ⟨some 20, .load 1 false (.t 19), none⟩,
        ⟨some 21, .mov (.t 1), none⟩,
        ⟨some 22, .mov (.t 5), none⟩,
        ⟨some 23, .iaddr 1 (.t 21) (.t 22), none⟩,
        ⟨some 24, .load 1 false (.t 23), none⟩],
      [⟨some 25, .bin .neq false (.t 20) (.t 24), none⟩]])
    (.cond (.t 25)
      (.seq (.ops [⟨some 4, .mov (.c (.v (.bool false))), none⟩])
      .ret)
      .skip)))
    (.ops [⟨some 15, .mov (.t 5), none⟩,
      ⟨some 16, .bin .add false (.t 15) (.c (.v (.int .i64 1))), none⟩,
      ⟨some 5, .mov (.t 16), none⟩]))))))
  (.seq (.ops [⟨some 4, .mov (.c (.v (.bool true))), none⟩])
  .ret))))⟩ := by kernel_rfl
theorem ir23 : compF Try.prog 23 = some ⟨20, [.t 2],
  (.seq (.ops [⟨some 1, .box (.t 0), none⟩,
    ⟨some 2, .mov (.c (.v (.slice none 0 0))), none⟩])
  (.seq (.ops [⟨some 3, .mov (.c (.v (.slice none 0 0))), none⟩])
  (.seq (.seq (.ops [⟨some 6, .faddr 0 (.t 1), none⟩,
    ⟨some 7, .load 1 false (.t 6), none⟩,
    ⟨some 8, .len false (.t 7), none⟩,
    ⟨some 9, .mov (.c (.v (.int .i64 0))), none⟩])
  (.block 0 (.loop
    (.seq (.ops [⟨some 10, .bin .lss false (.t 9) (.t 8), none⟩])
    (.seq (.cond (.t 10)
      .skip
      (.exit 0))
    (.seq (.block 1 (.seq (.ops [⟨some 11, .iaddr 3 (.t 7) (.t 9), none⟩,
      ⟨some 12, .load 3 true (.t 11), none⟩,
      ⟨some 5, .alloc (.agg [(.v (.int .i64 0)), (.v (.slice none 0 0)), (.v (.slice none 0 0))]), none⟩,
      ⟨none, .store 3 (.t 5) (.t 12), none⟩])
    (.ops [⟨some 13, .mov (.t 3), none⟩,
      ⟨some 14, .load 3 true (.t 5), none⟩,
      ⟨some 15, .call 44 [(.t 14)], none⟩,
      ⟨some 16, .bslice 1 [(.v (.int .i64 0))] 1 [(0, 1, (.t 15))], none⟩,
      ⟨some 17, .append 1 8 [(.v (.int .i64 0))] (.t 13) (.t 16), none⟩,
      ⟨some 3, .mov (.t 17), none⟩])))
    (.ops [⟨some 18, .bin .add false (.t 9) (.c (.v (.int .i64 1))), none⟩,
      ⟨some 9, .mov (.t 18), none⟩])))))))
  (.seq (.ops [⟨some 19, .mov (.t 3), none⟩,
    ⟨some 2, .mov (.t 19), none⟩])
  .ret))))⟩ := by kernel_rfl
theorem ir30 : compF Try.prog 30 = some ⟨14, [.c 2 3 true, .t 3],
  (.seq (.ops [⟨some 2, .alloc (.agg [(.v (.int .i64 0)), (.v (.slice none 0 0)), (.v (.slice none 0 0))]), none⟩,
    ⟨some 3, .mov (.c (.v (.int .i64 0))), none⟩])
  (.seq (.ops [⟨some 7, .mov (.t 0), none⟩,
    ⟨some 8, .call 46 [(.t 7)], none⟩,
    ⟨some 6, .mov (.t 8), none⟩,
    ⟨some 9, .extract (.t 6) 0, none⟩,
    ⟨some 10, .extract (.t 6) 1, none⟩,
    ⟨some 4, .alloc (.agg [(.v (.int .i64 0)), (.v (.slice none 0 0)), (.v (.slice none 0 0))]), none⟩,
    ⟨none, .store 3 (.t 4) (.t 9), none⟩,
    ⟨some 5, .mov (.t 10), none⟩])
  (.seq (.ops [⟨some 11, .load 3 true (.t 4), none⟩,
    ⟨some 12, .build [(.v (.int .i64 0)), (.v (.slice none 0 0)), (.v (.slice none 0 0))] [(0, 3, (.t 11))], none⟩,
    ⟨some 13, .mov (.t 5), none⟩,
    ⟨none, .store 3 (.t 2) (.t 12), none⟩,
    ⟨some 3, .mov (.t 13), none⟩])
  .ret)))⟩ := by kernel_rfl
theorem ir31 : compF Try.prog 31 = some ⟨17, [.t 2],
  (.seq (.ops [⟨some 2, .mov (.c (.v (.int .i64 0))), none⟩])
  (.seq (.seq (.ops [⟨some 4, .mov (.t 0), none⟩,
    ⟨some 5, .bin .lss false (.t 4) (.c (.v (.int .i64 2))), none⟩])
  (.cond (.t 5)
    (.seq (.ops [⟨some 2, .mov (.c (.v (.int .i64 0))), none⟩])
    .ret)
    .skip))
  (.seq (.ops [⟨some 6, .mov (.t 0), none⟩,
    ⟨some 7, .bin .add false (.t 6) (.c (.v (.int .i64 1))), none⟩,
    ⟨some 8, .bin .quo false (.t 7) (.c (.v (.int .i64 2))), none⟩,
    ⟨some 3, .mov (.t 8), none⟩])
  (.seq (.ops [⟨some 9, .mov (.t 3), none⟩,
    ⟨some 10, .call 31 [(.t 9)], none⟩,
    ⟨some 11, .bin .add false (.c (.v (.int .i64 1))) (.t 10), none⟩,
    ⟨some 12, .mov (.t 0), none⟩,
    ⟨some 13, .mov (.t 3), none⟩,
    ⟨some 14, .bin .sub false (.t 12) (.t 13), none⟩,
    ⟨some 15, .call 31 [(.t 14)], none⟩,
    ⟨some 16, .bin .add false (.t 11) (.t 15), none⟩,
    ⟨some 2, .mov (.t 16), none⟩])
  .ret))))⟩ := by kernel_rfl
theorem ir32 : compF Try.prog 32 = some ⟨27, [.t 4],
  (.seq (.ops [⟨some 4, .mov (.c (.v (.int .i64 0))), none⟩])
  (.seq (.seq (.ops [⟨some 7, .mov (.t 1), none⟩,
    ⟨some 8, .len false (.t 7), none⟩,
    ⟨some 9, .mov (.t 0), none⟩,
    ⟨some 10, .len false (.t 9), none⟩,
    ⟨some 11, .bin .neq false (.t 8) (.t 10), none⟩])
  (.cond (.t 11)
    (.seq (.ops [⟨some 4, .mov (.c (.v (.int .i64 1))), none⟩])
    .ret)
    .skip))
  (.seq (.seq (.ops [⟨some 12, .mov (.t 1), none⟩,
    ⟨some 13, .len false (.t 12), none⟩,
    ⟨some 14, .mov (.c (.v (.int .i64 0))), none⟩])
  (.block 0 (.loop
    (.seq (.ops [⟨some 15, .bin .lss false (.t 14) (.t 13), none⟩])
    (.seq (.cond (.t 15)
      .skip
      (.exit 0))
    (.seq (.block 1 (.seq (.ops [⟨some 16, .mov (.t 14), none⟩,
      ⟨some 17, .iaddr 1 (.t 12) (.t 14), none⟩,
      ⟨some 18, .load 1 false (.t 17), none⟩,
      ⟨some 5, .mov (.t 16), none⟩,
      ⟨some 6, .mov (.t 18), none⟩])
    (.seq (.ops [⟨some 19, .mov (.t 0), none⟩,
      ⟨some 20, .mov (.t 5), none⟩,
      ⟨some 21, .iaddr 2 (.t 19) (.t 20), none⟩,
      ⟨some 22, .load 2 true (.t 21), none⟩,
      ⟨some 23, .mov (.t 6), none⟩,
      ⟨some 24, .call 54 [(.t 22), (.t 23)], none⟩,
      ⟨some 25, .un .not (.t 24), none⟩])
    (.cond (.t 25)
      (.seq (.ops [⟨some 4, .mov (.c (.v (.int .i64 5))), none⟩])
      .ret)
      .skip))))
    (.ops [⟨some 26, .bin .add false (.t 14) (.c (.v (.int .i64 1))), none⟩,
      ⟨some 14, .mov (.t 26), none⟩])))))))
  (.seq (.ops [⟨some 4, .mov (.c (.v (.int .i64 0))), none⟩])
  .ret))))⟩ := by kernel_rfl
theorem ir34 : compF Try.prog 34 = some ⟨8, [.t 2],
  (.seq (.ops [⟨some 2, .mov (.c (.v (.slice none 0 0))), none⟩])
  (.seq (.seq (.ops [⟨some 3, .mov (.t 0), none⟩,
    ⟨some 4, .isnil false (.t 3), none⟩])
  (.cond (.t 4)
    (.seq (.ops [⟨some 2, .mov (.c (.v (.slice none 0 0))), none⟩])
    .ret)
    .skip))
  (.seq (.ops [⟨some 5, .bslice 3 [(.v (.int .i64 0)), (.v (.slice none 0 0)), (.v (.slice none 0 0))] 0 [], none⟩,
    ⟨some 6, .mov (.t 0), none⟩,
    ⟨some 7, .append 3 56 [(.v (.int .i64 0)), (.v (.slice none 0 0)), (.v (.slice none 0 0))] (.t 5) (.t 6), none⟩,
    ⟨some 2, .mov (.t 7), none⟩])
  .ret)))⟩ := by kernel_rfl
theorem ir35 : compF Try.prog 35 = some ⟨37, [.t 8],
  (.seq (.ops [⟨some 8, .mov (.c (.v (.int .u32 0))), none⟩])
  (.seq (.ops [⟨some 14, .mov (.t 0), none⟩,
    ⟨some 15, .nilchk (.t 14), none⟩,
    ⟨some 16, .faddr 0 (.t 15), none⟩,
    ⟨some 17, .load 1 false (.t 16), none⟩,
    ⟨some 18, .mov (.t 1), none⟩,
    ⟨some 19, .iaddr 3 (.t 17) (.t 18), none⟩,
    ⟨some 20, .load 3 true (.t 19), none⟩,
    ⟨some 21, .mov (.t 2), none⟩,
    ⟨some 22, .mov (.t 3), none⟩,
    ⟨some 23, .call 57 [(.t 20), (.t 21), (.t 22)], none⟩,
    ⟨some 13, .mov (.t 23), none⟩,
    ⟨some 24, .extract (.t 13) 0, none⟩,
    ⟨some 25, .extract (.t 13) 1, none⟩,
    ⟨some 26, .extract (.t 13) 2, none⟩,
    ⟨some 27, .extract (.t 13) 3, none⟩,
    ⟨some 9, .alloc (.agg [(.v (.int .i64 0)), (.v (.slice none 0 0)), (.v (.slice none 0 0))]), none⟩,
    ⟨none, .store 3 (.t 9) (.t 24), none⟩,
    ⟨some 10, .mov (.t 25), none⟩,
    ⟨some 11, .mov (.t 26), none⟩,
    ⟨some 12, .mov (.t 27), none⟩])
  (.seq (.draw [[⟨some 28, .mov (.t 0), none⟩,
      ⟨some 29, .nilchk (.t 28), none⟩,
      ⟨some 30, .faddr 0 (.t 29), none⟩,
      ⟨some 31, .load 1 false (.t 30), none⟩,
      ⟨some 32, .mov (.t 1), none⟩,
      ⟨some 33, .load 3 true (.t 9), none⟩],
    [⟨some 34, .iaddr 3 (.t 31) (.t 32), none⟩],
    [⟨none, .store 3 (.t 34) (.t 33), none⟩]])
  (.seq (.ops [⟨some 35, .mov (.t 10), none⟩,
    ⟨some 36, .conv .u32 (.t 35), none⟩,
    ⟨some 8, .mov (.t 36), none⟩])
  .ret))))⟩ := by kernel_rfl
theorem ir36 : compF Try.prog 36 = some ⟨19, [.t 4],
  (.seq (.ops [⟨some 4, .mov (.c (.v (.int .u32 0))), none⟩])
  (.seq (.seq (.ops [⟨some 5, .mov (.t 1), none⟩,
    ⟨some 6, .len false (.t 5), none⟩,
    ⟨some 7, .bin .eql false (.t 6) (.c (.v (.int .i64 1))), none⟩])
  (.cond (.t 7)
    (.seq (.draw [[⟨some 8, .mov (.t 0), none⟩,
        ⟨some 9, .nilchk (.t 8), none⟩,
        ⟨some 10, .faddr 1 (.t 9), none⟩,
        ⟨some 11, .load 1 false (.t 10), none⟩,
        ⟨some 12, .mov (.t 1), none⟩,
        ⟨some 13, .iaddr 1 (.t 12) (.c (.v (.int .i64 0))), none⟩,
        ⟨some 14, .load 1 false (.t 13), none⟩],
      [⟨some 15, .calld (.t 11) [(.c (.v (.int .i64 0))), (.t 14), (.c (.v (.int .u32 0)))], none⟩],
      [⟨some 4, .mov (.t 15), none⟩]])
    .ret)
    .skip))
  (.seq (.ops [⟨some 16, .mov (.t 0), none⟩,
    ⟨some 17, .mov (.t 1), none⟩,
    ⟨some 18, .call 58 [(.t 16), (.c (.v (.int .i64 0))), (.t 17)], none⟩,
    ⟨some 4, .mov (.t 18), none⟩])
  .ret)))⟩ := by kernel_rfl
theorem ir37 : compF Try.prog 37 = some ⟨28, [.t 4],
  (.seq (.ops [⟨some 4, .mov (.c (.v (.slice none 0 0))), none⟩])
  (.seq (.ops [⟨some 5, .mov (.c (.v (.slice none 0 0))), none⟩])
  (.seq (.seq (.ops [⟨some 8, .mov (.t 1), none⟩,
    ⟨some 9, .len false (.t 8), none⟩,
    ⟨some 10, .mov (.c (.v (.int .i64 0))), none⟩])
  (.block 0 (.loop
    (.seq (.ops [⟨some 11, .bin .lss false (.t 10) (.t 9), none⟩])
    (.seq (.cond (.t 11)
      .skip
      (.exit 0))
    (.seq (.block 1 (.seq (.ops [⟨some 12, .mov (.t 10), none⟩,
      ⟨some 13, .iaddr 1 (.t 8) (.t 10), none⟩,
      ⟨some 14, .load 1 false (.t 13), none⟩,
      ⟨some 6, .mov (.t 12), none⟩,
      ⟨some 7, .mov (.t 14), none⟩])
    (.ops [⟨some 15, .mov (.t 5), none⟩,
      ⟨some 16, .mov (.t 7), none⟩,
      ⟨some 17, .mov (.t 0), none⟩,
      ⟨some 18, .mov (.t 6), none⟩,
      ⟨some 19, .iaddr 2 (.t 17) (.t 18), none⟩,
      ⟨some 20, .faddr 0 (.t 19), none⟩,
      ⟨some 21, .load 1 false (.t 20), none⟩,
      ⟨some 22, .bin .sub false (.t 16) (.t 21), none⟩,
      ⟨some 23, .conv .u32 (.t 22), none⟩,
      ⟨some 24, .bslice 1 [(.v (.int .u32 0))] 1 [(0, 1, (.t 23))], none⟩,
      ⟨some 25, .append 1 4 [(.v (.int .u32 0))] (.t 15) (.t 24), none⟩,
      ⟨some 5, .mov (.t 25), none⟩])))
    (.ops [⟨some 26, .bin .add false (.t 10) (.c (.v (.int .i64 1))), none⟩,
      ⟨some 10, .mov (.t 26), none⟩])))))))
  (.seq (.ops [⟨some 27, .mov (.t 5), none⟩,
    ⟨some 4, .mov (.t 27), none⟩])
  .ret))))⟩ := by kernel_rfl
theorem ir38 : compF Try.prog 38 = some ⟨9, [.t 2],
  (.seq (.ops [⟨some 2, .mov (.c (.v (.slice none 0 0))), none⟩])
  (.seq (.ops [⟨some 3, .mov (.t 0), none⟩,
    ⟨some 4, .mov (.t 0), none⟩,
    ⟨some 5, .len false (.t 4), none⟩,
    ⟨some 6, .mov (.t 0), none⟩,
    ⟨some 7, .len false (.t 6), none⟩,
    ⟨some 8, .slice 1 (.t 3) none (some (.t 5)) (some (.t 7)), none⟩,
    ⟨some 2, .mov (.t 8), none⟩])
  .ret))⟩ := by kernel_rfl
theorem ir39 : compF Try.prog 39 = some ⟨39, [.t 4],
  (.seq (.ops [⟨some 4, .mov (.c (.v (.int .i64 0))), none⟩])
  (.seq (.seq (.ops [⟨some 6, .mov (.t 1), none⟩,
    ⟨some 7, .len false (.t 6), none⟩,
    ⟨some 8, .mov (.t 0), none⟩,
    ⟨some 9, .len false (.t 8), none⟩,
    ⟨some 10, .bin .neq false (.t 7) (.t 9), none⟩])
  (.cond (.t 10)
    (.seq (.ops [⟨some 4, .mov (.c (.v (.int .i64 1))), none⟩])
    .ret)
    .skip))
  (.seq (.seq (.ops [⟨some 5, .mov (.c (.v (.int .i64 0))), none⟩])
  (.block 0 (.loop
    (.seq (.seq (.ops [⟨some 11, .mov (.t 5), none⟩,
      ⟨some 12, .mov (.t 1), none⟩,
      ⟨some 13, .len false (.t 12), none⟩,
      ⟨some 14, .bin .lss false (.t 11) (.t 13), none⟩])
    (.cond (.t 14)
      .skip
      (.exit 0)))
    (.seq (.block 1 (.seq (.draw [[⟨some 17, .mov (.t 1), none⟩,
        ⟨some 18, .mov (.t 5), none⟩,
        ⟨some 19, .iaddr 1 (.t 17) (.t 18), none⟩,
        ⟨some 20, .load 1 false (.t 19), none⟩,
        ⟨some 21, .mov (.t 0), none⟩,
        ⟨some 22, .mov (.t 5), none⟩,
        ⟨some 23, .iaddr 2 (.t 21) (.t 22), none⟩,
        ⟨some 24, .faddr 0 (.t 23), none⟩,
        ⟨some 25, .load 1 false (.t 24), none⟩],
      [⟨some 26, .bin .lss false (.t 20) (.t 25), none⟩],
      [⟨some 27, .mov (.t 26), none⟩],
      [⟨some 28, .mov (.t 1), some (27, false)⟩,
        ⟨some 29, .mov (.t 5), some (27, false)⟩,
        ⟨some 30, .iaddr 1 (.t 28) (.t 29), some (27, false)⟩,
        ⟨some 31, .load 1 false (.t 30), some (27, false)⟩,
        ⟨some 32, .mov (.t 0), some (27, false)⟩,
        ⟨some 33, .mov (.t 5), some (27, false)⟩,
        ⟨some 34, .iaddr 2 (.t 32) (.t 33), some (27, false)⟩,
        ⟨some 35, .faddr 1 (.t 34), some (27, false)⟩,
        ⟨some 36, .load 1 false (.t 35), some (27, false)⟩],
      [⟨some 37, .bin .gtr false (.t 31) (.t 36), some (27, false)⟩],
      [⟨some 38, .pick (.t 27) (.c (.v (.bool true))) (.t 37), none⟩]])
    (.cond (.t 38)
      (.seq (.ops [⟨some 4, .mov (.c (.v (.int .i64 5))), none⟩])
      .ret)
      .skip)))
    (.ops [⟨some 15, .mov (.t 5), none⟩,
      ⟨some 16, .bin .add false (.t 15) (.c (.v (.int .i64 1))), none⟩,
      ⟨some 5, .mov (.t 16), none⟩]))))))
  (.seq (.ops [⟨some 4, .mov (.c (.v (.int .i64 0))), none⟩])
  .ret))))⟩ := by kernel_rfl
theorem ir40 : compF Try.prog 40 = some ⟨23, [.t 4],
  (.seq (.ops [⟨some 2, .box (.t 0), none⟩,
    ⟨some 4, .mov (.c (.v (.int .i64 0))), none⟩])
  (.seq (.seq (.ops [⟨some 5, .mov (.c (.v (.int .i64 0))), none⟩])
  (.block 0 (.loop
    (.seq (.seq (.ops [⟨some 7, .mov (.t 5), none⟩,
      ⟨some 8, .faddr 2 (.t 2), none⟩,
      ⟨some 9, .load 1 false (.t 8), none⟩,
      ⟨some 10, .len false (.t 9), none⟩,
      ⟨some 11, .bin .lss false (.t 7) (.t 10), none⟩])
    (.cond (.t 11)
      .skip
      (.exit 0)))
    (.seq (.block 1 (.seq (.ops [⟨some 14, .faddr 2 (.t 2), none⟩,
      ⟨some 15, .load 1 false (.t 14), none⟩,
      ⟨some 16, .mov (.t 5), none⟩,
      ⟨some 17, .iaddr 1 (.t 15) (.t 16), none⟩,
      ⟨some 18, .load 1 false (.t 17), none⟩,
      ⟨some 19, .mov (.t 1), none⟩,
      ⟨some 20, .call 22 [(.t 18), (.t 19)], none⟩,
      ⟨some 6, .mov (.t 20), none⟩])
    (.seq (.ops [⟨some 21, .mov (.t 6), none⟩])
    (.cond (.t 21)
      (.seq (.ops [⟨some 22, .mov (.t 5), none⟩,
        ⟨some 4, .mov (.t 22), none⟩])
      .ret)
      .skip))))
    (.ops [⟨some 12, .mov (.t 5), none⟩,
      ⟨some 13, .bin .add false (.t 12) (.c (.v (.int .i64 1))), none⟩,
      ⟨some 5, .mov (.t 13), none⟩]))))))
  (.seq (.ops [⟨some 4, .mov (.c (.v (.int .i64 (-1)))), none⟩])
  .ret)))⟩ := by kernel_rfl
theorem ir41 : compF Try.prog 41 = some ⟨35, [.t 8, .t 9],
  (.seq (.ops [⟨some 4, .box (.t 0), none⟩,
    ⟨some 8, .mov (.c (.v (.int .i64 0))), none⟩,
    ⟨some 9, .mov (.c (.v (.int .i64 0))), none⟩])
  (.seq (.seq (.ops [⟨some 13, .mov (.t 1), none⟩,
    ⟨some 14, .mov (.t 2), none⟩,
    ⟨some 15, .call 32 [(.t 13), (.t 14)], none⟩,
    ⟨some 10, .mov (.t 15), none⟩])
  (.seq (.ops [⟨some 16, .mov (.t 10), none⟩,
    ⟨some 17, .bin .neq false (.t 16) (.c (.v (.int .i64 0))), none⟩])
  (.cond (.t 17)
    (.seq (.ops [⟨some 18, .mov (.t 10), none⟩,
      ⟨some 8, .mov (.c (.v (.int .i64 0))), none⟩,
      ⟨some 9, .mov (.t 18), none⟩])
    .ret)
    .skip)))
  (.seq (.seq (.ops [⟨some 19, .mov (.t 3), none⟩,
    ⟨some 20, .bin .neq false (.t 19) (.c (.v (.int .i64 0))), none⟩,
    ⟨some 21, .mov (.t 20), none⟩,
    ⟨some 22, .mov (.t 3), some (21, true)⟩,
    ⟨some 23, .bin .neq false (.t 22) (.c (.v (.int .i64 1))), some (21, true)⟩,
    ⟨some 24, .pick (.t 21) (.t 23) (.c (.v (.bool false))), none⟩])
  (.cond (.t 24)
    (.seq (.ops [⟨some 8, .mov (.c (.v (.int .i64 0))), none⟩,
      ⟨some 9, .mov (.c (.v (.int .i64 1))), none⟩])
    .ret)
    .skip))
  (.seq (.ops [⟨some 26, .load 2 true (.t 4), none⟩,
    ⟨some 27, .mov (.t 1), none⟩,
    ⟨some 28, .mov (.t 2), none⟩,
    ⟨some 29, .call 33 [(.t 26), (.t 27), (.t 28)], none⟩,
    ⟨some 25, .mov (.t 29), none⟩,
    ⟨some 30, .extract (.t 25) 0, none⟩,
    ⟨some 31, .extract (.t 25) 1, none⟩,
    ⟨some 11, .mov (.t 30), none⟩,
    ⟨some 12, .mov (.t 31), none⟩])
  (.seq (.seq (.ops [⟨some 32, .mov (.t 12), none⟩,
    ⟨some 33, .un .not (.t 32), none⟩])
  (.cond (.t 33)
    (.seq (.ops [⟨some 8, .mov (.c (.v (.int .i64 0))), none⟩,
      ⟨some 9, .mov (.c (.v (.int .i64 10))), none⟩])
    .ret)
    .skip))
  (.seq (.ops [⟨some 34, .mov (.t 11), none⟩,
    ⟨some 8, .mov (.t 34), none⟩,
    ⟨some 9, .mov (.c (.v (.int .i64 0))), none⟩])
  .ret))))))⟩ := by kernel_rfl
theorem ir42 : compF Try.prog 42 = some ⟨8, [.t 2],
  (.seq (.ops [⟨some 2, .mov (.c (.v (.slice none 0 0))), none⟩])
  (.seq (.seq (.ops [⟨some 3, .mov (.t 0), none⟩,
    ⟨some 4, .isnil false (.t 3), none⟩])
  (.cond (.t 4)
    (.seq (.ops [⟨some 2, .mov (.c (.v (.slice none 0 0))), none⟩])
    .ret)
    .skip))
  (.seq (.ops [⟨some 5, .bslice 1 [(.v (.int .u8 0))] 0 [], none⟩,
    ⟨some 6, .mov (.t 0), none⟩,
    ⟨some 7, .append 1 1 [(.v (.int .u8 0))] (.t 5) (.t 6), none⟩,
    ⟨some 2, .mov (.t 7), none⟩])
  .ret)))⟩ := by kernel_rfl
theorem ir43 : compF Try.prog 43 = some ⟨29, [.t 6, .t 7],
  (.seq (.ops [⟨some 3, .box (.t 0), none⟩,
    ⟨some 6, .mov (.c (.v (.int .i64 0))), none⟩,
    ⟨some 7, .mov (.c (.v (.int .i64 0))), none⟩])
  (.seq (.ops [⟨some 10, .faddr 0 (.t 3), none⟩,
    ⟨some 11, .load 1 false (.t 10), none⟩,
    ⟨some 12, .mov (.t 1), none⟩,
    ⟨some 13, .call 39 [(.t 11), (.t 12)], none⟩,
    ⟨some 8, .mov (.t 13), none⟩])
  (.seq (.seq (.ops [⟨some 14, .mov (.t 8), none⟩,
    ⟨some 15, .bin .neq false (.t 14) (.c (.v (.int .i64 0))), none⟩])
  (.cond (.t 15)
    (.seq (.ops [⟨some 16, .mov (.t 8), none⟩,
      ⟨some 6, .mov (.c (.v (.int .i64 0))), none⟩,
      ⟨some 7, .mov (.t 16), none⟩])
    .ret)
    .skip))
  (.seq (.seq (.ops [⟨some 17, .mov (.t 2), none⟩,
    ⟨some 18, .bin .lss false (.t 17) (.c (.v (.int .i64 0))), none⟩,
    ⟨some 19, .mov (.t 18), none⟩,
    ⟨some 20, .mov (.t 2), some (19, false)⟩,
    ⟨some 21, .bin .gtr false (.t 20) (.c (.v (.int .i64 1))), some (19, false)⟩,
    ⟨some 22, .pick (.t 19) (.c (.v (.bool true))) (.t 21), none⟩])
  (.cond (.t 22)
    (.seq (.ops [⟨some 6, .mov (.c (.v (.int .i64 0))), none⟩,
      ⟨some 7, .mov (.c (.v (.int .i64 1))), none⟩])
    .ret)
    .skip))
  (.seq (.ops [⟨some 23, .load 4 true (.t 3), none⟩,
    ⟨some 24, .mov (.t 1), none⟩,
    ⟨some 25, .call 40 [(.t 23), (.t 24)], none⟩,
    ⟨some 9, .mov (.t 25), none⟩])
  (.seq (.seq (.ops [⟨some 26, .mov (.t 9), none⟩,
    ⟨some 27, .bin .lss false (.t 26) (.c (.v (.int .i64 0))), none⟩])
  (.cond (.t 27)
    (.seq (.ops [⟨some 6, .mov (.c (.v (.int .i64 0))), none⟩,
      ⟨some 7, .mov (.c (.v (.int .i64 10))), none⟩])
    .ret)
    .skip))
  (.seq (.ops [⟨some 28, .mov (.t 9), none⟩,
    ⟨some 6, .mov (.t 28), none⟩,
    ⟨some 7, .mov (.c (.v (.int .i64 0))), none⟩])
  .ret)))))))⟩ := by kernel_rfl
theorem ir44 : compF Try.prog 44 = some ⟨6, [.t 2],
  (.seq (.ops [⟨some 1, .box (.t 0), none⟩,
    ⟨some 2, .mov (.c (.v (.int .i64 0))), none⟩])
  (.seq (.ops [⟨some 3, .faddr 0 (.t 1), none⟩,
    ⟨some 4, .load 3 true (.t 3), none⟩,
    ⟨some 5, .call 53 [(.t 4)], none⟩,
    ⟨some 2, .mov (.t 5), none⟩])
  .ret))⟩ := by kernel_rfl
theorem ir46 : compF Try.prog 46 = some ⟨14, [.c 2 3 true, .t 3],
  (.seq (.ops [⟨some 2, .alloc (.agg [(.v (.int .i64 0)), (.v (.slice none 0 0)), (.v (.slice none 0 0))]), none⟩,
    ⟨some 3, .mov (.c (.v (.int .i64 0))), none⟩])
  (.seq (.seq (.ops [⟨some 4, .mov (.t 0), none⟩,
    ⟨some 5, .bin .lss false (.t 4) (.c (.v (.int .i64 0))), none⟩,
    ⟨some 6, .mov (.t 5), none⟩,
    ⟨some 7, .mov (.t 0), some (6, false)⟩,
    ⟨some 8, .bin .gtr false (.t 7) (.c (.v (.int .i64 1048576))), some (6, false)⟩,
    ⟨some 9, .pick (.t 6) (.c (.v (.bool true))) (.t 8), none⟩])
  (.cond (.t 9)
    (.seq (.ops [⟨some 10, .build [(.v (.int .i64 0)), (.v (.slice none 0 0)), (.v (.slice none 0 0))] [], none⟩,
      ⟨none, .store 3 (.t 2) (.t 10), none⟩,
      ⟨some 3, .mov (.c (.v (.int .i64 1))), none⟩])
    .ret)
    .skip))
  (.seq (.ops [⟨some 11, .mov (.t 0), none⟩,
    ⟨some 12, .mksl 1 8 [(.v (.int .i64 0))] (.c (.v (.int .i64 8))) (.c (.v (.int .i64 8))), none⟩,
    ⟨some 13, .build [(.v (.int .i64 0)), (.v (.slice none 0 0)), (.v (.slice none 0 0))] [(0, 1, (.t 11)), (2, 1, (.t 12))], none⟩,
    ⟨none, .store 3 (.t 2) (.t 13), none⟩,
    ⟨some 3, .mov (.c (.v (.int .i64 0))), none⟩])
  .ret)))⟩ := by kernel_rfl
theorem ir50 : compF Try.prog 50 = some ⟨86, [.c 4 3 true, .t 5, .t 6, .t 7],
  (.seq (.ops [⟨some 2, .box (.t 0), none⟩,
    ⟨some 4, .alloc (.agg [(.v (.int .i64 0)), (.v (.slice none 0 0)), (.v (.slice none 0 0))]), none⟩,
    ⟨some 5, .mov (.c (.v (.int .i64 0))), none⟩,
    ⟨some 6, .mov (.c (.v (.bool false))), none⟩,
    ⟨some 7, .mov (.c (.v (.int .i64 0))), none⟩])
  (.seq (.seq (.ops [⟨some 14, .load 3 true (.t 2), none⟩,
    ⟨some 15, .mov (.t 1), none⟩,
    ⟨some 16, .call 60 [(.t 14), (.t 15)], none⟩,
    ⟨some 13, .mov (.t 16), none⟩,
    ⟨some 17, .extract (.t 13) 0, none⟩,
    ⟨some 18, .extract (.t 13) 1, none⟩,
    ⟨some 8, .mov (.t 17), none⟩,
    ⟨some 9, .mov (.t 18), none⟩])
  (.seq (.ops [⟨some 19, .mov (.t 9), none⟩])
  (.cond (.t 19)
    (.seq (.ops [⟨some 20, .load 3 true (.t 2), none⟩,
      ⟨some 21, .mov (.t 8), none⟩,
      ⟨none, .store 3 (.t 4) (.t 20), none⟩,
      ⟨some 5, .mov (.t 21), none⟩,
      ⟨some 6, .mov (.c (.v (.bool false))), none⟩,
      ⟨some 7, .mov (.c (.v (.int .i64 0))), none⟩])
    .ret)
    .skip)))
  (.seq (.ops [⟨some 22, .faddr 1 (.t 2), none⟩,
    ⟨some 23, .load 1 false (.t 22), none⟩,
    ⟨some 24, .len false (.t 23), none⟩,
    ⟨some 10, .mov (.t 24), none⟩])
  (.seq (.seq (.ops [⟨some 25, .mov (.t 10), none⟩,
    ⟨some 26, .faddr 0 (.t 2), none⟩,
    ⟨some 27, .load 1 false (.t 26), none⟩,
    ⟨some 28, .bin .geq false (.t 25) (.t 27), none⟩])
  (.cond (.t 28)
    (.seq (.ops [⟨some 29, .load 3 true (.t 2), none⟩,
      ⟨none, .store 3 (.t 4) (.t 29), none⟩,
      ⟨some 5, .mov (.c (.v (.int .i64 0))), none⟩,
      ⟨some 6, .mov (.c (.v (.bool false))), none⟩,
      ⟨some 7, .mov (.c (.v (.int .i64 7))), none⟩])
    .ret)
    .skip))
  (.seq (.ops [⟨some 30, .load 3 true (.t 2), none⟩,
    ⟨some 31, .build [(.v (.int .i64 0)), (.v (.slice none 0 0)), (.v (.slice none 0 0))] [(0, 3, (.t 30))], none⟩,
    ⟨some 32, .build [(.v (.int .i64 0)), (.v (.slice none 0 0)), (.v (.slice none 0 0))] [(0, 3, (.t 31))], none⟩,
    ⟨some 33, .box (.t 32), none⟩,
    ⟨some 11, .mov (.t 33), none⟩])
  (.seq (.ops [⟨some 34, .mov (.t 11), none⟩,
    ⟨some 35, .faddr 1 (.t 2), none⟩,
    ⟨some 36, .load 1 false (.t 35), none⟩,
    ⟨some 37, .call 63 [(.t 36)], none⟩,
    ⟨some 38, .mov (.t 1), none⟩,
    ⟨some 39, .call 64 [(.t 38)], none⟩,
    ⟨some 40, .bslice 1 [(.v (.slice none 0 0))] 1 [(0, 1, (.t 39))], none⟩,
    ⟨some 41, .append 1 24 [(.v (.slice none 0 0))] (.t 37) (.t 40), none⟩,
    ⟨some 42, .nilchk (.t 34), none⟩,
    ⟨some 43, .faddr 0 (.t 42), none⟩,
    ⟨some 44, .faddr 0 (.t 43), none⟩,
    ⟨some 45, .faddr 1 (.t 44), none⟩,
    ⟨none, .store 1 (.t 45) (.t 41), none⟩])
  (.seq (.seq (.ops [⟨some 46, .faddr 2 (.t 2), none⟩,
    ⟨some 47, .load 1 false (.t 46), none⟩,
    ⟨some 48, .len false (.t 47), none⟩,
    ⟨some 49, .mm true (.t 48) [(.c (.v (.int .i64 8)))], none⟩,
    ⟨some 12, .mov (.t 49), none⟩])
  (.seq (.ops [⟨some 50, .mov (.t 10), none⟩,
    ⟨some 51, .bin .add false (.t 50) (.c (.v (.int .i64 1))), none⟩,
    ⟨some 52, .bin .mul false (.c (.v (.int .i64 2))) (.t 51), none⟩,
    ⟨some 53, .mov (.t 12), none⟩,
    ⟨some 54, .bin .gtr false (.t 52) (.t 53), none⟩])
  (.cond (.t 54)
    (.ops [⟨some 55, .mov (.t 11), none⟩,
      ⟨some 56, .mov (.t 12), none⟩,
      ⟨some 57, .bin .mul false (.c (.v (.int .i64 2))) (.t 56), none⟩,
      ⟨some 58, .call 65 [(.t 55), (.t 57)], none⟩])
    (.seq (.ops [⟨some 59, .mov (.t 11), none⟩,
      ⟨some 60, .faddr 2 (.t 2), none⟩,
      ⟨some 61, .load 1 false (.t 60), none⟩,
      ⟨some 62, .call 66 [(.t 61)], none⟩,
      ⟨some 63, .nilchk (.t 59), none⟩,
      ⟨some 64, .faddr 0 (.t 63), none⟩,
      ⟨some 65, .faddr 0 (.t 64), none⟩,
      ⟨some 66, .faddr 2 (.t 65), none⟩,
      ⟨none, .store 1 (.t 66) (.t 62), none⟩])
    (.draw [[⟨some 67, .mov (.t 11), none⟩,
        ⟨some 68, .nilchk (.t 67), none⟩,
        ⟨some 69, .faddr 0 (.t 68), none⟩,
        ⟨some 70, .faddr 0 (.t 69), none⟩,
        ⟨some 71, .faddr 2 (.t 70), none⟩,
        ⟨some 72, .load 1 false (.t 71), none⟩,
        ⟨some 73, .load 3 true (.t 2), none⟩,
        ⟨some 74, .build [(.v (.int .i64 0)), (.v (.slice none 0 0)), (.v (.slice none 0 0))] [(0, 3, (.t 73))], none⟩,
        ⟨some 75, .mov (.t 1), none⟩,
        ⟨some 76, .call 67 [(.t 74), (.t 75)], none⟩,
        ⟨some 77, .mov (.t 10), none⟩,
        ⟨some 78, .bin .add false (.t 77) (.c (.v (.int .i64 1))), none⟩],
      [⟨some 79, .iaddr 1 (.t 72) (.t 76), none⟩],
      [⟨none, .store 1 (.t 79) (.t 78), none⟩]])))))
  (.seq (.ops [⟨some 80, .mov (.t 11), none⟩,
    ⟨some 81, .nilchk (.t 80), none⟩,
    ⟨some 82, .faddr 0 (.t 81), none⟩,
    ⟨some 83, .faddr 0 (.t 82), none⟩,
    ⟨some 84, .load 3 true (.t 83), none⟩,
    ⟨some 85, .mov (.t 10), none⟩,
    ⟨none, .store 3 (.t 4) (.t 84), none⟩,
    ⟨some 5, .mov (.t 85), none⟩,
    ⟨some 6, .mov (.c (.v (.bool true))), none⟩,
    ⟨some 7, .mov (.c (.v (.int .i64 0))), none⟩])
  .ret))))))))⟩ := by kernel_rfl
theorem ir53 : compF Try.prog 53 = some ⟨6, [.t 2],
  (.seq (.ops [⟨some 1, .box (.t 0), none⟩,
    ⟨some 2, .mov (.c (.v (.int .i64 0))), none⟩])
  (.seq (.ops [⟨some 3, .faddr 1 (.t 1), none⟩,
    ⟨some 4, .load 1 false (.t 3), none⟩,
    ⟨some 5, .len false (.t 4), none⟩,
    ⟨some 2, .mov (.t 5), none⟩])
  .ret))⟩ := by kernel_rfl
theorem ir54 : compF Try.prog 54 = some ⟨15, [.t 4],
  (.seq (.ops [⟨some 2, .box (.t 0), none⟩,
    ⟨some 4, .mov (.c (.v (.bool false))), none⟩])
  (.seq (.ops [⟨some 5, .mov (.t 1), none⟩,
    ⟨some 6, .faddr 0 (.t 2), none⟩,
    ⟨some 7, .load 1 false (.t 6), none⟩,
    ⟨some 8, .bin .geq false (.t 5) (.t 7), none⟩,
    ⟨some 9, .mov (.t 8), none⟩,
    ⟨some 10, .mov (.t 1), some (9, true)⟩,
    ⟨some 11, .faddr 1 (.t 2), some (9, true)⟩,
    ⟨some 12, .load 1 false (.t 11), some (9, true)⟩,
    ⟨some 13, .bin .leq false (.t 10) (.t 12), some (9, true)⟩,
    ⟨some 14, .pick (.t 9) (.t 13) (.c (.v (.bool false))), none⟩,
    ⟨some 4, .mov (.t 14), none⟩])
  .ret))⟩ := by kernel_rfl
theorem ir56 : compF Try.prog 56 = some ⟨30, [.t 8],
  (.seq (.ops [⟨some 8, .mov (.c (.v (.int .u32 0))), none⟩])
  (.seq (.ops [⟨some 12, .mov (.t 0), none⟩,
    ⟨some 13, .nilchk (.t 12), none⟩,
    ⟨some 14, .faddr 0 (.t 13), none⟩,
    ⟨some 15, .load 1 false (.t 14), none⟩,
    ⟨some 16, .mov (.t 1), none⟩,
    ⟨some 17, .iaddr 3 (.t 15) (.t 16), none⟩,
    ⟨some 18, .load 3 true (.t 17), none⟩,
    ⟨some 19, .mov (.t 2), none⟩,
    ⟨some 20, .mov (.t 3), none⟩,
    ⟨some 21, .call 68 [(.t 18), (.t 19), (.t 20)], none⟩,
    ⟨some 11, .mov (.t 21), none⟩,
    ⟨some 22, .extract (.t 11) 0, none⟩,
    ⟨some 23, .extract (.t 11) 1, none⟩,
    ⟨some 9, .mov (.t 22), none⟩,
    ⟨some 10, .mov (.t 23), none⟩])
  (.seq (.seq (.ops [⟨some 24, .mov (.t 10), none⟩,
    ⟨some 25, .un .not (.t 24), none⟩])
  (.cond (.t 25)
    .pan
    .skip))
  (.seq (.ops [⟨some 28, .mov (.t 9), none⟩,
    ⟨some 29, .conv .u32 (.t 28), none⟩,
    ⟨some 8, .mov (.t 29), none⟩])
  .ret))))⟩ := by kernel_rfl
theorem ir57 : compF Try.prog 57 = some ⟨31, [.c 6 3 true, .t 7, .t 8, .t 9],
  (.seq (.ops [⟨some 3, .box (.t 0), none⟩,
    ⟨some 6, .alloc (.agg [(.v (.int .i64 0)), (.v (.slice none 0 0)), (.v (.slice none 0 0))]), none⟩,
    ⟨some 7, .mov (.c (.v (.int .i64 0))), none⟩,
    ⟨some 8, .mov (.c (.v (.bool false))), none⟩,
    ⟨some 9, .mov (.c (.v (.int .i64 0))), none⟩])
  (.seq (.draw [[⟨some 15, .faddr 0 (.t 3), none⟩,
      ⟨some 16, .load 3 true (.t 15), none⟩,
      ⟨some 17, .mov (.t 1), none⟩,
      ⟨some 18, .mov (.t 2), none⟩,
      ⟨some 19, .call 69 [(.t 17), (.t 18)], none⟩,
      ⟨some 20, .call 70 [(.t 19)], none⟩,
      ⟨some 21, .call 50 [(.t 16), (.t 20)], none⟩,
      ⟨some 14, .mov (.t 21), none⟩,
      ⟨some 22, .extract (.t 14) 0, none⟩,
      ⟨some 23, .extract (.t 14) 1, none⟩,
      ⟨some 24, .extract (.t 14) 2, none⟩,
      ⟨some 25, .extract (.t 14) 3, none⟩,
      ⟨some 10, .alloc (.agg [(.v (.int .i64 0)), (.v (.slice none 0 0)), (.v (.slice none 0 0))]), none⟩,
      ⟨none, .store 3 (.t 10) (.t 22), none⟩,
      ⟨some 11, .mov (.t 23), none⟩,
      ⟨some 12, .mov (.t 24), none⟩],
    [⟨some 13, .mov (.t 25), none⟩]])
  (.seq (.ops [⟨some 26, .load 3 true (.t 10), none⟩,
    ⟨some 27, .build [(.v (.int .i64 0)), (.v (.slice none 0 0)), (.v (.slice none 0 0))] [(0, 3, (.t 26))], none⟩,
    ⟨some 28, .mov (.t 11), none⟩,
    ⟨some 29, .mov (.t 12), none⟩,
    ⟨some 30, .mov (.t 13), none⟩,
    ⟨none, .store 3 (.t 6) (.t 27), none⟩,
    ⟨some 7, .mov (.t 28), none⟩,
    ⟨some 8, .mov (.t 29), none⟩,
    ⟨some 9, .mov (.t 30), none⟩])
  .ret)))⟩ := by kernel_rfl
theorem ir58 : compF Try.prog 58 = some ⟨48, [.t 6],
  (.seq (.ops [⟨some 6, .mov (.c (.v (.int .u32 0))), none⟩])
  (.seq (.ops [⟨some 11, .mov (.t 0), none⟩,
    ⟨some 12, .mkfn (.func 58) [(.t 11)] [], none⟩,
    ⟨some 7, .mov (.t 12), none⟩])
  (.seq (.seq (.ops [⟨some 13, .mov (.t 2), none⟩,
    ⟨some 14, .len false (.t 13), none⟩,
    ⟨some 15, .bin .eql false (.t 14) (.c (.v (.int .i64 1))), none⟩])
  (.cond (.t 15)
    (.seq (.ops [⟨some 16, .mov (.t 2), none⟩,
      ⟨some 17, .iaddr 1 (.t 16) (.c (.v (.int .i64 0))), none⟩,
      ⟨some 18, .load 1 false (.t 17), none⟩,
      ⟨some 6, .mov (.t 18), none⟩])
    .ret)
    .skip))
  (.seq (.ops [⟨some 19, .mov (.t 2), none⟩,
    ⟨some 20, .len false (.t 19), none⟩,
    ⟨some 21, .bin .add false (.t 20) (.c (.v (.int .i64 1))), none⟩,
    ⟨some 22, .bin .quo false (.t 21) (.c (.v (.int .i64 2))), none⟩,
    ⟨some 8, .mov (.t 22), none⟩])
  (.seq (.ops [⟨some 23, .mov (.t 7), none⟩,
    ⟨some 24, .mov (.t 1), none⟩,
    ⟨some 25, .bin .add false (.t 24) (.c (.v (.int .i64 1))), none⟩,
    ⟨some 26, .mov (.t 2), none⟩,
    ⟨some 27, .mov (.t 8), none⟩,
    ⟨some 28, .slice 1 (.t 26) none (some (.t 27)) none, none⟩,
    ⟨some 29, .calld (.t 23) [(.t 25), (.t 28)], none⟩,
    ⟨some 9, .mov (.t 29), none⟩])
  (.seq (.draw [[⟨some 30, .mov (.t 7), none⟩,
      ⟨some 31, .mov (.t 1), none⟩,
      ⟨some 32, .bin .add false (.t 31) (.c (.v (.int .i64 1))), none⟩,
      ⟨some 33, .mov (.t 8), none⟩,
      ⟨some 34, .call 31 [(.t 33)], none⟩,
      ⟨some 35, .bin .add false (.t 32) (.t 34), none⟩,
      ⟨some 36, .mov (.t 2), none⟩,
      ⟨some 37, .mov (.t 8), none⟩,
      ⟨some 38, .slice 1 (.t 36) (some (.t 37)) none none, none⟩],
    [⟨some 39, .calld (.t 30) [(.t 35), (.t 38)], none⟩],
    [⟨some 10, .mov (.t 39), none⟩]])
  (.seq (.ops [⟨some 40, .mov (.t 0), none⟩,
    ⟨some 41, .nilchk (.t 40), none⟩,
    ⟨some 42, .faddr 1 (.t 41), none⟩,
    ⟨some 43, .load 1 false (.t 42), none⟩,
    ⟨some 44, .mov (.t 1), none⟩,
    ⟨some 45, .mov (.t 9), none⟩,
    ⟨some 46, .mov (.t 10), none⟩,
    ⟨some 47, .calld (.t 43) [(.t 44), (.t 45), (.t 46)], none⟩,
    ⟨some 6, .mov (.t 47), none⟩])
  .ret)))))))⟩ := by kernel_rfl
theorem ir60 : compF Try.prog 60 = some ⟨12, [.t 4, .t 5],
  (.seq (.ops [⟨some 2, .box (.t 0), none⟩,
    ⟨some 4, .mov (.c (.v (.int .i64 0))), none⟩,
    ⟨some 5, .mov (.c (.v (.bool false))), none⟩])
  (.seq (.ops [⟨some 6, .load 3 true (.t 2), none⟩,
    ⟨some 7, .build [(.v (.int .i64 0)), (.v (.slice none 0 0)), (.v (.slice none 0 0))] [(0, 3, (.t 6))], none⟩,
    ⟨some 8, .mov (.t 1), none⟩,
    ⟨some 9, .call 71 [(.t 7), (.t 8)], none⟩,
    ⟨some 10, .extract (.t 9) 0, none⟩,
    ⟨some 11, .extract (.t 9) 1, none⟩,
    ⟨some 4, .mov (.t 10), none⟩,
    ⟨some 5, .mov (.t 11), none⟩])
  .ret))⟩ := by kernel_rfl
theorem ir63 : compF Try.prog 63 = some ⟨9, [.t 2],
  (.seq (.ops [⟨some 2, .mov (.c (.v (.slice none 0 0))), none⟩])
  (.seq (.ops [⟨some 3, .mov (.t 0), none⟩,
    ⟨some 4, .mov (.t 0), none⟩,
    ⟨some 5, .len false (.t 4), none⟩,
    ⟨some 6, .mov (.t 0), none⟩,
    ⟨some 7, .len false (.t 6), none⟩,
    ⟨some 8, .slice 1 (.t 3) none (some (.t 5)) (some (.t 7)), none⟩,
    ⟨some 2, .mov (.t 8), none⟩])
  .ret))⟩ := by kernel_rfl
theorem ir64 : compF Try.prog 64 = some ⟨8, [.t 2],
  (.seq (.ops [⟨some 2, .mov (.c (.v (.slice none 0 0))), none⟩])
  (.seq (.seq (.ops [⟨some 3, .mov (.t 0), none⟩,
    ⟨some 4, .isnil false (.t 3), none⟩])
  (.cond (.t 4)
    (.seq (.ops [⟨some 2, .mov (.c (.v (.slice none 0 0))), none⟩])
    .ret)
    .skip))
  (.seq (.ops [⟨some 5, .bslice 1 [(.v (.int .u8 0))] 0 [], none⟩,
    ⟨some 6, .mov (.t 0), none⟩,
    ⟨some 7, .append 1 1 [(.v (.int .u8 0))] (.t 5) (.t 6), none⟩,
    ⟨some 2, .mov (.t 7), none⟩])
  .ret)))⟩ := by kernel_rfl
theorem ir65 : compF Try.prog 65 = some ⟨41, [],
  (.seq (.ops [⟨some 6, .mov (.t 0), none⟩,
    ⟨some 7, .mov (.t 1), none⟩,
    ⟨some 8, .mksl 1 8 [(.v (.int .i64 0))] (.t 7) (.t 7), none⟩,
    ⟨some 9, .nilchk (.t 6), none⟩,
    ⟨some 10, .faddr 0 (.t 9), none⟩,
    ⟨some 11, .faddr 0 (.t 10), none⟩,
    ⟨some 12, .faddr 2 (.t 11), none⟩,
    ⟨none, .store 1 (.t 12) (.t 8), none⟩])
  (.seq (.ops [⟨some 13, .mov (.t 0), none⟩,
    ⟨some 14, .nilchk (.t 13), none⟩,
    ⟨some 15, .faddr 0 (.t 14), none⟩,
    ⟨some 16, .faddr 0 (.t 15), none⟩,
    ⟨some 17, .faddr 1 (.t 16), none⟩,
    ⟨some 18, .load 1 false (.t 17), none⟩,
    ⟨some 19, .len false (.t 18), none⟩,
    ⟨some 20, .mov (.c (.v (.int .i64 0))), none⟩])
  (.block 0 (.loop
    (.seq (.ops [⟨some 21, .bin .lss false (.t 20) (.t 19), none⟩])
    (.seq (.cond (.t 21)
      .skip
      (.exit 0))
    (.seq (.block 1 (.seq (.ops [⟨some 22, .mov (.t 20), none⟩,
      ⟨some 23, .iaddr 1 (.t 18) (.t 20), none⟩,
      ⟨some 24, .load 1 false (.t 23), none⟩,
      ⟨some 4, .mov (.t 22), none⟩,
      ⟨some 5, .mov (.t 24), none⟩])
    (.draw [[⟨some 25, .mov (.t 0), none⟩,
        ⟨some 26, .nilchk (.t 25), none⟩,
        ⟨some 27, .faddr 0 (.t 26), none⟩,
        ⟨some 28, .faddr 0 (.t 27), none⟩,
        ⟨some 29, .faddr 2 (.t 28), none⟩,
        ⟨some 30, .load 1 false (.t 29), none⟩,
        ⟨some 31, .mov (.t 0), none⟩,
        ⟨some 32, .nilchk (.t 31), none⟩,
        ⟨some 33, .faddr 0 (.t 32), none⟩,
        ⟨some 34, .load 3 true (.t 33), none⟩,
        ⟨some 35, .mov (.t 5), none⟩,
        ⟨some 36, .call 67 [(.t 34), (.t 35)], none⟩,
        ⟨some 37, .mov (.t 4), none⟩,
        ⟨some 38, .bin .add false (.t 37) (.c (.v (.int .i64 1))), none⟩],
      [⟨some 39, .iaddr 1 (.t 30) (.t 36), none⟩],
      [⟨none, .store 1 (.t 39) (.t 38), none⟩]])))
    (.ops [⟨some 40, .bin .add false (.t 20) (.c (.v (.int .i64 1))), none⟩,
      ⟨some 20, .mov (.t 40), none⟩]))))))))⟩ := by kernel_rfl
theorem ir66 : compF Try.prog 66 = some ⟨8, [.t 2],
  (.seq (.ops [⟨some 2, .mov (.c (.v (.slice none 0 0))), none⟩])
  (.seq (.seq (.ops [⟨some 3, .mov (.t 0), none⟩,
    ⟨some 4, .isnil false (.t 3), none⟩])
  (.cond (.t 4)
    (.seq (.ops [⟨some 2, .mov (.c (.v (.slice none 0 0))), none⟩])
    .ret)
    .skip))
  (.seq (.ops [⟨some 5, .bslice 1 [(.v (.int .i64 0))] 0 [], none⟩,
    ⟨some 6, .mov (.t 0), none⟩,
    ⟨some 7, .append 1 8 [(.v (.int .i64 0))] (.t 5) (.t 6), none⟩,
    ⟨some 2, .mov (.t 7), none⟩])
  .ret)))⟩ := by kernel_rfl
theorem ir67 : compF Try.prog 67 = some ⟨41, [.t 4],
  (.seq (.ops [⟨some 2, .box (.t 0), none⟩,
    ⟨some 4, .mov (.c (.v (.int .i64 0))), none⟩])
  (.scope 0 (.seq (.draw [[⟨some 7, .mov (.t 1), none⟩,
      ⟨some 8, .call 77 [(.t 7), (.c (.v (.int .u64 0)))], none⟩,
      ⟨some 9, .faddr 0 (.t 2), none⟩,
      ⟨some 10, .faddr 2 (.t 9), none⟩,
      ⟨some 11, .load 1 false (.t 10), none⟩,
      ⟨some 12, .len false (.t 11), none⟩],
    [⟨some 13, .call 76 [(.t 8), (.t 12)], none⟩],
    [⟨some 5, .mov (.t 13), none⟩]])
  (.seq (.label 0)
  (.seq (.ops [⟨some 14, .faddr 0 (.t 2), none⟩,
    ⟨some 15, .faddr 2 (.t 14), none⟩,
    ⟨some 16, .load 1 false (.t 15), none⟩,
    ⟨some 17, .mov (.t 5), none⟩,
    ⟨some 18, .iaddr 1 (.t 16) (.t 17), none⟩,
    ⟨some 19, .load 1 false (.t 18), none⟩,
    ⟨some 6, .mov (.t 19), none⟩])
  (.seq (.seq (.ops [⟨some 20, .mov (.t 6), none⟩,
    ⟨some 21, .bin .eql false (.t 20) (.c (.v (.int .i64 0))), none⟩,
    ⟨some 22, .mov (.t 21), none⟩,
    ⟨some 23, .faddr 0 (.t 2), some (22, false)⟩,
    ⟨some 24, .faddr 1 (.t 23), some (22, false)⟩,
    ⟨some 25, .load 1 false (.t 24), some (22, false)⟩,
    ⟨some 26, .mov (.t 6), some (22, false)⟩,
    ⟨some 27, .bin .sub false (.t 26) (.c (.v (.int .i64 1))), some (22, false)⟩,
    ⟨some 28, .iaddr 1 (.t 25) (.t 27), some (22, false)⟩,
    ⟨some 29, .load 1 false (.t 28), some (22, false)⟩,
    ⟨some 30, .mov (.t 1), some (22, false)⟩,
    ⟨some 31, .call 78 [(.t 29), (.t 30)], some (22, false)⟩,
    ⟨some 32, .pick (.t 22) (.c (.v (.bool true))) (.t 31), none⟩])
  (.cond (.t 32)
    (.seq (.ops [⟨some 33, .mov (.t 5), none⟩,
      ⟨some 4, .mov (.t 33), none⟩])
    .ret)
    .skip))
  (.seq (.ops [⟨some 34, .mov (.t 5), none⟩,
    ⟨some 35, .bin .add false (.t 34) (.c (.v (.int .i64 1))), none⟩,
    ⟨some 36, .faddr 0 (.t 2), none⟩,
    ⟨some 37, .faddr 2 (.t 36), none⟩,
    ⟨some 38, .load 1 false (.t 37), none⟩,
    ⟨some 39, .len false (.t 38), none⟩,
    ⟨some 40, .bin .rem false (.t 35) (.t 39), none⟩,
    ⟨some 5, .mov (.t 40), none⟩])
  (.goto 0))))))
    (.seq .skip
    (.seq (.ops [⟨some 14, .faddr 0 (.t 2), none⟩,
      ⟨some 15, .faddr 2 (.t 14), none⟩,
      ⟨some 16, .load 1 false (.t 15), none⟩,
      ⟨some 17, .mov (.t 5), none⟩,
      ⟨some 18, .iaddr 1 (.t 16) (.t 17), none⟩,
      ⟨some 19, .load 1 false (.t 18), none⟩,
      ⟨some 6, .mov (.t 19), none⟩])
    (.seq (.seq (.ops [⟨some 20, .mov (.t 6), none⟩,
      ⟨some 21, .bin .eql false (.t 20) (.c (.v (.int .i64 0))), none⟩,
      ⟨some 22, .mov (.t 21), none⟩,
      ⟨some 23, .faddr 0 (.t 2), some (22, false)⟩,
      ⟨some 24, .faddr 1 (.t 23), some (22, false)⟩,
      ⟨some 25, .load 1 false (.t 24), some (22, false)⟩,
      ⟨some 26, .mov (.t 6), some (22, false)⟩,
      ⟨some 27, .bin .sub false (.t 26) (.c (.v (.int .i64 1))), some (22, false)⟩,
      ⟨some 28, .iaddr 1 (.t 25) (.t 27), some (22, false)⟩,
      ⟨some 29, .load 1 false (.t 28), some (22, false)⟩,
      ⟨some 30, .mov (.t 1), some (22, false)⟩,
      ⟨some 31, .call 78 [(.t 29), (.t 30)], some (22, false)⟩,
      ⟨some 32, .pick (.t 22) (.c (.v (.bool true))) (.t 31), none⟩])
    (.cond (.t 32)
      (.seq (.ops [⟨some 33, .mov (.t 5), none⟩,
        ⟨some 4, .mov (.t 33), none⟩])
      .ret)
      .skip))
    (.seq (.ops [⟨some 34, .mov (.t 5), none⟩,
      ⟨some 35, .bin .add false (.t 34) (.c (.v (.int .i64 1))), none⟩,
      ⟨some 36, .faddr 0 (.t 2), none⟩,
      ⟨some 37, .faddr 2 (.t 36), none⟩,
      ⟨some 38, .load 1 false (.t 37), none⟩,
      ⟨some 39, .len false (.t 38), none⟩,
      ⟨some 40, .bin .rem false (.t 35) (.t 39), none⟩,
      ⟨some 5, .mov (.t 40), none⟩])
    (.goto 0)))))))⟩ := by kernel_rfl
theorem ir68 : compF Try.prog 68 = some ⟨17, [.t 6, .t 7],
  (.seq (.ops [⟨some 3, .box (.t 0), none⟩,
    ⟨some 6, .mov (.c (.v (.int .i64 0))), none⟩,
    ⟨some 7, .mov (.c (.v (.bool false))), none⟩])
  (.seq (.draw [[⟨some 8, .faddr 0 (.t 3), none⟩,
      ⟨some 9, .load 3 true (.t 8), none⟩,
      ⟨some 10, .mov (.t 1), none⟩,
      ⟨some 11, .mov (.t 2), none⟩,
      ⟨some 12, .call 69 [(.t 10), (.t 11)], none⟩,
      ⟨some 13, .call 70 [(.t 12)], none⟩],
    [⟨some 14, .call 60 [(.t 9), (.t 13)], none⟩],
    [⟨some 15, .extract (.t 14) 0, none⟩,
      ⟨some 16, .extract (.t 14) 1, none⟩],
    [⟨some 6, .mov (.t 15), none⟩],
    [⟨some 7, .mov (.t 16), none⟩]])
  .ret))⟩ := by kernel_rfl
theorem ir69 : compF Try.prog 69 = some ⟨27, [.c 4 8 true],
  (.seq (.ops [⟨some 4, .alloc (.agg [(.v (.int .u8 0)), (.v (.int .u8 0)), (.v (.int .u8 0)), (.v (.int .u8 0)), (.v (.int .u8 0)), (.v (.int .u8 0)), (.v (.int .u8 0)), (.v (.int .u8 0))]), none⟩])
  (.seq (.ops [⟨some 5, .alloc (.agg [(.v (.int .u8 0)), (.v (.int .u8 0)), (.v (.int .u8 0)), (.v (.int .u8 0)), (.v (.int .u8 0)), (.v (.int .u8 0)), (.v (.int .u8 0)), (.v (.int .u8 0))]), none⟩])
  (.seq (.seq (.ops [⟨some 7, .mov (.c (.v (.int .i64 0))), none⟩])
  (.block 0 (.loop
    (.seq (.ops [⟨some 8, .bin .lss false (.t 7) (.c (.v (.int .i64 4))), none⟩])
    (.seq (.cond (.t 8)
      .skip
      (.exit 0))
    (.seq (.block 1 (.seq (.ops [⟨some 9, .mov (.t 7), none⟩,
      ⟨some 6, .mov (.t 9), none⟩])
    (.drawF [([1, 2, 8, 9, 10, 11, 12], [⟨some 10, .mov (.t 6), none⟩,
        ⟨some 11, .mov (.t 6), none⟩,
        ⟨some 12, .bin .add false (.c (.v (.int .i64 4))) (.t 11), none⟩,
        ⟨some 13, .mov (.t 0), none⟩,
        ⟨some 14, .mov (.t 6), none⟩,
        ⟨some 15, .bin .mul false (.c (.v (.int .i64 8))) (.t 14), none⟩,
        ⟨some 16, .bin .shr false (.t 13) (.t 15), none⟩,
        ⟨some 17, .conv .u8 (.t 16), none⟩,
        ⟨some 18, .mov (.t 1), none⟩,
        ⟨some 19, .mov (.t 6), none⟩,
        ⟨some 20, .bin .mul false (.c (.v (.int .i64 8))) (.t 19), none⟩,
        ⟨some 21, .bin .shr false (.t 18) (.t 20), none⟩,
        ⟨some 22, .conv .u8 (.t 21), none⟩,
        ⟨some 23, .iaddrA 8 1 (.t 5) (.t 10), none⟩,
        ⟨none, .store 1 (.t 23) (.t 17), none⟩]),
      ([], [⟨some 24, .iaddrA 8 1 (.t 5) (.t 12), none⟩]),
      ([], [⟨none, .store 1 (.t 24) (.t 22), none⟩])])))
    (.ops [⟨some 25, .bin .add false (.t 7) (.c (.v (.int .i64 1))), none⟩,
      ⟨some 7, .mov (.t 25), none⟩])))))))
  (.seq (.ops [⟨some 26, .load 8 true (.t 5), none⟩,
    ⟨none, .store 8 (.t 4) (.t 26), none⟩])
  .ret))))⟩ := by kernel_rfl
theorem ir70 : compF Try.prog 70 = some ⟨7, [.t 2],
  (.seq (.ops [⟨some 1, .box (.t 0), none⟩,
    ⟨some 2, .mov (.c (.v (.slice none 0 0))), none⟩])
  (.seq (.ops [⟨some 3, .mov (.c (.v (.int .i64 8))), none⟩])
  (.seq (.ops [⟨some 4, .mov (.t 3), none⟩,
    ⟨some 5, .mov (.t 3), none⟩,
    ⟨some 6, .sliceA 8 1 (.t 1) none (some (.t 4)) (some (.t 5)), none⟩,
    ⟨some 2, .mov (.t 6), none⟩])
  .ret)))⟩ := by kernel_rfl
theorem ir71 : compF Try.prog 71 = some ⟨25, [.t 4, .t 5],
  (.seq (.ops [⟨some 2, .box (.t 0), none⟩,
    ⟨some 4, .mov (.c (.v (.int .i64 0))), none⟩,
    ⟨some 5, .mov (.c (.v (.bool false))), none⟩])
  (.seq (.seq (.ops [⟨some 7, .faddr 0 (.t 2), none⟩,
    ⟨some 8, .faddr 2 (.t 7), none⟩,
    ⟨some 9, .load 1 false (.t 8), none⟩,
    ⟨some 10, .len false (.t 9), none⟩,
    ⟨some 11, .bin .eql false (.t 10) (.c (.v (.int .i64 0))), none⟩])
  (.cond (.t 11)
    (.seq (.ops [⟨some 4, .mov (.c (.v (.int .i64 0))), none⟩,
      ⟨some 5, .mov (.c (.v (.bool false))), none⟩])
    .ret)
    .skip))
  (.seq (.draw [[⟨some 12, .faddr 0 (.t 2), none⟩,
      ⟨some 13, .faddr 2 (.t 12), none⟩,
      ⟨some 14, .load 1 false (.t 13), none⟩,
      ⟨some 15, .load 3 true (.t 2), none⟩,
      ⟨some 16, .mov (.t 1), none⟩,
      ⟨some 17, .call 67 [(.t 15), (.t 16)], none⟩],
    [⟨some 18, .iaddr 1 (.t 14) (.t 17), none⟩],
    [⟨some 19, .load 1 false (.t 18), none⟩],
    [⟨some 6, .mov (.t 19), none⟩]])
  (.seq (.ops [⟨some 20, .mov (.t 6), none⟩,
    ⟨some 21, .bin .sub false (.t 20) (.c (.v (.int .i64 1))), none⟩,
    ⟨some 22, .mm true (.t 21) [(.c (.v (.int .i64 0)))], none⟩,
    ⟨some 23, .mov (.t 6), none⟩,
    ⟨some 24, .bin .gtr false (.t 23) (.c (.v (.int .i64 0))), none⟩,
    ⟨some 4, .mov (.t 22), none⟩,
    ⟨some 5, .mov (.t 24), none⟩])
  .ret))))⟩ := by kernel_rfl
theorem ir76 : compF Try.prog 76 = some ⟨12, [.t 4],
  (.seq (.ops [⟨some 4, .mov (.c (.v (.int .i64 0))), none⟩])
  (.seq (.seq (.ops [⟨some 5, .mov (.t 1), none⟩,
    ⟨some 6, .bin .lss false (.t 5) (.c (.v (.int .i64 1))), none⟩])
  (.cond (.t 6)
    (.seq (.ops [⟨some 4, .mov (.c (.v (.int .i64 0))), none⟩])
    .ret)
    .skip))
  (.seq (.ops [⟨some 7, .mov (.t 0), none⟩,
    ⟨some 8, .mov (.t 1), none⟩,
    ⟨some 9, .conv .u64 (.t 8), none⟩,
    ⟨some 10, .bin .rem false (.t 7) (.t 9), none⟩,
    ⟨some 11, .conv .i64 (.t 10), none⟩,
    ⟨some 4, .mov (.t 11), none⟩])
  .ret)))⟩ := by kernel_rfl
theorem ir77 : compF Try.prog 77 = some ⟨37, [.t 4],
  (.seq (.ops [⟨some 4, .mov (.c (.v (.int .u64 0))), none⟩])
  (.seq (.ops [⟨some 11, .mov (.t 1), none⟩,
    ⟨some 12, .bin .xor false (.t 11) (.c (.v (.int .u64 11400714819323198485))), none⟩,
    ⟨some 5, .alloc (.v (.int .u64 0)), none⟩,
    ⟨none, .store 1 (.t 5) (.t 12), none⟩])
  (.seq (.seq (.ops [⟨some 13, .mov (.t 0), none⟩,
    ⟨some 14, .len false (.t 13), none⟩,
    ⟨some 15, .mov (.c (.v (.int .i64 0))), none⟩])
  (.block 0 (.loop
    (.seq (.ops [⟨some 16, .bin .lss false (.t 15) (.t 14), none⟩])
    (.seq (.cond (.t 16)
      .skip
      (.exit 0))
    (.seq (.block 1 (.seq (.ops [⟨some 17, .iaddr 1 (.t 13) (.t 15), none⟩,
      ⟨some 18, .load 1 false (.t 17), none⟩,
      ⟨some 7, .mov (.t 18), none⟩])
    (.ops [⟨some 19, .load 1 false (.t 5), none⟩,
      ⟨some 20, .mov (.t 7), none⟩,
      ⟨some 21, .conv .u64 (.t 20), none⟩,
      ⟨some 22, .bin .xor false (.t 19) (.t 21), none⟩,
      ⟨some 23, .bin .mul false (.t 22) (.c (.v (.int .u64 1099511628211))), none⟩,
      ⟨none, .store 1 (.t 5) (.t 23), none⟩])))
    (.ops [⟨some 24, .bin .add false (.t 15) (.c (.v (.int .i64 1))), none⟩,
      ⟨some 15, .mov (.t 24), none⟩])))))))
  (.seq (.ops [⟨some 25, .mkfn (.func 83) [] [(.t 5)], none⟩,
    ⟨some 26, .mkfn (.func 84) [] [(.t 5)], none⟩,
    ⟨some 27, .mkfn (.func 85) [] [(.t 5)], none⟩,
    ⟨some 28, .build [(.v .nilFunc), (.v .nilFunc), (.v .nilFunc)] [(0, 1, (.t 25)), (1, 1, (.t 26)), (2, 1, (.t 27))], none⟩,
    ⟨some 8, .alloc (.agg [(.v .nilFunc), (.v .nilFunc), (.v .nilFunc)]), none⟩,
    ⟨none, .store 3 (.t 8) (.t 28), none⟩])
  (.seq (.seq (.ops [⟨some 29, .load 3 true (.t 8), none⟩,
    ⟨some 30, .mov (.c (.v (.int .i64 0))), none⟩])
  (.block 2 (.loop
    (.seq (.ops [⟨some 31, .bin .lss false (.t 30) (.c (.v (.int .i64 3))), none⟩])
    (.seq (.cond (.t 31)
      .skip
      (.exit 2))
    (.seq (.block 3 (.seq (.ops [⟨some 32, .idx 3 1 false (.t 29) (.t 30), none⟩,
      ⟨some 10, .mov (.t 32), none⟩])
    (.ops [⟨some 33, .mov (.t 10), none⟩,
      ⟨some 34, .calld (.t 33) [], none⟩])))
    (.ops [⟨some 35, .bin .add false (.t 30) (.c (.v (.int .i64 1))), none⟩,
      ⟨some 30, .mov (.t 35), none⟩])))))))
  (.seq (.ops [⟨some 36, .load 1 false (.t 5), none⟩,
    ⟨some 4, .mov (.t 36), none⟩])
  .ret))))))⟩ := by kernel_rfl
theorem ir78 : compF Try.prog 78 = some ⟨10, [.t 4],
  (.seq (.ops [⟨some 4, .mov (.c (.v (.bool false))), none⟩])
  (.seq (.ops [⟨some 5, .mov (.t 0), none⟩,
    ⟨some 6, .b2s (.t 5), none⟩,
    ⟨some 7, .mov (.t 1), none⟩,
    ⟨some 8, .b2s (.t 7), none⟩,
    ⟨some 9, .bin .eql false (.t 6) (.t 8), none⟩,
    ⟨some 4, .mov (.t 9), none⟩])
  .ret))⟩ := by kernel_rfl
theorem ir83 : compF Try.prog 83 = some ⟨5, [],
  (.ops [⟨some 1, .load 1 false (.t 0), none⟩,
    ⟨some 2, .load 1 false (.t 0), none⟩,
    ⟨some 3, .bin .shr false (.t 2) (.c (.v (.int .u64 29))), none⟩,
    ⟨some 4, .bin .xor false (.t 1) (.t 3), none⟩,
    ⟨none, .store 1 (.t 0) (.t 4), none⟩])⟩ := by kernel_rfl
theorem ir84 : compF Try.prog 84 = some ⟨3, [],
  (.ops [⟨some 1, .load 1 false (.t 0), none⟩,
    ⟨some 2, .bin .mul false (.t 1) (.c (.v (.int .u64 13787848793156543929))), none⟩,
    ⟨none, .store 1 (.t 0) (.t 2), none⟩])⟩ := by kernel_rfl
theorem ir85 : compF Try.prog 85 = some ⟨5, [],
  (.ops [⟨some 1, .load 1 false (.t 0), none⟩,
    ⟨some 2, .load 1 false (.t 0), none⟩,
    ⟨some 3, .bin .shr false (.t 2) (.c (.v (.int .u64 32))), none⟩,
    ⟨some 4, .bin .xor false (.t 1) (.t 3), none⟩,
    ⟨none, .store 1 (.t 0) (.t 4), none⟩])⟩ := by kernel_rfl
end Go.Proofs.Ytagaakajpblmjaa
