/- Functions of the program in the small language. -/
import Derived.Test.YtagaakajpblmjaaTreeIr
import Derived.Test.YtagaakajpblmjaaChecked
namespace Go.Proofs.Ytagaakajpblmjaa
open Go Lg
set_option maxRecDepth 100000 in
theorem ir6 : compF Try.prog 6 = some ⟨152, [.t 4],
  (.seq (.ops [⟨some 4, .mov (.c (.v (.bool false))), none⟩])
  (.seq (.ops [⟨some 19, .call 8 [], none⟩,
    ⟨some 5, .mov (.t 19), none⟩])
  (.seq (.ops [⟨some 20, .mov (.t 0), none⟩,
    ⟨some 21, .conv .i64 (.t 20), none⟩,
    ⟨some 22, .bin .rem false (.t 21) (.c (.v (.int .i64 3))), none⟩,
    ⟨some 23, .bin .add false (.c (.v (.int .i64 1))) (.t 22), none⟩,
    ⟨some 6, .mov (.t 23), none⟩])
  (.seq (.ops [⟨some 24, .mov (.t 6), none⟩,
    ⟨some 25, .bin .add false (.t 24) (.c (.v (.int .i64 4))), none⟩,
    ⟨some 26, .build [(.v (.int .i64 0)), (.v (.int .i64 0))] [(0, 1, (.c (.v (.int .i64 5)))), (1, 1, (.t 25))], none⟩,
    ⟨some 7, .alloc (.agg [(.v (.int .i64 0)), (.v (.int .i64 0))]), none⟩,
    ⟨none, .store 2 (.t 7) (.t 26), none⟩])
  (.seq (.ops [⟨some 27, .load 2 true (.t 7), none⟩,
    ⟨some 28, .load 2 true (.t 7), none⟩,
    ⟨some 29, .load 2 true (.t 7), none⟩,
    ⟨some 30, .load 2 true (.t 7), none⟩,
    ⟨some 31, .load 2 true (.t 7), none⟩,
    ⟨some 32, .bslice 2 [(.v (.int .i64 0)), (.v (.int .i64 0))] 5 [(0, 2, (.t 27)), (2, 2, (.t 28)), (4, 2, (.t 29)), (6, 2, (.t 30)), (8, 2, (.t 31))], none⟩,
    ⟨some 8, .mov (.t 32), none⟩])
  (.seq (.ops [⟨some 34, .mov (.t 8), none⟩,
    ⟨some 35, .call 11 [(.t 34), (.c (.v (.int .i64 1000)))], none⟩,
    ⟨some 33, .mov (.t 35), none⟩,
    ⟨some 36, .extract (.t 33) 0, none⟩,
    ⟨some 37, .extract (.t 33) 1, none⟩,
    ⟨some 9, .alloc (.agg [(.v (.slice none 0 0)), (.v (.slice none 0 0))]), none⟩,
    ⟨none, .store 2 (.t 9) (.t 36), none⟩,
    ⟨some 10, .mov (.t 37), none⟩])
  (.seq (.ops [⟨some 38, .mov (.t 6), none⟩,
    ⟨some 39, .mov (.t 6), none⟩,
    ⟨some 40, .bin .mul false (.t 38) (.t 39), none⟩,
    ⟨some 41, .mov (.t 6), none⟩,
    ⟨some 42, .bin .mul false (.t 40) (.t 41), none⟩,
    ⟨some 43, .mov (.t 6), none⟩,
    ⟨some 44, .bin .mul false (.t 42) (.t 43), none⟩,
    ⟨some 45, .mov (.t 6), none⟩,
    ⟨some 46, .bin .mul false (.t 44) (.t 45), none⟩,
    ⟨some 11, .mov (.t 46), none⟩])
  (.seq (.ops [⟨some 47, .mov (.t 1), none⟩,
    ⟨some 48, .conv .i64 (.t 47), none⟩,
    ⟨some 49, .bin .rem false (.t 48) (.c (.v (.int .i64 50))), none⟩,
    ⟨some 50, .bin .mul false (.c (.v (.int .i64 2))) (.t 49), none⟩,
    ⟨some 51, .bin .add false (.c (.v (.int .i64 1))) (.t 50), none⟩,
    ⟨some 12, .mov (.t 51), none⟩])
  (.seq (.block 0 (.loop
    (.seq (.seq (.ops [⟨some 52, .mov (.t 12), none⟩,
      ⟨some 53, .bin .rem false (.t 52) (.c (.v (.int .i64 3))), none⟩,
      ⟨some 54, .bin .eql false (.t 53) (.c (.v (.int .i64 0))), none⟩])
    (.cond (.t 54)
      .skip
      (.exit 0)))
    (.block 1 (.ops [⟨some 55, .mov (.t 12), none⟩,
      ⟨some 56, .bin .add false (.t 55) (.c (.v (.int .i64 2))), none⟩,
      ⟨some 12, .mov (.t 56), none⟩])))))
  (.seq (.seq (.ops [⟨some 13, .mov (.c (.v (.int .i64 0))), none⟩])
  (.block 2 (.loop
    (.seq (.seq (.ops [⟨some 57, .mov (.t 13), none⟩,
      ⟨some 58, .mov (.t 11), none⟩,
      ⟨some 59, .bin .lss false (.t 57) (.t 58), none⟩])
    (.cond (.t 59)
      .skip
      (.exit 2)))
    (.seq (.block 3 (.seq (.ops [⟨some 62, .mov (.t 13), none⟩,
      ⟨some 63, .mov (.t 12), none⟩,
      ⟨some 64, .bin .mul false (.t 62) (.t 63), none⟩,
      ⟨some 65, .mov (.t 11), none⟩,
      ⟨some 66, .bin .rem false (.t 64) (.t 65), none⟩,
      ⟨some 14, .mov (.t 66), none⟩])
    (.seq (.draw [[⟨some 67, .mov (.t 14), none⟩,
        ⟨some 68, .mov (.t 6), none⟩,
        ⟨some 69, .bin .rem false (.t 67) (.t 68), none⟩,
        ⟨some 70, .bin .add false (.t 69) (.c (.v (.int .i64 5))), none⟩,
        ⟨some 71, .mov (.t 14), none⟩,
        ⟨some 72, .mov (.t 6), none⟩,
        ⟨some 73, .bin .quo false (.t 71) (.t 72), none⟩,
        ⟨some 74, .mov (.t 6), none⟩,
        ⟨some 75, .bin .rem false (.t 73) (.t 74), none⟩,
        ⟨some 76, .bin .add false (.t 75) (.c (.v (.int .i64 5))), none⟩,
        ⟨some 77, .mov (.t 14), none⟩,
        ⟨some 78, .mov (.t 6), none⟩,
        ⟨some 79, .bin .quo false (.t 77) (.t 78), none⟩,
        ⟨some 80, .mov (.t 6), none⟩,
        ⟨some 81, .bin .quo false (.t 79) (.t 80), none⟩,
        ⟨some 82, .mov (.t 6), none⟩,
        ⟨some 83, .bin .rem false (.t 81) (.t 82), none⟩,
        ⟨some 84, .bin .add false (.t 83) (.c (.v (.int .i64 5))), none⟩,
        ⟨some 85, .mov (.t 14), none⟩,
        ⟨some 86, .mov (.t 6), none⟩,
        ⟨some 87, .bin .quo false (.t 85) (.t 86), none⟩,
        ⟨some 88, .mov (.t 6), none⟩,
        ⟨some 89, .bin .quo false (.t 87) (.t 88), none⟩,
        ⟨some 90, .mov (.t 6), none⟩,
        ⟨some 91, .bin .quo false (.t 89) (.t 90), none⟩,
        ⟨some 92, .mov (.t 6), none⟩,
        ⟨some 93, .bin .rem false (.t 91) (.t 92), none⟩,
        ⟨some 94, .bin .add false (.t 93) (.c (.v (.int .i64 5))), none⟩,
        ⟨some 95, .mov (.t 14), none⟩,
        ⟨some 96, .mov (.t 6), none⟩,
        ⟨some 97, .bin .quo false (.t 95) (.t 96), none⟩,
        ⟨some 98, .mov (.t 6), none⟩,
        ⟨some 99, .bin .quo false (.t 97) (.t 98), none⟩,
        ⟨some 100, .mov (.t 6), none⟩,
        ⟨some 101, .bin .quo false (.t 99) (.t 100), none⟩,
        ⟨some 102, .mov (.t 6), none⟩,
        ⟨some 103, .bin .quo false (.t 101) (.t 102), none⟩,
        ⟨some 104, .mov (.t 6), none⟩,
        ⟨some 105, .bin .rem false (.t 103) (.t 104), none⟩,
        ⟨some 106, .bin .add false (.t 105) (.c (.v (.int .i64 5))), none⟩],
      [⟨some 107, .bslice 1 [(.v (.int .i64 0))] 5 [(0, 1, (.t 70)), (1, 1, (.t 76)), (2, 1, (.t 84)), (3, 1, (.t 94)), (4, 1, (.t 106))], none⟩],
      [⟨some 15, .mov (.t 107), none⟩]])
    (.seq (.ops [⟨some 109, .load 2 true (.t 9), none⟩,
      ⟨some 110, .mov (.t 8), none⟩,
      ⟨some 111, .mov (.t 15), none⟩,
      ⟨some 112, .call 13 [(.t 109), (.t 110), (.t 111)], none⟩,
      ⟨some 108, .mov (.t 112), none⟩,
      ⟨some 113, .extract (.t 108) 0, none⟩,
      ⟨some 114, .extract (.t 108) 1, none⟩,
      ⟨some 115, .extract (.t 108) 2, none⟩,
      ⟨some 16, .alloc (.agg [(.v (.slice none 0 0)), (.v (.slice none 0 0))]), none⟩,
      ⟨none, .store 2 (.t 16) (.t 113), none⟩,
      ⟨some 17, .mov (.t 114), none⟩,
      ⟨some 18, .mov (.t 115), none⟩])
    (.seq (.seq (.ops [⟨some 116, .mov (.t 17), none⟩,
      ⟨some 117, .un .not (.t 116), none⟩,
      ⟨some 118, .mov (.t 117), none⟩,
      ⟨some 119, .mov (.t 18), some (118, false)⟩,
      ⟨some 120, .bin .neq false (.t 119) (.c (.v (.int .i64 0))), some (118, false)⟩,
      ⟨some 121, .pick (.t 118) (.c (.v (.bool true))) (.t 120), none⟩])
    (.cond (.t 121)
      (.seq (.ops [⟨some 4, .mov (.c (.v (.bool false))), none⟩])
      .ret)
      .skip))
    (.ops [⟨some 122, .load 2 true (.t 16), none⟩,
      ⟨none, .store 2 (.t 9) (.t 122), none⟩]))))))
    (.ops [⟨some 60, .mov (.t 13), none⟩,
      ⟨some 61, .bin .add false (.t 60) (.c (.v (.int .i64 1))), none⟩,
      ⟨some 13, .mov (.t 61), none⟩]))))))
  (.seq (.ops [⟨some 123, .mov (.t 5), none⟩,
    ⟨some 124, .mov (.t 123), none⟩,
    ⟨some 125, .mov (.t 10), some (124, true)⟩,
    ⟨some 126, .bin .eql false (.t 125) (.c (.v (.int .i64 0))), some (124, true)⟩,
    ⟨some 127, .pick (.t 124) (.t 126) (.c (.v (.bool false))), none⟩,
    ⟨some 128, .mov (.t 127), none⟩,
    ⟨some 129, .load 2 true (.t 9), some (128, true)⟩,
    ⟨some 130, .call 21 [(.t 129)], some (128, true)⟩,
    ⟨some 131, .mov (.t 11), some (128, true)⟩,
    ⟨some 132, .bin .eql false (.t 130) (.t 131), some (128, true)⟩,
    ⟨some 133, .pick (.t 128) (.t 132) (.c (.v (.bool false))), none⟩,
    ⟨some 134, .mov (.t 133), none⟩,
    ⟨some 135, .load 2 true (.t 9), some (134, true)⟩,
    ⟨some 136, .call 23 [(.t 135)], some (134, true)⟩,
    ⟨some 137, .mov (.t 11), some (134, true)⟩,
    ⟨some 138, .mov (.t 6), some (134, true)⟩,
    ⟨some 139, .mov (.t 6), some (134, true)⟩,
    ⟨some 140, .bin .mul false (.t 138) (.t 139), some (134, true)⟩,
    ⟨some 141, .mov (.t 6), some (134, true)⟩,
    ⟨some 142, .bin .mul false (.t 140) (.t 141), some (134, true)⟩,
    ⟨some 143, .mov (.t 6), some (134, true)⟩,
    ⟨some 144, .mov (.t 6), some (134, true)⟩,
    ⟨some 145, .bin .mul false (.t 143) (.t 144), some (134, true)⟩,
    ⟨some 146, .mov (.t 6), some (134, true)⟩,
    ⟨some 147, .mov (.t 6), some (134, true)⟩,
    ⟨some 148, .bin .mul false (.t 146) (.t 147), some (134, true)⟩,
    ⟨some 149, .bslice 1 [(.v (.int .i64 0))] 4 [(0, 1, (.t 137)), (1, 1, (.t 142)), (2, 1, (.t 145)), (3, 1, (.t 148))], some (134, true)⟩,
    ⟨some 150, .call 22 [(.t 136), (.t 149)], some (134, true)⟩,
    ⟨some 151, .pick (.t 134) (.t 150) (.c (.v (.bool false))), none⟩,
    ⟨some 4, .mov (.t 151), none⟩])
  .ret)))))))))))⟩ := by kernel_rfl
end Go.Proofs.Ytagaakajpblmjaa
