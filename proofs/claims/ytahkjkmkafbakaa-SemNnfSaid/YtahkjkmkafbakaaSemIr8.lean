/- The functions of the program in the small language. -/
import Derived.Test.YtahkjkmkafbakaaLgR
import Derived.Test.YtahkjkmkafbakaaChecked
namespace Go.Proofs.Ytahkjkmkafbakaa
open Go Lg

set_option maxRecDepth 100000 in
theorem ir8 : compF Try.prog 8 = some ⟨116, [.t 4],
  (.seq (.ops [⟨some 2, .box (.t 0), none⟩,
    ⟨some 3, .box (.t 1), none⟩,
    ⟨some 4, .mov (.c (.v (.bool false))), none⟩])
  (.seq (.ops [⟨some 14, .call 9 [], none⟩,
    ⟨some 5, .mov (.t 14), none⟩])
  (.seq (.seq (.ops [⟨some 15, .load 4 true (.t 2), none⟩,
    ⟨some 16, .call 13 [(.t 15), (.c (.v (.int .i64 3)))], none⟩,
    ⟨some 17, .un .not (.t 16), none⟩,
    ⟨some 18, .mov (.t 17), none⟩,
    ⟨some 19, .load 2 true (.t 3), some (18, false)⟩,
    ⟨some 20, .call 11 [(.t 19)], some (18, false)⟩,
    ⟨some 21, .un .not (.t 20), some (18, false)⟩,
    ⟨some 22, .pick (.t 18) (.c (.v (.bool true))) (.t 21), none⟩,
    ⟨some 23, .mov (.t 22), none⟩,
    ⟨some 24, .faddr 0 (.t 3), some (23, false)⟩,
    ⟨some 25, .load 1 false (.t 24), some (23, false)⟩,
    ⟨some 26, .len false (.t 25), some (23, false)⟩,
    ⟨some 27, .bin .gtr false (.t 26) (.c (.v (.int .i64 12))), some (23, false)⟩,
    ⟨some 28, .pick (.t 23) (.c (.v (.bool true))) (.t 27), none⟩,
    ⟨some 29, .mov (.t 28), none⟩,
    ⟨some 30, .load 4 true (.t 2), some (29, false)⟩,
    ⟨some 31, .call 29 [(.t 30)], some (29, false)⟩,
    ⟨some 32, .bin .gtr false (.t 31) (.c (.v (.int .i64 40))), some (29, false)⟩,
    ⟨some 33, .pick (.t 29) (.c (.v (.bool true))) (.t 32), none⟩])
  (.cond (.t 33)
    (.seq (.ops [⟨some 34, .mov (.t 5), none⟩,
      ⟨some 4, .mov (.t 34), none⟩])
    .ret)
    .skip))
  (.seq (.ops [⟨some 36, .load 4 true (.t 2), none⟩,
    ⟨some 37, .call 30 [(.t 36)], none⟩,
    ⟨some 35, .mov (.t 37), none⟩,
    ⟨some 38, .extract (.t 35) 0, none⟩,
    ⟨some 39, .extract (.t 35) 1, none⟩,
    ⟨some 6, .alloc (.agg [(.v (.int .i64 0)), (.v (.int .i64 0)), (.v (.int .i64 0)), (.v (.slice none 0 0))]), none⟩,
    ⟨none, .store 4 (.t 6) (.t 38), none⟩,
    ⟨some 7, .mov (.t 39), none⟩])
  (.seq (.ops [⟨some 41, .load 4 true (.t 2), none⟩,
    ⟨some 42, .call 31 [(.t 41)], none⟩,
    ⟨some 40, .mov (.t 42), none⟩,
    ⟨some 43, .extract (.t 40) 0, none⟩,
    ⟨some 44, .extract (.t 40) 1, none⟩,
    ⟨some 8, .alloc (.agg [(.v (.int .i64 0)), (.v (.int .i64 0)), (.v (.int .i64 0)), (.v (.slice none 0 0))]), none⟩,
    ⟨none, .store 4 (.t 8) (.t 43), none⟩,
    ⟨some 9, .mov (.t 44), none⟩])
  (.seq (.seq (.ops [⟨some 45, .mov (.t 7), none⟩,
    ⟨some 46, .bin .neq false (.t 45) (.c (.v (.int .i64 0))), none⟩,
    ⟨some 47, .mov (.t 46), none⟩,
    ⟨some 48, .mov (.t 9), some (47, false)⟩,
    ⟨some 49, .bin .neq false (.t 48) (.c (.v (.int .i64 0))), some (47, false)⟩,
    ⟨some 50, .pick (.t 47) (.c (.v (.bool true))) (.t 49), none⟩])
  (.cond (.t 50)
    (.seq (.ops [⟨some 51, .mov (.t 5), none⟩,
      ⟨some 52, .mov (.t 51), none⟩,
      ⟨some 53, .mov (.t 7), some (52, true)⟩,
      ⟨some 54, .mov (.t 9), some (52, true)⟩,
      ⟨some 55, .bin .eql false (.t 53) (.t 54), some (52, true)⟩,
      ⟨some 56, .pick (.t 52) (.t 55) (.c (.v (.bool false))), none⟩,
      ⟨some 4, .mov (.t 56), none⟩])
    .ret)
    .skip))
  (.seq (.ops [⟨some 57, .load 4 true (.t 2), none⟩,
    ⟨some 58, .load 2 true (.t 3), none⟩,
    ⟨some 59, .call 15 [(.t 57), (.t 58)], none⟩,
    ⟨some 10, .mov (.t 59), none⟩])
  (.seq (.ops [⟨some 60, .load 4 true (.t 6), none⟩,
    ⟨some 61, .load 2 true (.t 3), none⟩,
    ⟨some 62, .call 15 [(.t 60), (.t 61)], none⟩,
    ⟨some 11, .mov (.t 62), none⟩])
  (.seq (.ops [⟨some 63, .load 4 true (.t 8), none⟩,
    ⟨some 64, .load 2 true (.t 3), none⟩,
    ⟨some 65, .call 15 [(.t 63), (.t 64)], none⟩,
    ⟨some 12, .mov (.t 65), none⟩])
  (.seq (.seq (.ops [⟨some 66, .mov (.t 10), none⟩,
    ⟨some 67, .len false (.t 66), none⟩,
    ⟨some 68, .faddr 0 (.t 3), none⟩,
    ⟨some 69, .load 1 false (.t 68), none⟩,
    ⟨some 70, .len false (.t 69), none⟩,
    ⟨some 71, .bin .neq false (.t 67) (.t 70), none⟩,
    ⟨some 72, .mov (.t 71), none⟩,
    ⟨some 73, .mov (.t 11), some (72, false)⟩,
    ⟨some 74, .len false (.t 73), some (72, false)⟩,
    ⟨some 75, .faddr 0 (.t 3), some (72, false)⟩,
    ⟨some 76, .load 1 false (.t 75), some (72, false)⟩,
    ⟨some 77, .len false (.t 76), some (72, false)⟩,
    ⟨some 78, .bin .neq false (.t 74) (.t 77), some (72, false)⟩,
    ⟨some 79, .pick (.t 72) (.c (.v (.bool true))) (.t 78), none⟩,
    ⟨some 80, .mov (.t 79), none⟩,
    ⟨some 81, .mov (.t 12), some (80, false)⟩,
    ⟨some 82, .len false (.t 81), some (80, false)⟩,
    ⟨some 83, .faddr 0 (.t 3), some (80, false)⟩,
    ⟨some 84, .load 1 false (.t 83), some (80, false)⟩,
    ⟨some 85, .len false (.t 84), some (80, false)⟩,
    ⟨some 86, .bin .neq false (.t 82) (.t 85), some (80, false)⟩,
    ⟨some 87, .pick (.t 80) (.c (.v (.bool true))) (.t 86), none⟩])
  (.cond (.t 87)
    (.seq (.ops [⟨some 4, .mov (.c (.v (.bool false))), none⟩])
    .ret)
    .skip))
  (.seq (.seq (.ops [⟨some 13, .mov (.c (.v (.int .i64 0))), none⟩])
  (.block 0 (.loop
    (.seq (.seq (.ops [⟨some 88, .mov (.t 13), none⟩,
      ⟨some 89, .faddr 0 (.t 3), none⟩,
      ⟨some 90, .load 1 false (.t 89), none⟩,
      ⟨some 91, .len false (.t 90), none⟩,
      ⟨some 92, .bin .lss false (.t 88) (.t 91), none⟩])
    (.cond (.t 92)
      .skip
      (.exit 0)))
    (.seq (.block 1 (.seq (.draw [[⟨some 95, .mov (.t 10), none⟩,
        ⟨some 96, .mov (.t 13), none⟩,
        ⟨some 97, .iaddr 1 (.t 95) (.t 96), none⟩,
        ⟨some 98, .load 1 false (.t 97), none⟩,
        ⟨some 99, .mov (.t 11), none⟩,
        ⟨some 100, .mov (.t 13), none⟩,
        ⟨some 101, .iaddr 1 (.t 99) (.t 100), none⟩,
        ⟨some 102, .load 1 false (.t 101), none⟩],
      [⟨some 103, .bin .neq true (.t 98) (.t 102), none⟩],
      [⟨some 104, .mov (.t 103), none⟩],
      [⟨some 105, .mov (.t 10), some (104, false)⟩,
        ⟨some 106, .mov (.t 13), some (104, false)⟩,
        ⟨some 107, .iaddr 1 (.t 105) (.t 106), some (104, false)⟩,
        ⟨some 108, .load 1 false (.t 107), some (104, false)⟩,
        ⟨some 109, .mov (.t 12), some (104, false)⟩,
        ⟨some 110, .mov (.t 13), some (104, false)⟩,
        ⟨some 111, .iaddr 1 (.t 109) (.t 110), some (104, false)⟩,
        ⟨some 112, .load 1 false (.t 111), some (104, false)⟩],
      [⟨some 113, .bin .eql true (.t 108) (.t 112), some (104, false)⟩],
      [⟨some 114, .pick (.t 104) (.c (.v (.bool true))) (.t 113), none⟩]])
    (.cond (.t 114)
      (.seq (.ops [⟨some 4, .mov (.c (.v (.bool false))), none⟩])
      .ret)
      .skip)))
    (.ops [⟨some 93, .mov (.t 13), none⟩,
      ⟨some 94, .bin .add false (.t 93) (.c (.v (.int .i64 1))), none⟩,
      ⟨some 13, .mov (.t 94), none⟩]))))))
  (.seq (.ops [⟨some 115, .mov (.t 5), none⟩,
    ⟨some 4, .mov (.t 115), none⟩])
  .ret))))))))))))⟩ := by kernel_rfl

end Go.Proofs.Ytahkjkmkafbakaa
