/- The code of the statement of words written longer. -/
import Derived.Test.YtahkjkmkafbakaaLibUnroll
import Derived.Test.YtahkjkmkafbakaaChecked
namespace Go.Proofs.Ytahkjkmkafbakaa
open Go Lg

def sel4 (r : Nat) : Bool := [5, 6].contains r
set_option maxRecDepth 100000 in
theorem ir4n : compFS sel4 Try.prog 4 = some ⟨136, [.t 4],
  (.seq (.ops [⟨some 2, .box (.t 0), none⟩,
    ⟨some 3, .box (.t 1), none⟩,
    ⟨some 4, .mov (.c (.v (.bool false))), none⟩])
  (.seq (.ops [⟨some 14, .call 9 [], none⟩,
    ⟨some 5, .mov (.t 14), none⟩])
  (.seq (.seq (.ops [⟨some 15, .faddr 0 (.t 3), none⟩,
    ⟨some 16, .load 1 false (.t 15), none⟩,
    ⟨some 17, .len false (.t 16), none⟩,
    ⟨some 18, .bin .gtr false (.t 17) (.c (.v (.int .i64 12))), none⟩,
    ⟨some 19, .mov (.t 18), none⟩,
    ⟨some 20, .load 2 true (.t 3), some (19, false)⟩,
    ⟨some 21, .call 10 [(.t 20)], some (19, false)⟩,
    ⟨some 22, .un .not (.t 21), some (19, false)⟩,
    ⟨some 23, .pick (.t 19) (.c (.v (.bool true))) (.t 22), none⟩,
    ⟨some 24, .mov (.t 23), none⟩,
    ⟨some 25, .load 2 true (.t 3), some (24, false)⟩,
    ⟨some 26, .call 11 [(.t 25)], some (24, false)⟩,
    ⟨some 27, .un .not (.t 26), some (24, false)⟩,
    ⟨some 28, .pick (.t 24) (.c (.v (.bool true))) (.t 27), none⟩,
    ⟨some 29, .mov (.t 28), none⟩,
    ⟨some 30, .load 4 true (.t 2), some (29, false)⟩,
    ⟨some 31, .call 13 [(.t 30), (.c (.v (.int .i64 3)))], some (29, false)⟩,
    ⟨some 32, .un .not (.t 31), some (29, false)⟩,
    ⟨some 33, .pick (.t 29) (.c (.v (.bool true))) (.t 32), none⟩])
  (.cond (.t 33)
    (.seq (.ops [⟨some 34, .mov (.t 5), none⟩,
      ⟨some 4, .mov (.t 34), none⟩])
    .ret)
    .skip))
  (.seq (.ops [⟨some 35, .faddr 0 (.t 3), none⟩,
    ⟨some 36, .load 1 false (.t 35), none⟩,
    ⟨some 37, .len false (.t 36), none⟩,
    ⟨some 6, .mov (.t 37), none⟩])
  (.seq irU5
  (.seq irU6
  (.seq (.ops [⟨some 66, .load 4 true (.t 2), none⟩,
    ⟨some 67, .load 2 true (.t 3), none⟩,
    ⟨some 68, .call 15 [(.t 66), (.t 67)], none⟩,
    ⟨some 9, .mov (.t 68), none⟩])
  (.seq (.ops [⟨some 69, .load 4 true (.t 2), none⟩,
    ⟨some 70, .load 2 true (.t 7), none⟩,
    ⟨some 71, .call 15 [(.t 69), (.t 70)], none⟩,
    ⟨some 10, .mov (.t 71), none⟩])
  (.seq (.ops [⟨some 72, .load 4 true (.t 2), none⟩,
    ⟨some 73, .load 2 true (.t 8), none⟩,
    ⟨some 74, .call 15 [(.t 72), (.t 73)], none⟩,
    ⟨some 11, .mov (.t 74), none⟩])
  (.seq (.seq (.ops [⟨some 75, .mov (.t 9), none⟩,
    ⟨some 76, .len false (.t 75), none⟩,
    ⟨some 77, .mov (.t 6), none⟩,
    ⟨some 78, .bin .neq false (.t 76) (.t 77), none⟩,
    ⟨some 79, .mov (.t 78), none⟩,
    ⟨some 80, .mov (.t 10), some (79, false)⟩,
    ⟨some 81, .len false (.t 80), some (79, false)⟩,
    ⟨some 82, .faddr 0 (.t 7), some (79, false)⟩,
    ⟨some 83, .load 1 false (.t 82), some (79, false)⟩,
    ⟨some 84, .len false (.t 83), some (79, false)⟩,
    ⟨some 85, .bin .neq false (.t 81) (.t 84), some (79, false)⟩,
    ⟨some 86, .pick (.t 79) (.c (.v (.bool true))) (.t 85), none⟩,
    ⟨some 87, .mov (.t 86), none⟩,
    ⟨some 88, .mov (.t 11), some (87, false)⟩,
    ⟨some 89, .len false (.t 88), some (87, false)⟩,
    ⟨some 90, .mov (.t 6), some (87, false)⟩,
    ⟨some 91, .bin .add false (.t 90) (.c (.v (.int .i64 1))), some (87, false)⟩,
    ⟨some 92, .bin .neq false (.t 89) (.t 91), some (87, false)⟩,
    ⟨some 93, .pick (.t 87) (.c (.v (.bool true))) (.t 92), none⟩])
  (.cond (.t 93)
    (.seq (.ops [⟨some 4, .mov (.c (.v (.bool false))), none⟩])
    .ret)
    .skip))
  (.seq (.seq (.ops [⟨some 12, .mov (.c (.v (.int .i64 0))), none⟩])
  (.block 0 (.loop
    (.seq (.seq (.ops [⟨some 94, .mov (.t 12), none⟩,
      ⟨some 95, .mov (.t 10), none⟩,
      ⟨some 96, .len false (.t 95), none⟩,
      ⟨some 97, .bin .lss false (.t 94) (.t 96), none⟩])
    (.cond (.t 97)
      .skip
      (.exit 0)))
    (.seq (.block 1 (.seq (.ops [⟨some 100, .mov (.t 12), none⟩,
      ⟨some 13, .mov (.t 100), none⟩])
    (.seq (.seq (.ops [⟨some 101, .mov (.t 12), none⟩,
      ⟨some 102, .mov (.t 6), none⟩,
      ⟨some 103, .bin .geq false (.t 101) (.t 102), none⟩])
    (.cond (.t 103)
      (.ops [⟨some 104, .faddr 1 (.t 3), none⟩,
        ⟨some 105, .load 1 false (.t 104), none⟩,
        ⟨some 106, .mov (.t 12), none⟩,
        ⟨some 107, .bin .add false (.t 105) (.t 106), none⟩,
        ⟨some 108, .mov (.t 6), none⟩,
        ⟨some 109, .bin .sub false (.t 107) (.t 108), none⟩,
        ⟨some 13, .mov (.t 109), none⟩])
      .skip))
    (.seq (.draw [[⟨some 110, .mov (.t 10), none⟩,
        ⟨some 111, .mov (.t 12), none⟩,
        ⟨some 112, .iaddr 1 (.t 110) (.t 111), none⟩,
        ⟨some 113, .load 1 false (.t 112), none⟩,
        ⟨some 114, .mov (.t 9), none⟩,
        ⟨some 115, .mov (.t 13), none⟩,
        ⟨some 116, .iaddr 1 (.t 114) (.t 115), none⟩,
        ⟨some 117, .load 1 false (.t 116), none⟩],
      [⟨some 118, .bin .neq true (.t 113) (.t 117), none⟩],
      [⟨some 119, .mov (.t 118), none⟩],
      [⟨some 120, .mov (.t 12), some (119, false)⟩,
        ⟨some 121, .mov (.t 6), some (119, false)⟩],
      [⟨some 122, .bin .leq false (.t 120) (.t 121), some (119, false)⟩],
      [⟨some 123, .mov (.t 122), some (119, false)⟩],
      [⟨some 124, .mov (.t 11), some (123, true)⟩,
        ⟨some 125, .mov (.t 12), some (123, true)⟩,
        ⟨some 126, .iaddr 1 (.t 124) (.t 125), some (123, true)⟩,
        ⟨some 127, .load 1 false (.t 126), some (123, true)⟩,
        ⟨some 128, .mov (.t 9), some (123, true)⟩,
        ⟨some 129, .mov (.t 13), some (123, true)⟩,
        ⟨some 130, .iaddr 1 (.t 128) (.t 129), some (123, true)⟩,
        ⟨some 131, .load 1 false (.t 130), some (123, true)⟩],
      [⟨some 132, .bin .neq true (.t 127) (.t 131), some (123, true)⟩],
      [⟨some 133, .pick (.t 123) (.t 132) (.c (.v (.bool false))), some (119, false)⟩],
      [⟨some 134, .pick (.t 119) (.c (.v (.bool true))) (.t 133), none⟩]])
    (.cond (.t 134)
      (.seq (.ops [⟨some 4, .mov (.c (.v (.bool false))), none⟩])
      .ret)
      .skip)))))
    (.ops [⟨some 98, .mov (.t 12), none⟩,
      ⟨some 99, .bin .add false (.t 98) (.c (.v (.int .i64 1))), none⟩,
      ⟨some 12, .mov (.t 99), none⟩]))))))
  (.seq (.ops [⟨some 135, .mov (.t 5), none⟩,
    ⟨some 4, .mov (.t 135), none⟩])
  .ret))))))))))))⟩ := compFS_of (by kernel_rfl)

end Go.Proofs.Ytahkjkmkafbakaa
