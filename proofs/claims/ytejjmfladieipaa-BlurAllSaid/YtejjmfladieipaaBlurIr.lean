/- The functions of the program in the small language. -/
import Derived.Test.YtejjmfladieipaaLgR
import Derived.Test.YtejjmfladieipaaChecked
namespace Go.Proofs.Ytejjmfladieipaa
open Go Lg

set_option maxRecDepth 100000 in
theorem ir3 : compF Try.prog 3 = some ⟨173, [.t 2],
  (.seq (.ops [⟨some 1, .box (.t 0), none⟩,
    ⟨some 2, .mov (.c (.v (.bool false))), none⟩])
  (.seq (.ops [⟨some 26, .faddr 0 (.t 1), none⟩,
    ⟨some 27, .load 1 false (.t 26), none⟩,
    ⟨some 3, .mov (.t 27), none⟩])
  (.seq (.ops [⟨some 28, .faddr 1 (.t 1), none⟩,
    ⟨some 29, .load 1 false (.t 28), none⟩,
    ⟨some 4, .mov (.t 29), none⟩])
  (.seq (.ops [⟨some 30, .faddr 2 (.t 1), none⟩,
    ⟨some 31, .load 1 false (.t 30), none⟩,
    ⟨some 5, .mov (.t 31), none⟩])
  (.seq (.ops [⟨some 32, .faddr 3 (.t 1), none⟩,
    ⟨some 33, .load 1 false (.t 32), none⟩,
    ⟨some 6, .mov (.t 33), none⟩])
  (.seq (.ops [⟨some 34, .call 7 [], none⟩,
    ⟨some 7, .mov (.t 34), none⟩])
  (.seq (.seq (.ops [⟨some 35, .mov (.t 6), none⟩,
    ⟨some 36, .call 8 [(.t 35), (.c (.v (.int .i64 50)))], none⟩,
    ⟨some 37, .un .not (.t 36), none⟩,
    ⟨some 38, .mov (.t 37), none⟩,
    ⟨some 39, .mov (.t 3), some (38, false)⟩,
    ⟨some 40, .bin .gtr false (.t 39) (.c (.v (.int .i64 5000))), some (38, false)⟩,
    ⟨some 41, .mov (.t 40), some (38, false)⟩,
    ⟨some 42, .mov (.t 3), some (41, true)⟩,
    ⟨some 43, .bin .leq false (.t 42) (.c (.v (.int .i64 4194304))), some (41, true)⟩,
    ⟨some 44, .pick (.t 41) (.t 43) (.c (.v (.bool false))), some (38, false)⟩,
    ⟨some 45, .pick (.t 38) (.c (.v (.bool true))) (.t 44), none⟩])
  (.cond (.t 45)
    (.seq (.ops [⟨some 46, .mov (.t 7), none⟩,
      ⟨some 2, .mov (.t 46), none⟩])
    .ret)
    .skip))
  (.seq (.ops [⟨some 48, .mov (.t 3), none⟩,
    ⟨some 49, .mov (.t 4), none⟩,
    ⟨some 50, .mov (.t 5), none⟩,
    ⟨some 51, .call 9 [(.t 48), (.t 49), (.t 50)], none⟩,
    ⟨some 47, .mov (.t 51), none⟩,
    ⟨some 52, .extract (.t 47) 0, none⟩,
    ⟨some 53, .extract (.t 47) 1, none⟩,
    ⟨some 8, .alloc (.agg [(.v (.int .i64 0)), (.v (.int .i64 0)), (.v (.int .u64 0)), (.v (.slice none 0 0)), (.v (.slice none 0 0)), (.v (.slice none 0 0))]), none⟩,
    ⟨none, .store 6 (.t 8) (.t 52), none⟩,
    ⟨some 9, .mov (.t 53), none⟩])
  (.seq (.ops [⟨some 55, .mov (.t 3), none⟩,
    ⟨some 56, .mov (.t 4), none⟩,
    ⟨some 57, .mov (.t 5), none⟩,
    ⟨some 58, .call 10 [(.t 55), (.t 56), (.t 57)], none⟩,
    ⟨some 54, .mov (.t 58), none⟩,
    ⟨some 59, .extract (.t 54) 0, none⟩,
    ⟨some 60, .extract (.t 54) 1, none⟩,
    ⟨some 10, .alloc (.agg [(.v (.int .i64 0)), (.v (.int .i64 0)), (.v (.int .u64 0)), (.v (.slice none 0 0)), (.v (.slice none 0 0)), (.v (.slice none 0 0))]), none⟩,
    ⟨none, .store 6 (.t 10) (.t 59), none⟩,
    ⟨some 11, .mov (.t 60), none⟩])
  (.seq (.seq (.ops [⟨some 61, .mov (.t 9), none⟩,
    ⟨some 62, .mov (.t 11), none⟩,
    ⟨some 63, .bin .neq false (.t 61) (.t 62), none⟩])
  (.cond (.t 63)
    (.seq (.ops [⟨some 2, .mov (.c (.v (.bool false))), none⟩])
    .ret)
    .skip))
  (.seq (.seq (.ops [⟨some 64, .mov (.t 11), none⟩,
    ⟨some 65, .bin .neq false (.t 64) (.c (.v (.int .i64 0))), none⟩])
  (.cond (.t 65)
    (.seq (.ops [⟨some 66, .mov (.t 7), none⟩,
      ⟨some 2, .mov (.t 66), none⟩])
    .ret)
    .skip))
  (.seq (.seq (.ops [⟨some 12, .mov (.c (.v (.int .i64 0))), none⟩])
  (.block 0 (.loop
    (.seq (.seq (.ops [⟨some 67, .mov (.t 12), none⟩,
      ⟨some 68, .mov (.t 6), none⟩,
      ⟨some 69, .len false (.t 68), none⟩,
      ⟨some 70, .bin .lss false (.t 67) (.t 69), none⟩])
    (.cond (.t 70)
      .skip
      (.exit 0)))
    (.seq (.block 1 (.seq (.ops [⟨some 73, .mov (.t 6), none⟩,
      ⟨some 74, .mov (.t 12), none⟩,
      ⟨some 75, .iaddr 3 (.t 73) (.t 74), none⟩,
      ⟨some 76, .load 3 true (.t 75), none⟩,
      ⟨some 13, .alloc (.agg [(.v (.int .u8 0)), (.v (.slice none 0 0)), (.v (.int .i64 0))]), none⟩,
      ⟨none, .store 3 (.t 13) (.t 76), none⟩])
    (.seq (.seq (.ops [⟨some 77, .faddr 0 (.t 13), none⟩,
      ⟨some 78, .load 1 false (.t 77), none⟩,
      ⟨some 79, .bin .rem false (.t 78) (.c (.v (.int .u8 3))), none⟩])
    (.block 2 (.seq (.ops [⟨some 81, .bin .eql false (.t 79) (.c (.v (.int .u8 0))), none⟩,
      ⟨some 80, .mov (.t 81), none⟩])
    (.cond (.t 80)
      (.seq (.ops [⟨some 83, .load 6 true (.t 8), none⟩,
        ⟨some 84, .faddr 1 (.t 13), none⟩,
        ⟨some 85, .load 1 false (.t 84), none⟩,
        ⟨some 86, .call 11 [(.t 83), (.t 85)], none⟩,
        ⟨some 82, .mov (.t 86), none⟩,
        ⟨some 87, .extract (.t 82) 0, none⟩,
        ⟨some 88, .extract (.t 82) 1, none⟩,
        ⟨some 14, .alloc (.agg [(.v (.int .i64 0)), (.v (.int .i64 0)), (.v (.int .u64 0)), (.v (.slice none 0 0)), (.v (.slice none 0 0)), (.v (.slice none 0 0))]), none⟩,
        ⟨none, .store 6 (.t 14) (.t 87), none⟩,
        ⟨some 15, .mov (.t 88), none⟩])
      (.seq (.ops [⟨some 90, .load 6 true (.t 10), none⟩,
        ⟨some 91, .faddr 1 (.t 13), none⟩,
        ⟨some 92, .load 1 false (.t 91), none⟩,
        ⟨some 93, .call 12 [(.t 90), (.t 92)], none⟩,
        ⟨some 89, .mov (.t 93), none⟩,
        ⟨some 94, .extract (.t 89) 0, none⟩,
        ⟨some 95, .extract (.t 89) 1, none⟩,
        ⟨some 16, .alloc (.agg [(.v (.int .i64 0)), (.v (.int .i64 0)), (.v (.int .u64 0)), (.v (.slice none 0 0)), (.v (.slice none 0 0)), (.v (.slice none 0 0))]), none⟩,
        ⟨none, .store 6 (.t 16) (.t 94), none⟩,
        ⟨some 17, .mov (.t 95), none⟩])
      (.seq (.seq (.ops [⟨some 96, .mov (.t 15), none⟩,
        ⟨some 97, .mov (.t 17), none⟩,
        ⟨some 98, .bin .neq true (.t 96) (.t 97), none⟩])
      (.cond (.t 98)
        (.seq (.ops [⟨some 2, .mov (.c (.v (.bool false))), none⟩])
        .ret)
        .skip))
      (.seq (.ops [⟨some 99, .load 6 true (.t 14), none⟩,
        ⟨none, .store 6 (.t 8) (.t 99), none⟩])
      (.ops [⟨some 100, .load 6 true (.t 16), none⟩,
        ⟨none, .store 6 (.t 10) (.t 100), none⟩])))))
      (.seq (.ops [⟨some 102, .bin .eql false (.t 79) (.c (.v (.int .u8 1))), none⟩,
        ⟨some 101, .mov (.t 102), none⟩])
      (.cond (.t 101)
        (.seq (.ops [⟨some 104, .load 6 true (.t 8), none⟩,
          ⟨some 105, .faddr 1 (.t 13), none⟩,
          ⟨some 106, .load 1 false (.t 105), none⟩,
          ⟨some 107, .faddr 2 (.t 13), none⟩,
          ⟨some 108, .load 1 false (.t 107), none⟩,
          ⟨some 109, .call 13 [(.t 104), (.t 106), (.t 108)], none⟩,
          ⟨some 103, .mov (.t 109), none⟩,
          ⟨some 110, .extract (.t 103) 0, none⟩,
          ⟨some 111, .extract (.t 103) 1, none⟩,
          ⟨some 18, .alloc (.agg [(.v (.int .i64 0)), (.v (.int .i64 0)), (.v (.int .u64 0)), (.v (.slice none 0 0)), (.v (.slice none 0 0)), (.v (.slice none 0 0))]), none⟩,
          ⟨none, .store 6 (.t 18) (.t 110), none⟩,
          ⟨some 19, .mov (.t 111), none⟩])
        (.seq (.ops [⟨some 113, .load 6 true (.t 10), none⟩,
          ⟨some 114, .faddr 1 (.t 13), none⟩,
          ⟨some 115, .load 1 false (.t 114), none⟩,
          ⟨some 116, .faddr 2 (.t 13), none⟩,
          ⟨some 117, .load 1 false (.t 116), none⟩,
          ⟨some 118, .call 14 [(.t 113), (.t 115), (.t 117)], none⟩,
          ⟨some 112, .mov (.t 118), none⟩,
          ⟨some 119, .extract (.t 112) 0, none⟩,
          ⟨some 120, .extract (.t 112) 1, none⟩,
          ⟨some 20, .alloc (.agg [(.v (.int .i64 0)), (.v (.int .i64 0)), (.v (.int .u64 0)), (.v (.slice none 0 0)), (.v (.slice none 0 0)), (.v (.slice none 0 0))]), none⟩,
          ⟨none, .store 6 (.t 20) (.t 119), none⟩,
          ⟨some 21, .mov (.t 120), none⟩])
        (.seq (.seq (.ops [⟨some 121, .mov (.t 19), none⟩,
          ⟨some 122, .mov (.t 21), none⟩,
          ⟨some 123, .bin .neq false (.t 121) (.t 122), none⟩])
        (.cond (.t 123)
          (.seq (.ops [⟨some 2, .mov (.c (.v (.bool false))), none⟩])
          .ret)
          .skip))
        (.seq (.ops [⟨some 124, .load 6 true (.t 18), none⟩,
          ⟨none, .store 6 (.t 8) (.t 124), none⟩])
        (.ops [⟨some 125, .load 6 true (.t 20), none⟩,
          ⟨none, .store 6 (.t 10) (.t 125), none⟩])))))
        (.seq (.ops [⟨some 127, .bin .eql false (.t 79) (.c (.v (.int .u8 2))), none⟩,
          ⟨some 126, .mov (.t 127), none⟩])
        (.cond (.t 126)
          (.seq (.ops [⟨some 129, .load 6 true (.t 8), none⟩,
            ⟨some 130, .faddr 1 (.t 13), none⟩,
            ⟨some 131, .load 1 false (.t 130), none⟩,
            ⟨some 132, .faddr 2 (.t 13), none⟩,
            ⟨some 133, .load 1 false (.t 132), none⟩,
            ⟨some 134, .call 15 [(.t 129), (.t 131), (.t 133)], none⟩,
            ⟨some 128, .mov (.t 134), none⟩,
            ⟨some 135, .extract (.t 128) 0, none⟩,
            ⟨some 136, .extract (.t 128) 1, none⟩,
            ⟨some 22, .mov (.t 135), none⟩,
            ⟨some 23, .mov (.t 136), none⟩])
          (.seq (.ops [⟨some 138, .load 6 true (.t 10), none⟩,
            ⟨some 139, .faddr 1 (.t 13), none⟩,
            ⟨some 140, .load 1 false (.t 139), none⟩,
            ⟨some 141, .faddr 2 (.t 13), none⟩,
            ⟨some 142, .load 1 false (.t 141), none⟩,
            ⟨some 143, .call 16 [(.t 138), (.t 140), (.t 142)], none⟩,
            ⟨some 137, .mov (.t 143), none⟩,
            ⟨some 144, .extract (.t 137) 0, none⟩,
            ⟨some 145, .extract (.t 137) 1, none⟩,
            ⟨some 24, .mov (.t 144), none⟩,
            ⟨some 25, .mov (.t 145), none⟩])
          (.seq (.ops [⟨some 146, .mov (.t 22), none⟩,
            ⟨some 147, .mov (.t 24), none⟩,
            ⟨some 148, .bin .neq true (.t 146) (.t 147), none⟩,
            ⟨some 149, .mov (.t 148), none⟩,
            ⟨some 150, .mov (.t 23), some (149, false)⟩,
            ⟨some 151, .mov (.t 25), some (149, false)⟩,
            ⟨some 152, .bin .neq false (.t 150) (.t 151), some (149, false)⟩,
            ⟨some 153, .pick (.t 149) (.c (.v (.bool true))) (.t 152), none⟩])
          (.cond (.t 153)
            (.seq (.ops [⟨some 2, .mov (.c (.v (.bool false))), none⟩])
            .ret)
            .skip))))
          .skip))))))))
    (.seq (.draw [[⟨some 154, .load 6 true (.t 8), none⟩,
        ⟨some 155, .faddr 1 (.t 13), none⟩,
        ⟨some 156, .load 1 false (.t 155), none⟩,
        ⟨some 157, .call 17 [(.t 154), (.t 156)], none⟩,
        ⟨some 158, .load 6 true (.t 10), none⟩,
        ⟨some 159, .faddr 1 (.t 13), none⟩,
        ⟨some 160, .load 1 false (.t 159), none⟩],
      [⟨some 161, .call 18 [(.t 158), (.t 160)], none⟩],
      [⟨some 162, .bin .neq true (.t 157) (.t 161), none⟩],
      [⟨some 163, .mov (.t 162), none⟩],
      [⟨some 164, .load 6 true (.t 8), some (163, false)⟩,
        ⟨some 165, .call 19 [(.t 164)], some (163, false)⟩,
        ⟨some 166, .faddr 3 (.t 10), some (163, false)⟩,
        ⟨some 167, .iaddrA 3 1 (.t 166) (.c (.v (.int .i64 0))), some (163, false)⟩,
        ⟨some 168, .load 1 false (.t 167), some (163, false)⟩,
        ⟨some 169, .len false (.t 168), some (163, false)⟩],
      [⟨some 170, .bin .neq false (.t 165) (.t 169), some (163, false)⟩],
      [⟨some 171, .pick (.t 163) (.c (.v (.bool true))) (.t 170), none⟩]])
    (.cond (.t 171)
      (.seq (.ops [⟨some 2, .mov (.c (.v (.bool false))), none⟩])
      .ret)
      .skip)))))
    (.ops [⟨some 71, .mov (.t 12), none⟩,
      ⟨some 72, .bin .add false (.t 71) (.c (.v (.int .i64 1))), none⟩,
      ⟨some 12, .mov (.t 72), none⟩]))))))
  (.seq (.ops [⟨some 172, .mov (.t 7), none⟩,
    ⟨some 2, .mov (.t 172), none⟩])
  .ret)))))))))))))⟩ := by kernel_rfl

set_option maxRecDepth 100000 in
theorem ir4 : compF Try.prog 4 = some ⟨165, [.t 2],
  (.seq (.ops [⟨some 1, .box (.t 0), none⟩,
    ⟨some 2, .mov (.c (.v (.bool false))), none⟩])
  (.seq (.ops [⟨some 21, .faddr 0 (.t 1), none⟩,
    ⟨some 22, .load 1 false (.t 21), none⟩,
    ⟨some 3, .mov (.t 22), none⟩])
  (.seq (.ops [⟨some 23, .faddr 1 (.t 1), none⟩,
    ⟨some 24, .load 1 false (.t 23), none⟩,
    ⟨some 4, .mov (.t 24), none⟩])
  (.seq (.ops [⟨some 25, .faddr 2 (.t 1), none⟩,
    ⟨some 26, .load 1 false (.t 25), none⟩,
    ⟨some 5, .mov (.t 26), none⟩])
  (.seq (.ops [⟨some 27, .faddr 3 (.t 1), none⟩,
    ⟨some 28, .load 1 false (.t 27), none⟩,
    ⟨some 6, .mov (.t 28), none⟩])
  (.seq (.ops [⟨some 29, .call 7 [], none⟩,
    ⟨some 7, .mov (.t 29), none⟩])
  (.seq (.seq (.ops [⟨some 30, .mov (.t 6), none⟩,
    ⟨some 31, .call 8 [(.t 30), (.c (.v (.int .i64 50)))], none⟩,
    ⟨some 32, .un .not (.t 31), none⟩])
  (.cond (.t 32)
    (.seq (.ops [⟨some 33, .mov (.t 7), none⟩,
      ⟨some 2, .mov (.t 33), none⟩])
    .ret)
    .skip))
  (.seq (.ops [⟨some 34, .mov (.t 3), none⟩,
    ⟨some 35, .conv .i64 (.t 34), none⟩,
    ⟨some 36, .bin .rem false (.t 35) (.c (.v (.int .i64 2000))), none⟩,
    ⟨some 37, .bin .add false (.c (.v (.int .i64 1))) (.t 36), none⟩,
    ⟨some 8, .mov (.t 37), none⟩])
  (.seq (.ops [⟨some 38, .mov (.t 4), none⟩,
    ⟨some 39, .conv .i64 (.t 38), none⟩,
    ⟨some 40, .bin .rem false (.t 39) (.c (.v (.int .i64 16))), none⟩,
    ⟨some 41, .bin .add false (.c (.v (.int .i64 1))) (.t 40), none⟩,
    ⟨some 9, .mov (.t 41), none⟩])
  (.seq (.ops [⟨some 43, .mov (.t 8), none⟩,
    ⟨some 44, .mov (.t 9), none⟩,
    ⟨some 45, .mov (.t 5), none⟩,
    ⟨some 46, .call 9 [(.t 43), (.t 44), (.t 45)], none⟩,
    ⟨some 42, .mov (.t 46), none⟩,
    ⟨some 47, .extract (.t 42) 0, none⟩,
    ⟨some 48, .extract (.t 42) 1, none⟩,
    ⟨some 10, .alloc (.agg [(.v (.int .i64 0)), (.v (.int .i64 0)), (.v (.int .u64 0)), (.v (.slice none 0 0)), (.v (.slice none 0 0)), (.v (.slice none 0 0))]), none⟩,
    ⟨none, .store 6 (.t 10) (.t 47), none⟩,
    ⟨some 11, .mov (.t 48), none⟩])
  (.seq (.seq (.ops [⟨some 49, .mov (.t 11), none⟩,
    ⟨some 50, .bin .neq false (.t 49) (.c (.v (.int .i64 0))), none⟩])
  (.cond (.t 50)
    (.seq (.ops [⟨some 2, .mov (.c (.v (.bool false))), none⟩])
    .ret)
    .skip))
  (.seq (.seq (.ops [⟨some 12, .mov (.c (.v (.int .i64 0))), none⟩])
  (.block 0 (.loop
    (.seq (.seq (.ops [⟨some 51, .mov (.t 12), none⟩,
      ⟨some 52, .mov (.t 6), none⟩,
      ⟨some 53, .len false (.t 52), none⟩,
      ⟨some 54, .bin .lss false (.t 51) (.t 53), none⟩])
    (.cond (.t 54)
      .skip
      (.exit 0)))
    (.seq (.block 1 (.seq (.draw [[⟨some 58, .load 6 true (.t 10), none⟩,
        ⟨some 59, .mov (.t 6), none⟩,
        ⟨some 60, .mov (.t 12), none⟩,
        ⟨some 61, .iaddr 3 (.t 59) (.t 60), none⟩,
        ⟨some 62, .faddr 1 (.t 61), none⟩,
        ⟨some 63, .load 1 false (.t 62), none⟩,
        ⟨some 64, .call 11 [(.t 58), (.t 63)], none⟩,
        ⟨some 57, .mov (.t 64), none⟩,
        ⟨some 65, .extract (.t 57) 0, none⟩,
        ⟨some 66, .extract (.t 57) 1, none⟩,
        ⟨some 13, .alloc (.agg [(.v (.int .i64 0)), (.v (.int .i64 0)), (.v (.int .u64 0)), (.v (.slice none 0 0)), (.v (.slice none 0 0)), (.v (.slice none 0 0))]), none⟩,
        ⟨none, .store 6 (.t 13) (.t 65), none⟩],
      [⟨some 14, .mov (.t 66), none⟩]])
    (.seq (.draw [[⟨some 67, .load 6 true (.t 13), none⟩,
        ⟨some 68, .call 19 [(.t 67)], none⟩,
        ⟨some 69, .load 6 true (.t 10), none⟩],
      [⟨some 70, .call 19 [(.t 69)], none⟩],
      [⟨some 71, .bin .sub false (.t 68) (.t 70), none⟩],
      [⟨some 15, .mov (.t 71), none⟩]])
    (.seq (.seq (.ops [⟨some 72, .mov (.t 14), none⟩,
      ⟨some 73, .mov (.t 15), none⟩,
      ⟨some 74, .bin .gtr false (.t 73) (.c (.v (.int .i64 0))), none⟩,
      ⟨some 75, .bin .neq true (.t 72) (.t 74), none⟩,
      ⟨some 76, .mov (.t 75), none⟩,
      ⟨some 77, .mov (.t 15), some (76, false)⟩,
      ⟨some 78, .bin .lss false (.t 77) (.c (.v (.int .i64 0))), some (76, false)⟩,
      ⟨some 79, .pick (.t 76) (.c (.v (.bool true))) (.t 78), none⟩,
      ⟨some 80, .mov (.t 79), none⟩,
      ⟨some 81, .mov (.t 15), some (80, false)⟩,
      ⟨some 82, .mov (.t 9), some (80, false)⟩,
      ⟨some 83, .bin .gtr false (.t 81) (.t 82), some (80, false)⟩,
      ⟨some 84, .pick (.t 80) (.c (.v (.bool true))) (.t 83), none⟩,
      ⟨some 85, .mov (.t 84), none⟩,
      ⟨some 86, .load 6 true (.t 13), some (85, false)⟩,
      ⟨some 87, .call 19 [(.t 86)], some (85, false)⟩,
      ⟨some 88, .mov (.t 8), some (85, false)⟩,
      ⟨some 89, .bin .gtr false (.t 87) (.t 88), some (85, false)⟩,
      ⟨some 90, .pick (.t 85) (.c (.v (.bool true))) (.t 89), none⟩])
    (.cond (.t 90)
      (.seq (.ops [⟨some 2, .mov (.c (.v (.bool false))), none⟩])
      .ret)
      .skip))
    (.seq (.seq (.ops [⟨some 91, .mov (.t 6), none⟩,
      ⟨some 92, .mov (.t 12), none⟩,
      ⟨some 93, .iaddr 3 (.t 91) (.t 92), none⟩,
      ⟨some 94, .faddr 0 (.t 93), none⟩,
      ⟨some 95, .load 1 false (.t 94), none⟩,
      ⟨some 96, .bin .rem false (.t 95) (.c (.v (.int .u8 2))), none⟩,
      ⟨some 97, .bin .eql false (.t 96) (.c (.v (.int .u8 0))), none⟩])
    (.cond (.t 97)
      (.seq (.draw [[⟨some 99, .load 6 true (.t 13), none⟩,
          ⟨some 100, .mov (.t 6), none⟩,
          ⟨some 101, .mov (.t 12), none⟩,
          ⟨some 102, .iaddr 3 (.t 100) (.t 101), none⟩,
          ⟨some 103, .faddr 1 (.t 102), none⟩,
          ⟨some 104, .load 1 false (.t 103), none⟩,
          ⟨some 105, .mov (.t 6), none⟩,
          ⟨some 106, .mov (.t 12), none⟩,
          ⟨some 107, .iaddr 3 (.t 105) (.t 106), none⟩,
          ⟨some 108, .faddr 0 (.t 107), none⟩,
          ⟨some 109, .load 1 false (.t 108), none⟩,
          ⟨some 110, .bin .quo false (.t 109) (.c (.v (.int .u8 2))), none⟩,
          ⟨some 111, .conv .i64 (.t 110), none⟩,
          ⟨some 112, .bin .rem false (.t 111) (.c (.v (.int .i64 2))), none⟩,
          ⟨some 113, .call 13 [(.t 99), (.t 104), (.t 112)], none⟩,
          ⟨some 98, .mov (.t 113), none⟩,
          ⟨some 114, .extract (.t 98) 0, none⟩,
          ⟨some 115, .extract (.t 98) 1, none⟩,
          ⟨some 16, .alloc (.agg [(.v (.int .i64 0)), (.v (.int .i64 0)), (.v (.int .u64 0)), (.v (.slice none 0 0)), (.v (.slice none 0 0)), (.v (.slice none 0 0))]), none⟩,
          ⟨none, .store 6 (.t 16) (.t 114), none⟩],
        [⟨some 17, .mov (.t 115), none⟩]])
      (.seq (.seq (.ops [⟨some 116, .mov (.t 17), none⟩,
        ⟨some 117, .bin .neq false (.t 116) (.c (.v (.int .i64 0))), none⟩])
      (.cond (.t 117)
        (.seq (.ops [⟨some 2, .mov (.c (.v (.bool false))), none⟩])
        .ret)
        .skip))
      (.ops [⟨some 118, .load 6 true (.t 16), none⟩,
        ⟨none, .store 6 (.t 13) (.t 118), none⟩])))
      .skip))
    (.seq (.ops [⟨some 119, .load 6 true (.t 13), none⟩,
      ⟨none, .store 6 (.t 10) (.t 119), none⟩])
    (.seq (.ops [⟨some 18, .mov (.c (.v (.int .i64 0))), none⟩])
    (.block 2 (.loop
      (.seq (.seq (.ops [⟨some 120, .mov (.t 18), none⟩,
        ⟨some 121, .mov (.t 12), none⟩,
        ⟨some 122, .bin .leq false (.t 120) (.t 121), none⟩])
      (.cond (.t 122)
        .skip
        (.exit 2)))
      (.seq (.block 3 (.seq (.seq (.draw [[⟨some 125, .load 6 true (.t 10), none⟩,
          ⟨some 126, .mov (.t 6), none⟩,
          ⟨some 127, .mov (.t 18), none⟩,
          ⟨some 128, .iaddr 3 (.t 126) (.t 127), none⟩,
          ⟨some 129, .faddr 1 (.t 128), none⟩,
          ⟨some 130, .load 1 false (.t 129), none⟩],
        [⟨some 131, .call 17 [(.t 125), (.t 130)], none⟩],
        [⟨some 132, .un .not (.t 131), none⟩]])
      (.cond (.t 132)
        (.seq (.ops [⟨some 2, .mov (.c (.v (.bool false))), none⟩])
        .ret)
        .skip))
      (.seq (.ops [⟨some 133, .mov (.t 6), none⟩,
        ⟨some 134, .mov (.t 18), none⟩,
        ⟨some 135, .iaddr 3 (.t 133) (.t 134), none⟩,
        ⟨some 136, .faddr 0 (.t 135), none⟩,
        ⟨some 137, .load 1 false (.t 136), none⟩,
        ⟨some 138, .bin .rem false (.t 137) (.c (.v (.int .u8 2))), none⟩,
        ⟨some 139, .bin .eql false (.t 138) (.c (.v (.int .u8 0))), none⟩])
      (.cond (.t 139)
        (.seq (.draw [[⟨some 141, .load 6 true (.t 10), none⟩,
            ⟨some 142, .mov (.t 6), none⟩,
            ⟨some 143, .mov (.t 18), none⟩,
            ⟨some 144, .iaddr 3 (.t 142) (.t 143), none⟩,
            ⟨some 145, .faddr 1 (.t 144), none⟩,
            ⟨some 146, .load 1 false (.t 145), none⟩,
            ⟨some 147, .mov (.t 6), none⟩,
            ⟨some 148, .mov (.t 18), none⟩,
            ⟨some 149, .iaddr 3 (.t 147) (.t 148), none⟩,
            ⟨some 150, .faddr 0 (.t 149), none⟩,
            ⟨some 151, .load 1 false (.t 150), none⟩,
            ⟨some 152, .bin .quo false (.t 151) (.c (.v (.int .u8 2))), none⟩,
            ⟨some 153, .conv .i64 (.t 152), none⟩,
            ⟨some 154, .bin .rem false (.t 153) (.c (.v (.int .i64 2))), none⟩],
          [⟨some 155, .call 15 [(.t 141), (.t 146), (.t 154)], none⟩],
          [⟨some 140, .mov (.t 155), none⟩],
          [⟨some 156, .extract (.t 140) 0, none⟩,
            ⟨some 157, .extract (.t 140) 1, none⟩,
            ⟨some 19, .mov (.t 156), none⟩],
          [⟨some 20, .mov (.t 157), none⟩]])
        (.seq (.ops [⟨some 158, .mov (.t 19), none⟩,
          ⟨some 159, .un .not (.t 158), none⟩,
          ⟨some 160, .mov (.t 159), none⟩,
          ⟨some 161, .mov (.t 20), some (160, false)⟩,
          ⟨some 162, .bin .neq false (.t 161) (.c (.v (.int .i64 0))), some (160, false)⟩,
          ⟨some 163, .pick (.t 160) (.c (.v (.bool true))) (.t 162), none⟩])
        (.cond (.t 163)
          (.seq (.ops [⟨some 2, .mov (.c (.v (.bool false))), none⟩])
          .ret)
          .skip)))
        .skip))))
      (.ops [⟨some 123, .mov (.t 18), none⟩,
        ⟨some 124, .bin .add false (.t 123) (.c (.v (.int .i64 1))), none⟩,
        ⟨some 18, .mov (.t 124), none⟩]))))))))))))
    (.ops [⟨some 55, .mov (.t 12), none⟩,
      ⟨some 56, .bin .add false (.t 55) (.c (.v (.int .i64 1))), none⟩,
      ⟨some 12, .mov (.t 56), none⟩]))))))
  (.seq (.ops [⟨some 164, .mov (.t 7), none⟩,
    ⟨some 2, .mov (.t 164), none⟩])
  .ret)))))))))))))⟩ := by kernel_rfl

set_option maxRecDepth 100000 in
theorem ir5 : compF Try.prog 5 = some ⟨134, [.t 2],
  (.seq (.ops [⟨some 1, .box (.t 0), none⟩,
    ⟨some 2, .mov (.c (.v (.bool false))), none⟩])
  (.seq (.ops [⟨some 20, .faddr 0 (.t 1), none⟩,
    ⟨some 21, .load 1 false (.t 20), none⟩,
    ⟨some 3, .mov (.t 21), none⟩])
  (.seq (.ops [⟨some 22, .faddr 1 (.t 1), none⟩,
    ⟨some 23, .load 1 false (.t 22), none⟩,
    ⟨some 4, .mov (.t 23), none⟩])
  (.seq (.ops [⟨some 24, .faddr 2 (.t 1), none⟩,
    ⟨some 25, .load 1 false (.t 24), none⟩,
    ⟨some 5, .mov (.t 25), none⟩])
  (.seq (.ops [⟨some 26, .faddr 3 (.t 1), none⟩,
    ⟨some 27, .load 1 false (.t 26), none⟩,
    ⟨some 6, .mov (.t 27), none⟩])
  (.seq (.ops [⟨some 28, .faddr 4 (.t 1), none⟩,
    ⟨some 29, .load 1 false (.t 28), none⟩,
    ⟨some 7, .mov (.t 29), none⟩])
  (.seq (.ops [⟨some 30, .faddr 5 (.t 1), none⟩,
    ⟨some 31, .load 1 false (.t 30), none⟩,
    ⟨some 8, .mov (.t 31), none⟩])
  (.seq (.ops [⟨some 32, .call 7 [], none⟩,
    ⟨some 9, .mov (.t 32), none⟩])
  (.seq (.seq (.ops [⟨some 33, .mov (.t 6), none⟩,
    ⟨some 34, .len false (.t 33), none⟩,
    ⟨some 35, .bin .gtr false (.t 34) (.c (.v (.int .i64 100))), none⟩,
    ⟨some 36, .mov (.t 35), none⟩,
    ⟨some 37, .mov (.t 7), some (36, false)⟩,
    ⟨some 38, .len false (.t 37), some (36, false)⟩,
    ⟨some 39, .bin .gtr false (.t 38) (.c (.v (.int .i64 100))), some (36, false)⟩,
    ⟨some 40, .pick (.t 36) (.c (.v (.bool true))) (.t 39), none⟩,
    ⟨some 41, .mov (.t 40), none⟩,
    ⟨some 42, .mov (.t 8), some (41, false)⟩,
    ⟨some 43, .len false (.t 42), some (41, false)⟩,
    ⟨some 44, .bin .gtr false (.t 43) (.c (.v (.int .i64 100))), some (41, false)⟩,
    ⟨some 45, .pick (.t 41) (.c (.v (.bool true))) (.t 44), none⟩])
  (.cond (.t 45)
    (.seq (.ops [⟨some 46, .mov (.t 9), none⟩,
      ⟨some 2, .mov (.t 46), none⟩])
    .ret)
    .skip))
  (.seq (.ops [⟨some 48, .mov (.t 3), none⟩,
    ⟨some 49, .conv .i64 (.t 48), none⟩,
    ⟨some 50, .bin .rem false (.t 49) (.c (.v (.int .i64 2000))), none⟩,
    ⟨some 51, .bin .add false (.c (.v (.int .i64 1))) (.t 50), none⟩,
    ⟨some 52, .mov (.t 4), none⟩,
    ⟨some 53, .conv .i64 (.t 52), none⟩,
    ⟨some 54, .bin .rem false (.t 53) (.c (.v (.int .i64 16))), none⟩,
    ⟨some 55, .bin .add false (.c (.v (.int .i64 1))) (.t 54), none⟩,
    ⟨some 56, .mov (.t 5), none⟩,
    ⟨some 57, .call 9 [(.t 51), (.t 55), (.t 56)], none⟩,
    ⟨some 47, .mov (.t 57), none⟩,
    ⟨some 58, .extract (.t 47) 0, none⟩,
    ⟨some 59, .extract (.t 47) 1, none⟩,
    ⟨some 10, .alloc (.agg [(.v (.int .i64 0)), (.v (.int .i64 0)), (.v (.int .u64 0)), (.v (.slice none 0 0)), (.v (.slice none 0 0)), (.v (.slice none 0 0))]), none⟩,
    ⟨none, .store 6 (.t 10) (.t 58), none⟩,
    ⟨some 11, .mov (.t 59), none⟩])
  (.seq (.seq (.ops [⟨some 60, .mov (.t 11), none⟩,
    ⟨some 61, .bin .neq false (.t 60) (.c (.v (.int .i64 0))), none⟩])
  (.cond (.t 61)
    (.seq (.ops [⟨some 2, .mov (.c (.v (.bool false))), none⟩])
    .ret)
    .skip))
  (.seq (.ops [⟨some 63, .load 6 true (.t 10), none⟩,
    ⟨some 64, .mov (.t 6), none⟩,
    ⟨some 65, .call 11 [(.t 63), (.t 64)], none⟩,
    ⟨some 62, .mov (.t 65), none⟩,
    ⟨some 66, .extract (.t 62) 0, none⟩,
    ⟨some 67, .extract (.t 62) 1, none⟩,
    ⟨some 12, .alloc (.agg [(.v (.int .i64 0)), (.v (.int .i64 0)), (.v (.int .u64 0)), (.v (.slice none 0 0)), (.v (.slice none 0 0)), (.v (.slice none 0 0))]), none⟩,
    ⟨none, .store 6 (.t 12) (.t 66), none⟩,
    ⟨some 13, .mov (.t 67), none⟩])
  (.seq (.ops [⟨some 69, .load 6 true (.t 12), none⟩,
    ⟨some 70, .mov (.t 7), none⟩,
    ⟨some 71, .call 11 [(.t 69), (.t 70)], none⟩,
    ⟨some 68, .mov (.t 71), none⟩,
    ⟨some 72, .extract (.t 68) 0, none⟩,
    ⟨some 73, .extract (.t 68) 1, none⟩,
    ⟨some 14, .alloc (.agg [(.v (.int .i64 0)), (.v (.int .i64 0)), (.v (.int .u64 0)), (.v (.slice none 0 0)), (.v (.slice none 0 0)), (.v (.slice none 0 0))]), none⟩,
    ⟨none, .store 6 (.t 14) (.t 72), none⟩,
    ⟨some 15, .mov (.t 73), none⟩])
  (.seq (.ops [⟨some 75, .load 6 true (.t 10), none⟩,
    ⟨some 76, .mov (.t 7), none⟩,
    ⟨some 77, .call 11 [(.t 75), (.t 76)], none⟩,
    ⟨some 74, .mov (.t 77), none⟩,
    ⟨some 78, .extract (.t 74) 0, none⟩,
    ⟨some 79, .extract (.t 74) 1, none⟩,
    ⟨some 16, .alloc (.agg [(.v (.int .i64 0)), (.v (.int .i64 0)), (.v (.int .u64 0)), (.v (.slice none 0 0)), (.v (.slice none 0 0)), (.v (.slice none 0 0))]), none⟩,
    ⟨none, .store 6 (.t 16) (.t 78), none⟩,
    ⟨some 17, .mov (.t 79), none⟩])
  (.seq (.ops [⟨some 81, .load 6 true (.t 16), none⟩,
    ⟨some 82, .mov (.t 6), none⟩,
    ⟨some 83, .call 11 [(.t 81), (.t 82)], none⟩,
    ⟨some 80, .mov (.t 83), none⟩,
    ⟨some 84, .extract (.t 80) 0, none⟩,
    ⟨some 85, .extract (.t 80) 1, none⟩,
    ⟨some 18, .alloc (.agg [(.v (.int .i64 0)), (.v (.int .i64 0)), (.v (.int .u64 0)), (.v (.slice none 0 0)), (.v (.slice none 0 0)), (.v (.slice none 0 0))]), none⟩,
    ⟨none, .store 6 (.t 18) (.t 84), none⟩,
    ⟨some 19, .mov (.t 85), none⟩])
  (.seq (.draw [[⟨some 86, .mov (.t 9), none⟩],
    [⟨some 87, .mov (.t 86), none⟩],
    [⟨some 88, .load 6 true (.t 10), some (87, true)⟩],
    [⟨some 89, .call 19 [(.t 88)], some (87, true)⟩],
    [⟨some 90, .bin .eql false (.t 89) (.c (.v (.int .i64 0))), some (87, true)⟩],
    [⟨some 91, .pick (.t 87) (.t 90) (.c (.v (.bool false))), none⟩],
    [⟨some 92, .mov (.t 91), none⟩],
    [⟨some 93, .load 6 true (.t 10), some (92, true)⟩,
      ⟨some 94, .mov (.t 6), some (92, true)⟩],
    [⟨some 95, .call 17 [(.t 93), (.t 94)], some (92, true)⟩],
    [⟨some 96, .un .not (.t 95), some (92, true)⟩],
    [⟨some 97, .pick (.t 92) (.t 96) (.c (.v (.bool false))), none⟩],
    [⟨some 98, .mov (.t 97), none⟩],
    [⟨some 99, .load 6 true (.t 14), some (98, true)⟩,
      ⟨some 100, .call 19 [(.t 99)], some (98, true)⟩,
      ⟨some 101, .load 6 true (.t 18), some (98, true)⟩],
    [⟨some 102, .call 19 [(.t 101)], some (98, true)⟩],
    [⟨some 103, .bin .eql false (.t 100) (.t 102), some (98, true)⟩],
    [⟨some 104, .pick (.t 98) (.t 103) (.c (.v (.bool false))), none⟩],
    [⟨some 105, .mov (.t 104), none⟩],
    [⟨some 106, .load 6 true (.t 14), some (105, true)⟩,
      ⟨some 107, .mov (.t 8), some (105, true)⟩,
      ⟨some 108, .call 17 [(.t 106), (.t 107)], some (105, true)⟩,
      ⟨some 109, .load 6 true (.t 18), some (105, true)⟩,
      ⟨some 110, .mov (.t 8), some (105, true)⟩],
    [⟨some 111, .call 17 [(.t 109), (.t 110)], some (105, true)⟩],
    [⟨some 112, .bin .eql true (.t 108) (.t 111), some (105, true)⟩],
    [⟨some 113, .pick (.t 105) (.t 112) (.c (.v (.bool false))), none⟩],
    [⟨some 114, .mov (.t 113), none⟩],
    [⟨some 115, .load 6 true (.t 12), some (114, true)⟩,
      ⟨some 116, .mov (.t 8), some (114, true)⟩],
    [⟨some 117, .call 17 [(.t 115), (.t 116)], some (114, true)⟩],
    [⟨some 118, .un .not (.t 117), some (114, true)⟩],
    [⟨some 119, .mov (.t 118), some (114, true)⟩],
    [⟨some 120, .load 6 true (.t 14), some (119, false)⟩,
      ⟨some 121, .mov (.t 8), some (119, false)⟩],
    [⟨some 122, .call 17 [(.t 120), (.t 121)], some (119, false)⟩],
    [⟨some 123, .pick (.t 119) (.c (.v (.bool true))) (.t 122), some (114, true)⟩],
    [⟨some 124, .pick (.t 114) (.t 123) (.c (.v (.bool false))), none⟩],
    [⟨some 125, .mov (.t 124), none⟩],
    [⟨some 126, .load 6 true (.t 12), some (125, true)⟩,
      ⟨some 127, .call 19 [(.t 126)], some (125, true)⟩,
      ⟨some 128, .mov (.t 4), some (125, true)⟩,
      ⟨some 129, .conv .i64 (.t 128), some (125, true)⟩,
      ⟨some 130, .bin .rem false (.t 129) (.c (.v (.int .i64 16))), some (125, true)⟩,
      ⟨some 131, .bin .add false (.c (.v (.int .i64 1))) (.t 130), some (125, true)⟩],
    [⟨some 132, .bin .leq false (.t 127) (.t 131), some (125, true)⟩],
    [⟨some 133, .pick (.t 125) (.t 132) (.c (.v (.bool false))), none⟩],
    [⟨some 2, .mov (.t 133), none⟩]])
  .ret))))))))))))))))⟩ := by kernel_rfl

set_option maxRecDepth 100000 in
theorem ir6 : compF Try.prog 6 = some ⟨166, [.t 2],
  (.seq (.ops [⟨some 1, .box (.t 0), none⟩,
    ⟨some 2, .mov (.c (.v (.bool false))), none⟩])
  (.seq (.ops [⟨some 24, .faddr 0 (.t 1), none⟩,
    ⟨some 25, .load 1 false (.t 24), none⟩,
    ⟨some 3, .mov (.t 25), none⟩])
  (.seq (.ops [⟨some 26, .faddr 1 (.t 1), none⟩,
    ⟨some 27, .load 1 false (.t 26), none⟩,
    ⟨some 4, .mov (.t 27), none⟩])
  (.seq (.ops [⟨some 28, .faddr 2 (.t 1), none⟩,
    ⟨some 29, .load 1 false (.t 28), none⟩,
    ⟨some 5, .mov (.t 29), none⟩])
  (.seq (.ops [⟨some 30, .faddr 3 (.t 1), none⟩,
    ⟨some 31, .load 1 false (.t 30), none⟩,
    ⟨some 6, .mov (.t 31), none⟩])
  (.seq (.ops [⟨some 32, .faddr 4 (.t 1), none⟩,
    ⟨some 33, .load 1 false (.t 32), none⟩,
    ⟨some 7, .mov (.t 33), none⟩])
  (.seq (.ops [⟨some 34, .call 7 [], none⟩,
    ⟨some 8, .mov (.t 34), none⟩])
  (.seq (.seq (.ops [⟨some 35, .mov (.t 6), none⟩,
    ⟨some 36, .len false (.t 35), none⟩,
    ⟨some 37, .bin .gtr false (.t 36) (.c (.v (.int .i64 100))), none⟩,
    ⟨some 38, .mov (.t 37), none⟩,
    ⟨some 39, .mov (.t 7), some (38, false)⟩,
    ⟨some 40, .len false (.t 39), some (38, false)⟩,
    ⟨some 41, .bin .gtr false (.t 40) (.c (.v (.int .i64 100))), some (38, false)⟩,
    ⟨some 42, .pick (.t 38) (.c (.v (.bool true))) (.t 41), none⟩])
  (.cond (.t 42)
    (.seq (.ops [⟨some 43, .mov (.t 8), none⟩,
      ⟨some 2, .mov (.t 43), none⟩])
    .ret)
    .skip))
  (.seq (.ops [⟨some 44, .mov (.t 3), none⟩,
    ⟨some 45, .conv .i64 (.t 44), none⟩,
    ⟨some 46, .bin .rem false (.t 45) (.c (.v (.int .i64 60))), none⟩,
    ⟨some 47, .bin .add false (.c (.v (.int .i64 1))) (.t 46), none⟩,
    ⟨some 9, .mov (.t 47), none⟩])
  (.seq (.ops [⟨some 48, .mov (.t 4), none⟩,
    ⟨some 49, .conv .i64 (.t 48), none⟩,
    ⟨some 50, .bin .rem false (.t 49) (.c (.v (.int .i64 16))), none⟩,
    ⟨some 51, .bin .add false (.c (.v (.int .i64 1))) (.t 50), none⟩,
    ⟨some 10, .mov (.t 51), none⟩])
  (.seq (.ops [⟨some 53, .mov (.t 9), none⟩,
    ⟨some 54, .mov (.t 10), none⟩,
    ⟨some 55, .mov (.t 5), none⟩,
    ⟨some 56, .call 9 [(.t 53), (.t 54), (.t 55)], none⟩,
    ⟨some 52, .mov (.t 56), none⟩,
    ⟨some 57, .extract (.t 52) 0, none⟩,
    ⟨some 58, .extract (.t 52) 1, none⟩,
    ⟨some 11, .alloc (.agg [(.v (.int .i64 0)), (.v (.int .i64 0)), (.v (.int .u64 0)), (.v (.slice none 0 0)), (.v (.slice none 0 0)), (.v (.slice none 0 0))]), none⟩,
    ⟨none, .store 6 (.t 11) (.t 57), none⟩,
    ⟨some 12, .mov (.t 58), none⟩])
  (.seq (.seq (.ops [⟨some 59, .mov (.t 12), none⟩,
    ⟨some 60, .bin .neq false (.t 59) (.c (.v (.int .i64 0))), none⟩])
  (.cond (.t 60)
    (.seq (.ops [⟨some 2, .mov (.c (.v (.bool false))), none⟩])
    .ret)
    .skip))
  (.seq (.ops [⟨some 61, .mkmap (.i .i64), none⟩,
    ⟨some 13, .mov (.t 61), none⟩])
  (.seq (.seq (.ops [⟨some 14, .mov (.c (.v (.int .i64 0))), none⟩])
  (.block 0 (.loop
    (.seq (.seq (.ops [⟨some 62, .mov (.t 14), none⟩,
      ⟨some 63, .mov (.t 6), none⟩,
      ⟨some 64, .len false (.t 63), none⟩,
      ⟨some 65, .bin .lss false (.t 62) (.t 64), none⟩])
    (.cond (.t 65)
      .skip
      (.exit 0)))
    (.seq (.block 1 (.seq (.seq (.ops [⟨some 68, .mov (.t 6), none⟩,
      ⟨some 69, .mov (.t 14), none⟩,
      ⟨some 70, .iaddr 1 (.t 68) (.t 69), none⟩,
      ⟨some 71, .load 1 false (.t 70), none⟩,
      ⟨some 72, .len false (.t 71), none⟩,
      ⟨some 73, .bin .gtr false (.t 72) (.c (.v (.int .i64 20))), none⟩])
    (.cond (.t 73)
      (.seq (.ops [⟨some 74, .mov (.t 8), none⟩,
        ⟨some 2, .mov (.t 74), none⟩])
      .ret)
      .skip))
    (.seq (.ops [⟨some 75, .mov (.t 6), none⟩,
      ⟨some 76, .mov (.t 14), none⟩,
      ⟨some 77, .iaddr 1 (.t 75) (.t 76), none⟩,
      ⟨some 78, .load 1 false (.t 77), none⟩,
      ⟨some 79, .mov (.t 5), none⟩,
      ⟨some 80, .mov (.t 10), none⟩,
      ⟨some 81, .mov (.t 9), none⟩,
      ⟨some 82, .call 20 [(.t 78), (.t 79), (.t 80), (.t 81)], none⟩,
      ⟨some 15, .mov (.t 82), none⟩])
    (.seq (.seq (.ops [⟨some 16, .mov (.c (.v (.int .i64 0))), none⟩])
    (.block 2 (.loop
      (.seq (.seq (.ops [⟨some 83, .mov (.t 16), none⟩,
        ⟨some 84, .mov (.t 15), none⟩,
        ⟨some 85, .len false (.t 84), none⟩,
        ⟨some 86, .bin .lss false (.t 83) (.t 85), none⟩])
      (.cond (.t 86)
        .skip
        (.exit 2)))
      (.seq (.block 3 (.ops [⟨some 89, .mov (.t 13), none⟩,
        ⟨some 90, .mov (.t 15), none⟩,
        ⟨some 91, .mov (.t 16), none⟩,
        ⟨some 92, .iaddr 1 (.t 90) (.t 91), none⟩,
        ⟨some 93, .load 1 false (.t 92), none⟩,
        ⟨none, .mset (.i .i64) (.t 89) (.t 93) (.c (.v (.bool true))), none⟩]))
      (.ops [⟨some 87, .mov (.t 16), none⟩,
        ⟨some 88, .bin .add false (.t 87) (.c (.v (.int .i64 1))), none⟩,
        ⟨some 16, .mov (.t 88), none⟩]))))))
    (.seq (.draw [[⟨some 95, .load 6 true (.t 11), none⟩,
        ⟨some 96, .mov (.t 6), none⟩,
        ⟨some 97, .mov (.t 14), none⟩,
        ⟨some 98, .iaddr 1 (.t 96) (.t 97), none⟩,
        ⟨some 99, .load 1 false (.t 98), none⟩,
        ⟨some 100, .call 11 [(.t 95), (.t 99)], none⟩,
        ⟨some 94, .mov (.t 100), none⟩,
        ⟨some 101, .extract (.t 94) 0, none⟩,
        ⟨some 102, .extract (.t 94) 1, none⟩,
        ⟨some 17, .alloc (.agg [(.v (.int .i64 0)), (.v (.int .i64 0)), (.v (.int .u64 0)), (.v (.slice none 0 0)), (.v (.slice none 0 0)), (.v (.slice none 0 0))]), none⟩,
        ⟨none, .store 6 (.t 17) (.t 101), none⟩],
      [⟨some 18, .mov (.t 102), none⟩]])
    (.ops [⟨some 103, .load 6 true (.t 17), none⟩,
      ⟨none, .store 6 (.t 11) (.t 103), none⟩]))))))
    (.ops [⟨some 66, .mov (.t 14), none⟩,
      ⟨some 67, .bin .add false (.t 66) (.c (.v (.int .i64 1))), none⟩,
      ⟨some 14, .mov (.t 67), none⟩]))))))
  (.seq (.ops [⟨some 19, .mov (.c (.v (.bool true))), none⟩])
  (.seq (.ops [⟨some 104, .mov (.t 7), none⟩,
    ⟨some 105, .mov (.t 5), none⟩,
    ⟨some 106, .mov (.t 10), none⟩,
    ⟨some 107, .mov (.t 9), none⟩,
    ⟨some 108, .call 20 [(.t 104), (.t 105), (.t 106), (.t 107)], none⟩,
    ⟨some 20, .mov (.t 108), none⟩])
  (.seq (.seq (.ops [⟨some 21, .mov (.c (.v (.int .i64 0))), none⟩])
  (.block 4 (.loop
    (.seq (.seq (.ops [⟨some 109, .mov (.t 21), none⟩,
      ⟨some 110, .mov (.t 20), none⟩,
      ⟨some 111, .len false (.t 110), none⟩,
      ⟨some 112, .bin .lss false (.t 109) (.t 111), none⟩])
    (.cond (.t 112)
      .skip
      (.exit 4)))
    (.seq (.block 5 (.ops [⟨some 115, .mov (.t 19), none⟩,
      ⟨some 116, .mov (.t 115), none⟩,
      ⟨some 117, .mov (.t 13), some (116, true)⟩,
      ⟨some 118, .mov (.t 20), some (116, true)⟩,
      ⟨some 119, .mov (.t 21), some (116, true)⟩,
      ⟨some 120, .iaddr 1 (.t 118) (.t 119), some (116, true)⟩,
      ⟨some 121, .load 1 false (.t 120), some (116, true)⟩,
      ⟨some 122, .mget (.i .i64) false (.bool false) (.t 117) (.t 121), some (116, true)⟩,
      ⟨some 123, .pick (.t 116) (.t 122) (.c (.v (.bool false))), none⟩,
      ⟨some 19, .mov (.t 123), none⟩]))
    (.ops [⟨some 113, .mov (.t 21), none⟩,
      ⟨some 114, .bin .add false (.t 113) (.c (.v (.int .i64 1))), none⟩,
      ⟨some 21, .mov (.t 114), none⟩]))))))
  (.seq (.ops [⟨some 125, .load 6 true (.t 11), none⟩,
    ⟨some 126, .mov (.t 7), none⟩,
    ⟨some 127, .call 11 [(.t 125), (.t 126)], none⟩,
    ⟨some 124, .mov (.t 127), none⟩,
    ⟨some 128, .extract (.t 124) 0, none⟩,
    ⟨some 129, .extract (.t 124) 1, none⟩,
    ⟨some 22, .alloc (.agg [(.v (.int .i64 0)), (.v (.int .i64 0)), (.v (.int .u64 0)), (.v (.slice none 0 0)), (.v (.slice none 0 0)), (.v (.slice none 0 0))]), none⟩,
    ⟨none, .store 6 (.t 22) (.t 128), none⟩,
    ⟨some 23, .mov (.t 129), none⟩])
  (.seq (.ops [⟨some 130, .mov (.t 8), none⟩,
    ⟨some 131, .mov (.t 130), none⟩,
    ⟨some 132, .load 6 true (.t 11), some (131, true)⟩,
    ⟨some 133, .call 19 [(.t 132)], some (131, true)⟩,
    ⟨some 134, .mov (.t 13), some (131, true)⟩,
    ⟨some 135, .mlen (.t 134), some (131, true)⟩,
    ⟨some 136, .bin .eql false (.t 133) (.t 135), some (131, true)⟩,
    ⟨some 137, .pick (.t 131) (.t 136) (.c (.v (.bool false))), none⟩,
    ⟨some 138, .mov (.t 137), none⟩,
    ⟨some 139, .load 6 true (.t 11), some (138, true)⟩,
    ⟨some 140, .mov (.t 7), some (138, true)⟩,
    ⟨some 141, .call 17 [(.t 139), (.t 140)], some (138, true)⟩,
    ⟨some 142, .mov (.t 19), some (138, true)⟩,
    ⟨some 143, .bin .eql true (.t 141) (.t 142), some (138, true)⟩,
    ⟨some 144, .pick (.t 138) (.t 143) (.c (.v (.bool false))), none⟩,
    ⟨some 145, .mov (.t 144), none⟩,
    ⟨some 146, .mov (.t 23), some (145, true)⟩,
    ⟨some 147, .mov (.t 19), some (145, true)⟩,
    ⟨some 148, .un .not (.t 147), some (145, true)⟩,
    ⟨some 149, .bin .eql true (.t 146) (.t 148), some (145, true)⟩,
    ⟨some 150, .pick (.t 145) (.t 149) (.c (.v (.bool false))), none⟩,
    ⟨some 151, .mov (.t 150), none⟩,
    ⟨some 152, .mov (.t 13), some (151, true)⟩,
    ⟨some 153, .mlen (.t 152), some (151, true)⟩,
    ⟨some 154, .mov (.t 9), some (151, true)⟩,
    ⟨some 155, .bin .lss false (.t 153) (.t 154), some (151, true)⟩,
    ⟨some 156, .mov (.t 155), some (151, true)⟩,
    ⟨some 157, .mov (.t 19), some (156, false)⟩,
    ⟨some 158, .mov (.t 157), some (156, false)⟩,
    ⟨some 159, .load 6 true (.t 22), some (158, true)⟩,
    ⟨some 160, .call 19 [(.t 159)], some (158, true)⟩,
    ⟨some 161, .mov (.t 9), some (158, true)⟩,
    ⟨some 162, .bin .eql false (.t 160) (.t 161), some (158, true)⟩,
    ⟨some 163, .pick (.t 158) (.t 162) (.c (.v (.bool false))), some (156, false)⟩,
    ⟨some 164, .pick (.t 156) (.c (.v (.bool true))) (.t 163), some (151, true)⟩,
    ⟨some 165, .pick (.t 151) (.t 164) (.c (.v (.bool false))), none⟩,
    ⟨some 2, .mov (.t 165), none⟩])
  .ret)))))))))))))))))))⟩ := by kernel_rfl

set_option maxRecDepth 100000 in
theorem ir7 : compF Try.prog 7 = some ⟨139, [.t 0],
  (.seq (.ops [⟨some 0, .mov (.c (.v (.bool false))), none⟩])
  (.seq (.ops [⟨some 20, .call 9 [(.c (.v (.int .i64 1))), (.c (.v (.int .i64 1))), (.c (.v (.int .u64 7)))], none⟩,
    ⟨some 19, .mov (.t 20), none⟩,
    ⟨some 21, .extract (.t 19) 0, none⟩,
    ⟨some 22, .extract (.t 19) 1, none⟩,
    ⟨some 1, .alloc (.agg [(.v (.int .i64 0)), (.v (.int .i64 0)), (.v (.int .u64 0)), (.v (.slice none 0 0)), (.v (.slice none 0 0)), (.v (.slice none 0 0))]), none⟩,
    ⟨none, .store 6 (.t 1) (.t 21), none⟩,
    ⟨some 2, .mov (.t 22), none⟩])
  (.seq (.ops [⟨some 24, .load 6 true (.t 1), none⟩,
    ⟨some 25, .bslice 1 [(.v (.int .u8 0))] 1 [(0, 1, (.c (.v (.int .u8 97))))], none⟩,
    ⟨some 26, .sames (.t 25), none⟩,
    ⟨some 27, .call 11 [(.t 24), (.t 26)], none⟩,
    ⟨some 23, .mov (.t 27), none⟩,
    ⟨some 28, .extract (.t 23) 0, none⟩,
    ⟨some 29, .extract (.t 23) 1, none⟩,
    ⟨some 3, .alloc (.agg [(.v (.int .i64 0)), (.v (.int .i64 0)), (.v (.int .u64 0)), (.v (.slice none 0 0)), (.v (.slice none 0 0)), (.v (.slice none 0 0))]), none⟩,
    ⟨none, .store 6 (.t 3) (.t 28), none⟩,
    ⟨some 4, .mov (.t 29), none⟩])
  (.seq (.ops [⟨some 31, .load 6 true (.t 3), none⟩,
    ⟨some 32, .bslice 1 [(.v (.int .u8 0))] 1 [(0, 1, (.c (.v (.int .u8 98))))], none⟩,
    ⟨some 33, .sames (.t 32), none⟩,
    ⟨some 34, .call 11 [(.t 31), (.t 33)], none⟩,
    ⟨some 30, .mov (.t 34), none⟩,
    ⟨some 35, .extract (.t 30) 0, none⟩,
    ⟨some 36, .extract (.t 30) 1, none⟩,
    ⟨some 5, .alloc (.agg [(.v (.int .i64 0)), (.v (.int .i64 0)), (.v (.int .u64 0)), (.v (.slice none 0 0)), (.v (.slice none 0 0)), (.v (.slice none 0 0))]), none⟩,
    ⟨none, .store 6 (.t 5) (.t 35), none⟩,
    ⟨some 6, .mov (.t 36), none⟩])
  (.seq (.ops [⟨some 38, .load 6 true (.t 5), none⟩,
    ⟨some 39, .bslice 1 [(.v (.int .u8 0))] 1 [(0, 1, (.c (.v (.int .u8 98))))], none⟩,
    ⟨some 40, .sames (.t 39), none⟩,
    ⟨some 41, .call 13 [(.t 38), (.t 40), (.c (.v (.int .i64 1)))], none⟩,
    ⟨some 37, .mov (.t 41), none⟩,
    ⟨some 42, .extract (.t 37) 0, none⟩,
    ⟨some 43, .extract (.t 37) 1, none⟩,
    ⟨some 7, .alloc (.agg [(.v (.int .i64 0)), (.v (.int .i64 0)), (.v (.int .u64 0)), (.v (.slice none 0 0)), (.v (.slice none 0 0)), (.v (.slice none 0 0))]), none⟩,
    ⟨none, .store 6 (.t 7) (.t 42), none⟩,
    ⟨some 8, .mov (.t 43), none⟩])
  (.seq (.ops [⟨some 45, .load 6 true (.t 7), none⟩,
    ⟨some 46, .bslice 1 [(.v (.int .u8 0))] 1 [(0, 1, (.c (.v (.int .u8 97))))], none⟩,
    ⟨some 47, .sames (.t 46), none⟩,
    ⟨some 48, .call 15 [(.t 45), (.t 47), (.c (.v (.int .i64 1)))], none⟩,
    ⟨some 44, .mov (.t 48), none⟩,
    ⟨some 49, .extract (.t 44) 0, none⟩,
    ⟨some 50, .extract (.t 44) 1, none⟩,
    ⟨some 9, .mov (.t 49), none⟩,
    ⟨some 10, .mov (.t 50), none⟩])
  (.seq (.ops [⟨some 52, .load 6 true (.t 7), none⟩,
    ⟨some 53, .bslice 1 [(.v (.int .u8 0))] 1 [(0, 1, (.c (.v (.int .u8 97))))], none⟩,
    ⟨some 54, .sames (.t 53), none⟩,
    ⟨some 55, .call 15 [(.t 52), (.t 54), (.c (.v (.int .i64 0)))], none⟩,
    ⟨some 51, .mov (.t 55), none⟩,
    ⟨some 56, .extract (.t 51) 0, none⟩,
    ⟨some 57, .extract (.t 51) 1, none⟩,
    ⟨some 11, .mov (.t 56), none⟩,
    ⟨some 12, .mov (.t 57), none⟩])
  (.seq (.ops [⟨some 59, .load 6 true (.t 1), none⟩,
    ⟨some 60, .bslice 1 [(.v (.int .u8 0))] 1 [(0, 1, (.c (.v (.int .u8 97))))], none⟩,
    ⟨some 61, .sames (.t 60), none⟩,
    ⟨some 62, .call 15 [(.t 59), (.t 61), (.c (.v (.int .i64 0)))], none⟩,
    ⟨some 58, .mov (.t 62), none⟩,
    ⟨some 63, .extract (.t 58) 0, none⟩,
    ⟨some 64, .extract (.t 58) 1, none⟩,
    ⟨some 13, .mov (.t 63), none⟩,
    ⟨some 14, .mov (.t 64), none⟩])
  (.seq (.ops [⟨some 66, .load 6 true (.t 7), none⟩,
    ⟨some 67, .bslice 1 [(.v (.int .u8 0))] 1 [(0, 1, (.c (.v (.int .u8 97))))], none⟩,
    ⟨some 68, .sames (.t 67), none⟩,
    ⟨some 69, .call 13 [(.t 66), (.t 68), (.c (.v (.int .i64 2)))], none⟩,
    ⟨some 65, .mov (.t 69), none⟩,
    ⟨some 70, .extract (.t 65) 0, none⟩,
    ⟨some 71, .extract (.t 65) 1, none⟩,
    ⟨some 15, .alloc (.agg [(.v (.int .i64 0)), (.v (.int .i64 0)), (.v (.int .u64 0)), (.v (.slice none 0 0)), (.v (.slice none 0 0)), (.v (.slice none 0 0))]), none⟩,
    ⟨none, .store 6 (.t 15) (.t 70), none⟩,
    ⟨some 16, .mov (.t 71), none⟩])
  (.seq (.ops [⟨some 73, .call 9 [(.c (.v (.int .i64 0))), (.c (.v (.int .i64 1))), (.c (.v (.int .u64 7)))], none⟩,
    ⟨some 72, .mov (.t 73), none⟩,
    ⟨some 74, .extract (.t 72) 0, none⟩,
    ⟨some 75, .extract (.t 72) 1, none⟩,
    ⟨some 17, .alloc (.agg [(.v (.int .i64 0)), (.v (.int .i64 0)), (.v (.int .u64 0)), (.v (.slice none 0 0)), (.v (.slice none 0 0)), (.v (.slice none 0 0))]), none⟩,
    ⟨none, .store 6 (.t 17) (.t 74), none⟩,
    ⟨some 18, .mov (.t 75), none⟩])
  (.seq (.ops [⟨some 76, .mov (.t 2), none⟩,
    ⟨some 77, .bin .eql false (.t 76) (.c (.v (.int .i64 0))), none⟩,
    ⟨some 78, .mov (.t 77), none⟩,
    ⟨some 79, .mov (.t 4), some (78, true)⟩,
    ⟨some 80, .pick (.t 78) (.t 79) (.c (.v (.bool false))), none⟩,
    ⟨some 81, .mov (.t 80), none⟩,
    ⟨some 82, .mov (.t 6), some (81, true)⟩,
    ⟨some 83, .un .not (.t 82), some (81, true)⟩,
    ⟨some 84, .pick (.t 81) (.t 83) (.c (.v (.bool false))), none⟩,
    ⟨some 85, .mov (.t 84), none⟩,
    ⟨some 86, .mov (.t 8), some (85, true)⟩,
    ⟨some 87, .bin .eql false (.t 86) (.c (.v (.int .i64 0))), some (85, true)⟩,
    ⟨some 88, .pick (.t 85) (.t 87) (.c (.v (.bool false))), none⟩,
    ⟨some 89, .mov (.t 88), none⟩,
    ⟨some 90, .mov (.t 9), some (89, true)⟩,
    ⟨some 91, .pick (.t 89) (.t 90) (.c (.v (.bool false))), none⟩,
    ⟨some 92, .mov (.t 91), none⟩,
    ⟨some 93, .mov (.t 10), some (92, true)⟩,
    ⟨some 94, .bin .eql false (.t 93) (.c (.v (.int .i64 0))), some (92, true)⟩,
    ⟨some 95, .pick (.t 92) (.t 94) (.c (.v (.bool false))), none⟩,
    ⟨some 96, .mov (.t 95), none⟩,
    ⟨some 97, .mov (.t 11), some (96, true)⟩,
    ⟨some 98, .un .not (.t 97), some (96, true)⟩,
    ⟨some 99, .pick (.t 96) (.t 98) (.c (.v (.bool false))), none⟩,
    ⟨some 100, .mov (.t 99), none⟩,
    ⟨some 101, .mov (.t 12), some (100, true)⟩,
    ⟨some 102, .bin .eql false (.t 101) (.c (.v (.int .i64 0))), some (100, true)⟩,
    ⟨some 103, .pick (.t 100) (.t 102) (.c (.v (.bool false))), none⟩,
    ⟨some 104, .mov (.t 103), none⟩,
    ⟨some 105, .mov (.t 14), some (104, true)⟩,
    ⟨some 106, .bin .eql false (.t 105) (.c (.v (.int .i64 10))), some (104, true)⟩,
    ⟨some 107, .pick (.t 104) (.t 106) (.c (.v (.bool false))), none⟩,
    ⟨some 108, .mov (.t 107), none⟩,
    ⟨some 109, .mov (.t 16), some (108, true)⟩,
    ⟨some 110, .bin .eql false (.t 109) (.c (.v (.int .i64 1))), some (108, true)⟩,
    ⟨some 111, .pick (.t 108) (.t 110) (.c (.v (.bool false))), none⟩,
    ⟨some 112, .mov (.t 111), none⟩,
    ⟨some 113, .mov (.t 18), some (112, true)⟩,
    ⟨some 114, .bin .eql false (.t 113) (.c (.v (.int .i64 1))), some (112, true)⟩,
    ⟨some 115, .pick (.t 112) (.t 114) (.c (.v (.bool false))), none⟩,
    ⟨some 116, .mov (.t 115), none⟩,
    ⟨some 117, .load 6 true (.t 7), some (116, true)⟩,
    ⟨some 118, .call 19 [(.t 117)], some (116, true)⟩,
    ⟨some 119, .bin .eql false (.t 118) (.c (.v (.int .i64 1))), some (116, true)⟩,
    ⟨some 120, .pick (.t 116) (.t 119) (.c (.v (.bool false))), none⟩,
    ⟨some 121, .mov (.t 120), none⟩,
    ⟨some 122, .load 6 true (.t 1), some (121, true)⟩,
    ⟨some 123, .call 19 [(.t 122)], some (121, true)⟩,
    ⟨some 124, .bin .eql false (.t 123) (.c (.v (.int .i64 0))), some (121, true)⟩,
    ⟨some 125, .pick (.t 121) (.t 124) (.c (.v (.bool false))), none⟩,
    ⟨some 126, .mov (.t 125), none⟩,
    ⟨some 127, .load 6 true (.t 5), some (126, true)⟩,
    ⟨some 128, .bslice 1 [(.v (.int .u8 0))] 1 [(0, 1, (.c (.v (.int .u8 122))))], some (126, true)⟩,
    ⟨some 129, .sames (.t 128), some (126, true)⟩,
    ⟨some 130, .call 17 [(.t 127), (.t 129)], some (126, true)⟩,
    ⟨some 131, .pick (.t 126) (.t 130) (.c (.v (.bool false))), none⟩,
    ⟨some 132, .mov (.t 131), none⟩,
    ⟨some 133, .load 6 true (.t 1), some (132, true)⟩,
    ⟨some 134, .bslice 1 [(.v (.int .u8 0))] 1 [(0, 1, (.c (.v (.int .u8 122))))], some (132, true)⟩,
    ⟨some 135, .sames (.t 134), some (132, true)⟩,
    ⟨some 136, .call 17 [(.t 133), (.t 135)], some (132, true)⟩,
    ⟨some 137, .un .not (.t 136), some (132, true)⟩,
    ⟨some 138, .pick (.t 132) (.t 137) (.c (.v (.bool false))), none⟩,
    ⟨some 0, .mov (.t 138), none⟩])
  .ret)))))))))))⟩ := by kernel_rfl

theorem ir8 : compF Try.prog 8 = some ⟨23, [.t 4],
  (.seq (.ops [⟨some 4, .mov (.c (.v (.bool false))), none⟩])
  (.seq (.seq (.ops [⟨some 6, .mov (.t 0), none⟩,
    ⟨some 7, .len false (.t 6), none⟩,
    ⟨some 8, .mov (.t 1), none⟩,
    ⟨some 9, .bin .gtr false (.t 7) (.t 8), none⟩])
  (.cond (.t 9)
    (.seq (.ops [⟨some 4, .mov (.c (.v (.bool false))), none⟩])
    .ret)
    .skip))
  (.seq (.seq (.ops [⟨some 5, .mov (.c (.v (.int .i64 0))), none⟩])
  (.block 0 (.loop
    (.seq (.seq (.ops [⟨some 10, .mov (.t 5), none⟩,
      ⟨some 11, .mov (.t 0), none⟩,
      ⟨some 12, .len false (.t 11), none⟩,
      ⟨some 13, .bin .lss false (.t 10) (.t 12), none⟩])
    (.cond (.t 13)
      .skip
      (.exit 0)))
    (.seq (.block 1 (.seq (.ops [⟨some 16, .mov (.t 0), none⟩,
      ⟨some 17, .mov (.t 5), none⟩,
      ⟨some 18, .iaddr 3 (.t 16) (.t 17), none⟩,
      ⟨some 19, .faddr 1 (.t 18), none⟩,
      ⟨some 20, .load 1 false (.t 19), none⟩,
      ⟨some 21, .len false (.t 20), none⟩,
      ⟨some 22, .bin .gtr false (.t 21) (.c (.v (.int .i64 100))), none⟩])
    (.cond (.t 22)
      (.seq (.ops [⟨some 4, .mov (.c (.v (.bool false))), none⟩])
      .ret)
      .skip)))
    (.ops [⟨some 14, .mov (.t 5), none⟩,
      ⟨some 15, .bin .add false (.t 14) (.c (.v (.int .i64 1))), none⟩,
      ⟨some 5, .mov (.t 15), none⟩]))))))
  (.seq (.ops [⟨some 4, .mov (.c (.v (.bool true))), none⟩])
  .ret))))⟩ := by kernel_rfl

theorem ir9 : compF Try.prog 9 = some ⟨41, [.c 6 6 true, .t 7],
  (.seq (.ops [⟨some 6, .alloc (.agg [(.v (.int .i64 0)), (.v (.int .i64 0)), (.v (.int .u64 0)), (.v (.slice none 0 0)), (.v (.slice none 0 0)), (.v (.slice none 0 0))]), none⟩,
    ⟨some 7, .mov (.c (.v (.int .i64 0))), none⟩])
  (.seq (.seq (.ops [⟨some 10, .mov (.t 0), none⟩,
    ⟨some 11, .bin .lss false (.t 10) (.c (.v (.int .i64 1))), none⟩,
    ⟨some 12, .mov (.t 11), none⟩,
    ⟨some 13, .mov (.t 0), some (12, false)⟩,
    ⟨some 14, .bin .gtr false (.t 13) (.c (.v (.int .i64 4194304))), some (12, false)⟩,
    ⟨some 15, .pick (.t 12) (.c (.v (.bool true))) (.t 14), none⟩,
    ⟨some 16, .mov (.t 15), none⟩,
    ⟨some 17, .mov (.t 1), some (16, false)⟩,
    ⟨some 18, .bin .lss false (.t 17) (.c (.v (.int .i64 1))), some (16, false)⟩,
    ⟨some 19, .pick (.t 16) (.c (.v (.bool true))) (.t 18), none⟩,
    ⟨some 20, .mov (.t 19), none⟩,
    ⟨some 21, .mov (.t 1), some (20, false)⟩,
    ⟨some 22, .bin .gtr false (.t 21) (.c (.v (.int .i64 16))), some (20, false)⟩,
    ⟨some 23, .pick (.t 20) (.c (.v (.bool true))) (.t 22), none⟩])
  (.cond (.t 23)
    (.seq (.ops [⟨some 24, .build [(.v (.int .i64 0)), (.v (.int .i64 0)), (.v (.int .u64 0)), (.v (.slice none 0 0)), (.v (.slice none 0 0)), (.v (.slice none 0 0))] [], none⟩,
      ⟨none, .store 6 (.t 6) (.t 24), none⟩,
      ⟨some 7, .mov (.c (.v (.int .i64 1))), none⟩])
    .ret)
    .skip))
  (.seq (.ops [⟨some 25, .mov (.t 0), none⟩,
    ⟨some 26, .mov (.t 1), none⟩,
    ⟨some 27, .mov (.t 2), none⟩,
    ⟨some 28, .build [(.v (.int .i64 0)), (.v (.int .i64 0)), (.v (.int .u64 0)), (.v (.slice none 0 0)), (.v (.slice none 0 0)), (.v (.slice none 0 0))] [(0, 1, (.t 25)), (1, 1, (.t 26)), (2, 1, (.t 27))], none⟩,
    ⟨some 8, .alloc (.agg [(.v (.int .i64 0)), (.v (.int .i64 0)), (.v (.int .u64 0)), (.v (.slice none 0 0)), (.v (.slice none 0 0)), (.v (.slice none 0 0))]), none⟩,
    ⟨none, .store 6 (.t 8) (.t 28), none⟩])
  (.seq (.seq (.ops [⟨some 29, .mov (.c (.v (.int .i64 0))), none⟩])
  (.block 0 (.loop
    (.seq (.ops [⟨some 30, .bin .lss false (.t 29) (.c (.v (.int .i64 3))), none⟩])
    (.seq (.cond (.t 30)
      .skip
      (.exit 0))
    (.seq (.block 1 (.seq (.ops [⟨some 31, .mov (.t 29), none⟩,
      ⟨some 9, .mov (.t 31), none⟩])
    (.ops [⟨some 32, .mov (.t 9), none⟩,
      ⟨some 33, .mov (.t 0), none⟩,
      ⟨some 34, .bin .add false (.t 33) (.c (.v (.int .i64 7))), none⟩,
      ⟨some 35, .bin .quo false (.t 34) (.c (.v (.int .i64 8))), none⟩,
      ⟨some 36, .mksl 1 1 [(.v (.int .u8 0))] (.t 35) (.t 35), none⟩,
      ⟨some 37, .faddr 3 (.t 8), none⟩,
      ⟨some 38, .iaddrA 3 1 (.t 37) (.t 32), none⟩,
      ⟨none, .store 1 (.t 38) (.t 36), none⟩])))
    (.ops [⟨some 39, .bin .add false (.t 29) (.c (.v (.int .i64 1))), none⟩,
      ⟨some 29, .mov (.t 39), none⟩])))))))
  (.seq (.ops [⟨some 40, .load 6 true (.t 8), none⟩,
    ⟨none, .store 6 (.t 6) (.t 40), none⟩,
    ⟨some 7, .mov (.c (.v (.int .i64 0))), none⟩])
  .ret)))))⟩ := by kernel_rfl

theorem ir10 : compF Try.prog 10 = some ⟨27, [.c 6 6 true, .t 7],
  (.seq (.ops [⟨some 6, .alloc (.agg [(.v (.int .i64 0)), (.v (.int .i64 0)), (.v (.int .u64 0)), (.v (.slice none 0 0)), (.v (.slice none 0 0)), (.v (.slice none 0 0))]), none⟩,
    ⟨some 7, .mov (.c (.v (.int .i64 0))), none⟩])
  (.seq (.seq (.ops [⟨some 8, .mov (.t 0), none⟩,
    ⟨some 9, .bin .lss false (.t 8) (.c (.v (.int .i64 1))), none⟩,
    ⟨some 10, .mov (.t 9), none⟩,
    ⟨some 11, .mov (.t 0), some (10, false)⟩,
    ⟨some 12, .bin .gtr false (.t 11) (.c (.v (.int .i64 4194304))), some (10, false)⟩,
    ⟨some 13, .pick (.t 10) (.c (.v (.bool true))) (.t 12), none⟩,
    ⟨some 14, .mov (.t 13), none⟩,
    ⟨some 15, .mov (.t 1), some (14, false)⟩,
    ⟨some 16, .bin .lss false (.t 15) (.c (.v (.int .i64 1))), some (14, false)⟩,
    ⟨some 17, .pick (.t 14) (.c (.v (.bool true))) (.t 16), none⟩,
    ⟨some 18, .mov (.t 17), none⟩,
    ⟨some 19, .mov (.t 1), some (18, false)⟩,
    ⟨some 20, .bin .gtr false (.t 19) (.c (.v (.int .i64 16))), some (18, false)⟩,
    ⟨some 21, .pick (.t 18) (.c (.v (.bool true))) (.t 20), none⟩])
  (.cond (.t 21)
    (.seq (.ops [⟨some 22, .build [(.v (.int .i64 0)), (.v (.int .i64 0)), (.v (.int .u64 0)), (.v (.slice none 0 0)), (.v (.slice none 0 0)), (.v (.slice none 0 0))] [], none⟩,
      ⟨none, .store 6 (.t 6) (.t 22), none⟩,
      ⟨some 7, .mov (.c (.v (.int .i64 1))), none⟩])
    .ret)
    .skip))
  (.seq (.ops [⟨some 23, .mov (.t 0), none⟩,
    ⟨some 24, .mov (.t 1), none⟩,
    ⟨some 25, .mov (.t 2), none⟩,
    ⟨some 26, .build [(.v (.int .i64 0)), (.v (.int .i64 0)), (.v (.int .u64 0)), (.v (.slice none 0 0)), (.v (.slice none 0 0)), (.v (.slice none 0 0))] [(0, 1, (.t 23)), (1, 1, (.t 24)), (2, 1, (.t 25))], none⟩,
    ⟨none, .store 6 (.t 6) (.t 26), none⟩,
    ⟨some 7, .mov (.c (.v (.int .i64 0))), none⟩])
  .ret)))⟩ := by kernel_rfl

theorem ir11 : compF Try.prog 11 = some ⟨13, [.c 4 6 true, .t 5],
  (.seq (.ops [⟨some 2, .box (.t 0), none⟩,
    ⟨some 4, .alloc (.agg [(.v (.int .i64 0)), (.v (.int .i64 0)), (.v (.int .u64 0)), (.v (.slice none 0 0)), (.v (.slice none 0 0)), (.v (.slice none 0 0))]), none⟩,
    ⟨some 5, .mov (.c (.v (.bool false))), none⟩])
  (.seq (.seq (.ops [⟨some 6, .load 6 true (.t 2), none⟩,
    ⟨some 7, .mov (.t 1), none⟩,
    ⟨some 8, .call 17 [(.t 6), (.t 7)], none⟩])
  (.cond (.t 8)
    (.seq (.ops [⟨some 9, .load 6 true (.t 2), none⟩,
      ⟨none, .store 6 (.t 4) (.t 9), none⟩,
      ⟨some 5, .mov (.c (.v (.bool false))), none⟩])
    .ret)
    .skip))
  (.seq (.ops [⟨some 10, .load 6 true (.t 2), none⟩,
    ⟨some 11, .mov (.t 1), none⟩,
    ⟨some 12, .call 21 [(.t 10), (.t 11), (.c (.v (.int .i64 0)))], none⟩,
    ⟨none, .store 6 (.t 4) (.t 12), none⟩,
    ⟨some 5, .mov (.c (.v (.bool true))), none⟩])
  .ret)))⟩ := by kernel_rfl

theorem ir12 : compF Try.prog 12 = some ⟨27, [.c 4 6 true, .t 5],
  (.seq (.ops [⟨some 2, .box (.t 0), none⟩,
    ⟨some 4, .alloc (.agg [(.v (.int .i64 0)), (.v (.int .i64 0)), (.v (.int .u64 0)), (.v (.slice none 0 0)), (.v (.slice none 0 0)), (.v (.slice none 0 0))]), none⟩,
    ⟨some 5, .mov (.c (.v (.bool false))), none⟩])
  (.seq (.ops [⟨some 7, .load 6 true (.t 2), none⟩,
    ⟨some 8, .mov (.t 1), none⟩,
    ⟨some 9, .call 18 [(.t 7), (.t 8)], none⟩,
    ⟨some 6, .mov (.t 9), none⟩])
  (.seq (.draw [[⟨some 10, .faddr 3 (.t 2), none⟩,
      ⟨some 11, .iaddrA 3 1 (.t 10) (.c (.v (.int .i64 0))), none⟩,
      ⟨some 12, .load 1 false (.t 11), none⟩,
      ⟨some 13, .mov (.t 1), none⟩,
      ⟨some 14, .faddr 2 (.t 2), none⟩,
      ⟨some 15, .load 1 false (.t 14), none⟩,
      ⟨some 16, .faddr 1 (.t 2), none⟩,
      ⟨some 17, .load 1 false (.t 16), none⟩,
      ⟨some 18, .faddr 0 (.t 2), none⟩,
      ⟨some 19, .load 1 false (.t 18), none⟩,
      ⟨some 20, .call 20 [(.t 13), (.t 15), (.t 17), (.t 19)], none⟩,
      ⟨some 21, .call 22 [(.t 12), (.t 20)], none⟩,
      ⟨some 22, .faddr 3 (.t 2), none⟩],
    [⟨some 23, .iaddrA 3 1 (.t 22) (.c (.v (.int .i64 0))), none⟩],
    [⟨none, .store 1 (.t 23) (.t 21), none⟩]])
  (.seq (.ops [⟨some 24, .load 6 true (.t 2), none⟩,
    ⟨some 25, .mov (.t 6), none⟩,
    ⟨some 26, .un .not (.t 25), none⟩,
    ⟨none, .store 6 (.t 4) (.t 24), none⟩,
    ⟨some 5, .mov (.t 26), none⟩])
  .ret))))⟩ := by kernel_rfl

theorem ir13 : compF Try.prog 13 = some ⟨22, [.c 6 6 true, .t 7],
  (.seq (.ops [⟨some 3, .box (.t 0), none⟩,
    ⟨some 6, .alloc (.agg [(.v (.int .i64 0)), (.v (.int .i64 0)), (.v (.int .u64 0)), (.v (.slice none 0 0)), (.v (.slice none 0 0)), (.v (.slice none 0 0))]), none⟩,
    ⟨some 7, .mov (.c (.v (.int .i64 0))), none⟩])
  (.seq (.seq (.ops [⟨some 9, .load 6 true (.t 3), none⟩,
    ⟨some 10, .mov (.t 1), none⟩,
    ⟨some 11, .mov (.t 2), none⟩,
    ⟨some 12, .call 23 [(.t 9), (.t 10), (.t 11)], none⟩,
    ⟨some 8, .mov (.t 12), none⟩])
  (.seq (.ops [⟨some 13, .mov (.t 8), none⟩,
    ⟨some 14, .bin .neq false (.t 13) (.c (.v (.int .i64 0))), none⟩])
  (.cond (.t 14)
    (.seq (.ops [⟨some 15, .load 6 true (.t 3), none⟩,
      ⟨some 16, .mov (.t 8), none⟩,
      ⟨none, .store 6 (.t 6) (.t 15), none⟩,
      ⟨some 7, .mov (.t 16), none⟩])
    .ret)
    .skip)))
  (.seq (.ops [⟨some 17, .load 6 true (.t 3), none⟩,
    ⟨some 18, .mov (.t 1), none⟩,
    ⟨some 19, .mov (.t 2), none⟩,
    ⟨some 20, .bin .add false (.c (.v (.int .i64 1))) (.t 19), none⟩,
    ⟨some 21, .call 21 [(.t 17), (.t 18), (.t 20)], none⟩,
    ⟨none, .store 6 (.t 6) (.t 21), none⟩,
    ⟨some 7, .mov (.c (.v (.int .i64 0))), none⟩])
  .ret)))⟩ := by kernel_rfl

theorem ir14 : compF Try.prog 14 = some ⟨41, [.c 6 6 true, .t 7],
  (.seq (.ops [⟨some 3, .box (.t 0), none⟩,
    ⟨some 6, .alloc (.agg [(.v (.int .i64 0)), (.v (.int .i64 0)), (.v (.int .u64 0)), (.v (.slice none 0 0)), (.v (.slice none 0 0)), (.v (.slice none 0 0))]), none⟩,
    ⟨some 7, .mov (.c (.v (.int .i64 0))), none⟩])
  (.seq (.seq (.ops [⟨some 9, .mov (.t 2), none⟩,
    ⟨some 10, .bin .lss false (.t 9) (.c (.v (.int .i64 0))), none⟩,
    ⟨some 11, .mov (.t 10), none⟩,
    ⟨some 12, .mov (.t 2), some (11, false)⟩,
    ⟨some 13, .bin .gtr false (.t 12) (.c (.v (.int .i64 1))), some (11, false)⟩,
    ⟨some 14, .pick (.t 11) (.c (.v (.bool true))) (.t 13), none⟩])
  (.cond (.t 14)
    (.seq (.ops [⟨some 15, .load 6 true (.t 3), none⟩,
      ⟨none, .store 6 (.t 6) (.t 15), none⟩,
      ⟨some 7, .mov (.c (.v (.int .i64 1))), none⟩])
    .ret)
    .skip))
  (.seq (.ops [⟨some 16, .load 6 true (.t 3), none⟩,
    ⟨some 17, .mov (.t 1), none⟩,
    ⟨some 18, .call 18 [(.t 16), (.t 17)], none⟩,
    ⟨some 8, .mov (.t 18), none⟩])
  (.seq (.seq (.ops [⟨some 19, .mov (.t 8), none⟩,
    ⟨some 20, .un .not (.t 19), none⟩])
  (.cond (.t 20)
    (.seq (.ops [⟨some 21, .load 6 true (.t 3), none⟩,
      ⟨none, .store 6 (.t 6) (.t 21), none⟩,
      ⟨some 7, .mov (.c (.v (.int .i64 10))), none⟩])
    .ret)
    .skip))
  (.seq (.draw [[⟨some 22, .mov (.t 2), none⟩,
      ⟨some 23, .bin .add false (.t 22) (.c (.v (.int .i64 1))), none⟩,
      ⟨some 24, .mov (.t 2), none⟩,
      ⟨some 25, .bin .add false (.t 24) (.c (.v (.int .i64 1))), none⟩,
      ⟨some 26, .faddr 3 (.t 3), none⟩,
      ⟨some 27, .iaddrA 3 1 (.t 26) (.t 25), none⟩,
      ⟨some 28, .load 1 false (.t 27), none⟩,
      ⟨some 29, .mov (.t 1), none⟩,
      ⟨some 30, .faddr 2 (.t 3), none⟩,
      ⟨some 31, .load 1 false (.t 30), none⟩,
      ⟨some 32, .faddr 1 (.t 3), none⟩,
      ⟨some 33, .load 1 false (.t 32), none⟩,
      ⟨some 34, .faddr 0 (.t 3), none⟩,
      ⟨some 35, .load 1 false (.t 34), none⟩,
      ⟨some 36, .call 20 [(.t 29), (.t 31), (.t 33), (.t 35)], none⟩,
      ⟨some 37, .call 22 [(.t 28), (.t 36)], none⟩,
      ⟨some 38, .faddr 3 (.t 3), none⟩],
    [⟨some 39, .iaddrA 3 1 (.t 38) (.t 23), none⟩],
    [⟨none, .store 1 (.t 39) (.t 37), none⟩]])
  (.seq (.ops [⟨some 40, .load 6 true (.t 3), none⟩,
    ⟨none, .store 6 (.t 6) (.t 40), none⟩,
    ⟨some 7, .mov (.c (.v (.int .i64 0))), none⟩])
  .ret))))))⟩ := by kernel_rfl

theorem ir15 : compF Try.prog 15 = some ⟨21, [.t 6, .t 7],
  (.seq (.ops [⟨some 3, .box (.t 0), none⟩,
    ⟨some 6, .mov (.c (.v (.bool false))), none⟩,
    ⟨some 7, .mov (.c (.v (.int .i64 0))), none⟩])
  (.seq (.seq (.ops [⟨some 9, .load 6 true (.t 3), none⟩,
    ⟨some 10, .mov (.t 1), none⟩,
    ⟨some 11, .mov (.t 2), none⟩,
    ⟨some 12, .call 23 [(.t 9), (.t 10), (.t 11)], none⟩,
    ⟨some 8, .mov (.t 12), none⟩])
  (.seq (.ops [⟨some 13, .mov (.t 8), none⟩,
    ⟨some 14, .bin .neq false (.t 13) (.c (.v (.int .i64 0))), none⟩])
  (.cond (.t 14)
    (.seq (.ops [⟨some 15, .mov (.t 8), none⟩,
      ⟨some 6, .mov (.c (.v (.bool false))), none⟩,
      ⟨some 7, .mov (.t 15), none⟩])
    .ret)
    .skip)))
  (.seq (.ops [⟨some 16, .load 6 true (.t 3), none⟩,
    ⟨some 17, .mov (.t 1), none⟩,
    ⟨some 18, .mov (.t 2), none⟩,
    ⟨some 19, .bin .add false (.c (.v (.int .i64 1))) (.t 18), none⟩,
    ⟨some 20, .call 24 [(.t 16), (.t 17), (.t 19)], none⟩,
    ⟨some 6, .mov (.t 20), none⟩,
    ⟨some 7, .mov (.c (.v (.int .i64 0))), none⟩])
  .ret)))⟩ := by kernel_rfl

theorem ir16 : compF Try.prog 16 = some ⟨34, [.t 6, .t 7],
  (.seq (.ops [⟨some 3, .box (.t 0), none⟩,
    ⟨some 6, .mov (.c (.v (.bool false))), none⟩,
    ⟨some 7, .mov (.c (.v (.int .i64 0))), none⟩])
  (.seq (.seq (.ops [⟨some 9, .mov (.t 2), none⟩,
    ⟨some 10, .bin .lss false (.t 9) (.c (.v (.int .i64 0))), none⟩,
    ⟨some 11, .mov (.t 10), none⟩,
    ⟨some 12, .mov (.t 2), some (11, false)⟩,
    ⟨some 13, .bin .gtr false (.t 12) (.c (.v (.int .i64 1))), some (11, false)⟩,
    ⟨some 14, .pick (.t 11) (.c (.v (.bool true))) (.t 13), none⟩])
  (.cond (.t 14)
    (.seq (.ops [⟨some 6, .mov (.c (.v (.bool false))), none⟩,
      ⟨some 7, .mov (.c (.v (.int .i64 1))), none⟩])
    .ret)
    .skip))
  (.seq (.ops [⟨some 15, .load 6 true (.t 3), none⟩,
    ⟨some 16, .mov (.t 1), none⟩,
    ⟨some 17, .call 18 [(.t 15), (.t 16)], none⟩,
    ⟨some 8, .mov (.t 17), none⟩])
  (.seq (.seq (.ops [⟨some 18, .mov (.t 8), none⟩,
    ⟨some 19, .un .not (.t 18), none⟩])
  (.cond (.t 19)
    (.seq (.ops [⟨some 6, .mov (.c (.v (.bool false))), none⟩,
      ⟨some 7, .mov (.c (.v (.int .i64 10))), none⟩])
    .ret)
    .skip))
  (.seq (.draw [[⟨some 20, .mov (.t 2), none⟩,
      ⟨some 21, .bin .add false (.t 20) (.c (.v (.int .i64 1))), none⟩,
      ⟨some 22, .faddr 3 (.t 3), none⟩,
      ⟨some 23, .iaddrA 3 1 (.t 22) (.t 21), none⟩,
      ⟨some 24, .load 1 false (.t 23), none⟩,
      ⟨some 25, .mov (.t 1), none⟩,
      ⟨some 26, .faddr 2 (.t 3), none⟩,
      ⟨some 27, .load 1 false (.t 26), none⟩,
      ⟨some 28, .faddr 1 (.t 3), none⟩,
      ⟨some 29, .load 1 false (.t 28), none⟩,
      ⟨some 30, .faddr 0 (.t 3), none⟩,
      ⟨some 31, .load 1 false (.t 30), none⟩,
      ⟨some 32, .call 20 [(.t 25), (.t 27), (.t 29), (.t 31)], none⟩],
    [⟨some 33, .call 25 [(.t 24), (.t 32)], none⟩],
    [⟨some 6, .mov (.t 33), none⟩],
    [⟨some 7, .mov (.c (.v (.int .i64 0))), none⟩]])
  .ret)))))⟩ := by kernel_rfl

theorem ir17 : compF Try.prog 17 = some ⟨8, [.t 4],
  (.seq (.ops [⟨some 2, .box (.t 0), none⟩,
    ⟨some 4, .mov (.c (.v (.bool false))), none⟩])
  (.seq (.ops [⟨some 5, .load 6 true (.t 2), none⟩,
    ⟨some 6, .mov (.t 1), none⟩,
    ⟨some 7, .call 24 [(.t 5), (.t 6), (.c (.v (.int .i64 0)))], none⟩,
    ⟨some 4, .mov (.t 7), none⟩])
  .ret))⟩ := by kernel_rfl

theorem ir18 : compF Try.prog 18 = some ⟨17, [.t 4],
  (.seq (.ops [⟨some 2, .box (.t 0), none⟩,
    ⟨some 4, .mov (.c (.v (.bool false))), none⟩])
  (.seq (.draw [[⟨some 5, .faddr 3 (.t 2), none⟩,
      ⟨some 6, .iaddrA 3 1 (.t 5) (.c (.v (.int .i64 0))), none⟩,
      ⟨some 7, .load 1 false (.t 6), none⟩,
      ⟨some 8, .mov (.t 1), none⟩,
      ⟨some 9, .faddr 2 (.t 2), none⟩,
      ⟨some 10, .load 1 false (.t 9), none⟩,
      ⟨some 11, .faddr 1 (.t 2), none⟩,
      ⟨some 12, .load 1 false (.t 11), none⟩,
      ⟨some 13, .faddr 0 (.t 2), none⟩,
      ⟨some 14, .load 1 false (.t 13), none⟩,
      ⟨some 15, .call 20 [(.t 8), (.t 10), (.t 12), (.t 14)], none⟩],
    [⟨some 16, .call 25 [(.t 7), (.t 15)], none⟩],
    [⟨some 4, .mov (.t 16), none⟩]])
  .ret))⟩ := by kernel_rfl

theorem ir19 : compF Try.prog 19 = some ⟨24, [.t 2],
  (.seq (.ops [⟨some 1, .box (.t 0), none⟩,
    ⟨some 2, .mov (.c (.v (.int .i64 0))), none⟩])
  (.seq (.ops [⟨some 3, .mov (.c (.v (.int .i64 0))), none⟩])
  (.seq (.seq (.ops [⟨some 6, .faddr 3 (.t 1), none⟩,
    ⟨some 7, .iaddrA 3 1 (.t 6) (.c (.v (.int .i64 0))), none⟩,
    ⟨some 8, .load 1 false (.t 7), none⟩,
    ⟨some 9, .len false (.t 8), none⟩,
    ⟨some 10, .mov (.c (.v (.int .i64 0))), none⟩])
  (.block 0 (.loop
    (.seq (.ops [⟨some 11, .bin .lss false (.t 10) (.t 9), none⟩])
    (.seq (.cond (.t 11)
      .skip
      (.exit 0))
    (.seq (.block 1 (.seq (.ops [⟨some 12, .iaddr 1 (.t 8) (.t 10), none⟩,
      ⟨some 13, .load 1 false (.t 12), none⟩,
      ⟨some 5, .mov (.t 13), none⟩])
    (.block 2 (.loop
      (.seq (.seq (.ops [⟨some 14, .mov (.t 5), none⟩,
        ⟨some 15, .bin .gtr false (.t 14) (.c (.v (.int .u8 0))), none⟩])
      (.cond (.t 15)
        .skip
        (.exit 2)))
      (.seq (.block 3 (.ops [⟨some 20, .mov (.t 3), none⟩,
        ⟨some 21, .bin .add false (.t 20) (.c (.v (.int .i64 1))), none⟩,
        ⟨some 3, .mov (.t 21), none⟩]))
      (.ops [⟨some 16, .mov (.t 5), none⟩,
        ⟨some 17, .mov (.t 5), none⟩,
        ⟨some 18, .bin .sub false (.t 17) (.c (.v (.int .u8 1))), none⟩,
        ⟨some 19, .bin .and false (.t 16) (.t 18), none⟩,
        ⟨some 5, .mov (.t 19), none⟩])))))))
    (.ops [⟨some 22, .bin .add false (.t 10) (.c (.v (.int .i64 1))), none⟩,
      ⟨some 10, .mov (.t 22), none⟩])))))))
  (.seq (.ops [⟨some 23, .mov (.t 3), none⟩,
    ⟨some 2, .mov (.t 23), none⟩])
  .ret))))⟩ := by kernel_rfl

theorem ir20 : compF Try.prog 20 = some ⟨28, [.t 8],
  (.seq (.ops [⟨some 8, .mov (.c (.v (.slice none 0 0))), none⟩])
  (.seq (.ops [⟨some 9, .mov (.c (.v (.slice none 0 0))), none⟩])
  (.seq (.seq (.ops [⟨some 10, .mov (.c (.v (.int .i64 0))), none⟩])
  (.block 0 (.loop
    (.seq (.seq (.ops [⟨some 11, .mov (.t 10), none⟩,
      ⟨some 12, .mov (.t 2), none⟩,
      ⟨some 13, .bin .lss false (.t 11) (.t 12), none⟩])
    (.cond (.t 13)
      .skip
      (.exit 0)))
    (.seq (.block 1 (.ops [⟨some 16, .mov (.t 9), none⟩,
      ⟨some 17, .mov (.t 0), none⟩,
      ⟨some 18, .mov (.t 1), none⟩,
      ⟨some 19, .mov (.t 10), none⟩,
      ⟨some 20, .conv .u64 (.t 19), none⟩,
      ⟨some 21, .bin .add false (.t 18) (.t 20), none⟩,
      ⟨some 22, .call 27 [(.t 17), (.t 21)], none⟩,
      ⟨some 23, .mov (.t 3), none⟩,
      ⟨some 24, .call 26 [(.t 22), (.t 23)], none⟩,
      ⟨some 25, .bslice 1 [(.v (.int .i64 0))] 1 [(0, 1, (.t 24))], none⟩,
      ⟨some 26, .append 1 8 [(.v (.int .i64 0))] (.t 16) (.t 25), none⟩,
      ⟨some 9, .mov (.t 26), none⟩]))
    (.ops [⟨some 14, .mov (.t 10), none⟩,
      ⟨some 15, .bin .add false (.t 14) (.c (.v (.int .i64 1))), none⟩,
      ⟨some 10, .mov (.t 15), none⟩]))))))
  (.seq (.ops [⟨some 27, .mov (.t 9), none⟩,
    ⟨some 8, .mov (.t 27), none⟩])
  .ret))))⟩ := by kernel_rfl

theorem ir21 : compF Try.prog 21 = some ⟨20, [.c 6 6 true],
  (.seq (.ops [⟨some 3, .box (.t 0), none⟩,
    ⟨some 6, .alloc (.agg [(.v (.int .i64 0)), (.v (.int .i64 0)), (.v (.int .u64 0)), (.v (.slice none 0 0)), (.v (.slice none 0 0)), (.v (.slice none 0 0))]), none⟩])
  (.seq (.ops [⟨some 7, .mov (.t 2), none⟩,
    ⟨some 8, .mov (.t 2), none⟩,
    ⟨some 9, .faddr 3 (.t 3), none⟩,
    ⟨some 10, .iaddrA 3 1 (.t 9) (.t 8), none⟩,
    ⟨some 11, .load 1 false (.t 10), none⟩,
    ⟨some 12, .call 28 [(.t 11)], none⟩,
    ⟨some 13, .faddr 3 (.t 3), none⟩,
    ⟨some 14, .iaddrA 3 1 (.t 13) (.t 7), none⟩,
    ⟨none, .store 1 (.t 14) (.t 12), none⟩])
  (.seq (.ops [⟨some 15, .load 6 true (.t 3), none⟩,
    ⟨some 16, .mov (.t 1), none⟩,
    ⟨some 17, .mov (.t 2), none⟩,
    ⟨some 18, .call 29 [(.t 15), (.t 16), (.t 17), (.c (.fn (.func 30) [] []))], none⟩])
  (.seq (.ops [⟨some 19, .load 6 true (.t 3), none⟩,
    ⟨none, .store 6 (.t 6) (.t 19), none⟩])
  .ret))))⟩ := by kernel_rfl

theorem ir22 : compF Try.prog 22 = some ⟨33, [.t 4],
  (.seq (.ops [⟨some 4, .mov (.c (.v (.slice none 0 0))), none⟩])
  (.seq (.ops [⟨some 8, .bslice 1 [(.v (.int .i64 0))] 0 [], none⟩,
    ⟨some 9, .mov (.t 0), none⟩,
    ⟨some 10, .append 1 8 [(.v (.int .i64 0))] (.t 8) (.t 9), none⟩,
    ⟨some 5, .mov (.t 10), none⟩])
  (.seq (.seq (.ops [⟨some 6, .mov (.c (.v (.int .i64 0))), none⟩])
  (.block 0 (.loop
    (.seq (.seq (.ops [⟨some 11, .mov (.t 6), none⟩,
      ⟨some 12, .mov (.t 1), none⟩,
      ⟨some 13, .len false (.t 12), none⟩,
      ⟨some 14, .bin .lss false (.t 11) (.t 13), none⟩])
    (.cond (.t 14)
      .skip
      (.exit 0)))
    (.seq (.block 1 (.seq (.ops [⟨some 17, .mov (.t 5), none⟩,
      ⟨some 18, .mov (.t 1), none⟩,
      ⟨some 19, .mov (.t 6), none⟩,
      ⟨some 20, .iaddr 1 (.t 18) (.t 19), none⟩,
      ⟨some 21, .load 1 false (.t 20), none⟩,
      ⟨some 22, .call 31 [(.t 17), (.t 21)], none⟩,
      ⟨some 7, .mov (.t 22), none⟩])
    (.seq (.ops [⟨some 23, .mov (.t 7), none⟩,
      ⟨some 24, .un .not (.t 23), none⟩])
    (.cond (.t 24)
      (.ops [⟨some 25, .mov (.t 5), none⟩,
        ⟨some 26, .mov (.t 1), none⟩,
        ⟨some 27, .mov (.t 6), none⟩,
        ⟨some 28, .iaddr 1 (.t 26) (.t 27), none⟩,
        ⟨some 29, .load 1 false (.t 28), none⟩,
        ⟨some 30, .bslice 1 [(.v (.int .i64 0))] 1 [(0, 1, (.t 29))], none⟩,
        ⟨some 31, .append 1 8 [(.v (.int .i64 0))] (.t 25) (.t 30), none⟩,
        ⟨some 5, .mov (.t 31), none⟩])
      .skip))))
    (.ops [⟨some 15, .mov (.t 6), none⟩,
      ⟨some 16, .bin .add false (.t 15) (.c (.v (.int .i64 1))), none⟩,
      ⟨some 6, .mov (.t 16), none⟩]))))))
  (.seq (.ops [⟨some 32, .mov (.t 5), none⟩,
    ⟨some 4, .mov (.t 32), none⟩])
  .ret))))⟩ := by kernel_rfl

theorem ir23 : compF Try.prog 23 = some ⟨19, [.t 6],
  (.seq (.ops [⟨some 3, .box (.t 0), none⟩,
    ⟨some 6, .mov (.c (.v (.int .i64 0))), none⟩])
  (.seq (.block 0 (.seq (.ops [⟨some 8, .mov (.t 2), none⟩,
    ⟨some 9, .bin .lss false (.t 8) (.c (.v (.int .i64 0))), none⟩,
    ⟨some 10, .mov (.t 9), none⟩,
    ⟨some 11, .mov (.t 2), some (10, false)⟩,
    ⟨some 12, .bin .gtr false (.t 11) (.c (.v (.int .i64 1))), some (10, false)⟩,
    ⟨some 13, .pick (.t 10) (.c (.v (.bool true))) (.t 12), none⟩,
    ⟨some 7, .mov (.t 13), none⟩])
  (.cond (.t 7)
    (.seq (.ops [⟨some 6, .mov (.c (.v (.int .i64 1))), none⟩])
    .ret)
    (.seq (.ops [⟨some 15, .load 6 true (.t 3), none⟩,
      ⟨some 16, .mov (.t 1), none⟩,
      ⟨some 17, .call 17 [(.t 15), (.t 16)], none⟩,
      ⟨some 18, .un .not (.t 17), none⟩,
      ⟨some 14, .mov (.t 18), none⟩])
    (.cond (.t 14)
      (.seq (.ops [⟨some 6, .mov (.c (.v (.int .i64 10))), none⟩])
      .ret)
      .skip)))))
  (.seq (.ops [⟨some 6, .mov (.c (.v (.int .i64 0))), none⟩])
  .ret)))⟩ := by kernel_rfl

theorem ir24 : compF Try.prog 24 = some ⟨14, [.t 6],
  (.seq (.ops [⟨some 3, .box (.t 0), none⟩,
    ⟨some 6, .mov (.c (.v (.bool false))), none⟩])
  (.seq (.ops [⟨some 7, .alloc (.v (.bool false)), none⟩,
    ⟨none, .store 1 (.t 7) (.c (.v (.bool true))), none⟩])
  (.seq (.ops [⟨some 8, .load 6 true (.t 3), none⟩,
    ⟨some 9, .mov (.t 1), none⟩,
    ⟨some 10, .mov (.t 2), none⟩,
    ⟨some 11, .mkfn (.func 32) [] [(.t 7)], none⟩,
    ⟨some 12, .call 29 [(.t 8), (.t 9), (.t 10), (.t 11)], none⟩])
  (.seq (.ops [⟨some 13, .load 1 false (.t 7), none⟩,
    ⟨some 6, .mov (.t 13), none⟩])
  .ret))))⟩ := by kernel_rfl

theorem ir25 : compF Try.prog 25 = some ⟨21, [.t 4],
  (.seq (.ops [⟨some 4, .mov (.c (.v (.bool false))), none⟩])
  (.seq (.seq (.ops [⟨some 5, .mov (.c (.v (.int .i64 0))), none⟩])
  (.block 0 (.loop
    (.seq (.seq (.ops [⟨some 7, .mov (.t 5), none⟩,
      ⟨some 8, .mov (.t 1), none⟩,
      ⟨some 9, .len false (.t 8), none⟩,
      ⟨some 10, .bin .lss false (.t 7) (.t 9), none⟩])
    (.cond (.t 10)
      .skip
      (.exit 0)))
    (.seq (.block 1 (.seq (.ops [⟨some 13, .mov (.t 0), none⟩,
      ⟨some 14, .mov (.t 1), none⟩,
      ⟨some 15, .mov (.t 5), none⟩,
      ⟨some 16, .iaddr 1 (.t 14) (.t 15), none⟩,
      ⟨some 17, .load 1 false (.t 16), none⟩,
      ⟨some 18, .call 31 [(.t 13), (.t 17)], none⟩,
      ⟨some 6, .mov (.t 18), none⟩])
    (.seq (.ops [⟨some 19, .mov (.t 6), none⟩,
      ⟨some 20, .un .not (.t 19), none⟩])
    (.cond (.t 20)
      (.seq (.ops [⟨some 4, .mov (.c (.v (.bool false))), none⟩])
      .ret)
      .skip))))
    (.ops [⟨some 11, .mov (.t 5), none⟩,
      ⟨some 12, .bin .add false (.t 11) (.c (.v (.int .i64 1))), none⟩,
      ⟨some 5, .mov (.t 12), none⟩]))))))
  (.seq (.ops [⟨some 4, .mov (.c (.v (.bool true))), none⟩])
  .ret)))⟩ := by kernel_rfl

theorem ir26 : compF Try.prog 26 = some ⟨12, [.t 4],
  (.seq (.ops [⟨some 4, .mov (.c (.v (.int .i64 0))), none⟩])
  (.seq (.seq (.ops [⟨some 5, .mov (.t 1), none⟩,
    ⟨some 6, .bin .lss false (.t 5) (.c (.v (.int .i64 1))), none⟩])
  (.cond (.t 6)
    (.seq (.ops [⟨some 4, .mov (.c (.v (.int .i64 0))), none⟩])
    .ret)
    .skip))
  (.seq (.ops [⟨some 7, .mov (.t 0), none⟩,
    ⟨some 8, .mov (.t 1), none⟩,
    ⟨some 9, .conv .u64 (.t 8), none⟩,
    ⟨some 10, .bin .rem false (.t 7) (.t 9), none⟩,
    ⟨some 11, .conv .i64 (.t 10), none⟩,
    ⟨some 4, .mov (.t 11), none⟩])
  .ret)))⟩ := by kernel_rfl

theorem ir27 : compF Try.prog 27 = some ⟨34, [.t 4],
  (.seq (.ops [⟨some 4, .mov (.c (.v (.int .u64 0))), none⟩])
  (.seq (.ops [⟨some 7, .mov (.t 1), none⟩,
    ⟨some 8, .bin .xor false (.t 7) (.c (.v (.int .u64 11400714819323198485))), none⟩,
    ⟨some 5, .mov (.t 8), none⟩])
  (.seq (.seq (.ops [⟨some 6, .mov (.c (.v (.int .i64 0))), none⟩])
  (.block 0 (.loop
    (.seq (.seq (.ops [⟨some 9, .mov (.t 6), none⟩,
      ⟨some 10, .mov (.t 0), none⟩,
      ⟨some 11, .len false (.t 10), none⟩,
      ⟨some 12, .bin .lss false (.t 9) (.t 11), none⟩])
    (.cond (.t 12)
      .skip
      (.exit 0)))
    (.seq (.block 1 (.seq (.ops [⟨some 15, .mov (.t 5), none⟩,
      ⟨some 16, .mov (.t 0), none⟩,
      ⟨some 17, .mov (.t 6), none⟩,
      ⟨some 18, .iaddr 1 (.t 16) (.t 17), none⟩,
      ⟨some 19, .load 1 false (.t 18), none⟩,
      ⟨some 20, .conv .u64 (.t 19), none⟩,
      ⟨some 21, .bin .xor false (.t 15) (.t 20), none⟩,
      ⟨some 5, .mov (.t 21), none⟩])
    (.ops [⟨some 22, .mov (.t 5), none⟩,
      ⟨some 23, .bin .mul false (.t 22) (.c (.v (.int .u64 1099511628211))), none⟩,
      ⟨some 5, .mov (.t 23), none⟩])))
    (.ops [⟨some 13, .mov (.t 6), none⟩,
      ⟨some 14, .bin .add false (.t 13) (.c (.v (.int .i64 1))), none⟩,
      ⟨some 6, .mov (.t 14), none⟩]))))))
  (.seq (.ops [⟨some 24, .mov (.t 5), none⟩,
    ⟨some 25, .mov (.t 5), none⟩,
    ⟨some 26, .bin .quo false (.t 25) (.c (.v (.int .u64 536870912))), none⟩,
    ⟨some 27, .bin .xor false (.t 24) (.t 26), none⟩,
    ⟨some 5, .mov (.t 27), none⟩])
  (.seq (.ops [⟨some 28, .mov (.t 5), none⟩,
    ⟨some 29, .bin .mul false (.t 28) (.c (.v (.int .u64 13787848793156543929))), none⟩,
    ⟨some 5, .mov (.t 29), none⟩])
  (.seq (.ops [⟨some 30, .mov (.t 5), none⟩,
    ⟨some 31, .mov (.t 5), none⟩,
    ⟨some 32, .bin .quo false (.t 31) (.c (.v (.int .u64 4294967296))), none⟩,
    ⟨some 33, .bin .xor false (.t 30) (.t 32), none⟩,
    ⟨some 4, .mov (.t 33), none⟩])
  .ret))))))⟩ := by kernel_rfl

theorem ir28 : compF Try.prog 28 = some ⟨8, [.t 2],
  (.seq (.ops [⟨some 2, .mov (.c (.v (.slice none 0 0))), none⟩])
  (.seq (.seq (.ops [⟨some 3, .mov (.t 0), none⟩,
    ⟨some 4, .isnil false (.t 3), none⟩])
  (.cond (.t 4)
    (.seq (.ops [⟨some 2, .mov (.c (.v (.slice none 0 0))), none⟩])
    .ret)
    .skip))
  (.seq (.ops [⟨some 5, .bslice 1 [(.v (.int .u8 0))] 0 [], none⟩,
    ⟨some 6, .mov (.t 0), none⟩,
    ⟨some 7, .append 1 1 [(.v (.int .u8 0))] (.t 5) (.t 6), none⟩,
    ⟨some 2, .mov (.t 7), none⟩])
  .ret)))⟩ := by kernel_rfl

theorem ir29 : compF Try.prog 29 = some ⟨36, [],
  (.seq (.ops [⟨some 4, .box (.t 0), none⟩])
  (.seq (.ops [⟨some 10, .mov (.t 1), none⟩,
    ⟨some 11, .faddr 2 (.t 4), none⟩,
    ⟨some 12, .load 1 false (.t 11), none⟩,
    ⟨some 13, .faddr 1 (.t 4), none⟩,
    ⟨some 14, .load 1 false (.t 13), none⟩,
    ⟨some 15, .faddr 0 (.t 4), none⟩,
    ⟨some 16, .load 1 false (.t 15), none⟩,
    ⟨some 17, .call 33 [(.t 10), (.t 12), (.t 14), (.t 16)], none⟩,
    ⟨some 18, .len false (.t 17), none⟩,
    ⟨some 19, .mov (.c (.v (.int .i64 0))), none⟩])
  (.block 0 (.loop
    (.seq (.ops [⟨some 20, .bin .lss false (.t 19) (.t 18), none⟩])
    (.seq (.cond (.t 20)
      .skip
      (.exit 0))
    (.seq (.block 1 (.seq (.ops [⟨some 21, .iaddr 1 (.t 17) (.t 19), none⟩,
      ⟨some 22, .load 1 false (.t 21), none⟩,
      ⟨some 9, .mov (.t 22), none⟩])
    (.draw [[⟨some 23, .mov (.t 3), none⟩,
        ⟨some 24, .mov (.t 2), none⟩,
        ⟨some 25, .faddr 3 (.t 4), none⟩,
        ⟨some 26, .iaddrA 3 1 (.t 25) (.t 24), none⟩,
        ⟨some 27, .load 1 false (.t 26), none⟩,
        ⟨some 28, .mov (.t 9), none⟩,
        ⟨some 29, .bin .quo false (.t 28) (.c (.v (.int .i64 8))), none⟩,
        ⟨some 30, .iaddr 1 (.t 27) (.t 29), none⟩,
        ⟨some 31, .mov (.t 9), none⟩,
        ⟨some 32, .bin .rem false (.t 31) (.c (.v (.int .i64 8))), none⟩,
        ⟨some 33, .bin .shl false (.c (.v (.int .u8 1))) (.t 32), none⟩],
      [⟨some 34, .calld (.t 23) [(.t 30), (.t 33)], none⟩]])))
    (.ops [⟨some 35, .bin .add false (.t 19) (.c (.v (.int .i64 1))), none⟩,
      ⟨some 19, .mov (.t 35), none⟩]))))))))⟩ := by kernel_rfl

theorem ir30 : compF Try.prog 30 = some ⟨10, [],
  (.ops [⟨some 4, .mov (.t 0), none⟩,
    ⟨some 5, .nilchk (.t 4), none⟩,
    ⟨some 6, .load 1 false (.t 5), none⟩,
    ⟨some 7, .mov (.t 1), none⟩,
    ⟨some 8, .bin .or false (.t 6) (.t 7), none⟩,
    ⟨some 9, .nilchk (.t 4), none⟩,
    ⟨none, .store 1 (.t 9) (.t 8), none⟩])⟩ := by kernel_rfl

theorem ir31 : compF Try.prog 31 = some ⟨18, [.t 4],
  (.seq (.ops [⟨some 4, .mov (.c (.v (.bool false))), none⟩])
  (.seq (.seq (.ops [⟨some 5, .mov (.c (.v (.int .i64 0))), none⟩])
  (.block 0 (.loop
    (.seq (.seq (.ops [⟨some 6, .mov (.t 5), none⟩,
      ⟨some 7, .mov (.t 0), none⟩,
      ⟨some 8, .len false (.t 7), none⟩,
      ⟨some 9, .bin .lss false (.t 6) (.t 8), none⟩])
    (.cond (.t 9)
      .skip
      (.exit 0)))
    (.seq (.block 1 (.seq (.ops [⟨some 12, .mov (.t 0), none⟩,
      ⟨some 13, .mov (.t 5), none⟩,
      ⟨some 14, .iaddr 1 (.t 12) (.t 13), none⟩,
      ⟨some 15, .load 1 false (.t 14), none⟩,
      ⟨some 16, .mov (.t 1), none⟩,
      ⟨some 17, .bin .eql false (.t 15) (.t 16), none⟩])
    (.cond (.t 17)
      (.seq (.ops [⟨some 4, .mov (.c (.v (.bool true))), none⟩])
      .ret)
      .skip)))
    (.ops [⟨some 10, .mov (.t 5), none⟩,
      ⟨some 11, .bin .add false (.t 10) (.c (.v (.int .i64 1))), none⟩,
      ⟨some 5, .mov (.t 11), none⟩]))))))
  (.seq (.ops [⟨some 4, .mov (.c (.v (.bool false))), none⟩])
  .ret)))⟩ := by kernel_rfl

theorem ir32 : compF Try.prog 32 = some ⟨14, [],
  (.ops [⟨some 5, .load 1 false (.t 2), none⟩,
    ⟨some 6, .mov (.t 5), none⟩,
    ⟨some 7, .mov (.t 0), some (6, true)⟩,
    ⟨some 8, .nilchk (.t 7), some (6, true)⟩,
    ⟨some 9, .load 1 false (.t 8), some (6, true)⟩,
    ⟨some 10, .mov (.t 1), some (6, true)⟩,
    ⟨some 11, .bin .and false (.t 9) (.t 10), some (6, true)⟩,
    ⟨some 12, .bin .neq false (.t 11) (.c (.v (.int .u8 0))), some (6, true)⟩,
    ⟨some 13, .pick (.t 6) (.t 12) (.c (.v (.bool false))), none⟩,
    ⟨none, .store 1 (.t 2) (.t 13), none⟩])⟩ := by kernel_rfl

theorem ir33 : compF Try.prog 33 = some ⟨29, [.t 8],
  (.seq (.ops [⟨some 8, .mov (.c (.v (.slice none 0 0))), none⟩])
  (.seq (.ops [⟨some 9, .mov (.c (.v (.slice none 0 0))), none⟩])
  (.seq (.seq (.ops [⟨some 11, .mov (.t 2), none⟩,
    ⟨some 12, .mm true (.t 11) [(.c (.v (.int .i64 0)))], none⟩,
    ⟨some 13, .mov (.c (.v (.int .i64 0))), none⟩])
  (.block 0 (.loop
    (.seq (.ops [⟨some 14, .bin .lss false (.t 13) (.t 12), none⟩])
    (.seq (.cond (.t 14)
      .skip
      (.exit 0))
    (.seq (.block 1 (.seq (.ops [⟨some 15, .mov (.t 13), none⟩,
      ⟨some 10, .mov (.t 15), none⟩])
    (.ops [⟨some 16, .mov (.t 9), none⟩,
      ⟨some 17, .mov (.t 0), none⟩,
      ⟨some 18, .mov (.t 1), none⟩,
      ⟨some 19, .mov (.t 10), none⟩,
      ⟨some 20, .conv .u64 (.t 19), none⟩,
      ⟨some 21, .bin .add false (.t 18) (.t 20), none⟩,
      ⟨some 22, .call 35 [(.t 17), (.t 21)], none⟩,
      ⟨some 23, .mov (.t 3), none⟩,
      ⟨some 24, .call 34 [(.t 22), (.t 23)], none⟩,
      ⟨some 25, .bslice 1 [(.v (.int .i64 0))] 1 [(0, 1, (.t 24))], none⟩,
      ⟨some 26, .append 1 8 [(.v (.int .i64 0))] (.t 16) (.t 25), none⟩,
      ⟨some 9, .mov (.t 26), none⟩])))
    (.ops [⟨some 27, .bin .add false (.t 13) (.c (.v (.int .i64 1))), none⟩,
      ⟨some 13, .mov (.t 27), none⟩])))))))
  (.seq (.ops [⟨some 28, .mov (.t 9), none⟩,
    ⟨some 8, .mov (.t 28), none⟩])
  .ret))))⟩ := by kernel_rfl

theorem ir34 : compF Try.prog 34 = some ⟨12, [.t 4],
  (.seq (.ops [⟨some 4, .mov (.c (.v (.int .i64 0))), none⟩])
  (.seq (.seq (.ops [⟨some 5, .mov (.t 1), none⟩,
    ⟨some 6, .bin .lss false (.t 5) (.c (.v (.int .i64 1))), none⟩])
  (.cond (.t 6)
    (.seq (.ops [⟨some 4, .mov (.c (.v (.int .i64 0))), none⟩])
    .ret)
    .skip))
  (.seq (.ops [⟨some 7, .mov (.t 0), none⟩,
    ⟨some 8, .mov (.t 1), none⟩,
    ⟨some 9, .conv .u64 (.t 8), none⟩,
    ⟨some 10, .bin .rem false (.t 7) (.t 9), none⟩,
    ⟨some 11, .conv .i64 (.t 10), none⟩,
    ⟨some 4, .mov (.t 11), none⟩])
  .ret)))⟩ := by kernel_rfl

theorem ir35 : compF Try.prog 35 = some ⟨37, [.t 4],
  (.seq (.ops [⟨some 4, .mov (.c (.v (.int .u64 0))), none⟩])
  (.seq (.ops [⟨some 11, .mov (.t 1), none⟩,
    ⟨some 12, .bin .xor false (.t 11) (.c (.v (.int .u64 11400714819323198485))), none⟩,
    ⟨some 5, .alloc (.v (.int .u64 0)), none⟩,
    ⟨none, .store 1 (.t 5) (.t 12), none⟩])
  (.seq (.seq (.ops [⟨some 13, .mov (.t 0), none⟩,
    ⟨some 14, .len false (.t 13), none⟩,
    ⟨some 15, .mov (.c (.v (.int .i64 0))), none⟩])
  (.block 0 (.loop
    (.seq (.ops [⟨some 16, .bin .lss false (.t 15) (.t 14), none⟩])
    (.seq (.cond (.t 16)
      .skip
      (.exit 0))
    (.seq (.block 1 (.seq (.ops [⟨some 17, .iaddr 1 (.t 13) (.t 15), none⟩,
      ⟨some 18, .load 1 false (.t 17), none⟩,
      ⟨some 7, .mov (.t 18), none⟩])
    (.ops [⟨some 19, .load 1 false (.t 5), none⟩,
      ⟨some 20, .mov (.t 7), none⟩,
      ⟨some 21, .conv .u64 (.t 20), none⟩,
      ⟨some 22, .bin .xor false (.t 19) (.t 21), none⟩,
      ⟨some 23, .bin .mul false (.t 22) (.c (.v (.int .u64 1099511628211))), none⟩,
      ⟨none, .store 1 (.t 5) (.t 23), none⟩])))
    (.ops [⟨some 24, .bin .add false (.t 15) (.c (.v (.int .i64 1))), none⟩,
      ⟨some 15, .mov (.t 24), none⟩])))))))
  (.seq (.ops [⟨some 25, .mkfn (.func 36) [] [(.t 5)], none⟩,
    ⟨some 26, .mkfn (.func 37) [] [(.t 5)], none⟩,
    ⟨some 27, .mkfn (.func 38) [] [(.t 5)], none⟩,
    ⟨some 28, .build [(.v .nilFunc), (.v .nilFunc), (.v .nilFunc)] [(0, 1, (.t 25)), (1, 1, (.t 26)), (2, 1, (.t 27))], none⟩,
    ⟨some 8, .alloc (.agg [(.v .nilFunc), (.v .nilFunc), (.v .nilFunc)]), none⟩,
    ⟨none, .store 3 (.t 8) (.t 28), none⟩])
  (.seq (.seq (.ops [⟨some 29, .load 3 true (.t 8), none⟩,
    ⟨some 30, .mov (.c (.v (.int .i64 0))), none⟩])
  (.block 2 (.loop
    (.seq (.ops [⟨some 31, .bin .lss false (.t 30) (.c (.v (.int .i64 3))), none⟩])
    (.seq (.cond (.t 31)
      .skip
      (.exit 2))
    (.seq (.block 3 (.seq (.ops [⟨some 32, .idx 3 1 false (.t 29) (.t 30), none⟩,
      ⟨some 10, .mov (.t 32), none⟩])
    (.ops [⟨some 33, .mov (.t 10), none⟩,
      ⟨some 34, .calld (.t 33) [], none⟩])))
    (.ops [⟨some 35, .bin .add false (.t 30) (.c (.v (.int .i64 1))), none⟩,
      ⟨some 30, .mov (.t 35), none⟩])))))))
  (.seq (.ops [⟨some 36, .load 1 false (.t 5), none⟩,
    ⟨some 4, .mov (.t 36), none⟩])
  .ret))))))⟩ := by kernel_rfl

theorem ir36 : compF Try.prog 36 = some ⟨5, [],
  (.ops [⟨some 1, .load 1 false (.t 0), none⟩,
    ⟨some 2, .load 1 false (.t 0), none⟩,
    ⟨some 3, .bin .shr false (.t 2) (.c (.v (.int .u64 29))), none⟩,
    ⟨some 4, .bin .xor false (.t 1) (.t 3), none⟩,
    ⟨none, .store 1 (.t 0) (.t 4), none⟩])⟩ := by kernel_rfl

theorem ir37 : compF Try.prog 37 = some ⟨3, [],
  (.ops [⟨some 1, .load 1 false (.t 0), none⟩,
    ⟨some 2, .bin .mul false (.t 1) (.c (.v (.int .u64 13787848793156543929))), none⟩,
    ⟨none, .store 1 (.t 0) (.t 2), none⟩])⟩ := by kernel_rfl

theorem ir38 : compF Try.prog 38 = some ⟨5, [],
  (.ops [⟨some 1, .load 1 false (.t 0), none⟩,
    ⟨some 2, .load 1 false (.t 0), none⟩,
    ⟨some 3, .bin .shr false (.t 2) (.c (.v (.int .u64 32))), none⟩,
    ⟨some 4, .bin .xor false (.t 1) (.t 3), none⟩,
    ⟨none, .store 1 (.t 0) (.t 4), none⟩])⟩ := by kernel_rfl

end Go.Proofs.Ytejjmfladieipaa
