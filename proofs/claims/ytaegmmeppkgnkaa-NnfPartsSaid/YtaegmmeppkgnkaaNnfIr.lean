/- The functions of the program in the small language. -/
import Derived.Test.YtaegmmeppkgnkaaLgNX
import Derived.Test.YtaegmmeppkgnkaaChecked
namespace Go.Proofs.Ytaegmmeppkgnkaa
open Go Lg

theorem ir3 : compF Try.prog 3 = some ⟨79, [.t 2],
  (.seq (.ops [⟨some 1, .box (.t 0), none⟩,
    ⟨some 2, .mov (.c (.v (.bool false))), none⟩])
  (.seq (.ops [⟨some 12, .call 7 [], none⟩,
    ⟨some 3, .mov (.t 12), none⟩])
  (.seq (.seq (.ops [⟨some 13, .load 4 true (.t 1), none⟩,
    ⟨some 14, .call 8 [(.t 13), (.c (.v (.int .i64 3)))], none⟩,
    ⟨some 15, .un .not (.t 14), none⟩])
  (.cond (.t 15)
    (.seq (.ops [⟨some 16, .mov (.t 3), none⟩,
      ⟨some 2, .mov (.t 16), none⟩])
    .ret)
    .skip))
  (.seq (.ops [⟨some 18, .load 4 true (.t 1), none⟩,
    ⟨some 19, .call 9 [(.t 18)], none⟩,
    ⟨some 17, .mov (.t 19), none⟩,
    ⟨some 20, .extract (.t 17) 0, none⟩,
    ⟨some 21, .extract (.t 17) 1, none⟩,
    ⟨some 4, .alloc (.agg [(.v (.int .i64 0)), (.v (.int .i64 0)), (.v (.int .i64 0)), (.v (.slice none 0 0))]), none⟩,
    ⟨none, .store 4 (.t 4) (.t 20), none⟩,
    ⟨some 5, .mov (.t 21), none⟩])
  (.seq (.ops [⟨some 23, .load 4 true (.t 1), none⟩,
    ⟨some 24, .call 10 [(.t 23)], none⟩,
    ⟨some 22, .mov (.t 24), none⟩,
    ⟨some 25, .extract (.t 22) 0, none⟩,
    ⟨some 26, .extract (.t 22) 1, none⟩,
    ⟨some 6, .alloc (.agg [(.v (.int .i64 0)), (.v (.int .i64 0)), (.v (.int .i64 0)), (.v (.slice none 0 0))]), none⟩,
    ⟨none, .store 4 (.t 6) (.t 25), none⟩,
    ⟨some 7, .mov (.t 26), none⟩])
  (.seq (.ops [⟨some 28, .load 4 true (.t 1), none⟩,
    ⟨some 29, .call 11 [(.t 28)], none⟩,
    ⟨some 27, .mov (.t 29), none⟩,
    ⟨some 30, .extract (.t 27) 0, none⟩,
    ⟨some 31, .extract (.t 27) 1, none⟩,
    ⟨some 8, .alloc (.agg [(.v (.int .i64 0)), (.v (.int .i64 0)), (.v (.int .i64 0)), (.v (.slice none 0 0))]), none⟩,
    ⟨none, .store 4 (.t 8) (.t 30), none⟩,
    ⟨some 9, .mov (.t 31), none⟩])
  (.seq (.ops [⟨some 33, .load 4 true (.t 1), none⟩,
    ⟨some 34, .call 12 [(.t 33)], none⟩,
    ⟨some 32, .mov (.t 34), none⟩,
    ⟨some 35, .extract (.t 32) 0, none⟩,
    ⟨some 36, .extract (.t 32) 1, none⟩,
    ⟨some 10, .alloc (.agg [(.v (.int .i64 0)), (.v (.int .i64 0)), (.v (.int .i64 0)), (.v (.slice none 0 0))]), none⟩,
    ⟨none, .store 4 (.t 10) (.t 35), none⟩,
    ⟨some 11, .mov (.t 36), none⟩])
  (.seq (.draw [[⟨some 37, .mov (.t 3), none⟩],
    [⟨some 38, .mov (.t 37), none⟩],
    [⟨some 39, .load 4 true (.t 1), some (38, true)⟩,
      ⟨some 40, .call 13 [(.t 39)], some (38, true)⟩,
      ⟨some 41, .load 4 true (.t 1), some (38, true)⟩],
    [⟨some 42, .call 14 [(.t 41)], some (38, true)⟩],
    [⟨some 43, .bin .eql true (.t 40) (.t 42), some (38, true)⟩],
    [⟨some 44, .pick (.t 38) (.t 43) (.c (.v (.bool false))), none⟩],
    [⟨some 45, .mov (.t 44), none⟩],
    [⟨some 46, .load 4 true (.t 1), some (45, true)⟩,
      ⟨some 47, .call 15 [(.t 46)], some (45, true)⟩,
      ⟨some 48, .load 4 true (.t 1), some (45, true)⟩],
    [⟨some 49, .call 16 [(.t 48)], some (45, true)⟩],
    [⟨some 50, .bin .eql false (.t 47) (.t 49), some (45, true)⟩],
    [⟨some 51, .pick (.t 45) (.t 50) (.c (.v (.bool false))), none⟩],
    [⟨some 52, .mov (.t 51), none⟩],
    [⟨some 53, .load 4 true (.t 1), some (52, true)⟩,
      ⟨some 54, .call 17 [(.t 53)], some (52, true)⟩,
      ⟨some 55, .load 4 true (.t 1), some (52, true)⟩],
    [⟨some 56, .call 18 [(.t 55)], some (52, true)⟩],
    [⟨some 57, .bin .eql true (.t 54) (.t 56), some (52, true)⟩],
    [⟨some 58, .pick (.t 52) (.t 57) (.c (.v (.bool false))), none⟩],
    [⟨some 59, .mov (.t 58), none⟩],
    [⟨some 60, .load 4 true (.t 4), some (59, true)⟩,
      ⟨some 61, .load 4 true (.t 6), some (59, true)⟩],
    [⟨some 62, .call 19 [(.t 60), (.t 61)], some (59, true)⟩],
    [⟨some 63, .pick (.t 59) (.t 62) (.c (.v (.bool false))), none⟩],
    [⟨some 64, .mov (.t 63), none⟩],
    [⟨some 65, .mov (.t 5), some (64, true)⟩,
      ⟨some 66, .mov (.t 7), some (64, true)⟩],
    [⟨some 67, .bin .eql false (.t 65) (.t 66), some (64, true)⟩],
    [⟨some 68, .pick (.t 64) (.t 67) (.c (.v (.bool false))), none⟩],
    [⟨some 69, .mov (.t 68), none⟩],
    [⟨some 70, .load 4 true (.t 8), some (69, true)⟩,
      ⟨some 71, .load 4 true (.t 10), some (69, true)⟩],
    [⟨some 72, .call 19 [(.t 70), (.t 71)], some (69, true)⟩],
    [⟨some 73, .pick (.t 69) (.t 72) (.c (.v (.bool false))), none⟩],
    [⟨some 74, .mov (.t 73), none⟩],
    [⟨some 75, .mov (.t 9), some (74, true)⟩,
      ⟨some 76, .mov (.t 11), some (74, true)⟩],
    [⟨some 77, .bin .eql false (.t 75) (.t 76), some (74, true)⟩],
    [⟨some 78, .pick (.t 74) (.t 77) (.c (.v (.bool false))), none⟩],
    [⟨some 2, .mov (.t 78), none⟩]])
  .ret))))))))⟩ := by kernel_rfl

theorem ir4 : compF Try.prog 4 = some ⟨96, [.t 2],
  (.seq (.ops [⟨some 1, .box (.t 0), none⟩,
    ⟨some 2, .mov (.c (.v (.bool false))), none⟩])
  (.seq (.ops [⟨some 10, .call 7 [], none⟩,
    ⟨some 3, .mov (.t 10), none⟩])
  (.seq (.seq (.ops [⟨some 11, .load 4 true (.t 1), none⟩,
    ⟨some 12, .call 8 [(.t 11), (.c (.v (.int .i64 3)))], none⟩,
    ⟨some 13, .un .not (.t 12), none⟩])
  (.cond (.t 13)
    (.seq (.ops [⟨some 14, .mov (.t 3), none⟩,
      ⟨some 2, .mov (.t 14), none⟩])
    .ret)
    .skip))
  (.seq (.ops [⟨some 16, .load 4 true (.t 1), none⟩,
    ⟨some 17, .call 9 [(.t 16)], none⟩,
    ⟨some 15, .mov (.t 17), none⟩,
    ⟨some 18, .extract (.t 15) 0, none⟩,
    ⟨some 19, .extract (.t 15) 1, none⟩,
    ⟨some 4, .alloc (.agg [(.v (.int .i64 0)), (.v (.int .i64 0)), (.v (.int .i64 0)), (.v (.slice none 0 0))]), none⟩,
    ⟨none, .store 4 (.t 4) (.t 18), none⟩,
    ⟨some 5, .mov (.t 19), none⟩])
  (.seq (.ops [⟨some 21, .load 4 true (.t 1), none⟩,
    ⟨some 22, .call 11 [(.t 21)], none⟩,
    ⟨some 20, .mov (.t 22), none⟩,
    ⟨some 23, .extract (.t 20) 0, none⟩,
    ⟨some 24, .extract (.t 20) 1, none⟩,
    ⟨some 6, .alloc (.agg [(.v (.int .i64 0)), (.v (.int .i64 0)), (.v (.int .i64 0)), (.v (.slice none 0 0))]), none⟩,
    ⟨none, .store 4 (.t 6) (.t 23), none⟩,
    ⟨some 7, .mov (.t 24), none⟩])
  (.seq (.seq (.ops [⟨some 25, .mov (.t 5), none⟩,
    ⟨some 26, .mov (.t 7), none⟩,
    ⟨some 27, .bin .neq false (.t 25) (.t 26), none⟩,
    ⟨some 28, .mov (.t 27), none⟩,
    ⟨some 29, .mov (.t 5), some (28, false)⟩,
    ⟨some 30, .bin .neq false (.t 29) (.c (.v (.int .i64 0))), some (28, false)⟩,
    ⟨some 31, .mov (.t 30), some (28, false)⟩,
    ⟨some 32, .mov (.t 5), some (31, true)⟩,
    ⟨some 33, .bin .neq false (.t 32) (.c (.v (.int .i64 9))), some (31, true)⟩,
    ⟨some 34, .pick (.t 31) (.t 33) (.c (.v (.bool false))), some (28, false)⟩,
    ⟨some 35, .pick (.t 28) (.c (.v (.bool true))) (.t 34), none⟩])
  (.cond (.t 35)
    (.seq (.ops [⟨some 2, .mov (.c (.v (.bool false))), none⟩])
    .ret)
    .skip))
  (.seq (.seq (.ops [⟨some 36, .mov (.t 5), none⟩,
    ⟨some 37, .bin .neq false (.t 36) (.c (.v (.int .i64 0))), none⟩])
  (.cond (.t 37)
    (.seq (.ops [⟨some 38, .mov (.t 3), none⟩,
      ⟨some 39, .mov (.t 38), none⟩,
      ⟨some 40, .faddr 3 (.t 4), some (39, true)⟩,
      ⟨some 41, .load 1 false (.t 40), some (39, true)⟩,
      ⟨some 42, .len false (.t 41), some (39, true)⟩,
      ⟨some 43, .bin .eql false (.t 42) (.c (.v (.int .i64 0))), some (39, true)⟩,
      ⟨some 44, .pick (.t 39) (.t 43) (.c (.v (.bool false))), none⟩,
      ⟨some 45, .mov (.t 44), none⟩,
      ⟨some 46, .faddr 3 (.t 6), some (45, true)⟩,
      ⟨some 47, .load 1 false (.t 46), some (45, true)⟩,
      ⟨some 48, .len false (.t 47), some (45, true)⟩,
      ⟨some 49, .bin .eql false (.t 48) (.c (.v (.int .i64 0))), some (45, true)⟩,
      ⟨some 50, .pick (.t 45) (.t 49) (.c (.v (.bool false))), none⟩,
      ⟨some 2, .mov (.t 50), none⟩])
    .ret)
    .skip))
  (.seq (.seq (.draw [[⟨some 51, .load 4 true (.t 4), none⟩],
    [⟨some 52, .call 17 [(.t 51)], none⟩],
    [⟨some 53, .un .not (.t 52), none⟩],
    [⟨some 54, .mov (.t 53), none⟩],
    [⟨some 55, .load 4 true (.t 6), some (54, false)⟩],
    [⟨some 56, .call 17 [(.t 55)], some (54, false)⟩],
    [⟨some 57, .un .not (.t 56), some (54, false)⟩],
    [⟨some 58, .pick (.t 54) (.c (.v (.bool true))) (.t 57), none⟩],
    [⟨some 59, .mov (.t 58), none⟩],
    [⟨some 60, .load 4 true (.t 4), some (59, false)⟩,
      ⟨some 61, .call 15 [(.t 60)], some (59, false)⟩,
      ⟨some 62, .load 4 true (.t 6), some (59, false)⟩],
    [⟨some 63, .call 15 [(.t 62)], some (59, false)⟩],
    [⟨some 64, .bin .neq false (.t 61) (.t 63), some (59, false)⟩],
    [⟨some 65, .pick (.t 59) (.c (.v (.bool true))) (.t 64), none⟩],
    [⟨some 66, .mov (.t 65), none⟩],
    [⟨some 67, .load 4 true (.t 4), some (66, false)⟩],
    [⟨some 68, .call 15 [(.t 67)], some (66, false)⟩],
    [⟨some 69, .bin .gtr false (.t 68) (.c (.v (.int .i64 24))), some (66, false)⟩],
    [⟨some 70, .pick (.t 66) (.c (.v (.bool true))) (.t 69), none⟩],
    [⟨some 71, .mov (.t 70), none⟩],
    [⟨some 72, .load 4 true (.t 4), some (71, false)⟩],
    [⟨some 73, .call 20 [(.t 72), (.c (.v (.int .i64 3)))], some (71, false)⟩],
    [⟨some 74, .un .not (.t 73), some (71, false)⟩],
    [⟨some 75, .pick (.t 71) (.c (.v (.bool true))) (.t 74), none⟩],
    [⟨some 76, .mov (.t 75), none⟩],
    [⟨some 77, .load 4 true (.t 6), some (76, false)⟩],
    [⟨some 78, .call 20 [(.t 77), (.c (.v (.int .i64 3)))], some (76, false)⟩],
    [⟨some 79, .un .not (.t 78), some (76, false)⟩],
    [⟨some 80, .pick (.t 76) (.c (.v (.bool true))) (.t 79), none⟩]])
  (.cond (.t 80)
    (.seq (.ops [⟨some 2, .mov (.c (.v (.bool false))), none⟩])
    .ret)
    .skip))
  (.seq (.ops [⟨some 82, .load 4 true (.t 4), none⟩,
    ⟨some 83, .call 9 [(.t 82)], none⟩,
    ⟨some 81, .mov (.t 83), none⟩,
    ⟨some 84, .extract (.t 81) 0, none⟩,
    ⟨some 85, .extract (.t 81) 1, none⟩,
    ⟨some 8, .alloc (.agg [(.v (.int .i64 0)), (.v (.int .i64 0)), (.v (.int .i64 0)), (.v (.slice none 0 0))]), none⟩,
    ⟨none, .store 4 (.t 8) (.t 84), none⟩,
    ⟨some 9, .mov (.t 85), none⟩])
  (.seq (.ops [⟨some 86, .mov (.t 3), none⟩,
    ⟨some 87, .mov (.t 86), none⟩,
    ⟨some 88, .mov (.t 9), some (87, true)⟩,
    ⟨some 89, .bin .eql false (.t 88) (.c (.v (.int .i64 0))), some (87, true)⟩,
    ⟨some 90, .pick (.t 87) (.t 89) (.c (.v (.bool false))), none⟩,
    ⟨some 91, .mov (.t 90), none⟩,
    ⟨some 92, .load 4 true (.t 4), some (91, true)⟩,
    ⟨some 93, .load 4 true (.t 8), some (91, true)⟩,
    ⟨some 94, .call 21 [(.t 92), (.t 93)], some (91, true)⟩,
    ⟨some 95, .pick (.t 91) (.t 94) (.c (.v (.bool false))), none⟩,
    ⟨some 2, .mov (.t 95), none⟩])
  .ret))))))))))⟩ := by kernel_rfl

set_option maxRecDepth 100000 in
theorem ir5 : compF Try.prog 5 = some ⟨178, [.t 6],
  (.seq (.ops [⟨some 3, .box (.t 0), none⟩,
    ⟨some 4, .box (.t 1), none⟩,
    ⟨some 6, .mov (.c (.v (.bool false))), none⟩])
  (.seq (.ops [⟨some 25, .call 7 [], none⟩,
    ⟨some 7, .mov (.t 25), none⟩])
  (.seq (.seq (.ops [⟨some 26, .load 4 true (.t 3), none⟩,
    ⟨some 27, .call 8 [(.t 26), (.c (.v (.int .i64 3)))], none⟩,
    ⟨some 28, .un .not (.t 27), none⟩,
    ⟨some 29, .mov (.t 28), none⟩,
    ⟨some 30, .load 4 true (.t 4), some (29, false)⟩,
    ⟨some 31, .call 8 [(.t 30), (.c (.v (.int .i64 3)))], some (29, false)⟩,
    ⟨some 32, .un .not (.t 31), some (29, false)⟩,
    ⟨some 33, .pick (.t 29) (.c (.v (.bool true))) (.t 32), none⟩,
    ⟨some 34, .mov (.t 33), none⟩,
    ⟨some 35, .load 4 true (.t 3), some (34, false)⟩,
    ⟨some 36, .call 14 [(.t 35)], some (34, false)⟩,
    ⟨some 37, .mov (.t 36), some (34, false)⟩,
    ⟨some 38, .load 4 true (.t 4), some (37, true)⟩,
    ⟨some 39, .call 14 [(.t 38)], some (37, true)⟩,
    ⟨some 40, .pick (.t 37) (.t 39) (.c (.v (.bool false))), some (34, false)⟩,
    ⟨some 41, .pick (.t 34) (.c (.v (.bool true))) (.t 40), none⟩])
  (.cond (.t 41)
    (.seq (.ops [⟨some 42, .mov (.t 7), none⟩,
      ⟨some 6, .mov (.t 42), none⟩])
    .ret)
    .skip))
  (.seq (.ops [⟨some 44, .load 4 true (.t 3), none⟩,
    ⟨some 45, .call 9 [(.t 44)], none⟩,
    ⟨some 43, .mov (.t 45), none⟩,
    ⟨some 46, .extract (.t 43) 0, none⟩,
    ⟨some 47, .extract (.t 43) 1, none⟩,
    ⟨some 8, .alloc (.agg [(.v (.int .i64 0)), (.v (.int .i64 0)), (.v (.int .i64 0)), (.v (.slice none 0 0))]), none⟩,
    ⟨none, .store 4 (.t 8) (.t 46), none⟩,
    ⟨some 9, .mov (.t 47), none⟩])
  (.seq (.ops [⟨some 49, .load 4 true (.t 4), none⟩,
    ⟨some 50, .call 9 [(.t 49)], none⟩,
    ⟨some 48, .mov (.t 50), none⟩,
    ⟨some 51, .extract (.t 48) 0, none⟩,
    ⟨some 52, .extract (.t 48) 1, none⟩,
    ⟨some 10, .alloc (.agg [(.v (.int .i64 0)), (.v (.int .i64 0)), (.v (.int .i64 0)), (.v (.slice none 0 0))]), none⟩,
    ⟨none, .store 4 (.t 10) (.t 51), none⟩,
    ⟨some 11, .mov (.t 52), none⟩])
  (.seq (.ops [⟨some 54, .load 4 true (.t 3), none⟩,
    ⟨some 55, .call 11 [(.t 54)], none⟩,
    ⟨some 53, .mov (.t 55), none⟩,
    ⟨some 56, .extract (.t 53) 0, none⟩,
    ⟨some 57, .extract (.t 53) 1, none⟩,
    ⟨some 12, .alloc (.agg [(.v (.int .i64 0)), (.v (.int .i64 0)), (.v (.int .i64 0)), (.v (.slice none 0 0))]), none⟩,
    ⟨none, .store 4 (.t 12) (.t 56), none⟩,
    ⟨some 13, .mov (.t 57), none⟩])
  (.seq (.ops [⟨some 59, .load 4 true (.t 4), none⟩,
    ⟨some 60, .call 11 [(.t 59)], none⟩,
    ⟨some 58, .mov (.t 60), none⟩,
    ⟨some 61, .extract (.t 58) 0, none⟩,
    ⟨some 62, .extract (.t 58) 1, none⟩,
    ⟨some 14, .alloc (.agg [(.v (.int .i64 0)), (.v (.int .i64 0)), (.v (.int .i64 0)), (.v (.slice none 0 0))]), none⟩,
    ⟨none, .store 4 (.t 14) (.t 61), none⟩,
    ⟨some 15, .mov (.t 62), none⟩])
  (.seq (.seq (.ops [⟨some 63, .mov (.t 9), none⟩,
    ⟨some 64, .bin .neq false (.t 63) (.c (.v (.int .i64 0))), none⟩,
    ⟨some 65, .mov (.t 64), none⟩,
    ⟨some 66, .mov (.t 11), some (65, false)⟩,
    ⟨some 67, .bin .neq false (.t 66) (.c (.v (.int .i64 0))), some (65, false)⟩,
    ⟨some 68, .pick (.t 65) (.c (.v (.bool true))) (.t 67), none⟩,
    ⟨some 69, .mov (.t 68), none⟩,
    ⟨some 70, .mov (.t 13), some (69, false)⟩,
    ⟨some 71, .bin .neq false (.t 70) (.c (.v (.int .i64 0))), some (69, false)⟩,
    ⟨some 72, .pick (.t 69) (.c (.v (.bool true))) (.t 71), none⟩,
    ⟨some 73, .mov (.t 72), none⟩,
    ⟨some 74, .mov (.t 15), some (73, false)⟩,
    ⟨some 75, .bin .neq false (.t 74) (.c (.v (.int .i64 0))), some (73, false)⟩,
    ⟨some 76, .pick (.t 73) (.c (.v (.bool true))) (.t 75), none⟩])
  (.cond (.t 76)
    (.seq (.ops [⟨some 77, .mov (.t 7), none⟩,
      ⟨some 6, .mov (.t 77), none⟩])
    .ret)
    .skip))
  (.seq (.ops [⟨some 78, .bslice 1 [(.v (.int .i64 0))] 4 [(0, 1, (.c (.v (.int .i64 16)))), (1, 1, (.c (.v (.int .i64 17)))), (2, 1, (.c (.v (.int .i64 23)))), (3, 1, (.c (.v (.int .i64 24))))], none⟩,
    ⟨some 16, .mov (.t 78), none⟩])
  (.seq (.ops [⟨some 79, .bslice 1 [(.v (.int .i64 0))] 4 [(0, 1, (.c (.v (.int .i64 17)))), (1, 1, (.c (.v (.int .i64 16)))), (2, 1, (.c (.v (.int .i64 24)))), (3, 1, (.c (.v (.int .i64 23))))], none⟩,
    ⟨some 17, .mov (.t 79), none⟩])
  (.seq (.ops [⟨some 80, .mov (.t 2), none⟩,
    ⟨some 81, .conv .i64 (.t 80), none⟩,
    ⟨some 82, .bin .rem false (.t 81) (.c (.v (.int .i64 4))), none⟩,
    ⟨some 18, .mov (.t 82), none⟩])
  (.seq (.draw [[⟨some 84, .mov (.t 16), none⟩,
      ⟨some 85, .mov (.t 18), none⟩,
      ⟨some 86, .iaddr 1 (.t 84) (.t 85), none⟩,
      ⟨some 87, .load 1 false (.t 86), none⟩,
      ⟨some 88, .load 4 true (.t 3), none⟩,
      ⟨some 89, .load 4 true (.t 4), none⟩,
      ⟨some 90, .bslice 4 [(.v (.int .i64 0)), (.v (.int .i64 0)), (.v (.int .i64 0)), (.v (.slice none 0 0))] 2 [(0, 4, (.t 88)), (4, 4, (.t 89))], none⟩,
      ⟨some 91, .build [(.v (.int .i64 0)), (.v (.int .i64 0)), (.v (.int .i64 0)), (.v (.slice none 0 0))] [(0, 1, (.t 87)), (3, 1, (.t 90))], none⟩,
      ⟨some 92, .call 9 [(.t 91)], none⟩,
      ⟨some 83, .mov (.t 92), none⟩,
      ⟨some 93, .extract (.t 83) 0, none⟩,
      ⟨some 94, .extract (.t 83) 1, none⟩,
      ⟨some 19, .alloc (.agg [(.v (.int .i64 0)), (.v (.int .i64 0)), (.v (.int .i64 0)), (.v (.slice none 0 0))]), none⟩,
      ⟨none, .store 4 (.t 19) (.t 93), none⟩],
    [⟨some 20, .mov (.t 94), none⟩]])
  (.seq (.draw [[⟨some 96, .mov (.t 16), none⟩,
      ⟨some 97, .mov (.t 18), none⟩,
      ⟨some 98, .iaddr 1 (.t 96) (.t 97), none⟩,
      ⟨some 99, .load 1 false (.t 98), none⟩,
      ⟨some 100, .load 4 true (.t 3), none⟩,
      ⟨some 101, .load 4 true (.t 4), none⟩,
      ⟨some 102, .bslice 4 [(.v (.int .i64 0)), (.v (.int .i64 0)), (.v (.int .i64 0)), (.v (.slice none 0 0))] 2 [(0, 4, (.t 100)), (4, 4, (.t 101))], none⟩,
      ⟨some 103, .build [(.v (.int .i64 0)), (.v (.int .i64 0)), (.v (.int .i64 0)), (.v (.slice none 0 0))] [(0, 1, (.t 99)), (3, 1, (.t 102))], none⟩,
      ⟨some 104, .call 11 [(.t 103)], none⟩,
      ⟨some 95, .mov (.t 104), none⟩,
      ⟨some 105, .extract (.t 95) 0, none⟩,
      ⟨some 106, .extract (.t 95) 1, none⟩,
      ⟨some 21, .alloc (.agg [(.v (.int .i64 0)), (.v (.int .i64 0)), (.v (.int .i64 0)), (.v (.slice none 0 0))]), none⟩,
      ⟨none, .store 4 (.t 21) (.t 105), none⟩],
    [⟨some 22, .mov (.t 106), none⟩]])
  (.seq (.ops [⟨some 108, .load 4 true (.t 3), none⟩,
    ⟨some 109, .bslice 4 [(.v (.int .i64 0)), (.v (.int .i64 0)), (.v (.int .i64 0)), (.v (.slice none 0 0))] 1 [(0, 4, (.t 108))], none⟩,
    ⟨some 110, .build [(.v (.int .i64 0)), (.v (.int .i64 0)), (.v (.int .i64 0)), (.v (.slice none 0 0))] [(0, 1, (.c (.v (.int .i64 20)))), (3, 1, (.t 109))], none⟩,
    ⟨some 111, .call 9 [(.t 110)], none⟩,
    ⟨some 107, .mov (.t 111), none⟩,
    ⟨some 112, .extract (.t 107) 0, none⟩,
    ⟨some 113, .extract (.t 107) 1, none⟩,
    ⟨some 23, .alloc (.agg [(.v (.int .i64 0)), (.v (.int .i64 0)), (.v (.int .i64 0)), (.v (.slice none 0 0))]), none⟩,
    ⟨none, .store 4 (.t 23) (.t 112), none⟩,
    ⟨some 24, .mov (.t 113), none⟩])
  (.seq (.seq (.draw [[⟨some 114, .mov (.t 20), none⟩,
      ⟨some 115, .mov (.t 22), none⟩],
    [⟨some 116, .bin .neq false (.t 114) (.t 115), none⟩],
    [⟨some 117, .mov (.t 116), none⟩],
    [⟨some 118, .mov (.t 20), some (117, false)⟩,
      ⟨some 119, .bin .eql false (.t 118) (.c (.v (.int .i64 0))), some (117, false)⟩,
      ⟨some 120, .load 4 true (.t 8), some (117, false)⟩,
      ⟨some 121, .call 15 [(.t 120)], some (117, false)⟩,
      ⟨some 122, .load 4 true (.t 10), some (117, false)⟩,
      ⟨some 123, .call 15 [(.t 122)], some (117, false)⟩,
      ⟨some 124, .bin .add false (.t 121) (.t 123), some (117, false)⟩,
      ⟨some 125, .bin .lss false (.t 124) (.c (.v (.int .i64 24))), some (117, false)⟩],
    [⟨some 126, .bin .neq true (.t 119) (.t 125), some (117, false)⟩],
    [⟨some 127, .pick (.t 117) (.c (.v (.bool true))) (.t 126), none⟩],
    [⟨some 128, .mov (.t 127), none⟩],
    [⟨some 129, .mov (.t 24), some (128, false)⟩,
      ⟨some 130, .bin .eql false (.t 129) (.c (.v (.int .i64 0))), some (128, false)⟩,
      ⟨some 131, .load 4 true (.t 8), some (128, false)⟩,
      ⟨some 132, .call 15 [(.t 131)], some (128, false)⟩,
      ⟨some 133, .bin .lss false (.t 132) (.c (.v (.int .i64 24))), some (128, false)⟩],
    [⟨some 134, .bin .neq true (.t 130) (.t 133), some (128, false)⟩],
    [⟨some 135, .pick (.t 128) (.c (.v (.bool true))) (.t 134), none⟩]])
  (.cond (.t 135)
    (.seq (.ops [⟨some 6, .mov (.c (.v (.bool false))), none⟩])
    .ret)
    .skip))
  (.seq (.seq (.ops [⟨some 136, .mov (.t 24), none⟩,
    ⟨some 137, .bin .eql false (.t 136) (.c (.v (.int .i64 0))), none⟩,
    ⟨some 138, .mov (.t 137), none⟩,
    ⟨some 139, .load 4 true (.t 23), some (138, true)⟩,
    ⟨some 140, .load 4 true (.t 8), some (138, true)⟩,
    ⟨some 141, .bslice 4 [(.v (.int .i64 0)), (.v (.int .i64 0)), (.v (.int .i64 0)), (.v (.slice none 0 0))] 1 [(0, 4, (.t 140))], some (138, true)⟩,
    ⟨some 142, .build [(.v (.int .i64 0)), (.v (.int .i64 0)), (.v (.int .i64 0)), (.v (.slice none 0 0))] [(0, 1, (.c (.v (.int .i64 20)))), (3, 1, (.t 141))], some (138, true)⟩,
    ⟨some 143, .call 21 [(.t 139), (.t 142)], some (138, true)⟩,
    ⟨some 144, .un .not (.t 143), some (138, true)⟩,
    ⟨some 145, .pick (.t 138) (.t 144) (.c (.v (.bool false))), none⟩])
  (.cond (.t 145)
    (.seq (.ops [⟨some 6, .mov (.c (.v (.bool false))), none⟩])
    .ret)
    .skip))
  (.seq (.seq (.ops [⟨some 146, .mov (.t 20), none⟩,
    ⟨some 147, .bin .neq false (.t 146) (.c (.v (.int .i64 0))), none⟩])
  (.cond (.t 147)
    (.seq (.ops [⟨some 148, .mov (.t 7), none⟩,
      ⟨some 149, .mov (.t 148), none⟩,
      ⟨some 150, .mov (.t 20), some (149, true)⟩,
      ⟨some 151, .bin .eql false (.t 150) (.c (.v (.int .i64 9))), some (149, true)⟩,
      ⟨some 152, .pick (.t 149) (.t 151) (.c (.v (.bool false))), none⟩,
      ⟨some 6, .mov (.t 152), none⟩])
    .ret)
    .skip))
  (.seq (.draw [[⟨some 153, .mov (.t 7), none⟩],
    [⟨some 154, .mov (.t 153), none⟩],
    [⟨some 155, .load 4 true (.t 19), some (154, true)⟩,
      ⟨some 156, .mov (.t 16), some (154, true)⟩,
      ⟨some 157, .mov (.t 18), some (154, true)⟩,
      ⟨some 158, .iaddr 1 (.t 156) (.t 157), some (154, true)⟩,
      ⟨some 159, .load 1 false (.t 158), some (154, true)⟩,
      ⟨some 160, .load 4 true (.t 8), some (154, true)⟩,
      ⟨some 161, .load 4 true (.t 10), some (154, true)⟩,
      ⟨some 162, .bslice 4 [(.v (.int .i64 0)), (.v (.int .i64 0)), (.v (.int .i64 0)), (.v (.slice none 0 0))] 2 [(0, 4, (.t 160)), (4, 4, (.t 161))], some (154, true)⟩,
      ⟨some 163, .build [(.v (.int .i64 0)), (.v (.int .i64 0)), (.v (.int .i64 0)), (.v (.slice none 0 0))] [(0, 1, (.t 159)), (3, 1, (.t 162))], some (154, true)⟩],
    [⟨some 164, .call 21 [(.t 155), (.t 163)], some (154, true)⟩],
    [⟨some 165, .pick (.t 154) (.t 164) (.c (.v (.bool false))), none⟩],
    [⟨some 166, .mov (.t 165), none⟩],
    [⟨some 167, .load 4 true (.t 21), some (166, true)⟩,
      ⟨some 168, .mov (.t 17), some (166, true)⟩,
      ⟨some 169, .mov (.t 18), some (166, true)⟩,
      ⟨some 170, .iaddr 1 (.t 168) (.t 169), some (166, true)⟩,
      ⟨some 171, .load 1 false (.t 170), some (166, true)⟩,
      ⟨some 172, .load 4 true (.t 12), some (166, true)⟩,
      ⟨some 173, .load 4 true (.t 14), some (166, true)⟩,
      ⟨some 174, .bslice 4 [(.v (.int .i64 0)), (.v (.int .i64 0)), (.v (.int .i64 0)), (.v (.slice none 0 0))] 2 [(0, 4, (.t 172)), (4, 4, (.t 173))], some (166, true)⟩,
      ⟨some 175, .build [(.v (.int .i64 0)), (.v (.int .i64 0)), (.v (.int .i64 0)), (.v (.slice none 0 0))] [(0, 1, (.t 171)), (3, 1, (.t 174))], some (166, true)⟩],
    [⟨some 176, .call 21 [(.t 167), (.t 175)], some (166, true)⟩],
    [⟨some 177, .pick (.t 166) (.t 176) (.c (.v (.bool false))), none⟩],
    [⟨some 6, .mov (.t 177), none⟩]])
  .ret))))))))))))))))))⟩ := by kernel_rfl

set_option maxRecDepth 100000 in
theorem ir6 : compF Try.prog 6 = some ⟨102, [.t 2],
  (.seq (.ops [⟨some 2, .mov (.c (.v (.bool false))), none⟩])
  (.seq (.ops [⟨some 12, .call 7 [], none⟩,
    ⟨some 3, .mov (.t 12), none⟩])
  (.seq (.seq (.ops [⟨some 13, .mov (.t 0), none⟩,
    ⟨some 14, .len false (.t 13), none⟩,
    ⟨some 15, .bin .gtr false (.t 14) (.c (.v (.int .i64 40))), none⟩])
  (.cond (.t 15)
    (.seq (.ops [⟨some 16, .mov (.t 3), none⟩,
      ⟨some 2, .mov (.t 16), none⟩])
    .ret)
    .skip))
  (.seq (.ops [⟨some 17, .build [(.v (.int .i64 0)), (.v (.int .i64 0)), (.v (.int .i64 0)), (.v (.slice none 0 0))] [(0, 1, (.c (.v (.int .i64 13))))], none⟩,
    ⟨some 4, .alloc (.agg [(.v (.int .i64 0)), (.v (.int .i64 0)), (.v (.int .i64 0)), (.v (.slice none 0 0))]), none⟩,
    ⟨none, .store 4 (.t 4) (.t 17), none⟩])
  (.seq (.ops [⟨some 5, .mov (.c (.v (.int .i64 1))), none⟩])
  (.seq (.seq (.ops [⟨some 6, .mov (.c (.v (.int .i64 0))), none⟩])
  (.block 0 (.loop
    (.seq (.seq (.ops [⟨some 18, .mov (.t 6), none⟩,
      ⟨some 19, .mov (.t 0), none⟩,
      ⟨some 20, .len false (.t 19), none⟩,
      ⟨some 21, .bin .lss false (.t 18) (.t 20), none⟩])
    (.cond (.t 21)
      .skip
      (.exit 0)))
    (.seq (.block 1 (.seq (.ops [⟨some 24, .bslice 1 [(.v (.int .i64 0))] 4 [(0, 1, (.c (.v (.int .i64 20)))), (1, 1, (.c (.v (.int .i64 21)))), (2, 1, (.c (.v (.int .i64 22)))), (3, 1, (.c (.v (.int .i64 15))))], none⟩,
      ⟨some 25, .mov (.t 0), none⟩,
      ⟨some 26, .mov (.t 6), none⟩,
      ⟨some 27, .iaddr 1 (.t 25) (.t 26), none⟩,
      ⟨some 28, .load 1 false (.t 27), none⟩,
      ⟨some 29, .bin .rem false (.t 28) (.c (.v (.int .u8 4))), none⟩,
      ⟨some 30, .iaddr 1 (.t 24) (.t 29), none⟩,
      ⟨some 31, .load 1 false (.t 30), none⟩,
      ⟨some 7, .mov (.t 31), none⟩])
    (.seq (.seq (.ops [⟨some 32, .mov (.t 7), none⟩,
      ⟨some 33, .bin .eql false (.t 32) (.c (.v (.int .i64 15))), none⟩,
      ⟨some 34, .mov (.t 33), none⟩,
      ⟨some 35, .mov (.t 5), some (34, true)⟩,
      ⟨some 36, .bin .eql false (.t 35) (.c (.v (.int .i64 1))), some (34, true)⟩,
      ⟨some 37, .pick (.t 34) (.t 36) (.c (.v (.bool false))), none⟩])
    (.cond (.t 37)
      (.exit 1)
      .skip))
    (.seq (.ops [⟨some 38, .mov (.t 7), none⟩,
      ⟨some 39, .load 4 true (.t 4), none⟩,
      ⟨some 40, .bslice 4 [(.v (.int .i64 0)), (.v (.int .i64 0)), (.v (.int .i64 0)), (.v (.slice none 0 0))] 1 [(0, 4, (.t 39))], none⟩,
      ⟨some 41, .build [(.v (.int .i64 0)), (.v (.int .i64 0)), (.v (.int .i64 0)), (.v (.slice none 0 0))] [(0, 1, (.t 38)), (3, 1, (.t 40))], none⟩,
      ⟨none, .store 4 (.t 4) (.t 41), none⟩])
    (.seq (.ops [⟨some 42, .mov (.t 7), none⟩])
    (.block 2 (.seq (.ops [⟨some 44, .bin .eql false (.t 42) (.c (.v (.int .i64 20))), none⟩,
      ⟨some 43, .mov (.t 44), none⟩])
    (.cond (.t 43)
      (.ops [⟨some 45, .mov (.t 5), none⟩,
        ⟨some 46, .bin .add false (.t 45) (.c (.v (.int .i64 1))), none⟩,
        ⟨some 5, .mov (.t 46), none⟩])
      (.seq (.seq (.ops [⟨some 48, .bin .eql false (.t 42) (.c (.v (.int .i64 21))), none⟩,
        ⟨some 47, .mov (.t 48), none⟩])
      (.cond (.t 47)
        .skip
        (.ops [⟨some 49, .bin .eql false (.t 42) (.c (.v (.int .i64 22))), none⟩,
          ⟨some 47, .mov (.t 49), none⟩])))
      (.cond (.t 47)
        (.ops [⟨some 50, .mov (.t 5), none⟩,
          ⟨some 51, .bin .add false (.t 50) (.c (.v (.int .i64 2))), none⟩,
          ⟨some 5, .mov (.t 51), none⟩])
        .skip))))))))))
    (.ops [⟨some 22, .mov (.t 6), none⟩,
      ⟨some 23, .bin .add false (.t 22) (.c (.v (.int .i64 1))), none⟩,
      ⟨some 6, .mov (.t 23), none⟩]))))))
  (.seq (.ops [⟨some 53, .load 4 true (.t 4), none⟩,
    ⟨some 54, .call 9 [(.t 53)], none⟩,
    ⟨some 52, .mov (.t 54), none⟩,
    ⟨some 55, .extract (.t 52) 0, none⟩,
    ⟨some 56, .extract (.t 52) 1, none⟩,
    ⟨some 8, .alloc (.agg [(.v (.int .i64 0)), (.v (.int .i64 0)), (.v (.int .i64 0)), (.v (.slice none 0 0))]), none⟩,
    ⟨none, .store 4 (.t 8) (.t 55), none⟩,
    ⟨some 9, .mov (.t 56), none⟩])
  (.seq (.ops [⟨some 58, .load 4 true (.t 4), none⟩,
    ⟨some 59, .call 11 [(.t 58)], none⟩,
    ⟨some 57, .mov (.t 59), none⟩,
    ⟨some 60, .extract (.t 57) 0, none⟩,
    ⟨some 61, .extract (.t 57) 1, none⟩,
    ⟨some 10, .alloc (.agg [(.v (.int .i64 0)), (.v (.int .i64 0)), (.v (.int .i64 0)), (.v (.slice none 0 0))]), none⟩,
    ⟨none, .store 4 (.t 10) (.t 60), none⟩,
    ⟨some 11, .mov (.t 61), none⟩])
  (.seq (.seq (.ops [⟨some 62, .mov (.t 5), none⟩,
    ⟨some 63, .bin .gtr false (.t 62) (.c (.v (.int .i64 24))), none⟩])
  (.cond (.t 63)
    (.seq (.ops [⟨some 64, .mov (.t 3), none⟩,
      ⟨some 65, .mov (.t 64), none⟩,
      ⟨some 66, .mov (.t 9), some (65, true)⟩,
      ⟨some 67, .bin .eql false (.t 66) (.c (.v (.int .i64 9))), some (65, true)⟩,
      ⟨some 68, .pick (.t 65) (.t 67) (.c (.v (.bool false))), none⟩,
      ⟨some 69, .mov (.t 68), none⟩,
      ⟨some 70, .mov (.t 11), some (69, true)⟩,
      ⟨some 71, .bin .eql false (.t 70) (.c (.v (.int .i64 9))), some (69, true)⟩,
      ⟨some 72, .pick (.t 69) (.t 71) (.c (.v (.bool false))), none⟩,
      ⟨some 2, .mov (.t 72), none⟩])
    .ret)
    .skip))
  (.seq (.ops [⟨some 73, .mov (.t 3), none⟩,
    ⟨some 74, .mov (.t 73), none⟩,
    ⟨some 75, .mov (.t 9), some (74, true)⟩,
    ⟨some 76, .bin .eql false (.t 75) (.c (.v (.int .i64 0))), some (74, true)⟩,
    ⟨some 77, .pick (.t 74) (.t 76) (.c (.v (.bool false))), none⟩,
    ⟨some 78, .mov (.t 77), none⟩,
    ⟨some 79, .mov (.t 11), some (78, true)⟩,
    ⟨some 80, .bin .eql false (.t 79) (.c (.v (.int .i64 0))), some (78, true)⟩,
    ⟨some 81, .pick (.t 78) (.t 80) (.c (.v (.bool false))), none⟩,
    ⟨some 82, .mov (.t 81), none⟩,
    ⟨some 83, .load 4 true (.t 8), some (82, true)⟩,
    ⟨some 84, .call 15 [(.t 83)], some (82, true)⟩,
    ⟨some 85, .mov (.t 5), some (82, true)⟩,
    ⟨some 86, .bin .eql false (.t 84) (.t 85), some (82, true)⟩,
    ⟨some 87, .pick (.t 82) (.t 86) (.c (.v (.bool false))), none⟩,
    ⟨some 88, .mov (.t 87), none⟩,
    ⟨some 89, .load 4 true (.t 10), some (88, true)⟩,
    ⟨some 90, .call 15 [(.t 89)], some (88, true)⟩,
    ⟨some 91, .mov (.t 5), some (88, true)⟩,
    ⟨some 92, .bin .eql false (.t 90) (.t 91), some (88, true)⟩,
    ⟨some 93, .pick (.t 88) (.t 92) (.c (.v (.bool false))), none⟩,
    ⟨some 94, .mov (.t 93), none⟩,
    ⟨some 95, .load 4 true (.t 8), some (94, true)⟩,
    ⟨some 96, .call 17 [(.t 95)], some (94, true)⟩,
    ⟨some 97, .pick (.t 94) (.t 96) (.c (.v (.bool false))), none⟩,
    ⟨some 98, .mov (.t 97), none⟩,
    ⟨some 99, .load 4 true (.t 10), some (98, true)⟩,
    ⟨some 100, .call 17 [(.t 99)], some (98, true)⟩,
    ⟨some 101, .pick (.t 98) (.t 100) (.c (.v (.bool false))), none⟩,
    ⟨some 2, .mov (.t 101), none⟩])
  .ret))))))))))⟩ := by kernel_rfl

set_option maxRecDepth 100000 in
theorem ir7 : compF Try.prog 7 = some ⟨121, [.t 0],
  (.seq (.ops [⟨some 0, .mov (.c (.v (.bool false))), none⟩])
  (.seq (.ops [⟨some 7, .build [(.v (.int .i64 0)), (.v (.int .i64 0)), (.v (.int .i64 0)), (.v (.slice none 0 0))] [(0, 1, (.c (.v (.int .i64 2))))], none⟩,
    ⟨some 8, .build [(.v (.int .i64 0)), (.v (.int .i64 0)), (.v (.int .i64 0)), (.v (.slice none 0 0))] [(0, 1, (.c (.v (.int .i64 1)))), (1, 1, (.c (.v (.int .i64 1))))], none⟩,
    ⟨some 9, .bslice 4 [(.v (.int .i64 0)), (.v (.int .i64 0)), (.v (.int .i64 0)), (.v (.slice none 0 0))] 2 [(0, 4, (.t 7)), (4, 4, (.t 8))], none⟩,
    ⟨some 10, .build [(.v (.int .i64 0)), (.v (.int .i64 0)), (.v (.int .i64 0)), (.v (.slice none 0 0))] [(0, 1, (.c (.v (.int .i64 7)))), (3, 1, (.t 9))], none⟩,
    ⟨some 1, .alloc (.agg [(.v (.int .i64 0)), (.v (.int .i64 0)), (.v (.int .i64 0)), (.v (.slice none 0 0))]), none⟩,
    ⟨none, .store 4 (.t 1) (.t 10), none⟩])
  (.seq (.ops [⟨some 11, .load 4 true (.t 1), none⟩,
    ⟨some 12, .bslice 4 [(.v (.int .i64 0)), (.v (.int .i64 0)), (.v (.int .i64 0)), (.v (.slice none 0 0))] 1 [(0, 4, (.t 11))], none⟩,
    ⟨some 13, .build [(.v (.int .i64 0)), (.v (.int .i64 0)), (.v (.int .i64 0)), (.v (.slice none 0 0))] [(0, 1, (.c (.v (.int .i64 22)))), (3, 1, (.t 12))], none⟩,
    ⟨some 2, .alloc (.agg [(.v (.int .i64 0)), (.v (.int .i64 0)), (.v (.int .i64 0)), (.v (.slice none 0 0))]), none⟩,
    ⟨none, .store 4 (.t 2) (.t 13), none⟩])
  (.seq (.ops [⟨some 15, .load 4 true (.t 2), none⟩,
    ⟨some 16, .call 11 [(.t 15)], none⟩,
    ⟨some 14, .mov (.t 16), none⟩,
    ⟨some 17, .extract (.t 14) 0, none⟩,
    ⟨some 18, .extract (.t 14) 1, none⟩,
    ⟨some 3, .alloc (.agg [(.v (.int .i64 0)), (.v (.int .i64 0)), (.v (.int .i64 0)), (.v (.slice none 0 0))]), none⟩,
    ⟨none, .store 4 (.t 3) (.t 17), none⟩,
    ⟨some 4, .mov (.t 18), none⟩])
  (.seq (.ops [⟨some 20, .load 4 true (.t 2), none⟩,
    ⟨some 21, .call 9 [(.t 20)], none⟩,
    ⟨some 19, .mov (.t 21), none⟩,
    ⟨some 22, .extract (.t 19) 0, none⟩,
    ⟨some 23, .extract (.t 19) 1, none⟩,
    ⟨some 5, .alloc (.agg [(.v (.int .i64 0)), (.v (.int .i64 0)), (.v (.int .i64 0)), (.v (.slice none 0 0))]), none⟩,
    ⟨none, .store 4 (.t 5) (.t 22), none⟩,
    ⟨some 6, .mov (.t 23), none⟩])
  (.seq (.seq (.ops [⟨some 24, .faddr 3 (.t 3), none⟩,
    ⟨some 25, .load 1 false (.t 24), none⟩,
    ⟨some 26, .len false (.t 25), none⟩,
    ⟨some 27, .bin .neq false (.t 26) (.c (.v (.int .i64 2))), none⟩,
    ⟨some 28, .mov (.t 27), none⟩,
    ⟨some 29, .faddr 3 (.t 5), some (28, false)⟩,
    ⟨some 30, .load 1 false (.t 29), some (28, false)⟩,
    ⟨some 31, .len false (.t 30), some (28, false)⟩,
    ⟨some 32, .bin .neq false (.t 31) (.c (.v (.int .i64 2))), some (28, false)⟩,
    ⟨some 33, .pick (.t 28) (.c (.v (.bool true))) (.t 32), none⟩])
  (.cond (.t 33)
    (.seq (.ops [⟨some 0, .mov (.c (.v (.bool false))), none⟩])
    .ret)
    .skip))
  (.seq (.draw [[⟨some 34, .mov (.t 4), none⟩],
    [⟨some 35, .bin .eql false (.t 34) (.c (.v (.int .i64 0))), none⟩],
    [⟨some 36, .mov (.t 35), none⟩],
    [⟨some 37, .faddr 0 (.t 3), some (36, true)⟩],
    [⟨some 38, .load 1 false (.t 37), some (36, true)⟩],
    [⟨some 39, .bin .eql false (.t 38) (.c (.v (.int .i64 23))), some (36, true)⟩],
    [⟨some 40, .pick (.t 36) (.t 39) (.c (.v (.bool false))), none⟩],
    [⟨some 41, .mov (.t 40), none⟩],
    [⟨some 42, .faddr 3 (.t 3), some (41, true)⟩],
    [⟨some 43, .load 1 false (.t 42), some (41, true)⟩],
    [⟨some 44, .iaddr 4 (.t 43) (.c (.v (.int .i64 0))), some (41, true)⟩],
    [⟨some 45, .faddr 0 (.t 44), some (41, true)⟩],
    [⟨some 46, .load 1 false (.t 45), some (41, true)⟩],
    [⟨some 47, .bin .eql false (.t 46) (.c (.v (.int .i64 13))), some (41, true)⟩],
    [⟨some 48, .pick (.t 41) (.t 47) (.c (.v (.bool false))), none⟩],
    [⟨some 49, .mov (.t 48), none⟩],
    [⟨some 50, .faddr 3 (.t 3), some (49, true)⟩],
    [⟨some 51, .load 1 false (.t 50), some (49, true)⟩],
    [⟨some 52, .iaddr 4 (.t 51) (.c (.v (.int .i64 1))), some (49, true)⟩],
    [⟨some 53, .faddr 0 (.t 52), some (49, true)⟩],
    [⟨some 54, .load 1 false (.t 53), some (49, true)⟩],
    [⟨some 55, .bin .eql false (.t 54) (.c (.v (.int .i64 15))), some (49, true)⟩],
    [⟨some 56, .pick (.t 49) (.t 55) (.c (.v (.bool false))), none⟩],
    [⟨some 57, .mov (.t 56), none⟩],
    [⟨some 58, .faddr 3 (.t 3), some (57, true)⟩,
      ⟨some 59, .load 1 false (.t 58), some (57, true)⟩,
      ⟨some 60, .iaddr 4 (.t 59) (.c (.v (.int .i64 1))), some (57, true)⟩,
      ⟨some 61, .faddr 3 (.t 60), some (57, true)⟩,
      ⟨some 62, .load 1 false (.t 61), some (57, true)⟩,
      ⟨some 63, .iaddr 4 (.t 62) (.c (.v (.int .i64 0))), some (57, true)⟩,
      ⟨some 64, .load 4 true (.t 63), some (57, true)⟩,
      ⟨some 65, .load 4 true (.t 1), some (57, true)⟩],
    [⟨some 66, .call 21 [(.t 64), (.t 65)], some (57, true)⟩],
    [⟨some 67, .pick (.t 57) (.t 66) (.c (.v (.bool false))), none⟩],
    [⟨some 68, .mov (.t 67), none⟩],
    [⟨some 69, .mov (.t 6), some (68, true)⟩],
    [⟨some 70, .bin .eql false (.t 69) (.c (.v (.int .i64 0))), some (68, true)⟩],
    [⟨some 71, .pick (.t 68) (.t 70) (.c (.v (.bool false))), none⟩],
    [⟨some 72, .mov (.t 71), none⟩],
    [⟨some 73, .faddr 0 (.t 5), some (72, true)⟩],
    [⟨some 74, .load 1 false (.t 73), some (72, true)⟩],
    [⟨some 75, .bin .eql false (.t 74) (.c (.v (.int .i64 24))), some (72, true)⟩],
    [⟨some 76, .pick (.t 72) (.t 75) (.c (.v (.bool false))), none⟩],
    [⟨some 77, .mov (.t 76), none⟩],
    [⟨some 78, .faddr 3 (.t 5), some (77, true)⟩],
    [⟨some 79, .load 1 false (.t 78), some (77, true)⟩],
    [⟨some 80, .iaddr 4 (.t 79) (.c (.v (.int .i64 0))), some (77, true)⟩],
    [⟨some 81, .faddr 0 (.t 80), some (77, true)⟩],
    [⟨some 82, .load 1 false (.t 81), some (77, true)⟩],
    [⟨some 83, .bin .eql false (.t 82) (.c (.v (.int .i64 14))), some (77, true)⟩],
    [⟨some 84, .pick (.t 77) (.t 83) (.c (.v (.bool false))), none⟩],
    [⟨some 85, .mov (.t 84), none⟩],
    [⟨some 86, .faddr 3 (.t 5), some (85, true)⟩,
      ⟨some 87, .load 1 false (.t 86), some (85, true)⟩,
      ⟨some 88, .iaddr 4 (.t 87) (.c (.v (.int .i64 1))), some (85, true)⟩,
      ⟨some 89, .load 4 true (.t 88), some (85, true)⟩,
      ⟨some 90, .load 4 true (.t 1), some (85, true)⟩],
    [⟨some 91, .call 21 [(.t 89), (.t 90)], some (85, true)⟩],
    [⟨some 92, .pick (.t 85) (.t 91) (.c (.v (.bool false))), none⟩],
    [⟨some 93, .mov (.t 92), none⟩],
    [⟨some 94, .load 4 true (.t 1), some (93, true)⟩],
    [⟨some 95, .call 13 [(.t 94)], some (93, true)⟩],
    [⟨some 96, .pick (.t 93) (.t 95) (.c (.v (.bool false))), none⟩],
    [⟨some 97, .mov (.t 96), none⟩],
    [⟨some 98, .load 4 true (.t 2), some (97, true)⟩],
    [⟨some 99, .call 13 [(.t 98)], some (97, true)⟩],
    [⟨some 100, .un .not (.t 99), some (97, true)⟩],
    [⟨some 101, .pick (.t 97) (.t 100) (.c (.v (.bool false))), none⟩],
    [⟨some 102, .mov (.t 101), none⟩],
    [⟨some 103, .load 4 true (.t 3), some (102, true)⟩],
    [⟨some 104, .call 17 [(.t 103)], some (102, true)⟩],
    [⟨some 105, .pick (.t 102) (.t 104) (.c (.v (.bool false))), none⟩],
    [⟨some 106, .mov (.t 105), none⟩],
    [⟨some 107, .load 4 true (.t 2), some (106, true)⟩],
    [⟨some 108, .call 17 [(.t 107)], some (106, true)⟩],
    [⟨some 109, .un .not (.t 108), some (106, true)⟩],
    [⟨some 110, .pick (.t 106) (.t 109) (.c (.v (.bool false))), none⟩],
    [⟨some 111, .mov (.t 110), none⟩],
    [⟨some 112, .load 4 true (.t 3), some (111, true)⟩],
    [⟨some 113, .call 15 [(.t 112)], some (111, true)⟩],
    [⟨some 114, .bin .eql false (.t 113) (.c (.v (.int .i64 3))), some (111, true)⟩],
    [⟨some 115, .pick (.t 111) (.t 114) (.c (.v (.bool false))), none⟩],
    [⟨some 116, .mov (.t 115), none⟩],
    [⟨some 117, .load 4 true (.t 1), some (116, true)⟩],
    [⟨some 118, .call 15 [(.t 117)], some (116, true)⟩],
    [⟨some 119, .bin .eql false (.t 118) (.c (.v (.int .i64 1))), some (116, true)⟩],
    [⟨some 120, .pick (.t 116) (.t 119) (.c (.v (.bool false))), none⟩],
    [⟨some 0, .mov (.t 120), none⟩]])
  .ret)))))))⟩ := by kernel_rfl

theorem ir8 : compF Try.prog 8 = some ⟨33, [.t 4],
  (.seq (.ops [⟨some 2, .box (.t 0), none⟩,
    ⟨some 4, .mov (.c (.v (.bool false))), none⟩])
  (.seq (.ops [⟨some 10, .load 4 true (.t 2), none⟩,
    ⟨some 11, .call 22 [(.t 10)], none⟩,
    ⟨some 5, .mov (.t 11), none⟩])
  (.seq (.ops [⟨some 12, .load 4 true (.t 2), none⟩,
    ⟨some 13, .mov (.t 1), none⟩,
    ⟨some 14, .call 23 [(.t 12), (.t 13)], none⟩,
    ⟨some 6, .mov (.t 14), none⟩])
  (.seq (.seq (.ops [⟨some 15, .mov (.t 5), none⟩,
    ⟨some 16, .un .not (.t 15), none⟩,
    ⟨some 17, .mov (.t 16), none⟩,
    ⟨some 18, .mov (.t 6), some (17, false)⟩,
    ⟨some 19, .un .not (.t 18), some (17, false)⟩,
    ⟨some 20, .pick (.t 17) (.c (.v (.bool true))) (.t 19), none⟩])
  (.cond (.t 20)
    (.seq (.ops [⟨some 4, .mov (.c (.v (.bool false))), none⟩])
    .ret)
    .skip))
  (.seq (.ops [⟨some 22, .load 4 true (.t 2), none⟩,
    ⟨some 23, .call 24 [(.t 22)], none⟩,
    ⟨some 21, .mov (.t 23), none⟩,
    ⟨some 24, .extract (.t 21) 0, none⟩,
    ⟨some 25, .extract (.t 21) 1, none⟩,
    ⟨some 26, .extract (.t 21) 2, none⟩,
    ⟨some 7, .mov (.t 24), none⟩,
    ⟨some 8, .mov (.t 25), none⟩,
    ⟨some 9, .mov (.t 26), none⟩])
  (.seq (.ops [⟨some 27, .mov (.t 8), none⟩,
    ⟨some 28, .bin .eql false (.t 27) (.c (.v (.int .i64 0))), none⟩,
    ⟨some 29, .mov (.t 28), none⟩,
    ⟨some 30, .mov (.t 7), some (29, true)⟩,
    ⟨some 31, .bin .neq false (.t 30) (.c (.v (.int .i64 1))), some (29, true)⟩,
    ⟨some 32, .pick (.t 29) (.t 31) (.c (.v (.bool false))), none⟩,
    ⟨some 4, .mov (.t 32), none⟩])
  .ret))))))⟩ := by kernel_rfl

theorem ir9 : compF Try.prog 9 = some ⟨8, [.c 2 4 true, .t 3],
  (.seq (.ops [⟨some 1, .box (.t 0), none⟩,
    ⟨some 2, .alloc (.agg [(.v (.int .i64 0)), (.v (.int .i64 0)), (.v (.int .i64 0)), (.v (.slice none 0 0))]), none⟩,
    ⟨some 3, .mov (.c (.v (.int .i64 0))), none⟩])
  (.seq (.ops [⟨some 4, .load 4 true (.t 1), none⟩,
    ⟨some 5, .call 25 [(.t 4), (.c (.v (.bool false)))], none⟩,
    ⟨some 6, .extract (.t 5) 0, none⟩,
    ⟨some 7, .extract (.t 5) 1, none⟩,
    ⟨none, .store 4 (.t 2) (.t 6), none⟩,
    ⟨some 3, .mov (.t 7), none⟩])
  .ret))⟩ := by kernel_rfl

theorem ir10 : compF Try.prog 10 = some ⟨8, [.c 2 4 true, .t 3],
  (.seq (.ops [⟨some 1, .box (.t 0), none⟩,
    ⟨some 2, .alloc (.agg [(.v (.int .i64 0)), (.v (.int .i64 0)), (.v (.int .i64 0)), (.v (.slice none 0 0))]), none⟩,
    ⟨some 3, .mov (.c (.v (.int .i64 0))), none⟩])
  (.seq (.ops [⟨some 4, .load 4 true (.t 1), none⟩,
    ⟨some 5, .call 26 [(.t 4), (.c (.v (.bool false)))], none⟩,
    ⟨some 6, .extract (.t 5) 0, none⟩,
    ⟨some 7, .extract (.t 5) 1, none⟩,
    ⟨none, .store 4 (.t 2) (.t 6), none⟩,
    ⟨some 3, .mov (.t 7), none⟩])
  .ret))⟩ := by kernel_rfl

theorem ir11 : compF Try.prog 11 = some ⟨8, [.c 2 4 true, .t 3],
  (.seq (.ops [⟨some 1, .box (.t 0), none⟩,
    ⟨some 2, .alloc (.agg [(.v (.int .i64 0)), (.v (.int .i64 0)), (.v (.int .i64 0)), (.v (.slice none 0 0))]), none⟩,
    ⟨some 3, .mov (.c (.v (.int .i64 0))), none⟩])
  (.seq (.ops [⟨some 4, .load 4 true (.t 1), none⟩,
    ⟨some 5, .call 25 [(.t 4), (.c (.v (.bool true)))], none⟩,
    ⟨some 6, .extract (.t 5) 0, none⟩,
    ⟨some 7, .extract (.t 5) 1, none⟩,
    ⟨none, .store 4 (.t 2) (.t 6), none⟩,
    ⟨some 3, .mov (.t 7), none⟩])
  .ret))⟩ := by kernel_rfl

theorem ir12 : compF Try.prog 12 = some ⟨8, [.c 2 4 true, .t 3],
  (.seq (.ops [⟨some 1, .box (.t 0), none⟩,
    ⟨some 2, .alloc (.agg [(.v (.int .i64 0)), (.v (.int .i64 0)), (.v (.int .i64 0)), (.v (.slice none 0 0))]), none⟩,
    ⟨some 3, .mov (.c (.v (.int .i64 0))), none⟩])
  (.seq (.ops [⟨some 4, .load 4 true (.t 1), none⟩,
    ⟨some 5, .call 26 [(.t 4), (.c (.v (.bool true)))], none⟩,
    ⟨some 6, .extract (.t 5) 0, none⟩,
    ⟨some 7, .extract (.t 5) 1, none⟩,
    ⟨none, .store 4 (.t 2) (.t 6), none⟩,
    ⟨some 3, .mov (.t 7), none⟩])
  .ret))⟩ := by kernel_rfl

theorem ir13 : compF Try.prog 13 = some ⟨18, [.t 2],
  (.seq (.ops [⟨some 1, .box (.t 0), none⟩,
    ⟨some 2, .mov (.c (.v (.bool false))), none⟩])
  (.seq (.ops [⟨some 7, .load 4 true (.t 1), none⟩,
    ⟨some 8, .call 27 [(.t 7)], none⟩,
    ⟨some 6, .mov (.t 8), none⟩,
    ⟨some 9, .extract (.t 6) 0, none⟩,
    ⟨some 10, .extract (.t 6) 1, none⟩,
    ⟨some 11, .extract (.t 6) 2, none⟩,
    ⟨some 3, .mov (.t 9), none⟩,
    ⟨some 4, .mov (.t 10), none⟩,
    ⟨some 5, .mov (.t 11), none⟩])
  (.seq (.ops [⟨some 12, .mov (.t 4), none⟩,
    ⟨some 13, .bin .eql false (.t 12) (.c (.v (.int .i64 0))), none⟩,
    ⟨some 14, .mov (.t 13), none⟩,
    ⟨some 15, .mov (.t 3), some (14, true)⟩,
    ⟨some 16, .bin .eql false (.t 15) (.c (.v (.int .i64 2))), some (14, true)⟩,
    ⟨some 17, .pick (.t 14) (.t 16) (.c (.v (.bool false))), none⟩,
    ⟨some 2, .mov (.t 17), none⟩])
  .ret)))⟩ := by kernel_rfl

theorem ir14 : compF Try.prog 14 = some ⟨18, [.t 2],
  (.seq (.ops [⟨some 1, .box (.t 0), none⟩,
    ⟨some 2, .mov (.c (.v (.bool false))), none⟩])
  (.seq (.ops [⟨some 7, .load 4 true (.t 1), none⟩,
    ⟨some 8, .call 24 [(.t 7)], none⟩,
    ⟨some 6, .mov (.t 8), none⟩,
    ⟨some 9, .extract (.t 6) 0, none⟩,
    ⟨some 10, .extract (.t 6) 1, none⟩,
    ⟨some 11, .extract (.t 6) 2, none⟩,
    ⟨some 3, .mov (.t 9), none⟩,
    ⟨some 4, .mov (.t 10), none⟩,
    ⟨some 5, .mov (.t 11), none⟩])
  (.seq (.ops [⟨some 12, .mov (.t 4), none⟩,
    ⟨some 13, .bin .eql false (.t 12) (.c (.v (.int .i64 0))), none⟩,
    ⟨some 14, .mov (.t 13), none⟩,
    ⟨some 15, .mov (.t 3), some (14, true)⟩,
    ⟨some 16, .bin .eql false (.t 15) (.c (.v (.int .i64 2))), some (14, true)⟩,
    ⟨some 17, .pick (.t 14) (.t 16) (.c (.v (.bool false))), none⟩,
    ⟨some 2, .mov (.t 17), none⟩])
  .ret)))⟩ := by kernel_rfl

theorem ir15 : compF Try.prog 15 = some ⟨21, [.t 2],
  (.seq (.ops [⟨some 1, .box (.t 0), none⟩,
    ⟨some 2, .mov (.c (.v (.int .i64 0))), none⟩])
  (.seq (.seq (.ops [⟨some 6, .load 4 true (.t 1), none⟩,
    ⟨some 7, .call 13 [(.t 6)], none⟩])
  (.cond (.t 7)
    (.seq (.ops [⟨some 2, .mov (.c (.v (.int .i64 1))), none⟩])
    .ret)
    .skip))
  (.seq (.ops [⟨some 3, .mov (.c (.v (.int .i64 1))), none⟩])
  (.seq (.seq (.ops [⟨some 8, .faddr 3 (.t 1), none⟩,
    ⟨some 9, .load 1 false (.t 8), none⟩,
    ⟨some 10, .len false (.t 9), none⟩,
    ⟨some 11, .mov (.c (.v (.int .i64 0))), none⟩])
  (.block 0 (.loop
    (.seq (.ops [⟨some 12, .bin .lss false (.t 11) (.t 10), none⟩])
    (.seq (.cond (.t 12)
      .skip
      (.exit 0))
    (.seq (.block 1 (.seq (.ops [⟨some 13, .iaddr 4 (.t 9) (.t 11), none⟩,
      ⟨some 14, .load 4 true (.t 13), none⟩,
      ⟨some 5, .alloc (.agg [(.v (.int .i64 0)), (.v (.int .i64 0)), (.v (.int .i64 0)), (.v (.slice none 0 0))]), none⟩,
      ⟨none, .store 4 (.t 5) (.t 14), none⟩])
    (.ops [⟨some 15, .mov (.t 3), none⟩,
      ⟨some 16, .load 4 true (.t 5), none⟩,
      ⟨some 17, .call 15 [(.t 16)], none⟩,
      ⟨some 18, .bin .add false (.t 15) (.t 17), none⟩,
      ⟨some 3, .mov (.t 18), none⟩])))
    (.ops [⟨some 19, .bin .add false (.t 11) (.c (.v (.int .i64 1))), none⟩,
      ⟨some 11, .mov (.t 19), none⟩])))))))
  (.seq (.ops [⟨some 20, .mov (.t 3), none⟩,
    ⟨some 2, .mov (.t 20), none⟩])
  .ret)))))⟩ := by kernel_rfl

theorem ir16 : compF Try.prog 16 = some ⟨25, [.t 2],
  (.seq (.ops [⟨some 1, .box (.t 0), none⟩,
    ⟨some 2, .mov (.c (.v (.int .i64 0))), none⟩])
  (.seq (.ops [⟨some 6, .load 4 true (.t 1), none⟩,
    ⟨some 7, .call 14 [(.t 6)], none⟩,
    ⟨some 3, .mov (.t 7), none⟩])
  (.seq (.seq (.ops [⟨some 8, .mov (.t 3), none⟩])
  (.cond (.t 8)
    (.seq (.ops [⟨some 2, .mov (.c (.v (.int .i64 1))), none⟩])
    .ret)
    .skip))
  (.seq (.ops [⟨some 4, .mov (.c (.v (.int .i64 1))), none⟩])
  (.seq (.seq (.ops [⟨some 5, .mov (.c (.v (.int .i64 0))), none⟩])
  (.block 0 (.loop
    (.seq (.seq (.ops [⟨some 9, .mov (.t 5), none⟩,
      ⟨some 10, .faddr 3 (.t 1), none⟩,
      ⟨some 11, .load 1 false (.t 10), none⟩,
      ⟨some 12, .len false (.t 11), none⟩,
      ⟨some 13, .bin .lss false (.t 9) (.t 12), none⟩])
    (.cond (.t 13)
      .skip
      (.exit 0)))
    (.seq (.block 1 (.ops [⟨some 16, .mov (.t 4), none⟩,
      ⟨some 17, .faddr 3 (.t 1), none⟩,
      ⟨some 18, .load 1 false (.t 17), none⟩,
      ⟨some 19, .mov (.t 5), none⟩,
      ⟨some 20, .iaddr 4 (.t 18) (.t 19), none⟩,
      ⟨some 21, .load 4 true (.t 20), none⟩,
      ⟨some 22, .call 16 [(.t 21)], none⟩,
      ⟨some 23, .bin .add false (.t 16) (.t 22), none⟩,
      ⟨some 4, .mov (.t 23), none⟩]))
    (.ops [⟨some 14, .mov (.t 5), none⟩,
      ⟨some 15, .bin .add false (.t 14) (.c (.v (.int .i64 1))), none⟩,
      ⟨some 5, .mov (.t 15), none⟩]))))))
  (.seq (.ops [⟨some 24, .mov (.t 4), none⟩,
    ⟨some 2, .mov (.t 24), none⟩])
  .ret))))))⟩ := by kernel_rfl

theorem ir17 : compF Try.prog 17 = some ⟨17, [.t 2],
  (.seq (.ops [⟨some 1, .box (.t 0), none⟩,
    ⟨some 2, .mov (.c (.v (.bool false))), none⟩])
  (.seq (.seq (.ops [⟨some 3, .load 4 true (.t 1), none⟩,
    ⟨some 4, .call 13 [(.t 3)], none⟩])
  (.cond (.t 4)
    (.seq (.ops [⟨some 2, .mov (.c (.v (.bool true))), none⟩])
    .ret)
    .skip))
  (.seq (.seq (.ops [⟨some 5, .faddr 0 (.t 1), none⟩,
    ⟨some 6, .load 1 false (.t 5), none⟩])
  (.block 0 (.seq (.seq (.ops [⟨some 8, .bin .eql false (.t 6) (.c (.v (.int .i64 16))), none⟩,
    ⟨some 7, .mov (.t 8), none⟩])
  (.cond (.t 7)
    .skip
    (.seq (.ops [⟨some 9, .bin .eql false (.t 6) (.c (.v (.int .i64 17))), none⟩,
      ⟨some 7, .mov (.t 9), none⟩])
    (.cond (.t 7)
      .skip
      (.seq (.ops [⟨some 10, .bin .eql false (.t 6) (.c (.v (.int .i64 23))), none⟩,
        ⟨some 7, .mov (.t 10), none⟩])
      (.cond (.t 7)
        .skip
        (.seq (.ops [⟨some 11, .bin .eql false (.t 6) (.c (.v (.int .i64 24))), none⟩,
          ⟨some 7, .mov (.t 11), none⟩])
        (.cond (.t 7)
          .skip
          (.ops [⟨some 12, .bin .eql false (.t 6) (.c (.v (.int .i64 20))), none⟩,
            ⟨some 7, .mov (.t 12), none⟩])))))))))
  (.cond (.t 7)
    (.seq (.ops [⟨some 13, .faddr 3 (.t 1), none⟩,
      ⟨some 14, .load 1 false (.t 13), none⟩,
      ⟨some 15, .call 28 [(.t 14), (.c (.fn (.func 29) [] []))], none⟩,
      ⟨some 16, .un .not (.t 15), none⟩,
      ⟨some 2, .mov (.t 16), none⟩])
    .ret)
    .skip))))
  (.seq (.ops [⟨some 2, .mov (.c (.v (.bool false))), none⟩])
  .ret))))⟩ := by kernel_rfl

theorem ir18 : compF Try.prog 18 = some ⟨47, [.t 2],
  (.seq (.ops [⟨some 1, .box (.t 0), none⟩,
    ⟨some 2, .mov (.c (.v (.bool false))), none⟩])
  (.seq (.ops [⟨some 6, .load 4 true (.t 1), none⟩,
    ⟨some 7, .call 14 [(.t 6)], none⟩,
    ⟨some 3, .mov (.t 7), none⟩])
  (.seq (.seq (.ops [⟨some 8, .mov (.t 3), none⟩])
  (.cond (.t 8)
    (.seq (.ops [⟨some 2, .mov (.c (.v (.bool true))), none⟩])
    .ret)
    .skip))
  (.seq (.seq (.ops [⟨some 9, .faddr 0 (.t 1), none⟩,
    ⟨some 10, .load 1 false (.t 9), none⟩,
    ⟨some 11, .bin .neq false (.t 10) (.c (.v (.int .i64 16))), none⟩,
    ⟨some 12, .mov (.t 11), none⟩,
    ⟨some 13, .faddr 0 (.t 1), some (12, true)⟩,
    ⟨some 14, .load 1 false (.t 13), some (12, true)⟩,
    ⟨some 15, .bin .neq false (.t 14) (.c (.v (.int .i64 17))), some (12, true)⟩,
    ⟨some 16, .pick (.t 12) (.t 15) (.c (.v (.bool false))), none⟩,
    ⟨some 17, .mov (.t 16), none⟩,
    ⟨some 18, .faddr 0 (.t 1), some (17, true)⟩,
    ⟨some 19, .load 1 false (.t 18), some (17, true)⟩,
    ⟨some 20, .bin .neq false (.t 19) (.c (.v (.int .i64 20))), some (17, true)⟩,
    ⟨some 21, .pick (.t 17) (.t 20) (.c (.v (.bool false))), none⟩,
    ⟨some 22, .mov (.t 21), none⟩,
    ⟨some 23, .faddr 0 (.t 1), some (22, true)⟩,
    ⟨some 24, .load 1 false (.t 23), some (22, true)⟩,
    ⟨some 25, .bin .neq false (.t 24) (.c (.v (.int .i64 23))), some (22, true)⟩,
    ⟨some 26, .pick (.t 22) (.t 25) (.c (.v (.bool false))), none⟩,
    ⟨some 27, .mov (.t 26), none⟩,
    ⟨some 28, .faddr 0 (.t 1), some (27, true)⟩,
    ⟨some 29, .load 1 false (.t 28), some (27, true)⟩,
    ⟨some 30, .bin .neq false (.t 29) (.c (.v (.int .i64 24))), some (27, true)⟩,
    ⟨some 31, .pick (.t 27) (.t 30) (.c (.v (.bool false))), none⟩])
  (.cond (.t 31)
    (.seq (.ops [⟨some 2, .mov (.c (.v (.bool false))), none⟩])
    .ret)
    .skip))
  (.seq (.seq (.ops [⟨some 4, .mov (.c (.v (.int .i64 0))), none⟩])
  (.block 0 (.loop
    (.seq (.seq (.ops [⟨some 32, .mov (.t 4), none⟩,
      ⟨some 33, .faddr 3 (.t 1), none⟩,
      ⟨some 34, .load 1 false (.t 33), none⟩,
      ⟨some 35, .len false (.t 34), none⟩,
      ⟨some 36, .bin .lss false (.t 32) (.t 35), none⟩])
    (.cond (.t 36)
      .skip
      (.exit 0)))
    (.seq (.block 1 (.seq (.ops [⟨some 39, .faddr 3 (.t 1), none⟩,
      ⟨some 40, .load 1 false (.t 39), none⟩,
      ⟨some 41, .mov (.t 4), none⟩,
      ⟨some 42, .iaddr 4 (.t 40) (.t 41), none⟩,
      ⟨some 43, .load 4 true (.t 42), none⟩,
      ⟨some 44, .call 18 [(.t 43)], none⟩,
      ⟨some 5, .mov (.t 44), none⟩])
    (.seq (.ops [⟨some 45, .mov (.t 5), none⟩,
      ⟨some 46, .un .not (.t 45), none⟩])
    (.cond (.t 46)
      (.seq (.ops [⟨some 2, .mov (.c (.v (.bool false))), none⟩])
      .ret)
      .skip))))
    (.ops [⟨some 37, .mov (.t 4), none⟩,
      ⟨some 38, .bin .add false (.t 37) (.c (.v (.int .i64 1))), none⟩,
      ⟨some 4, .mov (.t 38), none⟩]))))))
  (.seq (.ops [⟨some 2, .mov (.c (.v (.bool true))), none⟩])
  .ret))))))⟩ := by kernel_rfl

theorem ir19 : compF Try.prog 19 = some ⟨55, [.t 4],
  (.seq (.ops [⟨some 2, .box (.t 0), none⟩,
    ⟨some 3, .box (.t 1), none⟩,
    ⟨some 4, .mov (.c (.v (.bool false))), none⟩])
  (.seq (.seq (.ops [⟨some 7, .faddr 2 (.t 2), none⟩,
    ⟨some 8, .load 1 false (.t 7), none⟩,
    ⟨some 9, .faddr 2 (.t 3), none⟩,
    ⟨some 10, .load 1 false (.t 9), none⟩,
    ⟨some 11, .bin .neq false (.t 8) (.t 10), none⟩,
    ⟨some 12, .mov (.t 11), none⟩,
    ⟨some 13, .faddr 0 (.t 2), some (12, false)⟩,
    ⟨some 14, .load 1 false (.t 13), some (12, false)⟩,
    ⟨some 15, .faddr 0 (.t 3), some (12, false)⟩,
    ⟨some 16, .load 1 false (.t 15), some (12, false)⟩,
    ⟨some 17, .bin .neq false (.t 14) (.t 16), some (12, false)⟩,
    ⟨some 18, .pick (.t 12) (.c (.v (.bool true))) (.t 17), none⟩,
    ⟨some 19, .mov (.t 18), none⟩,
    ⟨some 20, .faddr 1 (.t 2), some (19, false)⟩,
    ⟨some 21, .load 1 false (.t 20), some (19, false)⟩,
    ⟨some 22, .faddr 1 (.t 3), some (19, false)⟩,
    ⟨some 23, .load 1 false (.t 22), some (19, false)⟩,
    ⟨some 24, .bin .neq false (.t 21) (.t 23), some (19, false)⟩,
    ⟨some 25, .pick (.t 19) (.c (.v (.bool true))) (.t 24), none⟩,
    ⟨some 26, .mov (.t 25), none⟩,
    ⟨some 27, .faddr 3 (.t 2), some (26, false)⟩,
    ⟨some 28, .load 1 false (.t 27), some (26, false)⟩,
    ⟨some 29, .len false (.t 28), some (26, false)⟩,
    ⟨some 30, .faddr 3 (.t 3), some (26, false)⟩,
    ⟨some 31, .load 1 false (.t 30), some (26, false)⟩,
    ⟨some 32, .len false (.t 31), some (26, false)⟩,
    ⟨some 33, .bin .neq false (.t 29) (.t 32), some (26, false)⟩,
    ⟨some 34, .pick (.t 26) (.c (.v (.bool true))) (.t 33), none⟩])
  (.cond (.t 34)
    (.seq (.ops [⟨some 4, .mov (.c (.v (.bool false))), none⟩])
    .ret)
    .skip))
  (.seq (.seq (.ops [⟨some 5, .mov (.c (.v (.int .i64 0))), none⟩])
  (.block 0 (.loop
    (.seq (.seq (.ops [⟨some 35, .mov (.t 5), none⟩,
      ⟨some 36, .faddr 3 (.t 2), none⟩,
      ⟨some 37, .load 1 false (.t 36), none⟩,
      ⟨some 38, .len false (.t 37), none⟩,
      ⟨some 39, .bin .lss false (.t 35) (.t 38), none⟩])
    (.cond (.t 39)
      .skip
      (.exit 0)))
    (.seq (.block 1 (.seq (.draw [[⟨some 42, .faddr 3 (.t 2), none⟩,
        ⟨some 43, .load 1 false (.t 42), none⟩,
        ⟨some 44, .mov (.t 5), none⟩,
        ⟨some 45, .iaddr 4 (.t 43) (.t 44), none⟩,
        ⟨some 46, .load 4 true (.t 45), none⟩,
        ⟨some 47, .faddr 3 (.t 3), none⟩,
        ⟨some 48, .load 1 false (.t 47), none⟩,
        ⟨some 49, .mov (.t 5), none⟩,
        ⟨some 50, .iaddr 4 (.t 48) (.t 49), none⟩,
        ⟨some 51, .load 4 true (.t 50), none⟩],
      [⟨some 52, .call 19 [(.t 46), (.t 51)], none⟩],
      [⟨some 6, .mov (.t 52), none⟩]])
    (.seq (.ops [⟨some 53, .mov (.t 6), none⟩,
      ⟨some 54, .un .not (.t 53), none⟩])
    (.cond (.t 54)
      (.seq (.ops [⟨some 4, .mov (.c (.v (.bool false))), none⟩])
      .ret)
      .skip))))
    (.ops [⟨some 40, .mov (.t 5), none⟩,
      ⟨some 41, .bin .add false (.t 40) (.c (.v (.int .i64 1))), none⟩,
      ⟨some 5, .mov (.t 41), none⟩]))))))
  (.seq (.ops [⟨some 4, .mov (.c (.v (.bool true))), none⟩])
  .ret))))⟩ := by kernel_rfl

theorem ir20 : compF Try.prog 20 = some ⟨26, [.t 4],
  (.seq (.ops [⟨some 2, .box (.t 0), none⟩,
    ⟨some 4, .mov (.c (.v (.bool false))), none⟩])
  (.seq (.ops [⟨some 9, .load 4 true (.t 2), none⟩,
    ⟨some 10, .mov (.t 1), none⟩,
    ⟨some 11, .call 23 [(.t 9), (.t 10)], none⟩,
    ⟨some 5, .mov (.t 11), none⟩])
  (.seq (.seq (.ops [⟨some 12, .mov (.t 5), none⟩,
    ⟨some 13, .un .not (.t 12), none⟩])
  (.cond (.t 13)
    (.seq (.ops [⟨some 4, .mov (.c (.v (.bool false))), none⟩])
    .ret)
    .skip))
  (.seq (.ops [⟨some 15, .load 4 true (.t 2), none⟩,
    ⟨some 16, .call 24 [(.t 15)], none⟩,
    ⟨some 14, .mov (.t 16), none⟩,
    ⟨some 17, .extract (.t 14) 0, none⟩,
    ⟨some 18, .extract (.t 14) 1, none⟩,
    ⟨some 19, .extract (.t 14) 2, none⟩,
    ⟨some 6, .mov (.t 17), none⟩,
    ⟨some 7, .mov (.t 18), none⟩,
    ⟨some 8, .mov (.t 19), none⟩])
  (.seq (.ops [⟨some 20, .mov (.t 7), none⟩,
    ⟨some 21, .bin .eql false (.t 20) (.c (.v (.int .i64 0))), none⟩,
    ⟨some 22, .mov (.t 21), none⟩,
    ⟨some 23, .mov (.t 6), some (22, true)⟩,
    ⟨some 24, .bin .neq false (.t 23) (.c (.v (.int .i64 1))), some (22, true)⟩,
    ⟨some 25, .pick (.t 22) (.t 24) (.c (.v (.bool false))), none⟩,
    ⟨some 4, .mov (.t 25), none⟩])
  .ret)))))⟩ := by kernel_rfl

theorem ir21 : compF Try.prog 21 = some ⟨48, [.t 4],
  (.seq (.ops [⟨some 2, .box (.t 0), none⟩,
    ⟨some 3, .box (.t 1), none⟩,
    ⟨some 4, .mov (.c (.v (.bool false))), none⟩])
  (.seq (.seq (.ops [⟨some 7, .faddr 0 (.t 2), none⟩,
    ⟨some 8, .load 1 false (.t 7), none⟩,
    ⟨some 9, .faddr 0 (.t 3), none⟩,
    ⟨some 10, .load 1 false (.t 9), none⟩,
    ⟨some 11, .bin .neq false (.t 8) (.t 10), none⟩,
    ⟨some 12, .mov (.t 11), none⟩,
    ⟨some 13, .faddr 1 (.t 2), some (12, false)⟩,
    ⟨some 14, .load 1 false (.t 13), some (12, false)⟩,
    ⟨some 15, .faddr 1 (.t 3), some (12, false)⟩,
    ⟨some 16, .load 1 false (.t 15), some (12, false)⟩,
    ⟨some 17, .bin .neq false (.t 14) (.t 16), some (12, false)⟩,
    ⟨some 18, .pick (.t 12) (.c (.v (.bool true))) (.t 17), none⟩,
    ⟨some 19, .mov (.t 18), none⟩,
    ⟨some 20, .faddr 3 (.t 2), some (19, false)⟩,
    ⟨some 21, .load 1 false (.t 20), some (19, false)⟩,
    ⟨some 22, .len false (.t 21), some (19, false)⟩,
    ⟨some 23, .faddr 3 (.t 3), some (19, false)⟩,
    ⟨some 24, .load 1 false (.t 23), some (19, false)⟩,
    ⟨some 25, .len false (.t 24), some (19, false)⟩,
    ⟨some 26, .bin .neq false (.t 22) (.t 25), some (19, false)⟩,
    ⟨some 27, .pick (.t 19) (.c (.v (.bool true))) (.t 26), none⟩])
  (.cond (.t 27)
    (.seq (.ops [⟨some 4, .mov (.c (.v (.bool false))), none⟩])
    .ret)
    .skip))
  (.seq (.seq (.ops [⟨some 5, .mov (.c (.v (.int .i64 0))), none⟩])
  (.block 0 (.loop
    (.seq (.seq (.ops [⟨some 28, .mov (.t 5), none⟩,
      ⟨some 29, .faddr 3 (.t 2), none⟩,
      ⟨some 30, .load 1 false (.t 29), none⟩,
      ⟨some 31, .len false (.t 30), none⟩,
      ⟨some 32, .bin .lss false (.t 28) (.t 31), none⟩])
    (.cond (.t 32)
      .skip
      (.exit 0)))
    (.seq (.block 1 (.seq (.draw [[⟨some 35, .faddr 3 (.t 2), none⟩,
        ⟨some 36, .load 1 false (.t 35), none⟩,
        ⟨some 37, .mov (.t 5), none⟩,
        ⟨some 38, .iaddr 4 (.t 36) (.t 37), none⟩,
        ⟨some 39, .load 4 true (.t 38), none⟩,
        ⟨some 40, .faddr 3 (.t 3), none⟩,
        ⟨some 41, .load 1 false (.t 40), none⟩,
        ⟨some 42, .mov (.t 5), none⟩,
        ⟨some 43, .iaddr 4 (.t 41) (.t 42), none⟩,
        ⟨some 44, .load 4 true (.t 43), none⟩],
      [⟨some 45, .call 21 [(.t 39), (.t 44)], none⟩],
      [⟨some 6, .mov (.t 45), none⟩]])
    (.seq (.ops [⟨some 46, .mov (.t 6), none⟩,
      ⟨some 47, .un .not (.t 46), none⟩])
    (.cond (.t 47)
      (.seq (.ops [⟨some 4, .mov (.c (.v (.bool false))), none⟩])
      .ret)
      .skip))))
    (.ops [⟨some 33, .mov (.t 5), none⟩,
      ⟨some 34, .bin .add false (.t 33) (.c (.v (.int .i64 1))), none⟩,
      ⟨some 5, .mov (.t 34), none⟩]))))))
  (.seq (.ops [⟨some 4, .mov (.c (.v (.bool true))), none⟩])
  .ret))))⟩ := by kernel_rfl

theorem ir22 : compF Try.prog 22 = some ⟨15, [.t 2],
  (.seq (.ops [⟨some 1, .box (.t 0), none⟩,
    ⟨some 2, .mov (.c (.v (.bool false))), none⟩])
  (.seq (.ops [⟨some 5, .load 4 true (.t 1), none⟩,
    ⟨some 6, .call 30 [(.t 5), (.c (.v (.int .i64 45)))], none⟩,
    ⟨some 3, .mov (.t 6), none⟩])
  (.seq (.ops [⟨some 7, .load 4 true (.t 1), none⟩,
    ⟨some 8, .call 31 [(.t 7), (.c (.v (.int .i64 300)))], none⟩,
    ⟨some 4, .mov (.t 8), none⟩])
  (.seq (.ops [⟨some 9, .mov (.t 3), none⟩,
    ⟨some 10, .bin .lss false (.t 9) (.c (.v (.int .i64 45))), none⟩,
    ⟨some 11, .mov (.t 10), none⟩,
    ⟨some 12, .mov (.t 4), some (11, true)⟩,
    ⟨some 13, .bin .lss false (.t 12) (.c (.v (.int .i64 300))), some (11, true)⟩,
    ⟨some 14, .pick (.t 11) (.t 13) (.c (.v (.bool false))), none⟩,
    ⟨some 2, .mov (.t 14), none⟩])
  .ret))))⟩ := by kernel_rfl

set_option maxRecDepth 100000 in
theorem ir23 : compF Try.prog 23 = some ⟨89, [.t 4],
  (.seq (.ops [⟨some 2, .box (.t 0), none⟩,
    ⟨some 4, .mov (.c (.v (.bool false))), none⟩])
  (.seq (.ops [⟨some 5, .mov (.c (.v (.int .i64 2))), none⟩])
  (.seq (.seq (.ops [⟨some 8, .faddr 0 (.t 2), none⟩,
    ⟨some 9, .load 1 false (.t 8), none⟩])
  (.block 0 (.seq (.seq (.ops [⟨some 11, .bin .eql false (.t 9) (.c (.v (.int .i64 1))), none⟩,
    ⟨some 10, .mov (.t 11), none⟩])
  (.cond (.t 10)
    .skip
    (.seq (.ops [⟨some 12, .bin .eql false (.t 9) (.c (.v (.int .i64 2))), none⟩,
      ⟨some 10, .mov (.t 12), none⟩])
    (.cond (.t 10)
      .skip
      (.seq (.ops [⟨some 13, .bin .eql false (.t 9) (.c (.v (.int .i64 13))), none⟩,
        ⟨some 10, .mov (.t 13), none⟩])
      (.cond (.t 10)
        .skip
        (.ops [⟨some 14, .bin .eql false (.t 9) (.c (.v (.int .i64 14))), none⟩,
          ⟨some 10, .mov (.t 14), none⟩])))))))
  (.cond (.t 10)
    (.ops [⟨some 5, .mov (.c (.v (.int .i64 0))), none⟩])
    (.seq (.seq (.ops [⟨some 16, .bin .eql false (.t 9) (.c (.v (.int .i64 6))), none⟩,
      ⟨some 15, .mov (.t 16), none⟩])
    (.cond (.t 15)
      .skip
      (.seq (.ops [⟨some 17, .bin .eql false (.t 9) (.c (.v (.int .i64 15))), none⟩,
        ⟨some 15, .mov (.t 17), none⟩])
      (.cond (.t 15)
        .skip
        (.seq (.ops [⟨some 18, .bin .eql false (.t 9) (.c (.v (.int .i64 20))), none⟩,
          ⟨some 15, .mov (.t 18), none⟩])
        (.cond (.t 15)
          .skip
          (.seq (.ops [⟨some 19, .bin .eql false (.t 9) (.c (.v (.int .i64 21))), none⟩,
            ⟨some 15, .mov (.t 19), none⟩])
          (.cond (.t 15)
            .skip
            (.ops [⟨some 20, .bin .eql false (.t 9) (.c (.v (.int .i64 22))), none⟩,
              ⟨some 15, .mov (.t 20), none⟩])))))))))
    (.cond (.t 15)
      (.ops [⟨some 5, .mov (.c (.v (.int .i64 1))), none⟩])
      .skip))))))
  (.seq (.seq (.ops [⟨some 21, .faddr 0 (.t 2), none⟩,
    ⟨some 22, .load 1 false (.t 21), none⟩,
    ⟨some 23, .bin .lss false (.t 22) (.c (.v (.int .i64 1))), none⟩,
    ⟨some 24, .mov (.t 23), none⟩,
    ⟨some 25, .faddr 0 (.t 2), some (24, false)⟩,
    ⟨some 26, .load 1 false (.t 25), some (24, false)⟩,
    ⟨some 27, .bin .gtr false (.t 26) (.c (.v (.int .i64 24))), some (24, false)⟩,
    ⟨some 28, .pick (.t 24) (.c (.v (.bool true))) (.t 27), none⟩,
    ⟨some 29, .mov (.t 28), none⟩,
    ⟨some 30, .faddr 3 (.t 2), some (29, false)⟩,
    ⟨some 31, .load 1 false (.t 30), some (29, false)⟩,
    ⟨some 32, .len false (.t 31), some (29, false)⟩,
    ⟨some 33, .mov (.t 5), some (29, false)⟩,
    ⟨some 34, .bin .neq false (.t 32) (.t 33), some (29, false)⟩,
    ⟨some 35, .pick (.t 29) (.c (.v (.bool true))) (.t 34), none⟩])
  (.cond (.t 35)
    (.seq (.ops [⟨some 4, .mov (.c (.v (.bool false))), none⟩])
    .ret)
    .skip))
  (.seq (.seq (.ops [⟨some 36, .faddr 0 (.t 2), none⟩,
    ⟨some 37, .load 1 false (.t 36), none⟩,
    ⟨some 38, .bin .eql false (.t 37) (.c (.v (.int .i64 1))), none⟩,
    ⟨some 39, .mov (.t 38), none⟩,
    ⟨some 40, .faddr 1 (.t 2), some (39, true)⟩,
    ⟨some 41, .load 1 false (.t 40), some (39, true)⟩,
    ⟨some 42, .bin .lss false (.t 41) (.c (.v (.int .i64 0))), some (39, true)⟩,
    ⟨some 43, .mov (.t 42), some (39, true)⟩,
    ⟨some 44, .faddr 1 (.t 2), some (43, false)⟩,
    ⟨some 45, .load 1 false (.t 44), some (43, false)⟩,
    ⟨some 46, .bin .gtr false (.t 45) (.c (.v (.int .i64 1073741824))), some (43, false)⟩,
    ⟨some 47, .pick (.t 43) (.c (.v (.bool true))) (.t 46), some (39, true)⟩,
    ⟨some 48, .pick (.t 39) (.t 47) (.c (.v (.bool false))), none⟩,
    ⟨some 49, .mov (.t 48), none⟩,
    ⟨some 50, .faddr 0 (.t 2), some (49, false)⟩,
    ⟨some 51, .load 1 false (.t 50), some (49, false)⟩,
    ⟨some 52, .bin .eql false (.t 51) (.c (.v (.int .i64 2))), some (49, false)⟩,
    ⟨some 53, .mov (.t 52), some (49, false)⟩,
    ⟨some 54, .faddr 1 (.t 2), some (53, true)⟩,
    ⟨some 55, .load 1 false (.t 54), some (53, true)⟩,
    ⟨some 56, .bin .lss false (.t 55) (.c (.v (.int .i64 0))), some (53, true)⟩,
    ⟨some 57, .mov (.t 56), some (53, true)⟩,
    ⟨some 58, .faddr 1 (.t 2), some (57, false)⟩,
    ⟨some 59, .load 1 false (.t 58), some (57, false)⟩,
    ⟨some 60, .mov (.t 1), some (57, false)⟩,
    ⟨some 61, .bin .geq false (.t 59) (.t 60), some (57, false)⟩,
    ⟨some 62, .pick (.t 57) (.c (.v (.bool true))) (.t 61), some (53, true)⟩,
    ⟨some 63, .pick (.t 53) (.t 62) (.c (.v (.bool false))), some (49, false)⟩,
    ⟨some 64, .pick (.t 49) (.c (.v (.bool true))) (.t 63), none⟩,
    ⟨some 65, .mov (.t 64), none⟩,
    ⟨some 66, .faddr 0 (.t 2), some (65, false)⟩,
    ⟨some 67, .load 1 false (.t 66), some (65, false)⟩,
    ⟨some 68, .bin .gtr false (.t 67) (.c (.v (.int .i64 2))), some (65, false)⟩,
    ⟨some 69, .mov (.t 68), some (65, false)⟩,
    ⟨some 70, .faddr 1 (.t 2), some (69, true)⟩,
    ⟨some 71, .load 1 false (.t 70), some (69, true)⟩,
    ⟨some 72, .bin .neq false (.t 71) (.c (.v (.int .i64 0))), some (69, true)⟩,
    ⟨some 73, .pick (.t 69) (.t 72) (.c (.v (.bool false))), some (65, false)⟩,
    ⟨some 74, .pick (.t 65) (.c (.v (.bool true))) (.t 73), none⟩])
  (.cond (.t 74)
    (.seq (.ops [⟨some 4, .mov (.c (.v (.bool false))), none⟩])
    .ret)
    .skip))
  (.seq (.seq (.ops [⟨some 6, .mov (.c (.v (.int .i64 0))), none⟩])
  (.block 1 (.loop
    (.seq (.seq (.ops [⟨some 75, .mov (.t 6), none⟩,
      ⟨some 76, .mov (.t 5), none⟩,
      ⟨some 77, .bin .lss false (.t 75) (.t 76), none⟩])
    (.cond (.t 77)
      .skip
      (.exit 1)))
    (.seq (.block 2 (.seq (.ops [⟨some 80, .faddr 3 (.t 2), none⟩,
      ⟨some 81, .load 1 false (.t 80), none⟩,
      ⟨some 82, .mov (.t 6), none⟩,
      ⟨some 83, .iaddr 4 (.t 81) (.t 82), none⟩,
      ⟨some 84, .load 4 true (.t 83), none⟩,
      ⟨some 85, .mov (.t 1), none⟩,
      ⟨some 86, .call 23 [(.t 84), (.t 85)], none⟩,
      ⟨some 7, .mov (.t 86), none⟩])
    (.seq (.ops [⟨some 87, .mov (.t 7), none⟩,
      ⟨some 88, .un .not (.t 87), none⟩])
    (.cond (.t 88)
      (.seq (.ops [⟨some 4, .mov (.c (.v (.bool false))), none⟩])
      .ret)
      .skip))))
    (.ops [⟨some 78, .mov (.t 6), none⟩,
      ⟨some 79, .bin .add false (.t 78) (.c (.v (.int .i64 1))), none⟩,
      ⟨some 6, .mov (.t 79), none⟩]))))))
  (.seq (.ops [⟨some 4, .mov (.c (.v (.bool true))), none⟩])
  .ret)))))))⟩ := by kernel_rfl

set_option maxRecDepth 100000 in
theorem ir24 : compF Try.prog 24 = some ⟨105, [.t 2, .t 3, .t 4],
  (.seq (.ops [⟨some 1, .box (.t 0), none⟩,
    ⟨some 2, .mov (.c (.v (.int .i64 0))), none⟩,
    ⟨some 3, .mov (.c (.v (.int .i64 0))), none⟩,
    ⟨some 4, .mov (.c (.v (.int .i64 0))), none⟩])
  (.seq (.ops [⟨some 5, .mov (.c (.v (.int .i64 0))), none⟩])
  (.seq (.ops [⟨some 6, .mov (.c (.v (.int .i64 0))), none⟩])
  (.seq (.ops [⟨some 7, .mov (.c (.v (.int .i64 0))), none⟩])
  (.seq (.seq (.ops [⟨some 8, .mov (.c (.v (.int .i64 0))), none⟩])
  (.block 0 (.loop
    (.seq (.seq (.ops [⟨some 13, .mov (.t 8), none⟩,
      ⟨some 14, .faddr 3 (.t 1), none⟩,
      ⟨some 15, .load 1 false (.t 14), none⟩,
      ⟨some 16, .len false (.t 15), none⟩,
      ⟨some 17, .bin .lss false (.t 13) (.t 16), none⟩])
    (.cond (.t 17)
      .skip
      (.exit 0)))
    (.seq (.block 1 (.seq (.ops [⟨some 21, .faddr 3 (.t 1), none⟩,
      ⟨some 22, .load 1 false (.t 21), none⟩,
      ⟨some 23, .mov (.t 8), none⟩,
      ⟨some 24, .iaddr 4 (.t 22) (.t 23), none⟩,
      ⟨some 25, .load 4 true (.t 24), none⟩,
      ⟨some 26, .call 24 [(.t 25)], none⟩,
      ⟨some 20, .mov (.t 26), none⟩,
      ⟨some 27, .extract (.t 20) 0, none⟩,
      ⟨some 28, .extract (.t 20) 1, none⟩,
      ⟨some 29, .extract (.t 20) 2, none⟩,
      ⟨some 9, .mov (.t 27), none⟩,
      ⟨some 10, .mov (.t 28), none⟩,
      ⟨some 11, .mov (.t 29), none⟩])
    (.seq (.seq (.ops [⟨some 30, .mov (.t 10), none⟩,
      ⟨some 31, .bin .neq false (.t 30) (.c (.v (.int .i64 0))), none⟩])
    (.cond (.t 31)
      (.seq (.ops [⟨some 32, .mov (.t 10), none⟩,
        ⟨some 33, .mov (.t 11), none⟩,
        ⟨some 2, .mov (.c (.v (.int .i64 0))), none⟩,
        ⟨some 3, .mov (.t 32), none⟩,
        ⟨some 4, .mov (.t 33), none⟩])
      .ret)
      .skip))
    (.seq (.seq (.ops [⟨some 34, .mov (.t 9), none⟩,
      ⟨some 35, .bin .eql false (.t 34) (.c (.v (.int .i64 1))), none⟩])
    (.cond (.t 35)
      (.ops [⟨some 36, .mov (.t 5), none⟩,
        ⟨some 37, .bin .add false (.t 36) (.c (.v (.int .i64 1))), none⟩,
        ⟨some 5, .mov (.t 37), none⟩])
      .skip))
    (.seq (.seq (.ops [⟨some 38, .mov (.t 9), none⟩,
      ⟨some 39, .bin .eql false (.t 38) (.c (.v (.int .i64 2))), none⟩])
    (.cond (.t 39)
      (.ops [⟨some 40, .mov (.t 6), none⟩,
        ⟨some 41, .bin .add false (.t 40) (.c (.v (.int .i64 1))), none⟩,
        ⟨some 6, .mov (.t 41), none⟩])
      .skip))
    (.seq (.ops [⟨some 42, .mov (.t 9), none⟩,
      ⟨some 43, .bin .eql false (.t 42) (.c (.v (.int .i64 3))), none⟩])
    (.cond (.t 43)
      (.ops [⟨some 44, .mov (.t 7), none⟩,
        ⟨some 45, .bin .add false (.t 44) (.c (.v (.int .i64 1))), none⟩,
        ⟨some 7, .mov (.t 45), none⟩])
      .skip)))))))
    (.ops [⟨some 18, .mov (.t 8), none⟩,
      ⟨some 19, .bin .add false (.t 18) (.c (.v (.int .i64 1))), none⟩,
      ⟨some 8, .mov (.t 19), none⟩]))))))
  (.seq (.ops [⟨some 46, .faddr 3 (.t 1), none⟩,
    ⟨some 47, .load 1 false (.t 46), none⟩,
    ⟨some 48, .len false (.t 47), none⟩,
    ⟨some 12, .mov (.t 48), none⟩])
  (.seq (.seq (.ops [⟨some 49, .faddr 0 (.t 1), none⟩,
    ⟨some 50, .load 1 false (.t 49), none⟩,
    ⟨some 51, .bin .leq false (.t 50) (.c (.v (.int .i64 6))), none⟩,
    ⟨some 52, .mov (.t 51), none⟩,
    ⟨some 53, .mov (.t 5), some (52, true)⟩,
    ⟨some 54, .mov (.t 12), some (52, true)⟩,
    ⟨some 55, .bin .eql false (.t 53) (.t 54), some (52, true)⟩,
    ⟨some 56, .pick (.t 52) (.t 55) (.c (.v (.bool false))), none⟩])
  (.cond (.t 56)
    (.seq (.ops [⟨some 2, .mov (.c (.v (.int .i64 1))), none⟩,
      ⟨some 3, .mov (.c (.v (.int .i64 0))), none⟩,
      ⟨some 4, .mov (.c (.v (.int .i64 0))), none⟩])
    .ret)
    .skip))
  (.seq (.seq (.ops [⟨some 57, .faddr 0 (.t 1), none⟩,
    ⟨some 58, .load 1 false (.t 57), none⟩,
    ⟨some 59, .bin .geq false (.t 58) (.c (.v (.int .i64 7))), none⟩,
    ⟨some 60, .mov (.t 59), none⟩,
    ⟨some 61, .faddr 0 (.t 1), some (60, true)⟩,
    ⟨some 62, .load 1 false (.t 61), some (60, true)⟩,
    ⟨some 63, .bin .leq false (.t 62) (.c (.v (.int .i64 12))), some (60, true)⟩,
    ⟨some 64, .pick (.t 60) (.t 63) (.c (.v (.bool false))), none⟩,
    ⟨some 65, .mov (.t 64), none⟩,
    ⟨some 66, .mov (.t 5), some (65, true)⟩,
    ⟨some 67, .mov (.t 12), some (65, true)⟩,
    ⟨some 68, .bin .eql false (.t 66) (.t 67), some (65, true)⟩,
    ⟨some 69, .pick (.t 65) (.t 68) (.c (.v (.bool false))), none⟩,
    ⟨some 70, .mov (.t 69), none⟩,
    ⟨some 71, .faddr 0 (.t 1), some (70, false)⟩,
    ⟨some 72, .load 1 false (.t 71), some (70, false)⟩,
    ⟨some 73, .bin .eql false (.t 72) (.c (.v (.int .i64 13))), some (70, false)⟩,
    ⟨some 74, .pick (.t 70) (.c (.v (.bool true))) (.t 73), none⟩,
    ⟨some 75, .mov (.t 74), none⟩,
    ⟨some 76, .faddr 0 (.t 1), some (75, false)⟩,
    ⟨some 77, .load 1 false (.t 76), some (75, false)⟩,
    ⟨some 78, .bin .eql false (.t 77) (.c (.v (.int .i64 14))), some (75, false)⟩,
    ⟨some 79, .pick (.t 75) (.c (.v (.bool true))) (.t 78), none⟩])
  (.cond (.t 79)
    (.seq (.ops [⟨some 2, .mov (.c (.v (.int .i64 2))), none⟩,
      ⟨some 3, .mov (.c (.v (.int .i64 0))), none⟩,
      ⟨some 4, .mov (.c (.v (.int .i64 0))), none⟩])
    .ret)
    .skip))
  (.seq (.seq (.ops [⟨some 80, .faddr 0 (.t 1), none⟩,
    ⟨some 81, .load 1 false (.t 80), none⟩,
    ⟨some 82, .bin .geq false (.t 81) (.c (.v (.int .i64 15))), none⟩,
    ⟨some 83, .mov (.t 82), none⟩,
    ⟨some 84, .faddr 0 (.t 1), some (83, true)⟩,
    ⟨some 85, .load 1 false (.t 84), some (83, true)⟩,
    ⟨some 86, .bin .leq false (.t 85) (.c (.v (.int .i64 19))), some (83, true)⟩,
    ⟨some 87, .pick (.t 83) (.t 86) (.c (.v (.bool false))), none⟩,
    ⟨some 88, .mov (.t 87), none⟩,
    ⟨some 89, .mov (.t 6), some (88, true)⟩,
    ⟨some 90, .mov (.t 12), some (88, true)⟩,
    ⟨some 91, .bin .eql false (.t 89) (.t 90), some (88, true)⟩,
    ⟨some 92, .pick (.t 88) (.t 91) (.c (.v (.bool false))), none⟩])
  (.cond (.t 92)
    (.seq (.ops [⟨some 2, .mov (.c (.v (.int .i64 2))), none⟩,
      ⟨some 3, .mov (.c (.v (.int .i64 0))), none⟩,
      ⟨some 4, .mov (.c (.v (.int .i64 0))), none⟩])
    .ret)
    .skip))
  (.seq (.seq (.ops [⟨some 93, .faddr 0 (.t 1), none⟩,
    ⟨some 94, .load 1 false (.t 93), none⟩,
    ⟨some 95, .bin .geq false (.t 94) (.c (.v (.int .i64 15))), none⟩,
    ⟨some 96, .mov (.t 95), none⟩,
    ⟨some 97, .mov (.t 6), some (96, true)⟩,
    ⟨some 98, .mov (.t 7), some (96, true)⟩,
    ⟨some 99, .bin .add false (.t 97) (.t 98), some (96, true)⟩,
    ⟨some 100, .mov (.t 12), some (96, true)⟩,
    ⟨some 101, .bin .eql false (.t 99) (.t 100), some (96, true)⟩,
    ⟨some 102, .pick (.t 96) (.t 101) (.c (.v (.bool false))), none⟩])
  (.cond (.t 102)
    (.seq (.ops [⟨some 2, .mov (.c (.v (.int .i64 3))), none⟩,
      ⟨some 3, .mov (.c (.v (.int .i64 0))), none⟩,
      ⟨some 4, .mov (.c (.v (.int .i64 0))), none⟩])
    .ret)
    .skip))
  (.seq (.draw [[⟨some 103, .faddr 2 (.t 1), none⟩,
      ⟨some 104, .load 1 false (.t 103), none⟩,
      ⟨some 2, .mov (.c (.v (.int .i64 0))), none⟩,
      ⟨some 3, .mov (.c (.v (.int .i64 4))), none⟩],
    [⟨some 4, .mov (.t 104), none⟩]])
  .ret)))))))))))⟩ := by kernel_rfl

theorem ir25 : compF Try.prog 25 = some ⟨15, [.c 4 4 true, .t 5],
  (.seq (.ops [⟨some 2, .box (.t 0), none⟩,
    ⟨some 4, .alloc (.agg [(.v (.int .i64 0)), (.v (.int .i64 0)), (.v (.int .i64 0)), (.v (.slice none 0 0))]), none⟩,
    ⟨some 5, .mov (.c (.v (.int .i64 0))), none⟩])
  (.seq (.ops [⟨some 6, .alloc (.v (.int .i64 0)), none⟩,
    ⟨none, .store 1 (.t 6) (.c (.v (.int .i64 24))), none⟩])
  (.seq (.ops [⟨some 8, .load 4 true (.t 2), none⟩,
    ⟨some 9, .mov (.t 1), none⟩,
    ⟨some 10, .call 32 [(.t 8), (.t 9), (.t 6)], none⟩,
    ⟨some 7, .alloc (.agg [(.v (.int .i64 0)), (.v (.int .i64 0)), (.v (.int .i64 0)), (.v (.slice none 0 0))]), none⟩,
    ⟨none, .store 4 (.t 7) (.t 10), none⟩])
  (.seq (.seq (.ops [⟨some 11, .load 1 false (.t 6), none⟩,
    ⟨some 12, .bin .lss false (.t 11) (.c (.v (.int .i64 0))), none⟩])
  (.cond (.t 12)
    (.seq (.ops [⟨some 13, .build [(.v (.int .i64 0)), (.v (.int .i64 0)), (.v (.int .i64 0)), (.v (.slice none 0 0))] [], none⟩,
      ⟨none, .store 4 (.t 4) (.t 13), none⟩,
      ⟨some 5, .mov (.c (.v (.int .i64 9))), none⟩])
    .ret)
    .skip))
  (.seq (.ops [⟨some 14, .load 4 true (.t 7), none⟩,
    ⟨none, .store 4 (.t 4) (.t 14), none⟩,
    ⟨some 5, .mov (.c (.v (.int .i64 0))), none⟩])
  .ret)))))⟩ := by kernel_rfl

theorem ir26 : compF Try.prog 26 = some ⟨13, [.c 4 4 true, .t 5],
  (.seq (.ops [⟨some 2, .box (.t 0), none⟩,
    ⟨some 4, .alloc (.agg [(.v (.int .i64 0)), (.v (.int .i64 0)), (.v (.int .i64 0)), (.v (.slice none 0 0))]), none⟩,
    ⟨some 5, .mov (.c (.v (.int .i64 0))), none⟩])
  (.seq (.seq (.ops [⟨some 6, .load 4 true (.t 2), none⟩,
    ⟨some 7, .call 33 [(.t 6), (.c (.v (.int .i64 30)))], none⟩,
    ⟨some 8, .bin .gtr false (.t 7) (.c (.v (.int .i64 24))), none⟩])
  (.cond (.t 8)
    (.seq (.ops [⟨some 9, .build [(.v (.int .i64 0)), (.v (.int .i64 0)), (.v (.int .i64 0)), (.v (.slice none 0 0))] [], none⟩,
      ⟨none, .store 4 (.t 4) (.t 9), none⟩,
      ⟨some 5, .mov (.c (.v (.int .i64 9))), none⟩])
    .ret)
    .skip))
  (.seq (.ops [⟨some 10, .load 4 true (.t 2), none⟩,
    ⟨some 11, .mov (.t 1), none⟩,
    ⟨some 12, .call 34 [(.t 10), (.t 11)], none⟩,
    ⟨none, .store 4 (.t 4) (.t 12), none⟩,
    ⟨some 5, .mov (.c (.v (.int .i64 0))), none⟩])
  .ret)))⟩ := by kernel_rfl

set_option maxRecDepth 100000 in
theorem ir27 : compF Try.prog 27 = some ⟨91, [.t 2, .t 3, .t 4],
  (.seq (.ops [⟨some 1, .box (.t 0), none⟩,
    ⟨some 2, .mov (.c (.v (.int .i64 0))), none⟩,
    ⟨some 3, .mov (.c (.v (.int .i64 0))), none⟩,
    ⟨some 4, .mov (.c (.v (.int .i64 0))), none⟩])
  (.seq (.ops [⟨some 5, .mov (.c (.v (.bool true))), none⟩,
    ⟨some 6, .mov (.c (.v (.bool true))), none⟩,
    ⟨some 7, .mov (.c (.v (.bool true))), none⟩])
  (.seq (.seq (.ops [⟨some 13, .faddr 3 (.t 1), none⟩,
    ⟨some 14, .load 1 false (.t 13), none⟩,
    ⟨some 15, .len false (.t 14), none⟩,
    ⟨some 16, .mov (.c (.v (.int .i64 0))), none⟩])
  (.block 0 (.loop
    (.seq (.ops [⟨some 17, .bin .lss false (.t 16) (.t 15), none⟩])
    (.seq (.cond (.t 17)
      .skip
      (.exit 0))
    (.seq (.block 1 (.seq (.ops [⟨some 18, .iaddr 4 (.t 14) (.t 16), none⟩,
      ⟨some 19, .load 4 true (.t 18), none⟩,
      ⟨some 9, .alloc (.agg [(.v (.int .i64 0)), (.v (.int .i64 0)), (.v (.int .i64 0)), (.v (.slice none 0 0))]), none⟩,
      ⟨none, .store 4 (.t 9) (.t 19), none⟩])
    (.seq (.ops [⟨some 21, .load 4 true (.t 9), none⟩,
      ⟨some 22, .call 27 [(.t 21)], none⟩,
      ⟨some 20, .mov (.t 22), none⟩,
      ⟨some 23, .extract (.t 20) 0, none⟩,
      ⟨some 24, .extract (.t 20) 1, none⟩,
      ⟨some 25, .extract (.t 20) 2, none⟩,
      ⟨some 10, .mov (.t 23), none⟩,
      ⟨some 11, .mov (.t 24), none⟩,
      ⟨some 12, .mov (.t 25), none⟩])
    (.seq (.seq (.ops [⟨some 26, .mov (.t 11), none⟩,
      ⟨some 27, .bin .neq false (.t 26) (.c (.v (.int .i64 0))), none⟩])
    (.cond (.t 27)
      (.seq (.ops [⟨some 28, .mov (.t 11), none⟩,
        ⟨some 29, .mov (.t 12), none⟩,
        ⟨some 2, .mov (.c (.v (.int .i64 0))), none⟩,
        ⟨some 3, .mov (.t 28), none⟩,
        ⟨some 4, .mov (.t 29), none⟩])
      .ret)
      .skip))
    (.seq (.ops [⟨some 30, .mov (.t 5), none⟩,
      ⟨some 31, .mov (.t 30), none⟩,
      ⟨some 32, .mov (.t 10), some (31, true)⟩,
      ⟨some 33, .bin .eql false (.t 32) (.c (.v (.int .i64 1))), some (31, true)⟩,
      ⟨some 34, .pick (.t 31) (.t 33) (.c (.v (.bool false))), none⟩,
      ⟨some 5, .mov (.t 34), none⟩])
    (.seq (.ops [⟨some 35, .mov (.t 6), none⟩,
      ⟨some 36, .mov (.t 35), none⟩,
      ⟨some 37, .mov (.t 10), some (36, true)⟩,
      ⟨some 38, .bin .eql false (.t 37) (.c (.v (.int .i64 2))), some (36, true)⟩,
      ⟨some 39, .pick (.t 36) (.t 38) (.c (.v (.bool false))), none⟩,
      ⟨some 6, .mov (.t 39), none⟩])
    (.ops [⟨some 40, .mov (.t 7), none⟩,
      ⟨some 41, .mov (.t 40), none⟩,
      ⟨some 42, .mov (.t 10), some (41, true)⟩,
      ⟨some 43, .bin .neq false (.t 42) (.c (.v (.int .i64 1))), some (41, true)⟩,
      ⟨some 44, .pick (.t 41) (.t 43) (.c (.v (.bool false))), none⟩,
      ⟨some 7, .mov (.t 44), none⟩])))))))
    (.ops [⟨some 45, .bin .add false (.t 16) (.c (.v (.int .i64 1))), none⟩,
      ⟨some 16, .mov (.t 45), none⟩])))))))
  (.seq (.block 2 (.seq (.ops [⟨some 47, .faddr 0 (.t 1), none⟩,
    ⟨some 48, .load 1 false (.t 47), none⟩,
    ⟨some 49, .bin .leq false (.t 48) (.c (.v (.int .i64 6))), none⟩,
    ⟨some 50, .mov (.t 49), none⟩,
    ⟨some 51, .mov (.t 5), some (50, true)⟩,
    ⟨some 52, .pick (.t 50) (.t 51) (.c (.v (.bool false))), none⟩,
    ⟨some 46, .mov (.t 52), none⟩])
  (.cond (.t 46)
    (.seq (.ops [⟨some 2, .mov (.c (.v (.int .i64 1))), none⟩,
      ⟨some 3, .mov (.c (.v (.int .i64 0))), none⟩,
      ⟨some 4, .mov (.c (.v (.int .i64 0))), none⟩])
    .ret)
    (.seq (.seq (.ops [⟨some 54, .faddr 0 (.t 1), none⟩,
      ⟨some 55, .load 1 false (.t 54), none⟩,
      ⟨some 56, .bin .gtr false (.t 55) (.c (.v (.int .i64 6))), none⟩,
      ⟨some 57, .mov (.t 56), none⟩,
      ⟨some 58, .faddr 0 (.t 1), some (57, true)⟩,
      ⟨some 59, .load 1 false (.t 58), some (57, true)⟩,
      ⟨some 60, .bin .leq false (.t 59) (.c (.v (.int .i64 12))), some (57, true)⟩,
      ⟨some 61, .pick (.t 57) (.t 60) (.c (.v (.bool false))), none⟩,
      ⟨some 62, .mov (.t 61), none⟩,
      ⟨some 63, .mov (.t 5), some (62, true)⟩,
      ⟨some 64, .pick (.t 62) (.t 63) (.c (.v (.bool false))), none⟩,
      ⟨some 53, .mov (.t 64), none⟩])
    (.cond (.t 53)
      .skip
      (.seq (.ops [⟨some 65, .faddr 0 (.t 1), none⟩,
        ⟨some 66, .load 1 false (.t 65), none⟩,
        ⟨some 67, .bin .eql false (.t 66) (.c (.v (.int .i64 13))), none⟩,
        ⟨some 53, .mov (.t 67), none⟩])
      (.cond (.t 53)
        .skip
        (.seq (.ops [⟨some 68, .faddr 0 (.t 1), none⟩,
          ⟨some 69, .load 1 false (.t 68), none⟩,
          ⟨some 70, .bin .eql false (.t 69) (.c (.v (.int .i64 14))), none⟩,
          ⟨some 53, .mov (.t 70), none⟩])
        (.cond (.t 53)
          .skip
          (.ops [⟨some 71, .faddr 0 (.t 1), none⟩,
            ⟨some 72, .load 1 false (.t 71), none⟩,
            ⟨some 73, .bin .geq false (.t 72) (.c (.v (.int .i64 15))), none⟩,
            ⟨some 74, .mov (.t 73), none⟩,
            ⟨some 75, .faddr 0 (.t 1), some (74, true)⟩,
            ⟨some 76, .load 1 false (.t 75), some (74, true)⟩,
            ⟨some 77, .bin .leq false (.t 76) (.c (.v (.int .i64 19))), some (74, true)⟩,
            ⟨some 78, .pick (.t 74) (.t 77) (.c (.v (.bool false))), none⟩,
            ⟨some 79, .mov (.t 78), none⟩,
            ⟨some 80, .mov (.t 6), some (79, true)⟩,
            ⟨some 81, .pick (.t 79) (.t 80) (.c (.v (.bool false))), none⟩,
            ⟨some 53, .mov (.t 81), none⟩])))))))
    (.cond (.t 53)
      (.seq (.ops [⟨some 2, .mov (.c (.v (.int .i64 2))), none⟩,
        ⟨some 3, .mov (.c (.v (.int .i64 0))), none⟩,
        ⟨some 4, .mov (.c (.v (.int .i64 0))), none⟩])
      .ret)
      (.seq (.ops [⟨some 83, .faddr 0 (.t 1), none⟩,
        ⟨some 84, .load 1 false (.t 83), none⟩,
        ⟨some 85, .bin .geq false (.t 84) (.c (.v (.int .i64 15))), none⟩,
        ⟨some 86, .mov (.t 85), none⟩,
        ⟨some 87, .mov (.t 7), some (86, true)⟩,
        ⟨some 88, .pick (.t 86) (.t 87) (.c (.v (.bool false))), none⟩,
        ⟨some 82, .mov (.t 88), none⟩])
      (.cond (.t 82)
        (.seq (.ops [⟨some 2, .mov (.c (.v (.int .i64 3))), none⟩,
          ⟨some 3, .mov (.c (.v (.int .i64 0))), none⟩,
          ⟨some 4, .mov (.c (.v (.int .i64 0))), none⟩])
        .ret)
        .skip)))))))
  (.seq (.draw [[⟨some 89, .faddr 2 (.t 1), none⟩,
      ⟨some 90, .load 1 false (.t 89), none⟩,
      ⟨some 2, .mov (.c (.v (.int .i64 0))), none⟩,
      ⟨some 3, .mov (.c (.v (.int .i64 4))), none⟩],
    [⟨some 4, .mov (.t 90), none⟩]])
  .ret)))))⟩ := by kernel_rfl

theorem ir28 : compF Try.prog 28 = some ⟨9, [.t 4],
  (.seq (.ops [⟨some 4, .mov (.c (.v (.bool false))), none⟩])
  (.seq (.ops [⟨some 5, .mov (.t 0), none⟩,
    ⟨some 6, .mov (.t 1), none⟩,
    ⟨some 7, .call 35 [(.t 5), (.t 6)], none⟩,
    ⟨some 8, .bin .geq false (.t 7) (.c (.v (.int .i64 0))), none⟩,
    ⟨some 4, .mov (.t 8), none⟩])
  .ret))⟩ := by kernel_rfl

theorem ir29 : compF Try.prog 29 = some ⟨6, [.t 2],
  (.seq (.ops [⟨some 1, .box (.t 0), none⟩,
    ⟨some 2, .mov (.c (.v (.bool false))), none⟩])
  (.seq (.ops [⟨some 3, .load 4 true (.t 1), none⟩,
    ⟨some 4, .call 17 [(.t 3)], none⟩,
    ⟨some 5, .un .not (.t 4), none⟩,
    ⟨some 2, .mov (.t 5), none⟩])
  .ret))⟩ := by kernel_rfl

theorem ir30 : compF Try.prog 30 = some ⟨33, [.t 4],
  (.seq (.ops [⟨some 2, .box (.t 0), none⟩,
    ⟨some 4, .mov (.c (.v (.int .i64 0))), none⟩])
  (.seq (.ops [⟨some 5, .mov (.c (.v (.int .i64 1))), none⟩])
  (.seq (.seq (.ops [⟨some 6, .mov (.c (.v (.int .i64 0))), none⟩])
  (.block 0 (.loop
    (.seq (.seq (.ops [⟨some 8, .mov (.t 6), none⟩,
      ⟨some 9, .faddr 3 (.t 2), none⟩,
      ⟨some 10, .load 1 false (.t 9), none⟩,
      ⟨some 11, .len false (.t 10), none⟩,
      ⟨some 12, .bin .lss false (.t 8) (.t 11), none⟩,
      ⟨some 13, .mov (.t 12), none⟩,
      ⟨some 14, .mov (.t 1), some (13, true)⟩,
      ⟨some 15, .bin .gtr false (.t 14) (.c (.v (.int .i64 1))), some (13, true)⟩,
      ⟨some 16, .pick (.t 13) (.t 15) (.c (.v (.bool false))), none⟩])
    (.cond (.t 16)
      .skip
      (.exit 0)))
    (.seq (.block 1 (.seq (.ops [⟨some 19, .faddr 3 (.t 2), none⟩,
      ⟨some 20, .load 1 false (.t 19), none⟩,
      ⟨some 21, .mov (.t 6), none⟩,
      ⟨some 22, .iaddr 4 (.t 20) (.t 21), none⟩,
      ⟨some 23, .load 4 true (.t 22), none⟩,
      ⟨some 24, .mov (.t 1), none⟩,
      ⟨some 25, .bin .sub false (.t 24) (.c (.v (.int .i64 1))), none⟩,
      ⟨some 26, .call 30 [(.t 23), (.t 25)], none⟩,
      ⟨some 27, .bin .add false (.c (.v (.int .i64 1))) (.t 26), none⟩,
      ⟨some 7, .mov (.t 27), none⟩])
    (.seq (.ops [⟨some 28, .mov (.t 7), none⟩,
      ⟨some 29, .mov (.t 5), none⟩,
      ⟨some 30, .bin .gtr false (.t 28) (.t 29), none⟩])
    (.cond (.t 30)
      (.ops [⟨some 31, .mov (.t 7), none⟩,
        ⟨some 5, .mov (.t 31), none⟩])
      .skip))))
    (.ops [⟨some 17, .mov (.t 6), none⟩,
      ⟨some 18, .bin .add false (.t 17) (.c (.v (.int .i64 1))), none⟩,
      ⟨some 6, .mov (.t 18), none⟩]))))))
  (.seq (.ops [⟨some 32, .mov (.t 5), none⟩,
    ⟨some 4, .mov (.t 32), none⟩])
  .ret))))⟩ := by kernel_rfl

theorem ir31 : compF Try.prog 31 = some ⟨29, [.t 4],
  (.seq (.ops [⟨some 2, .box (.t 0), none⟩,
    ⟨some 4, .mov (.c (.v (.int .i64 0))), none⟩])
  (.seq (.ops [⟨some 5, .mov (.c (.v (.int .i64 1))), none⟩])
  (.seq (.seq (.ops [⟨some 6, .mov (.c (.v (.int .i64 0))), none⟩])
  (.block 0 (.loop
    (.seq (.seq (.ops [⟨some 7, .mov (.t 6), none⟩,
      ⟨some 8, .faddr 3 (.t 2), none⟩,
      ⟨some 9, .load 1 false (.t 8), none⟩,
      ⟨some 10, .len false (.t 9), none⟩,
      ⟨some 11, .bin .lss false (.t 7) (.t 10), none⟩,
      ⟨some 12, .mov (.t 11), none⟩,
      ⟨some 13, .mov (.t 5), some (12, true)⟩,
      ⟨some 14, .mov (.t 1), some (12, true)⟩,
      ⟨some 15, .bin .lss false (.t 13) (.t 14), some (12, true)⟩,
      ⟨some 16, .pick (.t 12) (.t 15) (.c (.v (.bool false))), none⟩])
    (.cond (.t 16)
      .skip
      (.exit 0)))
    (.seq (.block 1 (.ops [⟨some 19, .mov (.t 5), none⟩,
      ⟨some 20, .faddr 3 (.t 2), none⟩,
      ⟨some 21, .load 1 false (.t 20), none⟩,
      ⟨some 22, .mov (.t 6), none⟩,
      ⟨some 23, .iaddr 4 (.t 21) (.t 22), none⟩,
      ⟨some 24, .load 4 true (.t 23), none⟩,
      ⟨some 25, .mov (.t 1), none⟩,
      ⟨some 26, .call 31 [(.t 24), (.t 25)], none⟩,
      ⟨some 27, .bin .add false (.t 19) (.t 26), none⟩,
      ⟨some 5, .mov (.t 27), none⟩]))
    (.ops [⟨some 17, .mov (.t 6), none⟩,
      ⟨some 18, .bin .add false (.t 17) (.c (.v (.int .i64 1))), none⟩,
      ⟨some 6, .mov (.t 18), none⟩]))))))
  (.seq (.ops [⟨some 28, .mov (.t 5), none⟩,
    ⟨some 4, .mov (.t 28), none⟩])
  .ret))))⟩ := by kernel_rfl

set_option maxRecDepth 100000 in
theorem ir32 : compF Try.prog 32 = some ⟨136, [.c 6 4 true],
  (.seq (.ops [⟨some 3, .box (.t 0), none⟩,
    ⟨some 4, .box (.t 1), none⟩,
    ⟨some 5, .box (.t 2), none⟩,
    ⟨some 6, .alloc (.agg [(.v (.int .i64 0)), (.v (.int .i64 0)), (.v (.int .i64 0)), (.v (.slice none 0 0))]), none⟩])
  (.seq (.ops [⟨some 12, .load 1 false (.t 5), none⟩,
    ⟨some 13, .nilchk (.t 12), none⟩,
    ⟨some 14, .load 1 false (.t 13), none⟩,
    ⟨some 15, .bin .sub false (.t 14) (.c (.v (.int .i64 1))), none⟩,
    ⟨some 16, .nilchk (.t 12), none⟩,
    ⟨none, .store 1 (.t 16) (.t 15), none⟩])
  (.seq (.seq (.ops [⟨some 17, .load 1 false (.t 5), none⟩,
    ⟨some 18, .nilchk (.t 17), none⟩,
    ⟨some 19, .load 1 false (.t 18), none⟩,
    ⟨some 20, .bin .lss false (.t 19) (.c (.v (.int .i64 0))), none⟩])
  (.cond (.t 20)
    (.seq (.ops [⟨some 21, .build [(.v (.int .i64 0)), (.v (.int .i64 0)), (.v (.int .i64 0)), (.v (.slice none 0 0))] [], none⟩,
      ⟨none, .store 4 (.t 6) (.t 21), none⟩])
    .ret)
    .skip))
  (.seq (.seq (.ops [⟨some 22, .load 4 true (.t 3), none⟩,
    ⟨some 23, .call 13 [(.t 22)], none⟩])
  (.cond (.t 23)
    (.seq (.seq (.ops [⟨some 24, .load 1 false (.t 4), none⟩])
    (.cond (.t 24)
      (.seq (.ops [⟨some 25, .faddr 2 (.t 3), none⟩,
        ⟨some 26, .load 1 false (.t 25), none⟩,
        ⟨some 27, .load 4 true (.t 3), none⟩,
        ⟨some 28, .bslice 4 [(.v (.int .i64 0)), (.v (.int .i64 0)), (.v (.int .i64 0)), (.v (.slice none 0 0))] 1 [(0, 4, (.t 27))], none⟩,
        ⟨some 29, .build [(.v (.int .i64 0)), (.v (.int .i64 0)), (.v (.int .i64 0)), (.v (.slice none 0 0))] [(0, 1, (.c (.v (.int .i64 15)))), (2, 1, (.t 26)), (3, 1, (.t 28))], none⟩,
        ⟨none, .store 4 (.t 6) (.t 29), none⟩])
      .ret)
      .skip))
    (.seq (.ops [⟨some 30, .load 4 true (.t 3), none⟩,
      ⟨none, .store 4 (.t 6) (.t 30), none⟩])
    .ret))
    .skip))
  (.seq (.ops [⟨some 31, .mkfn (.func 36) [] [(.t 3), (.t 5)], none⟩,
    ⟨some 7, .alloc (.v .nilFunc), none⟩,
    ⟨none, .store 1 (.t 7) (.t 31), none⟩])
  (.seq (.ops [⟨some 32, .mkfn (.func 37) [] [(.t 4), (.t 3)], none⟩,
    ⟨some 8, .mov (.t 32), none⟩])
  (.seq (.ops [⟨some 33, .mkfn (.func 38) [] [(.t 5), (.t 4), (.t 3)], none⟩,
    ⟨some 9, .mov (.t 33), none⟩])
  (.seq (.ops [⟨some 34, .load 1 false (.t 4), none⟩,
    ⟨some 10, .mov (.t 34), none⟩])
  (.seq (.seq (.ops [⟨some 35, .faddr 0 (.t 3), none⟩,
    ⟨some 36, .load 1 false (.t 35), none⟩])
  (.block 0 (.seq (.block 9 (.seq (.block 8 (.seq (.block 7 (.seq (.block 6 (.seq (.block 5 (.seq (.block 4 (.seq (.block 3 (.seq (.block 2 (.seq (.block 1 (.seq (.seq (.seq (.ops [⟨some 38, .bin .eql false (.t 36) (.c (.v (.int .i64 15))), none⟩,
    ⟨some 37, .mov (.t 38), none⟩])
  (.cond (.t 37)
    (.exit 1)
    .skip))
  (.seq (.seq (.ops [⟨some 40, .bin .eql false (.t 36) (.c (.v (.int .i64 18))), none⟩,
    ⟨some 39, .mov (.t 40), none⟩])
  (.cond (.t 39)
    (.exit 2)
    .skip))
  (.seq (.seq (.ops [⟨some 42, .bin .eql false (.t 36) (.c (.v (.int .i64 17))), none⟩,
    ⟨some 41, .mov (.t 42), none⟩])
  (.cond (.t 41)
    (.exit 3)
    .skip))
  (.seq (.seq (.ops [⟨some 44, .bin .eql false (.t 36) (.c (.v (.int .i64 16))), none⟩,
    ⟨some 43, .mov (.t 44), none⟩])
  (.cond (.t 43)
    (.exit 4)
    .skip))
  (.seq (.seq (.ops [⟨some 46, .bin .eql false (.t 36) (.c (.v (.int .i64 19))), none⟩,
    ⟨some 45, .mov (.t 46), none⟩])
  (.cond (.t 45)
    (.exit 5)
    .skip))
  (.seq (.seq (.ops [⟨some 48, .bin .eql false (.t 36) (.c (.v (.int .i64 20))), none⟩,
    ⟨some 47, .mov (.t 48), none⟩])
  (.cond (.t 47)
    (.exit 6)
    .skip))
  (.seq (.seq (.ops [⟨some 50, .bin .eql false (.t 36) (.c (.v (.int .i64 21))), none⟩,
    ⟨some 49, .mov (.t 50), none⟩])
  (.cond (.t 49)
    (.exit 7)
    .skip))
  (.seq (.seq (.ops [⟨some 52, .bin .eql false (.t 36) (.c (.v (.int .i64 22))), none⟩,
    ⟨some 51, .mov (.t 52), none⟩])
  (.cond (.t 51)
    (.exit 8)
    .skip))
  (.seq (.ops [⟨some 54, .bin .eql false (.t 36) (.c (.v (.int .i64 23))), none⟩,
    ⟨some 53, .mov (.t 54), none⟩])
  (.cond (.t 53)
    (.exit 9)
    .skip))))))))))
  (.exit 0)))
  (.seq (.seq (.ops [⟨some 55, .load 1 false (.t 5), none⟩,
    ⟨some 56, .nilchk (.t 55), none⟩,
    ⟨some 57, .load 1 false (.t 56), none⟩,
    ⟨some 58, .bin .add false (.t 57) (.c (.v (.int .i64 1))), none⟩,
    ⟨some 59, .nilchk (.t 55), none⟩,
    ⟨none, .store 1 (.t 59) (.t 58), none⟩])
  (.seq (.ops [⟨some 60, .load 1 false (.t 7), none⟩,
    ⟨some 61, .load 1 false (.t 4), none⟩,
    ⟨some 62, .un .not (.t 61), none⟩,
    ⟨some 63, .calld (.t 60) [(.c (.v (.int .i64 0))), (.t 62)], none⟩,
    ⟨none, .store 4 (.t 6) (.t 63), none⟩])
  .ret))
  (.exit 0))))
  (.ops [⟨some 64, .load 1 false (.t 4), none⟩,
    ⟨some 65, .un .not (.t 64), none⟩,
    ⟨some 10, .mov (.t 65), none⟩])))
  (.seq (.seq (.draw [[⟨some 66, .mov (.t 8), none⟩,
      ⟨some 67, .load 1 false (.t 7), none⟩,
      ⟨some 68, .mov (.t 10), none⟩,
      ⟨some 69, .calld (.t 67) [(.c (.v (.int .i64 0))), (.t 68)], none⟩,
      ⟨some 70, .load 1 false (.t 7), none⟩,
      ⟨some 71, .load 1 false (.t 4), none⟩,
      ⟨some 72, .calld (.t 70) [(.c (.v (.int .i64 1))), (.t 71)], none⟩],
    [⟨some 73, .calld (.t 66) [(.c (.v (.int .i64 17))), (.c (.v (.int .i64 16))), (.t 69), (.t 72)], none⟩],
    [⟨none, .store 4 (.t 6) (.t 73), none⟩]])
  .ret)
  (.exit 0))))
  (.seq (.seq (.draw [[⟨some 74, .mov (.t 8), none⟩,
      ⟨some 75, .load 1 false (.t 7), none⟩,
      ⟨some 76, .load 1 false (.t 4), none⟩,
      ⟨some 77, .calld (.t 75) [(.c (.v (.int .i64 0))), (.t 76)], none⟩,
      ⟨some 78, .load 1 false (.t 7), none⟩,
      ⟨some 79, .load 1 false (.t 4), none⟩,
      ⟨some 80, .calld (.t 78) [(.c (.v (.int .i64 1))), (.t 79)], none⟩],
    [⟨some 81, .calld (.t 74) [(.c (.v (.int .i64 16))), (.c (.v (.int .i64 17))), (.t 77), (.t 80)], none⟩],
    [⟨none, .store 4 (.t 6) (.t 81), none⟩]])
  .ret)
  (.exit 0))))
  (.seq (.seq (.ops [⟨some 82, .load 1 false (.t 5), none⟩,
    ⟨some 83, .nilchk (.t 82), none⟩,
    ⟨some 84, .load 1 false (.t 83), none⟩,
    ⟨some 85, .bin .sub false (.t 84) (.c (.v (.int .i64 2))), none⟩,
    ⟨some 86, .nilchk (.t 82), none⟩,
    ⟨none, .store 1 (.t 86) (.t 85), none⟩])
  (.seq (.ops [⟨some 87, .mkfn (.func 39) [] [(.t 3), (.t 7)], none⟩,
    ⟨some 11, .mov (.t 87), none⟩])
  (.seq (.draw [[⟨some 88, .faddr 2 (.t 3), none⟩,
      ⟨some 89, .load 1 false (.t 88), none⟩,
      ⟨some 90, .mov (.t 11), none⟩,
      ⟨some 91, .load 1 false (.t 4), none⟩,
      ⟨some 92, .calld (.t 90) [(.c (.v (.bool false))), (.t 91)], none⟩,
      ⟨some 93, .mov (.t 11), none⟩,
      ⟨some 94, .load 1 false (.t 4), none⟩,
      ⟨some 95, .un .not (.t 94), none⟩,
      ⟨some 96, .calld (.t 93) [(.c (.v (.bool true))), (.t 95)], none⟩,
      ⟨some 97, .bslice 4 [(.v (.int .i64 0)), (.v (.int .i64 0)), (.v (.int .i64 0)), (.v (.slice none 0 0))] 2 [(0, 4, (.t 92)), (4, 4, (.t 96))], none⟩],
    [⟨some 98, .build [(.v (.int .i64 0)), (.v (.int .i64 0)), (.v (.int .i64 0)), (.v (.slice none 0 0))] [(0, 1, (.c (.v (.int .i64 17)))), (2, 1, (.t 89)), (3, 1, (.t 97))], none⟩],
    [⟨none, .store 4 (.t 6) (.t 98), none⟩]])
  .ret)))
  (.exit 0))))
  (.seq (.seq (.draw [[⟨some 99, .faddr 2 (.t 3), none⟩,
      ⟨some 100, .load 1 false (.t 99), none⟩,
      ⟨some 101, .load 1 false (.t 7), none⟩,
      ⟨some 102, .load 1 false (.t 4), none⟩,
      ⟨some 103, .calld (.t 101) [(.c (.v (.int .i64 0))), (.t 102)], none⟩,
      ⟨some 104, .bslice 4 [(.v (.int .i64 0)), (.v (.int .i64 0)), (.v (.int .i64 0)), (.v (.slice none 0 0))] 1 [(0, 4, (.t 103))], none⟩],
    [⟨some 105, .build [(.v (.int .i64 0)), (.v (.int .i64 0)), (.v (.int .i64 0)), (.v (.slice none 0 0))] [(0, 1, (.c (.v (.int .i64 20)))), (2, 1, (.t 100)), (3, 1, (.t 104))], none⟩],
    [⟨none, .store 4 (.t 6) (.t 105), none⟩]])
  .ret)
  (.exit 0))))
  (.seq (.seq (.draw [[⟨some 106, .mov (.t 8), none⟩,
      ⟨some 107, .mov (.t 9), none⟩,
      ⟨some 108, .calld (.t 107) [(.c (.v (.int .i64 13))), (.c (.v (.int .i64 14)))], none⟩,
      ⟨some 109, .load 1 false (.t 7), none⟩,
      ⟨some 110, .load 1 false (.t 4), none⟩,
      ⟨some 111, .calld (.t 109) [(.c (.v (.int .i64 0))), (.t 110)], none⟩],
    [⟨some 112, .calld (.t 106) [(.c (.v (.int .i64 23))), (.c (.v (.int .i64 24))), (.t 108), (.t 111)], none⟩],
    [⟨none, .store 4 (.t 6) (.t 112), none⟩]])
  .ret)
  (.exit 0))))
  (.seq (.seq (.draw [[⟨some 113, .mov (.t 8), none⟩,
      ⟨some 114, .mov (.t 9), none⟩,
      ⟨some 115, .calld (.t 114) [(.c (.v (.int .i64 14))), (.c (.v (.int .i64 13)))], none⟩,
      ⟨some 116, .load 1 false (.t 7), none⟩,
      ⟨some 117, .load 1 false (.t 4), none⟩,
      ⟨some 118, .calld (.t 116) [(.c (.v (.int .i64 0))), (.t 117)], none⟩],
    [⟨some 119, .calld (.t 113) [(.c (.v (.int .i64 24))), (.c (.v (.int .i64 23))), (.t 115), (.t 118)], none⟩],
    [⟨none, .store 4 (.t 6) (.t 119), none⟩]])
  .ret)
  (.exit 0))))
  (.seq (.seq (.draw [[⟨some 120, .mov (.t 8), none⟩,
      ⟨some 121, .load 1 false (.t 7), none⟩,
      ⟨some 122, .load 1 false (.t 4), none⟩,
      ⟨some 123, .calld (.t 121) [(.c (.v (.int .i64 0))), (.t 122)], none⟩,
      ⟨some 124, .load 1 false (.t 7), none⟩,
      ⟨some 125, .load 1 false (.t 4), none⟩,
      ⟨some 126, .calld (.t 124) [(.c (.v (.int .i64 1))), (.t 125)], none⟩],
    [⟨some 127, .calld (.t 120) [(.c (.v (.int .i64 23))), (.c (.v (.int .i64 24))), (.t 123), (.t 126)], none⟩],
    [⟨none, .store 4 (.t 6) (.t 127), none⟩]])
  .ret)
  (.exit 0)))))
  (.seq (.draw [[⟨some 128, .mov (.t 8), none⟩,
      ⟨some 129, .load 1 false (.t 7), none⟩,
      ⟨some 130, .load 1 false (.t 4), none⟩,
      ⟨some 131, .calld (.t 129) [(.c (.v (.int .i64 0))), (.t 130)], none⟩,
      ⟨some 132, .load 1 false (.t 7), none⟩,
      ⟨some 133, .load 1 false (.t 4), none⟩,
      ⟨some 134, .calld (.t 132) [(.c (.v (.int .i64 1))), (.t 133)], none⟩],
    [⟨some 135, .calld (.t 128) [(.c (.v (.int .i64 24))), (.c (.v (.int .i64 23))), (.t 131), (.t 134)], none⟩],
    [⟨none, .store 4 (.t 6) (.t 135), none⟩]])
  .ret))))))))))⟩ := by kernel_rfl

theorem ir33 : compF Try.prog 33 = some ⟨78, [.t 4],
  (.seq (.ops [⟨some 2, .box (.t 0), none⟩,
    ⟨some 4, .mov (.c (.v (.int .i64 0))), none⟩])
  (.seq (.ops [⟨some 8, .load 4 true (.t 2), none⟩,
    ⟨some 9, .call 14 [(.t 8)], none⟩,
    ⟨some 5, .mov (.t 9), none⟩])
  (.seq (.seq (.ops [⟨some 10, .mov (.t 5), none⟩,
    ⟨some 11, .mov (.t 10), none⟩,
    ⟨some 12, .mov (.t 1), some (11, false)⟩,
    ⟨some 13, .bin .lss false (.t 12) (.c (.v (.int .i64 1))), some (11, false)⟩,
    ⟨some 14, .pick (.t 11) (.c (.v (.bool true))) (.t 13), none⟩])
  (.cond (.t 14)
    (.seq (.ops [⟨some 4, .mov (.c (.v (.int .i64 1))), none⟩])
    .ret)
    .skip))
  (.seq (.seq (.ops [⟨some 15, .faddr 0 (.t 2), none⟩,
    ⟨some 16, .load 1 false (.t 15), none⟩,
    ⟨some 17, .bin .eql false (.t 16) (.c (.v (.int .i64 15))), none⟩])
  (.cond (.t 17)
    (.seq (.ops [⟨some 18, .faddr 3 (.t 2), none⟩,
      ⟨some 19, .load 1 false (.t 18), none⟩,
      ⟨some 20, .iaddr 4 (.t 19) (.c (.v (.int .i64 0))), none⟩,
      ⟨some 21, .load 4 true (.t 20), none⟩,
      ⟨some 22, .mov (.t 1), none⟩,
      ⟨some 23, .call 33 [(.t 21), (.t 22)], none⟩,
      ⟨some 4, .mov (.t 23), none⟩])
    .ret)
    .skip))
  (.seq (.seq (.ops [⟨some 24, .faddr 0 (.t 2), none⟩,
    ⟨some 25, .load 1 false (.t 24), none⟩,
    ⟨some 26, .bin .eql false (.t 25) (.c (.v (.int .i64 21))), none⟩,
    ⟨some 27, .mov (.t 26), none⟩,
    ⟨some 28, .faddr 0 (.t 2), some (27, false)⟩,
    ⟨some 29, .load 1 false (.t 28), some (27, false)⟩,
    ⟨some 30, .bin .eql false (.t 29) (.c (.v (.int .i64 22))), some (27, false)⟩,
    ⟨some 31, .pick (.t 27) (.c (.v (.bool true))) (.t 30), none⟩])
  (.cond (.t 31)
    (.seq (.ops [⟨some 32, .faddr 3 (.t 2), none⟩,
      ⟨some 33, .load 1 false (.t 32), none⟩,
      ⟨some 34, .iaddr 4 (.t 33) (.c (.v (.int .i64 0))), none⟩,
      ⟨some 35, .load 4 true (.t 34), none⟩,
      ⟨some 36, .mov (.t 1), none⟩,
      ⟨some 37, .bin .sub false (.t 36) (.c (.v (.int .i64 1))), none⟩,
      ⟨some 38, .call 33 [(.t 35), (.t 37)], none⟩,
      ⟨some 39, .bin .add false (.c (.v (.int .i64 2))) (.t 38), none⟩,
      ⟨some 4, .mov (.t 39), none⟩])
    .ret)
    .skip))
  (.seq (.seq (.ops [⟨some 40, .faddr 0 (.t 2), none⟩,
    ⟨some 41, .load 1 false (.t 40), none⟩,
    ⟨some 42, .bin .eql false (.t 41) (.c (.v (.int .i64 20))), none⟩])
  (.cond (.t 42)
    (.seq (.ops [⟨some 43, .faddr 3 (.t 2), none⟩,
      ⟨some 44, .load 1 false (.t 43), none⟩,
      ⟨some 45, .iaddr 4 (.t 44) (.c (.v (.int .i64 0))), none⟩,
      ⟨some 46, .load 4 true (.t 45), none⟩,
      ⟨some 47, .mov (.t 1), none⟩,
      ⟨some 48, .bin .sub false (.t 47) (.c (.v (.int .i64 1))), none⟩,
      ⟨some 49, .call 33 [(.t 46), (.t 48)], none⟩,
      ⟨some 50, .bin .add false (.c (.v (.int .i64 1))) (.t 49), none⟩,
      ⟨some 4, .mov (.t 50), none⟩])
    .ret)
    .skip))
  (.seq (.ops [⟨some 51, .faddr 3 (.t 2), none⟩,
    ⟨some 52, .load 1 false (.t 51), none⟩,
    ⟨some 53, .iaddr 4 (.t 52) (.c (.v (.int .i64 0))), none⟩,
    ⟨some 54, .load 4 true (.t 53), none⟩,
    ⟨some 55, .mov (.t 1), none⟩,
    ⟨some 56, .bin .sub false (.t 55) (.c (.v (.int .i64 1))), none⟩,
    ⟨some 57, .call 33 [(.t 54), (.t 56)], none⟩,
    ⟨some 6, .mov (.t 57), none⟩])
  (.seq (.ops [⟨some 58, .faddr 3 (.t 2), none⟩,
    ⟨some 59, .load 1 false (.t 58), none⟩,
    ⟨some 60, .iaddr 4 (.t 59) (.c (.v (.int .i64 1))), none⟩,
    ⟨some 61, .load 4 true (.t 60), none⟩,
    ⟨some 62, .mov (.t 1), none⟩,
    ⟨some 63, .bin .sub false (.t 62) (.c (.v (.int .i64 1))), none⟩,
    ⟨some 64, .call 33 [(.t 61), (.t 63)], none⟩,
    ⟨some 7, .mov (.t 64), none⟩])
  (.seq (.seq (.ops [⟨some 65, .faddr 0 (.t 2), none⟩,
    ⟨some 66, .load 1 false (.t 65), none⟩,
    ⟨some 67, .bin .eql false (.t 66) (.c (.v (.int .i64 19))), none⟩])
  (.cond (.t 67)
    (.seq (.ops [⟨some 68, .mov (.t 6), none⟩,
      ⟨some 69, .bin .mul false (.c (.v (.int .i64 2))) (.t 68), none⟩,
      ⟨some 70, .bin .add false (.c (.v (.int .i64 3))) (.t 69), none⟩,
      ⟨some 71, .mov (.t 7), none⟩,
      ⟨some 72, .bin .mul false (.c (.v (.int .i64 2))) (.t 71), none⟩,
      ⟨some 73, .bin .add false (.t 70) (.t 72), none⟩,
      ⟨some 4, .mov (.t 73), none⟩])
    .ret)
    .skip))
  (.seq (.ops [⟨some 74, .mov (.t 6), none⟩,
    ⟨some 75, .bin .add false (.c (.v (.int .i64 1))) (.t 74), none⟩,
    ⟨some 76, .mov (.t 7), none⟩,
    ⟨some 77, .bin .add false (.t 75) (.t 76), none⟩,
    ⟨some 4, .mov (.t 77), none⟩])
  .ret))))))))))⟩ := by kernel_rfl

set_option maxRecDepth 100000 in
theorem ir34 : compF Try.prog 34 = some ⟨296, [.c 4 4 true],
  (.seq (.ops [⟨some 2, .box (.t 0), none⟩,
    ⟨some 4, .alloc (.agg [(.v (.int .i64 0)), (.v (.int .i64 0)), (.v (.int .i64 0)), (.v (.slice none 0 0))]), none⟩])
  (.seq (.ops [⟨some 6, .load 4 true (.t 2), none⟩,
    ⟨some 7, .call 14 [(.t 6)], none⟩,
    ⟨some 5, .mov (.t 7), none⟩])
  (.seq (.seq (.ops [⟨some 8, .mov (.t 5), none⟩,
    ⟨some 9, .mov (.t 8), none⟩,
    ⟨some 10, .mov (.t 1), some (9, true)⟩,
    ⟨some 11, .pick (.t 9) (.t 10) (.c (.v (.bool false))), none⟩])
  (.cond (.t 11)
    (.seq (.ops [⟨some 12, .faddr 2 (.t 2), none⟩,
      ⟨some 13, .load 1 false (.t 12), none⟩,
      ⟨some 14, .load 4 true (.t 2), none⟩,
      ⟨some 15, .bslice 4 [(.v (.int .i64 0)), (.v (.int .i64 0)), (.v (.int .i64 0)), (.v (.slice none 0 0))] 1 [(0, 4, (.t 14))], none⟩,
      ⟨some 16, .build [(.v (.int .i64 0)), (.v (.int .i64 0)), (.v (.int .i64 0)), (.v (.slice none 0 0))] [(0, 1, (.c (.v (.int .i64 15)))), (2, 1, (.t 13)), (3, 1, (.t 15))], none⟩,
      ⟨none, .store 4 (.t 4) (.t 16), none⟩])
    .ret)
    .skip))
  (.seq (.seq (.ops [⟨some 17, .mov (.t 5), none⟩])
  (.cond (.t 17)
    (.seq (.ops [⟨some 18, .load 4 true (.t 2), none⟩,
      ⟨none, .store 4 (.t 4) (.t 18), none⟩])
    .ret)
    .skip))
  (.seq (.seq (.ops [⟨some 19, .faddr 0 (.t 2), none⟩,
    ⟨some 20, .load 1 false (.t 19), none⟩])
  (.block 0 (.seq (.ops [⟨some 22, .bin .eql false (.t 20) (.c (.v (.int .i64 15))), none⟩,
    ⟨some 21, .mov (.t 22), none⟩])
  (.cond (.t 21)
    (.seq (.ops [⟨some 23, .faddr 3 (.t 2), none⟩,
      ⟨some 24, .load 1 false (.t 23), none⟩,
      ⟨some 25, .iaddr 4 (.t 24) (.c (.v (.int .i64 0))), none⟩,
      ⟨some 26, .load 4 true (.t 25), none⟩,
      ⟨some 27, .mov (.t 1), none⟩,
      ⟨some 28, .un .not (.t 27), none⟩,
      ⟨some 29, .call 34 [(.t 26), (.t 28)], none⟩,
      ⟨none, .store 4 (.t 4) (.t 29), none⟩])
    .ret)
    (.seq (.ops [⟨some 31, .bin .eql false (.t 20) (.c (.v (.int .i64 16))), none⟩,
      ⟨some 30, .mov (.t 31), none⟩])
    (.cond (.t 30)
      (.seq (.seq (.ops [⟨some 32, .mov (.t 1), none⟩])
      (.cond (.t 32)
        (.seq (.draw [[⟨some 33, .faddr 2 (.t 2), none⟩,
            ⟨some 34, .load 1 false (.t 33), none⟩,
            ⟨some 35, .faddr 3 (.t 2), none⟩,
            ⟨some 36, .load 1 false (.t 35), none⟩,
            ⟨some 37, .iaddr 4 (.t 36) (.c (.v (.int .i64 0))), none⟩,
            ⟨some 38, .load 4 true (.t 37), none⟩,
            ⟨some 39, .call 34 [(.t 38), (.c (.v (.bool true)))], none⟩,
            ⟨some 40, .faddr 3 (.t 2), none⟩,
            ⟨some 41, .load 1 false (.t 40), none⟩,
            ⟨some 42, .iaddr 4 (.t 41) (.c (.v (.int .i64 1))), none⟩,
            ⟨some 43, .load 4 true (.t 42), none⟩,
            ⟨some 44, .call 34 [(.t 43), (.c (.v (.bool true)))], none⟩],
          [⟨some 45, .call 40 [(.c (.v (.int .i64 17))), (.t 34), (.t 39), (.t 44)], none⟩],
          [⟨none, .store 4 (.t 4) (.t 45), none⟩]])
        .ret)
        .skip))
      (.seq (.draw [[⟨some 46, .faddr 2 (.t 2), none⟩,
          ⟨some 47, .load 1 false (.t 46), none⟩,
          ⟨some 48, .faddr 3 (.t 2), none⟩,
          ⟨some 49, .load 1 false (.t 48), none⟩,
          ⟨some 50, .iaddr 4 (.t 49) (.c (.v (.int .i64 0))), none⟩,
          ⟨some 51, .load 4 true (.t 50), none⟩,
          ⟨some 52, .call 34 [(.t 51), (.c (.v (.bool false)))], none⟩,
          ⟨some 53, .faddr 3 (.t 2), none⟩,
          ⟨some 54, .load 1 false (.t 53), none⟩,
          ⟨some 55, .iaddr 4 (.t 54) (.c (.v (.int .i64 1))), none⟩,
          ⟨some 56, .load 4 true (.t 55), none⟩,
          ⟨some 57, .call 34 [(.t 56), (.c (.v (.bool false)))], none⟩],
        [⟨some 58, .call 40 [(.c (.v (.int .i64 16))), (.t 47), (.t 52), (.t 57)], none⟩],
        [⟨none, .store 4 (.t 4) (.t 58), none⟩]])
      .ret))
      (.seq (.ops [⟨some 60, .bin .eql false (.t 20) (.c (.v (.int .i64 17))), none⟩,
        ⟨some 59, .mov (.t 60), none⟩])
      (.cond (.t 59)
        (.seq (.seq (.ops [⟨some 61, .mov (.t 1), none⟩])
        (.cond (.t 61)
          (.seq (.draw [[⟨some 62, .faddr 2 (.t 2), none⟩,
              ⟨some 63, .load 1 false (.t 62), none⟩,
              ⟨some 64, .faddr 3 (.t 2), none⟩,
              ⟨some 65, .load 1 false (.t 64), none⟩,
              ⟨some 66, .iaddr 4 (.t 65) (.c (.v (.int .i64 0))), none⟩,
              ⟨some 67, .load 4 true (.t 66), none⟩,
              ⟨some 68, .call 34 [(.t 67), (.c (.v (.bool true)))], none⟩,
              ⟨some 69, .faddr 3 (.t 2), none⟩,
              ⟨some 70, .load 1 false (.t 69), none⟩,
              ⟨some 71, .iaddr 4 (.t 70) (.c (.v (.int .i64 1))), none⟩,
              ⟨some 72, .load 4 true (.t 71), none⟩,
              ⟨some 73, .call 34 [(.t 72), (.c (.v (.bool true)))], none⟩],
            [⟨some 74, .call 40 [(.c (.v (.int .i64 16))), (.t 63), (.t 68), (.t 73)], none⟩],
            [⟨none, .store 4 (.t 4) (.t 74), none⟩]])
          .ret)
          .skip))
        (.seq (.draw [[⟨some 75, .faddr 2 (.t 2), none⟩,
            ⟨some 76, .load 1 false (.t 75), none⟩,
            ⟨some 77, .faddr 3 (.t 2), none⟩,
            ⟨some 78, .load 1 false (.t 77), none⟩,
            ⟨some 79, .iaddr 4 (.t 78) (.c (.v (.int .i64 0))), none⟩,
            ⟨some 80, .load 4 true (.t 79), none⟩,
            ⟨some 81, .call 34 [(.t 80), (.c (.v (.bool false)))], none⟩,
            ⟨some 82, .faddr 3 (.t 2), none⟩,
            ⟨some 83, .load 1 false (.t 82), none⟩,
            ⟨some 84, .iaddr 4 (.t 83) (.c (.v (.int .i64 1))), none⟩,
            ⟨some 85, .load 4 true (.t 84), none⟩,
            ⟨some 86, .call 34 [(.t 85), (.c (.v (.bool false)))], none⟩],
          [⟨some 87, .call 40 [(.c (.v (.int .i64 17))), (.t 76), (.t 81), (.t 86)], none⟩],
          [⟨none, .store 4 (.t 4) (.t 87), none⟩]])
        .ret))
        (.seq (.ops [⟨some 89, .bin .eql false (.t 20) (.c (.v (.int .i64 18))), none⟩,
          ⟨some 88, .mov (.t 89), none⟩])
        (.cond (.t 88)
          (.seq (.seq (.ops [⟨some 90, .mov (.t 1), none⟩])
          (.cond (.t 90)
            (.seq (.draw [[⟨some 91, .faddr 2 (.t 2), none⟩,
                ⟨some 92, .load 1 false (.t 91), none⟩,
                ⟨some 93, .faddr 3 (.t 2), none⟩,
                ⟨some 94, .load 1 false (.t 93), none⟩,
                ⟨some 95, .iaddr 4 (.t 94) (.c (.v (.int .i64 0))), none⟩,
                ⟨some 96, .load 4 true (.t 95), none⟩,
                ⟨some 97, .call 34 [(.t 96), (.c (.v (.bool false)))], none⟩,
                ⟨some 98, .faddr 3 (.t 2), none⟩,
                ⟨some 99, .load 1 false (.t 98), none⟩,
                ⟨some 100, .iaddr 4 (.t 99) (.c (.v (.int .i64 1))), none⟩,
                ⟨some 101, .load 4 true (.t 100), none⟩,
                ⟨some 102, .call 34 [(.t 101), (.c (.v (.bool true)))], none⟩],
              [⟨some 103, .call 40 [(.c (.v (.int .i64 16))), (.t 92), (.t 97), (.t 102)], none⟩],
              [⟨none, .store 4 (.t 4) (.t 103), none⟩]])
            .ret)
            .skip))
          (.seq (.draw [[⟨some 104, .faddr 2 (.t 2), none⟩,
              ⟨some 105, .load 1 false (.t 104), none⟩,
              ⟨some 106, .faddr 3 (.t 2), none⟩,
              ⟨some 107, .load 1 false (.t 106), none⟩,
              ⟨some 108, .iaddr 4 (.t 107) (.c (.v (.int .i64 0))), none⟩,
              ⟨some 109, .load 4 true (.t 108), none⟩,
              ⟨some 110, .call 34 [(.t 109), (.c (.v (.bool true)))], none⟩,
              ⟨some 111, .faddr 3 (.t 2), none⟩,
              ⟨some 112, .load 1 false (.t 111), none⟩,
              ⟨some 113, .iaddr 4 (.t 112) (.c (.v (.int .i64 1))), none⟩,
              ⟨some 114, .load 4 true (.t 113), none⟩,
              ⟨some 115, .call 34 [(.t 114), (.c (.v (.bool false)))], none⟩],
            [⟨some 116, .call 40 [(.c (.v (.int .i64 17))), (.t 105), (.t 110), (.t 115)], none⟩],
            [⟨none, .store 4 (.t 4) (.t 116), none⟩]])
          .ret))
          (.seq (.ops [⟨some 118, .bin .eql false (.t 20) (.c (.v (.int .i64 19))), none⟩,
            ⟨some 117, .mov (.t 118), none⟩])
          (.cond (.t 117)
            (.seq (.seq (.ops [⟨some 119, .mov (.t 1), none⟩])
            (.cond (.t 119)
              (.seq (.draw [[⟨some 120, .faddr 2 (.t 2), none⟩,
                  ⟨some 121, .load 1 false (.t 120), none⟩,
                  ⟨some 122, .faddr 2 (.t 2), none⟩,
                  ⟨some 123, .load 1 false (.t 122), none⟩,
                  ⟨some 124, .faddr 3 (.t 2), none⟩,
                  ⟨some 125, .load 1 false (.t 124), none⟩,
                  ⟨some 126, .iaddr 4 (.t 125) (.c (.v (.int .i64 0))), none⟩,
                  ⟨some 127, .load 4 true (.t 126), none⟩,
                  ⟨some 128, .call 34 [(.t 127), (.c (.v (.bool false)))], none⟩,
                  ⟨some 129, .faddr 3 (.t 2), none⟩,
                  ⟨some 130, .load 1 false (.t 129), none⟩,
                  ⟨some 131, .iaddr 4 (.t 130) (.c (.v (.int .i64 1))), none⟩,
                  ⟨some 132, .load 4 true (.t 131), none⟩,
                  ⟨some 133, .call 34 [(.t 132), (.c (.v (.bool true)))], none⟩,
                  ⟨some 134, .call 40 [(.c (.v (.int .i64 16))), (.t 123), (.t 128), (.t 133)], none⟩,
                  ⟨some 135, .faddr 2 (.t 2), none⟩,
                  ⟨some 136, .load 1 false (.t 135), none⟩,
                  ⟨some 137, .faddr 3 (.t 2), none⟩,
                  ⟨some 138, .load 1 false (.t 137), none⟩,
                  ⟨some 139, .iaddr 4 (.t 138) (.c (.v (.int .i64 0))), none⟩,
                  ⟨some 140, .load 4 true (.t 139), none⟩,
                  ⟨some 141, .call 34 [(.t 140), (.c (.v (.bool true)))], none⟩,
                  ⟨some 142, .faddr 3 (.t 2), none⟩,
                  ⟨some 143, .load 1 false (.t 142), none⟩,
                  ⟨some 144, .iaddr 4 (.t 143) (.c (.v (.int .i64 1))), none⟩,
                  ⟨some 145, .load 4 true (.t 144), none⟩,
                  ⟨some 146, .call 34 [(.t 145), (.c (.v (.bool false)))], none⟩,
                  ⟨some 147, .call 40 [(.c (.v (.int .i64 16))), (.t 136), (.t 141), (.t 146)], none⟩],
                [⟨some 148, .call 40 [(.c (.v (.int .i64 17))), (.t 121), (.t 134), (.t 147)], none⟩],
                [⟨none, .store 4 (.t 4) (.t 148), none⟩]])
              .ret)
              .skip))
            (.seq (.draw [[⟨some 149, .faddr 2 (.t 2), none⟩,
                ⟨some 150, .load 1 false (.t 149), none⟩,
                ⟨some 151, .faddr 2 (.t 2), none⟩,
                ⟨some 152, .load 1 false (.t 151), none⟩,
                ⟨some 153, .faddr 3 (.t 2), none⟩,
                ⟨some 154, .load 1 false (.t 153), none⟩,
                ⟨some 155, .iaddr 4 (.t 154) (.c (.v (.int .i64 0))), none⟩,
                ⟨some 156, .load 4 true (.t 155), none⟩,
                ⟨some 157, .call 34 [(.t 156), (.c (.v (.bool false)))], none⟩,
                ⟨some 158, .faddr 3 (.t 2), none⟩,
                ⟨some 159, .load 1 false (.t 158), none⟩,
                ⟨some 160, .iaddr 4 (.t 159) (.c (.v (.int .i64 1))), none⟩,
                ⟨some 161, .load 4 true (.t 160), none⟩,
                ⟨some 162, .call 34 [(.t 161), (.c (.v (.bool false)))], none⟩,
                ⟨some 163, .call 40 [(.c (.v (.int .i64 16))), (.t 152), (.t 157), (.t 162)], none⟩,
                ⟨some 164, .faddr 2 (.t 2), none⟩,
                ⟨some 165, .load 1 false (.t 164), none⟩,
                ⟨some 166, .faddr 3 (.t 2), none⟩,
                ⟨some 167, .load 1 false (.t 166), none⟩,
                ⟨some 168, .iaddr 4 (.t 167) (.c (.v (.int .i64 0))), none⟩,
                ⟨some 169, .load 4 true (.t 168), none⟩,
                ⟨some 170, .call 34 [(.t 169), (.c (.v (.bool true)))], none⟩,
                ⟨some 171, .faddr 3 (.t 2), none⟩,
                ⟨some 172, .load 1 false (.t 171), none⟩,
                ⟨some 173, .iaddr 4 (.t 172) (.c (.v (.int .i64 1))), none⟩,
                ⟨some 174, .load 4 true (.t 173), none⟩,
                ⟨some 175, .call 34 [(.t 174), (.c (.v (.bool true)))], none⟩,
                ⟨some 176, .call 40 [(.c (.v (.int .i64 16))), (.t 165), (.t 170), (.t 175)], none⟩],
              [⟨some 177, .call 40 [(.c (.v (.int .i64 17))), (.t 150), (.t 163), (.t 176)], none⟩],
              [⟨none, .store 4 (.t 4) (.t 177), none⟩]])
            .ret))
            (.seq (.ops [⟨some 179, .bin .eql false (.t 20) (.c (.v (.int .i64 20))), none⟩,
              ⟨some 178, .mov (.t 179), none⟩])
            (.cond (.t 178)
              (.seq (.draw [[⟨some 180, .faddr 2 (.t 2), none⟩,
                  ⟨some 181, .load 1 false (.t 180), none⟩,
                  ⟨some 182, .faddr 3 (.t 2), none⟩,
                  ⟨some 183, .load 1 false (.t 182), none⟩,
                  ⟨some 184, .iaddr 4 (.t 183) (.c (.v (.int .i64 0))), none⟩,
                  ⟨some 185, .load 4 true (.t 184), none⟩,
                  ⟨some 186, .mov (.t 1), none⟩,
                  ⟨some 187, .call 34 [(.t 185), (.t 186)], none⟩,
                  ⟨some 188, .bslice 4 [(.v (.int .i64 0)), (.v (.int .i64 0)), (.v (.int .i64 0)), (.v (.slice none 0 0))] 1 [(0, 4, (.t 187))], none⟩],
                [⟨some 189, .build [(.v (.int .i64 0)), (.v (.int .i64 0)), (.v (.int .i64 0)), (.v (.slice none 0 0))] [(0, 1, (.c (.v (.int .i64 20)))), (2, 1, (.t 181)), (3, 1, (.t 188))], none⟩],
                [⟨none, .store 4 (.t 4) (.t 189), none⟩]])
              .ret)
              (.seq (.ops [⟨some 191, .bin .eql false (.t 20) (.c (.v (.int .i64 21))), none⟩,
                ⟨some 190, .mov (.t 191), none⟩])
              (.cond (.t 190)
                (.seq (.seq (.ops [⟨some 192, .mov (.t 1), none⟩])
                (.cond (.t 192)
                  (.seq (.draw [[⟨some 193, .faddr 2 (.t 2), none⟩,
                      ⟨some 194, .load 1 false (.t 193), none⟩,
                      ⟨some 195, .faddr 2 (.t 2), none⟩,
                      ⟨some 196, .load 1 false (.t 195), none⟩,
                      ⟨some 197, .build [(.v (.int .i64 0)), (.v (.int .i64 0)), (.v (.int .i64 0)), (.v (.slice none 0 0))] [(0, 1, (.c (.v (.int .i64 14)))), (2, 1, (.t 196))], none⟩,
                      ⟨some 198, .faddr 3 (.t 2), none⟩,
                      ⟨some 199, .load 1 false (.t 198), none⟩,
                      ⟨some 200, .iaddr 4 (.t 199) (.c (.v (.int .i64 0))), none⟩,
                      ⟨some 201, .load 4 true (.t 200), none⟩,
                      ⟨some 202, .call 34 [(.t 201), (.c (.v (.bool true)))], none⟩],
                    [⟨some 203, .call 40 [(.c (.v (.int .i64 24))), (.t 194), (.t 197), (.t 202)], none⟩],
                    [⟨none, .store 4 (.t 4) (.t 203), none⟩]])
                  .ret)
                  .skip))
                (.seq (.draw [[⟨some 204, .faddr 2 (.t 2), none⟩,
                    ⟨some 205, .load 1 false (.t 204), none⟩,
                    ⟨some 206, .faddr 2 (.t 2), none⟩,
                    ⟨some 207, .load 1 false (.t 206), none⟩,
                    ⟨some 208, .build [(.v (.int .i64 0)), (.v (.int .i64 0)), (.v (.int .i64 0)), (.v (.slice none 0 0))] [(0, 1, (.c (.v (.int .i64 13)))), (2, 1, (.t 207))], none⟩,
                    ⟨some 209, .faddr 3 (.t 2), none⟩,
                    ⟨some 210, .load 1 false (.t 209), none⟩,
                    ⟨some 211, .iaddr 4 (.t 210) (.c (.v (.int .i64 0))), none⟩,
                    ⟨some 212, .load 4 true (.t 211), none⟩,
                    ⟨some 213, .call 34 [(.t 212), (.c (.v (.bool false)))], none⟩],
                  [⟨some 214, .call 40 [(.c (.v (.int .i64 23))), (.t 205), (.t 208), (.t 213)], none⟩],
                  [⟨none, .store 4 (.t 4) (.t 214), none⟩]])
                .ret))
                (.seq (.ops [⟨some 216, .bin .eql false (.t 20) (.c (.v (.int .i64 22))), none⟩,
                  ⟨some 215, .mov (.t 216), none⟩])
                (.cond (.t 215)
                  (.seq (.seq (.ops [⟨some 217, .mov (.t 1), none⟩])
                  (.cond (.t 217)
                    (.seq (.draw [[⟨some 218, .faddr 2 (.t 2), none⟩,
                        ⟨some 219, .load 1 false (.t 218), none⟩,
                        ⟨some 220, .faddr 2 (.t 2), none⟩,
                        ⟨some 221, .load 1 false (.t 220), none⟩,
                        ⟨some 222, .build [(.v (.int .i64 0)), (.v (.int .i64 0)), (.v (.int .i64 0)), (.v (.slice none 0 0))] [(0, 1, (.c (.v (.int .i64 13)))), (2, 1, (.t 221))], none⟩,
                        ⟨some 223, .faddr 3 (.t 2), none⟩,
                        ⟨some 224, .load 1 false (.t 223), none⟩,
                        ⟨some 225, .iaddr 4 (.t 224) (.c (.v (.int .i64 0))), none⟩,
                        ⟨some 226, .load 4 true (.t 225), none⟩,
                        ⟨some 227, .call 34 [(.t 226), (.c (.v (.bool true)))], none⟩],
                      [⟨some 228, .call 40 [(.c (.v (.int .i64 23))), (.t 219), (.t 222), (.t 227)], none⟩],
                      [⟨none, .store 4 (.t 4) (.t 228), none⟩]])
                    .ret)
                    .skip))
                  (.seq (.draw [[⟨some 229, .faddr 2 (.t 2), none⟩,
                      ⟨some 230, .load 1 false (.t 229), none⟩,
                      ⟨some 231, .faddr 2 (.t 2), none⟩,
                      ⟨some 232, .load 1 false (.t 231), none⟩,
                      ⟨some 233, .build [(.v (.int .i64 0)), (.v (.int .i64 0)), (.v (.int .i64 0)), (.v (.slice none 0 0))] [(0, 1, (.c (.v (.int .i64 14)))), (2, 1, (.t 232))], none⟩,
                      ⟨some 234, .faddr 3 (.t 2), none⟩,
                      ⟨some 235, .load 1 false (.t 234), none⟩,
                      ⟨some 236, .iaddr 4 (.t 235) (.c (.v (.int .i64 0))), none⟩,
                      ⟨some 237, .load 4 true (.t 236), none⟩,
                      ⟨some 238, .call 34 [(.t 237), (.c (.v (.bool false)))], none⟩],
                    [⟨some 239, .call 40 [(.c (.v (.int .i64 24))), (.t 230), (.t 233), (.t 238)], none⟩],
                    [⟨none, .store 4 (.t 4) (.t 239), none⟩]])
                  .ret))
                  (.seq (.ops [⟨some 241, .bin .eql false (.t 20) (.c (.v (.int .i64 23))), none⟩,
                    ⟨some 240, .mov (.t 241), none⟩])
                  (.cond (.t 240)
                    (.seq (.seq (.ops [⟨some 242, .mov (.t 1), none⟩])
                    (.cond (.t 242)
                      (.seq (.draw [[⟨some 243, .faddr 2 (.t 2), none⟩,
                          ⟨some 244, .load 1 false (.t 243), none⟩,
                          ⟨some 245, .faddr 3 (.t 2), none⟩,
                          ⟨some 246, .load 1 false (.t 245), none⟩,
                          ⟨some 247, .iaddr 4 (.t 246) (.c (.v (.int .i64 0))), none⟩,
                          ⟨some 248, .load 4 true (.t 247), none⟩,
                          ⟨some 249, .call 34 [(.t 248), (.c (.v (.bool true)))], none⟩,
                          ⟨some 250, .faddr 3 (.t 2), none⟩,
                          ⟨some 251, .load 1 false (.t 250), none⟩,
                          ⟨some 252, .iaddr 4 (.t 251) (.c (.v (.int .i64 1))), none⟩,
                          ⟨some 253, .load 4 true (.t 252), none⟩,
                          ⟨some 254, .call 34 [(.t 253), (.c (.v (.bool true)))], none⟩],
                        [⟨some 255, .call 40 [(.c (.v (.int .i64 24))), (.t 244), (.t 249), (.t 254)], none⟩],
                        [⟨none, .store 4 (.t 4) (.t 255), none⟩]])
                      .ret)
                      .skip))
                    (.seq (.draw [[⟨some 256, .faddr 2 (.t 2), none⟩,
                        ⟨some 257, .load 1 false (.t 256), none⟩,
                        ⟨some 258, .faddr 3 (.t 2), none⟩,
                        ⟨some 259, .load 1 false (.t 258), none⟩,
                        ⟨some 260, .iaddr 4 (.t 259) (.c (.v (.int .i64 0))), none⟩,
                        ⟨some 261, .load 4 true (.t 260), none⟩,
                        ⟨some 262, .call 34 [(.t 261), (.c (.v (.bool false)))], none⟩,
                        ⟨some 263, .faddr 3 (.t 2), none⟩,
                        ⟨some 264, .load 1 false (.t 263), none⟩,
                        ⟨some 265, .iaddr 4 (.t 264) (.c (.v (.int .i64 1))), none⟩,
                        ⟨some 266, .load 4 true (.t 265), none⟩,
                        ⟨some 267, .call 34 [(.t 266), (.c (.v (.bool false)))], none⟩],
                      [⟨some 268, .call 40 [(.c (.v (.int .i64 23))), (.t 257), (.t 262), (.t 267)], none⟩],
                      [⟨none, .store 4 (.t 4) (.t 268), none⟩]])
                    .ret))
                    .skip))))))))))))))))))))
  (.seq (.seq (.ops [⟨some 269, .mov (.t 1), none⟩])
  (.cond (.t 269)
    (.seq (.draw [[⟨some 270, .faddr 2 (.t 2), none⟩,
        ⟨some 271, .load 1 false (.t 270), none⟩,
        ⟨some 272, .faddr 3 (.t 2), none⟩,
        ⟨some 273, .load 1 false (.t 272), none⟩,
        ⟨some 274, .iaddr 4 (.t 273) (.c (.v (.int .i64 0))), none⟩,
        ⟨some 275, .load 4 true (.t 274), none⟩,
        ⟨some 276, .call 34 [(.t 275), (.c (.v (.bool true)))], none⟩,
        ⟨some 277, .faddr 3 (.t 2), none⟩,
        ⟨some 278, .load 1 false (.t 277), none⟩,
        ⟨some 279, .iaddr 4 (.t 278) (.c (.v (.int .i64 1))), none⟩,
        ⟨some 280, .load 4 true (.t 279), none⟩,
        ⟨some 281, .call 34 [(.t 280), (.c (.v (.bool true)))], none⟩],
      [⟨some 282, .call 40 [(.c (.v (.int .i64 23))), (.t 271), (.t 276), (.t 281)], none⟩],
      [⟨none, .store 4 (.t 4) (.t 282), none⟩]])
    .ret)
    .skip))
  (.seq (.draw [[⟨some 283, .faddr 2 (.t 2), none⟩,
      ⟨some 284, .load 1 false (.t 283), none⟩,
      ⟨some 285, .faddr 3 (.t 2), none⟩,
      ⟨some 286, .load 1 false (.t 285), none⟩,
      ⟨some 287, .iaddr 4 (.t 286) (.c (.v (.int .i64 0))), none⟩,
      ⟨some 288, .load 4 true (.t 287), none⟩,
      ⟨some 289, .call 34 [(.t 288), (.c (.v (.bool false)))], none⟩,
      ⟨some 290, .faddr 3 (.t 2), none⟩,
      ⟨some 291, .load 1 false (.t 290), none⟩,
      ⟨some 292, .iaddr 4 (.t 291) (.c (.v (.int .i64 1))), none⟩,
      ⟨some 293, .load 4 true (.t 292), none⟩,
      ⟨some 294, .call 34 [(.t 293), (.c (.v (.bool false)))], none⟩],
    [⟨some 295, .call 40 [(.c (.v (.int .i64 24))), (.t 284), (.t 289), (.t 294)], none⟩],
    [⟨none, .store 4 (.t 4) (.t 295), none⟩]])
  .ret)))))))⟩ := by kernel_rfl

theorem ir35 : compF Try.prog 35 = some ⟨19, [.t 4],
  (.seq (.ops [⟨some 4, .mov (.c (.v (.int .i64 0))), none⟩])
  (.seq (.seq (.ops [⟨some 6, .mov (.t 0), none⟩,
    ⟨some 7, .len false (.t 6), none⟩,
    ⟨some 8, .mov (.c (.v (.int .i64 0))), none⟩])
  (.block 0 (.loop
    (.seq (.ops [⟨some 9, .bin .lss false (.t 8) (.t 7), none⟩])
    (.seq (.cond (.t 9)
      .skip
      (.exit 0))
    (.seq (.block 1 (.seq (.ops [⟨some 10, .mov (.t 8), none⟩,
      ⟨some 5, .mov (.t 10), none⟩])
    (.seq (.ops [⟨some 11, .mov (.t 1), none⟩,
      ⟨some 12, .mov (.t 0), none⟩,
      ⟨some 13, .mov (.t 5), none⟩,
      ⟨some 14, .iaddr 4 (.t 12) (.t 13), none⟩,
      ⟨some 15, .load 4 true (.t 14), none⟩,
      ⟨some 16, .calld (.t 11) [(.t 15)], none⟩])
    (.cond (.t 16)
      (.seq (.ops [⟨some 17, .mov (.t 5), none⟩,
        ⟨some 4, .mov (.t 17), none⟩])
      .ret)
      .skip))))
    (.ops [⟨some 18, .bin .add false (.t 8) (.c (.v (.int .i64 1))), none⟩,
      ⟨some 8, .mov (.t 18), none⟩])))))))
  (.seq (.ops [⟨some 4, .mov (.c (.v (.int .i64 (-1)))), none⟩])
  .ret)))⟩ := by kernel_rfl

theorem ir36 : compF Try.prog 36 = some ⟨15, [.c 6 4 true],
  (.seq (.ops [⟨some 6, .alloc (.agg [(.v (.int .i64 0)), (.v (.int .i64 0)), (.v (.int .i64 0)), (.v (.slice none 0 0))]), none⟩])
  (.seq (.draw [[⟨some 7, .faddr 3 (.t 2), none⟩,
      ⟨some 8, .load 1 false (.t 7), none⟩,
      ⟨some 9, .mov (.t 0), none⟩,
      ⟨some 10, .iaddr 4 (.t 8) (.t 9), none⟩,
      ⟨some 11, .load 4 true (.t 10), none⟩,
      ⟨some 12, .mov (.t 1), none⟩,
      ⟨some 13, .load 1 false (.t 3), none⟩],
    [⟨some 14, .call 32 [(.t 11), (.t 12), (.t 13)], none⟩],
    [⟨none, .store 4 (.t 6) (.t 14), none⟩]])
  .ret))⟩ := by kernel_rfl

theorem ir37 : compF Try.prog 37 = some ⟨20, [.c 10 4 true],
  (.seq (.ops [⟨some 8, .box (.t 2), none⟩,
    ⟨some 9, .box (.t 3), none⟩,
    ⟨some 10, .alloc (.agg [(.v (.int .i64 0)), (.v (.int .i64 0)), (.v (.int .i64 0)), (.v (.slice none 0 0))]), none⟩])
  (.seq (.seq (.ops [⟨some 11, .load 1 false (.t 4), none⟩])
  (.cond (.t 11)
    (.ops [⟨some 12, .mov (.t 1), none⟩,
      ⟨some 0, .mov (.t 12), none⟩])
    .skip))
  (.seq (.ops [⟨some 13, .mov (.t 0), none⟩,
    ⟨some 14, .faddr 2 (.t 5), none⟩,
    ⟨some 15, .load 1 false (.t 14), none⟩,
    ⟨some 16, .load 4 true (.t 8), none⟩,
    ⟨some 17, .load 4 true (.t 9), none⟩,
    ⟨some 18, .bslice 4 [(.v (.int .i64 0)), (.v (.int .i64 0)), (.v (.int .i64 0)), (.v (.slice none 0 0))] 2 [(0, 4, (.t 16)), (4, 4, (.t 17))], none⟩,
    ⟨some 19, .build [(.v (.int .i64 0)), (.v (.int .i64 0)), (.v (.int .i64 0)), (.v (.slice none 0 0))] [(0, 1, (.t 13)), (2, 1, (.t 15)), (3, 1, (.t 18))], none⟩,
    ⟨none, .store 4 (.t 10) (.t 19), none⟩])
  .ret)))⟩ := by kernel_rfl

theorem ir38 : compF Try.prog 38 = some ⟨19, [.c 7 4 true],
  (.seq (.ops [⟨some 7, .alloc (.agg [(.v (.int .i64 0)), (.v (.int .i64 0)), (.v (.int .i64 0)), (.v (.slice none 0 0))]), none⟩])
  (.seq (.ops [⟨some 8, .load 1 false (.t 2), none⟩,
    ⟨some 9, .nilchk (.t 8), none⟩,
    ⟨some 10, .load 1 false (.t 9), none⟩,
    ⟨some 11, .bin .sub false (.t 10) (.c (.v (.int .i64 1))), none⟩,
    ⟨some 12, .nilchk (.t 8), none⟩,
    ⟨none, .store 1 (.t 12) (.t 11), none⟩])
  (.seq (.seq (.ops [⟨some 13, .load 1 false (.t 3), none⟩])
  (.cond (.t 13)
    (.ops [⟨some 14, .mov (.t 1), none⟩,
      ⟨some 0, .mov (.t 14), none⟩])
    .skip))
  (.seq (.ops [⟨some 15, .mov (.t 0), none⟩,
    ⟨some 16, .faddr 2 (.t 4), none⟩,
    ⟨some 17, .load 1 false (.t 16), none⟩,
    ⟨some 18, .build [(.v (.int .i64 0)), (.v (.int .i64 0)), (.v (.int .i64 0)), (.v (.slice none 0 0))] [(0, 1, (.t 15)), (2, 1, (.t 17))], none⟩,
    ⟨none, .store 4 (.t 7) (.t 18), none⟩])
  .ret))))⟩ := by kernel_rfl

theorem ir39 : compF Try.prog 39 = some ⟨17, [.c 6 4 true],
  (.seq (.ops [⟨some 6, .alloc (.agg [(.v (.int .i64 0)), (.v (.int .i64 0)), (.v (.int .i64 0)), (.v (.slice none 0 0))]), none⟩])
  (.seq (.draw [[⟨some 7, .faddr 2 (.t 2), none⟩,
      ⟨some 8, .load 1 false (.t 7), none⟩,
      ⟨some 9, .load 1 false (.t 3), none⟩,
      ⟨some 10, .mov (.t 0), none⟩,
      ⟨some 11, .calld (.t 9) [(.c (.v (.int .i64 0))), (.t 10)], none⟩,
      ⟨some 12, .load 1 false (.t 3), none⟩,
      ⟨some 13, .mov (.t 1), none⟩,
      ⟨some 14, .calld (.t 12) [(.c (.v (.int .i64 1))), (.t 13)], none⟩,
      ⟨some 15, .bslice 4 [(.v (.int .i64 0)), (.v (.int .i64 0)), (.v (.int .i64 0)), (.v (.slice none 0 0))] 2 [(0, 4, (.t 11)), (4, 4, (.t 14))], none⟩],
    [⟨some 16, .build [(.v (.int .i64 0)), (.v (.int .i64 0)), (.v (.int .i64 0)), (.v (.slice none 0 0))] [(0, 1, (.c (.v (.int .i64 16)))), (2, 1, (.t 8)), (3, 1, (.t 15))], none⟩],
    [⟨none, .store 4 (.t 6) (.t 16), none⟩]])
  .ret))⟩ := by kernel_rfl

theorem ir40 : compF Try.prog 40 = some ⟨15, [.c 8 4 true],
  (.seq (.ops [⟨some 6, .box (.t 2), none⟩,
    ⟨some 7, .box (.t 3), none⟩,
    ⟨some 8, .alloc (.agg [(.v (.int .i64 0)), (.v (.int .i64 0)), (.v (.int .i64 0)), (.v (.slice none 0 0))]), none⟩])
  (.seq (.ops [⟨some 9, .mov (.t 0), none⟩,
    ⟨some 10, .mov (.t 1), none⟩,
    ⟨some 11, .load 4 true (.t 6), none⟩,
    ⟨some 12, .load 4 true (.t 7), none⟩,
    ⟨some 13, .bslice 4 [(.v (.int .i64 0)), (.v (.int .i64 0)), (.v (.int .i64 0)), (.v (.slice none 0 0))] 2 [(0, 4, (.t 11)), (4, 4, (.t 12))], none⟩,
    ⟨some 14, .build [(.v (.int .i64 0)), (.v (.int .i64 0)), (.v (.int .i64 0)), (.v (.slice none 0 0))] [(0, 1, (.t 9)), (2, 1, (.t 10)), (3, 1, (.t 13))], none⟩,
    ⟨none, .store 4 (.t 8) (.t 14), none⟩])
  .ret))⟩ := by kernel_rfl

end Go.Proofs.Ytaegmmeppkgnkaa
