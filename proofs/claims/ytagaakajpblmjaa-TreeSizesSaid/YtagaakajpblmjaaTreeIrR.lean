/- Functions of the program in the small language. -/
import Derived.Test.YtagaakajpblmjaaTreeIr
import Derived.Test.YtagaakajpblmjaaChecked
namespace Go.Proofs.Ytagaakajpblmjaa
open Go Lg
theorem ir24 : compF Try.prog 24 = some ⟨16, [.t 2],
  (.seq (.ops [⟨some 1, .box (.t 0), none⟩,
    ⟨some 2, .mov (.c (.v (.slice none 0 0))), none⟩])
  (.seq (.seq (.ops [⟨some 3, .faddr 0 (.t 1), none⟩,
    ⟨some 4, .load 1 false (.t 3), none⟩,
    ⟨some 5, .len false (.t 4), none⟩,
    ⟨some 6, .bin .eql false (.t 5) (.c (.v (.int .i64 1))), none⟩])
  (.cond (.t 6)
    (.seq (.ops [⟨some 7, .faddr 2 (.t 1), none⟩,
      ⟨some 8, .load 1 false (.t 7), none⟩,
      ⟨some 9, .len false (.t 8), none⟩,
      ⟨some 10, .bslice 1 [(.v (.int .i64 0))] 1 [(0, 1, (.t 9))], none⟩,
      ⟨some 2, .mov (.t 10), none⟩])
    .ret)
    .skip))
  (.seq (.ops [⟨some 11, .load 4 true (.t 1), none⟩,
    ⟨some 12, .faddr 0 (.t 1), none⟩,
    ⟨some 13, .load 1 false (.t 12), none⟩,
    ⟨some 14, .len false (.t 13), none⟩,
    ⟨some 15, .call 45 [(.t 11), (.c (.v (.int .i64 0))), (.t 14)], none⟩,
    ⟨some 2, .mov (.t 15), none⟩])
  .ret)))⟩ := by kernel_rfl
theorem ir45 : compF Try.prog 45 = some ⟨38, [.t 6],
  (.seq (.ops [⟨some 3, .box (.t 0), none⟩,
    ⟨some 6, .mov (.c (.v (.slice none 0 0))), none⟩])
  (.seq (.seq (.ops [⟨some 9, .mov (.t 2), none⟩,
    ⟨some 10, .mov (.t 1), none⟩,
    ⟨some 11, .bin .sub false (.t 9) (.t 10), none⟩,
    ⟨some 12, .bin .lss false (.t 11) (.c (.v (.int .i64 2))), none⟩])
  (.cond (.t 12)
    (.seq (.ops [⟨some 6, .mov (.c (.v (.slice none 0 0))), none⟩])
    .ret)
    .skip))
  (.seq (.ops [⟨some 13, .mov (.t 1), none⟩,
    ⟨some 14, .mov (.t 2), none⟩,
    ⟨some 15, .mov (.t 1), none⟩,
    ⟨some 16, .bin .sub false (.t 14) (.t 15), none⟩,
    ⟨some 17, .bin .add false (.t 16) (.c (.v (.int .i64 1))), none⟩,
    ⟨some 18, .bin .quo false (.t 17) (.c (.v (.int .i64 2))), none⟩,
    ⟨some 19, .bin .add false (.t 13) (.t 18), none⟩,
    ⟨some 7, .mov (.t 19), none⟩])
  (.seq (.ops [⟨some 20, .faddr 2 (.t 3), none⟩,
    ⟨some 21, .load 1 false (.t 20), none⟩,
    ⟨some 22, .mov (.t 1), none⟩,
    ⟨some 23, .mov (.t 2), none⟩,
    ⟨some 24, .call 59 [(.t 21), (.t 22), (.t 23)], none⟩,
    ⟨some 25, .bslice 1 [(.v (.int .i64 0))] 1 [(0, 1, (.t 24))], none⟩,
    ⟨some 8, .mov (.t 25), none⟩])
  (.seq (.ops [⟨some 26, .mov (.t 8), none⟩,
    ⟨some 27, .load 4 true (.t 3), none⟩,
    ⟨some 28, .mov (.t 1), none⟩,
    ⟨some 29, .mov (.t 7), none⟩,
    ⟨some 30, .call 45 [(.t 27), (.t 28), (.t 29)], none⟩,
    ⟨some 31, .append 1 8 [(.v (.int .i64 0))] (.t 26) (.t 30), none⟩,
    ⟨some 8, .mov (.t 31), none⟩])
  (.seq (.ops [⟨some 32, .mov (.t 8), none⟩,
    ⟨some 33, .load 4 true (.t 3), none⟩,
    ⟨some 34, .mov (.t 7), none⟩,
    ⟨some 35, .mov (.t 2), none⟩,
    ⟨some 36, .call 45 [(.t 33), (.t 34), (.t 35)], none⟩,
    ⟨some 37, .append 1 8 [(.v (.int .i64 0))] (.t 32) (.t 36), none⟩,
    ⟨some 6, .mov (.t 37), none⟩])
  .ret))))))⟩ := by kernel_rfl
theorem ir59 : compF Try.prog 59 = some ⟨47, [.t 6],
  (.seq (.ops [⟨some 6, .mov (.c (.v (.int .i64 0))), none⟩])
  (.seq (.ops [⟨some 7, .mov (.c (.v (.int .i64 0))), none⟩])
  (.seq (.seq (.ops [⟨some 8, .mov (.c (.v (.int .i64 0))), none⟩])
  (.block 0 (.loop
    (.seq (.seq (.ops [⟨some 12, .mov (.t 8), none⟩,
      ⟨some 13, .mov (.t 0), none⟩,
      ⟨some 14, .len false (.t 13), none⟩,
      ⟨some 15, .bin .lss false (.t 12) (.t 14), none⟩])
    (.cond (.t 15)
      .skip
      (.exit 0)))
    (.seq (.block 1 (.seq (.ops [⟨some 9, .mov (.c (.v (.bool false))), none⟩])
    (.seq (.seq (.ops [⟨some 10, .mov (.c (.v (.int .i64 0))), none⟩])
    (.block 2 (.loop
      (.seq (.seq (.ops [⟨some 18, .mov (.t 10), none⟩,
        ⟨some 19, .mov (.t 8), none⟩,
        ⟨some 20, .bin .lss false (.t 18) (.t 19), none⟩])
      (.cond (.t 20)
        .skip
        (.exit 2)))
      (.seq (.block 3 (.seq (.draw [[⟨some 23, .mov (.t 0), none⟩,
          ⟨some 24, .mov (.t 8), none⟩,
          ⟨some 25, .iaddr 1 (.t 23) (.t 24), none⟩,
          ⟨some 26, .load 1 false (.t 25), none⟩,
          ⟨some 27, .mov (.t 1), none⟩,
          ⟨some 28, .mov (.t 2), none⟩,
          ⟨some 29, .slice 1 (.t 26) (some (.t 27)) (some (.t 28)) none, none⟩,
          ⟨some 30, .mov (.t 0), none⟩,
          ⟨some 31, .mov (.t 10), none⟩,
          ⟨some 32, .iaddr 1 (.t 30) (.t 31), none⟩,
          ⟨some 33, .load 1 false (.t 32), none⟩,
          ⟨some 34, .mov (.t 1), none⟩,
          ⟨some 35, .mov (.t 2), none⟩,
          ⟨some 36, .slice 1 (.t 33) (some (.t 34)) (some (.t 35)) none, none⟩],
        [⟨some 37, .call 22 [(.t 29), (.t 36)], none⟩],
        [⟨some 11, .mov (.t 37), none⟩]])
      (.ops [⟨some 38, .mov (.t 9), none⟩,
        ⟨some 39, .mov (.t 38), none⟩,
        ⟨some 40, .mov (.t 11), some (39, false)⟩,
        ⟨some 41, .pick (.t 39) (.c (.v (.bool true))) (.t 40), none⟩,
        ⟨some 9, .mov (.t 41), none⟩])))
      (.ops [⟨some 21, .mov (.t 10), none⟩,
        ⟨some 22, .bin .add false (.t 21) (.c (.v (.int .i64 1))), none⟩,
        ⟨some 10, .mov (.t 22), none⟩]))))))
    (.seq (.ops [⟨some 42, .mov (.t 9), none⟩,
      ⟨some 43, .un .not (.t 42), none⟩])
    (.cond (.t 43)
      (.ops [⟨some 44, .mov (.t 7), none⟩,
        ⟨some 45, .bin .add false (.t 44) (.c (.v (.int .i64 1))), none⟩,
        ⟨some 7, .mov (.t 45), none⟩])
      .skip)))))
    (.ops [⟨some 16, .mov (.t 8), none⟩,
      ⟨some 17, .bin .add false (.t 16) (.c (.v (.int .i64 1))), none⟩,
      ⟨some 8, .mov (.t 17), none⟩]))))))
  (.seq (.ops [⟨some 46, .mov (.t 7), none⟩,
    ⟨some 6, .mov (.t 46), none⟩])
  .ret))))⟩ := by kernel_rfl
end Go.Proofs.Ytagaakajpblmjaa
