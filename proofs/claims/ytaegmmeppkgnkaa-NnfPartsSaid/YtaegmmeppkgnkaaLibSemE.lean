/- Rows of answers: what something says of each place of a word that goes round. -/
import Derived.Test.YtaegmmeppkgnkaaLibAut
import Derived.Test.YtaegmmeppkgnkaaLibAcc
namespace Lg
open Go

def irEach : FnIR := ⟨22, [.t 4],
  (.seq (.ops [⟨some 4, .mov (.c (.v (.slice none 0 0))), none⟩])
  (.seq (.ops [⟨some 7, .mov (.t 0), none⟩,
    ⟨some 8, .mksl 1 1 [(.v (.bool false))] (.t 7) (.t 7), none⟩,
    ⟨some 5, .mov (.t 8), none⟩])
  (.seq (.seq (.ops [⟨some 9, .mov (.t 5), none⟩,
    ⟨some 10, .len false (.t 9), none⟩,
    ⟨some 11, .mov (.c (.v (.int .i64 0))), none⟩])
  (.block 0 (.loop
    (.seq (.ops [⟨some 12, .bin .lss false (.t 11) (.t 10), none⟩])
    (.seq (.cond (.t 12)
      .skip
      (.exit 0))
    (.seq (.block 1 (.seq (.ops [⟨some 13, .mov (.t 11), none⟩,
      ⟨some 6, .mov (.t 13), none⟩])
    (.ops [⟨some 14, .mov (.t 5), none⟩,
      ⟨some 15, .mov (.t 6), none⟩,
      ⟨some 16, .mov (.t 1), none⟩,
      ⟨some 17, .mov (.t 6), none⟩,
      ⟨some 18, .calld (.t 16) [(.t 17)], none⟩,
      ⟨some 19, .iaddr 1 (.t 14) (.t 15), none⟩,
      ⟨none, .store 1 (.t 19) (.t 18), none⟩])))
    (.ops [⟨some 20, .bin .add false (.t 11) (.c (.v (.int .i64 1))), none⟩,
      ⟨some 11, .mov (.t 20), none⟩])))))))
  (.seq (.ops [⟨some 21, .mov (.t 5), none⟩,
    ⟨some 4, .mov (.t 21), none⟩])
  .ret))))⟩

def irNextS : FnIR := ⟨15, [.t 4],
  (.seq (.ops [⟨some 2, .box (.t 0), none⟩,
    ⟨some 4, .mov (.c (.v (.int .i64 0))), none⟩])
  (.seq (.seq (.ops [⟨some 5, .mov (.t 1), none⟩,
    ⟨some 6, .bin .add false (.t 5) (.c (.v (.int .i64 1))), none⟩,
    ⟨some 7, .faddr 0 (.t 2), none⟩,
    ⟨some 8, .load 1 false (.t 7), none⟩,
    ⟨some 9, .len false (.t 8), none⟩,
    ⟨some 10, .bin .eql false (.t 6) (.t 9), none⟩])
  (.cond (.t 10)
    (.seq (.ops [⟨some 11, .faddr 1 (.t 2), none⟩,
      ⟨some 12, .load 1 false (.t 11), none⟩,
      ⟨some 4, .mov (.t 12), none⟩])
    .ret)
    .skip))
  (.seq (.ops [⟨some 13, .mov (.t 1), none⟩,
    ⟨some 14, .bin .add false (.t 13) (.c (.v (.int .i64 1))), none⟩,
    ⟨some 4, .mov (.t 14), none⟩])
  .ret)))⟩

def irStill (c1 c2 ea eq : Nat) : FnIR := ⟨25, [.t 6],
  (.seq (.ops [⟨some 3, .box (.t 0), none⟩,
    ⟨some 4, .box (.t 1), none⟩,
    ⟨some 5, .box (.t 2), none⟩,
    ⟨some 6, .mov (.c (.v (.slice none 0 0))), none⟩])
  (.scope 0 (.seq (.ops [⟨some 9, .faddr 0 (.t 3), none⟩,
    ⟨some 10, .load 1 false (.t 9), none⟩,
    ⟨some 11, .len false (.t 10), none⟩,
    ⟨some 12, .mkfn (.func c1) [] [(.t 4)], none⟩,
    ⟨some 13, .call ea [(.t 11), (.t 12)], none⟩,
    ⟨some 7, .alloc (.v (.slice none 0 0)), none⟩,
    ⟨none, .store 1 (.t 7) (.t 13), none⟩])
  (.seq (.label 0)
  (.seq (.ops [⟨some 14, .faddr 0 (.t 3), none⟩,
    ⟨some 15, .load 1 false (.t 14), none⟩,
    ⟨some 16, .len false (.t 15), none⟩,
    ⟨some 17, .mkfn (.func c2) [] [(.t 5), (.t 7)], none⟩,
    ⟨some 18, .call ea [(.t 16), (.t 17)], none⟩,
    ⟨some 8, .mov (.t 18), none⟩])
  (.seq (.seq (.ops [⟨some 19, .load 1 false (.t 7), none⟩,
    ⟨some 20, .mov (.t 8), none⟩,
    ⟨some 21, .call eq [(.t 19), (.t 20)], none⟩,
    ⟨some 22, .un .not (.t 21), none⟩])
  (.cond (.t 22)
    (.seq (.ops [⟨some 23, .mov (.t 8), none⟩,
      ⟨none, .store 1 (.t 7) (.t 23), none⟩])
    (.goto 0))
    .skip))
  (.seq (.ops [⟨some 24, .load 1 false (.t 7), none⟩,
    ⟨some 6, .mov (.t 24), none⟩])
  .ret)))))
    (.seq .skip
    (.seq (.ops [⟨some 14, .faddr 0 (.t 3), none⟩,
      ⟨some 15, .load 1 false (.t 14), none⟩,
      ⟨some 16, .len false (.t 15), none⟩,
      ⟨some 17, .mkfn (.func c2) [] [(.t 5), (.t 7)], none⟩,
      ⟨some 18, .call ea [(.t 16), (.t 17)], none⟩,
      ⟨some 8, .mov (.t 18), none⟩])
    (.seq (.seq (.ops [⟨some 19, .load 1 false (.t 7), none⟩,
      ⟨some 20, .mov (.t 8), none⟩,
      ⟨some 21, .call eq [(.t 19), (.t 20)], none⟩,
      ⟨some 22, .un .not (.t 21), none⟩])
    (.cond (.t 22)
      (.seq (.ops [⟨some 23, .mov (.t 8), none⟩,
        ⟨none, .store 1 (.t 7) (.t 23), none⟩])
      (.goto 0))
      .skip))
    (.seq (.ops [⟨some 24, .load 1 false (.t 7), none⟩,
      ⟨some 6, .mov (.t 24), none⟩])
    .ret))))))⟩

def irFirst : FnIR := ⟨5, [.t 3],
  (.seq (.ops [⟨some 3, .mov (.c (.v (.bool false))), none⟩])
  (.seq (.ops [⟨some 4, .load 1 false (.t 1), none⟩,
    ⟨some 3, .mov (.t 4), none⟩])
  .ret))⟩

def irTurn : FnIR := ⟨9, [.t 4],
  (.seq (.ops [⟨some 4, .mov (.c (.v (.bool false))), none⟩])
  (.seq (.ops [⟨some 5, .load 1 false (.t 1), none⟩,
    ⟨some 6, .mov (.t 0), none⟩,
    ⟨some 7, .load 1 false (.t 2), none⟩,
    ⟨some 8, .calld (.t 5) [(.t 6), (.t 7)], none⟩,
    ⟨some 4, .mov (.t 8), none⟩])
  .ret))⟩

def irEqB : FnIR := ⟨26, [.t 4],
  (.seq (.ops [⟨some 4, .mov (.c (.v (.bool false))), none⟩])
  (.seq (.seq (.ops [⟨some 6, .mov (.t 0), none⟩,
    ⟨some 7, .len false (.t 6), none⟩,
    ⟨some 8, .mov (.t 1), none⟩,
    ⟨some 9, .len false (.t 8), none⟩,
    ⟨some 10, .bin .neq false (.t 7) (.t 9), none⟩])
  (.cond (.t 10)
    (.seq (.ops [⟨some 4, .mov (.c (.v (.bool false))), none⟩])
    .ret)
    .skip))
  (.seq (.seq (.ops [⟨some 11, .mov (.t 0), none⟩,
    ⟨some 12, .len false (.t 11), none⟩,
    ⟨some 13, .mov (.c (.v (.int .i64 0))), none⟩])
  (.block 0 (.loop
    (.seq (.ops [⟨some 14, .bin .lss false (.t 13) (.t 12), none⟩])
    (.seq (.cond (.t 14)
      .skip
      (.exit 0))
    (.seq (.block 1 (.seq (.ops [⟨some 15, .mov (.t 13), none⟩,
      ⟨some 5, .mov (.t 15), none⟩])
    (.seq (.draw [[⟨some 16, .mov (.t 0), none⟩,
        ⟨some 17, .mov (.t 5), none⟩,
        ⟨some 18, .iaddr 1 (.t 16) (.t 17), none⟩,
        ⟨some 19, .load 1 false (.t 18), none⟩,
        ⟨some 20, .mov (.t 1), none⟩,
        ⟨some 21, .mov (.t 5), none⟩,
        ⟨some 22, .iaddr 1 (.t 20) (.t 21), none⟩,
        ⟨some 23, .load 1 false (.t 22), none⟩],
      [⟨some 24, .bin .neq true (.t 19) (.t 23), none⟩]])
    (.cond (.t 24)
      (.seq (.ops [⟨some 4, .mov (.c (.v (.bool false))), none⟩])
      .ret)
      .skip))))
    (.ops [⟨some 25, .bin .add false (.t 13) (.c (.v (.int .i64 1))), none⟩,
      ⟨some 13, .mov (.t 25), none⟩])))))))
  (.seq (.ops [⟨some 4, .mov (.c (.v (.bool true))), none⟩])
  .ret))))⟩

def irUntil (cu st : Nat) : FnIR := ⟨10, [.t 6],
  (.seq (.ops [⟨some 3, .box (.t 0), none⟩,
    ⟨some 4, .box (.t 1), none⟩,
    ⟨some 5, .box (.t 2), none⟩,
    ⟨some 6, .mov (.c (.v (.slice none 0 0))), none⟩])
  (.seq (.ops [⟨some 7, .load 2 true (.t 3), none⟩,
    ⟨some 8, .mkfn (.func cu) [] [(.t 5), (.t 4), (.t 3)], none⟩,
    ⟨some 9, .call st [(.t 7), (.c (.v (.bool false))), (.t 8)], none⟩,
    ⟨some 6, .mov (.t 9), none⟩])
  .ret))⟩

def irRelease (cr st : Nat) : FnIR := ⟨10, [.t 6],
  (.seq (.ops [⟨some 3, .box (.t 0), none⟩,
    ⟨some 4, .box (.t 1), none⟩,
    ⟨some 5, .box (.t 2), none⟩,
    ⟨some 6, .mov (.c (.v (.slice none 0 0))), none⟩])
  (.seq (.ops [⟨some 7, .load 2 true (.t 3), none⟩,
    ⟨some 8, .mkfn (.func cr) [] [(.t 5), (.t 4), (.t 3)], none⟩,
    ⟨some 9, .call st [(.t 7), (.c (.v (.bool true))), (.t 8)], none⟩,
    ⟨some 6, .mov (.t 9), none⟩])
  .ret))⟩

def irCU (nx : Nat) : FnIR := ⟨26, [.t 7],
  (.seq (.ops [⟨some 7, .mov (.c (.v (.bool false))), none⟩])
  (.seq (.ops [⟨some 8, .load 1 false (.t 2), none⟩,
    ⟨some 9, .mov (.t 0), none⟩,
    ⟨some 10, .iaddr 1 (.t 8) (.t 9), none⟩,
    ⟨some 11, .load 1 false (.t 10), none⟩,
    ⟨some 12, .mov (.t 11), none⟩,
    ⟨some 13, .load 1 false (.t 3), some (12, false)⟩,
    ⟨some 14, .mov (.t 0), some (12, false)⟩,
    ⟨some 15, .iaddr 1 (.t 13) (.t 14), some (12, false)⟩,
    ⟨some 16, .load 1 false (.t 15), some (12, false)⟩,
    ⟨some 17, .mov (.t 16), some (12, false)⟩,
    ⟨some 18, .mov (.t 1), some (17, true)⟩,
    ⟨some 19, .load 2 true (.t 4), some (17, true)⟩,
    ⟨some 20, .mov (.t 0), some (17, true)⟩,
    ⟨some 21, .call nx [(.t 19), (.t 20)], some (17, true)⟩,
    ⟨some 22, .iaddr 1 (.t 18) (.t 21), some (17, true)⟩,
    ⟨some 23, .load 1 false (.t 22), some (17, true)⟩,
    ⟨some 24, .pick (.t 17) (.t 23) (.c (.v (.bool false))), some (12, false)⟩,
    ⟨some 25, .pick (.t 12) (.c (.v (.bool true))) (.t 24), none⟩,
    ⟨some 7, .mov (.t 25), none⟩])
  .ret))⟩

def irCR (nx : Nat) : FnIR := ⟨26, [.t 7],
  (.seq (.ops [⟨some 7, .mov (.c (.v (.bool false))), none⟩])
  (.seq (.ops [⟨some 8, .load 1 false (.t 2), none⟩,
    ⟨some 9, .mov (.t 0), none⟩,
    ⟨some 10, .iaddr 1 (.t 8) (.t 9), none⟩,
    ⟨some 11, .load 1 false (.t 10), none⟩,
    ⟨some 12, .mov (.t 11), none⟩,
    ⟨some 13, .load 1 false (.t 3), some (12, true)⟩,
    ⟨some 14, .mov (.t 0), some (12, true)⟩,
    ⟨some 15, .iaddr 1 (.t 13) (.t 14), some (12, true)⟩,
    ⟨some 16, .load 1 false (.t 15), some (12, true)⟩,
    ⟨some 17, .mov (.t 16), some (12, true)⟩,
    ⟨some 18, .mov (.t 1), some (17, false)⟩,
    ⟨some 19, .load 2 true (.t 4), some (17, false)⟩,
    ⟨some 20, .mov (.t 0), some (17, false)⟩,
    ⟨some 21, .call nx [(.t 19), (.t 20)], some (17, false)⟩,
    ⟨some 22, .iaddr 1 (.t 18) (.t 21), some (17, false)⟩,
    ⟨some 23, .load 1 false (.t 22), some (17, false)⟩,
    ⟨some 24, .pick (.t 17) (.c (.v (.bool true))) (.t 23), some (12, true)⟩,
    ⟨some 25, .pick (.t 12) (.t 24) (.c (.v (.bool false))), none⟩,
    ⟨some 7, .mov (.t 25), none⟩])
  .ret))⟩

def irC42 : FnIR := ⟨5, [.t 3],
  (.seq (.ops [⟨some 3, .mov (.c (.v (.bool false))), none⟩])
  (.seq (.ops [⟨some 4, .load 1 false (.t 1), none⟩,
    ⟨some 3, .mov (.t 4), none⟩])
  .ret))⟩

def irC43 : FnIR := ⟨9, [.t 3],
  (.seq (.ops [⟨some 3, .mov (.c (.v (.bool false))), none⟩])
  (.seq (.ops [⟨some 4, .load 1 false (.t 1), none⟩,
    ⟨some 5, .mov (.t 0), none⟩,
    ⟨some 6, .iaddr 1 (.t 4) (.t 5), none⟩,
    ⟨some 7, .load 1 false (.t 6), none⟩,
    ⟨some 8, .un .not (.t 7), none⟩,
    ⟨some 3, .mov (.t 8), none⟩])
  .ret))⟩

def irC44 : FnIR := ⟨15, [.t 4],
  (.seq (.ops [⟨some 4, .mov (.c (.v (.bool false))), none⟩])
  (.seq (.ops [⟨some 5, .load 1 false (.t 1), none⟩,
    ⟨some 6, .mov (.t 0), none⟩,
    ⟨some 7, .iaddr 1 (.t 5) (.t 6), none⟩,
    ⟨some 8, .load 1 false (.t 7), none⟩,
    ⟨some 9, .mov (.t 8), none⟩,
    ⟨some 10, .load 1 false (.t 2), some (9, true)⟩,
    ⟨some 11, .mov (.t 0), some (9, true)⟩,
    ⟨some 12, .iaddr 1 (.t 10) (.t 11), some (9, true)⟩,
    ⟨some 13, .load 1 false (.t 12), some (9, true)⟩,
    ⟨some 14, .pick (.t 9) (.t 13) (.c (.v (.bool false))), none⟩,
    ⟨some 4, .mov (.t 14), none⟩])
  .ret))⟩

def irC45 : FnIR := ⟨15, [.t 4],
  (.seq (.ops [⟨some 4, .mov (.c (.v (.bool false))), none⟩])
  (.seq (.ops [⟨some 5, .load 1 false (.t 1), none⟩,
    ⟨some 6, .mov (.t 0), none⟩,
    ⟨some 7, .iaddr 1 (.t 5) (.t 6), none⟩,
    ⟨some 8, .load 1 false (.t 7), none⟩,
    ⟨some 9, .mov (.t 8), none⟩,
    ⟨some 10, .load 1 false (.t 2), some (9, false)⟩,
    ⟨some 11, .mov (.t 0), some (9, false)⟩,
    ⟨some 12, .iaddr 1 (.t 10) (.t 11), some (9, false)⟩,
    ⟨some 13, .load 1 false (.t 12), some (9, false)⟩,
    ⟨some 14, .pick (.t 9) (.c (.v (.bool true))) (.t 13), none⟩,
    ⟨some 4, .mov (.t 14), none⟩])
  .ret))⟩

def irC46 : FnIR := ⟨16, [.t 4],
  (.seq (.ops [⟨some 4, .mov (.c (.v (.bool false))), none⟩])
  (.seq (.ops [⟨some 5, .load 1 false (.t 1), none⟩,
    ⟨some 6, .mov (.t 0), none⟩,
    ⟨some 7, .iaddr 1 (.t 5) (.t 6), none⟩,
    ⟨some 8, .load 1 false (.t 7), none⟩,
    ⟨some 9, .un .not (.t 8), none⟩,
    ⟨some 10, .mov (.t 9), none⟩,
    ⟨some 11, .load 1 false (.t 2), some (10, false)⟩,
    ⟨some 12, .mov (.t 0), some (10, false)⟩,
    ⟨some 13, .iaddr 1 (.t 11) (.t 12), some (10, false)⟩,
    ⟨some 14, .load 1 false (.t 13), some (10, false)⟩,
    ⟨some 15, .pick (.t 10) (.c (.v (.bool true))) (.t 14), none⟩,
    ⟨some 4, .mov (.t 15), none⟩])
  .ret))⟩

def irC47 : FnIR := ⟨14, [.t 4],
  (.seq (.ops [⟨some 4, .mov (.c (.v (.bool false))), none⟩])
  (.seq (.draw [[⟨some 5, .load 1 false (.t 1), none⟩,
      ⟨some 6, .mov (.t 0), none⟩,
      ⟨some 7, .iaddr 1 (.t 5) (.t 6), none⟩,
      ⟨some 8, .load 1 false (.t 7), none⟩,
      ⟨some 9, .load 1 false (.t 2), none⟩,
      ⟨some 10, .mov (.t 0), none⟩,
      ⟨some 11, .iaddr 1 (.t 9) (.t 10), none⟩,
      ⟨some 12, .load 1 false (.t 11), none⟩],
    [⟨some 13, .bin .eql true (.t 8) (.t 12), none⟩],
    [⟨some 4, .mov (.t 13), none⟩]])
  .ret))⟩

def irC48 (nx : Nat) : FnIR := ⟨11, [.t 4],
  (.seq (.ops [⟨some 4, .mov (.c (.v (.bool false))), none⟩])
  (.seq (.draw [[⟨some 5, .load 1 false (.t 1), none⟩,
      ⟨some 6, .load 2 true (.t 2), none⟩,
      ⟨some 7, .mov (.t 0), none⟩,
      ⟨some 8, .call nx [(.t 6), (.t 7)], none⟩],
    [⟨some 9, .iaddr 1 (.t 5) (.t 8), none⟩],
    [⟨some 10, .load 1 false (.t 9), none⟩],
    [⟨some 4, .mov (.t 10), none⟩]])
  .ret))⟩

def irC41 (c ea : Nat) : FnIR := ⟨7, [.t 3],
  (.seq (.ops [⟨some 2, .box (.t 0), none⟩,
    ⟨some 3, .mov (.c (.v (.slice none 0 0))), none⟩])
  (.seq (.ops [⟨some 4, .load 1 false (.t 1), none⟩,
    ⟨some 5, .mkfn (.func c) [] [(.t 2)], none⟩,
    ⟨some 6, .call ea [(.t 4), (.t 5)], none⟩,
    ⟨some 3, .mov (.t 6), none⟩])
  .ret))⟩

def irC39 (ev : Nat) : FnIR := ⟨13, [.t 4],
  (.seq (.ops [⟨some 4, .mov (.c (.v (.bool false))), none⟩])
  (.seq (.draw [[⟨some 5, .load 4 true (.t 1), none⟩,
      ⟨some 6, .faddr 0 (.t 2), none⟩,
      ⟨some 7, .load 1 false (.t 6), none⟩,
      ⟨some 8, .mov (.t 0), none⟩,
      ⟨some 9, .iaddr 1 (.t 7) (.t 8), none⟩,
      ⟨some 10, .load 1 false (.t 9), none⟩],
    [⟨some 11, .call ev [(.t 5), (.t 10)], none⟩],
    [⟨some 12, .bin .eql false (.t 11) (.c (.v (.int .i64 1))), none⟩],
    [⟨some 4, .mov (.t 12), none⟩]])
  .ret))⟩

theorem callD_mono {P : Program} {x : L} {ls : List L} {H : Heap} {K K' : L → Heap → Prop} (hk : ∀ l H, K l H → K' l H) (h : callD P x ls H K) : callD P x ls H K' := by
  revert h
  unfold callD
  split
  · exact fun h => callAt_mono h hk
  · exact fun h => callY_mono hk h
  · exact id

theorem calldT_val {P : Program} {x : L} {ls : List L} {r : L} {H : Heap} {dst : Option Nat} {rest : List O} {K : Env → Heap → Prop} {E : Env} (h : callD P x ls H fun l H' => l = r ∧ H' = H) (hk : lops P rest K (putE E dst r) H) : calldT P x ls H dst rest K E :=
  callD_mono (fun l H' ⟨h1, h2⟩ => by subst h1 h2; exact hk) h

/-- The first answers of a row. -/
def rowB (n : Nat) (h : Nat → Bool) (i : Nat) : List L := (List.range n).map fun j => boolL (decide (j < i) && h j)
def rowsB (n : Nat) (h : Nat → Bool) : List Bool := (List.range n).map h
@[simp] theorem rowB_length {n h i} : (rowB n h i).length = n := by simp [rowB]
theorem rowB_get {n h i j} (hj : j < n) : (rowB n h i)[j]? = some (boolL (decide (j < i) && h j)) := by simp [rowB, hj]
theorem rowB_set {n h i} (hi : i < n) : (rowB n h i).set i (boolL (h i)) = rowB n h (i + 1) := by
  refine List.ext_getElem? fun j => ?_
  by_cases hj : j < n
  · by_cases e : i = j
    · subst e; rw [List.getElem?_set_self (by simpa using hi), rowB_get hj]; simp
    · rw [List.getElem?_set_ne e, rowB_get hj, rowB_get hj]
      have : decide (j < i) = decide (j < i + 1) := by rw [decide_eq_decide]; omega
      rw [this]
  · rw [List.getElem?_eq_none (by simp; omega), List.getElem?_eq_none (by simp; omega)]
theorem rowB_zero {n h} : rowB n h 0 = List.replicate n (boolL false) := by
  refine List.ext_getElem? fun j => ?_
  by_cases hj : j < n
  · rw [rowB_get hj]; simp [hj]
  · rw [List.getElem?_eq_none (by simp; omega), List.getElem?_eq_none (by simp; omega)]
theorem rowB_all {n h} : rowB n h n = (rowsB n h).map boolL := by
  refine List.ext_getElem? fun j => ?_
  by_cases hj : j < n
  · rw [rowB_get hj]; simp [hj, rowsB]
  · rw [List.getElem?_eq_none (by simp; omega), List.getElem?_eq_none (by simp [rowsB]; omega)]
theorem rowB_below {m n h i} : belowL m (rowB n h i) = true := by simp [rowB, belowL_map]

theorem shut_mono {m n : Nat} (hmn : m ≤ n) : ∀ {H : Heap}, shut m H → shut n H
  | [], _ => trivial
  | none :: H, h => by simp only [shut] at h ⊢; exact shut_mono hmn h
  | some ls :: H, h => by simp only [shut] at h ⊢; exact ⟨belowL_mono hmn ls h.1, shut_mono hmn h.2⟩
theorem shut_app {m n : Nat} (hmn : m ≤ n) : ∀ {H R : Heap}, shut m H → shut n R → shut n (H ++ R)
  | [], R, _, h => h
  | none :: H, R, h, h2 => by simp only [shut, List.cons_append] at h ⊢; exact shut_app hmn h h2
  | some ls :: H, R, h, h2 => by simp only [shut, List.cons_append] at h ⊢; exact ⟨belowL_mono hmn ls h.1, shut_app hmn h.2 h2⟩

theorem each_at {P : Program} {f : Nat} (ir : compF P f = some irEach) {H : Heap} {n : Nat} {x : L} {h : Nat → Bool} (hs : shut H.length H) (hx : below H.length x = true) (hn : n ≤ 1000000)
    (say : ∀ i, i < n → ∀ row, callD P x [intL i] (H ++ [some row]) fun l H' => l = boolL (h i) ∧ H' = H ++ [some row]) {K : L → Heap → Prop} (hK : K (.view 1 H.length 0 n true) (H ++ [some ((rowsB n h).map boolL)])) : callAt P f [intL n, x] H K := by
  refine callAt_enter ir (by simp [irEach]) ?_
  simp only [irEach]
  simp
  refine ⟨by omega, ?_⟩
  have hs1 : ∀ row, belowL (H.length + 1) row = true → shut (H ++ [some row]).length (H ++ [some row]) := fun row hr => by
    rw [List.length_append]; exact shut_app (by omega) hs (by simpa using hr)
  have hx1 : below (H.length + 1) x = true := below_mono (by omega) x hx
  refine lwp_loop (fun i : Nat => [(1, x), (5, .view 1 H.length 0 n true), (10, intL n), (11, intL i)]) (fun i => H ++ [some (rowB n h i)]) (fun i => n - i) (fun i => i ≤ n) 0 (by omega) ?_ ?_
  · rw [rowB_zero]
    refine weak_env (by simp) (hs1 _ (by rw [show List.replicate n (L.v (Value.bool false)) = rowB n h 0 from rowB_zero.symm]; exact rowB_below)) ?_
    simp [hx1]
  · intro i hi
    simp
    refine ⟨fun hlt => ?_, fun hge => ?_⟩
    · simp [hlt]
      refine calldT_val (say i hlt _) ?_
      have hset := rowB_set (h := h) hlt
      have hnw : IntKind.i64.wrap ((i : Int) + 1) = ((i + 1 : Nat) : Int) := by rw [wrap_id (by omega) (by omega)]; rfl
      simp [hlt, hset, hnw]
      refine ⟨by omega, i + 1, by omega, by show n - (i + 1) < n - i; omega, weak_env (by simp) (hs1 _ rowB_below) ?_⟩
      simp [hx1]
    · have : i = n := by omega
      subst this
      rw [rowB_all]
      exact hK

/-- A row of what something says of each place, by a contract. -/
theorem each_gen {P : Program} {f g : Nat} (ir : compF P f = some irEach) {n : Nat} {caps : List L} {h : Nat → Bool} (hn : n ≤ 1000000) (hcaps : ∀ H, mapO (reso H 4) caps = some caps) (hb : belowL 0 caps = true)
    (say : ∀ i : Nat, i < n → PC P g (intL i :: caps) (boolL (h i))) : PC P f [intL n, .fn (.func g) [] caps] (.sl 1 true ((rowsB n h).map boolL)) := by
  refine pc_of_call (each_at (h := h) ir (H := []) trivial (by simpa using hb) hn (fun i hi row => ?_) ?_)
  · rw [callD_fn]
    refine callAt_plain (say i hi) rfl ?_ ⟨rfl, rfl⟩
    simp [mapO, hcaps]
  · simp [rowsB, reso, closed]

end Lg
