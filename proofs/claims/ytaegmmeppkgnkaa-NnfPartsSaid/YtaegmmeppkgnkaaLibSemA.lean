/- Where a formula holds: the program. -/
import Derived.Test.YtaegmmeppkgnkaaLibSemH
import Derived.Test.YtaegmmeppkgnkaaLibSemW
namespace Lg
open Go

def irAll7 (f li ea c39 c41 c43 c44 c45 c46 c47 c48 un re : Nat) : IR := (.seq (.seq (.ops [⟨some 34, .faddr 0 (.t 2), none⟩,
    ⟨some 35, .load 1 false (.t 34), none⟩])
  (.block 0 (.seq (.ops [⟨some 37, .bin .eql false (.t 35) (.c (.v (.int .i64 15))), none⟩,
    ⟨some 36, .mov (.t 37), none⟩])
  (.cond (.t 36)
    (.seq (.ops [⟨some 38, .load 1 false (.t 5), none⟩,
      ⟨some 39, .mkfn (.func c43) [] [(.t 6)], none⟩,
      ⟨some 40, .call ea [(.t 38), (.t 39)], none⟩,
      ⟨some 4, .mov (.t 40), none⟩])
    .ret)
    (.seq (.ops [⟨some 42, .bin .eql false (.t 35) (.c (.v (.int .i64 16))), none⟩,
      ⟨some 41, .mov (.t 42), none⟩])
    (.cond (.t 41)
      (.seq (.ops [⟨some 43, .load 1 false (.t 5), none⟩,
        ⟨some 44, .mkfn (.func c44) [] [(.t 6), (.t 7)], none⟩,
        ⟨some 45, .call ea [(.t 43), (.t 44)], none⟩,
        ⟨some 4, .mov (.t 45), none⟩])
      .ret)
      (.seq (.ops [⟨some 47, .bin .eql false (.t 35) (.c (.v (.int .i64 17))), none⟩,
        ⟨some 46, .mov (.t 47), none⟩])
      (.cond (.t 46)
        (.seq (.ops [⟨some 48, .load 1 false (.t 5), none⟩,
          ⟨some 49, .mkfn (.func c45) [] [(.t 6), (.t 7)], none⟩,
          ⟨some 50, .call ea [(.t 48), (.t 49)], none⟩,
          ⟨some 4, .mov (.t 50), none⟩])
        .ret)
        (.seq (.ops [⟨some 52, .bin .eql false (.t 35) (.c (.v (.int .i64 18))), none⟩,
          ⟨some 51, .mov (.t 52), none⟩])
        (.cond (.t 51)
          (.seq (.ops [⟨some 53, .load 1 false (.t 5), none⟩,
            ⟨some 54, .mkfn (.func c46) [] [(.t 6), (.t 7)], none⟩,
            ⟨some 55, .call ea [(.t 53), (.t 54)], none⟩,
            ⟨some 4, .mov (.t 55), none⟩])
          .ret)
          (.seq (.ops [⟨some 57, .bin .eql false (.t 35) (.c (.v (.int .i64 19))), none⟩,
            ⟨some 56, .mov (.t 57), none⟩])
          (.cond (.t 56)
            (.seq (.ops [⟨some 58, .load 1 false (.t 5), none⟩,
              ⟨some 59, .mkfn (.func c47) [] [(.t 6), (.t 7)], none⟩,
              ⟨some 60, .call ea [(.t 58), (.t 59)], none⟩,
              ⟨some 4, .mov (.t 60), none⟩])
            .ret)
            (.seq (.ops [⟨some 62, .bin .eql false (.t 35) (.c (.v (.int .i64 20))), none⟩,
              ⟨some 61, .mov (.t 62), none⟩])
            (.cond (.t 61)
              (.seq (.ops [⟨some 63, .load 1 false (.t 5), none⟩,
                ⟨some 64, .mkfn (.func c48) [] [(.t 6), (.t 3)], none⟩,
                ⟨some 65, .call ea [(.t 63), (.t 64)], none⟩,
                ⟨some 4, .mov (.t 65), none⟩])
              .ret)
              (.seq (.ops [⟨some 67, .bin .eql false (.t 35) (.c (.v (.int .i64 21))), none⟩,
                ⟨some 66, .mov (.t 67), none⟩])
              (.cond (.t 66)
                (.seq (.draw [[⟨some 68, .load 2 true (.t 3), none⟩,
                    ⟨some 69, .mov (.t 8), none⟩,
                    ⟨some 70, .calld (.t 69) [(.c (.v (.bool true)))], none⟩,
                    ⟨some 71, .load 1 false (.t 6), none⟩],
                  [⟨some 72, .call un [(.t 68), (.t 70), (.t 71)], none⟩],
                  [⟨some 4, .mov (.t 72), none⟩]])
                .ret)
                (.seq (.ops [⟨some 74, .bin .eql false (.t 35) (.c (.v (.int .i64 22))), none⟩,
                  ⟨some 73, .mov (.t 74), none⟩])
                (.cond (.t 73)
                  (.seq (.draw [[⟨some 75, .load 2 true (.t 3), none⟩,
                      ⟨some 76, .mov (.t 8), none⟩,
                      ⟨some 77, .calld (.t 76) [(.c (.v (.bool false)))], none⟩,
                      ⟨some 78, .load 1 false (.t 6), none⟩],
                    [⟨some 79, .call re [(.t 75), (.t 77), (.t 78)], none⟩],
                    [⟨some 4, .mov (.t 79), none⟩]])
                  .ret)
                  (.seq (.ops [⟨some 81, .bin .eql false (.t 35) (.c (.v (.int .i64 23))), none⟩,
                    ⟨some 80, .mov (.t 81), none⟩])
                  (.cond (.t 80)
                    (.seq (.ops [⟨some 82, .load 2 true (.t 3), none⟩,
                      ⟨some 83, .load 1 false (.t 6), none⟩,
                      ⟨some 84, .load 1 false (.t 7), none⟩,
                      ⟨some 85, .call un [(.t 82), (.t 83), (.t 84)], none⟩,
                      ⟨some 4, .mov (.t 85), none⟩])
                    .ret)
                    .skip))))))))))))))))))))
  (.seq (.ops [⟨some 86, .load 2 true (.t 3), none⟩,
    ⟨some 87, .load 1 false (.t 6), none⟩,
    ⟨some 88, .load 1 false (.t 7), none⟩,
    ⟨some 89, .call re [(.t 86), (.t 87), (.t 88)], none⟩,
    ⟨some 4, .mov (.t 89), none⟩])
  .ret))

def irAll (f li ea c39 c41 c43 c44 c45 c46 c47 c48 un re : Nat) : FnIR := ⟨90, [.t 4],
  (.seq (.ops [⟨some 2, .box (.t 0), none⟩,
    ⟨some 3, .box (.t 1), none⟩,
    ⟨some 4, .mov (.c (.v (.slice none 0 0))), none⟩])
  (.seq (.ops [⟨some 9, .faddr 0 (.t 3), none⟩,
    ⟨some 10, .load 1 false (.t 9), none⟩,
    ⟨some 11, .len false (.t 10), none⟩,
    ⟨some 5, .alloc (.v (.int .i64 0)), none⟩,
    ⟨none, .store 1 (.t 5) (.t 11), none⟩])
  (.seq (.seq (.ops [⟨some 12, .load 4 true (.t 2), none⟩,
    ⟨some 13, .call li [(.t 12)], none⟩])
  (.cond (.t 13)
    (.seq (.ops [⟨some 14, .load 1 false (.t 5), none⟩,
      ⟨some 15, .mkfn (.func c39) [] [(.t 2), (.t 3)], none⟩,
      ⟨some 16, .call ea [(.t 14), (.t 15)], none⟩,
      ⟨some 4, .mov (.t 16), none⟩])
    .ret)
    .skip))
  (.seq (.draw [[⟨some 17, .faddr 3 (.t 2), none⟩,
      ⟨some 18, .load 1 false (.t 17), none⟩,
      ⟨some 19, .iaddr 4 (.t 18) (.c (.v (.int .i64 0))), none⟩,
      ⟨some 20, .load 4 true (.t 19), none⟩,
      ⟨some 21, .load 2 true (.t 3), none⟩,
      ⟨some 22, .call f [(.t 20), (.t 21)], none⟩,
      ⟨some 6, .alloc (.v (.slice none 0 0)), none⟩],
    [⟨none, .store 1 (.t 6) (.t 22), none⟩]])
  (.seq (.ops [⟨some 7, .alloc (.v (.slice none 0 0)), none⟩])
  (.seq (.seq (.ops [⟨some 23, .faddr 3 (.t 2), none⟩,
    ⟨some 24, .load 1 false (.t 23), none⟩,
    ⟨some 25, .len false (.t 24), none⟩,
    ⟨some 26, .bin .gtr false (.t 25) (.c (.v (.int .i64 1))), none⟩])
  (.cond (.t 26)
    (.draw [[⟨some 27, .faddr 3 (.t 2), none⟩,
        ⟨some 28, .load 1 false (.t 27), none⟩,
        ⟨some 29, .iaddr 4 (.t 28) (.c (.v (.int .i64 1))), none⟩,
        ⟨some 30, .load 4 true (.t 29), none⟩,
        ⟨some 31, .load 2 true (.t 3), none⟩],
      [⟨some 32, .call f [(.t 30), (.t 31)], none⟩],
      [⟨none, .store 1 (.t 7) (.t 32), none⟩]])
    .skip))
  (.seq (.ops [⟨some 33, .mkfn (.func c41) [] [(.t 5)], none⟩,
    ⟨some 8, .mov (.t 33), none⟩])
  (irAll7 f li ea c39 c41 c43 c44 c45 c46 c47 c48 un re))))))))⟩


/-- The functions of sem. -/
structure SemFns (P : Program) where
  (all li ty ea c39 ev tr c41 c42 c43 c44 c45 c46 c47 c48 nx un cu re cr st c1 c2 eq : Nat)
  iall : compF P all = some (irAll all li ea c39 c41 c43 c44 c45 c46 c47 c48 un re)
  ili : compF P li = some (irLit ty)
  ity : compF P ty = some (irTypeP ty)
  iea : compF P ea = some irEach
  i39 : compF P c39 = some (irC39 ev)
  iev : compF P ev = some (irEvalP ev tr)
  itr : compF P tr = some irTruth
  i41 : compF P c41 = some (irC41 c42 ea)
  i42 : compF P c42 = some irC42
  i43 : compF P c43 = some irC43
  i44 : compF P c44 = some irC44
  i45 : compF P c45 = some irC45
  i46 : compF P c46 = some irC46
  i47 : compF P c47 = some irC47
  i48 : compF P c48 = some (irC48 nx)
  inx : compF P nx = some irNextS
  iun : compF P un = some (irUntil cu st)
  icu : compF P cu = some (irCU nx)
  ire : compF P re = some (irRelease cr st)
  icr : compF P cr = some (irCR nx)
  ist : compF P st = some (irStill c1 c2 ea eq)
  i1 : compF P c1 = some irFirst
  i2 : compF P c2 = some irTurn
  ieq : compF P eq = some irEqB

/-- Where a formula's part holds, by where its parts do. -/
def semStep (w : Word) (op : Int) (a b : Nat → Bool) : Nat → Bool := fun i =>
  if op = 15 then !a i
  else if op = 16 then a i && b i
  else if op = 17 then a i || b i
  else if op = 18 then !a i || b i
  else if op = 19 then a i == b i
  else if op = 20 then a (w.nxt i)
  else if op = 21 then untW w (fun _ => true) a i
  else if op = 22 then relW w (fun _ => false) a i
  else if op = 23 then untW w a b i
  else relW w a b i

/-- Where a formula holds. -/
def T.sat (w : Word) : T → Nat → Bool := T.fold fun op n pl l rs => if (T.mk op n pl l).lit = true then fun i => decide ((T.mk op n pl l).eval (w.v.getD i []) = 1) else semStep w op (rs.getD 0 fun _ => false) (rs.getD 1 fun _ => false)
theorem T.sat_lit {w : Word} {t : T} (h : t.lit = true) : t.sat w = fun i => decide (t.eval (w.v.getD i []) = 1) := by
  cases t with
  | mk op n pl l => rw [T.sat, T.fold_mk, if_pos h]
theorem T.sat_mk {w : Word} {op n pl : Int} {l : List T} (h : (T.mk op n pl l).lit = false) : (T.mk op n pl l).sat w = semStep w op ((l.map (T.sat w)).getD 0 fun _ => false) ((l.map (T.sat w)).getD 1 fun _ => false) := by
  rw [T.sat, T.fold_mk, if_neg (by simp [h])]

section
variable {P : Program} (F : SemFns P)

theorem SemFns.lit39 {w : Word} (hwok : w.Ok) {t : T} (hok : t.Ok) {vars : Int} (hm : t.may vars = true) (hl : t.lit = true) {i : Nat} (hi : i < w.v.length) : PC P F.c39 [intL i, .pp t.toL.cells, .pp w.cells] (boolL (decide (t.eval (w.v.getD i []) = 1))) := by
  have hg : t.type.2.1 = 0 ∧ t.type.1 = 2 := by simpa [T.lit] using hl
  refine pc_of_call (callAt_enter F.i39 (by simp [irC39]) ?_)
  simp [irC39, Word.cells, hi, toL_cells_length, toL_agg]
  refine callT_plain (evalP_gen (c := false) F.iev F.itr (hwok.row _ (List.getElem_mem hi)) hok hm hg.1 (by rw [hg.2]; omega)) rfl (by simp [mapO, reso_toL]) ?_
  simp

theorem SemFns.all_sw {w : Word} (hr : w.right = true) (hn : w.v.length ≤ 1000000) {op : Int} (h15 : 15 ≤ op) (h24 : op ≤ 24) {a b : Nat → Bool} {y n pl ls : L} (hy : wants op = 2 → y = rowL true w.v.length b) (hyc : closed y = true) (hyb : below 5 y = true) (hlb : belowL 5 [n, pl, ls] = true)
    {E : Env} (h2 : lk E 2 = .ptr 0 0) (h3 : lk E 3 = .ptr 1 0) (h5 : lk E 5 = .ptr 2 0) (h6 : lk E 6 = .ptr 3 0) (h7 : lk E 7 = .ptr 4 0) (h8 : lk E 8 = .fn (.func F.c41) [] [.ptr 2 0]) :
    lwp P 0 (irAll7 F.all F.li F.ea F.c39 F.c41 F.c43 F.c44 F.c45 F.c46 F.c47 F.c48 F.un F.re) (fnPost [RV.t 4] fun x H' => reso H' 4 x = some (rowL true w.v.length (semStep w op a b))) E [some [intL op, n, pl, ls], some w.cells, some [intL w.v.length], some [rowL true w.v.length a], some [y]] := by
  have hop : op = 15 ∨ op = 16 ∨ op = 17 ∨ op = 18 ∨ op = 19 ∨ op = 20 ∨ op = 21 ∨ op = 22 ∨ op = 23 ∨ op = 24 := by omega
  rcases hop with rfl | rfl | rfl | rfl | rfl | rfl | rfl | rfl | rfl | rfl
  ·
    simp [irAll7, h2, h5, h6]
    refine callT_freeze [3] (each_gen (h := semStep w 15 a b) (caps := [.pp [rowL true w.v.length a]]) F.iea hn (fun H => by simp) (by simp) (fun i hi => by simpa [semStep] using c43_gen F.i43 hi)) (by simp) ?_
    simp
  · have hy := hy (by simp [wants])
    subst hy
    simp [irAll7, h2, h5, h6, h7]
    refine callT_freeze [3, 4] (each_gen (h := semStep w 16 a b) (caps := [.pp [rowL true w.v.length a], .pp [rowL true w.v.length b]]) F.iea hn (fun H => by simp) (by simp) (fun i hi => by simpa [semStep] using c44_gen F.i44 hi)) (by simp) ?_
    simp
  · have hy := hy (by simp [wants])
    subst hy
    simp [irAll7, h2, h5, h6, h7]
    refine callT_freeze [3, 4] (each_gen (h := semStep w 17 a b) (caps := [.pp [rowL true w.v.length a], .pp [rowL true w.v.length b]]) F.iea hn (fun H => by simp) (by simp) (fun i hi => by simpa [semStep] using c45_gen F.i45 hi)) (by simp) ?_
    simp
  · have hy := hy (by simp [wants])
    subst hy
    simp [irAll7, h2, h5, h6, h7]
    refine callT_freeze [3, 4] (each_gen (h := semStep w 18 a b) (caps := [.pp [rowL true w.v.length a], .pp [rowL true w.v.length b]]) F.iea hn (fun H => by simp) (by simp) (fun i hi => by simpa [semStep] using c46_gen F.i46 hi)) (by simp) ?_
    simp
  · have hy := hy (by simp [wants])
    subst hy
    simp [irAll7, h2, h5, h6, h7]
    refine callT_freeze [3, 4] (each_gen (h := semStep w 19 a b) (caps := [.pp [rowL true w.v.length a], .pp [rowL true w.v.length b]]) F.iea hn (fun H => by simp) (by simp) (fun i hi => by simpa [semStep] using c47_gen F.i47 hi)) (by simp) ?_
    simp
  · simp [irAll7, h2, h3, h5, h6]
    refine callT_freeze [1, 3] (each_gen (h := semStep w 20 a b) (caps := [.pp [rowL true w.v.length a], .pp w.cells]) F.iea hn (fun H => by simp [Word.cells]) (by simp) (fun i hi => by simpa [semStep] using c48_gen F.i48 F.inx hr hn hi)) (by simp [Word.cells]) ?_
    simp
  · have hs : shut 5 [some [intL 21, n, pl, ls], some w.cells, some [intL w.v.length], some [rowL true w.v.length a], some [y]] := by
      simp [Word.cells, hyb]; simpa using hlb
    simp [irAll7, h2, h3, h8, Word.cells]
    refine ⟨_, c41_at F.i41 F.i42 F.iea (H := [some [intL 21, n, pl, ls], some w.cells, some [intL w.v.length], some [rowL true w.v.length a], some [y]]) hs (h := 2) (n := w.v.length) (by simp) hn true, ?_⟩
    simp [h6]
    refine callT_closed (until_gen F.iun F.icu F.inx F.ist F.i1 F.i2 F.iea F.ieq hr hn (c := true) (c' := true) (a := fun _ => true) (b := a)) (by simp []) ?_
    simp
    rfl
  · have hs : shut 5 [some [intL 22, n, pl, ls], some w.cells, some [intL w.v.length], some [rowL true w.v.length a], some [y]] := by
      simp [Word.cells, hyb]; simpa using hlb
    simp [irAll7, h2, h3, h8, Word.cells]
    refine ⟨_, c41_at F.i41 F.i42 F.iea (H := [some [intL 22, n, pl, ls], some w.cells, some [intL w.v.length], some [rowL true w.v.length a], some [y]]) hs (h := 2) (n := w.v.length) (by simp) hn false, ?_⟩
    simp [h6]
    refine callT_closed (release_gen F.ire F.icr F.inx F.ist F.i1 F.i2 F.iea F.ieq hr hn (c := true) (c' := true) (a := fun _ => false) (b := a)) (by simp []) ?_
    simp
    rfl
  · have hy := hy (by simp [wants])
    subst hy
    simp [irAll7, h2, h3, h6, h7, Word.cells]
    refine callT_closed (until_gen F.iun F.icu F.inx F.ist F.i1 F.i2 F.iea F.ieq hr hn (c := true) (c' := true) (a := a) (b := b)) (by simp []) ?_
    simp
    rfl
  · have hy := hy (by simp [wants])
    subst hy
    simp [irAll7, h2, h3, h6, h7, Word.cells]
    refine callT_closed (release_gen F.ire F.icr F.inx F.ist F.i1 F.i2 F.iea F.ieq hr hn (c := true) (c' := true) (a := a) (b := b)) (by simp []) ?_
    simp
    rfl

theorem time_kids {op n pl vars : Int} {l : List T} (hm : (T.mk op n pl l).may vars = true) (hg : (T.mk op n pl l).type.2.1 = 0) (h1 : (T.mk op n pl l).type.1 ≠ 1) (hl : (T.mk op n pl l).lit = false) :
    15 ≤ op ∧ op ≤ 24 ∧ (l.length : Int) = wants op ∧ ∀ t ∈ l, t.may vars = true ∧ t.type.2.1 = 0 ∧ t.type.1 ≠ 1 := by
  obtain ⟨km, -, ho2, hw⟩ := may_kids hm
  have kg := type_kids hg
  have h3 : (T.mk op n pl l).type = (3, 0, 0) := by
    rcases T.type_cases (T.mk op n pl l) with h | h | h | h
    · exact absurd hg h
    · rw [h] at h1; exact absurd rfl h1
    · simp [T.lit, h] at hl
    · exact h
  have he := type_end_eq hg
  rw [h3] at he
  have key : 15 ≤ op ∧ ∀ t ∈ l, t.type.1 ≠ 1 := by
    obtain ⟨A, hA⟩ : ∃ A, A = decide (∀ t ∈ l, t.type.1 = 1) := ⟨_, rfl⟩
    obtain ⟨B, hB⟩ : ∃ B, B = decide (∀ t ∈ l, t.type.1 = 2) := ⟨_, rfl⟩
    obtain ⟨C, hC⟩ : ∃ C, C = decide (∀ t ∈ l, t.type.1 ≠ 1) := ⟨_, rfl⟩
    rw [← hA, ← hB, ← hC] at he
    unfold typeEnd at he
    by_cases hc : 15 ≤ op ∧ C = true
    · exact ⟨hc.1, of_decide_eq_true (hC.symm.trans hc.2)⟩
    · rw [if_neg hc] at he
      split at he
      · simp at he
      · split at he <;> simp at he
  exact ⟨key.1, ho2, hw, fun t ht => ⟨km t ht, kg t ht, key.2 t ht⟩⟩

/-- Where a formula holds: the program. -/
theorem SemFns.all_any {w : Word} (hwok : w.Ok) (hr : w.right = true) (hn : w.v.length ≤ 1000000) {vars : Int} : ∀ t : T, t.Ok → t.may vars = true → t.type.2.1 = 0 → t.type.1 ≠ 1 → PC P F.all [t.toL, w.L] (rowL true w.v.length (t.sat w)) := by
  intro t
  refine T.ind (M := fun t => t.Ok → t.may vars = true → t.type.2.1 = 0 → t.type.1 ≠ 1 → PC P F.all [t.toL, w.L] (rowL true w.v.length (t.sat w))) ?_ t
  intro op n pl l ih hok hm hg h1
  have hlit := litP_gen F.ili F.ity _ hok
  refine pc_of_call (callAt_enter F.iall (by simp [irAll]) ?_)
  cases hl : (T.mk op n pl l).lit
  · rw [hl] at hlit
    obtain ⟨h15, h24, hw, hk⟩ := time_kids hm hg h1 hl
    rw [T.sat_mk hl]
    have hkid := fun t ht => ih t ht (hok.kid t ht) (hk t ht).1 (hk t ht).2.1 (hk t ht).2.2
    have hwant : wants op = 1 ∨ wants op = 2 := by unfold wants; rw [if_neg (by omega)]; split <;> simp
    cases l with
    | nil => simp at hw; omega
    | cons x l =>
      have hx := hkid x (by simp)
      simp [irAll, toL_mk, Word.L, Word.cells]
      refine callT_plain hlit rfl (by simp [toL_mk]) ?_
      simp
      refine bcallT_closed hx (by simp [mapO, reso_toL]) ?_
      cases l with
      | nil =>
        simp
        refine F.all_sw hr hn h15 h24 (fun h => by simp [h] at hw) (by simp) (by simp) (by simp) ?_ ?_ ?_ ?_ ?_ ?_ <;> simp
      | cons y l =>
        have hy := hkid y (by simp)
        have k1 : (1 : Int) < (l.length : Int) + 1 + 1 := by omega
        have k2 : ¬ (l.length : Int) + 1 + 1 ≤ 1 := by omega
        simp [k1, toL_cells_length, toL_agg]
        refine callT_closed hy (by simp [mapO, reso_toL]) ?_
        simp
        refine F.all_sw hr hn h15 h24 (fun _ => rfl) (by simp) (by simp) (by simp) ?_ ?_ ?_ ?_ ?_ ?_ <;> simp
  · rw [hl] at hlit
    rw [T.sat_lit hl]
    simp [irAll, toL_mk, Word.L, Word.cells]
    refine callT_plain hlit rfl (by simp [toL_mk]) ?_
    simp
    refine callT_freeze [0, 1] (each_gen (h := fun i => decide ((T.mk op n pl l).eval (w.v.getD i []) = 1)) (caps := [.pp (T.mk op n pl l).toL.cells, .pp w.cells]) F.iea hn (fun H => by simp) (by simp) (fun i hi => F.lit39 hwok hok hm hl hi)) (by simp [Word.cells, toL_mk]) ?_
    simp

end
end Lg
