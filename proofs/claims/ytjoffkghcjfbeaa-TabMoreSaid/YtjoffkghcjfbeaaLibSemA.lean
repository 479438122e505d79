/- Where a formula holds: the program. -/
import Derived.Test.YtjoffkghcjfbeaaLibSemH
import Derived.Test.YtjoffkghcjfbeaaLibSemW
namespace Lg
open Go
def irAll7 (f li ea c39 c41 c43 c44 c45 c46 c47 c48 un re : Nat) : IR := (.seq (.seq (.ops [⟨some 34,.faddr 0 (.t 2),none⟩,⟨some 35,.load 1 false (.t 34),none⟩]) (.block 0 (.seq (.ops [⟨some 37,.bin .eql false (.t 35) (.c (.v (.int .i64 15))),none⟩,⟨some 36,.mov (.t 37),none⟩]) (.cond (.t 36) (.seq (.ops [⟨some 38,.load 1 false (.t 5),none⟩,⟨some 39,.mkfn (.func c43) [] [(.t 6)],none⟩,⟨some 40,.call ea [(.t 38),(.t 39)],none⟩,⟨some 4,.mov (.t 40),none⟩]) .ret) (.seq (.ops [⟨some 42,.bin .eql false (.t 35) (.c (.v (.int .i64 16))),none⟩,⟨some 41,.mov (.t 42),none⟩]) (.cond (.t 41) (.seq (.ops [⟨some 43,.load 1 false (.t 5),none⟩,⟨some 44,.mkfn (.func c44) [] [(.t 6),(.t 7)],none⟩,⟨some 45,.call ea [(.t 43),(.t 44)],none⟩,⟨some 4,.mov (.t 45),none⟩]) .ret) (.seq (.ops [⟨some 47,.bin .eql false (.t 35) (.c (.v (.int .i64 17))),none⟩,⟨some 46,.mov (.t 47),none⟩]) (.cond (.t 46) (.seq (.ops [⟨some 48,.load 1 false (.t 5),none⟩,⟨some 49,.mkfn (.func c45) [] [(.t 6),(.t 7)],none⟩,⟨some 50,.call ea [(.t 48),(.t 49)],none⟩,⟨some 4,.mov (.t 50),none⟩]) .ret) (.seq (.ops [⟨some 52,.bin .eql false (.t 35) (.c (.v (.int .i64 18))),none⟩,⟨some 51,.mov (.t 52),none⟩]) (.cond (.t 51) (.seq (.ops [⟨some 53,.load 1 false (.t 5),none⟩,⟨some 54,.mkfn (.func c46) [] [(.t 6),(.t 7)],none⟩,⟨some 55,.call ea [(.t 53),(.t 54)],none⟩,⟨some 4,.mov (.t 55),none⟩]) .ret) (.seq (.ops [⟨some 57,.bin .eql false (.t 35) (.c (.v (.int .i64 19))),none⟩,⟨some 56,.mov (.t 57),none⟩]) (.cond (.t 56) (.seq (.ops [⟨some 58,.load 1 false (.t 5),none⟩,⟨some 59,.mkfn (.func c47) [] [(.t 6),(.t 7)],none⟩,⟨some 60,.call ea [(.t 58),(.t 59)],none⟩,⟨some 4,.mov (.t 60),none⟩]) .ret) (.seq (.ops [⟨some 62,.bin .eql false (.t 35) (.c (.v (.int .i64 20))),none⟩,⟨some 61,.mov (.t 62),none⟩]) (.cond (.t 61) (.seq (.ops [⟨some 63,.load 1 false (.t 5),none⟩,⟨some 64,.mkfn (.func c48) [] [(.t 6),(.t 3)],none⟩,⟨some 65,.call ea [(.t 63),(.t 64)],none⟩,⟨some 4,.mov (.t 65),none⟩]) .ret) (.seq (.ops [⟨some 67,.bin .eql false (.t 35) (.c (.v (.int .i64 21))),none⟩,⟨some 66,.mov (.t 67),none⟩]) (.cond (.t 66) (.seq (.draw [[⟨some 68,.load 2 true (.t 3),none⟩,⟨some 69,.mov (.t 8),none⟩,⟨some 70,.calld (.t 69) [(.c (.v (.bool true)))],none⟩,⟨some 71,.load 1 false (.t 6),none⟩],[⟨some 72,.call un [(.t 68),(.t 70),(.t 71)],none⟩],[⟨some 4,.mov (.t 72),none⟩]]) .ret) (.seq (.ops [⟨some 74,.bin .eql false (.t 35) (.c (.v (.int .i64 22))),none⟩,⟨some 73,.mov (.t 74),none⟩]) (.cond (.t 73) (.seq (.draw [[⟨some 75,.load 2 true (.t 3),none⟩,⟨some 76,.mov (.t 8),none⟩,⟨some 77,.calld (.t 76) [(.c (.v (.bool false)))],none⟩,⟨some 78,.load 1 false (.t 6),none⟩],[⟨some 79,.call re [(.t 75),(.t 77),(.t 78)],none⟩],[⟨some 4,.mov (.t 79),none⟩]]) .ret) (.seq (.ops [⟨some 81,.bin .eql false (.t 35) (.c (.v (.int .i64 23))),none⟩,⟨some 80,.mov (.t 81),none⟩]) (.cond (.t 80) (.seq (.ops [⟨some 82,.load 2 true (.t 3),none⟩,⟨some 83,.load 1 false (.t 6),none⟩,⟨some 84,.load 1 false (.t 7),none⟩,⟨some 85,.call un [(.t 82),(.t 83),(.t 84)],none⟩,⟨some 4,.mov (.t 85),none⟩]) .ret) .skip)))))))))))))))))))) (.seq (.ops [⟨some 86,.load 2 true (.t 3),none⟩,⟨some 87,.load 1 false (.t 6),none⟩,⟨some 88,.load 1 false (.t 7),none⟩,⟨some 89,.call re [(.t 86),(.t 87),(.t 88)],none⟩,⟨some 4,.mov (.t 89),none⟩]) .ret))
def irAll (f li ea c39 c41 c43 c44 c45 c46 c47 c48 un re : Nat) : FnIR := ⟨90,[.t 4],(.seq (.ops [⟨some 2,.box (.t 0),none⟩,⟨some 3,.box (.t 1),none⟩,⟨some 4,.mov (.c (.v (.slice none 0 0))),none⟩]) (.seq (.ops [⟨some 9,.faddr 0 (.t 3),none⟩,⟨some 10,.load 1 false (.t 9),none⟩,⟨some 11,.len false (.t 10),none⟩,⟨some 5,.alloc (.v (.int .i64 0)),none⟩,⟨none,.store 1 (.t 5) (.t 11),none⟩]) (.seq (.seq (.ops [⟨some 12,.load 4 true (.t 2),none⟩,⟨some 13,.call li [(.t 12)],none⟩]) (.cond (.t 13) (.seq (.ops [⟨some 14,.load 1 false (.t 5),none⟩,⟨some 15,.mkfn (.func c39) [] [(.t 2),(.t 3)],none⟩,⟨some 16,.call ea [(.t 14),(.t 15)],none⟩,⟨some 4,.mov (.t 16),none⟩]) .ret) .skip)) (.seq (.draw [[⟨some 17,.faddr 3 (.t 2),none⟩,⟨some 18,.load 1 false (.t 17),none⟩,⟨some 19,.iaddr 4 (.t 18) (.c (.v (.int .i64 0))),none⟩,⟨some 20,.load 4 true (.t 19),none⟩,⟨some 21,.load 2 true (.t 3),none⟩,⟨some 22,.call f [(.t 20),(.t 21)],none⟩,⟨some 6,.alloc (.v (.slice none 0 0)),none⟩],[⟨none,.store 1 (.t 6) (.t 22),none⟩]]) (.seq (.ops [⟨some 7,.alloc (.v (.slice none 0 0)),none⟩]) (.seq (.seq (.ops [⟨some 23,.faddr 3 (.t 2),none⟩,⟨some 24,.load 1 false (.t 23),none⟩,⟨some 25,.len false (.t 24),none⟩,⟨some 26,.bin .gtr false (.t 25) (.c (.v (.int .i64 1))),none⟩]) (.cond (.t 26) (.draw [[⟨some 27,.faddr 3 (.t 2),none⟩,⟨some 28,.load 1 false (.t 27),none⟩,⟨some 29,.iaddr 4 (.t 28) (.c (.v (.int .i64 1))),none⟩,⟨some 30,.load 4 true (.t 29),none⟩,⟨some 31,.load 2 true (.t 3),none⟩],[⟨some 32,.call f [(.t 30),(.t 31)],none⟩],[⟨none,.store 1 (.t 7) (.t 32),none⟩]]) .skip)) (.seq (.ops [⟨some 33,.mkfn (.func c41) [] [(.t 5)],none⟩,⟨some 8,.mov (.t 33),none⟩]) (irAll7 f li ea c39 c41 c43 c44 c45 c46 c47 c48 un re))))))))⟩
structure SemFns (P : Program) where
 (all li ty ea c39 ev tr c41 c42 c43 c44 c45 c46 c47 c48 nx un cu re cr st c1 c2 eq : Nat)
 iall : compF P all = some (irAll all li ea c39 c41 c43 c44 c45 c46 c47 c48 un re)
 ili : compF P li = some (irLit ty)
 ity : compF P ty = some (irTypeP ty)
 iea : compF P ea = some irEach
 i39 : compF P c39 = some (irC39 ev)
 iev : compF P ev = some (irEvalP ev tr)
 itr : compF P tr = some irTruth
 i41 : compF P c41 = some (irC41 c42 ea)
 i42 : compF P c42 = some irC42
 i43 : compF P c43 = some irC43
 i44 : compF P c44 = some irC44
 i45 : compF P c45 = some irC45
 i46 : compF P c46 = some irC46
 i47 : compF P c47 = some irC47
 i48 : compF P c48 = some (irC48 nx)
 inx : compF P nx = some irNextS
 iun : compF P un = some (irUntil cu st)
 icu : compF P cu = some (irCU nx)
 ire : compF P re = some (irRelease cr st)
 icr : compF P cr = some (irCR nx)
 ist : compF P st = some (irStill c1 c2 ea eq)
 i1 : compF P c1 = some irFirst
 i2 : compF P c2 = some irTurn
 ieq : compF P eq = some irEqB
def semStep (w : Word) (op : Int) (a b : Nat → Bool) : Nat → Bool := fun i =>
 if op = 15 then !a i
 else if op = 16 then a i && b i
 else if op = 17 then a i || b i
 else if op = 18 then !a i || b i
 else if op = 19 then a i == b i
 else if op = 20 then a (w.nxt i)
 else if op = 21 then untW w (fun _ => true) a i
 else if op = 22 then relW w (fun _ => false) a i
 else if op = 23 then untW w a b i
 else relW w a b i
def T.sat (w : Word) : T → Nat → Bool := T.fold fun op n pl l rs => if (T.mk op n pl l).lit = true then fun i => decide ((T.mk op n pl l).eval (w.v.getD i []) = 1) else semStep w op (rs.getD 0 fun _ => false) (rs.getD 1 fun _ => false)
theorem T.sat_lit {w : Word} {t : T} (h : t.lit = true) : t.sat w = fun i => decide (t.eval (w.v.getD i []) = 1) := by
 cases t with
 | mk op n pl l => rw [T.sat, T.fold_mk, if_pos h]
theorem T.sat_mk {w : Word} {op n pl : Int} {l : List T} (h : (T.mk op n pl l).lit = false) : (T.mk op n pl l).sat w = semStep w op ((l.map (T.sat w)).getD 0 fun _ => false) ((l.map (T.sat w)).getD 1 fun _ => false) := by
 rw [T.sat, T.fold_mk, if_neg (by simp [h])]
section
variable {P : Program} (F : SemFns P)
theorem time_kids {op n pl vars : Int} {l : List T} (hm : (T.mk op n pl l).may vars = true) (hg : (T.mk op n pl l).type.2.1 = 0) (h1 : (T.mk op n pl l).type.1 ≠ 1) (hl : (T.mk op n pl l).lit = false) :
  15 ≤ op ∧ op ≤ 24 ∧ (l.length : Int) = wants op ∧ ∀ t ∈ l, t.may vars = true ∧ t.type.2.1 = 0 ∧ t.type.1 ≠ 1 := by
 obtain ⟨km, -, ho2, hw⟩ := may_kids hm
 have kg := type_kids hg
 have h3 : (T.mk op n pl l).type = (3, 0, 0) := by
  rcases T.type_cases (T.mk op n pl l) with h | h | h | h
  ·exact absurd hg h
  ·rw [h] at h1; exact absurd rfl h1
  ·simp [T.lit, h] at hl
  ·exact h
 have he := type_end_eq hg
 rw [h3] at he
 have key : 15 ≤ op ∧ ∀ t ∈ l, t.type.1 ≠ 1 := by
  obtain ⟨A, hA⟩ : ∃ A, A = decide (∀ t ∈ l, t.type.1 = 1) := ⟨_, rfl⟩
  obtain ⟨B, hB⟩ : ∃ B, B = decide (∀ t ∈ l, t.type.1 = 2) := ⟨_, rfl⟩
  obtain ⟨C, hC⟩ : ∃ C, C = decide (∀ t ∈ l, t.type.1 ≠ 1) := ⟨_, rfl⟩
  rw [← hA, ← hB, ← hC] at he
  unfold typeEnd at he
  by_cases hc : 15 ≤ op ∧ C = true
  ·exact ⟨hc.1, of_decide_eq_true (hC.symm.trans hc.2)⟩
  ·rw [if_neg hc] at he
   split at he
   ·simp at he
   ·split at he <;> simp at he
 exact ⟨key.1, ho2, hw, fun t ht => ⟨km t ht, kg t ht, key.2 t ht⟩⟩
end
end Lg

