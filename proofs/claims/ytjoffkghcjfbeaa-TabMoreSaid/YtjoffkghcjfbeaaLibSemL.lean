/- Small functions around sem. -/
import Derived.Test.YtjoffkghcjfbeaaLibSemS
import Derived.Test.YtjoffkghcjfbeaaLibThaw
namespace Lg
open Go
def irFormula (fe ma ty : Nat) : FnIR := ⟨33,[.t 4],(.seq (.ops [⟨some 2,.box (.t 0),none⟩,⟨some 4,.mov (.c (.v (.bool false))),none⟩]) (.seq (.ops [⟨some 10,.load 4 true (.t 2),none⟩,⟨some 11,.call fe [(.t 10)],none⟩,⟨some 5,.mov (.t 11),none⟩]) (.seq (.ops [⟨some 12,.load 4 true (.t 2),none⟩,⟨some 13,.mov (.t 1),none⟩,⟨some 14,.call ma [(.t 12),(.t 13)],none⟩,⟨some 6,.mov (.t 14),none⟩]) (.seq (.seq (.ops [⟨some 15,.mov (.t 5),none⟩,⟨some 16,.un .not (.t 15),none⟩,⟨some 17,.mov (.t 16),none⟩,⟨some 18,.mov (.t 6),some (17,false)⟩,⟨some 19,.un .not (.t 18),some (17,false)⟩,⟨some 20,.pick (.t 17) (.c (.v (.bool true))) (.t 19),none⟩]) (.cond (.t 20) (.seq (.ops [⟨some 4,.mov (.c (.v (.bool false))),none⟩]) .ret) .skip)) (.seq (.ops [⟨some 22,.load 4 true (.t 2),none⟩,⟨some 23,.call ty [(.t 22)],none⟩,⟨some 21,.mov (.t 23),none⟩,⟨some 24,.extract (.t 21) 0,none⟩,⟨some 25,.extract (.t 21) 1,none⟩,⟨some 26,.extract (.t 21) 2,none⟩,⟨some 7,.mov (.t 24),none⟩,⟨some 8,.mov (.t 25),none⟩,⟨some 9,.mov (.t 26),none⟩]) (.seq (.ops [⟨some 27,.mov (.t 8),none⟩,⟨some 28,.bin .eql false (.t 27) (.c (.v (.int .i64 0))),none⟩,⟨some 29,.mov (.t 28),none⟩,⟨some 30,.mov (.t 7),some (29,true)⟩,⟨some 31,.bin .neq false (.t 30) (.c (.v (.int .i64 1))),some (29,true)⟩,⟨some 32,.pick (.t 29) (.t 31) (.c (.v (.bool false))),none⟩,⟨some 4,.mov (.t 32),none⟩]) .ret))))))⟩
def T.formula (t : T) (vars : Int) : Bool := t.few && t.may vars && decide (t.type.2.1 = 0) && decide (t.type.1 ≠ 1)
theorem T.formula_facts {t : T} {vars : Int} (h : t.formula vars = true) : t.few = true ∧ t.may vars = true ∧ t.type.2.1 = 0 ∧ t.type.1 ≠ 1 := by
 simp [T.formula] at h
 exact ⟨h.1.1.1, h.1.1.2, h.1.2, h.2⟩
theorem formula_gen {P : Program} {f fe ma ty d m : Nat} (ir : compF P f = some (irFormula fe ma ty)) (ife : compF P fe = some (irFewT d m)) (id : compF P d = some (irDeep d)) (im : compF P m = some (irManyT m)) (ima : compF P ma = some (irMay ma)) (ity : compF P ty = some (irType ty)) {t : T} (hok : t.Ok) (vars : Int) : PC P f [t.toL, intL vars] (boolL (t.formula vars)) := by
 refine pc_of_call (callAt_enter ir (by simp [irFormula]) ?_)
 simp [irFormula, topOK_toL, toL_cells_length, toL_agg]
 refine callT_plain (fewT_gen ife id im t hok) rfl (by simp [mapO, reso_toL]) ?_
 simp [toL_cells_length, toL_agg]
 refine callT_plain (may_gen ima t hok vars) rfl (by simp [mapO, reso_toL]) ?_
 cases h1 : t.few
 ·simp [T.formula, h1]
 ·cases h2 : t.may vars
  ·simp [T.formula, h1, h2]
  ·simp [toL_cells_length, toL_agg]
   refine callT_plain (type_gen ity t hok) rfl (by simp [mapO, reso_toL]) ?_
   simp [T.formula, h1, h2]
   by_cases h3 : t.type.2.1 = 0 <;> simp [h3]
end Lg

