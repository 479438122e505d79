/- The program's size of a formula, and whether it is right. -/
import Derived.Test.YtjoffkghcjfbeaaLibNnfLaw
namespace Lg
open Go
def irCont (idx : Nat) : FnIR := ⟨9,[.t 4],(.seq (.ops [⟨some 4,.mov (.c (.v (.bool false))),none⟩]) (.seq (.ops [⟨some 5,.mov (.t 0),none⟩,⟨some 6,.mov (.t 1),none⟩,⟨some 7,.call idx [(.t 5),(.t 6)],none⟩,⟨some 8,.bin .geq false (.t 7) (.c (.v (.int .i64 0))),none⟩,⟨some 4,.mov (.t 8),none⟩]) .ret))⟩
def irIdxF : FnIR := ⟨19,[.t 4],(.seq (.ops [⟨some 4,.mov (.c (.v (.int .i64 0))),none⟩]) (.seq (.seq (.ops [⟨some 6,.mov (.t 0),none⟩,⟨some 7,.len false (.t 6),none⟩,⟨some 8,.mov (.c (.v (.int .i64 0))),none⟩]) (.block 0 (.loop (.seq (.ops [⟨some 9,.bin .lss false (.t 8) (.t 7),none⟩]) (.seq (.cond (.t 9) .skip (.exit 0)) (.seq (.block 1 (.seq (.ops [⟨some 10,.mov (.t 8),none⟩,⟨some 5,.mov (.t 10),none⟩]) (.seq (.ops [⟨some 11,.mov (.t 1),none⟩,⟨some 12,.mov (.t 0),none⟩,⟨some 13,.mov (.t 5),none⟩,⟨some 14,.iaddr 4 (.t 12) (.t 13),none⟩,⟨some 15,.load 4 true (.t 14),none⟩,⟨some 16,.calld (.t 11) [(.t 15)],none⟩]) (.cond (.t 16) (.seq (.ops [⟨some 17,.mov (.t 5),none⟩,⟨some 4,.mov (.t 17),none⟩]) .ret) .skip)))) (.ops [⟨some 18,.bin .add false (.t 8) (.c (.v (.int .i64 1))),none⟩,⟨some 8,.mov (.t 18),none⟩]))))))) (.seq (.ops [⟨some 4,.mov (.c (.v (.int .i64 (-1)))),none⟩]) .ret)))⟩
def idxF (p : T → Bool) : List T → Int → Int
 | [], _ => -1
 | t :: l, i => if p t = true then i else idxF p l (i + 1)
theorem idxF_any {p : T → Bool} : ∀ {l : List T} {i : Int}, 0 ≤ i → (0 ≤ idxF p l i ↔ l.any p = true)
 | [], i, _ => by simp [idxF]
 | t :: l, i, h => by
  rw [idxF]
  by_cases hp : p t = true
  ·simp [hp, h]
  ·rw [if_neg hp, idxF_any (by omega)]
   simp [hp]
theorem idxF_gen {P : Program} {f q : Nat} (ir : compF P f = some irIdxF) {p : T → Bool} {l : List T} (hl : l.length ≤ 2932031007403) (hq : ∀ t ∈ l, PC P q [t.toL] (boolL (p t))) : PC P f [.sl 4 false (l.map T.toL), .fn (.func q) [] []] (intL (idxF p l 0)) := by
 refine pc_of_call (callAt_enter ir (by simp [irIdxF]) ?_)
 simp [irIdxF]
 refine lwp_loop (fun i : Nat => [(0, .sl 4 false (l.map T.toL)), (1, .fn (.func q) [] []), (7, intL l.length), (8, intL i)]) (fun _ => []) (fun i => l.length - i) (fun i => i ≤ l.length ∧ idxF p l 0 = idxF p (l.drop i) i) 0 ⟨by omega, by simp⟩ ⟨[], ?_⟩ ?_
 ·simp
 ·rintro i ⟨hi, he⟩
  simp
  refine ⟨fun hlt => ?_, fun hge => ?_⟩
  ·have hnw : IntKind.i64.wrap ((i : Int) + 1) = ((i + 1 : Nat) : Int) := by rw [wrap_id (by omega) (by omega)]; rfl
   rw [List.drop_eq_getElem_cons hlt, idxF] at he
   simp [hlt]
   refine callT_plain (hq l[i] (List.getElem_mem hlt)) rfl (by simp) ?_
   cases hp : p l[i]
   ·rw [if_neg (by rw [hp]; decide)] at he
    simp [hnw]
    refine ⟨i + 1, ⟨by omega, ?_⟩, by show l.length - (i + 1) < l.length - i; omega, [], ?_⟩
    ·rw [he]; rfl
    ·simp
   ·rw [if_pos hp] at he
    simp [he]
  ·have : i = l.length := by omega
   subst this
   rw [List.drop_length, idxF] at he
   simp [he]
theorem cont_gen {P : Program} {f idx q : Nat} (ir : compF P f = some (irCont idx)) (ii : compF P idx = some irIdxF) {p : T → Bool} {l : List T} (hl : l.length ≤ 2932031007403) (hq : ∀ t ∈ l, PC P q [t.toL] (boolL (p t))) : PC P f [.sl 4 false (l.map T.toL), .fn (.func q) [] []] (boolL (l.any p)) := by
 refine pc_of_call (callAt_enter ir (by simp [irCont]) ?_)
 simp [irCont]
 refine callT_plain (idxF_gen ii hl hq) rfl (by simp [reso, mapO]) ?_
 have := idxF_any (p := p) (l := l) (i := 0) (by omega)
 simp
 rw [Bool.eq_iff_iff, decide_eq_true_eq, this]
def rightOp (op : Int) : Bool := decide (op = 16 ∨ op = 17 ∨ op = 20 ∨ op = 23 ∨ op = 24)
def T.rightB : T → Bool := T.fold fun op n pl l rs => (T.mk op n pl l).lit || (rightOp op && rs.all id)
theorem T.rightB_mk {op n pl l} : (T.mk op n pl l).rightB = ((T.mk op n pl l).lit || (rightOp op && l.all T.rightB)) := by
 rw [T.rightB, T.fold_mk, List.all_map]; rfl
end Lg

