import Derived.Test.YtjoffkghcjfbeaaLibNnfS
/- The answer's turn of formulas. -/
namespace Lg
open Go
end Lg


/- The answer's formulas that are right. -/
namespace Lg
open Go
def irRightA (lit self : Nat) : FnIR := ⟨47,[.t 2],(.seq (.ops [⟨some 1,.box (.t 0),none⟩,⟨some 2,.mov (.c (.v (.bool false))),none⟩]) (.seq (.ops [⟨some 6,.load 4 true (.t 1),none⟩,⟨some 7,.call lit [(.t 6)],none⟩,⟨some 3,.mov (.t 7),none⟩]) (.seq (.seq (.ops [⟨some 8,.mov (.t 3),none⟩]) (.cond (.t 8) (.seq (.ops [⟨some 2,.mov (.c (.v (.bool true))),none⟩]) .ret) .skip)) (.seq (.seq (.ops [⟨some 9,.faddr 0 (.t 1),none⟩,⟨some 10,.load 1 false (.t 9),none⟩,⟨some 11,.bin .neq false (.t 10) (.c (.v (.int .i64 16))),none⟩,⟨some 12,.mov (.t 11),none⟩,⟨some 13,.faddr 0 (.t 1),some (12,true)⟩,⟨some 14,.load 1 false (.t 13),some (12,true)⟩,⟨some 15,.bin .neq false (.t 14) (.c (.v (.int .i64 17))),some (12,true)⟩,⟨some 16,.pick (.t 12) (.t 15) (.c (.v (.bool false))),none⟩,⟨some 17,.mov (.t 16),none⟩,⟨some 18,.faddr 0 (.t 1),some (17,true)⟩,⟨some 19,.load 1 false (.t 18),some (17,true)⟩,⟨some 20,.bin .neq false (.t 19) (.c (.v (.int .i64 20))),some (17,true)⟩,⟨some 21,.pick (.t 17) (.t 20) (.c (.v (.bool false))),none⟩,⟨some 22,.mov (.t 21),none⟩,⟨some 23,.faddr 0 (.t 1),some (22,true)⟩,⟨some 24,.load 1 false (.t 23),some (22,true)⟩,⟨some 25,.bin .neq false (.t 24) (.c (.v (.int .i64 23))),some (22,true)⟩,⟨some 26,.pick (.t 22) (.t 25) (.c (.v (.bool false))),none⟩,⟨some 27,.mov (.t 26),none⟩,⟨some 28,.faddr 0 (.t 1),some (27,true)⟩,⟨some 29,.load 1 false (.t 28),some (27,true)⟩,⟨some 30,.bin .neq false (.t 29) (.c (.v (.int .i64 24))),some (27,true)⟩,⟨some 31,.pick (.t 27) (.t 30) (.c (.v (.bool false))),none⟩]) (.cond (.t 31) (.seq (.ops [⟨some 2,.mov (.c (.v (.bool false))),none⟩]) .ret) .skip)) (.seq (.seq (.ops [⟨some 4,.mov (.c (.v (.int .i64 0))),none⟩]) (.block 0 (.loop (.seq (.seq (.ops [⟨some 32,.mov (.t 4),none⟩,⟨some 33,.faddr 3 (.t 1),none⟩,⟨some 34,.load 1 false (.t 33),none⟩,⟨some 35,.len false (.t 34),none⟩,⟨some 36,.bin .lss false (.t 32) (.t 35),none⟩]) (.cond (.t 36) .skip (.exit 0))) (.seq (.block 1 (.seq (.ops [⟨some 39,.faddr 3 (.t 1),none⟩,⟨some 40,.load 1 false (.t 39),none⟩,⟨some 41,.mov (.t 4),none⟩,⟨some 42,.iaddr 4 (.t 40) (.t 41),none⟩,⟨some 43,.load 4 true (.t 42),none⟩,⟨some 44,.call self [(.t 43)],none⟩,⟨some 5,.mov (.t 44),none⟩]) (.seq (.ops [⟨some 45,.mov (.t 5),none⟩,⟨some 46,.un .not (.t 45),none⟩]) (.cond (.t 46) (.seq (.ops [⟨some 2,.mov (.c (.v (.bool false))),none⟩]) .ret) .skip)))) (.ops [⟨some 37,.mov (.t 4),none⟩,⟨some 38,.bin .add false (.t 37) (.c (.v (.int .i64 1))),none⟩,⟨some 4,.mov (.t 38),none⟩])))))) (.seq (.ops [⟨some 2,.mov (.c (.v (.bool true))),none⟩]) .ret))))))⟩
end Lg


/- The answer's Of and Not, and whether a formula is right. -/
namespace Lg
open Go
theorem rightA_gen {P : Program} {f lit : Nat} (ir : compF P f = some (irRightA lit f)) (ilit : ∀ t : T, t.Ok → PC P lit [t.toL] (boolL t.lit)) : ∀ t : T, t.Ok → PC P f [t.toL] (boolL t.rightB) := by
 intro t
 refine T.ind (M := fun t => t.Ok → PC P f [t.toL] (boolL t.rightB)) ?_ t
 intro op n pl l ih hok
 have hlit := ilit _ hok
 have hlen := hok.len
 rw [T.rightB_mk]
 cases hl : (T.mk op n pl l).lit
 ·rw [hl] at hlit
  by_cases ho : op = 16 ∨ op = 17 ∨ op = 20 ∨ op = 23 ∨ op = 24
  ·have hr : rightOp op = true := decide_eq_true ho
   rw [hr]
   refine pc_of_call (callAt_enter ir (by simp [irRightA]) ?_)
   simp [irRightA, toL_mk]
   refine callT_plain hlit rfl (by simp [toL_mk]) ?_
   rcases ho with rfl | rfl | rfl | rfl | rfl
   ·simp
    refine lwp_loop (fun i : Nat => [(1, .ptr 0 0), (4, intL i)]) (fun _ => [some [intL 16, intL n, intL pl, .sl 4 false (l.map T.toL)]]) (fun i => l.length - i) (fun i => i ≤ l.length ∧ ∀ t ∈ l.take i, t.rightB = true) 0 (by simp) ⟨[0], ?_⟩ ?_
    ·simp
    ·rintro i ⟨hi, hall⟩
     by_cases hlt : i < l.length
     ·have hnw : IntKind.i64.wrap ((i : Int) + 1) = ((i + 1 : Nat) : Int) := by rw [wrap_id (by omega) (by omega)]; rfl
      simp [hlt]
      refine callT_plain (ih l[i] (List.getElem_mem hlt) (hok.kid _ (List.getElem_mem hlt))) rfl (by simp) ?_
      cases hm : l[i].rightB
      ·simp
       exact ⟨l[i], List.getElem_mem hlt, hm⟩
      ·simp [hnw]
       refine ⟨i + 1, ⟨by omega, fun t ht => ?_⟩, by show l.length - (i + 1) < l.length - i; omega, [0], ?_⟩
       ·rw [List.take_succ_eq_append_getElem hlt] at ht
        rcases List.mem_append.1 ht with h | h
        ·exact hall t h
        ·simp at h; rw [h]; exact hm
       ·simp
     ·have hil : i = l.length := by omega
      rw [List.take_of_length_le (by omega)] at hall
      simp [hlt]
      exact hall
   ·simp
    refine lwp_loop (fun i : Nat => [(1, .ptr 0 0), (4, intL i)]) (fun _ => [some [intL 17, intL n, intL pl, .sl 4 false (l.map T.toL)]]) (fun i => l.length - i) (fun i => i ≤ l.length ∧ ∀ t ∈ l.take i, t.rightB = true) 0 (by simp) ⟨[0], ?_⟩ ?_
    ·simp
    ·rintro i ⟨hi, hall⟩
     by_cases hlt : i < l.length
     ·have hnw : IntKind.i64.wrap ((i : Int) + 1) = ((i + 1 : Nat) : Int) := by rw [wrap_id (by omega) (by omega)]; rfl
      simp [hlt]
      refine callT_plain (ih l[i] (List.getElem_mem hlt) (hok.kid _ (List.getElem_mem hlt))) rfl (by simp) ?_
      cases hm : l[i].rightB
      ·simp
       exact ⟨l[i], List.getElem_mem hlt, hm⟩
      ·simp [hnw]
       refine ⟨i + 1, ⟨by omega, fun t ht => ?_⟩, by show l.length - (i + 1) < l.length - i; omega, [0], ?_⟩
       ·rw [List.take_succ_eq_append_getElem hlt] at ht
        rcases List.mem_append.1 ht with h | h
        ·exact hall t h
        ·simp at h; rw [h]; exact hm
       ·simp
     ·have hil : i = l.length := by omega
      rw [List.take_of_length_le (by omega)] at hall
      simp [hlt]
      exact hall
   ·simp
    refine lwp_loop (fun i : Nat => [(1, .ptr 0 0), (4, intL i)]) (fun _ => [some [intL 20, intL n, intL pl, .sl 4 false (l.map T.toL)]]) (fun i => l.length - i) (fun i => i ≤ l.length ∧ ∀ t ∈ l.take i, t.rightB = true) 0 (by simp) ⟨[0], ?_⟩ ?_
    ·simp
    ·rintro i ⟨hi, hall⟩
     by_cases hlt : i < l.length
     ·have hnw : IntKind.i64.wrap ((i : Int) + 1) = ((i + 1 : Nat) : Int) := by rw [wrap_id (by omega) (by omega)]; rfl
      simp [hlt]
      refine callT_plain (ih l[i] (List.getElem_mem hlt) (hok.kid _ (List.getElem_mem hlt))) rfl (by simp) ?_
      cases hm : l[i].rightB
      ·simp
       exact ⟨l[i], List.getElem_mem hlt, hm⟩
      ·simp [hnw]
       refine ⟨i + 1, ⟨by omega, fun t ht => ?_⟩, by show l.length - (i + 1) < l.length - i; omega, [0], ?_⟩
       ·rw [List.take_succ_eq_append_getElem hlt] at ht
        rcases List.mem_append.1 ht with h | h
        ·exact hall t h
        ·simp at h; rw [h]; exact hm
       ·simp
     ·have hil : i = l.length := by omega
      rw [List.take_of_length_le (by omega)] at hall
      simp [hlt]
      exact hall
   ·simp
    refine lwp_loop (fun i : Nat => [(1, .ptr 0 0), (4, intL i)]) (fun _ => [some [intL 23, intL n, intL pl, .sl 4 false (l.map T.toL)]]) (fun i => l.length - i) (fun i => i ≤ l.length ∧ ∀ t ∈ l.take i, t.rightB = true) 0 (by simp) ⟨[0], ?_⟩ ?_
    ·simp
    ·rintro i ⟨hi, hall⟩
     by_cases hlt : i < l.length
     ·have hnw : IntKind.i64.wrap ((i : Int) + 1) = ((i + 1 : Nat) : Int) := by rw [wrap_id (by omega) (by omega)]; rfl
      simp [hlt]
      refine callT_plain (ih l[i] (List.getElem_mem hlt) (hok.kid _ (List.getElem_mem hlt))) rfl (by simp) ?_
      cases hm : l[i].rightB
      ·simp
       exact ⟨l[i], List.getElem_mem hlt, hm⟩
      ·simp [hnw]
       refine ⟨i + 1, ⟨by omega, fun t ht => ?_⟩, by show l.length - (i + 1) < l.length - i; omega, [0], ?_⟩
       ·rw [List.take_succ_eq_append_getElem hlt] at ht
        rcases List.mem_append.1 ht with h | h
        ·exact hall t h
        ·simp at h; rw [h]; exact hm
       ·simp
     ·have hil : i = l.length := by omega
      rw [List.take_of_length_le (by omega)] at hall
      simp [hlt]
      exact hall
   ·simp
    refine lwp_loop (fun i : Nat => [(1, .ptr 0 0), (4, intL i)]) (fun _ => [some [intL 24, intL n, intL pl, .sl 4 false (l.map T.toL)]]) (fun i => l.length - i) (fun i => i ≤ l.length ∧ ∀ t ∈ l.take i, t.rightB = true) 0 (by simp) ⟨[0], ?_⟩ ?_
    ·simp
    ·rintro i ⟨hi, hall⟩
     by_cases hlt : i < l.length
     ·have hnw : IntKind.i64.wrap ((i : Int) + 1) = ((i + 1 : Nat) : Int) := by rw [wrap_id (by omega) (by omega)]; rfl
      simp [hlt]
      refine callT_plain (ih l[i] (List.getElem_mem hlt) (hok.kid _ (List.getElem_mem hlt))) rfl (by simp) ?_
      cases hm : l[i].rightB
      ·simp
       exact ⟨l[i], List.getElem_mem hlt, hm⟩
      ·simp [hnw]
       refine ⟨i + 1, ⟨by omega, fun t ht => ?_⟩, by show l.length - (i + 1) < l.length - i; omega, [0], ?_⟩
       ·rw [List.take_succ_eq_append_getElem hlt] at ht
        rcases List.mem_append.1 ht with h | h
        ·exact hall t h
        ·simp at h; rw [h]; exact hm
       ·simp
     ·have hil : i = l.length := by omega
      rw [List.take_of_length_le (by omega)] at hall
      simp [hlt]
      exact hall
  ·have hr : rightOp op = false := decide_eq_false ho
   have h1 : ¬ op = 16 := fun h => ho (by omega)
   have h2 : ¬ op = 17 := fun h => ho (by omega)
   have h3 : ¬ op = 20 := fun h => ho (by omega)
   have h4 : ¬ op = 23 := fun h => ho (by omega)
   have h5 : ¬ op = 24 := fun h => ho (by omega)
   refine pc_of_call (callAt_enter ir (by simp [irRightA]) ?_)
   simp [irRightA, toL_mk]
   refine callT_plain hlit rfl (by simp [toL_mk]) ?_
   simp [h1, h2, h3, h4, h5, hr]
 ·rw [hl] at hlit
  refine pc_of_call (callAt_enter ir (by simp [irRightA]) ?_)
  simp [irRightA, toL_mk]
  refine callT_plain hlit rfl (by simp [toL_mk]) ?_
  simp
end Lg

