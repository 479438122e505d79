/- Trees that are the same but for their places: the program's own way to tell. -/
import Derived.Test.YtjoffkghcjfbeaaLibNnfR
import Derived.Test.YtjoffkghcjfbeaaLibNnfS
import Derived.Test.YtjoffkghcjfbeaaLibNnf
namespace Lg
open Go
def irSameP (eq self : Nat) : FnIR := ⟨24,[.t 4],(.seq (.ops [⟨some 2,.box (.t 0),none⟩,⟨some 3,.box (.t 1),none⟩,⟨some 4,.mov (.c (.v (.bool false))),none⟩]) (.seq (.ops [⟨some 5,.faddr 0 (.t 2),none⟩,⟨some 6,.load 1 false (.t 5),none⟩,⟨some 7,.faddr 0 (.t 3),none⟩,⟨some 8,.load 1 false (.t 7),none⟩,⟨some 9,.bin .eql false (.t 6) (.t 8),none⟩,⟨some 10,.mov (.t 9),none⟩,⟨some 11,.faddr 1 (.t 2),some (10,true)⟩,⟨some 12,.load 1 false (.t 11),some (10,true)⟩,⟨some 13,.faddr 1 (.t 3),some (10,true)⟩,⟨some 14,.load 1 false (.t 13),some (10,true)⟩,⟨some 15,.bin .eql false (.t 12) (.t 14),some (10,true)⟩,⟨some 16,.pick (.t 10) (.t 15) (.c (.v (.bool false))),none⟩,⟨some 17,.mov (.t 16),none⟩,⟨some 18,.faddr 3 (.t 2),some (17,true)⟩,⟨some 19,.load 1 false (.t 18),some (17,true)⟩,⟨some 20,.faddr 3 (.t 3),some (17,true)⟩,⟨some 21,.load 1 false (.t 20),some (17,true)⟩,⟨some 22,.call eq [(.t 19),(.t 21),(.c (.fn (.func self) [] []))],some (17,true)⟩,⟨some 23,.pick (.t 17) (.t 22) (.c (.v (.bool false))),none⟩,⟨some 4,.mov (.t 23),none⟩]) .ret))⟩
def irEqF : FnIR := ⟨32,[.t 6],(.seq (.ops [⟨some 6,.mov (.c (.v (.bool false))),none⟩]) (.seq (.seq (.ops [⟨some 10,.mov (.t 0),none⟩,⟨some 11,.len false (.t 10),none⟩,⟨some 12,.mov (.t 1),none⟩,⟨some 13,.len false (.t 12),none⟩,⟨some 14,.bin .neq false (.t 11) (.t 13),none⟩]) (.cond (.t 14) (.seq (.ops [⟨some 6,.mov (.c (.v (.bool false))),none⟩]) .ret) .skip)) (.seq (.seq (.ops [⟨some 15,.mov (.t 0),none⟩,⟨some 16,.len false (.t 15),none⟩,⟨some 17,.mov (.c (.v (.int .i64 0))),none⟩]) (.block 0 (.loop (.seq (.ops [⟨some 18,.bin .lss false (.t 17) (.t 16),none⟩]) (.seq (.cond (.t 18) .skip (.exit 0)) (.seq (.block 1 (.seq (.ops [⟨some 19,.mov (.t 17),none⟩,⟨some 20,.iaddr 4 (.t 15) (.t 17),none⟩,⟨some 21,.load 4 true (.t 20),none⟩,⟨some 8,.alloc (.agg [(.v (.int .i64 0)),(.v (.int .i64 0)),(.v (.int .i64 0)),(.v (.slice none 0 0))]),none⟩,⟨some 7,.mov (.t 19),none⟩,⟨none,.store 4 (.t 8) (.t 21),none⟩]) (.seq (.ops [⟨some 22,.mov (.t 1),none⟩,⟨some 23,.mov (.t 7),none⟩,⟨some 24,.iaddr 4 (.t 22) (.t 23),none⟩,⟨some 25,.load 4 true (.t 24),none⟩,⟨some 9,.alloc (.agg [(.v (.int .i64 0)),(.v (.int .i64 0)),(.v (.int .i64 0)),(.v (.slice none 0 0))]),none⟩,⟨none,.store 4 (.t 9) (.t 25),none⟩]) (.seq (.ops [⟨some 26,.mov (.t 2),none⟩,⟨some 27,.load 4 true (.t 8),none⟩,⟨some 28,.load 4 true (.t 9),none⟩,⟨some 29,.calld (.t 26) [(.t 27),(.t 28)],none⟩,⟨some 30,.un .not (.t 29),none⟩]) (.cond (.t 30) (.seq (.ops [⟨some 6,.mov (.c (.v (.bool false))),none⟩]) .ret) .skip))))) (.ops [⟨some 31,.bin .add false (.t 17) (.c (.v (.int .i64 1))),none⟩,⟨some 17,.mov (.t 31),none⟩]))))))) (.seq (.ops [⟨some 6,.mov (.c (.v (.bool true))),none⟩]) .ret))))⟩
theorem eqF_gen {P : Program} {f q : Nat} (ir : compF P f = some irEqF) {g : T → T → Bool} {l m : List T} (hl : l.length ≤ 2932031007403) (hm : m.length ≤ 2932031007403) (hq : ∀ t ∈ l, ∀ u ∈ m, PC P q [t.toL, u.toL] (boolL (g t u))) :
  PC P f [.sl 4 false (l.map T.toL), .sl 4 false (m.map T.toL), .fn (.func q) [] []] (boolL (decide (l.length = m.length) && (l.zip m).all fun p => g p.1 p.2)) := by
 refine pc_of_call (callAt_enter ir (by simp [irEqF]) ?_)
 by_cases hlm : l.length = m.length
 ·simp [irEqF, hlm]
  refine lwp_loop (fun i : Nat => [(0, .sl 4 false (l.map T.toL)), (1, .sl 4 false (m.map T.toL)), (2, .fn (.func q) [] []), (15, .sl 4 false (l.map T.toL)), (16, intL l.length), (17, intL i)]) (fun _ => []) (fun i => l.length - i) (fun i => i ≤ l.length ∧ ∀ p ∈ (l.zip m).take i, g p.1 p.2 = true) 0 (by simp) ⟨[], ?_⟩ ?_
  ·simp [hlm]
  ·rintro i ⟨hi, hall⟩
   simp
   refine ⟨fun hlt => ?_, fun hge => ?_⟩
   ·have hlt' : i < m.length := by omega
    have hz : i < (l.zip m).length := by simp; omega
    have hnw : IntKind.i64.wrap ((i : Int) + 1) = ((i + 1 : Nat) : Int) := by rw [wrap_id (by omega) (by omega)]; rfl
    simp [hlt, hlt', setCells_toL, toL_cells_length, toL_agg]
    refine callT_plain (hq l[i] (List.getElem_mem hlt) m[i] (List.getElem_mem hlt')) rfl (by simp) ?_
    simp
    cases hg : g l[i] m[i]
    ·simp
     exact ⟨l[i], m[i], by have := List.getElem_mem hz; simpa using this, hg⟩
    ·simp [hnw]
     refine ⟨i + 1, ⟨by omega, fun p q hp => ?_⟩, by simp <;> omega, [], ?_⟩
     ·rw [List.take_succ_eq_append_getElem hz] at hp
      rcases List.mem_append.1 hp with h | h
      ·exact hall (p, q) h
      ·simp at h; rw [h.1, h.2]; exact hg
     ·simp
   ·have hil : i = l.length := by omega
    rw [List.take_of_length_le (by simp; omega)] at hall
    exact fun a b hab => hall (a, b) hab
 ·have e5 : ¬ (l.length : Int) = m.length := by omega
  simp [irEqF, hlm, e5]
theorem sameP_gen {P : Program} {f eq : Nat} (ir : compF P f = some (irSameP eq f)) (ieq : compF P eq = some irEqF) : ∀ t : T, t.Ok → ∀ u : T, u.Ok → PC P f [t.toL, u.toL] (boolL (t.same u)) := by
 intro t
 refine T.ind (M := fun t => t.Ok → ∀ u : T, u.Ok → PC P f [t.toL, u.toL] (boolL (t.same u))) ?_ t
 intro op n pl l ih hok u huk
 have hlen := hok.len
 obtain ⟨op', n', pl', l'⟩ := u
 have hlen' := huk.len
 rw [T.same_mk, toL_mk, toL_mk]
 refine pc_of_call (callAt_enter ir (by simp [irSameP]) ?_)
 simp only [T.op, T.num, T.l]
 by_cases e2 : op = op'
 ·by_cases e3 : n = n'
  ·simp [irSameP, e2, e3]
   refine callT_plain (eqF_gen ieq hlen hlen' fun t ht u hu => ih t ht (hok.kid t ht) u (huk.kid u hu)) rfl (by simp) ?_
   simp
  ·simp [irSameP, e2, e3]
 ·simp [irSameP, e2]
end Lg

