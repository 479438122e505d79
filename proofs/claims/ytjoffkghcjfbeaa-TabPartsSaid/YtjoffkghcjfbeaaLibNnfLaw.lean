/- What the program's turned formulas are: plain laws. -/
import Derived.Test.YtjoffkghcjfbeaaLibNnf
import Derived.Test.YtjoffkghcjfbeaaLibSemN
namespace Lg
open Go
theorem Fm.shape {vars op n pl : Int} {l : List T} (h : Fm vars (.mk op n pl l)) (hl : (T.mk op n pl l).lit = false) : (Lit.int .i64 pl).wf = true ∧ n = 0 ∧ (∀ t ∈ l, Fm vars t) ∧
  ((∃ x, l = [x] ∧ (op = 15 ∨ op = 20 ∨ op = 21 ∨ op = 22)) ∨ (∃ x y, l = [x, y] ∧ (op = 16 ∨ op = 17 ∨ op = 18 ∨ op = 19 ∨ op = 23 ∨ op = 24))) := by
 obtain ⟨hok, hm, hg, h1⟩ := h
 obtain ⟨h15, h24, hw, hk⟩ := time_kids hm hg h1 hl
 have hop : op = 15 ∨ op = 16 ∨ op = 17 ∨ op = 18 ∨ op = 19 ∨ op = 20 ∨ op = 21 ∨ op = 22 ∨ op = 23 ∨ op = 24 := by omega
 have one : wants op = 1 → ∃ x, l = [x] := fun h => by
  rw [h] at hw
  match l, hw with
  | [x], _ => exact ⟨x, rfl⟩
  | [], hw => simp at hw
  | _ :: _ :: l, hw => simp at hw; omega
 have two : wants op = 2 → ∃ x y, l = [x, y] := fun h => by
  rw [h] at hw
  match l, hw with
  | [x, y], _ => exact ⟨x, y, rfl⟩
  | [], hw => simp at hw
  | [_], hw => simp at hw
  | _ :: _ :: _ :: l, hw => simp at hw; omega
 have hn : n = 0 := by
  rw [T.may_mk, Bool.and_eq_true, decide_eq_true_eq] at hm
  have := hm.1.2.2.2
  omega
 refine ⟨by cases hok with | mk _ _ h3 _ _ => exact h3, hn, fun t ht => ⟨hok.kid t ht, (hk t ht).1, (hk t ht).2.1, (hk t ht).2.2⟩, ?_⟩
 rcases hop with rfl | rfl | rfl | rfl | rfl | rfl | rfl | rfl | rfl | rfl
 ·obtain ⟨x, rfl⟩ := one rfl; exact .inl ⟨x, rfl, by omega⟩
 ·obtain ⟨x, y, rfl⟩ := two rfl; exact .inr ⟨x, y, rfl, by omega⟩
 ·obtain ⟨x, y, rfl⟩ := two rfl; exact .inr ⟨x, y, rfl, by omega⟩
 ·obtain ⟨x, y, rfl⟩ := two rfl; exact .inr ⟨x, y, rfl, by omega⟩
 ·obtain ⟨x, y, rfl⟩ := two rfl; exact .inr ⟨x, y, rfl, by omega⟩
 ·obtain ⟨x, rfl⟩ := one rfl; exact .inl ⟨x, rfl, by omega⟩
 ·obtain ⟨x, rfl⟩ := one rfl; exact .inl ⟨x, rfl, by omega⟩
 ·obtain ⟨x, rfl⟩ := one rfl; exact .inl ⟨x, rfl, by omega⟩
 ·obtain ⟨x, y, rfl⟩ := two rfl; exact .inr ⟨x, y, rfl, by omega⟩
 ·obtain ⟨x, y, rfl⟩ := two rfl; exact .inr ⟨x, y, rfl, by omega⟩
def T.dp : T → Int := T.fold fun _ _ _ _ rs => 1 + rs.foldl max 0
theorem T.dp_mk {op n pl l} : (T.mk op n pl l).dp = 1 + (l.map T.dp).foldl max 0 := by
 rw [T.dp, T.fold_mk]
theorem foldl_max_le {c : Int} : ∀ {l : List Int} {a : Int}, (∀ x ∈ l, x ≤ c) → a ≤ c → l.foldl max a ≤ c
 | [], _, _, h => h
 | x :: l, a, hl, h => by
  simp only [List.foldl_cons]
  refine foldl_max_le (fun y hy => hl y (by simp [hy])) ?_
  have := hl x (by simp)
  omega
theorem foldl_pick {α : Type} {g : α → Int} {c : Int} : ∀ {l : List α} {a : Int}, (∀ x ∈ l, g x ≤ c) → a ≤ c →
  a ≤ l.foldl (fun d t => if d < g t then g t else d) a ∧ l.foldl (fun d t => if d < g t then g t else d) a ≤ c ∧ ∀ x ∈ l, g x ≤ l.foldl (fun d t => if d < g t then g t else d) a
 | [], a, _, h => ⟨Int.le_refl _, h, by simp⟩
 | x :: l, a, hl, h => by
  simp only [List.foldl_cons]
  have hx := hl x (by simp)
  have q : a ≤ (if a < g x then g x else a) ∧ g x ≤ (if a < g x then g x else a) ∧ (if a < g x then g x else a) ≤ c := by split <;> omega
  generalize (if a < g x then g x else a) = y at q ⊢
  obtain ⟨h1, h2, h3⟩ := foldl_pick (g := g) (c := c) (l := l) (a := y) (fun y hy => hl y (by simp [hy])) q.2.2
  refine ⟨by omega, h2, fun z hz => ?_⟩
  rcases List.mem_cons.1 hz with rfl | hz
  ·omega
  ·exact h3 z hz
theorem deep_dp : ∀ t : T, ∀ m : Int, 1 ≤ m → m ≤ 1000 → 1 ≤ t.deep m ∧ t.deep m ≤ m ∧ min t.dp m ≤ t.deep m := by
 intro t
 refine T.ind (M := fun t => ∀ m : Int, 1 ≤ m → m ≤ 1000 → 1 ≤ t.deep m ∧ t.deep m ≤ m ∧ min t.dp m ≤ t.deep m) ?_ t
 intro op n pl l ih m h1 h2
 rw [T.deep_mk]
 split
 ·rename_i hm
  have hw : w64 (m - 1) = m - 1 := IntWalk.i64_in _ ⟨by omega, by omega⟩
  rw [hw]
  have kid := fun t ht => ih t ht (m - 1) (by omega) (by omega)
  have hg : ∀ t ∈ l, w64 (1 + t.deep (m - 1)) = 1 + t.deep (m - 1) := fun t ht => by
   have := kid t ht
   exact IntWalk.i64_in _ ⟨by omega, by omega⟩
  obtain ⟨k1, k2, k3⟩ := foldl_pick (g := fun t : T => w64 (1 + t.deep (m - 1))) (c := m) (l := l) (a := 1) (fun t ht => by
   have := kid t ht
   simp only [hg t ht]; omega) h1
  refine ⟨k1, k2, ?_⟩
  generalize l.foldl (fun d t => if d < w64 (1 + t.deep (m - 1)) then w64 (1 + t.deep (m - 1)) else d) 1 = D at *
  by_cases hD : m ≤ D
  ·omega
  ·have : (l.map T.dp).foldl max 0 ≤ D - 1 := foldl_max_le (fun x hx => by
    obtain ⟨t, ht, rfl⟩ := List.mem_map.1 hx
    have a1 := k3 t ht
    have a2 := kid t ht
    simp only [hg t ht] at a1
    omega) (by omega)
   rw [T.dp_mk]
   omega
 ·have : m = 1 := by omega
  subst this
  omega
theorem few_dp {t : T} (h : t.few = true) : t.dp ≤ 44 := by
 simp [T.few] at h
 have := deep_dp t 45 (by omega) (by omega)
 omega
def irSizeR (lit self : Nat) : FnIR := ⟨25,[.t 2],(.seq (.ops [⟨some 1,.box (.t 0),none⟩,⟨some 2,.mov (.c (.v (.int .i64 0))),none⟩]) (.seq (.ops [⟨some 6,.load 4 true (.t 1),none⟩,⟨some 7,.call lit [(.t 6)],none⟩,⟨some 3,.mov (.t 7),none⟩]) (.seq (.seq (.ops [⟨some 8,.mov (.t 3),none⟩]) (.cond (.t 8) (.seq (.ops [⟨some 2,.mov (.c (.v (.int .i64 1))),none⟩]) .ret) .skip)) (.seq (.ops [⟨some 4,.mov (.c (.v (.int .i64 1))),none⟩]) (.seq (.seq (.ops [⟨some 5,.mov (.c (.v (.int .i64 0))),none⟩]) (.block 0 (.loop (.seq (.seq (.ops [⟨some 9,.mov (.t 5),none⟩,⟨some 10,.faddr 3 (.t 1),none⟩,⟨some 11,.load 1 false (.t 10),none⟩,⟨some 12,.len false (.t 11),none⟩,⟨some 13,.bin .lss false (.t 9) (.t 12),none⟩]) (.cond (.t 13) .skip (.exit 0))) (.seq (.block 1 (.ops [⟨some 16,.mov (.t 4),none⟩,⟨some 17,.faddr 3 (.t 1),none⟩,⟨some 18,.load 1 false (.t 17),none⟩,⟨some 19,.mov (.t 5),none⟩,⟨some 20,.iaddr 4 (.t 18) (.t 19),none⟩,⟨some 21,.load 4 true (.t 20),none⟩,⟨some 22,.call self [(.t 21)],none⟩,⟨some 23,.bin .add false (.t 16) (.t 22),none⟩,⟨some 4,.mov (.t 23),none⟩])) (.ops [⟨some 14,.mov (.t 5),none⟩,⟨some 15,.bin .add false (.t 14) (.c (.v (.int .i64 1))),none⟩,⟨some 5,.mov (.t 15),none⟩])))))) (.seq (.ops [⟨some 24,.mov (.t 4),none⟩,⟨some 2,.mov (.t 24),none⟩]) .ret))))))⟩
def T.psize : T → Int := T.fold fun op n pl l rs => if (T.mk op n pl l).lit = true then 1 else rs.foldl (fun n r => w64 (n + r)) 1
theorem T.psize_mk {op n pl l} : (T.mk op n pl l).psize = if (T.mk op n pl l).lit = true then 1 else l.foldl (fun n t => w64 (n + t.psize)) 1 := by
 rw [T.psize, T.fold_mk, List.foldl_map]
theorem sizeR_gen {P : Program} {f lit : Nat} (ir : compF P f = some (irSizeR lit f)) (ilit : ∀ t : T, t.Ok → PC P lit [t.toL] (boolL t.lit)) : ∀ t : T, t.Ok → PC P f [t.toL] (intL t.psize) := by
 intro t
 refine T.ind (M := fun t => t.Ok → PC P f [t.toL] (intL t.psize)) ?_ t
 intro op n pl l ih hok
 have hlit := ilit _ hok
 rw [T.psize_mk]
 refine pc_of_call (callAt_enter ir (by simp [irSizeR]) ?_)
 simp [irSizeR, toL_mk]
 refine callT_plain hlit rfl (by simp [toL_mk]) ?_
 cases hl : (T.mk op n pl l).lit
 ·simp
  have hlen := hok.len
  refine lwp_loop (fun i : Nat => [(1, .ptr 0 0), (4, intL ((l.take i).foldl (fun n t => w64 (n + t.psize)) 1)), (5, intL i)]) (fun _ => [some [intL op, intL n, intL pl, .sl 4 false (l.map T.toL)]]) (fun i => l.length - i) (fun i => i ≤ l.length) 0 (by omega) ⟨[0], ?_⟩ ?_
  ·simp
  ·intro i hi
   simp
   refine ⟨fun hlt => ?_, fun hge => ?_⟩
   ·have hnw : IntKind.i64.wrap ((i : Int) + 1) = ((i + 1 : Nat) : Int) := by rw [wrap_id (by omega) (by omega)]; rfl
    simp [hlt]
    refine callT_plain (ih l[i] (List.getElem_mem hlt) (hok.kid _ (List.getElem_mem hlt))) rfl (by simp) ?_
    simp [hnw]
    refine ⟨i + 1, by omega, by show l.length - (i + 1) < l.length - i; omega, [0], ?_⟩
    have e : (l.take (i + 1)).foldl (fun n t => w64 (n + t.psize)) 1 = w64 ((l.take i).foldl (fun n t => w64 (n + t.psize)) 1 + l[i].psize) := by
     rw [List.take_succ_eq_append_getElem hlt, List.foldl_append]; rfl
    simp [e]
   ·have : i = l.length := by omega
    subst this
    simp
 ·simp
end Lg

