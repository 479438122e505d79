/- What the program's turned formulas are: plain laws. -/
import Derived.Test.YtjoffkghcjfbeaaLibNnf
import Derived.Test.YtjoffkghcjfbeaaLibSemN
namespace Lg
open Go
theorem Fm.nodeP {vars op pl : Int} {l : List T} (hp : (Lit.int .i64 pl).wf = true) (h15 : 15 ≤ op) (h24 : op ≤ 24) (hn : (l.length : Int) = wants op) (hl : ∀ t ∈ l, Fm vars t) : Fm vars (.mk op 0 pl l) := by
  have ht := Fm.type_node (n := 0) (pl := pl) h15 hl
  have hw : wants op ≤ 2 := by unfold wants; repeat' split
                               all_goals omega
  refine ⟨.mk ?_ (by decide) hp (by omega) fun t ht => (hl t ht).ok, ?_, ?_, ?_⟩
  · have : op = 15 ∨ op = 16 ∨ op = 17 ∨ op = 18 ∨ op = 19 ∨ op = 20 ∨ op = 21 ∨ op = 22 ∨ op = 23 ∨ op = 24 := by omega
    rcases this with rfl | rfl | rfl | rfl | rfl | rfl | rfl | rfl | rfl | rfl <;> decide
  · rw [T.may_mk, Bool.and_eq_true, decide_eq_true_eq]
    refine ⟨⟨⟨by omega, h24, hn⟩, by omega, by omega, by omega⟩, List.all_eq_true.2 fun t ht => (hl t ht).may⟩
  · rw [ht]; split <;> rfl
  · rw [ht]; split <;> simp
theorem Fm.sat_nodeP {vars op pl : Int} {l : List T} {w : Word} (hp : (Lit.int .i64 pl).wf = true) (h15 : 15 ≤ op) (h24 : op ≤ 24) (hn : (l.length : Int) = wants op) (hl : ∀ t ∈ l, Fm vars t) (i : Nat) :
  (T.mk op 0 pl l).sat w i = semStep w op ((l.map (T.sat w)).getD 0 fun _ => false) ((l.map (T.sat w)).getD 1 fun _ => false) i := by
 have hnode := Fm.nodeP hp h15 h24 hn hl
 have ht := Fm.type_node (n := 0) (pl := pl) h15 hl
 cases hlit : (T.mk op 0 pl l).lit
 ·rw [T.sat_mk hlit]
 ·have hc : op ≤ 19 ∧ ∀ t ∈ l, t.lit = true := by
   refine Classical.byContradiction fun hc => ?_
   rw [if_neg hc] at ht
   simp [T.lit, ht] at hlit
  rw [T.sat_lit hlit]
  show decide ((T.mk op 0 pl l).eval (w.v.getD i []) = 1) = _
  have sl : ∀ x : T, x.lit = true → x.sat w i = decide (x.eval (w.v.getD i []) = 1) := fun x hx => sat_lit_at hx i
  generalize w.v.getD i [] = v at sl
  rw [T.eval_mk]
  have hop : op = 15 ∨ op = 16 ∨ op = 17 ∨ op = 18 ∨ op = 19 := by omega
  have one : ∀ x, Fm vars x → x.lit = true → ∃ p : Bool, x.sat w i = p ∧ x.eval v = (if p then 1 else 0) := fun x hx hxl => by
   refine ⟨_, rfl, ?_⟩
   rw [sl x hxl]
   rcases hx.bit hxl v with e | e <;> simp [e]
  rcases hop with rfl | rfl | rfl | rfl | rfl
  ·match l, hn with
   | [x], _ =>
    obtain ⟨p, e1, e2⟩ := one x (hl x (by simp)) (hc.2 x (by simp))
    cases p <;> simp [semStep, evalR, e1, e2, tru]
   | [], hn => simp [wants] at hn
   | _ :: _ :: _, hn => simp [wants] at hn; omega
  all_goals
   match l, hn with
   | [x, y], _ =>
    obtain ⟨p, e1, e2⟩ := one x (hl x (by simp)) (hc.2 x (by simp))
    obtain ⟨q, e3, e4⟩ := one y (hl y (by simp)) (hc.2 y (by simp))
    cases p <;> cases q <;> simp [semStep, evalR, e1, e2, e3, e4, tru]
   | [], hn => simp [wants] at hn
   | [_], hn => simp [wants] at hn
   | _ :: _ :: _ :: _, hn => simp [wants] at hn; omega
theorem Fm.shape {vars op n pl : Int} {l : List T} (h : Fm vars (.mk op n pl l)) (hl : (T.mk op n pl l).lit = false) : (Lit.int .i64 pl).wf = true ∧ n = 0 ∧ (∀ t ∈ l, Fm vars t) ∧
  ((∃ x, l = [x] ∧ (op = 15 ∨ op = 20 ∨ op = 21 ∨ op = 22)) ∨ (∃ x y, l = [x, y] ∧ (op = 16 ∨ op = 17 ∨ op = 18 ∨ op = 19 ∨ op = 23 ∨ op = 24))) := by
 obtain ⟨hok, hm, hg, h1⟩ := h
 obtain ⟨h15, h24, hw, hk⟩ := time_kids hm hg h1 hl
 have hop : op = 15 ∨ op = 16 ∨ op = 17 ∨ op = 18 ∨ op = 19 ∨ op = 20 ∨ op = 21 ∨ op = 22 ∨ op = 23 ∨ op = 24 := by omega
 have one : wants op = 1 → ∃ x, l = [x] := fun h => by
  rw [h] at hw
  match l, hw with
  | [x], _ => exact ⟨x, rfl⟩
  | [], hw => simp at hw
  | _ :: _ :: l, hw => simp at hw; omega
 have two : wants op = 2 → ∃ x y, l = [x, y] := fun h => by
  rw [h] at hw
  match l, hw with
  | [x, y], _ => exact ⟨x, y, rfl⟩
  | [], hw => simp at hw
  | [_], hw => simp at hw
  | _ :: _ :: _ :: l, hw => simp at hw; omega
 have hn : n = 0 := by
  rw [T.may_mk, Bool.and_eq_true, decide_eq_true_eq] at hm
  have := hm.1.2.2.2
  omega
 refine ⟨by cases hok with | mk _ _ h3 _ _ => exact h3, hn, fun t ht => ⟨hok.kid t ht, (hk t ht).1, (hk t ht).2.1, (hk t ht).2.2⟩, ?_⟩
 rcases hop with rfl | rfl | rfl | rfl | rfl | rfl | rfl | rfl | rfl | rfl
 ·obtain ⟨x, rfl⟩ := one rfl; exact .inl ⟨x, rfl, by omega⟩
 ·obtain ⟨x, y, rfl⟩ := two rfl; exact .inr ⟨x, y, rfl, by omega⟩
 ·obtain ⟨x, y, rfl⟩ := two rfl; exact .inr ⟨x, y, rfl, by omega⟩
 ·obtain ⟨x, y, rfl⟩ := two rfl; exact .inr ⟨x, y, rfl, by omega⟩
 ·obtain ⟨x, y, rfl⟩ := two rfl; exact .inr ⟨x, y, rfl, by omega⟩
 ·obtain ⟨x, rfl⟩ := one rfl; exact .inl ⟨x, rfl, by omega⟩
 ·obtain ⟨x, rfl⟩ := one rfl; exact .inl ⟨x, rfl, by omega⟩
 ·obtain ⟨x, rfl⟩ := one rfl; exact .inl ⟨x, rfl, by omega⟩
 ·obtain ⟨x, y, rfl⟩ := two rfl; exact .inr ⟨x, y, rfl, by omega⟩
 ·obtain ⟨x, y, rfl⟩ := two rfl; exact .inr ⟨x, y, rfl, by omega⟩
def T.turnR : T → Bool → T := T.fold fun op n pl l rs b =>
 if (T.mk op n pl l).lit = true then (if b = true then .mk 15 0 pl [.mk op n pl l] else .mk op n pl l)
 else (turnOp op pl (fun b k => ((rs.getD 0 fun _ => T.none0) b, k)) (fun b k => ((rs.getD 1 fun _ => T.none0) b, k)) b 0).1
theorem T.turnR_mk {op n pl l b} : (T.mk op n pl l).turnR b = if (T.mk op n pl l).lit = true then (if b = true then .mk 15 0 pl [.mk op n pl l] else .mk op n pl l)
 else (turnOp op pl (fun b k => (((l.map T.turnR).getD 0 fun _ => T.none0) b, k)) (fun b k => (((l.map T.turnR).getD 1 fun _ => T.none0) b, k)) b 0).1 := by
 rw [T.turnR, T.fold_mk]
def sizeStep (op a b : Int) : Int := if op = 15 then a else if op = 21 ∨ op = 22 then 2 + a else if op = 20 then 1 + a else if op = 19 then 3 + 2 * a + 2 * b else 1 + a + b
def T.fsize : T → Int := T.fold fun op n pl l rs => if (T.mk op n pl l).lit = true then 1 else sizeStep op (rs.getD 0 1) (rs.getD 1 1)
theorem T.fsize_mk {op n pl l} : (T.mk op n pl l).fsize = if (T.mk op n pl l).lit = true then 1 else sizeStep op ((l.map T.fsize).getD 0 1) ((l.map T.fsize).getD 1 1) := by
 rw [T.fsize, T.fold_mk]
def T.dp : T → Int := T.fold fun _ _ _ _ rs => 1 + rs.foldl max 0
theorem T.dp_mk {op n pl l} : (T.mk op n pl l).dp = 1 + (l.map T.dp).foldl max 0 := by
 rw [T.dp, T.fold_mk]
theorem leaf_fm {vars op pl : Int} (ho : op = 13 ∨ op = 14) (hp : (Lit.int .i64 pl).wf = true) : Fm vars (.mk op 0 pl []) := by
 have hty : (T.mk op 0 pl []).type = (2, 0, 0) := by
  rw [T.type_mk]
  rcases ho with rfl | rfl <;> simp [typeStep]
 refine ⟨.mk (by rcases ho with rfl | rfl <;> decide) (by decide) hp (by simp) (by simp), ?_, by rw [hty], by rw [hty]; simp⟩
 rw [T.may_mk]
 rcases ho with rfl | rfl <;> simp [mayPart, wants]
theorem leaf_sat {w : Word} {op pl : Int} (ho : op = 13 ∨ op = 14) : (T.mk op 0 pl []).sat w = fun _ => decide (op = 13) := by
 have hty : (T.mk op 0 pl []).type = (2, 0, 0) := by
  rw [T.type_mk]
  rcases ho with rfl | rfl <;> simp [typeStep]
 rw [T.sat_lit (by simp [T.lit, hty])]
 funext i
 rw [T.eval_mk]
 rcases ho with rfl | rfl <;> simp [evalR]
theorem turnR_fm {vars : Int} : ∀ t : T, Fm vars t → ∀ b, Fm vars (t.turnR b) := by
 intro t
 refine T.ind (M := fun t => Fm vars t → ∀ b, Fm vars (t.turnR b)) ?_ t
 intro op n pl l ih h b
 cases hl : (T.mk op n pl l).lit
 ·obtain ⟨hp, hn, hk, hs⟩ := h.shape hl
  rw [T.turnR_mk, if_neg (by rw [hl]; decide)]
  rcases hs with ⟨x, rfl, ho⟩ | ⟨x, y, rfl, ho⟩
  ·have hx := ih x (by simp) (hk x (by simp))
   have one : ∀ {op : Int} {a : T}, (op = 15 ∨ op = 20) → Fm vars a → Fm vars (.mk op 0 pl [a]) := fun ho ha =>
    Fm.nodeP hp (by omega) (by omega) (by rcases ho with rfl | rfl <;> simp [wants]) fun t ht => by simp at ht; subst ht; exact ha
   have two : ∀ {op : Int} {a c : T}, (op = 23 ∨ op = 24) → Fm vars a → Fm vars c → Fm vars (.mk op 0 pl [a, c]) := fun ho ha hc =>
    Fm.nodeP hp (by omega) (by omega) (by rcases ho with rfl | rfl <;> simp [wants]) fun t ht => by
     simp at ht
     rcases ht with rfl | rfl
     ·exact ha
     ·exact hc
   rcases ho with rfl | rfl | rfl | rfl
   ·simpa [turnOp] using hx (!b)
   ·simpa [turnOp] using one (.inr rfl) (hx b)
   ·cases b
    ·simpa [turnOp] using two (.inl rfl) (leaf_fm (.inl rfl) hp) (hx false)
    ·simpa [turnOp] using two (.inr rfl) (leaf_fm (.inr rfl) hp) (hx true)
   ·cases b
    ·simpa [turnOp] using two (.inr rfl) (leaf_fm (.inr rfl) hp) (hx false)
    ·simpa [turnOp] using two (.inl rfl) (leaf_fm (.inl rfl) hp) (hx true)
  ·have hx := ih x (by simp) (hk x (by simp))
   have hy := ih y (by simp) (hk y (by simp))
   have two : ∀ {op : Int} {a c : T}, (op = 16 ∨ op = 17 ∨ op = 23 ∨ op = 24) → Fm vars a → Fm vars c → Fm vars (.mk op 0 pl [a, c]) := fun ho ha hc =>
    Fm.nodeP hp (by omega) (by omega) (by rcases ho with rfl | rfl | rfl | rfl <;> simp [wants]) fun t ht => by
     simp at ht
     rcases ht with rfl | rfl
     ·exact ha
     ·exact hc
   rcases ho with rfl | rfl | rfl | rfl | rfl | rfl
   ·cases b
    ·simpa [turnOp, both2] using two (by omega) (hx false) (hy false)
    ·simpa [turnOp, both2] using two (by omega) (hx true) (hy true)
   ·cases b
    ·simpa [turnOp, both2] using two (by omega) (hx false) (hy false)
    ·simpa [turnOp, both2] using two (by omega) (hx true) (hy true)
   ·cases b
    ·simpa [turnOp, both2] using two (by omega) (hx true) (hy false)
    ·simpa [turnOp, both2] using two (by omega) (hx false) (hy true)
   ·simpa [turnOp] using two (op := 17) (by omega) (two (op := 16) (by omega) (hx false) (hy b)) (two (op := 16) (by omega) (hx true) (hy (!b)))
   ·cases b
    ·simpa [turnOp, both2] using two (by omega) (hx false) (hy false)
    ·simpa [turnOp, both2] using two (by omega) (hx true) (hy true)
   ·cases b
    ·simpa [turnOp, both2] using two (by omega) (hx false) (hy false)
    ·simpa [turnOp, both2] using two (by omega) (hx true) (hy true)
 ·rw [T.turnR_mk, if_pos hl]
  cases b
  ·simpa using h
  ·have hp : (Lit.int .i64 pl).wf = true := by cases h.ok with | mk _ _ h3 _ _ => exact h3
   simpa using Fm.nodeP hp (op := 15) (by omega) (by omega) (by simp [wants]) fun t ht => by simp at ht; subst ht; exact h
def satB (b : Bool) (f : Nat → Bool) : Nat → Bool := if b = true then fun i => !f i else f
theorem turnR_sat {vars : Int} {w : Word} : ∀ t : T, Fm vars t → ∀ b, (t.turnR b).sat w = satB b (t.sat w) := by
 intro t
 refine T.ind (M := fun t => Fm vars t → ∀ b, (t.turnR b).sat w = satB b (t.sat w)) ?_ t
 intro op n pl l ih h b
 cases hl : (T.mk op n pl l).lit
 ·obtain ⟨hp, hn, hk, hs⟩ := h.shape hl
  rw [T.turnR_mk, if_neg (by rw [hl]; decide), T.sat_mk hl]
  rcases hs with ⟨x, rfl, ho⟩ | ⟨x, y, rfl, ho⟩
  ·have hx := ih x (by simp) (hk x (by simp))
   have fx := turnR_fm x (hk x (by simp))
   have one : ∀ {op : Int} {a : T}, (op = 15 ∨ op = 20) → Fm vars a → (T.mk op 0 pl [a]).sat w = semStep w op (a.sat w) fun _ => false := fun ho ha => by
    funext i
    rw [Fm.sat_nodeP hp (by omega) (by omega) (by rcases ho with rfl | rfl <;> simp [wants]) fun t ht => by simp at ht; subst ht; exact ha]
    simp
   have two : ∀ {op : Int} {a c : T}, (op = 23 ∨ op = 24) → Fm vars a → Fm vars c → (T.mk op 0 pl [a, c]).sat w = semStep w op (a.sat w) (c.sat w) := fun ho ha hc => by
    funext i
    rw [Fm.sat_nodeP hp (by omega) (by omega) (by rcases ho with rfl | rfl <;> simp [wants]) fun t ht => by
     simp at ht
     rcases ht with rfl | rfl
     ·exact ha
     ·exact hc]
    simp
   rcases ho with rfl | rfl | rfl | rfl
   ·funext i; cases b <;> simp [turnOp, hx, satB, semStep]
   ·funext i; cases b <;> simp [turnOp, one (.inr rfl) (fx _), hx, satB, semStep]
   ·cases b
    ·funext i; simp [turnOp, two (.inl rfl) (leaf_fm (vars := vars) (.inl rfl) hp) (fx false), hx, satB, semStep, leaf_sat]
    ·funext i; simp [turnOp, two (.inr rfl) (leaf_fm (vars := vars) (.inr rfl) hp) (fx true), hx, satB, semStep, leaf_sat, relW, untW]
   ·cases b
    ·funext i; simp [turnOp, two (.inr rfl) (leaf_fm (vars := vars) (.inr rfl) hp) (fx false), hx, satB, semStep, leaf_sat]
    ·funext i; simp [turnOp, two (.inl rfl) (leaf_fm (vars := vars) (.inl rfl) hp) (fx true), hx, satB, semStep, leaf_sat, relW, untW]
  ·have hx := ih x (by simp) (hk x (by simp))
   have hy := ih y (by simp) (hk y (by simp))
   have fx := turnR_fm x (hk x (by simp))
   have fy := turnR_fm y (hk y (by simp))
   have twoF : ∀ {op : Int} {a c : T}, (op = 16 ∨ op = 17 ∨ op = 23 ∨ op = 24) → Fm vars a → Fm vars c → Fm vars (.mk op 0 pl [a, c]) := fun ho ha hc =>
    Fm.nodeP hp (by omega) (by omega) (by rcases ho with rfl | rfl | rfl | rfl <;> simp [wants]) fun t ht => by
     simp at ht
     rcases ht with rfl | rfl
     ·exact ha
     ·exact hc
   have two : ∀ {op : Int} {a c : T}, (op = 16 ∨ op = 17 ∨ op = 23 ∨ op = 24) → Fm vars a → Fm vars c → (T.mk op 0 pl [a, c]).sat w = semStep w op (a.sat w) (c.sat w) := fun ho ha hc => by
    funext i
    rw [Fm.sat_nodeP hp (by omega) (by omega) (by rcases ho with rfl | rfl | rfl | rfl <;> simp [wants]) fun t ht => by
     simp at ht
     rcases ht with rfl | rfl
     ·exact ha
     ·exact hc]
    simp
   rcases ho with rfl | rfl | rfl | rfl | rfl | rfl
   ·funext i; cases b <;> simp [turnOp, both2, two (op := 16) (by omega) (fx _) (fy _), two (op := 17) (by omega) (fx _) (fy _), hx, hy, satB, semStep]
   ·funext i; cases b <;> simp [turnOp, both2, two (op := 16) (by omega) (fx _) (fy _), two (op := 17) (by omega) (fx _) (fy _), hx, hy, satB, semStep]
   ·funext i; cases b <;> simp [turnOp, both2, two (op := 16) (by omega) (fx _) (fy _), two (op := 17) (by omega) (fx _) (fy _), hx, hy, satB, semStep]
   ·simp only [turnOp]
    simp only [show ¬ ((19 : Int) = 15) by decide, show ¬ ((19 : Int) = 18) by decide, show ¬ ((19 : Int) = 17) by decide, show ¬ ((19 : Int) = 16) by decide, if_false, if_true]
    simp only [List.map_cons, List.map_nil, List.getD_cons_zero, List.getD_cons_succ]
    rw [two (op := 17) (by omega) (twoF (op := 16) (by omega) (fx _) (fy _)) (twoF (op := 16) (by omega) (fx _) (fy _)), two (op := 16) (by omega) (fx _) (fy _), two (op := 16) (by omega) (fx _) (fy _), hx, hx, hy, hy]
    funext i
    cases b <;> simp [satB, semStep] <;> cases x.sat w i <;> cases y.sat w i <;> rfl
   ·funext i; cases b <;> simp [turnOp, both2, two (op := 23) (by omega) (fx _) (fy _), two (op := 24) (by omega) (fx _) (fy _), hx, hy, satB, semStep, relW, untW]
   ·funext i; cases b <;> simp [turnOp, both2, two (op := 23) (by omega) (fx _) (fy _), two (op := 24) (by omega) (fx _) (fy _), hx, hy, satB, semStep, relW, untW]
 ·rw [T.turnR_mk, if_pos hl]
  cases b
  ·simp [satB]
  ·have hp : (Lit.int .i64 pl).wf = true := by cases h.ok with | mk _ _ h3 _ _ => exact h3
   funext i
   simp only [if_true]
   rw [Fm.sat_nodeP hp (op := 15) (by omega) (by omega) (by simp [wants]) fun t ht => by simp at ht; subst ht; exact h]
   simp [satB, semStep]
theorem T.fsize_pos : ∀ t : T, 1 ≤ t.fsize := by
 intro t
 refine T.ind (M := fun t => 1 ≤ t.fsize) ?_ t
 intro op n pl l ih
 rw [T.fsize_mk]
 split
 ·omega
 ·have kid : ∀ k, 1 ≤ (l.map T.fsize).getD k 1 := fun k => by
   by_cases hk : k < l.length
   ·simp only [List.getD, List.getElem?_map, List.getElem?_eq_getElem hk, Option.map_some, Option.getD_some]
    exact ih _ (List.getElem_mem hk)
   ·simp [List.getD, List.getElem?_eq_none (Nat.le_of_not_lt hk)]
  have h0 := kid 0
  have h1 := kid 1
  unfold sizeStep
  repeat' split
  all_goals omega
theorem T.dp_pos : ∀ t : T, 1 ≤ t.dp := by
 intro t
 cases t with
 | mk op n pl l =>
  rw [T.dp_mk]
  have : ∀ (l : List Int) (a : Int), a ≤ l.foldl max a := by
   intro l
   induction l with
   | nil => intro a; simp
   | cons x l ih => intro a; simp only [List.foldl_cons]; have := ih (max a x); omega
  have := this (l.map T.dp) 0
  omega
def Falls (t : T) (b : Bool) (k : Int) : Prop := (t.fsize ≤ k → t.turn b k = (t.turnR b, k - t.fsize)) ∧ (k < t.fsize → (t.turn b k).2 < 0 ∧ min (k - 1) (-6 * t.dp) ≤ (t.turn b k).2)
theorem turn_falls {vars : Int} : ∀ t : T, Fm vars t → t.dp ≤ 1000 → ∀ b k, -100000 ≤ k → k ≤ 1000 → Falls t b k := by
 intro t
 refine T.ind (M := fun t => Fm vars t → t.dp ≤ 1000 → ∀ b k, -100000 ≤ k → k ≤ 1000 → Falls t b k) ?_ t
 intro op n pl l ih h hd b k hk1 hk2
 have hw : w64i (k - 1) = k - 1 := IntWalk.i64_in _ ⟨by omega, by omega⟩
 have hpos := T.fsize_pos (T.mk op n pl l)
 have hdp := T.dp_pos (T.mk op n pl l)
 unfold Falls
 rw [T.turn_mk, hw]
 by_cases hk0 : k - 1 < 0
 ·rw [if_pos hk0]
  exact ⟨fun h => by omega, fun _ => ⟨hk0, by simp only; omega⟩⟩
 rw [if_neg hk0]
 cases hl : (T.mk op n pl l).lit
 ·obtain ⟨hp, hn, hk, hs⟩ := h.shape hl
  rw [if_neg (by decide), T.turnR_mk, if_neg (by rw [hl]; decide), T.fsize_mk, if_neg (by rw [hl]; decide)]
  rcases hs with ⟨x, rfl, ho⟩ | ⟨x, y, rfl, ho⟩
  ·have hdx : x.dp + 1 ≤ (T.mk op n pl [x]).dp := by rw [T.dp_mk]; simp; omega
   have hx := ih x (by simp) (hk x (by simp)) (by omega)
   have px := T.fsize_pos x
   have dx := T.dp_pos x
   generalize (T.mk op n pl [x]).dp = D at *
   rcases ho with rfl | rfl | rfl | rfl
   ·have hw2 : w64i k = k := IntWalk.i64_in _ ⟨by omega, by omega⟩
    obtain ⟨h1, h2⟩ := hx (!b) k (by omega) (by omega)
    simp [turnOp, sizeStep, hw2]
    refine ⟨h1, fun hlt => ⟨(h2 hlt).1, ?_⟩⟩
    have := (h2 hlt).2
    omega
   ·obtain ⟨h1, h2⟩ := hx b (k - 1) (by omega) (by omega)
    simp [turnOp, sizeStep]
    refine ⟨fun hle => ?_, fun hlt => ?_⟩
    ·rw [h1 (by omega)]; simp; omega
    ·have := h2 (by omega); omega
   all_goals
    have hw2 : w64i (k - 1 - 1) = k - 2 := by rw [show k - 1 - 1 = k - 2 by omega]; exact IntWalk.i64_in _ ⟨by omega, by omega⟩
    obtain ⟨h1, h2⟩ := hx b (k - 2) (by omega) (by omega)
    simp [turnOp, sizeStep, hw2]
    refine ⟨fun hle => ?_, fun hlt => ?_⟩
    ·rw [h1 (by omega)]; simp; omega
    ·have := h2 (by omega); omega
  ·have hdx : x.dp + 1 ≤ (T.mk op n pl [x, y]).dp ∧ y.dp + 1 ≤ (T.mk op n pl [x, y]).dp := by rw [T.dp_mk]; simp; omega
   have hx := ih x (by simp) (hk x (by simp)) (by omega)
   have hy := ih y (by simp) (hk y (by simp)) (by omega)
   have px := T.fsize_pos x
   have py := T.fsize_pos y
   have dx := T.dp_pos x
   have dy := T.dp_pos y
   generalize (T.mk op n pl [x, y]).dp = D at *
   have pair : ∀ b1 b2 : Bool, (1 + x.fsize + y.fsize ≤ k → (x.turn b1 (k - 1)).1 = x.turnR b1 ∧ (y.turn b2 (x.turn b1 (k - 1)).2).1 = y.turnR b2 ∧ (y.turn b2 (x.turn b1 (k - 1)).2).2 = k - (1 + x.fsize + y.fsize)) ∧
     (k < 1 + x.fsize + y.fsize → (y.turn b2 (x.turn b1 (k - 1)).2).2 < 0 ∧ min (k - 1) (-6 * D) ≤ (y.turn b2 (x.turn b1 (k - 1)).2).2) := fun b1 b2 => by
    obtain ⟨h1, h2⟩ := hx b1 (k - 1) (by omega) (by omega)
    by_cases hle : x.fsize ≤ k - 1
    ·have e1 : (x.turn b1 (k - 1)).1 = x.turnR b1 := by rw [h1 hle]
     have e2 : (x.turn b1 (k - 1)).2 = k - 1 - x.fsize := by rw [h1 hle]
     obtain ⟨g1, g2⟩ := hy b2 (k - 1 - x.fsize) (by omega) (by omega)
     rw [e1, e2]
     refine ⟨fun hq => ⟨rfl, ?_, ?_⟩, fun hq => ?_⟩
     ·rw [g1 (by omega)]
     ·rw [g1 (by omega)]; simp only; omega
     ·have := g2 (by omega)
      omega
    ·have := h2 (by omega)
     obtain ⟨g1, g2⟩ := hy b2 (x.turn b1 (k - 1)).2 (by omega) (by omega)
     have := g2 (by omega)
     refine ⟨fun hq => by omega, fun hq => by omega⟩
   rcases ho with rfl | rfl | rfl | rfl | rfl | rfl
   ·obtain ⟨h1, h2⟩ := pair b b
    simp [turnOp, both2, sizeStep]
    exact ⟨fun hq => ⟨⟨(h1 hq).1, (h1 hq).2.1⟩, (h1 hq).2.2⟩, h2⟩
   ·obtain ⟨h1, h2⟩ := pair b b
    simp [turnOp, both2, sizeStep]
    exact ⟨fun hq => ⟨⟨(h1 hq).1, (h1 hq).2.1⟩, (h1 hq).2.2⟩, h2⟩
   ·obtain ⟨h1, h2⟩ := pair (!b) b
    simp [turnOp, both2, sizeStep]
    exact ⟨fun hq => ⟨⟨(h1 hq).1, (h1 hq).2.1⟩, (h1 hq).2.2⟩, h2⟩
   ·have hw2 : w64i (k - 1 - 2) = k - 3 := by rw [show k - 1 - 2 = k - 3 by omega]; exact IntWalk.i64_in _ ⟨by omega, by omega⟩
    simp only [turnOp, sizeStep, List.map_cons, List.map_nil, List.getD_cons_zero, List.getD_cons_succ, hw2, show ¬ ((19 : Int) = 15) by decide, show ¬ ((19 : Int) = 18) by decide, show ¬ ((19 : Int) = 17) by decide, show ¬ ((19 : Int) = 16) by decide, show ¬ ((19 : Int) = 20) by decide, show ¬ ((19 : Int) = 21 ∨ (19 : Int) = 22) by decide, if_false, if_true]
    have next : ∀ (t : T), (∀ b k, -100000 ≤ k → k ≤ 1000 → Falls t b k) → t.dp + 1 ≤ D → 1 ≤ t.fsize → 1 ≤ t.dp → ∀ (b : Bool) (v : Int), -7000 ≤ v → v ≤ 1000 →
      (t.fsize ≤ v → (t.turn b v).1 = t.turnR b ∧ (t.turn b v).2 = v - t.fsize) ∧ (v < t.fsize → (t.turn b v).2 < 0 ∧ min (v - 1) (-6 * (D - 1)) ≤ (t.turn b v).2) := fun t ht hd' hf hd1 b v hv1 hv2 => by
     obtain ⟨h1, h2⟩ := ht b v (by omega) (by omega)
     exact ⟨fun hq => by rw [h1 hq]; exact ⟨rfl, rfl⟩, fun hq => ⟨(h2 hq).1, by have := (h2 hq).2; omega⟩⟩
    have n1 := next x hx hdx.1 px dx false (k - 3) (by omega) (by omega)
    generalize x.turn false (k - 3) = A at *
    have n2 := next y hy hdx.2 py dy b A.2 (by omega) (by omega)
    generalize y.turn b A.2 = B at *
    have n3 := next x hx hdx.1 px dx true B.2 (by omega) (by omega)
    generalize x.turn true B.2 = C at *
    have n4 := next y hy hdx.2 py dy (!b) C.2 (by omega) (by omega)
    generalize y.turn (!b) C.2 = E at *
    refine ⟨fun hq => ?_, fun hq => ⟨by omega, by omega⟩⟩
    have m1 := n1.1 (by omega)
    have m2 := n2.1 (by omega)
    have m3 := n3.1 (by omega)
    have m4 := n4.1 (by omega)
    rw [m1.1, m2.1, m3.1, m4.1, m4.2, m3.2, m2.2, m1.2]
    congr 1
    omega
   ·obtain ⟨h1, h2⟩ := pair b b
    simp [turnOp, both2, sizeStep]
    exact ⟨fun hq => ⟨⟨(h1 hq).1, (h1 hq).2.1⟩, (h1 hq).2.2⟩, h2⟩
   ·obtain ⟨h1, h2⟩ := pair b b
    simp [turnOp, both2, sizeStep]
    exact ⟨fun hq => ⟨⟨(h1 hq).1, (h1 hq).2.1⟩, (h1 hq).2.2⟩, h2⟩
 ·rw [if_pos rfl, T.turnR_mk, if_pos hl, T.fsize_mk, if_pos hl]
  exact ⟨fun _ => rfl, fun h => by omega⟩
theorem foldl_max_le {c : Int} : ∀ {l : List Int} {a : Int}, (∀ x ∈ l, x ≤ c) → a ≤ c → l.foldl max a ≤ c
 | [], _, _, h => h
 | x :: l, a, hl, h => by
  simp only [List.foldl_cons]
  refine foldl_max_le (fun y hy => hl y (by simp [hy])) ?_
  have := hl x (by simp)
  omega
theorem foldl_pick {α : Type} {g : α → Int} {c : Int} : ∀ {l : List α} {a : Int}, (∀ x ∈ l, g x ≤ c) → a ≤ c →
  a ≤ l.foldl (fun d t => if d < g t then g t else d) a ∧ l.foldl (fun d t => if d < g t then g t else d) a ≤ c ∧ ∀ x ∈ l, g x ≤ l.foldl (fun d t => if d < g t then g t else d) a
 | [], a, _, h => ⟨Int.le_refl _, h, by simp⟩
 | x :: l, a, hl, h => by
  simp only [List.foldl_cons]
  have hx := hl x (by simp)
  have q : a ≤ (if a < g x then g x else a) ∧ g x ≤ (if a < g x then g x else a) ∧ (if a < g x then g x else a) ≤ c := by split <;> omega
  generalize (if a < g x then g x else a) = y at q ⊢
  obtain ⟨h1, h2, h3⟩ := foldl_pick (g := g) (c := c) (l := l) (a := y) (fun y hy => hl y (by simp [hy])) q.2.2
  refine ⟨by omega, h2, fun z hz => ?_⟩
  rcases List.mem_cons.1 hz with rfl | hz
  ·omega
  ·exact h3 z hz
theorem deep_dp : ∀ t : T, ∀ m : Int, 1 ≤ m → m ≤ 1000 → 1 ≤ t.deep m ∧ t.deep m ≤ m ∧ min t.dp m ≤ t.deep m := by
 intro t
 refine T.ind (M := fun t => ∀ m : Int, 1 ≤ m → m ≤ 1000 → 1 ≤ t.deep m ∧ t.deep m ≤ m ∧ min t.dp m ≤ t.deep m) ?_ t
 intro op n pl l ih m h1 h2
 rw [T.deep_mk]
 split
 ·rename_i hm
  have hw : w64 (m - 1) = m - 1 := IntWalk.i64_in _ ⟨by omega, by omega⟩
  rw [hw]
  have kid := fun t ht => ih t ht (m - 1) (by omega) (by omega)
  have hg : ∀ t ∈ l, w64 (1 + t.deep (m - 1)) = 1 + t.deep (m - 1) := fun t ht => by
   have := kid t ht
   exact IntWalk.i64_in _ ⟨by omega, by omega⟩
  obtain ⟨k1, k2, k3⟩ := foldl_pick (g := fun t : T => w64 (1 + t.deep (m - 1))) (c := m) (l := l) (a := 1) (fun t ht => by
   have := kid t ht
   simp only [hg t ht]; omega) h1
  refine ⟨k1, k2, ?_⟩
  generalize l.foldl (fun d t => if d < w64 (1 + t.deep (m - 1)) then w64 (1 + t.deep (m - 1)) else d) 1 = D at *
  by_cases hD : m ≤ D
  ·omega
  ·have : (l.map T.dp).foldl max 0 ≤ D - 1 := foldl_max_le (fun x hx => by
    obtain ⟨t, ht, rfl⟩ := List.mem_map.1 hx
    have a1 := k3 t ht
    have a2 := kid t ht
    simp only [hg t ht] at a1
    omega) (by omega)
   rw [T.dp_mk]
   omega
 ·have : m = 1 := by omega
  subst this
  omega
theorem few_dp {t : T} (h : t.few = true) : t.dp ≤ 44 := by
 simp [T.few] at h
 have := deep_dp t 45 (by omega) (by omega)
 omega
theorem made_eq {vars : Int} {t : T} (h : Fm vars t) (hd : t.dp ≤ 1000) (b : Bool) : t.made b = if t.fsize ≤ 24 then (t.turnR b, 0) else (T.none0, 9) := by
 obtain ⟨h1, h2⟩ := turn_falls t h hd b 24 (by omega) (by omega)
 unfold T.made
 by_cases hf : t.fsize ≤ 24
 ·rw [if_pos hf, h1 hf, if_neg (by simp only; omega)]
 ·rw [if_neg hf, if_pos (h2 (by omega)).1]
def irSizeR (lit self : Nat) : FnIR := ⟨25,[.t 2],(.seq (.ops [⟨some 1,.box (.t 0),none⟩,⟨some 2,.mov (.c (.v (.int .i64 0))),none⟩]) (.seq (.ops [⟨some 6,.load 4 true (.t 1),none⟩,⟨some 7,.call lit [(.t 6)],none⟩,⟨some 3,.mov (.t 7),none⟩]) (.seq (.seq (.ops [⟨some 8,.mov (.t 3),none⟩]) (.cond (.t 8) (.seq (.ops [⟨some 2,.mov (.c (.v (.int .i64 1))),none⟩]) .ret) .skip)) (.seq (.ops [⟨some 4,.mov (.c (.v (.int .i64 1))),none⟩]) (.seq (.seq (.ops [⟨some 5,.mov (.c (.v (.int .i64 0))),none⟩]) (.block 0 (.loop (.seq (.seq (.ops [⟨some 9,.mov (.t 5),none⟩,⟨some 10,.faddr 3 (.t 1),none⟩,⟨some 11,.load 1 false (.t 10),none⟩,⟨some 12,.len false (.t 11),none⟩,⟨some 13,.bin .lss false (.t 9) (.t 12),none⟩]) (.cond (.t 13) .skip (.exit 0))) (.seq (.block 1 (.ops [⟨some 16,.mov (.t 4),none⟩,⟨some 17,.faddr 3 (.t 1),none⟩,⟨some 18,.load 1 false (.t 17),none⟩,⟨some 19,.mov (.t 5),none⟩,⟨some 20,.iaddr 4 (.t 18) (.t 19),none⟩,⟨some 21,.load 4 true (.t 20),none⟩,⟨some 22,.call self [(.t 21)],none⟩,⟨some 23,.bin .add false (.t 16) (.t 22),none⟩,⟨some 4,.mov (.t 23),none⟩])) (.ops [⟨some 14,.mov (.t 5),none⟩,⟨some 15,.bin .add false (.t 14) (.c (.v (.int .i64 1))),none⟩,⟨some 5,.mov (.t 15),none⟩])))))) (.seq (.ops [⟨some 24,.mov (.t 4),none⟩,⟨some 2,.mov (.t 24),none⟩]) .ret))))))⟩
def T.psize : T → Int := T.fold fun op n pl l rs => if (T.mk op n pl l).lit = true then 1 else rs.foldl (fun n r => w64 (n + r)) 1
theorem T.psize_mk {op n pl l} : (T.mk op n pl l).psize = if (T.mk op n pl l).lit = true then 1 else l.foldl (fun n t => w64 (n + t.psize)) 1 := by
 rw [T.psize, T.fold_mk, List.foldl_map]
theorem sizeR_gen {P : Program} {f lit : Nat} (ir : compF P f = some (irSizeR lit f)) (ilit : ∀ t : T, t.Ok → PC P lit [t.toL] (boolL t.lit)) : ∀ t : T, t.Ok → PC P f [t.toL] (intL t.psize) := by
 intro t
 refine T.ind (M := fun t => t.Ok → PC P f [t.toL] (intL t.psize)) ?_ t
 intro op n pl l ih hok
 have hlit := ilit _ hok
 rw [T.psize_mk]
 refine pc_of_call (callAt_enter ir (by simp [irSizeR]) ?_)
 simp [irSizeR, toL_mk]
 refine callT_plain hlit rfl (by simp [toL_mk]) ?_
 cases hl : (T.mk op n pl l).lit
 ·simp
  have hlen := hok.len
  refine lwp_loop (fun i : Nat => [(1, .ptr 0 0), (4, intL ((l.take i).foldl (fun n t => w64 (n + t.psize)) 1)), (5, intL i)]) (fun _ => [some [intL op, intL n, intL pl, .sl 4 false (l.map T.toL)]]) (fun i => l.length - i) (fun i => i ≤ l.length) 0 (by omega) ⟨[0], ?_⟩ ?_
  ·simp
  ·intro i hi
   simp
   refine ⟨fun hlt => ?_, fun hge => ?_⟩
   ·have hnw : IntKind.i64.wrap ((i : Int) + 1) = ((i + 1 : Nat) : Int) := by rw [wrap_id (by omega) (by omega)]; rfl
    simp [hlt]
    refine callT_plain (ih l[i] (List.getElem_mem hlt) (hok.kid _ (List.getElem_mem hlt))) rfl (by simp) ?_
    simp [hnw]
    refine ⟨i + 1, by omega, by show l.length - (i + 1) < l.length - i; omega, [0], ?_⟩
    have e : (l.take (i + 1)).foldl (fun n t => w64 (n + t.psize)) 1 = w64 ((l.take i).foldl (fun n t => w64 (n + t.psize)) 1 + l[i].psize) := by
     rw [List.take_succ_eq_append_getElem hlt, List.foldl_append]; rfl
    simp [e]
   ·have : i = l.length := by omega
    subst this
    simp
 ·simp
end Lg

