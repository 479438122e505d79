/- The program's size of a formula, and whether it is right. -/
import Derived.Test.YtjoffkghcjfbeaaLibNnfLaw
namespace Lg
open Go
def irCont (idx : Nat) : FnIR := ⟨9,[.t 4],(.seq (.ops [⟨some 4,.mov (.c (.v (.bool false))),none⟩]) (.seq (.ops [⟨some 5,.mov (.t 0),none⟩,⟨some 6,.mov (.t 1),none⟩,⟨some 7,.call idx [(.t 5),(.t 6)],none⟩,⟨some 8,.bin .geq false (.t 7) (.c (.v (.int .i64 0))),none⟩,⟨some 4,.mov (.t 8),none⟩]) .ret))⟩
def irIdxF : FnIR := ⟨19,[.t 4],(.seq (.ops [⟨some 4,.mov (.c (.v (.int .i64 0))),none⟩]) (.seq (.seq (.ops [⟨some 6,.mov (.t 0),none⟩,⟨some 7,.len false (.t 6),none⟩,⟨some 8,.mov (.c (.v (.int .i64 0))),none⟩]) (.block 0 (.loop (.seq (.ops [⟨some 9,.bin .lss false (.t 8) (.t 7),none⟩]) (.seq (.cond (.t 9) .skip (.exit 0)) (.seq (.block 1 (.seq (.ops [⟨some 10,.mov (.t 8),none⟩,⟨some 5,.mov (.t 10),none⟩]) (.seq (.ops [⟨some 11,.mov (.t 1),none⟩,⟨some 12,.mov (.t 0),none⟩,⟨some 13,.mov (.t 5),none⟩,⟨some 14,.iaddr 4 (.t 12) (.t 13),none⟩,⟨some 15,.load 4 true (.t 14),none⟩,⟨some 16,.calld (.t 11) [(.t 15)],none⟩]) (.cond (.t 16) (.seq (.ops [⟨some 17,.mov (.t 5),none⟩,⟨some 4,.mov (.t 17),none⟩]) .ret) .skip)))) (.ops [⟨some 18,.bin .add false (.t 8) (.c (.v (.int .i64 1))),none⟩,⟨some 8,.mov (.t 18),none⟩]))))))) (.seq (.ops [⟨some 4,.mov (.c (.v (.int .i64 (-1)))),none⟩]) .ret)))⟩
def idxF (p : T → Bool) : List T → Int → Int
 | [], _ => -1
 | t :: l, i => if p t = true then i else idxF p l (i + 1)
theorem idxF_any {p : T → Bool} : ∀ {l : List T} {i : Int}, 0 ≤ i → (0 ≤ idxF p l i ↔ l.any p = true)
 | [], i, _ => by simp [idxF]
 | t :: l, i, h => by
  rw [idxF]
  by_cases hp : p t = true
  ·simp [hp, h]
  ·rw [if_neg hp, idxF_any (by omega)]
   simp [hp]
theorem idxF_gen {P : Program} {f q : Nat} (ir : compF P f = some irIdxF) {p : T → Bool} {l : List T} (hl : l.length ≤ 2932031007403) (hq : ∀ t ∈ l, PC P q [t.toL] (boolL (p t))) : PC P f [.sl 4 false (l.map T.toL), .fn (.func q) [] []] (intL (idxF p l 0)) := by
 refine pc_of_call (callAt_enter ir (by simp [irIdxF]) ?_)
 simp [irIdxF]
 refine lwp_loop (fun i : Nat => [(0, .sl 4 false (l.map T.toL)), (1, .fn (.func q) [] []), (7, intL l.length), (8, intL i)]) (fun _ => []) (fun i => l.length - i) (fun i => i ≤ l.length ∧ idxF p l 0 = idxF p (l.drop i) i) 0 ⟨by omega, by simp⟩ ⟨[], ?_⟩ ?_
 ·simp
 ·rintro i ⟨hi, he⟩
  simp
  refine ⟨fun hlt => ?_, fun hge => ?_⟩
  ·have hnw : IntKind.i64.wrap ((i : Int) + 1) = ((i + 1 : Nat) : Int) := by rw [wrap_id (by omega) (by omega)]; rfl
   rw [List.drop_eq_getElem_cons hlt, idxF] at he
   simp [hlt]
   refine callT_plain (hq l[i] (List.getElem_mem hlt)) rfl (by simp) ?_
   cases hp : p l[i]
   ·rw [if_neg (by rw [hp]; decide)] at he
    simp [hnw]
    refine ⟨i + 1, ⟨by omega, ?_⟩, by show l.length - (i + 1) < l.length - i; omega, [], ?_⟩
    ·rw [he]; rfl
    ·simp
   ·rw [if_pos hp] at he
    simp [he]
  ·have : i = l.length := by omega
   subst this
   rw [List.drop_length, idxF] at he
   simp [he]
theorem cont_gen {P : Program} {f idx q : Nat} (ir : compF P f = some (irCont idx)) (ii : compF P idx = some irIdxF) {p : T → Bool} {l : List T} (hl : l.length ≤ 2932031007403) (hq : ∀ t ∈ l, PC P q [t.toL] (boolL (p t))) : PC P f [.sl 4 false (l.map T.toL), .fn (.func q) [] []] (boolL (l.any p)) := by
 refine pc_of_call (callAt_enter ir (by simp [irCont]) ?_)
 simp [irCont]
 refine callT_plain (idxF_gen ii hl hq) rfl (by simp [reso, mapO]) ?_
 have := idxF_any (p := p) (l := l) (i := 0) (by omega)
 simp
 rw [Bool.eq_iff_iff, decide_eq_true_eq, this]
def rightOp (op : Int) : Bool := decide (op = 16 ∨ op = 17 ∨ op = 20 ∨ op = 23 ∨ op = 24)
def T.rightB : T → Bool := T.fold fun op n pl l rs => (T.mk op n pl l).lit || (rightOp op && rs.all id)
theorem T.rightB_mk {op n pl l} : (T.mk op n pl l).rightB = ((T.mk op n pl l).lit || (rightOp op && l.all T.rightB)) := by
 rw [T.rightB, T.fold_mk, List.all_map]; rfl
theorem Fm.lit_node {vars op n pl : Int} {l : List T} (h15 : 15 ≤ op) (hl : ∀ t ∈ l, Fm vars t) : (T.mk op n pl l).lit = (decide (op ≤ 19) && l.all T.lit) := by
 have := Fm.type_node (n := n) (pl := pl) h15 hl
 by_cases hc : op ≤ 19 ∧ ∀ t ∈ l, t.lit = true
 ·rw [if_pos hc] at this
  have h2 : l.all T.lit = true := List.all_eq_true.2 hc.2
  simp [T.lit, this, hc.1]
  intro x hx
  have := hc.2 x hx
  simpa [T.lit] using this
 ·rw [if_neg hc] at this
  have : (T.mk op n pl l).lit = false := by simp [T.lit, this]
  rw [this]
  by_cases h19 : op ≤ 19
  ·have : l.all T.lit = false := by
    cases h : l.all T.lit with
    | false => rfl
    | true => exact absurd ⟨h19, List.all_eq_true.1 h⟩ hc
   rw [this]; simp
  ·simp [h19]
theorem node_facts {vars o pl : Int} {ks : List T} (ho : o = 16 ∨ o = 17 ∨ o = 20 ∨ o = 23 ∨ o = 24) (hk : ∀ t ∈ ks, Fm vars t) (hr : ∀ t ∈ ks, t.rightB = true) (hnl : (decide (o ≤ 19) && ks.all T.lit) = false) :
  (T.mk o 0 pl ks).lit = false ∧ (T.mk o 0 pl ks).rightB = true ∧ (T.mk o 0 pl ks).fsize = sizeStep o ((ks.map T.fsize).getD 0 1) ((ks.map T.fsize).getD 1 1) ∧ (T.mk o 0 pl ks).dp = 1 + (ks.map T.dp).foldl max 0 := by
 have hl : (T.mk o 0 pl ks).lit = false := by rw [Fm.lit_node (vars := vars) (by omega) hk]; exact hnl
 refine ⟨hl, ?_, by rw [T.fsize_mk, if_neg (by rw [hl]; decide)], T.dp_mk⟩
 rw [T.rightB_mk, hl, show rightOp o = true from decide_eq_true ho, List.all_eq_true.2 hr]
 rfl
theorem leaf_facts {op pl : Int} (ho : op = 13 ∨ op = 14) : (T.mk op 0 pl []).lit = true ∧ (T.mk op 0 pl []).rightB = true ∧ (T.mk op 0 pl []).fsize = 1 ∧ (T.mk op 0 pl []).dp = 1 := by
 have hty : (T.mk op 0 pl []).type = (2, 0, 0) := by
  rw [T.type_mk]
  rcases ho with rfl | rfl <;> simp [typeStep]
 have hl : (T.mk op 0 pl []).lit = true := by simp [T.lit, hty]
 exact ⟨hl, by rw [T.rightB_mk, hl]; rfl, by rw [T.fsize_mk, if_pos hl], by rw [T.dp_mk]; rfl⟩
theorem turnR_right {vars : Int} : ∀ t : T, Fm vars t → ∀ b, (t.turnR b).lit = t.lit ∧ (t.turnR b).rightB = true ∧ (t.turnR b).fsize = t.fsize ∧ (t.turnR b).dp ≤ 2 * t.dp := by
 intro t
 refine T.ind (M := fun t => Fm vars t → ∀ b, (t.turnR b).lit = t.lit ∧ (t.turnR b).rightB = true ∧ (t.turnR b).fsize = t.fsize ∧ (t.turnR b).dp ≤ 2 * t.dp) ?_ t
 intro op n pl l ih h b
 cases hl : (T.mk op n pl l).lit
 ·obtain ⟨hp, hn, hk, hs⟩ := h.shape hl
  have lq := hl
  rw [Fm.lit_node (vars := vars) (by rcases hs with ⟨x, rfl, ho⟩ | ⟨x, y, rfl, ho⟩ <;> omega) hk] at lq
  rw [T.turnR_mk, if_neg (by rw [hl]; decide), T.fsize_mk, if_neg (by rw [hl]; decide)]
  rcases hs with ⟨x, rfl, ho⟩ | ⟨x, y, rfl, ho⟩
  ·have hx := ih x (by simp) (hk x (by simp))
   have fx := turnR_fm x (hk x (by simp))
   have hdx : x.dp + 1 ≤ (T.mk op n pl [x]).dp := by rw [T.dp_mk]; simp; omega
   have dx := T.dp_pos x
   generalize (T.mk op n pl [x]).dp = D at *
   have leafy : ∀ (o o' : Int) (b : Bool), (o = 23 ∨ o = 24) → (o' = 13 ∨ o' = 14) → (T.mk o 0 pl [.mk o' 0 pl [], x.turnR b]).lit = false ∧ (T.mk o 0 pl [.mk o' 0 pl [], x.turnR b]).rightB = true ∧ (T.mk o 0 pl [.mk o' 0 pl [], x.turnR b]).fsize = 2 + x.fsize ∧ (T.mk o 0 pl [.mk o' 0 pl [], x.turnR b]).dp ≤ 2 * D := fun o o' b ho ho' => by
    obtain ⟨l1, l2, l3, l4⟩ := leaf_facts (pl := pl) ho'
    obtain ⟨x1, x2, x3, x4⟩ := hx b
    obtain ⟨f1, f2, f3, f4⟩ := node_facts (vars := vars) (o := o) (pl := pl) (ks := [.mk o' 0 pl [], x.turnR b]) (by omega)
     (fun t ht => by simp at ht; rcases ht with rfl | rfl; exact leaf_fm ho' hp; exact fx b) (fun t ht => by simp at ht; rcases ht with rfl | rfl; exact l2; exact x2)
     (by rw [decide_eq_false (by omega)]; rfl)
    refine ⟨f1, f2, ?_, ?_⟩
    ·rw [f3]
     rcases ho with rfl | rfl <;> simp [sizeStep, l3, x3] <;> omega
    ·rw [f4]
     simp [l4]
     omega
   rcases ho with rfl | rfl | rfl | rfl
   ·have lx : x.lit = false := by simpa using lq
    obtain ⟨x1, x2, x3, x4⟩ := hx (!b)
    simp [turnOp, sizeStep, x1, lx, x2, x3]
    omega
   ·obtain ⟨x1, x2, x3, x4⟩ := hx b
    obtain ⟨f1, f2, f3, f4⟩ := node_facts (vars := vars) (o := 20) (pl := pl) (ks := [x.turnR b]) (by omega)
     (fun t ht => by simp at ht; subst ht; exact fx b) (fun t ht => by simp at ht; subst ht; exact x2) rfl
    simp [turnOp, f1, f2, f3, f4, sizeStep, x3]
    omega
   ·have := leafy (if b = true then 24 else 23) (if b = true then 14 else 13) b (by cases b <;> simp) (by cases b <;> simp)
    simpa [turnOp, sizeStep] using this
   ·have := leafy (if b = true then 23 else 24) (if b = true then 13 else 14) b (by cases b <;> simp) (by cases b <;> simp)
    simpa [turnOp, sizeStep] using this
  ·have hx := ih x (by simp) (hk x (by simp))
   have hy := ih y (by simp) (hk y (by simp))
   have fx := turnR_fm x (hk x (by simp))
   have fy := turnR_fm y (hk y (by simp))
   have hdx : x.dp + 1 ≤ (T.mk op n pl [x, y]).dp ∧ y.dp + 1 ≤ (T.mk op n pl [x, y]).dp := by rw [T.dp_mk]; simp; omega
   have dx := T.dp_pos x
   have dy := T.dp_pos y
   generalize (T.mk op n pl [x, y]).dp = D at *
   have pair : ∀ (o : Int) (b1 b2 : Bool), (o = 16 ∨ o = 17 ∨ o = 23 ∨ o = 24) → (decide (o ≤ 19) && (x.lit && y.lit)) = false → (T.mk o 0 pl [x.turnR b1, y.turnR b2]).lit = false ∧ (T.mk o 0 pl [x.turnR b1, y.turnR b2]).rightB = true ∧
     (T.mk o 0 pl [x.turnR b1, y.turnR b2]).fsize = 1 + x.fsize + y.fsize ∧ (T.mk o 0 pl [x.turnR b1, y.turnR b2]).dp ≤ 2 * D - 1 := fun o b1 b2 ho hlo => by
    obtain ⟨x1, x2, x3, x4⟩ := hx b1
    obtain ⟨y1, y2, y3, y4⟩ := hy b2
    obtain ⟨f1, f2, f3, f4⟩ := node_facts (vars := vars) (o := o) (pl := pl) (ks := [x.turnR b1, y.turnR b2]) (by omega)
     (fun t ht => by simp at ht; rcases ht with rfl | rfl; exact fx b1; exact fy b2) (fun t ht => by simp at ht; rcases ht with rfl | rfl; exact x2; exact y2)
     (by simpa [x1, y1] using hlo)
    refine ⟨f1, f2, ?_, ?_⟩
    ·rw [f3]
     rcases ho with rfl | rfl | rfl | rfl <;> simp [sizeStep, x3, y3]
    ·rw [f4]
     simp
     omega
   rcases ho with rfl | rfl | rfl | rfl | rfl | rfl
   ·obtain ⟨f1, f2, f3, f4⟩ := pair (if b = true then 17 else 16) b b (by cases b <;> simp) (by cases b <;> simpa using lq)
    simp [turnOp, both2, sizeStep, f1, f2, f3]
    omega
   ·obtain ⟨f1, f2, f3, f4⟩ := pair (if b = true then 16 else 17) b b (by cases b <;> simp) (by cases b <;> simpa using lq)
    simp [turnOp, both2, sizeStep, f1, f2, f3]
    omega
   ·obtain ⟨f1, f2, f3, f4⟩ := pair (if b = true then 16 else 17) (!b) b (by cases b <;> simp) (by cases b <;> simpa using lq)
    simp [turnOp, both2, sizeStep, f1, f2, f3]
    omega
   ·have lxy : (decide ((16 : Int) ≤ 19) && (x.lit && y.lit)) = false := by simpa using lq
    obtain ⟨f1, f2, f3, f4⟩ := pair 16 false b (by omega) lxy
    obtain ⟨g1, g2, g3, g4⟩ := pair 16 true (!b) (by omega) lxy
    have two : ∀ (b1 b2 : Bool), Fm vars (.mk 16 0 pl [x.turnR b1, y.turnR b2]) := fun b1 b2 =>
     Fm.nodeP hp (by omega) (by omega) (by simp [wants]) fun t ht => by
      simp at ht
      rcases ht with rfl | rfl
      ·exact fx b1
      ·exact fy b2
    obtain ⟨k1, k2, k3, k4⟩ := node_facts (vars := vars) (o := 17) (pl := pl) (ks := [.mk 16 0 pl [x.turnR false, y.turnR b], .mk 16 0 pl [x.turnR true, y.turnR (!b)]]) (by omega)
     (fun t ht => by simp at ht; rcases ht with rfl | rfl; exact two _ _; exact two _ _) (fun t ht => by simp at ht; rcases ht with rfl | rfl; exact f2; exact g2)
     (by simp [f1])
    simp [turnOp, sizeStep]
    refine ⟨k1, k2, ?_, ?_⟩
    ·rw [k3]; simp [sizeStep, f3, g3]; omega
    ·rw [k4]; simp; omega
   ·obtain ⟨f1, f2, f3, f4⟩ := pair (if b = true then 24 else 23) b b (by cases b <;> simp) (by cases b <;> rfl)
    simp [turnOp, both2, sizeStep, f1, f2, f3]
    omega
   ·obtain ⟨f1, f2, f3, f4⟩ := pair (if b = true then 23 else 24) b b (by cases b <;> simp) (by cases b <;> rfl)
    simp [turnOp, both2, sizeStep, f1, f2, f3]
    omega
 ·rw [T.turnR_mk, if_pos hl]
  have hd := T.dp_pos (T.mk op n pl l)
  cases b
  ·simp only [Bool.false_eq_true, if_false]
   exact ⟨hl, by rw [T.rightB_mk, hl]; rfl, trivial, by omega⟩
  ·have hp : (Lit.int .i64 pl).wf = true := by cases h.ok with | mk _ _ h3 _ _ => exact h3
   simp only [if_true]
   have hl2 : (T.mk 15 0 pl [T.mk op n pl l]).lit = true := by
    rw [Fm.lit_node (vars := vars) (by omega) fun t ht => by simp at ht; subst ht; exact h]
    simp [hl]
   refine ⟨hl2, by rw [T.rightB_mk, hl2]; rfl, by rw [T.fsize_mk, if_pos hl2, T.fsize_mk, if_pos hl], ?_⟩
   rw [T.dp_mk (l := [T.mk op n pl l])]
   simp
   omega
theorem turnR_self {vars : Int} : ∀ t : T, Fm vars t → t.rightB = true → t.turnR false = t ∧ (t.fsize ≤ 1000 → t.psize = t.fsize) := by
 intro t
 refine T.ind (M := fun t => Fm vars t → t.rightB = true → t.turnR false = t ∧ (t.fsize ≤ 1000 → t.psize = t.fsize)) ?_ t
 intro op n pl l ih h hr
 cases hl : (T.mk op n pl l).lit
 ·obtain ⟨hp, hn, hk, hs⟩ := h.shape hl
  rw [T.rightB_mk, hl] at hr
  simp only [Bool.false_or, Bool.and_eq_true] at hr
  obtain ⟨hr1, hr2⟩ := hr
  have hop : op = 16 ∨ op = 17 ∨ op = 20 ∨ op = 23 ∨ op = 24 := of_decide_eq_true hr1
  have hkr := List.all_eq_true.1 hr2
  subst hn
  rw [T.turnR_mk, if_neg (by rw [hl]; decide), T.fsize_mk, if_neg (by rw [hl]; decide), T.psize_mk, if_neg (by rw [hl]; decide)]
  rcases hs with ⟨x, rfl, ho⟩ | ⟨x, y, rfl, ho⟩
  ·obtain rfl : op = 20 := by omega
   obtain ⟨e1, e2⟩ := ih x (by simp) (hk x (by simp)) (hkr x (by simp))
   have px := T.fsize_pos x
   simp [turnOp, sizeStep, e1]
   intro hle
   rw [e2 (by omega)]
   exact IntWalk.i64_in _ ⟨by omega, by omega⟩
  ·obtain ⟨e1, e2⟩ := ih x (by simp) (hk x (by simp)) (hkr x (by simp))
   obtain ⟨e3, e4⟩ := ih y (by simp) (hk y (by simp)) (hkr y (by simp))
   have px := T.fsize_pos x
   have py := T.fsize_pos y
   have hop2 : op = 16 ∨ op = 17 ∨ op = 23 ∨ op = 24 := by omega
   have wr : x.fsize + y.fsize ≤ 1000 → w64 (w64 (1 + x.fsize) + y.fsize) = 1 + x.fsize + y.fsize := fun hle => by
    have : w64 (1 + x.fsize) = 1 + x.fsize := IntWalk.i64_in _ ⟨by omega, by omega⟩
    rw [this]
    exact IntWalk.i64_in _ ⟨by omega, by omega⟩
   rcases hop2 with rfl | rfl | rfl | rfl <;>
   ·simp [turnOp, both2, sizeStep, e1, e3]
    intro hle
    rw [e2 (by omega), e4 (by omega)]
    exact wr (by omega)
 ·rw [T.turnR_mk, if_pos hl, T.fsize_mk, if_pos hl, T.psize_mk, if_pos hl]
  exact ⟨by simp, fun _ => rfl⟩
end Lg

