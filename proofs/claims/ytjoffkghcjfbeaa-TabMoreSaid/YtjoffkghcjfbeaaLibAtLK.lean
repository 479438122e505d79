import Derived.Test.YtjoffkghcjfbeaaLibAtSX
import Derived.Test.YtjoffkghcjfbeaaLibSemN
import Derived.Test.YtjoffkghcjfbeaaLibAtQY
import Derived.Test.YtjoffkghcjfbeaaLibAtPT
import Derived.Test.YtjoffkghcjfbeaaLibNnfAC
/- Trees that are the same but for their places; what the ways to split promise. -/
namespace Lg
open Go
def cut3 (r : Ty3) : Int × Int := (r.1, r.2.1)
def stepC (op : Int) (cs : List (Int × Int)) : Int × Int :=
 match cs.find? fun c => decide (c.2 ≠ 0) with
 | some c => (0, c.2)
 | none =>
  if op ≤ 6 ∧ ∀ r ∈ cs, r.1 = 1 then (1, 0)
  else if (7 ≤ op ∧ op ≤ 12 ∧ ∀ r ∈ cs, r.1 = 1) ∨ op = 13 ∨ op = 14 ∨ (15 ≤ op ∧ op ≤ 19 ∧ ∀ r ∈ cs, r.1 = 2) then (2, 0)
  else if 15 ≤ op ∧ ∀ r ∈ cs, r.1 ≠ 1 then (3, 0) else (0, 4)
theorem cut_step (op pl : Int) (rs : List Ty3) : cut3 (typeStep op pl rs) = stepC op (rs.map cut3) := by
 have hm : ∀ (p : Int → Prop), (∀ r ∈ rs.map cut3, p r.1) ↔ ∀ r ∈ rs, p r.1 := fun p => by
  constructor
  ·intro h r hr; exact h (cut3 r) (List.mem_map.2 ⟨r, hr, rfl⟩)
  ·intro h c hc; obtain ⟨r, hr, rfl⟩ := List.mem_map.1 hc; exact h r hr
 unfold typeStep stepC
 rw [List.find?_map]
 have : (fun c : Int × Int => decide (c.2 ≠ 0)) ∘ cut3 = fun r : Ty3 => decide (r.2.1 ≠ 0) := rfl
 rw [this]
 cases rs.find? fun r : Ty3 => decide (r.2.1 ≠ 0) with
 | some r => rfl
 | none =>
  simp only [Option.map_none]
  have e1 : (∀ r ∈ rs.map cut3, r.1 = 1) = (∀ r ∈ rs, r.1 = 1) := propext (hm (· = 1))
  have e2 : (∀ r ∈ rs.map cut3, r.1 = 2) = (∀ r ∈ rs, r.1 = 2) := propext (hm (· = 2))
  have e3 : (∀ r ∈ rs.map cut3, r.1 ≠ 1) = (∀ r ∈ rs, r.1 ≠ 1) := propext (hm (· ≠ 1))
  simp only [e1, e2, e3]
  split
  ·rfl
  ·split
   ·rfl
   ·split <;> rfl
theorem zip_all_map {α : Type} {f : T → α} {g : T → T → Bool} : ∀ {l m : List T}, (l.zip m).all (fun p => g p.1 p.2) = true → l.length = m.length → (∀ t ∈ l, ∀ u, g t u = true → f t = f u) → l.map f = m.map f
 | [], [], _, _, _ => rfl
 | [], _ :: _, _, h, _ => by simp at h
 | _ :: _, [], _, h, _ => by simp at h
 | t :: l, u :: m, h, hl, hf => by
  simp only [List.zip_cons_cons, List.all_cons, Bool.and_eq_true] at h
  rw [List.map_cons, List.map_cons, hf t (by simp) u h.1, zip_all_map h.2 (by simpa using hl) fun t ht => hf t (by simp [ht])]
theorem same_all : ∀ a b : T, a.same b = true → cut3 a.type = cut3 b.type ∧ a.eval = b.eval ∧ ∀ w, a.sat w = b.sat w := by
 intro a
 refine T.ind (M := fun a => ∀ b : T, a.same b = true → cut3 a.type = cut3 b.type ∧ a.eval = b.eval ∧ ∀ w, a.sat w = b.sat w) ?_ a
 intro op n pl l ih b h
 obtain ⟨op', n', pl', l'⟩ := b
 rw [T.same_mk] at h
 rw [Bool.and_eq_true, decide_eq_true_eq] at h
 obtain ⟨⟨ho, hn, hl⟩, hz⟩ := h
 have ho : op = op' := ho
 have hn : n = n' := hn
 subst ho
 subst hn
 have hl : l.length = l'.length := hl
 have hz : (l.zip l').all (fun p => p.1.same p.2) = true := hz
 have m1 : l.map (fun t => cut3 t.type) = l'.map fun t => cut3 t.type := zip_all_map hz hl fun t ht u hu => (ih t ht u hu).1
 have m2 : l.map T.eval = l'.map T.eval := zip_all_map hz hl fun t ht u hu => (ih t ht u hu).2.1
 have m3 : ∀ w, l.map (T.sat w) = l'.map (T.sat w) := fun w => zip_all_map hz hl fun t ht u hu => (ih t ht u hu).2.2 w
 have c1 : cut3 (T.mk op n pl l).type = cut3 (T.mk op n pl' l').type := by
  rw [T.type_mk, T.type_mk, cut_step, cut_step, List.map_map, List.map_map]
  exact congrArg _ m1
 have hlit : (T.mk op n pl l).lit = (T.mk op n pl' l').lit := by
  simp only [cut3, Prod.mk.injEq] at c1
  unfold T.lit; rw [c1.1, c1.2]
 have c2 : (T.mk op n pl l).eval = (T.mk op n pl' l').eval := by
  funext v
  rw [T.eval_mk, T.eval_mk]
  have : ∀ i : Nat, (l[i]?.map fun t => t.eval v) = (l'[i]?.map fun t => t.eval v) := fun i => by
   have := congrArg (fun z : List (List Int → Int) => z[i]?.map (· v)) m2
   simpa [List.getElem?_map, Option.map_map, Function.comp_def] using this
  rw [this 0, this 1]
 refine ⟨c1, c2, fun w => ?_⟩
 cases hl : (T.mk op n pl l).lit
 ·rw [T.sat_mk hl, T.sat_mk (by rw [← hlit]; exact hl), m3]
 ·rw [T.sat_lit hl, T.sat_lit (by rw [← hlit]; exact hl), c2]
theorem same_sat {a b : T} (h : a.same b = true) (w : Word) : a.sat w = b.sat w := (same_all a b h).2.2 w
def le (a b : BV) : Prop := ∀ i, a.getLsbD i = true → b.getLsbD i = true
theorem le.refl (a : BV) : le a a := fun _ h => h
theorem le.trans {a b c : BV} (h : le a b) (k : le b c) : le a c := fun i hi => k i (h i hi)
theorem le_or1 {a b : BV} : le a (a ||| b) := fun i hi => by rw [BitVec.getLsbD_or, hi]; rfl
theorem le_or2 {a b : BV} : le b (a ||| b) := fun i hi => by rw [BitVec.getLsbD_or, hi, Bool.or_true]
theorem or_le {a b c : BV} (h : le a c) (k : le b c) : le (a ||| b) c := fun i hi => by
 rw [BitVec.getLsbD_or, Bool.or_eq_true] at hi
 exact hi.elim (h i) (k i)
theorem one_bit {i : Nat} (h : i < 64) : (oneB i).getLsbD i = true := by rw [oneB_get h]; simp
theorem todo_le {todo : BV} {n : Nd} (h64 : lowB (todo &&& ~~~n.1) < 64) : le todo ((pickN todo n).1 ||| restB todo n) := fun i hi => by
 by_cases h : i < 64
 ·simp only [BitVec.getLsbD_or, BitVec.getLsbD_and, BitVec.getLsbD_not, hi, h, oneB_get h64]
  cases n.1.getLsbD i <;> by_cases e : i = lowB (todo &&& ~~~n.1) <;> simp [e]
 ·have := BitVec.lt_of_getLsbD hi
  omega
def hasP (l : List T) (b : BV) (x : T) : Prop := ∃ j, j < l.length ∧ (l.getD j T.none0).same x = true ∧ b.getLsbD j = true
theorem getD_pre {l l' : List T} (h : l <+: l') {j : Nat} (hj : j < l.length) : l'.getD j T.none0 = l.getD j T.none0 := by
 obtain ⟨t, rfl⟩ := h
 simp [List.getD, List.getElem?_append_left hj]
theorem hasP.mono {l l' : List T} {b b' : BV} {x : T} (h : hasP l b x) (hl : l <+: l') (hb : le b b') : hasP l' b' x := by
 obtain ⟨j, h1, h2, h3⟩ := h
 exact ⟨j, Nat.lt_of_lt_of_le h1 hl.length_le, by rw [getD_pre hl h1]; exact h2, hb _ h3⟩
theorem BitOk.has {S l l1 : List T} {x : T} {j : Nat} (h : BitOk S l x) (hb : bitF l x = (j, l1)) {l2 : List T} (hl : l1 <+: l2) (h64 : j < 64) {b : BV} (hb' : le (oneB j) b) : hasP l2 b x := by
 have h1 := h.lt
 have h2 := h.same
 rw [hb] at h1 h2
 exact hasP.mono ⟨j, h1, h2, one_bit h64⟩ hl hb'
def G (l : List T) (O N : BV) (j : Nat) : Prop :=
 (l.getD j T.none0).lit = true ∨ (∃ x, (l.getD j T.none0).l = [x] ∧ (l.getD j T.none0).op = 20 ∧ hasP l N x) ∨
  ∃ x y, (l.getD j T.none0).l = [x, y] ∧ (((l.getD j T.none0).op = 16 ∧ hasP l O x ∧ hasP l O y) ∨ ((l.getD j T.none0).op = 17 ∧ (hasP l O x ∨ hasP l O y)) ∨
   ((l.getD j T.none0).op = 23 ∧ (hasP l O y ∨ (hasP l O x ∧ N.getLsbD j = true))) ∨ ((l.getD j T.none0).op = 24 ∧ hasP l O y ∧ (hasP l O x ∨ N.getLsbD j = true)))
theorem G.mono {l l' : List T} {O N O' N' : BV} {j : Nat} (h : G l O N j) (hj : j < l.length) (hl : l <+: l') (ho : le O O') (hn : le N N') : G l' O' N' j := by
 unfold G
 rw [getD_pre hl hj]
 rcases h with h | ⟨x, h1, h2, h3⟩ | ⟨x, y, h1, h2⟩
 ·exact .inl h
 ·exact .inr (.inl ⟨x, h1, h2, h3.mono hl hn⟩)
 ·refine .inr (.inr ⟨x, y, h1, ?_⟩)
  rcases h2 with ⟨a, b, c⟩ | ⟨a, b⟩ | ⟨a, b⟩ | ⟨a, b, c⟩
  ·exact .inl ⟨a, b.mono hl ho, c.mono hl ho⟩
  ·exact .inr (.inl ⟨a, b.imp (·.mono hl ho) (·.mono hl ho)⟩)
  ·exact .inr (.inr (.inl ⟨a, b.imp (·.mono hl ho) fun ⟨c, d⟩ => ⟨c.mono hl ho, hn _ d⟩⟩))
  ·exact .inr (.inr (.inr ⟨a, b.mono hl ho, c.imp (·.mono hl ho) (hn _)⟩))
theorem old_lt {S l : List T} {k : Nat} {todo : BV} {n : Nd} {used : List Nat} (h : SplOk S k todo n l used) {j : Nat} (hj : n.1.getLsbD j = true) : j < l.length := h.oldIn j ((h.old j).1 hj)
theorem jx64 {S l l1 : List T} {x : T} {j : Nat} (hS : Parts S) (h : BitOk S l x) (hb : bitF l x = (j, l1)) : j < 64 ∧ j < l1.length ∧ l <+: l1 := by
 have h1 := h.lt
 have h2 := h.tab.len
 have h3 := h.pre
 rw [hb] at h1 h2 h3
 have := hS.len
 exact ⟨by simp only at h1 h2; omega, h1, h3⟩
theorem split_good {S : List T} (hS : Parts S) : ∀ k todo n l out used, SplOk S k todo n l used → (∀ j, n.1.getLsbD j = true → G l (n.1 ||| todo) n.2 j) →
  ∀ m ∈ (splitF k todo n l out).2, m ∈ out ∨ (le n.1 m.1 ∧ le todo m.1 ∧ le n.2 m.2 ∧ ∀ j, m.1.getLsbD j = true → G (splitF k todo n l out).1 m.1 m.2 j) := by
 intro k todo n l out used h
 refine (split_ind hS (fun k todo n l out r => (∀ j, n.1.getLsbD j = true → G l (n.1 ||| todo) n.2 j) → ∀ m ∈ r.2, m ∈ out ∨ (le n.1 m.1 ∧ le todo m.1 ∧ le n.2 m.2 ∧ ∀ j, m.1.getLsbD j = true → G r.1 m.1 m.2 j)) ?_ ?_ ?_ ?_ ?_ k todo n l out used h).1
 ·intro k todo n l out used h hz hg m hm
  by_cases hin : n ∈ out
  ·simp only [if_pos hin] at hm; exact .inl hm
  ·simp only [if_neg hin] at hm
   rcases List.mem_append.1 hm with hm | hm
   ·exact .inl hm
   ·rw [List.mem_singleton.1 hm]
    have ht : le todo n.1 := fun i hi => by
     have := congrArg (fun b => b.getLsbD i) hz
     simp [hi] at this
     exact this (BitVec.lt_of_getLsbD hi)
    exact .inr ⟨.refl _, ht, .refl _, fun j hj => (hg j hj).mono (old_lt h hj) (List.prefix_refl _) (or_le (.refl _) ht) (.refl _)⟩
 ·intro k todo n l out used r h hz hp hlit hn hr ih hg m hm
  have ht := todo_le hp.l64
  have hih := ih (by
   intro j hj
   rw [BitVec.getLsbD_or, Bool.or_eq_true] at hj
   rcases hj with hj | hj
   ·exact (hg j hj).mono (old_lt h hj) (List.prefix_refl _) (or_le (le_or1.trans le_or1) ht) (.refl _)
   ·rw [oneB_get hp.l64] at hj
    rw [of_decide_eq_true hj]
    exact .inl hlit
   ) m hm
  rcases hih with h1 | ⟨h1, h2, h3, h4⟩
  ·exact .inl h1
  ·exact .inr ⟨le_or1.trans h1, ht.trans (or_le h1 h2), h3, h4⟩
 ·intro k todo n l out used r l1 jx x h hz hp hlit hop hk hx hb hbo hn hr ih hg m hm
  have ht := todo_le hp.l64
  obtain ⟨j64, jlt, jpre⟩ := jx64 hS hbo hb
  have hih := ih (by
   intro j hj
   rw [BitVec.getLsbD_or, Bool.or_eq_true] at hj
   rcases hj with hj | hj
   ·exact (hg j hj).mono (old_lt h hj) jpre (or_le (le_or1.trans le_or1) ht) le_or1
   ·rw [oneB_get hp.l64] at hj
    rw [of_decide_eq_true hj]
    unfold G
    rw [getD_pre jpre hp.lt]
    exact .inr (.inl ⟨x, hk, hop, hbo.has hb (List.prefix_refl _) j64 le_or2⟩)
   ) m hm
  rcases hih with h1 | ⟨h1, h2, h3, h4⟩
  ·exact .inl h1
  ·exact .inr ⟨le_or1.trans h1, ht.trans (or_le h1 h2), le_or1.trans h3, h4⟩
 ·intro k todo n l out used r l1 jx x l2 jy y h hz hp hlit hop hk hx hy hb hbo hc hco hn hr ih hg m hm
  have ht := todo_le hp.l64
  obtain ⟨jx6, jxl, jxp⟩ := jx64 hS hbo hb
  obtain ⟨jy6, jyl, jyp⟩ := jx64 hS hco hc
  have hih := ih (by
   intro j hj
   rw [BitVec.getLsbD_or, Bool.or_eq_true] at hj
   rcases hj with hj | hj
   ·exact (hg j hj).mono (old_lt h hj) (jxp.trans jyp) (or_le (le_or1.trans le_or1) (ht.trans (or_le le_or1 ((le_or1.trans le_or1).trans le_or2)))) (.refl _)
   ·rw [oneB_get hp.l64] at hj
    rw [of_decide_eq_true hj]
    unfold G
    rw [getD_pre (jxp.trans jyp) hp.lt]
    exact .inr (.inr ⟨x, y, hk, .inl ⟨hop, hbo.has hb jyp jx6 ((le_or2.trans le_or1).trans le_or2), hco.has hc (List.prefix_refl _) jy6 (le_or2.trans le_or2)⟩⟩)
   ) m hm
  rcases hih with h1 | ⟨h1, h2, h3, h4⟩
  ·exact .inl h1
  ·exact .inr ⟨le_or1.trans h1, ht.trans (or_le h1 ((le_or1.trans le_or1).trans h2)), h3, h4⟩
 ·intro k todo n l out used r r1 l1 jx x l2 jy y t1 t2 n2 h hz hp hlit hk hx hy hor hb hbo hc hco hn1 hr1 ih1 hpre hn2 hr ih2 hg m hm
  have ht := todo_le hp.l64
  obtain ⟨jx6, jxl, jxp⟩ := jx64 hS hbo hb
  obtain ⟨jy6, jyl, jyp⟩ := jx64 hS hco hc
  have hrp : r1.1 <+: r.1 := by rw [hr]; exact (split_pre hS hn2).2
  have r1le : le (restB todo n) t1 := by
   rcases hor with ⟨-, rfl, -, -⟩ | ⟨-, rfl, -, -⟩ | ⟨-, rfl, -, -⟩
   ·exact le_or1
   ·exact le_or1
   ·exact le_or1.trans le_or1
  have r2le : le (restB todo n) t2 := by
   rcases hor with ⟨-, -, rfl, -⟩ | ⟨-, -, rfl, -⟩ | ⟨-, -, rfl, -⟩ <;> exact le_or1
  have n2le : le n.2 n2 := by
   rcases hor with ⟨-, -, -, rfl⟩ | ⟨-, -, -, rfl⟩ | ⟨-, -, -, rfl⟩
   ·exact .refl _
   ·exact le_or1
   ·exact le_or1
  have hb2 : n2 = n.2 ||| pickB todo n → n2.getLsbD (lowB (todo &&& ~~~n.1)) = true := fun e => by rw [e, BitVec.getLsbD_or, one_bit hp.l64, Bool.or_true]
  have hih := ih2 (by
   intro j hj
   rw [BitVec.getLsbD_or, Bool.or_eq_true] at hj
   rcases hj with hj | hj
   ·exact (hg j hj).mono (old_lt h hj) ((jxp.trans jyp).trans hpre) (or_le (le_or1.trans le_or1) (ht.trans (or_le le_or1 (r2le.trans le_or2)))) n2le
   ·rw [oneB_get hp.l64] at hj
    rw [of_decide_eq_true hj]
    unfold G
    rw [getD_pre ((jxp.trans jyp).trans hpre) hp.lt]
    refine .inr (.inr ⟨x, y, hk, ?_⟩)
    rcases hor with ⟨hop, -, rfl, hq2⟩ | ⟨hop, -, rfl, hq2⟩ | ⟨hop, -, rfl, hq2⟩
    ·exact .inr (.inl ⟨hop, .inr (hco.has hc hpre jy6 (le_or2.trans le_or2))⟩)
    ·exact .inr (.inr (.inl ⟨hop, .inr ⟨hbo.has hb (jyp.trans hpre) jx6 (le_or2.trans le_or2), hb2 hq2⟩⟩))
    ·exact .inr (.inr (.inr ⟨hop, hco.has hc hpre jy6 (le_or2.trans le_or2), .inr (hb2 hq2)⟩))
   ) m hm
  rcases hih with h1 | ⟨h1, h2, h3, h4⟩
  ·have hih := ih1 (by
    intro j hj
    rw [BitVec.getLsbD_or, Bool.or_eq_true] at hj
    rcases hj with hj | hj
    ·exact (hg j hj).mono (old_lt h hj) (jxp.trans jyp) (or_le (le_or1.trans le_or1) (ht.trans (or_le le_or1 (r1le.trans le_or2)))) (.refl _)
    ·rw [oneB_get hp.l64] at hj
     rw [of_decide_eq_true hj]
     unfold G
     rw [getD_pre (jxp.trans jyp) hp.lt]
     refine .inr (.inr ⟨x, y, hk, ?_⟩)
     rcases hor with ⟨hop, rfl, -, -⟩ | ⟨hop, rfl, -, -⟩ | ⟨hop, rfl, -, -⟩
     ·exact .inr (.inl ⟨hop, .inl (hbo.has hb jyp jx6 (le_or2.trans le_or2))⟩)
     ·exact .inr (.inr (.inl ⟨hop, .inl (hco.has hc (List.prefix_refl _) jy6 (le_or2.trans le_or2))⟩))
     ·exact .inr (.inr (.inr ⟨hop, hco.has hc (List.prefix_refl _) jy6 (le_or2.trans le_or2), .inl (hbo.has hb jyp jx6 ((le_or2.trans le_or1).trans le_or2))⟩))
    ) m h1
   rcases hih with h1 | ⟨h1, h2, h3, h4⟩
   ·exact .inl h1
   ·refine .inr ⟨le_or1.trans h1, ht.trans (or_le h1 (r1le.trans h2)), h3, fun j hj => (h4 j hj).mono ?_ hrp (.refl _) (.refl _)⟩
    have hb3 := split_bits hS _ _ _ _ out _ hn1 m (by rw [← hr1]; assumption)
    rw [← hr1] at hb3
    rcases hb3 with hb3 | hb3
    ·exact Nat.lt_of_not_le fun hge => by
      have := (h4 j hj)
      unfold G at this
      have e : r1.1.getD j T.none0 = T.none0 := by simp [List.getD, List.getElem?_eq_none hge]
      rw [e] at this
      rcases this with h | ⟨x, h, -⟩ | ⟨x, y, h, -⟩
      ·exact absurd h (by decide)
      ·simp [T.none0, T.l] at h
      ·simp [T.none0, T.l] at h
    ·exact hb3.1 j hj
  ·exact .inr ⟨le_or1.trans h1, ht.trans (or_le h1 (r2le.trans h2)), n2le.trans h3, h4⟩
end Lg


/- What holds is among the ways to split. -/
namespace Lg
open Go
structure Val (S : List T) (V V' : T → Prop) : Prop where
 same : ∀ x y, x.same y = true → (V x ↔ V y)
 same' : ∀ x y, x.same y = true → (V' x ↔ V' y)
 next : ∀ e ∈ S, ∀ x, e.lit = false → e.op = 20 → e.l = [x] → V e → V' x
 and : ∀ e ∈ S, ∀ x y, e.lit = false → e.op = 16 → e.l = [x, y] → V e → V x ∧ V y
 or : ∀ e ∈ S, ∀ x y, e.lit = false → e.op = 17 → e.l = [x, y] → V e → V x ∨ V y
 unt : ∀ e ∈ S, ∀ x y, e.lit = false → e.op = 23 → e.l = [x, y] → V e → V y ∨ (V x ∧ V' e)
 rel : ∀ e ∈ S, ∀ x y, e.lit = false → e.op = 24 → e.l = [x, y] → V e → V y ∧ (V x ∨ V' e)
def AllV (V : T → Prop) (l : List T) (b : BV) : Prop := ∀ j, b.getLsbD j = true → V (l.getD j T.none0)
def Can (V : T → Prop) (l : List T) (b b2 : BV) : Prop := ∀ j x y, b.getLsbD j = true → (l.getD j T.none0).lit = false → (l.getD j T.none0).op = 23 → (l.getD j T.none0).l = [x, y] → V y → hasP l b2 y
theorem bitsIn.le {a b : BV} {m : Nat} (h : bitsIn b m) (k : le a b) : bitsIn a m := fun i hi => h i (k i hi)
theorem AllV.pre {V : T → Prop} {l l' : List T} {b : BV} (h : AllV V l b) (hl : l <+: l') (hb : bitsIn b l.length) : AllV V l' b := fun j hj => by
 rw [getD_pre hl (hb j hj)]; exact h j hj
theorem AllV.or {V : T → Prop} {l : List T} {a b : BV} (h : AllV V l a) (k : AllV V l b) : AllV V l (a ||| b) := fun j hj => by
 rw [BitVec.getLsbD_or, Bool.or_eq_true] at hj
 exact hj.elim (h j) (k j)
theorem AllV.le {V : T → Prop} {l : List T} {a b : BV} (h : AllV V l b) (k : le a b) : AllV V l a := fun j hj => h j (k j hj)
theorem AllV.one {V : T → Prop} {l : List T} {i : Nat} (h64 : i < 64) (h : V (l.getD i T.none0)) : AllV V l (oneB i) := fun j hj => by
 rw [oneB_get h64] at hj
 rw [of_decide_eq_true hj]; exact h
theorem Can.pre {V : T → Prop} {l l' : List T} {b b2 b3 : BV} (h : Can V l b b2) (hl : l <+: l') (hb : bitsIn b l.length) (h2 : le b2 b3) : Can V l' b b3 := fun j x y hj a1 a2 a3 hv => by
 rw [getD_pre hl (hb j hj)] at a1 a2 a3
 exact (h j x y hj a1 a2 a3 hv).mono hl h2
theorem Can.or {V : T → Prop} {l : List T} {a b b2 : BV} (h : Can V l a b2) (k : Can V l b b2) : Can V l (a ||| b) b2 := fun j x y hj => by
 rw [BitVec.getLsbD_or, Bool.or_eq_true] at hj
 exact hj.elim (h j x y) (k j x y)
theorem Can.one {V : T → Prop} {l : List T} {i : Nat} {b2 : BV} (h64 : i < 64) (h : ∀ x y, (l.getD i T.none0).lit = false → (l.getD i T.none0).op = 23 → (l.getD i T.none0).l = [x, y] → V y → hasP l b2 y) : Can V l (oneB i) b2 := fun j x y hj => by
 rw [oneB_get h64] at hj
 rw [of_decide_eq_true hj]; exact h x y
theorem rest_le {todo : BV} {n : Nd} : le (restB todo n) todo := fun i hi => by
 rw [BitVec.getLsbD_and, BitVec.getLsbD_and, Bool.and_eq_true, Bool.and_eq_true] at hi
 exact hi.1.1
def Found (V V' : T → Prop) (todo : BV) (n : Nd) (r : List T × List Nd) : Prop :=
 ∃ m ∈ r.2, le n.1 m.1 ∧ le todo m.1 ∧ le n.2 m.2 ∧ bitsIn m.1 r.1.length ∧ bitsIn m.2 r.1.length ∧ AllV V r.1 m.1 ∧ AllV V' r.1 m.2 ∧ Can V r.1 m.1 m.1
theorem BitOk.v {S l l1 : List T} {x : T} {j : Nat} {V : T → Prop} (hV : ∀ x y, x.same y = true → (V x ↔ V y)) (h : BitOk S l x) (hb : bitF l x = (j, l1)) {l2 : List T} (hl : l1 <+: l2) (hx : V x) : V (l2.getD j T.none0) := by
 have h1 := h.lt
 have h2 := h.same
 rw [hb] at h1 h2
 rw [getD_pre hl h1]
 exact (hV _ _ h2).2 hx
theorem split_sat {S : List T} (hS : Parts S) {V V' : T → Prop} (hv : Val S V V') : ∀ k todo n l out used, SplOk S k todo n l used → AllV V l (n.1 ||| todo) → AllV V' l n.2 → Can V l n.1 (n.1 ||| todo) → Found V V' todo n (splitF k todo n l out) := by
 intro k todo n l out used h
 refine (split_ind hS (fun k todo n l out r => AllV V l (n.1 ||| todo) → AllV V' l n.2 → Can V l n.1 (n.1 ||| todo) → Found V V' todo n r) ?_ ?_ ?_ ?_ ?_ k todo n l out used h).1
 ·intro k todo n l out used h hz ha hn hc
  have ht : le todo n.1 := fun i hi => by
   have := congrArg (fun b => b.getLsbD i) hz
   simp [hi] at this
   exact this (BitVec.lt_of_getLsbD hi)
  refine ⟨n, ?_, .refl _, ht, .refl _, fun j hj => old_lt h hj, h.nextIn, ha.le le_or1, hn, fun j x y a1 a2 a3 a4 a5 => (hc j x y a1 a2 a3 a4 a5).mono (List.prefix_refl _) (or_le (.refl _) ht)⟩
  by_cases hin : n ∈ out
  ·simp only [if_pos hin]; exact hin
  ·simp only [if_neg hin]; simp
 ·intro k todo n l out used r h hz hp hlit hn hr ih ha hnx hc
  have ht := todo_le hp.l64
  have hold : bitsIn n.1 l.length := fun j hj => old_lt h hj
  obtain ⟨m, m1, m2, m3, m4, m5⟩ := ih
   (((ha.le le_or1).or (.one hp.l64 (ha _ (le_or2 _ hp.todo)))).or ((ha.le le_or2).le rest_le))
   hnx
   ((hc.pre (List.prefix_refl _) hold (or_le (le_or1.trans le_or1) ht)).or (.one hp.l64 fun x y a1 a2 => by rw [hlit] at a1; simp at a1))
  exact ⟨m, m1, le_or1.trans m2, ht.trans (or_le m2 m3), m4, m5⟩
 ·intro k todo n l out used r l1 jx x h hz hp hlit hop hk hx hb hbo hn hr ih ha hnx hc
  have ht := todo_le hp.l64
  obtain ⟨j64, jlt, jpre⟩ := jx64 hS hbo hb
  have hold : bitsIn n.1 l.length := fun j hj => old_lt h hj
  have hall : bitsIn (n.1 ||| todo) l.length := hold.or h.todoIn
  have ha' := ha.pre jpre hall
  have hpick := ha _ (le_or2 _ hp.todo)
  obtain ⟨m, m1, m2, m3, m4, m5⟩ := ih
   (((ha'.le le_or1).or (.one hp.l64 (ha' _ (le_or2 _ hp.todo)))).or ((ha'.le le_or2).le rest_le))
   ((hnx.pre jpre h.nextIn).or (.one j64 (hbo.v hv.same' hb (List.prefix_refl _) (hv.next _ hp.mem x hlit hop hk hpick))))
   ((hc.pre jpre hold (or_le (le_or1.trans le_or1) ht)).or (.one hp.l64 fun x' y a1 a2 => by
    rw [getD_pre jpre hp.lt, hop] at a2; exact absurd a2 (by decide)))
  exact ⟨m, m1, le_or1.trans m2, ht.trans (or_le m2 m3), le_or1.trans m4, m5⟩
 ·intro k todo n l out used r l1 jx x l2 jy y h hz hp hlit hop hk hx hy hb hbo hc' hco hn hr ih ha hnx hc
  have ht := todo_le hp.l64
  obtain ⟨jx6, jxl, jxp⟩ := jx64 hS hbo hb
  obtain ⟨jy6, jyl, jyp⟩ := jx64 hS hco hc'
  have jpre := jxp.trans jyp
  have hold : bitsIn n.1 l.length := fun j hj => old_lt h hj
  have hall : bitsIn (n.1 ||| todo) l.length := hold.or h.todoIn
  have ha' := ha.pre jpre hall
  have hpick := ha _ (le_or2 _ hp.todo)
  obtain ⟨v1, v2⟩ := hv.and _ hp.mem x y hlit hop hk hpick
  obtain ⟨m, m1, m2, m3, m4, m5⟩ := ih
   (((ha'.le le_or1).or (.one hp.l64 (ha' _ (le_or2 _ hp.todo)))).or ((((ha'.le le_or2).le rest_le).or (.one jx6 (hbo.v hv.same hb jyp v1))).or (.one jy6 (hco.v hv.same hc' (List.prefix_refl _) v2))))
   (hnx.pre jpre h.nextIn)
   ((hc.pre jpre hold (or_le (le_or1.trans le_or1) (ht.trans (or_le le_or1 ((le_or1.trans le_or1).trans le_or2))))).or (.one hp.l64 fun x' y a1 a2 => by
    rw [getD_pre jpre hp.lt, hop] at a2; exact absurd a2 (by decide)))
  exact ⟨m, m1, le_or1.trans m2, ht.trans (or_le m2 ((le_or1.trans le_or1).trans m3)), m4, m5⟩
 ·intro k todo n l out used r r1 l1 jx x l2 jy y t1 t2 n2 h hz hp hlit hk hx hy hor hb hbo hc' hco hn1 hr1 ih1 hpre hn2 hr ih2 ha hnx hc
  have ht := todo_le hp.l64
  obtain ⟨jx6, jxl, jxp⟩ := jx64 hS hbo hb
  obtain ⟨jy6, jyl, jyp⟩ := jx64 hS hco hc'
  have jpre := jxp.trans jyp
  have hold : bitsIn n.1 l.length := fun j hj => old_lt h hj
  have hall : bitsIn (n.1 ||| todo) l.length := hold.or h.todoIn
  have ha' := ha.pre jpre hall
  have ha2 := ha'.pre hpre (hall.mono jpre.length_le)
  have hpick := ha _ (le_or2 _ hp.todo)
  have hrp : r1.1 <+: r.1 := by rw [hr]; exact (split_pre hS hn2).2
  have hop1 : r1.2 ⊆ r.2 := by
   have := (split_len hS _ _ _ _ r1.2 _ hn2).1
   rw [← hr] at this
   exact this.subset
  have r1le : le (restB todo n) t1 := by
   rcases hor with ⟨-, rfl, -, -⟩ | ⟨-, rfl, -, -⟩ | ⟨-, rfl, -, -⟩
   ·exact le_or1
   ·exact le_or1
   ·exact le_or1.trans le_or1
  have r2le : le (restB todo n) t2 := by
   rcases hor with ⟨-, -, rfl, -⟩ | ⟨-, -, rfl, -⟩ | ⟨-, -, rfl, -⟩ <;> exact le_or1
  have n2le : le n.2 n2 := by
   rcases hor with ⟨-, -, -, rfl⟩ | ⟨-, -, -, rfl⟩ | ⟨-, -, -, rfl⟩
   ·exact .refl _
   ·exact le_or1
   ·exact le_or1
  have base : AllV V l2 (n.1 ||| pickB todo n) := (ha'.le le_or1).or (.one hp.l64 (ha' _ (le_or2 _ hp.todo)))
  have rest2 : AllV V l2 (restB todo n) := (ha'.le le_or2).le rest_le
  have vx : ∀ l', l2 <+: l' → V x → AllV V l' (oneB jx) := fun l' hl' hvx => .one jx6 (hbo.v hv.same hb (jyp.trans hl') hvx)
  have vy : ∀ l', l2 <+: l' → V y → AllV V l' (oneB jy) := fun l' hl' hvy => .one jy6 (hco.v hv.same hc' hl' hvy)
  have hold2 : l <+: l2 → bitsIn (n.1 ||| pickB todo n) l2.length := fun hl => (hold.mono hl.length_le).or (.one (Nat.lt_of_lt_of_le hp.lt hl.length_le) hp.l64)
  have first : AllV V l2 t1 → (V y → (pickT todo n l).op = 23 → le (oneB jy) t1) → Found V V' todo n r := fun h1 h2 => by
   have f1 := ih1 (base.or h1) (hnx.pre jpre h.nextIn)
    ((hc.pre jpre hold (or_le (le_or1.trans le_or1) (ht.trans (or_le le_or1 (r1le.trans le_or2))))).or (.one hp.l64 fun x' y' a1 a2 a3 a4 => by
     rw [getD_pre jpre hp.lt] at a2 a3
     have e : [x, y] = [x', y'] := hk.symm.trans a3
     simp only [List.cons.injEq, and_true] at e
     obtain ⟨-, rfl⟩ := e
     exact hco.has hc' (List.prefix_refl _) jy6 ((h2 a4 a2).trans le_or2)))
   obtain ⟨m, m1, m2, m3, m4, b1, b2, m5, m6, m7⟩ := f1
   have hm1 := hop1 m1
   exact ⟨m, hop1 m1, le_or1.trans m2, ht.trans (or_le m2 (r1le.trans m3)), m4, b1.mono hrp.length_le, b2.mono hrp.length_le, m5.pre hrp b1, m6.pre hrp b2, m7.pre hrp b1 (.refl _)⟩
  have second : AllV V r1.1 t2 → AllV V' r1.1 n2 → ((pickT todo n l).op = 23 → ¬ V y) → Found V V' todo n r := fun h1 h2 h3 => by
   obtain ⟨m, m1, m2, m3, m4, m5⟩ := ih2 ((base.pre hpre (hold2 jpre)).or h1) h2
    ((hc.pre (jpre.trans hpre) hold (or_le (le_or1.trans le_or1) (ht.trans (or_le le_or1 (r2le.trans le_or2))))).or (.one hp.l64 fun x' y' a1 a2 a3 a4 => by
     rw [getD_pre (jpre.trans hpre) hp.lt] at a2 a3
     have e : [x, y] = [x', y'] := hk.symm.trans a3
     simp only [List.cons.injEq, and_true] at e
     obtain ⟨-, rfl⟩ := e
     exact absurd a4 (h3 a2)))
   exact ⟨m, m1, le_or1.trans m2, ht.trans (or_le m2 (r2le.trans m3)), n2le.trans m4, m5⟩
  have nx2 : AllV V' r1.1 n.2 := hnx.pre (jpre.trans hpre) h.nextIn
  have nx2' : V' (pickT todo n l) → AllV V' r1.1 (n.2 ||| pickB todo n) := fun hv' => nx2.or (.one hp.l64 (by
   rw [getD_pre (jpre.trans hpre) hp.lt]; exact hv'))
  have rest3 : AllV V r1.1 (restB todo n) := rest2.pre hpre ((h.todoIn.mono jpre.length_le).le rest_le)
  rcases hor with ⟨hop, rfl, rfl, rfl⟩ | ⟨hop, rfl, rfl, rfl⟩ | ⟨hop, rfl, rfl, rfl⟩
  ·rcases hv.or _ hp.mem x y hlit hop hk hpick with v | v
   ·exact first (rest2.or (vx _ (List.prefix_refl _) v)) fun _ e => absurd (hop.symm.trans e) (by decide)
   ·exact second (rest3.or (vy _ hpre v)) nx2 fun e => absurd (hop.symm.trans e) (by decide)
  ·rcases Classical.em (V y) with v | v
   ·exact first (rest2.or (vy _ (List.prefix_refl _) v)) fun _ _ => le_or2
   ·rcases hv.unt _ hp.mem x y hlit hop hk hpick with v2 | ⟨v2, v3⟩
    ·exact absurd v2 v
    ·exact second (rest3.or (vx _ hpre v2)) (nx2' v3) fun _ => v
  ·obtain ⟨v1, v2⟩ := hv.rel _ hp.mem x y hlit hop hk hpick
   rcases v2 with v2 | v2
   ·exact first ((rest2.or (vx _ (List.prefix_refl _) v2)).or (vy _ (List.prefix_refl _) v1)) fun _ e => absurd (hop.symm.trans e) (by decide)
   ·exact second (rest3.or (vy _ hpre v1)) (nx2' v2) fun e => absurd (hop.symm.trans e) (by decide)
end Lg


/- What the automaton of a formula promises: invariants of the loop that makes it. -/
namespace Lg
open Go
def KidsIn (l : List T) (i : Nat) : Prop := (l.getD i T.none0).lit = false → ∀ x ∈ (l.getD i T.none0).l, ∃ j, j < l.length ∧ (l.getD j T.none0).same x = true
theorem KidsIn.mono {l l' : List T} {i : Nat} (h : KidsIn l i) (hi : i < l.length) (hl : l <+: l') : KidsIn l' i := by
 unfold KidsIn
 rw [getD_pre hl hi]
 intro a x hx
 obtain ⟨j, h1, h2⟩ := h a x hx
 exact ⟨j, Nat.lt_of_lt_of_le h1 hl.length_le, by rw [getD_pre hl h1]; exact h2⟩
theorem BitOk.kid {S l l1 : List T} {x : T} {j : Nat} (h : BitOk S l x) (hb : bitF l x = (j, l1)) {l2 : List T} (hl : l1 <+: l2) : ∃ j, j < l2.length ∧ (l2.getD j T.none0).same x = true := by
 have h1 := h.lt
 have h2 := h.same
 rw [hb] at h1 h2
 exact ⟨j, Nat.lt_of_lt_of_le h1 hl.length_le, by rw [getD_pre hl h1]; exact h2⟩
theorem bitF_new {l l1 : List T} {x : T} {j i : Nat} (hb : bitF l x = (j, l1)) (hi : i < l1.length) : i < l.length ∨ i = j := by
 unfold bitF at hb
 by_cases hf : (l.findIdx fun x' => x'.same x) < l.length
 ·rw [if_pos hf] at hb
  simp only [Prod.mk.injEq] at hb
  rw [← hb.2] at hi; exact .inl hi
 ·rw [if_neg hf] at hb
  simp only [Prod.mk.injEq] at hb
  rw [← hb.2] at hi
  simp at hi
  omega
theorem todo_cases {todo : BV} {n : Nd} {j : Nat} (h64 : lowB (todo &&& ~~~n.1) < 64) (h : todo.getLsbD j = true) : n.1.getLsbD j = true ∨ j = lowB (todo &&& ~~~n.1) ∨ (restB todo n).getLsbD j = true := by
 have := todo_le h64 j h
 rw [BitVec.getLsbD_or, BitVec.getLsbD_or, Bool.or_eq_true, Bool.or_eq_true, oneB_get h64, decide_eq_true_eq] at this
 rcases this with (h | h) | h
 ·exact .inl h
 ·exact .inr (.inl h)
 ·exact .inr (.inr h)
def RegR (l : List T) (todo : BV) (n : Nd) (r : List T × List Nd) : Prop :=
 (∃ m ∈ r.2, le n.2 m.2) ∧ (∀ j, todo.getLsbD j = true → KidsIn r.1 j) ∧ ∀ j, j < r.1.length → l.length ≤ j → KidsIn r.1 j ∨ ∃ m ∈ r.2, m.2.getLsbD j = true
theorem split_reg {S : List T} (hS : Parts S) : ∀ k todo n l out used, SplOk S k todo n l used → (∀ j, n.1.getLsbD j = true → KidsIn l j) → RegR l todo n (splitF k todo n l out) := by
 intro k todo n l out used h
 refine (split_ind hS (fun k todo n l out r => (∀ j, n.1.getLsbD j = true → j < l.length) → (∀ j, n.1.getLsbD j = true → KidsIn l j) → RegR l todo n r) ?_ ?_ ?_ ?_ ?_ k todo n l out used h).1 fun j hj => old_lt h hj
 ·intro k todo n l out used h hz hold hk
  have hm : n ∈ (if n ∈ out then out else out ++ [n]) := by
   by_cases hin : n ∈ out
   ·simp only [if_pos hin]; exact hin
   ·simp only [if_neg hin]; simp
  refine ⟨⟨n, hm, .refl _⟩, fun j hj => hk j ?_, fun j h1 h2 => ?_⟩
  ·have := congrArg (fun b => b.getLsbD j) hz
   simp [hj] at this
   exact this (BitVec.lt_of_getLsbD hj)
  ·simp only at h1; omega
 ·intro k todo n l out used r h hz hp hlit hn hr ih hold hk
  have hpre : l <+: r.1 := by rw [hr]; exact (split_pre hS hn).2
  have hpk : KidsIn l (lowB (todo &&& ~~~n.1)) := fun a => by rw [hlit] at a; simp at a
  obtain ⟨h1, h2, h3⟩ := ih (fun j hj => old_lt hn hj) (fun j hj => by
   rw [BitVec.getLsbD_or, Bool.or_eq_true, oneB_get hp.l64, decide_eq_true_eq] at hj
   rcases hj with hj | rfl
   ·exact hk j hj
   ·exact hpk)
  refine ⟨h1, fun j hj => ?_, h3⟩
  rcases todo_cases hp.l64 hj with h | rfl | h
  ·exact (hk j h).mono (hold j h) hpre
  ·exact hpk.mono hp.lt hpre
  ·exact h2 j h
 ·intro k todo n l out used r l1 jx x h hz hp hlit hop hkk hx hb hbo hn hr ih hold hk
  obtain ⟨j64, jlt, jpre⟩ := jx64 hS hbo hb
  have hpre : l1 <+: r.1 := by rw [hr]; exact (split_pre hS hn).2
  have hpk : KidsIn l1 (lowB (todo &&& ~~~n.1)) := fun _ => by
   rw [getD_pre jpre hp.lt]
   intro z hz
   rw [show (l.getD (lowB (todo &&& ~~~n.1)) T.none0).l = [x] from hkk, List.mem_singleton] at hz
   subst hz
   exact hbo.kid hb (List.prefix_refl _)
  obtain ⟨h1, h2, h3⟩ := ih (fun j hj => old_lt hn hj) (fun j hj => by
   rw [BitVec.getLsbD_or, Bool.or_eq_true, oneB_get hp.l64, decide_eq_true_eq] at hj
   rcases hj with hj | rfl
   ·exact (hk j hj).mono (hold j hj) jpre
   ·exact hpk)
  obtain ⟨m, hm, hle⟩ := h1
  refine ⟨⟨m, hm, le_or1.trans hle⟩, fun j hj => ?_, fun j hj1 hj2 => ?_⟩
  ·rcases todo_cases hp.l64 hj with h | rfl | h
   ·exact (hk j h).mono (hold j h) (jpre.trans hpre)
   ·exact hpk.mono (Nat.lt_of_lt_of_le hp.lt jpre.length_le) hpre
   ·exact h2 j h
  ·rcases Nat.lt_or_ge j l1.length with h | h
   ·rcases bitF_new hb h with h | rfl
    ·omega
    ·exact .inr ⟨m, hm, hle _ (le_or2 _ (one_bit j64))⟩
   ·exact h3 j hj1 h
 ·intro k todo n l out used r l1 jx x l2 jy y h hz hp hlit hop hkk hx hy hb hbo hc hco hn hr ih hold hk
  obtain ⟨jx6, jxl, jxp⟩ := jx64 hS hbo hb
  obtain ⟨jy6, jyl, jyp⟩ := jx64 hS hco hc
  have jpre := jxp.trans jyp
  have hpre : l2 <+: r.1 := by rw [hr]; exact (split_pre hS hn).2
  have hpk : KidsIn l2 (lowB (todo &&& ~~~n.1)) := fun _ => by
   rw [getD_pre jpre hp.lt]
   intro z hz
   rw [show (l.getD (lowB (todo &&& ~~~n.1)) T.none0).l = [x, y] from hkk, List.mem_cons, List.mem_singleton] at hz
   rcases hz with rfl | rfl
   ·exact hbo.kid hb jyp
   ·exact hco.kid hc (List.prefix_refl _)
  obtain ⟨h1, h2, h3⟩ := ih (fun j hj => old_lt hn hj) (fun j hj => by
   rw [BitVec.getLsbD_or, Bool.or_eq_true, oneB_get hp.l64, decide_eq_true_eq] at hj
   rcases hj with hj | rfl
   ·exact (hk j hj).mono (hold j hj) jpre
   ·exact hpk)
  refine ⟨h1, fun j hj => ?_, fun j hj1 hj2 => ?_⟩
  ·rcases todo_cases hp.l64 hj with h | rfl | h
   ·exact (hk j h).mono (hold j h) (jpre.trans hpre)
   ·exact hpk.mono (Nat.lt_of_lt_of_le hp.lt jpre.length_le) hpre
   ·exact h2 j ((le_or1.trans le_or1) j h)
  ·rcases Nat.lt_or_ge j l2.length with h | h
   ·rcases bitF_new hc h with h | rfl
    ·rcases bitF_new hb h with h | rfl
     ·omega
     ·exact .inl (h2 _ ((le_or2.trans le_or1) _ (one_bit jx6)))
    ·exact .inl (h2 _ (le_or2 _ (one_bit jy6)))
   ·exact h3 j hj1 h
 ·intro k todo n l out used r r1 l1 jx x l2 jy y t1 t2 n2 h hz hp hlit hkk hx hy hor hb hbo hc hco hn1 hr1 ih1 hpre1 hn2 hr ih2 hold hk
  obtain ⟨jx6, jxl, jxp⟩ := jx64 hS hbo hb
  obtain ⟨jy6, jyl, jyp⟩ := jx64 hS hco hc
  have jpre := jxp.trans jyp
  have hpre2 : r1.1 <+: r.1 := by rw [hr]; exact (split_pre hS hn2).2
  have hop1 : r1.2 ⊆ r.2 := by
   have := (split_len hS _ _ _ _ r1.2 _ hn2).1
   rw [← hr] at this
   exact this.subset
  have r1le : le (restB todo n) t1 := by
   rcases hor with ⟨-, rfl, -, -⟩ | ⟨-, rfl, -, -⟩ | ⟨-, rfl, -, -⟩
   ·exact le_or1
   ·exact le_or1
   ·exact le_or1.trans le_or1
  have n2le : le n.2 n2 := by
   rcases hor with ⟨-, -, -, rfl⟩ | ⟨-, -, -, rfl⟩ | ⟨-, -, -, rfl⟩
   ·exact .refl _
   ·exact le_or1
   ·exact le_or1
  have hxy : (t1.getLsbD jx = true ∨ t2.getLsbD jx = true) ∧ (t1.getLsbD jy = true ∨ t2.getLsbD jy = true) := by
   rcases hor with ⟨-, rfl, rfl, -⟩ | ⟨-, rfl, rfl, -⟩ | ⟨-, rfl, rfl, -⟩
   ·exact ⟨.inl (le_or2 _ (one_bit jx6)), .inr (le_or2 _ (one_bit jy6))⟩
   ·exact ⟨.inr (le_or2 _ (one_bit jx6)), .inl (le_or2 _ (one_bit jy6))⟩
   ·exact ⟨.inl ((le_or2.trans le_or1) _ (one_bit jx6)), .inl (le_or2 _ (one_bit jy6))⟩
  have hpk : KidsIn l2 (lowB (todo &&& ~~~n.1)) := fun _ => by
   rw [getD_pre jpre hp.lt]
   intro z hz
   rw [show (l.getD (lowB (todo &&& ~~~n.1)) T.none0).l = [x, y] from hkk, List.mem_cons, List.mem_singleton] at hz
   rcases hz with rfl | rfl
   ·exact hbo.kid hb jyp
   ·exact hco.kid hc (List.prefix_refl _)
  have hk2 : ∀ j, (pickN todo n).1.getLsbD j = true → KidsIn l2 j := fun j hj => by
   rw [BitVec.getLsbD_or, Bool.or_eq_true, oneB_get hp.l64, decide_eq_true_eq] at hj
   rcases hj with hj | rfl
   ·exact (hk j hj).mono (hold j hj) jpre
   ·exact hpk
  obtain ⟨-, a2, a3⟩ := ih1 (fun j hj => old_lt hn1 hj) hk2
  obtain ⟨⟨m, hm, hle⟩, b2, b3⟩ := ih2 (fun j hj => old_lt hn2 hj) (fun j hj => (hk2 j hj).mono (old_lt hn1 hj) hpre1)
  have a2' : ∀ j, t1.getLsbD j = true → KidsIn r.1 j := fun j hj => (a2 j hj).mono (Nat.lt_of_lt_of_le (hn1.todoIn j hj) hpre1.length_le) hpre2
  refine ⟨⟨m, hm, n2le.trans hle⟩, fun j hj => ?_, fun j hj1 hj2 => ?_⟩
  ·rcases todo_cases hp.l64 hj with h | rfl | h
   ·exact (hk j h).mono (hold j h) ((jpre.trans hpre1).trans hpre2)
   ·exact hpk.mono (Nat.lt_of_lt_of_le hp.lt jpre.length_le) (hpre1.trans hpre2)
   ·exact a2' j (r1le j h)
  ·rcases Nat.lt_or_ge j r1.1.length with h | h
   ·rcases Nat.lt_or_ge j l2.length with h' | h'
    ·refine .inl ?_
     rcases bitF_new hc h' with h' | rfl
     ·rcases bitF_new hb h' with h' | rfl
      ·omega
      ·exact hxy.1.elim (a2' _) (b2 _)
     ·exact hxy.2.elim (a2' _) (b2 _)
    ·rcases a3 j h h' with h | ⟨m, h1, h2⟩
     ·exact .inl (h.mono (by assumption) hpre2)
     ·exact .inr ⟨m, hop1 h1, h2⟩
   ·exact b3 j hj1 h
end Lg


/- The automaton of a formula: what its nodes promise and where they lead. -/
namespace Lg
open Go
abbrev nd0 : Nd := (0#64, 0#64)
structure Leads (S l : List T) (N : List Nd) (b : BV) (row : List Int) : Prop where
 few : row.length ≤ 1024
 sound : ∀ t ∈ row, ∃ q : Nat, t = q ∧ q < N.length ∧ le b (N.getD q nd0).1
 full : ∀ V V', Val S V V' → AllV V l b → ∃ q : Nat, q < N.length ∧ (q : Int) ∈ row ∧ AllV V l (N.getD q nd0).1 ∧ AllV V' l (N.getD q nd0).2 ∧ Can V l (N.getD q nd0).1 (N.getD q nd0).1
theorem getN_pre {N N' : List Nd} (h : N <+: N') {q : Nat} (hq : q < N.length) : N'.getD q nd0 = N.getD q nd0 := by
 obtain ⟨t, rfl⟩ := h
 simp [List.getD, List.getElem?_append_left hq]
theorem getN_mem {N : List Nd} {q : Nat} (hq : q < N.length) : N.getD q nd0 ∈ N := by
 rw [List.getD, List.getElem?_eq_getElem hq]; exact List.getElem_mem hq
theorem mem_getN {N : List Nd} {n : Nd} (h : n ∈ N) : N.idxOf n < N.length ∧ N.getD (N.idxOf n) nd0 = n := by
 have := List.idxOf_lt_length_of_mem h
 exact ⟨this, by rw [List.getD, List.getElem?_eq_getElem this]; exact List.getElem_idxOf this⟩
theorem Leads.mono {S l l' : List T} {N N' : List Nd} {b : BV} {row : List Int} (h : Leads S l N b row) (hl : l <+: l') (hN : N <+: N') (hb : bitsIn b l.length) (hbN : ∀ n ∈ N, bitsIn n.1 l.length ∧ bitsIn n.2 l.length) : Leads S l' N' b row := by
 refine ⟨h.few, fun t ht => ?_, fun V V' hv ha => ?_⟩
 ·obtain ⟨q, h1, h2, h3⟩ := h.sound t ht
  exact ⟨q, h1, Nat.lt_of_lt_of_le h2 hN.length_le, by rw [getN_pre hN h2]; exact h3⟩
 ·obtain ⟨q, h1, h2, h3, h4, h5⟩ := h.full V V' hv fun j hj => by rw [← getD_pre hl (hb j hj)]; exact ha j hj
  have hm := hbN _ (getN_mem h1)
  refine ⟨q, Nat.lt_of_lt_of_le h1 hN.length_le, h2, ?_⟩
  rw [getN_pre hN h1]
  exact ⟨h3.pre hl hm.1, h4.pre hl hm.2, h5.pre hl hm.1 (.refl _)⟩
theorem cover_leads {S l : List T} (hS : Parts S) (ht : TabOk S l) {b : BV} (hb : bitsIn b l.length) (N : List Nd) : Leads S (coverF l b).1 (addN N (coverF l b).2) b (numIx (addN N (coverF l b).2) (coverF l b).2) := by
 have hspl := cover_spl hS ht hb
 have hc := covOk hS ht hb
 have hin : ∀ m ∈ (coverF l b).2, m ∈ addN N (coverF l b).2 := fun m hm => addN_mem.2 (.inr hm)
 refine ⟨by rw [numIx_length]; exact hc.len, fun t h => ?_, fun V V' hv ha => ?_⟩
 ·obtain ⟨m, hm, rfl⟩ := List.mem_map.1 h
  obtain ⟨h1, h2⟩ := mem_getN (hin m hm)
  refine ⟨_, rfl, h1, ?_⟩
  rw [h2]
  rcases split_good hS _ _ _ _ [] _ hspl (fun j hj => by simp at hj) m hm with h | h
  ·simp at h
  ·exact h.2.1
 ·obtain ⟨m, hm, -, -, -, -, -, h1, h2, h3⟩ := split_sat hS hv _ _ _ _ [] _ hspl (fun j hj => by
   have hj' : b.getLsbD j = true := by simpa using hj
   rw [← getD_pre hc.pre (hb j hj')]; exact ha j hj') (fun j hj => by simp at hj) (fun j x y hj => by simp at hj)
  obtain ⟨g1, g2⟩ := mem_getN (hin m hm)
  refine ⟨_, g1, List.mem_map.2 ⟨m, hm, rfl⟩, ?_⟩
  rw [g2]
  exact ⟨h1, h2, h3⟩
structure OfG (S : List T) (e : T) (s : OfSt) : Prop where
 st : StOk S s
 hd : [e] <+: s.l
 le : s.nx.length ≤ s.N.length
 good : ∀ n ∈ s.N, ∀ j, n.1.getLsbD j = true → G s.l n.1 n.2 j
 reg : ∀ j, j < s.l.length → KidsIn s.l j ∨ ∃ q, s.nx.length ≤ q ∧ q < s.N.length ∧ (s.N.getD q nd0).2.getLsbD j = true
 leads : ∀ q, q < s.nx.length → Leads S s.l s.N (s.N.getD q nd0).2 (s.nx.getD q [])
 init : Leads S s.l s.N (oneB 0) (ofInit e)
theorem ofG_start {S : List T} (hS : Parts S) {e : T} (he : e ∈ S) : OfG S e (ofStart e) := by
 obtain ⟨h1, h2⟩ := stOk_start hS he
 have ht : TabOk S [e] := ⟨fun x hx => by rw [List.mem_singleton.1 hx]; exact he, by simp⟩
 have hb : bitsIn (oneB 0) [e].length := .one (by simp) (by omega)
 have hspl := cover_spl hS ht hb
 refine ⟨h1, h2.pre, Nat.zero_le _, fun n hn j hj => ?_, fun j hj => ?_, fun q hq => absurd hq (Nat.not_lt_zero _), cover_leads hS ht hb []⟩
 ·rcases addN_mem.1 hn with h | h
  ·simp at h
  ·rcases split_good hS _ _ _ _ [] _ hspl (fun j hj => by simp at hj) n h with h | h
   ·simp at h
   ·exact h.2.2.2 j hj
 ·obtain ⟨-, r2, r3⟩ := split_reg hS _ _ _ _ [] _ hspl fun j hj => by simp at hj
  rcases Nat.eq_zero_or_pos j with rfl | hj0
  ·exact .inl (r2 0 (one_bit (by omega)))
  ·rcases r3 j hj hj0 with h | ⟨m, hm, hb⟩
   ·exact .inl h
   ·obtain ⟨g1, g2⟩ := mem_getN (show m ∈ addN [] (ofC0 e).2 from addN_mem.2 (.inr hm))
    exact .inr ⟨_, Nat.zero_le _, g1, by rw [show (ofStart e).N = addN [] (ofC0 e).2 from rfl, g2]; exact hb⟩
theorem OfG.step {S : List T} (hS : Parts S) {e : T} {s : OfSt} (h : OfG S e s) (hlt : s.nx.length < s.N.length) : OfG S e (ofStep s) := by
 obtain ⟨st', hc⟩ := h.st.step hS hlt
 have hm := getN_mem hlt
 have hb := (h.st.bits _ hm).2
 have hspl := cover_spl hS h.st.tab hb
 have hNp : s.N <+: (ofStep s).N := addN_pre
 have hlp : s.l <+: (ofStep s).l := hc.pre
 have hnl : (ofStep s).nx.length = s.nx.length + 1 := by simp [ofStep]
 refine ⟨st', h.hd.trans hlp, ?_, fun n hn j hj => ?_, fun j hj => ?_, fun q hq => ?_, h.init.mono hlp hNp ?_ h.st.bits⟩
 ·rw [hnl]; exact Nat.lt_of_lt_of_le hlt hNp.length_le
 ·rcases addN_mem.1 hn with h' | h'
  ·exact (h.good n h' j hj).mono ((h.st.bits n h').1 j hj) hlp (.refl _) (.refl _)
  ·rcases split_good hS _ _ _ _ [] _ hspl (fun j hj => by simp at hj) n h' with h' | h'
   ·simp at h'
   ·exact h'.2.2.2 j hj
 ·obtain ⟨-, r2, r3⟩ := split_reg hS _ _ _ _ [] _ hspl fun j hj => by simp at hj
  rcases Nat.lt_or_ge j s.l.length with hjl | hjl
  ·rcases h.reg j hjl with h' | ⟨q, h1, h2, h3⟩
   ·exact .inl (h'.mono hjl hlp)
   ·rcases Nat.lt_or_ge s.nx.length q with hq | hq
    ·refine .inr ⟨q, by rw [hnl]; exact hq, Nat.lt_of_lt_of_le h2 hNp.length_le, ?_⟩
     rw [getN_pre hNp h2]; exact h3
    ·obtain rfl : q = s.nx.length := by omega
     exact .inl (r2 j h3)
  ·rcases r3 j hj hjl with h' | ⟨m, hm', hbj⟩
   ·exact .inl h'
   ·obtain ⟨g1, g2⟩ := mem_getN (show m ∈ (ofStep s).N from addN_mem.2 (.inr hm'))
    refine .inr ⟨_, ?_, g1, by rw [g2]; exact hbj⟩
    rw [hnl]
    refine Nat.lt_of_lt_of_le hlt (Nat.le_of_not_lt fun hlt' => ?_)
    have hmem := getN_mem hlt'
    rw [← getN_pre hNp hlt', g2] at hmem
    have := (h.st.bits m hmem).2 j hbj
    omega
 ·rw [hnl] at hq
  rcases Nat.lt_or_ge q s.nx.length with h' | h'
  ·have hqN : q < s.N.length := by omega
   have e1 : (ofStep s).nx.getD q [] = s.nx.getD q [] := by simp [ofStep, List.getD, List.getElem?_append_left h']
   rw [e1, getN_pre hNp hqN]
   exact (h.leads q h').mono hlp hNp (h.st.bits _ (getN_mem hqN)).2 h.st.bits
  ·obtain rfl : q = s.nx.length := by omega
   have e1 : (ofStep s).nx.getD s.nx.length [] = numIx (addN s.N (coverF s.l (s.N.getD s.nx.length nd0).2).2) (coverF s.l (s.N.getD s.nx.length nd0).2).2 := by simp [ofStep, List.getD]
   rw [e1, getN_pre hNp hlt]
   exact cover_leads hS h.st.tab hb s.N
 ·have := h.hd.length_le
  exact .one (Nat.lt_of_lt_of_le (by simp) this) (by omega)
theorem ofG_loop {S : List T} (hS : Parts S) {e : T} : ∀ k s, OfG S e s → 262144 < s.nx.length + k → OfG S e (ofLoop k s) ∧ (ofLoop k s).nx.length = (ofLoop k s).N.length
 | 0, s, h, hk => by
  have := h.st.len hS
  have := h.le
  simp at hk
  omega
 | k + 1, s, h, hk => by
  rw [ofLoop]
  by_cases hlt : s.nx.length < s.N.length
  ·rw [if_pos hlt]
   exact ofG_loop hS k _ (h.step hS hlt) (by simp [ofStep]; omega)
  ·rw [if_neg hlt]
   exact ⟨h, by have := h.le; omega⟩
theorem ofG_end {S : List T} (hS : Parts S) {e : T} (he : e ∈ S) : OfG S e (ofEnd e) ∧ (ofEnd e).nx.length = (ofEnd e).N.length :=
 ofG_loop hS _ _ (ofG_start hS he) (by simp [ofStart])
theorem OfG.kids {S : List T} {e : T} {s : OfSt} (h : OfG S e s) (hl : s.nx.length = s.N.length) {j : Nat} (hj : j < s.l.length) : KidsIn s.l j := by
 rcases h.reg j hj with h | ⟨q, h1, h2, -⟩
 ·exact h
 ·omega
theorem unt_kids {S : List T} (hS : Parts S) {x : T} (hx : x ∈ S) (h : isUnt x = true) : x.lit = false ∧ x.op = 23 ∧ ∃ a ∈ S, ∃ b ∈ S, x.l = [a, b] := by
 simp only [isUnt, Bool.and_eq_true, Bool.not_eq_true', decide_eq_true_eq] at h
 refine ⟨h.1, h.2, ?_⟩
 rcases hS.kids x hx h.1 with ⟨h', -⟩ | ⟨-, h'⟩
 ·rw [h.2] at h'; exact absurd h' (by decide)
 ·exact h'
theorem l_mem {S : List T} {l : List T} (h : TabOk S l) {j : Nat} (hj : j < l.length) : l.getD j T.none0 ∈ S := by
 rw [List.getD, List.getElem?_eq_getElem hj]; exact h.get hj
theorem of_reg {S : List T} (hS : Parts S) {e : T} (he : e ∈ S) : Reg (ofEnd e).l := by
 obtain ⟨h, hl⟩ := ofG_end hS he
 intro i hi hu
 obtain ⟨h1, -, a, -, b, -, hab⟩ := unt_kids hS (l_mem h.st.tab hi) hu
 obtain ⟨j, g1, g2⟩ := h.kids hl hi h1 b (by rw [hab]; simp)
 refine List.findIdx_lt_length_of_exists ⟨(ofEnd e).l.getD j T.none0, ?_, ?_⟩
 ·rw [List.getD, List.getElem?_eq_getElem g1]; exact List.getElem_mem g1
 ·have : kid1 ((ofEnd e).l.getD i T.none0) = b := by show ((ofEnd e).l.getD i T.none0).l.getD 1 T.none0 = b; rw [hab]; rfl
  rw [this]; exact g2
end Lg


/- The automaton of a formula takes a word just if the formula holds of it. -/
namespace Lg
open Go
theorem zip_all_iff {g : T → T → Bool} : ∀ {l m : List T}, l.length = m.length → ((l.zip m).all (fun p => g p.1 p.2) = true ↔ ∀ (i : Nat) (x y : T), l[i]? = some x → m[i]? = some y → g x y = true)
 | [], [], _ => by simp
 | [], _ :: _, h => by simp at h
 | _ :: _, [], h => by simp at h
 | t :: l, u :: m, h => by
  rw [List.zip_cons_cons, List.all_cons, Bool.and_eq_true, zip_all_iff (by simpa using h)]
  constructor
  ·rintro ⟨h1, h2⟩ i x y hx hy
   cases i with
   | zero => simp at hx hy; subst hx hy; exact h1
   | succ i => simp at hx hy; exact h2 i x y hx hy
  ·intro h'
   exact ⟨h' 0 t u (by simp) (by simp), fun i x y hx hy => h' (i + 1) x y (by simpa using hx) (by simpa using hy)⟩
structure SameD (a b : T) : Prop where
 op : a.op = b.op
 num : a.num = b.num
 len : a.l.length = b.l.length
 kids : ∀ (i : Nat) (x y : T), a.l[i]? = some x → b.l[i]? = some y → x.same y = true
theorem same_iff {a b : T} : a.same b = true ↔ SameD a b := by
 obtain ⟨op, n, pl, l⟩ := a
 rw [T.same_mk, Bool.and_eq_true, decide_eq_true_eq]
 constructor
 ·rintro ⟨⟨h1, h2, h3⟩, h4⟩
  exact ⟨h1, h2, h3, (zip_all_iff (g := T.same) h3).1 h4⟩
 ·rintro ⟨h1, h2, h3, h4⟩
  exact ⟨⟨h1, h2, h3⟩, (zip_all_iff (g := T.same) h3).2 h4⟩
theorem same_symm : ∀ {a b : T}, a.same b = true → b.same a = true := by
 intro a
 refine T.ind (M := fun a => ∀ {b : T}, a.same b = true → b.same a = true) ?_ a
 intro op n pl l ih b h
 rw [same_iff] at h ⊢
 exact ⟨h.op.symm, h.num.symm, h.len.symm, fun i x y hx hy => ih y (List.mem_of_getElem? hy) (h.kids i y x hy hx)⟩
theorem same_trans : ∀ {a b c : T}, a.same b = true → b.same c = true → a.same c = true := by
 intro a
 refine T.ind (M := fun a => ∀ {b c : T}, a.same b = true → b.same c = true → a.same c = true) ?_ a
 intro op n pl l ih b c h k
 rw [same_iff] at h k ⊢
 refine ⟨h.op.trans k.op, h.num.trans k.num, h.len.trans k.len, fun i x y hx hy => ?_⟩
 have hi : i < b.l.length := by
  have := (List.getElem?_eq_some_iff.1 hx).1
  rw [← h.len]; exact this
 exact ih x (List.mem_of_getElem? hx) (h.kids i x b.l[i] hx (List.getElem?_eq_getElem hi)) (k.kids i b.l[i] y (List.getElem?_eq_getElem hi) hy)
theorem sat_kids1 {w : Word} {t x : T} (hl : t.lit = false) (hk : t.l = [x]) : t.sat w = semStep w t.op (x.sat w) fun _ => false := by
 obtain ⟨op, n, pl, l⟩ := t
 have hk : l = [x] := hk
 subst hk
 rw [T.sat_mk hl]; rfl
theorem sat_kids2 {w : Word} {t x y : T} (hl : t.lit = false) (hk : t.l = [x, y]) : t.sat w = semStep w t.op (x.sat w) (y.sat w) := by
 obtain ⟨op, n, pl, l⟩ := t
 have hk : l = [x, y] := hk
 subst hk
 rw [T.sat_mk hl]; rfl
theorem sat_next {w : Word} {t x : T} (hl : t.lit = false) (ho : t.op = 20) (hk : t.l = [x]) (i : Nat) : t.sat w i = x.sat w (w.nxt i) := by
 rw [sat_kids1 hl hk, ho]; rfl
theorem sat_and {w : Word} {t x y : T} (hl : t.lit = false) (ho : t.op = 16) (hk : t.l = [x, y]) (i : Nat) : t.sat w i = (x.sat w i && y.sat w i) := by
 rw [sat_kids2 hl hk, ho]; rfl
theorem sat_or {w : Word} {t x y : T} (hl : t.lit = false) (ho : t.op = 17) (hk : t.l = [x, y]) (i : Nat) : t.sat w i = (x.sat w i || y.sat w i) := by
 rw [sat_kids2 hl hk, ho]; rfl
theorem sat_unt {w : Word} {t x y : T} (hl : t.lit = false) (ho : t.op = 23) (hk : t.l = [x, y]) (i : Nat) : t.sat w i = untW w (x.sat w) (y.sat w) i := by
 rw [sat_kids2 hl hk, ho]; rfl
theorem sat_rel {w : Word} {t x y : T} (hl : t.lit = false) (ho : t.op = 24) (hk : t.l = [x, y]) (i : Nat) : t.sat w i = relW w (x.sat w) (y.sat w) i := by
 rw [sat_kids2 hl hk, ho]; rfl
theorem val_sat {S : List T} {w : Word} (hr : w.right = true) {i : Nat} (hi : i < w.v.length) : Val S (fun t => t.sat w i = true) (fun t => t.sat w (w.nxt i) = true) := by
 refine ⟨fun x y h => by rw [same_sat h], fun x y h => by rw [same_sat h], fun e _ x hl ho hk h => ?_, fun e _ x y hl ho hk h => ?_, fun e _ x y hl ho hk h => ?_, fun e _ x y hl ho hk h => ?_, fun e _ x y hl ho hk h => ?_⟩
 ·rwa [sat_next hl ho hk] at h
 ·rw [sat_and hl ho hk, Bool.and_eq_true] at h; exact h
 ·rw [sat_or hl ho hk, Bool.or_eq_true] at h; exact h
 ·rw [sat_unt hl ho hk, untW_step hr hi, ← sat_unt hl ho hk, Bool.or_eq_true, Bool.and_eq_true] at h; exact h
 ·rw [sat_rel hl ho hk, relW_step hr hi, ← sat_rel hl ho hk, Bool.and_eq_true, Bool.or_eq_true] at h; exact h
section
variable {S : List T} (hS : Parts S) {e : T} (he : e ∈ S)
theorem of_lits {q : Nat} (hq : q < (ofEnd e).N.length) : (ofF e).lits.getD q [] = litsTo (ofEnd e).l ((ofEnd e).N.getD q nd0) (ofEnd e).l.length := by
 simp [ofF, List.getD, List.getElem?_map, List.getElem?_eq_getElem hq]
theorem of_litsLen : (ofF e).lits.length = (ofEnd e).N.length := by simp [ofF]
theorem litsTo_mem {l : List T} {n : Nd} {i : Nat} {t : T} : t ∈ litsTo l n i ↔ ∃ j, j < i ∧ n.1.getLsbD j = true ∧ (l.getD j T.none0).lit = true ∧ t = l.getD j T.none0 := by
 simp only [litsTo, List.mem_map, List.mem_filter, List.mem_range, Bool.and_eq_true]
 constructor
 ·rintro ⟨j, ⟨h1, h2, h3⟩, rfl⟩; exact ⟨j, h1, h2, h3, rfl⟩
 ·rintro ⟨j, h1, h2, h3, rfl⟩; exact ⟨j, ⟨h1, h2, h3⟩, rfl⟩
theorem metTo_mem {N : List Nd} {p d m : Nat} {s : Int} : s ∈ metTo N p d m ↔ ∃ q : Nat, q < m ∧ s = q ∧ ((N.getD q nd0).1.getLsbD p = false ∨ (N.getD q nd0).1.getLsbD d = true) := by
 simp only [metTo, List.mem_map, List.mem_filter, List.mem_range, Bool.or_eq_true, Bool.not_eq_true']
 constructor
 ·rintro ⟨j, ⟨h1, h2⟩, rfl⟩; exact ⟨j, h1, rfl, h2⟩
 ·rintro ⟨j, h1, rfl, h2⟩; exact ⟨j, ⟨h1, h2⟩, rfl⟩
theorem acc_mem {l : List T} {N : List Nd} {r : List Int} : r ∈ accTo l N l.length ↔ ∃ p, p < l.length ∧ isUnt (l.getD p T.none0) = true ∧ r = metTo N p (bitF l (kid1 (l.getD p T.none0))).1 N.length := by
 simp only [accTo, List.mem_map, List.mem_filter, List.mem_range]
 constructor
 ·rintro ⟨j, ⟨h1, h2⟩, rfl⟩; exact ⟨j, h1, h2, rfl⟩
 ·rintro ⟨j, h1, h2, rfl⟩; exact ⟨j, ⟨h1, h2⟩, rfl⟩
include hS he in
theorem of_right : (ofF e).right = true := by
 obtain ⟨h, hl⟩ := ofG_end hS he
 have row : ∀ q, q < (ofEnd e).nx.length → ∀ s ∈ (ofEnd e).nx.getD q [], 0 ≤ s ∧ s < ((ofEnd e).N.length : Int) := fun q hq s hs => by
  obtain ⟨q', rfl, h1, -⟩ := (h.leads q hq).sound s hs
  omega
 simp only [Aut.right, Bool.and_eq_true, decide_eq_true_eq, of_litsLen]
 refine ⟨⟨⟨?_, hl⟩, ?_⟩, ?_⟩
 ·refine List.all_eq_true.2 fun s hs => ?_
  obtain ⟨q', rfl, h1, -⟩ := h.init.sound s hs
  simp only [decide_eq_true_eq]; omega
 ·refine List.all_eq_true.2 fun q hq => ?_
  have hq := List.mem_range.1 hq
  simp only [rowOk, Bool.and_eq_true]
  refine ⟨List.all_eq_true.2 fun s hs => ?_, ?_⟩
  ·have := row q (by omega) s hs
   rw [of_litsLen]
   simp only [decide_eq_true_eq]; exact this
  ·rw [of_lits hq]
   refine List.all_eq_true.2 fun t ht => ?_
   obtain ⟨j, -, -, h3, rfl⟩ := litsTo_mem.1 ht
   exact h3
 ·refine List.all_eq_true.2 fun r hr => ?_
  obtain ⟨p, -, -, rfl⟩ := acc_mem.1 (show r ∈ accTo (ofEnd e).l (ofEnd e).N (ofEnd e).l.length from hr)
  refine List.all_eq_true.2 fun s hs => ?_
  obtain ⟨q, h1, rfl, -⟩ := metTo_mem.1 hs
  simp only [decide_eq_true_eq]; omega
include hS he in
theorem of_small : (ofF e).lits.length ≤ 262144 ∧ (∀ l ∈ (ofF e).lits, l.length ≤ 9 ∧ ∀ t ∈ l, t ∈ S) ∧ (∀ r ∈ (ofF e).next, r.length ≤ 1024) ∧ (ofF e).init.length ≤ 1024 ∧ (ofF e).acc.length ≤ 9 ∧ ∀ r ∈ (ofF e).acc, r.length ≤ 262144 := by
 obtain ⟨h, hl⟩ := ofG_end hS he
 have hN := h.st.len hS
 have h9 : (ofEnd e).l.length ≤ 9 := Nat.le_trans h.st.tab.len hS.len
 refine ⟨by rw [of_litsLen]; exact hN, fun l hlm => ?_, fun r hr => ?_, h.init.few, ?_, fun r hr => ?_⟩
 ·obtain ⟨n, -, rfl⟩ := List.mem_map.1 (show l ∈ (ofEnd e).N.map fun n => litsTo (ofEnd e).l n (ofEnd e).l.length from hlm)
  refine ⟨?_, fun t ht => ?_⟩
  ·unfold litsTo
   rw [List.length_map]
   have := List.length_filter_le (fun j => n.1.getLsbD j && ((ofEnd e).l.getD j T.none0).lit) (List.range (ofEnd e).l.length)
   simp at this
   simp only [List.getD]
   omega
  ·obtain ⟨j, h1, -, -, rfl⟩ := litsTo_mem.1 ht
   exact l_mem h.st.tab h1
 ·obtain ⟨q, hq, rfl⟩ := List.getElem_of_mem (show r ∈ (ofEnd e).nx from hr)
  have := (h.leads q hq).few
  rwa [List.getD, List.getElem?_eq_getElem hq] at this
 ·show (accTo _ _ _).length ≤ 9
  unfold accTo
  rw [List.length_map]
  have := List.length_filter_le (fun j => isUnt ((ofEnd e).l.getD j T.none0)) (List.range (ofEnd e).l.length)
  simp at this
  simp only [List.getD]
  omega
 ·obtain ⟨p, -, -, rfl⟩ := acc_mem.1 (show r ∈ accTo (ofEnd e).l (ofEnd e).N (ofEnd e).l.length from hr)
  unfold metTo
  rw [List.length_map]
  refine Nat.le_trans (List.length_filter_le _ _) ?_
  rw [List.length_range]; exact hN
end
end Lg


/- The automaton of a formula takes a word just if the formula holds of it. -/
namespace Lg
open Go
section
variable {S : List T} (hS : Parts S) {e : T} (he : e ∈ S) {w : Word} (hr : w.right = true)
abbrev oldB (e : T) (j : Nat) : BV := ((ofEnd e).N.getD (j % (ofEnd e).N.length) nd0).1
abbrev nxtB (e : T) (j : Nat) : BV := ((ofEnd e).N.getD (j % (ofEnd e).N.length) nd0).2
abbrev plc0 (e : T) (j : Nat) : Nat := j / (ofEnd e).N.length
abbrev nO (e : T) (w : Word) : Nat := w.v.length * (ofEnd e).N.length
include hS he hr in
theorem of_auto : AutOk (ofF e) w := ⟨of_right hS he, hr⟩
include hS he hr in
theorem of_succ {j x : Nat} (hj : j < nO e w) : x ∈ nxf (takesG (ofF e) w) j ↔ ∃ s : Nat, (s : Int) ∈ (ofEnd e).nx.getD (j % (ofEnd e).N.length) [] ∧ x = w.nxt (plc0 e j) * (ofEnd e).N.length + s := by
 have h := nxf_mem (of_auto hS he hr) (j := j) (x := x) (by unfold nN; rw [of_litsLen]; exact hj)
 rw [of_litsLen] at h
 exact h
theorem nO_div {j : Nat} (hj : j < nO e w) : plc0 e j < w.v.length ∧ j % (ofEnd e).N.length < (ofEnd e).N.length := by
 have h := nN_div (a := ofF e) (w := w) (j := j) (by unfold nN; rw [of_litsLen]; exact hj)
 rw [of_litsLen] at h
 exact ⟨h.1, h.2.1⟩
theorem nO_lt {i q : Nat} (hi : i < w.v.length) (hq : q < (ofEnd e).N.length) : i * (ofEnd e).N.length + q < nO e w ∧ plc0 e (i * (ofEnd e).N.length + q) = i ∧ (i * (ofEnd e).N.length + q) % (ofEnd e).N.length = q := by
 have h := nN_lt (a := ofF e) (w := w) hi (q := q) (by rw [of_litsLen]; exact hq)
 unfold nN at h
 rw [of_litsLen] at h
 exact ⟨h, node_div hq⟩
include hS he hr in
theorem of_step {j x : Nat} (hj : j < nO e w) (hx : x ∈ nxf (takesG (ofF e) w) j) : x < nO e w ∧ plc0 e x = w.nxt (plc0 e j) ∧ le (nxtB e j) (oldB e x) := by
 obtain ⟨h, hl⟩ := ofG_end hS he
 obtain ⟨s, hs, rfl⟩ := (of_succ hS he hr hj).1 hx
 obtain ⟨hi, hq⟩ := nO_div hj
 obtain ⟨q, hsq, hqN, hle⟩ := (h.leads _ (by rw [hl]; exact hq)).sound _ hs
 have hsq : s = q := by omega
 subst hsq
 obtain ⟨g1, g2, g3⟩ := nO_lt (e := e) (Word.nxt_lt hr hi) hqN
 refine ⟨g1, g2, ?_⟩
 unfold nxtB oldB
 rw [g3]; exact hle
theorem setsOf_len : (setsOf (ofF e)).length = if (accTo (ofEnd e).l (ofEnd e).N (ofEnd e).l.length) = [] then 1 else (accTo (ofEnd e).l (ofEnd e).N (ofEnd e).l.length).length := by
 unfold setsOf
 by_cases h : (ofF e).acc = []
 ·rw [if_pos h, if_pos (show accTo _ _ _ = [] from h)]; rfl
 ·rw [if_neg h, if_neg (show ¬ accTo _ _ _ = [] from h)]; rfl
include hS he hr in
theorem of_set {p : Nat} (hp : p < (ofEnd e).l.length) (hu : isUnt ((ofEnd e).l.getD p T.none0) = true) : ∃ k, k < (takesG (ofF e) w).sets.length ∧ ∀ x, x < nO e w → (Sk (takesG (ofF e) w) k x ↔ (oldB e x).getLsbD p = false ∨ (oldB e x).getLsbD (bitF (ofEnd e).l (kid1 ((ofEnd e).l.getD p T.none0))).1 = true) := by
 have hm := (acc_mem (l := (ofEnd e).l) (N := (ofEnd e).N) (r := metTo (ofEnd e).N p (bitF (ofEnd e).l (kid1 ((ofEnd e).l.getD p T.none0))).1 (ofEnd e).N.length)).2 ⟨p, hp, hu, rfl⟩
 have hne : (ofF e).acc ≠ [] := List.ne_nil_of_mem hm
 obtain ⟨k, hk, hke⟩ := List.getElem_of_mem hm
 have hse : setsOf (ofF e) = (ofF e).acc := by unfold setsOf; rw [if_neg hne]
 have hk2 : k < (setsOf (ofF e)).length := by rw [hse]; exact hk
 refine ⟨k, by rw [sets_length]; exact hk2, fun x hx => ?_⟩
 rw [sk_iff (of_auto hS he hr) hk2 (by unfold nN; rw [of_litsLen]; exact hx), hse]
 have e1 : (ofF e).acc.getD k [] = metTo (ofEnd e).N p (bitF (ofEnd e).l (kid1 ((ofEnd e).l.getD p T.none0))).1 (ofEnd e).N.length := by
  rw [List.getD, List.getElem?_eq_getElem (show k < (ofF e).acc.length from hk)]
  exact hke
 rw [e1, inS, metTo_mem]
 simp only [plOf, of_litsLen]
 constructor
 ·rintro ⟨q, h1, h2, h3⟩
  have : x % (ofEnd e).N.length = q := by omega
  subst this; exact h3
 ·intro h
  exact ⟨_, (nO_div hx).2, rfl, h⟩
include hS he hr in
theorem of_sets {k : Nat} (hk : k < (takesG (ofF e) w).sets.length) : (∀ x, x < nO e w → Sk (takesG (ofF e) w) k x) ∨ ∃ p, p < (ofEnd e).l.length ∧ isUnt ((ofEnd e).l.getD p T.none0) = true ∧
  ∀ x, x < nO e w → (Sk (takesG (ofF e) w) k x ↔ (oldB e x).getLsbD p = false ∨ (oldB e x).getLsbD (bitF (ofEnd e).l (kid1 ((ofEnd e).l.getD p T.none0))).1 = true) := by
 rw [sets_length] at hk
 by_cases hne : (ofF e).acc = []
 ·refine .inl fun x hx => ?_
  have hse : setsOf (ofF e) = [(List.range (ofF e).lits.length).map fun (x : Nat) => (x : Int)] := by unfold setsOf; rw [if_pos hne]
  rw [sk_iff (of_auto hS he hr) hk (by unfold nN; rw [of_litsLen]; exact hx), hse]
  rw [hse] at hk
  obtain rfl : k = 0 := by simpa using hk
  simp only [inS, List.getD_cons_zero, List.mem_map, List.mem_range, plOf, of_litsLen]
  exact ⟨_, (nO_div hx).2, rfl⟩
 ·have hse : setsOf (ofF e) = (ofF e).acc := by unfold setsOf; rw [if_neg hne]
  have hk3 : k < (ofF e).acc.length := by rw [← hse]; exact hk
  obtain ⟨p, h1, h2, h3⟩ := (acc_mem (l := (ofEnd e).l) (N := (ofEnd e).N)).1 (List.getElem_mem hk3)
  refine .inr ⟨p, h1, h2, fun x hx => ?_⟩
  rw [sk_iff (of_auto hS he hr) hk (by unfold nN; rw [of_litsLen]; exact hx), hse]
  have e1 : (ofF e).acc.getD k [] = metTo (ofEnd e).N p (bitF (ofEnd e).l (kid1 ((ofEnd e).l.getD p T.none0))).1 (ofEnd e).N.length := by
   rw [List.getD, List.getElem?_eq_getElem hk3]
   exact h3
  rw [e1, inS, metTo_mem]
  simp only [plOf, of_litsLen]
  constructor
  ·rintro ⟨q, h1, h2, h3⟩
   have : x % (ofEnd e).N.length = q := by omega
   subst this; exact h3
  ·intro h
   exact ⟨_, (nO_div hx).2, rfl, h⟩
theorem of_on {j : Nat} : on (nodeOns (ofF e) w (nO e w)) j ↔ j < nO e w ∧ ∀ p, p < (ofEnd e).l.length → (oldB e j).getLsbD p = true → ((ofEnd e).l.getD p T.none0).lit = true → ((ofEnd e).l.getD p T.none0).sat w (plc0 e j) = true := by
 have h := onsOn (a := ofF e) (w := w) (j := j)
 unfold nN at h
 rw [of_litsLen] at h
 rw [h]
 refine and_congr_right fun hj => ?_
 have hq := (nO_div hj).2
 simp only [nodeOn, Aut.fits, of_litsLen]
 rw [of_lits hq, List.all_eq_true]
 constructor
 ·intro h p h1 h2 h3
  have := h _ (litsTo_mem.2 ⟨p, h1, h2, h3, rfl⟩)
  rw [T.sat_lit h3]; exact this
 ·intro h t ht
  obtain ⟨p, h1, h2, h3, rfl⟩ := litsTo_mem.1 ht
  have := h p h1 h2 h3
  rw [T.sat_lit h3] at this; exact this
theorem has_at {l : List T} (ht : TabOk S l) {b : BV} {x : T} (h : hasP l b x) : b.getLsbD (bitF l x).1 = true := by
 obtain ⟨j, h1, h2, h3⟩ := h
 have hf : (l.findIdx fun y => y.same x) < l.length := List.findIdx_lt_length_of_exists ⟨l.getD j T.none0, by rw [List.getD, List.getElem?_eq_getElem h1]; exact List.getElem_mem h1, h2⟩
 have e : (bitF l x).1 = l.findIdx fun y => y.same x := by unfold bitF; rw [if_pos hf]
 rw [e]
 have hs : (l[l.findIdx fun y => y.same x]).same x = true := List.findIdx_getElem (w := hf)
 rw [List.getD, List.getElem?_eq_getElem h1, Option.getD_some] at h2
 have hss : l[j].same l[l.findIdx fun y => y.same x] = true := same_trans h2 (same_symm hs)
 rcases Nat.lt_trichotomy j (l.findIdx fun y => y.same x) with hlt | heq | hgt
 ·have := List.pairwise_iff_getElem.1 ht.dist j _ h1 hf hlt
  rw [this] at hss; simp at hss
 ·rw [← heq]; exact h3
 ·have := List.pairwise_iff_getElem.1 ht.dist _ j hf h1 hgt
  rw [same_symm hss] at this; simp at this
theorem at_same {l : List T} {x : T} (hf : (l.findIdx fun y => y.same x) < l.length) : (bitF l x).1 < l.length ∧ (l.getD (bitF l x).1 T.none0).same x = true := by
 have e : (bitF l x).1 = l.findIdx fun y => y.same x := by unfold bitF; rw [if_pos hf]
 rw [e]
 refine ⟨hf, ?_⟩
 rw [List.getD, List.getElem?_eq_getElem hf]
 exact List.findIdx_getElem (w := hf)
include hS he hr in
theorem of_sound {Z : Nat → Prop} (hZ : PostFix (takesG (ofF e) w) (nodeOns (ofF e) w (nO e w)) Z) : ∀ t p, p < (ofEnd e).l.length → ((ofEnd e).l.getD p T.none0).same t = true → ∀ j, Z j → (oldB e j).getLsbD p = true → t.sat w (plc0 e j) = true := by
 obtain ⟨h, hl⟩ := ofG_end hS he
 have hreg := of_reg hS he
 intro t
 refine T.ind (M := fun t => ∀ p, p < (ofEnd e).l.length → ((ofEnd e).l.getD p T.none0).same t = true → ∀ j, Z j → (oldB e j).getLsbD p = true → t.sat w (plc0 e j) = true) ?_ t
 intro op n pl l ih p hp hs j hj hb
 have hon : ∀ j, Z j → j < nO e w := fun j hj => ((of_on (e := e) (w := w)).1 (hZ j hj).1).1
 have hlt := hon j hj
 have hq := nO_div hlt
 have kid : ∀ (i : Nat) (x : T), ((ofEnd e).l.getD p T.none0).l[i]? = some x → ∃ x' ∈ l, l[i]? = some x' ∧ x.same x' = true := fun i x hx => by
  have hd := same_iff.1 hs
  have hi : i < l.length := by
   have := (List.getElem?_eq_some_iff.1 hx).1
   rw [hd.len] at this; exact this
  exact ⟨l[i], List.getElem_mem hi, List.getElem?_eq_getElem hi, hd.kids i x l[i] hx (List.getElem?_eq_getElem hi)⟩
 have use : ∀ (i : Nat) (x : T), ((ofEnd e).l.getD p T.none0).l[i]? = some x → ∀ j, Z j → hasP (ofEnd e).l (oldB e j) x → x.sat w (plc0 e j) = true := fun i x hx j hj hh => by
  obtain ⟨x', h1, -, h3⟩ := kid i x hx
  obtain ⟨p', g1, g2, g3⟩ := hh
  rw [same_sat h3]
  exact ih x' h1 p' g1 (same_trans g2 h3) j hj g3
 rw [← same_sat hs]
 have next : ∀ j, Z j → ∃ x, Z x ∧ plc0 e x = w.nxt (plc0 e j) ∧ le (nxtB e j) (oldB e x) := fun j hj => by
  have h0 : 0 < (takesG (ofF e) w).sets.length := by
   rw [sets_length, setsOf_len]
   split
   ·omega
   ·rename_i hne; exact List.length_pos_iff.2 hne
  cases (hZ j hj).2 0 h0 with
  | one hx hz _ => exact ⟨_, hz, (of_step hS he hr (hon j hj) hx).2⟩
  | more hx hz _ => exact ⟨_, hz, (of_step hS he hr (hon j hj) hx).2⟩
 have good : ∀ j, Z j → (oldB e j).getLsbD p = true → G (ofEnd e).l (oldB e j) (nxtB e j) p := fun j hj hb => h.good _ (getN_mem (nO_div (hon j hj)).2) p hb
 rcases hS.kids _ (l_mem h.st.tab hp) with hk
 cases hlit : ((ofEnd e).l.getD p T.none0).lit
 ·rcases good j hj hb with g | ⟨x, g1, g2, g3⟩ | ⟨x, y, g1, g2⟩
  ·rw [hlit] at g; simp at g
  ·rw [sat_next hlit g2 g1]
   obtain ⟨z, z1, z2, z3⟩ := next j hj
   rw [← z2]
   exact use 0 x (by rw [g1]; rfl) z z1 (g3.mono (List.prefix_refl _) z3)
  ·have ux := use 0 x (by rw [g1]; rfl)
   have uy := use 1 y (by rw [g1]; rfl)
   rcases g2 with ⟨a1, a2, a3⟩ | ⟨a1, a2⟩ | ⟨a1, a2⟩ | ⟨a1, a2, a3⟩
   ·rw [sat_and hlit a1 g1, ux j hj a2, uy j hj a3]; rfl
   ·rw [sat_or hlit a1 g1]
    rcases a2 with a2 | a2
    ·rw [ux j hj a2]; rfl
    ·rw [uy j hj a2]; simp
   ·-- until
    have hu : isUnt ((ofEnd e).l.getD p T.none0) = true := by unfold isUnt; rw [hlit, a1]; rfl
    obtain ⟨k, hk, hset⟩ := of_set hS he hr hp hu
    have hd := at_same (hreg p hp hu)
    have e1 : kid1 ((ofEnd e).l.getD p T.none0) = y := by show ((ofEnd e).l.getD p T.none0).l.getD 1 T.none0 = y; rw [g1]; rfl
    rw [e1] at hset hd
    have unf : ∀ j, Z j → (oldB e j).getLsbD p = true → y.sat w (plc0 e j) = true ∨ (x.sat w (plc0 e j) = true ∧ (nxtB e j).getLsbD p = true) := fun j hj hb => by
     rcases good j hj hb with g | ⟨x', b1, b2, -⟩ | ⟨x', y', b1, b2⟩
     ·rw [hlit] at g; simp at g
     ·rw [a1] at b2; exact absurd b2 (by decide)
     ·rw [g1] at b1
      simp only [List.cons.injEq, and_true] at b1
      obtain ⟨rfl, rfl⟩ := b1
      rcases b2 with ⟨c, -⟩ | ⟨c, -⟩ | ⟨-, c⟩ | ⟨c, -⟩
      ·rw [a1] at c; exact absurd c (by decide)
      ·rw [a1] at c; exact absurd c (by decide)
      ·exact c.imp (uy j hj) fun ⟨c1, c2⟩ => ⟨ux j hj c1, c2⟩
      ·rw [a1] at c; exact absurd c (by decide)
    have key : ∀ j, Rch (nxf (takesG (ofF e) w)) Z (Sk (takesG (ofF e) w) k) j → Z j → (oldB e j).getLsbD p = true → untW w (x.sat w) (y.sat w) (plc0 e j) = true := by
     intro j hrch
     induction hrch with
     | one hx hz hsk =>
      intro hj hb
      have st := of_step hS he hr (hon _ hj) hx
      rw [untW_step hr (nO_div (hon _ hj)).1]
      rcases unf _ hj hb with c | ⟨c1, c2⟩
      ·rw [c]; rfl
      ·have hsk := (hset _ st.1).1 hsk
       have hp' := st.2.2 _ c2
       rcases hsk with hsk | hsk
       ·rw [hp'] at hsk; simp at hsk
       ·have := uy _ hz ⟨_, hd.1, hd.2, hsk⟩
        rw [st.2.1] at this
        rw [c1, untW_step hr (Word.nxt_lt hr (nO_div (hon _ hj)).1), this]; simp
     | more hx hz _ ih2 =>
      intro hj hb
      have st := of_step hS he hr (hon _ hj) hx
      rw [untW_step hr (nO_div (hon _ hj)).1]
      rcases unf _ hj hb with c | ⟨c1, c2⟩
      ·rw [c]; rfl
      ·have := ih2 hz (st.2.2 _ c2)
       rw [st.2.1] at this
       rw [c1, this]; simp
    rw [sat_unt hlit a1 g1]
    exact key j ((hZ j hj).2 k hk) hj hb
   ·-- release
    rw [sat_rel hlit a1 g1]
    have unf : ∀ j, Z j → (oldB e j).getLsbD p = true → y.sat w (plc0 e j) = true ∧ (x.sat w (plc0 e j) = true ∨ (nxtB e j).getLsbD p = true) := fun j hj hb => by
     rcases good j hj hb with g | ⟨x', b1, b2, -⟩ | ⟨x', y', b1, b2⟩
     ·rw [hlit] at g; simp at g
     ·rw [a1] at b2; exact absurd b2 (by decide)
     ·rw [g1] at b1
      simp only [List.cons.injEq, and_true] at b1
      obtain ⟨rfl, rfl⟩ := b1
      rcases b2 with ⟨c, -⟩ | ⟨c, -⟩ | ⟨c, -⟩ | ⟨-, c1, c2⟩
      ·rw [a1] at c; exact absurd c (by decide)
      ·rw [a1] at c; exact absurd c (by decide)
      ·rw [a1] at c; exact absurd c (by decide)
      ·exact ⟨uy j hj c1, c2.imp (ux j hj) id⟩
    have key : ∀ m j, Z j → (oldB e j).getLsbD p = true → unt w (fun i => !x.sat w i) (fun i => !y.sat w i) m (plc0 e j) = false := by
     intro m
     induction m with
     | zero => intro j _ _; rfl
     | succ m ihm =>
      intro j hj hb
      obtain ⟨c1, c2⟩ := unf j hj hb
      rw [unt, c1]
      rcases c2 with c2 | c2
      ·rw [c2]; rfl
      ·obtain ⟨z, z1, z2, z3⟩ := next j hj
       have := ihm z z1 (z3 _ c2)
       rw [z2] at this
       rw [this]; simp
    unfold relW
    rw [key w.v.length j hj hb]; rfl
 ·exact ((of_on (e := e) (w := w)).1 (hZ j hj).1).2 p hp hb hlit
end
end Lg


/- The automaton of a formula takes a word just if the formula holds of it: the other way. -/
namespace Lg
open Go
structure Holds0 (e : T) (w : Word) (j : Nat) : Prop where
 lt : j < nO e w
 old : AllV (fun t => t.sat w (plc0 e j) = true) (ofEnd e).l (oldB e j)
 nxt : AllV (fun t => t.sat w (w.nxt (plc0 e j)) = true) (ofEnd e).l (nxtB e j)
 can : Can (fun t => t.sat w (plc0 e j) = true) (ofEnd e).l (oldB e j) (oldB e j)
section
variable {S : List T} (hS : Parts S) {e : T} (he : e ∈ S) {w : Word} (hr : w.right = true)
include hS he hr in
theorem holds_succ {j : Nat} (h : Holds0 e w j) : ∃ x, x ∈ nxf (takesG (ofF e) w) j ∧ Holds0 e w x ∧ plc0 e x = w.nxt (plc0 e j) := by
 obtain ⟨hG, hl⟩ := ofG_end hS he
 obtain ⟨hi, hq⟩ := nO_div h.lt
 have hi' := Word.nxt_lt hr hi
 obtain ⟨q, h1, h2, h3, h4, h5⟩ := (hG.leads (j % (ofEnd e).N.length) (by rw [hl]; exact hq)).full _ _ (val_sat (S := S) hr hi') h.nxt
 obtain ⟨g1, g2, g3⟩ := nO_lt (e := e) hi' h1
 refine ⟨w.nxt (plc0 e j) * (ofEnd e).N.length + q, (of_succ hS he hr h.lt).2 ⟨q, h2, rfl⟩, ⟨g1, ?_, ?_, ?_⟩, g2⟩
 ·unfold oldB; rw [g2, g3]; exact h3
 ·unfold nxtB; rw [g2, g3]; exact h4
 ·unfold oldB; rw [g2, g3]; exact h5
include hS he hr in
theorem holds_fix : PostFix (takesG (ofF e) w) (nodeOns (ofF e) w (nO e w)) (Holds0 e w) := by
 obtain ⟨hG, hl⟩ := ofG_end hS he
 intro j hj
 refine ⟨(of_on (e := e) (w := w)).2 ⟨hj.lt, fun p _ hb _ => hj.old p hb⟩, fun k hk => ?_⟩
 rcases of_sets hS he hr hk with hall | ⟨p, hp, hu, hset⟩
 ·obtain ⟨x, hx, hxz, -⟩ := holds_succ hS he hr hj
  exact .one hx hxz (hall x hxz.lt)
 ·obtain ⟨hlit, hop, a, -, b, -, hab⟩ := unt_kids hS (l_mem hG.st.tab hp) hu
  have e1 : kid1 ((ofEnd e).l.getD p T.none0) = b := by show ((ofEnd e).l.getD p T.none0).l.getD 1 T.none0 = b; rw [hab]; rfl
  rw [e1] at hset
  have key : ∀ m j, Holds0 e w j → (oldB e j).getLsbD p = true → (oldB e j).getLsbD (bitF (ofEnd e).l b).1 = false → unt w (a.sat w) (b.sat w) m (plc0 e j) = true → Rch (nxf (takesG (ofF e) w)) (Holds0 e w) (Sk (takesG (ofF e) w) k) j := by
   intro m
   induction m with
   | zero => intro j _ _ _ h; simp [unt] at h
   | succ m ih =>
    intro j hj h1 h2 h3
    rw [unt, Bool.or_eq_true, Bool.and_eq_true] at h3
    rcases h3 with h3 | ⟨-, h3⟩
    ·have := has_at hG.st.tab (hj.can p a b h1 hlit hop hab h3)
     rw [h2] at this; simp at this
    ·obtain ⟨x, hx, hxz, hxi⟩ := holds_succ hS he hr hj
     rw [← hxi] at h3
     rcases Classical.em (Sk (takesG (ofF e) w) k x) with hs | hs
     ·exact .one hx hxz hs
     ·rw [hset x hxz.lt] at hs
      refine .more hx hxz (ih x hxz ?_ ?_ h3)
      ·cases hb : (oldB e x).getLsbD p
       ·exact absurd (.inl hb) hs
       ·rfl
      ·cases hb : (oldB e x).getLsbD (bitF (ofEnd e).l b).1
       ·rfl
       ·exact absurd (.inr hb) hs
  obtain ⟨x, hx, hxz, -⟩ := holds_succ hS he hr hj
  rcases Classical.em (Sk (takesG (ofF e) w) k x) with hs | hs
  ·exact .one hx hxz hs
  ·have hs' := hs
   rw [hset x hxz.lt] at hs'
   have c1 : (oldB e x).getLsbD p = true := by
    cases hb : (oldB e x).getLsbD p
    ·exact absurd (.inl hb) hs'
    ·rfl
   refine .more hx hxz (key w.v.length x hxz c1 ?_ ?_)
   ·cases hb : (oldB e x).getLsbD (bitF (ofEnd e).l b).1
    ·rfl
    ·exact absurd (.inr hb) hs'
   ·have : ((ofEnd e).l.getD p T.none0).sat w (plc0 e x) = true := hxz.old p c1
    rwa [sat_unt hlit hop hab] at this
include hS he hr in
theorem of_takes : (ofF e).takes w = e.sat w 0 := by
 obtain ⟨hG, hl⟩ := ofG_end hS he
 have h0 : 0 < w.v.length := by
  simp only [Word.right, Bool.and_eq_true, decide_eq_true_eq] at hr; omega
 have hd0 : (ofEnd e).l.getD 0 T.none0 = e := by
  rw [getD_pre hG.hd (by simp)]; rfl
 have hlen : 0 < (ofEnd e).l.length := Nat.lt_of_lt_of_le (by simp) hG.hd.length_le
 rw [Bool.eq_iff_iff, takes_iff]
 unfold Takes
 rw [of_litsLen]
 constructor
 ·rintro ⟨s, hs, Z, hZ, hZs⟩
  obtain ⟨q, rfl, h1, h2⟩ := hG.init.sound s hs
  have hj : Z q := by simpa using hZs
  have := of_sound hS he hr hZ e 0 hlen (by rw [hd0]; exact same_self e) q hj (by
   unfold oldB
   rw [Nat.mod_eq_of_lt h1]
   exact h2 0 (one_bit (by omega)))
  unfold plc0 at this
  rwa [Nat.div_eq_of_lt h1] at this
 ·intro h
  obtain ⟨q, h1, h2, h3, h4, h5⟩ := hG.init.full _ _ (val_sat (S := S) hr h0) (.one (by omega) (by rw [hd0]; exact h))
  refine ⟨q, h2, Holds0 e w, holds_fix hS he hr, ?_⟩
  obtain ⟨g1, g2, g3⟩ := nO_lt (e := e) h0 h1
  simp only [Nat.zero_mul, Nat.zero_add] at g1 g2 g3
  refine ⟨by simpa using g1, ?_, ?_, ?_⟩
  ·simp only [Int.toNat_natCast, oldB, g2, g3]; exact h3
  ·simp only [Int.toNat_natCast, nxtB, g2, g3]; exact h4
  ·simp only [Int.toNat_natCast, oldB, g2, g3]; exact h5
end
end Lg


/- A formula's parts. -/
namespace Lg
open Go
def T.subs : T → List T := T.fold fun op n pl l rs => T.mk op n pl l :: (if (T.mk op n pl l).lit = true then [] else rs.flatten)
theorem T.subs_mk {op n pl l} : (T.mk op n pl l).subs = T.mk op n pl l :: (if (T.mk op n pl l).lit = true then [] else (l.map T.subs).flatten) := by
 rw [T.subs, T.fold_mk]
theorem subs_self (t : T) : t ∈ t.subs := by cases t; rw [T.subs_mk]; simp
structure Shp (t : T) : Prop where
 ok : t.Ok
 right : t.rightB = true
 may : t.may 3 = true
theorem Shp.kids {t : T} (h : Shp t) (hl : t.lit = false) : (∀ x ∈ t.l, Shp x) ∧ ((t.op = 20 ∧ ∃ x, t.l = [x]) ∨ ((t.op = 16 ∨ t.op = 17 ∨ t.op = 23 ∨ t.op = 24) ∧ ∃ x y, t.l = [x, y])) := by
 obtain ⟨op, n, pl, l⟩ := t
 obtain ⟨h1, h2, h3⟩ := h
 rw [T.rightB_mk, hl, Bool.false_or, Bool.and_eq_true] at h2
 obtain ⟨hm, -, -, hw⟩ := may_kids h3
 have hk := List.all_eq_true.1 h2.2
 refine ⟨fun x hx => ⟨h1.kid x hx, hk x hx, hm x hx⟩, ?_⟩
 have ho : op = 16 ∨ op = 17 ∨ op = 20 ∨ op = 23 ∨ op = 24 := of_decide_eq_true h2.1
 show (op = 20 ∧ ∃ x, l = [x]) ∨ ((op = 16 ∨ op = 17 ∨ op = 23 ∨ op = 24) ∧ ∃ x y, l = [x, y])
 have two : l.length = 2 → ∃ x y, l = [x, y] := fun h => by
  match l, h with
  | [x, y], _ => exact ⟨x, y, rfl⟩
 have one : l.length = 1 → ∃ x, l = [x] := fun h => by
  match l, h with
  | [x], _ => exact ⟨x, rfl⟩
 rcases ho with rfl | rfl | rfl | rfl | rfl
 ·exact .inr ⟨by simp, two (by simp [wants] at hw; omega)⟩
 ·exact .inr ⟨by simp, two (by simp [wants] at hw; omega)⟩
 ·exact .inl ⟨rfl, one (by simp [wants] at hw; omega)⟩
 ·exact .inr ⟨by simp, two (by simp [wants] at hw; omega)⟩
 ·exact .inr ⟨by simp, two (by simp [wants] at hw; omega)⟩
theorem subs_of {t : T} (hl : t.lit = false) : t.subs = t :: (t.l.map T.subs).flatten := by
 cases t; rw [T.subs_mk, if_neg (by rw [hl]; decide)]; rfl
theorem subs_lit {t : T} (hl : t.lit = true) : t.subs = [t] := by
 cases t; rw [T.subs_mk, if_pos hl]
theorem subs_facts : ∀ t : T, Shp t → ∀ e ∈ t.subs, Shp e ∧ (e.lit = false → ∀ x ∈ e.l, x ∈ t.subs) := by
 intro t
 refine T.ind (M := fun t => Shp t → ∀ e ∈ t.subs, Shp e ∧ (e.lit = false → ∀ x ∈ e.l, x ∈ t.subs)) ?_ t
 intro op n pl l ih h e he
 cases hl : (T.mk op n pl l).lit
 ·have hk := (h.kids hl).1
  rw [subs_of hl] at he ⊢
  have up : ∀ x ∈ l, ∀ y ∈ x.subs, y ∈ (T.mk op n pl l) :: (l.map T.subs).flatten := fun x hx y hy =>
   List.mem_cons_of_mem _ (List.mem_flatten.2 ⟨_, List.mem_map_of_mem hx, hy⟩)
  rcases List.mem_cons.1 he with rfl | he
  ·exact ⟨h, fun _ x hx => up x hx x (subs_self x)⟩
  ·obtain ⟨s, hs, hes⟩ := List.mem_flatten.1 he
   obtain ⟨x, hx, rfl⟩ := List.mem_map.1 hs
   obtain ⟨g1, g2⟩ := ih x hx (hk x hx) e hes
   exact ⟨g1, fun a y hy => up x hx y (g2 a y hy)⟩
 ·rw [subs_lit hl] at he
  rw [List.mem_singleton.1 he]
  exact ⟨h, fun a => by rw [hl] at a; simp at a⟩
theorem parts_of {t : T} (h : Shp t) (hn : t.subs.length ≤ 9) : Parts t.subs := by
 refine ⟨hn, fun e he => (subs_facts t h e he).1.ok, fun e he hl => ?_⟩
 obtain ⟨g1, g2⟩ := subs_facts t h e he
 rcases (g1.kids hl).2 with ⟨ho, x, hx⟩ | ⟨ho, x, y, hx⟩
 ·exact .inl ⟨ho, x, g2 hl x (by rw [hx]; simp), hx⟩
 ·exact .inr ⟨ho, x, g2 hl x (by rw [hx]; simp), y, g2 hl y (by rw [hx]; simp), hx⟩
structure Frm (t : T) : Prop where
 fm : Fm 3 t
 right : t.rightB = true
 few : t.subs.length ≤ 9
theorem Frm.shp {t : T} (h : Frm t) : Shp t := ⟨h.fm.ok, h.right, h.fm.may⟩
theorem Frm.parts {t : T} (h : Frm t) : Parts t.subs := parts_of h.shp h.few
theorem Frm.takesOk {t : T} (h : Frm t) {w : Word} (hw : w.Ok) (hr : w.right = true) (hs : w.v.length ≤ 500) : TakesOk (ofF t) w := by
 have hS := h.parts
 have he := subs_self t
 obtain ⟨s1, s2, s3, s4, s5, s6⟩ := of_small hS he
 have hright := of_right hS he
 have hnl : (ofF t).next.length = (ofF t).lits.length := by
  simp only [Aut.right, Bool.and_eq_true, decide_eq_true_eq] at hright
  exact hright.1.1.2
 refine ⟨⟨by omega, fun l hl => ⟨by have := (s2 l hl).1; omega, fun t' ht' => hS.ok t' ((s2 l hl).2 t' ht')⟩, by omega, fun r hr => by have := s3 r hr; omega, by omega, by omega, fun r hr => by have := s6 r hr; omega⟩, hw, hright, hr, by omega, hs, fun r hr => by have := s3 r hr; omega, by omega⟩
theorem Frm.takes {t : T} (h : Frm t) {w : Word} (hr : w.right = true) : (ofF t).takes w = t.sat w 0 := of_takes h.parts (subs_self t) hr
theorem Frm.right18 {t : T} (h : Frm t) : (ofF t).right = true := of_right h.parts (subs_self t)
theorem Frm.ok {t : T} (h : Frm t) : (ofF t).Ok := (h.takesOk (w := ⟨[[]], 0⟩) ⟨by simp, by simp⟩ (by decide) (by simp)).ok
theorem Frm.fuel {t : T} (h : Frm t) : Reg (ofEnd t).l := of_reg h.parts (subs_self t)
theorem Frm.may {t : T} (h : Frm t) : (ofF t).may 3 = true := by
 obtain ⟨-, s2, -⟩ := of_small h.parts (subs_self t)
 refine List.all_eq_true.2 fun l hl => List.all_eq_true.2 fun x hx => ?_
 exact (subs_facts t h.shp x ((s2 l hl).2 x hx)).1.may
end Lg

