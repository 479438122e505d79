/- Trees: what is told of them, in plain terms. -/
import Derived.Test.YtjoffkghcjfbeaaLibExpr
import Derived.Test.YtjoffkghcjfbeaaLibMix
namespace Lg
open Go
mutual
def T.fold {α : Type} (f : Int → Int → Int → List T → List α → α) : T → α
 | .mk a b c l => f a b c l (T.foldL f l)
def T.foldL {α : Type} (f : Int → Int → Int → List T → List α → α) : List T → List α
 | [] => []
 | t :: ts => T.fold f t :: T.foldL f ts
end
theorem T.foldL_map {α : Type} {f : Int → Int → Int → List T → List α → α} : ∀ {l : List T}, T.foldL f l = l.map (T.fold f)
 | [] => by simp [T.foldL]
 | t :: ts => by simp [T.foldL, T.foldL_map (l := ts)]
theorem T.fold_mk {α : Type} {f : Int → Int → Int → List T → List α → α} {a b c l} : T.fold f (.mk a b c l) = f a b c l (l.map (T.fold f)) := by
 rw [T.fold, T.foldL_map]
abbrev w64 (n : Int) : Int := IntKind.i64.wrap n
def T.deep : T → Int → Int := T.fold fun _ _ _ _ rs m => if 1 < m then rs.foldl (fun d r => if d < w64 (1 + r (w64 (m - 1))) then w64 (1 + r (w64 (m - 1))) else d) 1 else 1
def T.many : T → Int → Int := T.fold fun _ _ _ _ rs m => rs.foldl (fun n r => if n < m then w64 (n + r m) else n) 1
def T.few (t : T) : Bool := decide (t.deep 45 < 45) && decide (t.many 300 < 300)
def wants (op : Int) : Int := if op = 1 ∨ op = 2 ∨ op = 13 ∨ op = 14 then 0 else if op = 6 ∨ op = 15 ∨ op = 20 ∨ op = 21 ∨ op = 22 then 1 else 2
def mayPart (op n : Int) (k : Nat) (vars : Int) : Prop := (1 ≤ op ∧ op ≤ 24 ∧ (k : Int) = wants op) ∧ ¬ (op = 1 ∧ (n < 0 ∨ 1073741824 < n)) ∧ ¬ (op = 2 ∧ (n < 0 ∨ vars ≤ n)) ∧ ¬ (2 < op ∧ n ≠ 0)
instance {op n : Int} {k : Nat} {vars : Int} : Decidable (mayPart op n k vars) := by unfold mayPart; infer_instance
def T.may : T → Int → Bool := T.fold fun op n _ _ rs vars => decide (mayPart op n rs.length vars) && rs.all fun r => r vars
abbrev Ty3 := Int × Int × Int
def typeStep (op pl : Int) (rs : List Ty3) : Ty3 :=
 match rs.find? fun r => decide (r.2.1 ≠ 0) with
 | some r => (0, r.2.1, r.2.2)
 | none =>
  if op ≤ 6 ∧ ∀ r ∈ rs, r.1 = 1 then (1, 0, 0)
  else if (7 ≤ op ∧ op ≤ 12 ∧ ∀ r ∈ rs, r.1 = 1) ∨ op = 13 ∨ op = 14 ∨ (15 ≤ op ∧ op ≤ 19 ∧ ∀ r ∈ rs, r.1 = 2) then (2, 0, 0)
  else if 15 ≤ op ∧ ∀ r ∈ rs, r.1 ≠ 1 then (3, 0, 0) else (0, 4, pl)
def T.type : T → Ty3 := T.fold fun op _ pl _ rs => typeStep op pl rs
def T.lit (t : T) : Bool := decide (t.type.2.1 = 0) && decide (t.type.1 = 2)
theorem T.deep_mk {op n pl l} (m : Int) : (T.mk op n pl l).deep m = if 1 < m then l.foldl (fun d t => if d < w64 (1 + t.deep (w64 (m - 1))) then w64 (1 + t.deep (w64 (m - 1))) else d) 1 else 1 := by
 rw [T.deep, T.fold_mk, List.foldl_map]
theorem T.many_mk {op n pl l} (m : Int) : (T.mk op n pl l).many m = l.foldl (fun k t => if k < m then w64 (k + t.many m) else k) 1 := by
 rw [T.many, T.fold_mk, List.foldl_map]
theorem T.may_mk {op n pl l} (vars : Int) : (T.mk op n pl l).may vars = (decide (mayPart op n l.length vars) && l.all fun t => t.may vars) := by
 rw [T.may, T.fold_mk, List.all_map]; simp [Function.comp_def]
theorem T.type_mk {op n pl l} : (T.mk op n pl l).type = typeStep op pl (l.map T.type) := by
 rw [T.type, T.fold_mk]
theorem typeStep_cases (op pl : Int) (rs : List Ty3) : (typeStep op pl rs).2.1 ≠ 0 ∨ (typeStep op pl rs = (1, 0, 0) ∨ typeStep op pl rs = (2, 0, 0) ∨ typeStep op pl rs = (3, 0, 0)) := by
 unfold typeStep
 split
 ·rename_i r h
  have := List.find?_some h
  left
  simpa using this
 ·split
  ·simp
  ·split
   ·simp
   ·split <;> simp
theorem T.type_cases (t : T) : t.type.2.1 ≠ 0 ∨ (t.type = (1, 0, 0) ∨ t.type = (2, 0, 0) ∨ t.type = (3, 0, 0)) := by
 cases t with
 | mk op n pl l => rw [T.type_mk]; exact typeStep_cases _ _ _
def tru (b : Bool) : Int := if b then 1 else 0
def evalR (op n : Int) (a b : Int) (v : List Int) : Int :=
 if op = 1 then n
 else if op = 2 then (if 0 ≤ n then v.getD n.toNat 0 else 0)
 else if op = 3 then w64 (a + b)
 else if op = 4 then w64 (a - b)
 else if op = 5 then w64 (a * b)
 else if op = 6 then w64 (0 - a)
 else if op = 7 then tru (decide (a = b))
 else if op = 8 then tru (decide (a ≠ b))
 else if op = 9 then tru (decide (a < b))
 else if op = 10 then tru (decide (a ≤ b))
 else if op = 11 then tru (decide (b < a))
 else if op = 12 then tru (decide (b ≤ a))
 else if op = 13 then 1
 else if op = 15 then tru (decide (a = 0))
 else if op = 16 then tru (decide (a = 1 ∧ b = 1))
 else if op = 17 then tru (decide (a = 1 ∨ b = 1))
 else if op = 18 then tru (decide (a = 0 ∨ b = 1))
 else if op = 19 then tru (decide (a = b))
 else 0
def T.eval : T → List Int → Int := T.fold fun op n _ _ rs v => evalR op n ((rs[0]?.map (· v)).getD 0) ((rs[1]?.map (· v)).getD 0) v
theorem T.eval_mk {op n pl l} (v : List Int) : (T.mk op n pl l).eval v = evalR op n ((l[0]?.map (·.eval v)).getD 0) ((l[1]?.map (·.eval v)).getD 0) v := by
 rw [T.eval, T.fold_mk]; simp [Option.map_map, Function.comp_def]
def T.places : T → T → Bool := T.fold fun op n pl _ rs b => decide (pl = b.pl ∧ op = b.op ∧ n = b.num ∧ rs.length = b.l.length) && (rs.zip b.l).all fun p => p.1 p.2
theorem T.places_mk {op n pl l} (b : T) : (T.mk op n pl l).places b = (decide (pl = b.pl ∧ op = b.op ∧ n = b.num ∧ l.length = b.l.length) && (l.zip b.l).all fun p => p.1.places p.2) := by
 rw [T.places, T.fold_mk, List.zip_map_left, List.all_map]; simp [Function.comp_def]
theorem zip_all_eq {f : T → T → Bool} : ∀ {l m : List T}, (∀ t ∈ l, ∀ b, f t b = true ↔ t = b) → l.length = m.length → ((l.zip m).all (fun p => f p.1 p.2) = true ↔ l = m)
 | [], [], _, _ => by simp
 | [], _ :: _, _, h => by simp at h
 | _ :: _, [], _, h => by simp at h
 | x :: l, y :: m, hf, h => by
  have ih := zip_all_eq (f := f) (l := l) (m := m) (fun t ht => hf t (by simp [ht])) (by simpa using h)
  simp only [List.zip_cons_cons, List.all_cons, Bool.and_eq_true, ih, hf x (by simp) y, List.cons.injEq]
theorem T.places_iff : ∀ (a b : T), a.places b = true ↔ a = b := by
 intro a
 refine T.ind (M := fun a => ∀ b, a.places b = true ↔ a = b) ?_ a
 intro op n pl l ih b
 cases b with
 | mk op' n' pl' l' =>
  rw [T.places_mk]
  show (decide (pl = pl' ∧ op = op' ∧ n = n' ∧ l.length = l'.length) && (l.zip l').all fun p => p.1.places p.2) = true ↔ _
  rw [Bool.and_eq_true, decide_eq_true_iff, T.mk.injEq]
  constructor
  ·rintro ⟨⟨h1, h2, h3, h4⟩, h5⟩
   exact ⟨h2, h3, h1, (zip_all_eq (fun t ht => ih t ht) h4).1 h5⟩
  ·rintro ⟨h1, h2, h3, h4⟩
   exact ⟨⟨h3, h1, h2, by rw [h4]⟩, (zip_all_eq (fun t ht => ih t ht) (by rw [h4])).2 h4⟩
instance : DecidableEq T := fun a b => decidable_of_iff (a.places b = true) (T.places_iff a b)
def T.same : T → T → Bool := T.fold fun op n _ _ rs b => decide (op = b.op ∧ n = b.num ∧ rs.length = b.l.length) && (rs.zip b.l).all fun p => p.1 p.2
theorem T.same_mk {op n pl l} (b : T) : (T.mk op n pl l).same b = (decide (op = b.op ∧ n = b.num ∧ l.length = b.l.length) && (l.zip b.l).all fun p => p.1.same p.2) := by
 rw [T.same, T.fold_mk, List.zip_map_left, List.all_map]; simp [Function.comp_def]
theorem toL_cells_length (t : T) : t.toL.cells.length = 4 := by cases t; simp [T.toL, L.cells]
theorem toL_agg (t : T) : L.agg t.toL.cells = t.toL := by cases t; simp [T.toL, L.cells]
theorem toL_take (t : T) : t.toL.cells.take 4 = t.toL.cells := List.take_of_length_le (by rw [toL_cells_length]; omega)
theorem reso_toL (H : Heap) (k : Nat) (t : T) : reso H (k + 2) t.toL = some t.toL := by cases t; simp [T.toL, reso, mapO]
theorem topOK_toL (t : T) : topOK t.toL = true := by cases t; simp [T.toL, topOK, solid, Value.oneCell']
theorem all_closed_toL (t : T) : t.toL.cells.all closed = true := by cases t; simp [T.toL, L.cells, closed]
theorem below_toL (n : Nat) (t : T) : below n t.toL = true := by cases t; simp [T.toL]
theorem ren_toL (f : Nat → Nat) (t : T) : ren f t.toL = t.toL := by cases t; simp [T.toL, renL, ren]
theorem toL_mk {a b c l} : (T.mk a b c l).toL = .agg [.v (.int .i64 a), .v (.int .i64 b), .v (.int .i64 c), .sl 4 false (l.map T.toL)] := by rw [T.toL, toLs_map]
theorem T.Ok.len {op n pl l} (h : (T.mk op n pl l).Ok) : l.length ≤ 2932031007403 := by cases h with | mk _ _ _ h4 _ => exact h4
theorem T.Ok.kid {op n pl l} (h : (T.mk op n pl l).Ok) : ∀ t ∈ l, t.Ok := by cases h with | mk _ _ _ _ h5 => exact h5
attribute [simp] toL_cells_length toL_agg toL_take reso_toL topOK_toL below_toL ren_toL
theorem sub_trees : ∀ {xs : List (List L)} {ts : List T}, xs.length = ts.length → (∀ i (h : i < ts.length), SubAll (xs.getD i []) ts[i].toL.cells) → Sub (.sl 4 true (xs.map .agg)) (.sl 4 false (ts.map T.toL)) := by
 intro xs ts hl h
 refine .trans (.clip _ _) (.elsF (by simpa using hl) (fun j => ?_) (fun x hx => ?_))
 ·simp only [flat, show ¬ (4 = 1) by decide, if_false]
  have key : ∀ (xs : List (List L)) (ts : List T), xs.length = ts.length → (∀ i (h : i < ts.length), SubAll (xs.getD i []) ts[i].toL.cells) → SubAll ((xs.map L.agg).flatMap L.cells) ((ts.map T.toL).flatMap L.cells) := by
   intro xs
   induction xs with
   | nil => intro ts hl _; cases ts with
    | nil => exact .nil
    | cons t ts => simp at hl
   | cons x xs ih =>
    intro ts hl h
    cases ts with
    | nil => simp at hl
    | cons t ts =>
     simp only [List.map_cons, List.flatMap_cons]
     have h0 := h 0 (by simp)
     simp at h0
     have h1 := ih ts (by simpa using hl) (fun i hi => by have := h (i + 1) (by simpa using hi); simpa using this)
     have app : ∀ {a b c d : List L}, SubAll a b → SubAll c d → SubAll (a ++ c) (b ++ d) := by
      intro a b c d ha
      induction ha with
      | nil => exact id
      | cons hx _ ih => exact fun hc => .cons hx (ih hc)
     exact app h0 h1
  exact (key xs ts hl h).get.2 j
 ·obtain ⟨t, -, rfl⟩ := List.mem_map.1 hx
  exact ⟨toL_cells_length t, fun e => by omega⟩
theorem sub_leaf {op n pl : Int} : SubAll [.v (.int .i64 op), .v (.int .i64 n), .v (.int .i64 pl), .v (.slice none 0 0)] (T.mk op n pl []).toL.cells := .cons (.refl _) (.cons (.refl _) (.cons (.refl _) (.cons (.nil _ _) .nil)))
theorem sub_node {op n pl : Int} {xs : List (List L)} {ts : List T} (hl : xs.length = ts.length) (h : ∀ i (h : i < ts.length), SubAll (xs.getD i []) ts[i].toL.cells) : SubAll [.v (.int .i64 op), .v (.int .i64 n), .v (.int .i64 pl), .sl 4 true (xs.map .agg)] (T.mk op n pl ts).toL.cells := by
 simp only [T.toL, L.cells, toLs_map]
 exact .cons (.refl _) (.cons (.refl _) (.cons (.refl _) (.cons (sub_trees hl h) .nil)))
theorem sub_tree {xs : List L} {t : T} (h : SubAll xs t.toL.cells) : Sub (.agg xs) t.toL := by
 rw [← toL_agg]; exact Sub.aggL h
theorem sub_self (t : T) : SubAll t.toL.cells t.toL.cells := SubAll.refl _
end Lg

