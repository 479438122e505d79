/- The compiler's looks at regions, reckoned with bits: the same, and faster. -/
import Derived.Test.YtaegmmeppkgnkaaLgW
namespace Lg
open Go

/-- A list of places as bits. -/
def bitsOf : List Nat → Nat
  | [] => 0
  | i :: l => bitsOf l ||| (1 <<< i)

theorem bitsOf_test {l : List Nat} {j : Nat} : (bitsOf l).testBit j = l.contains j := by
  induction l with
  | nil => simp [bitsOf]
  | cons i l ih =>
    simp only [bitsOf, Nat.testBit_or, ih, List.contains_cons, Nat.shiftLeft_eq, Nat.one_mul, Nat.testBit_two_pow]
    rw [Bool.or_comm]
    congr 1
    rw [Bool.eq_iff_iff, decide_eq_true_eq, beq_iff_eq]
    exact eq_comm

/-- Are all places below p in it? -/
def lowAll (p m : Nat) : Bool := (m &&& (2 ^ p - 1)) == 2 ^ p - 1
theorem lowAll_eq {l : List Nat} {p : Nat} : lowAll p (bitsOf l) = (List.range p).all fun j => l.contains j := by
  unfold lowAll
  rw [Bool.eq_iff_iff, beq_iff_eq, List.all_eq_true]
  constructor
  · intro h j hj
    have hj := List.mem_range.1 hj
    have := congrArg (fun n => n.testBit j) h
    simp only [Nat.testBit_and, Nat.testBit_two_pow_sub_one, hj, decide_true, Bool.and_true] at this
    rwa [bitsOf_test] at this
  · intro h
    refine Nat.eq_of_testBit_eq fun j => ?_
    rw [Nat.testBit_and, Nat.testBit_two_pow_sub_one, bitsOf_test]
    by_cases hj : j < p
    · rw [h j (List.mem_range.2 hj)]; simp [hj]
    · simp [hj]

theorem bitsOf_addAll {ys : List Nat} : ∀ {xs : List Nat}, bitsOf (addAll xs ys) = bitsOf xs ||| bitsOf ys := by
  induction ys with
  | nil => intro xs; simp [addAll, bitsOf]
  | cons y ys ih =>
    intro xs
    rw [addAll, ih, bitsOf]
    refine Nat.eq_of_testBit_eq fun j => ?_
    simp only [Nat.testBit_or, Nat.shiftLeft_eq, Nat.one_mul, Nat.testBit_two_pow]
    by_cases hc : xs.contains y = true
    · rw [if_pos hc]
      by_cases e : y = j
      · subst e; rw [bitsOf_test, hc]; simp
      · simp [e]
    · rw [if_neg hc, bitsOf]
      simp only [Nat.testBit_or, Nat.shiftLeft_eq, Nat.one_mul, Nat.testBit_two_pow]
      cases (bitsOf xs).testBit j <;> cases decide (y = j) <;> cases (bitsOf ys).testBit j <;> rfl

/-- What comes ahead of each operation, as bits. -/
def ancsB : List Oper → List Nat → List Nat
  | [], acc => acc
  | o :: rest, acc => ancsB rest (acc ++ [(edges o).foldl (fun s e => Nat.lor (Nat.lor s (Nat.shiftLeft 1 e)) (acc.getD e 0)) 0])

theorem ancsB_eq : ∀ {l : List Oper} {acc : List (List Nat)}, ancsB l (acc.map bitsOf) = (ancs l acc).map bitsOf
  | [], acc => rfl
  | o :: l, acc => by
    rw [ancsB, ancs, ← ancsB_eq, List.map_append]
    congr 2
    simp only [List.map_cons, List.map_nil]
    congr 1
    have key : ∀ (es s : List Nat), es.foldl (fun s e => Nat.lor (Nat.lor s (Nat.shiftLeft 1 e)) ((acc.map bitsOf).getD e 0)) (bitsOf s) = bitsOf (es.foldl (fun s e => addAll (addAll s [e]) (acc.getD e [])) s) := by
      intro es
      induction es with
      | nil => intro s; rfl
      | cons e es ih =>
        intro s
        simp only [List.foldl_cons]
        rw [← ih]
        congr 1
        rw [bitsOf_addAll, bitsOf_addAll]
        have h1 : bitsOf [e] = 1 <<< e := by simp [bitsOf]
        have h2 : (acc.map bitsOf).getD e 0 = bitsOf (acc.getD e []) := by
          by_cases he : e < acc.length
          · simp [List.getD, he]
          · simp [List.getD, List.getElem?_eq_none (Nat.le_of_not_lt he), bitsOf]
        rw [h1, h2]
        rfl
    exact key (edges o) []

theorem ancs_length : ∀ {l : List Oper} {acc : List (List Nat)}, (ancs l acc).length = acc.length + l.length
  | [], acc => rfl
  | o :: l, acc => by rw [ancs, ancs_length]; simp; omega

def cutX (ms : List Nat) (p : Nat) : Bool := (ms.drop p).all (lowAll p)
theorem cutX_eq {anc : List (List Nat)} {p : Nat} : cutX (anc.map bitsOf) p = cutAt anc anc.length p := by
  unfold cutX cutAt
  rw [Bool.eq_iff_iff, List.all_eq_true, List.all_eq_true]
  constructor
  · intro h k hk
    have hk := List.mem_range.1 hk
    rw [Bool.or_eq_true, decide_eq_true_eq]
    by_cases hkp : k < p
    · exact .inl hkp
    · refine .inr ?_
      have := h (bitsOf (anc.getD k [])) (by
        rw [List.mem_iff_getElem]
        refine ⟨k - p, by simp; omega, ?_⟩
        simp [List.getD, hk, show p + (k - p) = k by omega])
      rwa [lowAll_eq] at this
  · intro h m hm
    obtain ⟨i, hi, rfl⟩ := List.mem_iff_getElem.1 hm
    simp at hi
    have := h (p + i) (List.mem_range.2 (by omega))
    rw [Bool.or_eq_true, decide_eq_true_eq] at this
    rcases this with h1 | h1
    · omega
    · rw [← lowAll_eq] at h1
      simpa [List.getD, show p + i < anc.length by omega] using h1

def tempsX (ms : List Nat) (ol : List O) : Bool :=
  (List.range ol.length).all fun j => (List.range j).all fun i =>
    match ol[i]?, ol[j]? with
    | some x, some y =>
      (match x.dst with
        | some d => !((y.names.contains d) || y.dst == some d) || (ms.getD j 0).testBit i
        | none => true) &&
      (match y.dst with
        | some d => !(x.names.contains d) || (ms.getD j 0).testBit i
        | none => true)
    | _, _ => true

theorem bits_getD {anc : List (List Nat)} {j i : Nat} : ((anc.map bitsOf).getD j 0).testBit i = (anc.getD j []).contains i := by
  by_cases hj : j < anc.length
  · simp [List.getD, hj, bitsOf_test]
  · simp [List.getD, List.getElem?_eq_none (Nat.le_of_not_lt hj)]

theorem tempsX_eq {anc : List (List Nat)} {ol : List O} : tempsX (anc.map bitsOf) ol = tempsOK anc ol := by
  unfold tempsX tempsOK
  simp only [bits_getD]
  rfl

def piecesX (ms : List Nat) : Nat → List O → List O → List (List O)
  | _, cur, [] => [cur]
  | p, cur, o :: rest => if cutX ms p && !cur.isEmpty then cur :: piecesX ms (p + 1) [o] rest else piecesX ms (p + 1) (cur ++ [o]) rest
theorem piecesX_eq {anc : List (List Nat)} : ∀ {l cur : List O} {p : Nat}, piecesX (anc.map bitsOf) p cur l = pieces anc anc.length p cur l
  | [], _, _ => rfl
  | o :: l, cur, p => by rw [piecesX, pieces, cutX_eq, piecesX_eq, piecesX_eq]

def piecesOKX (ms : List Nat) : Nat → List (List O) → Bool
  | _, [] => true
  | p, b :: bs => !b.isEmpty && cutX ms (p + b.length) && piecesOKX ms (p + b.length) bs
theorem piecesOKX_eq {anc : List (List Nat)} : ∀ {bs : List (List O)} {p : Nat}, piecesOKX (anc.map bitsOf) p bs = piecesOK anc anc.length p bs
  | [], _ => rfl
  | b :: bs, p => by rw [piecesOKX, piecesOK, cutX_eq, piecesOKX_eq]

def compDrawX (P : Program) (n : Nat) (ops : Array Oper) : Option (List (List O)) :=
  (compOps P n ops ops.toList).bind fun ol =>
    let ms := ancsB ops.toList []
    let bs := piecesX ms 0 [] ol
    if P.follows .mixedOrders && edgesOK ops.toList && tempsX ms ol && newsOK ol && piecesOKX ms 0 bs && bs.flatten.length == ol.length then some bs else none

theorem compDrawX_eq {P : Program} {n : Nat} {ops : Array Oper} : compDrawX P n ops = compDraw P n ops := by
  unfold compDrawX compDraw
  cases h : compOps P n ops ops.toList with
  | none => rfl
  | some ol =>
    simp only [Option.bind_some]
    have hl := (compOps_get h).1
    have e1 : ancsB ops.toList [] = (ancs ops.toList []).map bitsOf := ancsB_eq (acc := [])
    have e2 : (ancs ops.toList []).length = ol.length := by rw [ancs_length, hl]; simp
    rw [e1, tempsX_eq, piecesX_eq, piecesOKX_eq, e2]

def compX (sel : Nat → Bool) (P : Program) (n : Nat) : Code → Option IR
  | .skip => some .skip
  | .region _ ops false => (compOps P n ops ops.toList).map .ops
  | .region id ops true => (compDrawX P n ops).bind fun bs => if sel id = true then (nOf ops bs).map fun r => .drawN r.1 r.2 else if bs.any heavyP then (compDrawF P n ops).map .drawF else some (.draw bs)
  | .seq a b => (compX sel P n a).bind fun x => (compX sel P n b).map (.seq x)
  | .cond c a b => (compA c).bind fun y => (compX sel P n a).bind fun x => (compX sel P n b).map (.cond y x)
  | .block id b => (compX sel P n b).map (.block id)
  | .loop b => (compX sel P n b).map .loop
  | .exit id => some (.exit id)
  | .ret => some .ret
  | .label l => some (.label l)
  | .goto l => some (.goto l)
  | .scope c => (compX sel P n c).bind fun b => match firstLabel b with
    | none => none
    | some l => (findLab b l).map (.scope l b)
  | .rangeFunc g ps x y => (compA g).map fun a => .range n a ⟨ps, x, y⟩
  | _ => none

theorem compX_eq {sel : Nat → Bool} {P : Program} {n : Nat} (c : Code) : compX sel P n c = compS sel P n c := by
  cases c with
  | region id ops d =>
    cases d
    · rfl
    · rw [compX, compS, compDrawX_eq]
  | seq a b => rw [compX, compS, compX_eq a, compX_eq b]
  | cond c a b => rw [compX, compS, compX_eq a, compX_eq b]
  | block id b => rw [compX, compS, compX_eq b]
  | loop b => rw [compX, compS, compX_eq b]
  | scope c => rw [compX, compS, compX_eq c]; rfl
  | _ => rfl

def compFXS (sel : Nat → Bool) (P : Program) (f : FuncId) : Option FnIR :=
  (P.funcs[f]?).bind fun fn => fn.body.bind fun c => if okF P f then (compX sel P fn.ntmps c).bind fun b => (resSlots P fn.results.toList).map fun r => ⟨fn.ntmps, r, b⟩ else none
def compFX (P : Program) (f : FuncId) : Option FnIR := compFXS (fun _ => false) P f
theorem compFS_of {sel : Nat → Bool} {P : Program} {f : FuncId} {F : FnIR} (h : compFXS sel P f = some F) : compFS sel P f = some F := by
  rw [← h]
  unfold compFS compFXS
  simp only [compX_eq]
theorem compF_of {P : Program} {f : FuncId} {F : FnIR} (h : compFX P f = some F) : compF P f = some F := compFS_of h

end Lg
