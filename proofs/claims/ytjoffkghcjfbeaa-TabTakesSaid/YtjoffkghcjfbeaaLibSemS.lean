/- Where a formula holds: the answer's walk. -/
import Derived.Test.YtjoffkghcjfbeaaLibSemR
namespace Lg
open Go
structure RefFns (P : Program) where
 (all li ty ev tr nx un : Nat)
 iall : compF P all = some (irAllR all li ev nx un)
 ili : compF P li = some (irLit ty)
 ity : compF P ty = some (irType ty)
 iev : compF P ev = some (irEvalR ev tr)
 itr : compF P tr = some irTruth
 inx : compF P nx = some irNext17
 iun : compF P un = some (irUntilR nx)
theorem replB {n : Nat} : List.replicate n (L.v (Value.bool false)) = (rowsB n fun _ => false).map boolL := by
 rw [show List.replicate n (L.v (Value.bool false)) = rowB n (fun _ => false) 0 from rowB_zero.symm]
 refine List.ext_getElem? fun j => ?_
 by_cases hj : j < n
 ·rw [rowB_get hj]; simp [hj, rowsB]
 ·rw [List.getElem?_eq_none (by simp; omega), List.getElem?_eq_none (by simp [rowsB]; omega)]
section
variable {P : Program} (F : RefFns P)
theorem belowL_rep {m n : Nat} {b : Bool} : belowL m (List.replicate n (boolL b)) = true := by
 induction n with
 | zero => simp [belowL]
 | succ n ih => simp [List.replicate_succ, belowL, ih]
theorem rowB_ren {f : Nat → Nat} {n i : Nat} {h : Nat → Bool} : renL f (rowB n h i) = rowB n h i := by simp [rowB, renL_map]
theorem rowB_frz {H : Heap} {fz : List Nat} {n i : Nat} {h : Nat → Bool} : (rowB n h i).map (frz H fz) = rowB n h i := by simp [rowB, Function.comp_def]
theorem RefFns.tail {w : Word} (hwok : w.Ok) (hr : w.right = true) (hn : w.v.length ≤ 1000000) {op : Int} (h15 : 15 ≤ op) (h24 : op ≤ 24) {a b : Nat → Bool} {y : L} {n pl : Int} {l : List T} (hy : y = rowL true w.v.length b ∨ (y = .view 1 3 0 w.v.length true ∧ b = fun _ => false))
  {E : Env} (h2 : lk E 2 = .ptr 0 0) (h3 : lk E 3 = .ptr 1 0) (h5 : lk E 5 = intL w.v.length) (h6 : lk E 6 = .view 1 2 0 w.v.length true) (h10 : lk E 10 = rowL true w.v.length a) (h11 : lk E 11 = y) :
  lwp P 0 (irAllR8 F.all F.li F.ev F.nx F.un) (fnPost [RV.t 4] fun x H' => reso H' 4 x = some (rowL true w.v.length (semStep w op a b))) E [some [intL op, intL n, intL pl, .sl 4 false (l.map T.toL)], some w.cells, some (List.replicate w.v.length (L.v (Value.bool false))), some (List.replicate w.v.length (L.v (Value.bool false)))] := by
 have hnw : ∀ i : Nat, i < w.v.length → IntKind.i64.wrap ((i : Int) + 1) = ((i + 1 : Nat) : Int) := fun i hi => by rw [wrap_id (by omega) (by omega)]; rfl
 have hyf : ∀ H : Heap, live H 3 = some (List.replicate w.v.length (L.v (Value.bool false))) → frz H [3] y = rowL true w.v.length b := fun H hH => by
  rcases hy with rfl | ⟨rfl, rfl⟩
  ·rfl
  ·simp only [frz, frz1]
   rw [if_pos (by simp), hH]
   simp [chunk, replB]
 simp [irAllR8, h5]
 refine ⟨by omega, ?_⟩
 refine lwp_loopF (fun i : Nat => [(2, .ptr 0 0), (3, .ptr 1 0), (5, intL w.v.length), (6, .view 1 2 0 w.v.length true), (10, rowL true w.v.length a), (11, rowL true w.v.length b), (12, .view 1 4 0 w.v.length true), (13, .view 1 5 0 w.v.length true), (14, .view 1 6 0 w.v.length true), (15, intL i)])
  (fun i => [some [intL op, intL n, intL pl, .sl 4 false (l.map T.toL)], some w.cells, some (rowB w.v.length (semStep w op a b) 0), none, some (rowB w.v.length (fun _ => true) i), some (rowB w.v.length (fun i => !a i) i), some (rowB w.v.length (fun i => !b i) i)]) (fun i => w.v.length - i) (fun i => i ≤ w.v.length) 0 (by omega) [3] ?_ ?_
 ·rw [rowB_zero, rowB_zero, rowB_zero, rowB_zero]
  refine ⟨[0, 1, 2, 3, 4, 5, 6], ?_⟩
  simp [lk_frz_map, h2, h3, h5, h6, h10, h11, Word.cells, belowL_rep]
  exact hyf _ (by simp [live])
 ·intro i hi
  simp
  refine ⟨fun hlt => ?_, fun hge => ?_⟩
  ·have s1 := rowB_set (h := fun _ => true) hlt
   have s2 := rowB_set (h := fun i => !a i) hlt
   have s3 := rowB_set (h := fun i => !b i) hlt
   simp [hlt, rowsB_getE, hnw i hlt, s1, s2, s3]
   refine ⟨by omega, i + 1, by omega, by show w.v.length - (i + 1) < w.v.length - i; omega, [], [0, 1, 2, 3, 4, 5, 6], ?_⟩
   simp [rowB_below, rowB_ren, rowB_frz, Word.cells]
  ·have : i = w.v.length := by omega
   subst this
   simp only [rowB_all]
   simp
   refine lwp_loopF (fun i : Nat => [(2, .ptr 0 0), (3, .ptr 1 0), (5, intL w.v.length), (6, .view 1 2 0 w.v.length true), (10, rowL true w.v.length a), (11, rowL true w.v.length b), (12, rowL true w.v.length (fun _ => true)), (13, rowL true w.v.length (fun i => !a i)), (14, rowL true w.v.length (fun i => !b i)), (16, intL i)])
    (fun i => [some [intL op, intL n, intL pl, .sl 4 false (l.map T.toL)], some w.cells, some (rowB w.v.length (semStep w op a b) i), none, none, none, none]) (fun i => w.v.length - i) (fun i => i ≤ w.v.length) 0 (by omega) [4, 5, 6] ?_ ?_
   ·refine ⟨[0, 1, 2, 3, 4, 5, 6], ?_⟩
    simp [rowB_below, rowB_ren, rowB_frz, Word.cells]
   ·intro i hi
    simp
    refine ⟨fun hlt => ?_, fun hge => ?_⟩
    ·simp [hlt]
     refine semR_body F.inx F.iun hwok hr hn h15 h24 hlt (by simp) (by simp) (by simp) (by simp) (by simp) (by simp) (by simp) (by simp) (by simp) (v5 := intL w.v.length) (by simp) fun E' g2 g3 g6 g10 g11 g12 g13 g14 g16 g5 => ?_
     simp [g16, hnw i hlt]
     refine ⟨i + 1, by omega, by show w.v.length - (i + 1) < w.v.length - i; omega, [], [0, 1, 2, 3, 4, 5, 6], ?_⟩
     simp [rowB_below, rowB_ren, rowB_frz, lk_frz_map, Word.cells, g2, g3, g5, g6, g10, g11, g12, g13, g14]
    ·have : i = w.v.length := by omega
     subst this
     simp only [rowB_all]
     simp [rowsB]
theorem RefFns.all_any {w : Word} (hwok : w.Ok) (hr : w.right = true) (hn : w.v.length ≤ 1000000) {vars : Int} : ∀ t : T, t.Ok → t.may vars = true → t.type.2.1 = 0 → t.type.1 ≠ 1 → PC P F.all [t.toL, w.L] (rowL true w.v.length (t.sat w)) := by
 intro t
 refine T.ind (M := fun t => t.Ok → t.may vars = true → t.type.2.1 = 0 → t.type.1 ≠ 1 → PC P F.all [t.toL, w.L] (rowL true w.v.length (t.sat w))) ?_ t
 intro op n pl l ih hok hm hg h1
 have hlit := lit_gen F.ili F.ity _ hok
 refine pc_of_call (callAt_enter F.iall (by simp [irAllR]) ?_)
 cases hl : (T.mk op n pl l).lit
 ·rw [hl] at hlit
  obtain ⟨h15, h24, hw, hk⟩ := time_kids hm hg h1 hl
  rw [T.sat_mk hl]
  have hkid := fun t ht => ih t ht (hok.kid t ht) (hk t ht).1 (hk t ht).2.1 (hk t ht).2.2
  have hwant : wants op = 1 ∨ wants op = 2 := by unfold wants; rw [if_neg (by omega)]; split <;> simp
  cases l with
  | nil => simp at hw; omega
  | cons x l =>
   have hx := hkid x (by simp)
   simp [irAllR, toL_mk, Word.L, Word.cells]
   refine ⟨by omega, ?_⟩
   refine callT_plain hlit rfl (by simp [toL_mk]) ?_
   simp [toL_cells_length, toL_agg]
   refine callT_closed hx (by simp [mapO, reso_toL]) ?_
   cases l with
   | nil =>
    simp
    refine ⟨by omega, ?_⟩
    refine F.tail (l := [x]) hwok hr hn h15 h24 (.inr ⟨rfl, rfl⟩) ?_ ?_ ?_ ?_ ?_ ?_ <;> simp
   | cons y l =>
    have hy := hkid y (by simp)
    have k1 : (1 : Int) < (l.length : Int) + 1 + 1 := by omega
    have k2 : ¬ (l.length : Int) + 1 + 1 ≤ 1 := by omega
    simp [k1, toL_cells_length, toL_agg]
    refine ⟨by omega, ?_⟩
    refine callT_closed hy (by simp [mapO, reso_toL]) ?_
    simp
    refine F.tail (l := x :: y :: l) hwok hr hn h15 h24 (.inl rfl) ?_ ?_ ?_ ?_ ?_ ?_ <;> simp
 ·rw [hl] at hlit
  rw [T.sat_lit hl]
  have hg2 : (T.mk op n pl l).type.1 = 2 := by
   simp [T.lit] at hl; exact hl.2
  simp [irAllR, toL_mk, Word.L, Word.cells]
  refine ⟨by omega, ?_⟩
  refine callT_plain hlit rfl (by simp [toL_mk]) ?_
  simp
  refine lwp_loop (fun i : Nat => [(2, .ptr 0 0), (3, .ptr 1 0), (5, intL w.v.length), (6, .view 1 2 0 w.v.length true), (8, intL i)])
   (fun i => [some [intL op, intL n, intL pl, .sl 4 false (l.map T.toL)], some w.cells, some (rowB w.v.length (fun i => decide ((T.mk op n pl l).eval (w.v.getD i []) = 1)) i)]) (fun i => w.v.length - i) (fun i => i ≤ w.v.length) 0 (by omega) ?_ ?_
  ·rw [rowB_zero]
   refine ⟨[0, 1, 2], ?_⟩
   simp [Word.cells, belowL_rep]
  ·intro i hi
   simp [Word.cells]
   refine ⟨fun hlt => ?_, fun hge => ?_⟩
   ·simp [hlt]
    have hev := evalR_gen (c := false) F.iev F.itr (hwok.row _ (List.getElem_mem hlt)) _ hok
    refine callT_plain hev rfl (by simp [toL_mk]) ?_
    have hset := rowB_set (h := fun i => decide ((T.mk op n pl l).eval (w.v.getD i []) = 1)) hlt
    have hnw : IntKind.i64.wrap ((i : Int) + 1) = ((i + 1 : Nat) : Int) := by rw [wrap_id (by omega) (by omega)]; rfl
    simp [hlt] at hset
    simp [hlt, hnw, hset]
    refine ⟨by omega, i + 1, by omega, by show w.v.length - (i + 1) < w.v.length - i; omega, [0, 1, 2], ?_⟩
    simp [rowB_below, rowB_ren]
   ·have : i = w.v.length := by omega
    subst this
    rw [rowB_all]
    simp [rowsB]
end
end Lg

