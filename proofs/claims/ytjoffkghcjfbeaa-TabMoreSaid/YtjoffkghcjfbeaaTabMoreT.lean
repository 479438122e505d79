/- MORE: regions whose order is open. -/
import Derived.Test.YtjoffkghcjfbeaaTabFn
import Derived.Test.YtjoffkghcjfbeaaTabIr7
namespace Go.Proofs.Ytjoffkghcjfbeaa
open Go Lg
def tC (op n pl : Int) (l : List T) : List L := [intL op, intL n, intL pl, .sl 4 false (l.map T.toL)]
def m1H (a : Aut) (w : Word) (tc : List L) (ar : List L) : Heap := [some ar, some a.cells, some w.cells, some tc, some [.sl 1 false (a.lits.map treesL), .view 1 6 0 a.next.length false, intsL a.init, .sl 1 false (a.acc.map intsL)], none, some (a.next.map intsL)]
def setN (a : Aut) (x : Nat) (y : Nat) : List L := (a.next.map intsL).set x (.sl 1 false ((a.next.getD x [] ++ [(y : Int)]).map intL))
set_option maxHeartbeats 4000000 in
theorem more1 {Q : X → Env → Heap → Prop} {E : Env} {a : Aut} {w : Word} {op n pl : Int} {l : List T} {ar : List L} {x y : Nat} {b : Bool} (hx : x < a.next.length) (hn : a.next.length ≤ 8) (hrow : ∀ r ∈ a.next, r.length < 4000)
  (h3 : lk E 3 = .ptr 1 0) (h4 : lk E 4 = .ptr 2 0) (h7 : lk E 7 = .ptr 3 0) (h8 : lk E 8 = boolL true) (h10 : lk E 10 = intL x) (h11 : lk E 11 = intL y) (h12 : lk E 12 = boolL b) (h13 : lk E 13 = .ptr 4 0)
  (next : Q .normal [(3, .ptr 0 0), (4, .ptr 1 0), (7, .ptr 2 0), (8, boolL true), (10, intL x), (11, intL y), (12, boolL b), (13, .ptr 3 0)]
   [some a.cells, some w.cells, some (tC op n pl l), some [.sl 1 false (a.lits.map treesL), .view 1 4 0 a.next.length false, intsL a.init, .sl 1 false (a.acc.map intsL)], some (setN a x y)]) :
  lwp Try.prog 0 irMT1 Q E (m1H a w (tC op n pl l) ar) := by
 have hr := hrow _ (List.getElem_mem hx)
 have hb1 : a.next[x].length * 8 ≤ 70368744177664 := by omega
 have hb2 : (a.next[x].length + 1) * 8 ≤ 70368744177664 := by omega
 refine lwp_drawNF (fun _ : Unit => _) (fun _ => _) (fun _ => True) ?_ (fun _ _ => next)
 simp [m1H, h3, h10, h11, h13, Aut.cells, lot_done, lot_none, lot_alts, stableO, hx, hb1, hb2, -List.all_eq_true]
 have hs : a.next[x].all (solid ∘ intL) = true := List.all_eq_true.2 fun r _ => by simp
 have hg : a.next[x]?.getD [] = a.next[x] := by simp [hx]
 simp only [hs, true_and, show x + 1 ≤ a.next.length from hx]
 have hb : belowL 5 ((a.next.map intsL).set x (.sl 1 false (a.next[x].map intL ++ [intL (y : Int)]))) = true := belowL_set (by simp) (by simp)
 refine ⟨⟨?_, ?_⟩, ?_⟩ <;>
 ·refine ⟨(), trivial, [10], [1, 2, 3, 4, 6], ?_⟩
  simp [lk_frz_map, h3, h4, h7, h8, h10, h11, h12, h13, setN, hg, tC, Word.cells, Function.comp_def]
  exact hb
def m2H (a : Aut) (w : Word) (tc : List L) (x y : Nat) : Heap := [some a.cells, some w.cells, some tc,
 some [.sl 1 false (a.lits.map treesL), .view 1 4 0 a.next.length false, intsL a.init, .sl 1 false (a.acc.map intsL)], some (setN a x y),
 some [.sl 1 false (a.lits.map treesL), .sl 1 false (a.next.map intsL), .view 1 9 0 (a.init.length + 1) false, .sl 1 false (a.acc.map intsL)],
 none, none, some [intL y], some (a.init.map intL ++ [intL y]),
 some [.view 1 12 0 a.lits.length false, .sl 1 false (a.next.map intsL), intsL a.init, .sl 1 false (a.acc.map intsL)], none, some (a.lits.map treesL)]
def askN (a : Aut) (x : Nat) (t : L) : List L := (a.lits.map treesL).set x (.sl 4 false ((a.lits.getD x []).map T.toL ++ [t]))
set_option maxHeartbeats 4000000 in
theorem more2 {Q : X → Env → Heap → Prop} {E : Env} {a : Aut} {w : Word} {op n pl : Int} {l : List T} {x y : Nat} {b : Bool} (hx : x < a.lits.length) (hn : a.lits.length ≤ 8) (hrow : ∀ r ∈ a.lits, r.length < 4000)
  (h3 : lk E 3 = .ptr 0 0) (h4 : lk E 4 = .ptr 1 0) (h7 : lk E 7 = .ptr 2 0) (h8 : lk E 8 = boolL true) (h10 : lk E 10 = intL x) (h11 : lk E 11 = intL y) (h12 : lk E 12 = boolL b) (h13 : lk E 13 = .ptr 3 0) (h14 : lk E 14 = .ptr 5 0) (h15 : lk E 15 = .ptr 10 0)
  (next : Q .normal [(3, .ptr 0 0), (4, .ptr 1 0), (7, .ptr 2 0), (8, boolL true), (10, intL x), (11, intL y), (12, boolL b), (13, .ptr 3 0), (14, .ptr 5 0), (15, .ptr 7 0)]
   [some a.cells, some w.cells, some (tC op n pl l), some [.sl 1 false (a.lits.map treesL), .view 1 4 0 a.next.length false, intsL a.init, .sl 1 false (a.acc.map intsL)], some (setN a x y),
    some [.sl 1 false (a.lits.map treesL), .sl 1 false (a.next.map intsL), .view 1 6 0 (a.init.length + 1) false, .sl 1 false (a.acc.map intsL)], some (a.init.map intL ++ [intL y]),
    some [.view 1 8 0 a.lits.length false, .sl 1 false (a.next.map intsL), intsL a.init, .sl 1 false (a.acc.map intsL)], some (askN a x (.agg (tC op n pl l)))]) :
  lwp Try.prog 0 irMT2 Q E (m2H a w (tC op n pl l) x y) := by
 have hr := hrow _ (List.getElem_mem hx)
 have hb1 : a.lits[x].length * 48 ≤ 70368744177664 := by omega
 have hb2 : (a.lits[x].length + 1) * 48 ≤ 70368744177664 := by omega
 refine lwp_drawNF (fun _ : Unit => _) (fun _ => _) (fun _ => True) ?_ (fun _ _ => next)
 simp [m2H, h3, h7, h10, h15, Aut.cells, tC, lot_done, lot_none, lot_alts, stableO, hx, hb1, hb2, -List.all_eq_true]
 have hsum : ((a.lits[x]).map ((fun a : L => a.cells.length) ∘ T.toL)).sum = a.lits[x].length * 4 := by
  rw [← trC_length (l := a.lits[x])]
  simp [trC, List.length_flatMap, Function.comp_def]
 have hdiv : a.lits[x].length * 4 / 4 = a.lits[x].length := by omega
 have hfl : List.flatMap L.cells ((a.lits[x]).map T.toL) = trC a.lits[x] := by simp [trC, List.flatMap_map]
 have hsol : a.lits[x].all ((fun a => a.cells.all solid) ∘ T.toL) = true := List.all_eq_true.2 fun r _ => List.all_eq_true.2 fun c hc => solid_toL c hc
 have hd : 4 ∣ a.lits[x].length * 4 := ⟨_, Nat.mul_comm _ _⟩
 have hb3 : a.lits[x].length * 4 * 48 ≤ 70368744177664 := by omega
 have hb4 : (a.lits[x].length * 4 + 4) * 48 ≤ 70368744177664 := by omega
 have hg : a.lits[x]?.getD [] = a.lits[x] := by simp [hx]
 simp only [hsum, hdiv, hfl, hsol, hd, hb3, hb4, true_and, show x + 1 ≤ a.lits.length from hx, and_true]
 have hcl : trC a.lits[x] ++ [intL op, intL n, intL pl, L.sl 4 false (l.map T.toL)] = trC (a.lits[x] ++ [T.mk op n pl l]) := by simp [trC, toL_mk]
 simp only [hcl]
 have hlen : (trC (a.lits[x] ++ [T.mk op n pl l])).length = (a.lits[x].length + 1) * 4 := by simp
 have hch := trC_chunk (l := a.lits[x] ++ [T.mk op n pl l])
 simp only [List.length_append, List.length_cons, List.length_nil, Nat.zero_add] at hch
 have hb : belowL 9 ((a.lits.map treesL).set x (.sl 4 false ((a.lits[x]).map T.toL ++ [.agg [intL op, intL n, intL pl, .sl 4 false (l.map T.toL)]]))) = true := belowL_set (by simp) (by simp)
 have hcl2 : (trC (a.lits[x] ++ [T.mk op n pl l])).all closed = true := trC_closed
 have htk : (trC (a.lits[x] ++ [T.mk op n pl l])).take ((a.lits[x].length + 1) * 4) = trC (a.lits[x] ++ [T.mk op n pl l]) := List.take_of_length_le (by omega)
 refine ⟨⟨?_, ?_⟩, ?_⟩
 all_goals
  refine ⟨(), trivial, [16], [0, 1, 2, 3, 4, 5, 9, 10, 12], ?_⟩
  simp [lk_frz_map, h3, h4, h7, h8, h10, h11, h12, h13, h14, h15, askN, setN, hg, Word.cells, Function.comp_def, hlen, hch, hcl2, htk, -List.all_eq_true]
  exact ⟨belowL_set (by simp) (by simp), by simp [toL_mk], hb⟩
end Go.Proofs.Ytjoffkghcjfbeaa

