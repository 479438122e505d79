/- UNROLLS: which words are taken hangs on the endless word alone. -/
import Derived.Test.YtjoffkghcjfbeaaTabTells
import Derived.Test.YtjoffkghcjfbeaaTabIr6
import Derived.Test.YtjoffkghcjfbeaaLibAtBis
namespace Go.Proofs.Ytjoffkghcjfbeaa
open Go Lg
theorem twice_ok {w : Word} (hw : w.Ok) (hr : w.right = true) (hn : w.v.length ≤ 8) : w.twice.Ok ∧ w.twice.v.length ≤ 16 := by
 have hn2 : w.twice.v.length = w.v.length + (w.v.length - w.loop.toNat) := by simp [Word.twice]
 refine ⟨⟨by omega, fun r hr' => ?_⟩, by omega⟩
 rcases List.mem_append.1 hr' with h | h
 ·exact hw.row r h
 ·exact hw.row r (List.mem_of_mem_drop h)
theorem turned_ok {w : Word} (hw : w.Ok) (hr : w.right = true) (hn : w.v.length ≤ 8) : w.turned.Ok ∧ w.turned.v.length ≤ 9 := by
 have hn2 : w.turned.v.length = w.v.length + 1 := by simp [Word.turned]
 have hl := right_loop hr
 refine ⟨⟨by omega, fun r hr' => ?_⟩, by omega⟩
 rcases List.mem_append.1 hr' with h | h
 ·exact hw.row r h
 ·rw [List.mem_singleton.1 h]
  simp only [List.getD, List.getElem?_eq_getElem hl.1, Option.getD_some]
  exact hw.row _ (List.getElem_mem hl.1)
theorem belowA {n : Nat} {a : Aut} : belowL n a.cells = true := by simp [Aut.cells]
theorem renA {f : Nat → Nat} {a : Aut} : renL f a.cells = a.cells := by simp [Aut.cells]
theorem frzA {H : Heap} {fz : List Nat} {a : Aut} : a.cells.map (frz H fz) = a.cells := by simp [Aut.cells, frz]
set_option maxRecDepth 100000 in
set_option maxHeartbeats 8000000 in
theorem unrolls_walk {a : Aut} {w : Word} (ha : a.Ok) (hw : w.Ok) : PC Try.prog 6 [a.L, w.L] (boolL true) := by
 refine pc_of_call (callAt_enterS ir6 (by simp) ?_)
 simp [Aut.L, Aut.cells, Word.L, Word.cells]
 refine callT_closed shown_any rfl ?_
 simp
 refine callT_plain (few18_any ha 8) rfl (by simp [Aut.L, Aut.cells]) ?_
 cases hf : a.few18 8
 ·simp
 have hfew := few18_facts hf
 simp
 refine callT_plain (right18_any ha) rfl (by simp [Aut.L, Aut.cells]) ?_
 cases hr : a.right
 ·simp
 simp
 refine callT_plain (may18_any ha 3) rfl (by simp [Aut.L, Aut.cells]) ?_
 cases hm : a.may 3
 ·simp
 simp
 refine callT_plain (right17_any w) rfl (by simp [Word.L, Word.cells]) ?_
 cases hwr : w.right
 ·simp
 simp
 intro hl
 obtain ⟨w2, l2⟩ := twice_ok hw hwr (by omega)
 obtain ⟨w3, l3⟩ := turned_ok hw hwr (by omega)
 have ok1 := takesOk_of ha (by omega) hfew hr hw hwr (by omega)
 have ok2 := takesOk_of ha (by omega) hfew hr w2 (twice_right hwr) (by omega)
 have ok3 := takesOk_of ha (by omega) hfew hr w3 (turned_right hwr) (by omega)
 have t1 := takesP_any ok1 hm
 have t2 := takesP_any ok2 hm
 have t3 := takesP_any ok3 hm
 rw [takes_bis ⟨hr, hwr⟩ ⟨hr, twice_right hwr⟩ (bis_twice hwr)] at t2
 rw [takes_bis ⟨hr, hwr⟩ ⟨hr, turned_right hwr⟩ (bis_turned hwr)] at t3
 generalize a.takes w = b at t1 t2 t3
 refine unrollT5 hw (by omega) hwr (by simp) (by simp) (by simp) (belowA (a := a)) (fun _ => renA) (fun _ _ => frzA) ?_
 simp
 refine unrollT6 hw (by omega) hwr (by simp) (by simp) (by simp) (by simp) (belowA (a := a)) (fun _ => renA) (fun _ _ => frzA) (by simp [Word.cells]) (fun _ => by simp [Word.cells]) (fun _ _ => by simp [Word.cells, frz]) ?_
 simp [Word.cells]
 refine callT_closed t1 (by simp [Aut.L, Aut.cells, Word.L, Word.cells]) ?_
 simp
 refine callT_closed t2 (by simp [Aut.L, Aut.cells, Word.L, Word.cells]) ?_
 simp
 refine callT_closed t3 (by simp [Aut.L, Aut.cells, Word.L, Word.cells]) ?_
 simp
theorem tabUnrolls_any (y0 : AutD) (h0 : AutDOk y0) (y1 : WordD) (h1 : WordOk y1) : PC Try.prog 6 [(autOf y0).L, (wordOf y1).L] (.v (.bool true)) := unrolls_walk (autOf_ok h0) (wordOf_ok h1)
end Go.Proofs.Ytjoffkghcjfbeaa

