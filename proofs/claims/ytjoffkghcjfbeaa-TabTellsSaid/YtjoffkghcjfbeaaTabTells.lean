/- Which automata are right, which states fit, and which words are taken. -/
import Derived.Test.YtjoffkghcjfbeaaTabShown
namespace Go.Proofs.Ytjoffkghcjfbeaa
open Go Lg
theorem takesOk_of {a : Aut} (ha : a.Ok) {m : Int} (hm : m ≤ 1000) (hf : Few18 a m) (hr : a.right = true) {w : Word} (hw : w.Ok) (hwr : w.right = true) (hv : w.v.length ≤ 500) : TakesOk a w :=
 ⟨ha, hw, hr, hwr, by have := hf.lits; omega, hv, hf.rows, by have := hf.ends; omega⟩
set_option maxRecDepth 100000 in
set_option maxHeartbeats 8000000 in
theorem tells_walk {a : Aut} {w : Word} {q : Int} (ha : a.Ok) (hw : w.Ok) : PC Try.prog 3 [a.L, w.L, intL q] (boolL true) := by
 refine pc_of_call (callAt_enter ir3 (by simp) ?_)
 simp [Aut.L, Aut.cells, Word.L, Word.cells]
 refine callT_closed shown_any rfl ?_
 simp
 refine callT_plain (few18_any ha 12) rfl (by simp [Aut.L, Aut.cells]) ?_
 cases hf : a.few18 12
 ·simp
 have hfew := few18_facts hf
 simp
 intro hl
 refine callT_plain (may18_any ha 1073741824) rfl (by simp [Aut.L, Aut.cells]) ?_
 cases hm0 : a.may 1073741824
 ·simp
 simp
 refine callT_plain (right18_any ha) rfl (by simp [Aut.L, Aut.cells]) ?_
 simp
 refine callT_plain (rightP_any ha (by have := hfew.next; omega) (by have := hfew.ends; omega)) rfl (by simp [Aut.L, Aut.cells]) ?_
 cases hr : a.right
 ·simp
 simp
 refine callT_plain (right17_any w) rfl (by simp [Word.L, Word.cells]) ?_
 cases hwr : w.right
 ·simp
 simp
 refine callT_plain (may18_any ha 3) rfl (by simp [Aut.L, Aut.cells]) ?_
 cases hm : a.may 3
 ·simp
 have hv0 : 0 < w.v.length := right_len hwr
 have ok := takesOk_of ha (by omega) hfew hr hw hwr (by omega)
 have t1 := takesP_any ok hm
 have t2 := takesR_any ok
 generalize a.takes w = b at t1 t2
 have hv : w.v[0]? = some w.v[0] := List.getElem?_eq_getElem hv0
 simp [hv]
 refine ⟨fun h0 => ⟨fun hq => ?_, fun hq => ?_⟩, fun h0 => ?_⟩
 ·obtain ⟨k, rfl⟩ := Int.eq_ofNat_of_zero_le h0
  have hk : k < a.lits.length := by omega
  have hr0 := hw.row _ (List.getElem_mem hv0)
  have f1 := fitP_any ha hr hm hk (c := false) (v := w.v[0]) hr0
  have f2 := fits_any ha hk (c := false) w.v[0] hr0
  generalize a.fits k w.v[0] = f at f1 f2
  refine bcallT_plain f1 rfl (by simp [Aut.L, Aut.cells]) ?_
  simp [hv]
  refine callT_plain f2 rfl (by simp [Aut.L, Aut.cells]) ?_
  simp
  refine bcallT_plain t1 rfl (by simp [Aut.L, Aut.cells, Word.L, Word.cells]) ?_
  simp
  refine callT_plain t2 rfl (by simp [Aut.L, Aut.cells, Word.L, Word.cells]) ?_
  simp
 ·refine bcallT_plain t1 rfl (by simp [Aut.L, Aut.cells, Word.L, Word.cells]) ?_
  simp
  refine callT_plain t2 rfl (by simp [Aut.L, Aut.cells, Word.L, Word.cells]) ?_
  simp
 ·refine bcallT_plain t1 rfl (by simp [Aut.L, Aut.cells, Word.L, Word.cells]) ?_
  simp
  refine callT_plain t2 rfl (by simp [Aut.L, Aut.cells, Word.L, Word.cells]) ?_
  simp
theorem tabTells_any (y0 : AutD) (h0 : AutDOk y0) (y1 : WordD) (h1 : WordOk y1) (y2 : Int) (h2 : (Lit.int .i64 y2).wf = true) : PC Try.prog 3 [(autOf y0).L, (wordOf y1).L, intL y2] (.v (.bool true)) := tells_walk (autOf_ok h0) (wordOf_ok h1)
end Go.Proofs.Ytjoffkghcjfbeaa

