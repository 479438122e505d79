/- TELLS: what the program makes is what the answer's text makes. -/
import Derived.Test.YtjdliinnbkfljaaDegenWord
import Derived.Test.YtjdliinnbkfljaaLibRefGen
namespace Go.Proofs.Ytjdliinnbkfljaa
open Go Lg

theorem ref_any {a : Aut} (h : OfOk a) : PC Try.prog 14 [a.L] (degenOf a).L := ref_gen (se := 26) (isn := 27) ir14 ir26 ir27 h

theorem degenTells_any (y0 : (List (List (T))) × (List (List (Int))) × (List (Int)) × (List (List (Int)))) (h0 : ((∀ z ∈ y0.1, (∀ zz ∈ z, T.Ok zz) ∧ z.length * 48 ≤ 140737488351232) ∧ y0.1.length * 24 ≤ 140737488351232) ∧ ((∀ z ∈ y0.2.1, (∀ zz ∈ z, (Lit.int .i64 zz).wf = true) ∧ z.length * 8 ≤ 140737488351232) ∧ y0.2.1.length * 24 ≤ 140737488351232) ∧ ((∀ z ∈ y0.2.2.1, (Lit.int .i64 z).wf = true) ∧ y0.2.2.1.length * 8 ≤ 140737488351232) ∧ ((∀ z ∈ y0.2.2.2, (∀ zz ∈ z, (Lit.int .i64 zz).wf = true) ∧ z.length * 8 ≤ 140737488351232) ∧ y0.2.2.2.length * 24 ≤ 140737488351232)) : PC Try.prog 3 [.agg [L.sl 1 false (y0.1.map fun (z : List (T)) => L.sl 4 false (z.map fun (z : T) => z.toL)), L.sl 1 false (y0.2.1.map fun (z : List (Int)) => L.sl 1 false (z.map fun (z : Int) => L.v (.int .i64 z))), L.sl 1 false (y0.2.2.1.map fun (z : Int) => L.v (.int .i64 z)), L.sl 1 false (y0.2.2.2.map fun (z : List (Int)) => L.sl 1 false (z.map fun (z : Int) => L.v (.int .i64 z)))]] (.v (.bool true)) := by
  show PC Try.prog 3 [(autOf y0).L] (boolL true)
  have ha := autOf_ok h0
  generalize autOf y0 = a at ha
  refine pc_of_call (callAt_enter ir3 (by simp) ?_)
  simp [Aut.L, Aut.cells]
  refine callT_closed shown_any rfl ?_
  simp
  refine callT_plain (few18_any ha 20) rfl (by simp [Aut.L, Aut.cells]) ?_
  cases hf : a.few18 20
  · simp
  · have hfew := few18_facts hf
    by_cases hk2 : 30 < a.acc.length
    · have hk2' : (30 : Int) < a.acc.length := by omega
      have hk2'' : ¬ (a.acc.length : Int) ≤ 30 := by omega
      simp [hk2', hk2'']
    · have hk2' : ¬ (30 : Int) < a.acc.length := by omega
      have hk2'' : (a.acc.length : Int) ≤ 30 := by omega
      simp [hk2', hk2'']
      refine callT_plain (may18_any ha 1073741824) rfl (by simp [Aut.L, Aut.cells]) ?_
      cases hmay : a.may 1073741824
      · simp
      · simp
        refine callT_plain (right18_any ha) rfl (by simp [Aut.L, Aut.cells]) ?_
        cases hright : a.right
        · simp
        · simp
          have ho := ofOk_of ha (by omega) hfew hright (by omega)
          have hb := degenOf_ok ho
          refine bcallT_closed (of_any ho) (by simp [Aut.L, Aut.cells]) ?_
          simp
          refine callT_closed (ref_any ho) (by simp [Aut.L, Aut.cells]) ?_
          simp
          refine callT_plain (same18_any hb hb) rfl (by simp [Aut.L, Aut.cells]) ?_
          simp

end Go.Proofs.Ytjdliinnbkfljaa
