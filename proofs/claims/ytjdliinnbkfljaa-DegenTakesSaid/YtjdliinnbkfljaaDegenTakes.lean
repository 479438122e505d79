/- TAKES: a word is taken by the automaton made with one set if it is taken by the automaton it is made of. -/
import Derived.Test.YtjdliinnbkfljaaDegenWord
namespace Go.Proofs.Ytjdliinnbkfljaa
open Go Lg

theorem degenTakes_any (y0 : AutD) (h0 : AutOk y0) (y1 : WordD) (h1 : WordOk y1) : PC Try.prog 4 [.agg [L.sl 1 false (y0.1.map fun (z : List (T)) => L.sl 4 false (z.map fun (z : T) => z.toL)), L.sl 1 false (y0.2.1.map fun (z : List (Int)) => L.sl 1 false (z.map fun (z : Int) => L.v (.int .i64 z))), L.sl 1 false (y0.2.2.1.map fun (z : Int) => L.v (.int .i64 z)), L.sl 1 false (y0.2.2.2.map fun (z : List (Int)) => L.sl 1 false (z.map fun (z : Int) => L.v (.int .i64 z)))], .agg [L.sl 1 false (y1.1.map fun (z : List (Int)) => L.sl 1 false (z.map fun (z : Int) => L.v (.int .i64 z))), L.v (.int .i64 y1.2)]] (.v (.bool true)) := by
  show PC Try.prog 4 [(autOf y0).L, (wordOf y1).L] (boolL true)
  have ha := autOf_ok h0
  have hw := wordOf_ok h1
  generalize autOf y0 = a at ha
  generalize wordOf y1 = w at hw
  refine pc_of_call (callAt_enter ir4 (by simp) ?_)
  simp [Aut.L, Aut.cells, Word.L, Word.cells]
  refine callT_closed shown_any rfl ?_
  simp
  refine callT_plain (few18_any ha 8) rfl (by simp [Aut.L, Aut.cells]) ?_
  cases hf : a.few18 8
  · simp
  · have hfew := few18_facts hf
    by_cases hk2 : 5 < a.acc.length
    · have hk2' : (5 : Int) < a.acc.length := by omega
      have hk2'' : ¬ (a.acc.length : Int) ≤ 5 := by omega
      simp [hk2', hk2'']
    · have hk2' : ¬ (5 : Int) < a.acc.length := by omega
      have hk2'' : (a.acc.length : Int) ≤ 5 := by omega
      simp [hk2', hk2'']
      refine callT_plain (right18_any ha) rfl (by simp [Aut.L, Aut.cells]) ?_
      cases hright : a.right
      · simp
      · simp
        refine callT_plain (may18_any ha 3) rfl (by simp [Aut.L, Aut.cells]) ?_
        cases hmay : a.may 3
        · simp
        · simp
          refine callT_plain (right17_any w) rfl (by simp [Word.L, Word.cells]) ?_
          cases hwr : w.right
          · simp
          · simp
            by_cases hv : 8 < w.v.length
            · have hv' : (8 : Int) < w.v.length := by omega
              have hv'' : ¬ (w.v.length : Int) ≤ 8 := by omega
              simp [hv', hv'']
            · have hv' : ¬ (8 : Int) < w.v.length := by omega
              have hv'' : (w.v.length : Int) ≤ 8 := by omega
              simp [hv', hv'']
              have ho := ofOk_of ha (by omega) hfew hright (by omega)
              have ht := takesOk_of ha (by omega) hfew hright hw hwr (by omega)
              have hl := hfew.lits
              have hN : a.lits.length * a.k ≤ 1000 := by have := Nat.mul_le_mul (show a.lits.length ≤ 8 by omega) (sets_le (a := a) (m := 5) (by omega) (by omega)); omega
              have htb := takesOk_deg ho ht hN hfew.ends
              refine callT_closed (of_any ho) (by simp [Aut.L, Aut.cells]) ?_
              have hb := degenOf_ok ho
              have hbr := degenOf_right ho
              have hbm := degenOf_may hmay
              have hbt := takes_degen ho ht
              have hba : (degenOf a).acc.length = 1 := rfl
              generalize degenOf a = b at hb hbr hbm hbt hba htb
              simp [Aut.L, Aut.cells]
              refine callT_plain (right18_any hb) rfl (by simp [Aut.L, Aut.cells]) ?_
              simp [hbr, hba]
              refine callT_plain (may18_any hb 3) rfl (by simp [Aut.L, Aut.cells]) ?_
              simp [hbm]
              refine bcallT_plain (takes_any htb) rfl (by simp [Aut.L, Aut.cells, Word.L, Word.cells]) ?_
              simp
              refine callT_plain (takes_any ht) rfl (by simp [Aut.L, Aut.cells, Word.L, Word.cells]) ?_
              simp [hbt]

end Go.Proofs.Ytjdliinnbkfljaa
