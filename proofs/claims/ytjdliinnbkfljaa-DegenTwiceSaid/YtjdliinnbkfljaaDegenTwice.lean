/- TWICE: the automaton made with one set, made once more, is itself. -/
import Derived.Test.YtjdliinnbkfljaaDegenWord
import Derived.Test.YtjdliinnbkfljaaLibDegQ
namespace Go.Proofs.Ytjdliinnbkfljaa
open Go Lg

theorem degenTwice_any (y0 : AutD) (h0 : AutOk y0) (y1 : WordD) (h1 : WordOk y1) : PC Try.prog 5 [.agg [L.sl 1 false (y0.1.map fun (z : List (T)) => L.sl 4 false (z.map fun (z : T) => z.toL)), L.sl 1 false (y0.2.1.map fun (z : List (Int)) => L.sl 1 false (z.map fun (z : Int) => L.v (.int .i64 z))), L.sl 1 false (y0.2.2.1.map fun (z : Int) => L.v (.int .i64 z)), L.sl 1 false (y0.2.2.2.map fun (z : List (Int)) => L.sl 1 false (z.map fun (z : Int) => L.v (.int .i64 z)))], .agg [L.sl 1 false (y1.1.map fun (z : List (Int)) => L.sl 1 false (z.map fun (z : Int) => L.v (.int .i64 z))), L.v (.int .i64 y1.2)]] (.v (.bool true)) := by
  show PC Try.prog 5 [(autOf y0).L, (wordOf y1).L] (boolL true)
  have ha := autOf_ok h0
  have hw := wordOf_ok h1
  generalize autOf y0 = a at ha
  generalize wordOf y1 = w at hw
  refine pc_of_call (callAt_enter ir5 (by simp) ?_)
  simp [Aut.L, Aut.cells, Word.L, Word.cells]
  refine callT_closed shown_any rfl ?_
  simp
  refine callT_plain (few18_any ha 8) rfl (by simp [Aut.L, Aut.cells]) ?_
  cases hf : a.few18 8
  · simp
  · have hfew := few18_facts hf
    by_cases hk2 : 5 < a.acc.length
    · have hk2' : (5 : Int) < a.acc.length := by omega
      have hk2'' : ¬ (a.acc.length : Int) ≤ 5 := by omega
      simp [hk2', hk2'']
    · have hk2' : ¬ (5 : Int) < a.acc.length := by omega
      have hk2'' : (a.acc.length : Int) ≤ 5 := by omega
      simp [hk2', hk2'']
      refine callT_plain (right18_any ha) rfl (by simp [Aut.L, Aut.cells]) ?_
      cases hright : a.right
      · simp
      · simp
        refine callT_plain (may18_any ha 3) rfl (by simp [Aut.L, Aut.cells]) ?_
        cases hmay : a.may 3
        · simp
        · simp
          refine callT_plain (right17_any w) rfl (by simp [Word.L, Word.cells]) ?_
          cases hwr : w.right
          · simp
          · simp
            by_cases hv : 8 < w.v.length
            · have hv' : (8 : Int) < w.v.length := by omega
              have hv'' : ¬ (w.v.length : Int) ≤ 8 := by omega
              simp [hv', hv'']
            · have hv' : ¬ (8 : Int) < w.v.length := by omega
              have hv'' : (w.v.length : Int) ≤ 8 := by omega
              simp [hv', hv'']
              have ho := ofOk_of ha (by omega) hfew hright (by omega)
              have hl := hfew.lits
              have hN : a.lits.length * a.k ≤ 1000 := by have := Nat.mul_le_mul (show a.lits.length ≤ 8 by omega) (sets_le (a := a) (m := 5) (by omega) (by omega)); omega
              have hob := degen_ofOk ho hN
              refine callT_closed (of_any ho) (by simp [Aut.L, Aut.cells]) ?_
              have hb := degenOf_ok ho
              have hbr := degenOf_right ho
              have htw := degen_twice ho
              have hbl := deg_lits (a := a)
              have hbn := deg_next (a := a)
              have hbi : (degenOf a).init.length = a.init.length := by simp [degenOf]
              have hone : a.k = 1 → (degenOf a).next = a.next ∧ (degenOf a).init = a.init := fun h => by
                have := degen_one h ho.next
                exact this.2
              generalize degenOf a = b at hb hbr hob htw hbl hbn hbi hone
              have hof2 := of_any hob
              rw [htw] at hof2
              simp [Aut.L, Aut.cells]
              refine callT_closed hof2 (by simp [Aut.L, Aut.cells]) ?_
              simp [Aut.L, Aut.cells]
              refine callT_plain (same18_any hb hb) rfl (by simp [Aut.L, Aut.cells]) ?_
              simp
              refine callT_plain (right18_any hb) rfl (by simp [Aut.L, Aut.cells]) ?_
              have hni := ha.init
              have hnl := ha.next
              have fin : a.k = 1 → b.next = a.next ∧ b.init = a.init := hone
              have v1 : a.k = 1 → PC Try.prog 17 [.sl 1 false (b.next.map intsL), .sl 1 false (a.next.map intsL)] (boolL true) := fun h => by
                have := rows_any (c := false) (c' := false) b.next a.next (by rw [(hone h).1]; omega) (by rw [(hone h).1]; exact fun r hr => ha.row r hr)
                rw [(hone h).1] at this ⊢
                simpa using this
              have v2 : a.k = 1 → PC Try.prog 18 [.sl 1 false (b.init.map intL), .sl 1 false (a.init.map intL)] (boolL true) := fun h => by
                have := vec_any (c := false) (c' := false) b.init a.init (by rw [(hone h).2]; omega)
                rw [(hone h).2] at this ⊢
                simpa using this
              have hbiI : (b.init.length : Int) = (a.init.length : Int) := by omega
              by_cases hac : a.acc = []
              · have hk1 : a.k = 1 := by simp [Aut.k, Aut.sets, hac]
                rw [hk1, Nat.mul_one] at hbl
                have hblI : (b.lits.length : Int) = (a.lits.length : Int) := by omega
                have hwr1 : IntKind.i64.wrap (a.lits.length : Int) = (a.lits.length : Int) := wrap_id (by omega) (by omega)
                simp [hbr, hac, hblI, hbiI, hwr1]
                refine callT_plain (v1 hk1) rfl (by simp) ?_
                simp
                refine callT_plain (v2 hk1) rfl (by simp) ?_
                simp
              · have hk1 : a.k = a.acc.length := by simp [Aut.k, Aut.sets, hac]
                rw [hk1] at hbl
                have hle : a.acc.length ≤ 5 := by omega
                have hln : a.lits.length ≤ 8 := by omega
                have hml : a.lits.length * a.acc.length ≤ 40 := Nat.mul_le_mul hln hle
                have hwr1 : IntKind.i64.wrap ((a.acc.length : Int) * (a.lits.length : Int)) = (b.lits.length : Int) := by
                  rw [hbl, show (a.acc.length : Int) * (a.lits.length : Int) = ((a.lits.length * a.acc.length : Nat) : Int) by rw [Nat.mul_comm]; simp]
                  exact wrap_id (by omega) (by omega)
                by_cases hgt : 1 < a.acc.length
                · have hgt' : (1 : Int) < (a.acc.length : Int) := by omega
                  have hgt'' : ¬ (a.acc.length : Int) ≤ 1 := by omega
                  simp [hbr, hac, hbiI, hwr1, hgt', hgt'']
                · have hgt' : ¬ (1 : Int) < (a.acc.length : Int) := by omega
                  have hgt'' : (a.acc.length : Int) ≤ 1 := by omega
                  have hpos : 0 < a.acc.length := List.length_pos_iff.2 hac
                  have hk11 : a.k = 1 := by omega
                  simp [hbr, hac, hbiI, hwr1, hgt', hgt'']
                  refine callT_plain (v1 hk11) rfl (by simp) ?_
                  simp
                  refine callT_plain (v2 hk11) rfl (by simp) ?_
                  simp

end Go.Proofs.Ytjdliinnbkfljaa
