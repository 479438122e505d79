/- The functions of degen, and of what it is compared with. -/
import Derived.Test.YtjdliinnbkfljaaDegenIr
import Derived.Test.YtjdliinnbkfljaaLibDegen
namespace Go.Proofs.Ytjdliinnbkfljaa
open Go Lg

abbrev AutD := (List (List T)) × (List (List Int)) × (List Int) × (List (List Int))
abbrev AutOk (y : AutD) : Prop := ((∀ z ∈ y.1, (∀ zz ∈ z, T.Ok zz) ∧ z.length * 48 ≤ 140737488351232) ∧ y.1.length * 24 ≤ 140737488351232) ∧ ((∀ z ∈ y.2.1, (∀ zz ∈ z, (Lit.int .i64 zz).wf = true) ∧ z.length * 8 ≤ 140737488351232) ∧ y.2.1.length * 24 ≤ 140737488351232) ∧ ((∀ z ∈ y.2.2.1, (Lit.int .i64 z).wf = true) ∧ y.2.2.1.length * 8 ≤ 140737488351232) ∧ ((∀ z ∈ y.2.2.2, (∀ zz ∈ z, (Lit.int .i64 zz).wf = true) ∧ z.length * 8 ≤ 140737488351232) ∧ y.2.2.2.length * 24 ≤ 140737488351232)
def autOf (y : AutD) : Aut := ⟨y.1, y.2.1, y.2.2.1, y.2.2.2⟩
theorem autOf_ok {y : AutD} (h : AutOk y) : (autOf y).Ok := by
  obtain ⟨⟨a1, a2⟩, ⟨b1, b2⟩, ⟨c1, c2⟩, d1, d2⟩ := h
  refine ⟨by simp [autOf]; omega, fun l hl => ?_, by simp [autOf]; omega, fun r hr => ?_, by simp [autOf]; omega, by simp [autOf]; omega, fun r hr => ?_⟩
  · obtain ⟨h1, h2⟩ := a1 l hl; exact ⟨by omega, h1⟩
  · have := (b1 r hr).2; omega
  · have := (d1 r hr).2; omega

theorem few18_any {a : Aut} (ha : a.Ok) (m : Int) : PC Try.prog 9 [a.L, intL m] (boolL (a.few18 m)) := few18_gen (mm := 34) (d := 33) (t := 19) ir9 ir19 ir33 ir34 ha m
theorem may18_any {a : Aut} (ha : a.Ok) (v : Int) : PC Try.prog 10 [a.L, intL v] (boolL (a.may v)) := may18_gen (t := 20) ir10 ir20 ha v
theorem right18_any {a : Aut} (ha : a.Ok) : PC Try.prog 11 [a.L] (boolL a.right) := right18_gen (st := 21) (li := 22) (y := 35) ir11 ir21 ir22 ir35 ha
theorem same18_any {a b : Aut} (ha : a.Ok) (hb : b.Ok) : PC Try.prog 12 [a.L, b.L] (boolL (decide (a.next = b.next ∧ a.acc = b.acc ∧ a.init = b.init ∧ a.lits = b.lits))) := same18_gen (ro := 17) (w := 32) (v := 18) (pl := 23) ir12 ir17 ir32 ir18 ir23 ha hb
theorem right17_any (w : Word) : PC Try.prog 15 [w.L] (boolL w.right) := right17_gen ir15 w
theorem takes_any {a : Aut} {w : Word} (h : TakesOk a w) : PC Try.prog 16 [a.L, w.L] (boolL (a.takes w)) := takes18_gen (nx := 28) (fi := 29) («is» := 30) (fa := 31) (ev := 37) (tr := 38) ir16 ir28 ir29 ir37 ir38 ir30 ir31 h
theorem of_any {a : Aut} (h : OfOk a) : PC Try.prog 13 [a.L] (degenOf a).L := of_gen (nu := 24) (co := 25) (ix := 36) ir13 ir24 ir25 ir36 h
theorem vec_any {c c' : Bool} (xs ys : List Int) (hl : xs.length ≤ 17592186044416) : PC Try.prog 18 [.sl 1 c (xs.map intL), .sl 1 c' (ys.map intL)] (boolL (decide (xs = ys))) := vecN_gen ir18 xs ys hl
theorem rows_any {c c' : Bool} (xs ys : List (List Int)) (hl : xs.length ≤ 5864062014805) (hx : ∀ x ∈ xs, x.length ≤ 17592186044416) : PC Try.prog 17 [.sl 1 c (xs.map intsL), .sl 1 c' (ys.map intsL)] (boolL (decide (xs = ys))) := rowsN_gen (w := 32) (v := 18) ir17 ir32 ir18 xs ys hl hx

end Go.Proofs.Ytjdliinnbkfljaa
