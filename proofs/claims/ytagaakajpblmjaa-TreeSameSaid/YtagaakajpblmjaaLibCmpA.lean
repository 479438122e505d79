/- The collapsed store: places behind a row, and a vector's parts. -/
import Derived.Test.YtagaakajpblmjaaLibCmpD
import Derived.Test.YtagaakajpblmjaaLibFrame
namespace Lg
open Go
def lay4 (n : Nat) : List Int := [((n % 256 : Nat) : Int), ((n / 256 % 256 : Nat) : Int), ((n / 65536 % 256 : Nat) : Int), ((n / 16777216 % 256 : Nat) : Int)]
@[simp] theorem lay4_length {n : Nat} : (lay4 n).length = 4 := eqOf rfl
theorem lay4_byte {n : Nat} : ∀ z ∈ lay4 n, isByte z := fun z hz => by
  simp [lay4] at hz
  rcases hz with rfl | rfl | rfl | rfl <;> constructor <;> omega
theorem lay4_inj {n m : Nat} (hn : n < 4294967296) (hm : m < 4294967296) (h : lay4 n = lay4 m) : n = m := by
  simp [lay4] at h
  omega
theorem lay4_get {n i : Nat} (hi : i < 4) : (lay4 n)[i]? = some ((n / 2 ^ (8 * i) % 256 : Nat) : Int) := by
  rcases i with _ | _ | _ | _ | i
  · simp [lay4]
  · simp [lay4]
  · simp [lay4]
  · simp [lay4]
  · omega
def byN (n i : Nat) : Int := ((n / 2 ^ (8 * i) % 256 : Nat) : Int)
theorem lay_byte {n i : Nat} (hn : n < 9223372036854775808) (hi : i < 4) : IntKind.u8.wrap (shrI .i64 (n : Int) (8 * (i : Int))) = byN n i := by
  unfold shrI byN
  rw [show (min (8 * (i : Int)).toNat IntKind.i64.bits) = 8 * i by simp [IntKind.bits]; omega, show (2 : Int) ^ (8 * i) = ((2 ^ (8 * i) : Nat) : Int) by simp, Int.fdiv_eq_ediv_of_nonneg _ (Int.natCast_nonneg _), ← Int.natCast_ediv]
  simp [IntKind.wrap, IntKind.signed, IntKind.bits]
theorem lay_byte0 {n : Nat} (hn : n < 9223372036854775808) : IntKind.u8.wrap (shrI .i64 (n : Int) 0) = byN n 0 := lay_byte hn (i := 0) (by omega)
def layT (n i : Nat) : List Int := (lay4 n).take i
theorem layT_zero {n : Nat} : layT n 0 = [] := rfl
theorem layT_all {n : Nat} : layT n 4 = lay4 n := rfl
theorem layT_length {n i : Nat} (h : i ≤ 4) : (layT n i).length = i := by simp [layT]; omega
theorem layT_succ {n i : Nat} (hi : i < 4) : layT n (i + 1) = layT n i ++ [byN n i] := by
  unfold layT
  rw [List.take_add_one, lay4_get hi]; rfl
theorem layT_one {n : Nat} : layT n 1 = [byN n 0] := layT_succ (by omega)
section
variable {P : Program} {f : Nat} (ir : compF P f = some irCLay) (n : Nat) (hn : n < 4294967296)
include ir hn
theorem lay_nil : callAt P f [nilL, .view 1 0 0 1 true] [some [intL n]] fun l R => l = .view 1 1 0 4 false ∧ R = [some [intL n], some ((lay4 n).map u8L)] := by
  refine callAt_enter ir (by simp [irCLay]) ?_
  simp [irCLay]
  refine lwp_loop (fun b : Bool => [(0, if b then .view 1 1 0 4 false else nilL), (8, .view 1 0 0 1 true), (9, intL 1), (10, intL (if b then 1 else 0))]) (fun b => if b then [some [intL n], some ((lay4 n).map u8L)] else [some [intL n]]) (fun b => if b then 0 else 1) (fun _ => True) false trivial ⟨[0], by simp⟩ ?_
  intro b _
  cases b
  · simp
    refine lwp_loop (fun i : Nat => [(0, if i = 0 then nilL else .view 1 1 0 i false), (6, intL n), (8, .view 1 0 0 1 true), (9, intL 1), (10, intL 0), (14, intL i)]) (fun i => if i = 0 then [some [intL n]] else [some [intL n], some ((layT n i).map u8L)]) (fun i => 4 - i) (fun i => i ≤ 4) 0 (by simp) ⟨[0], by simp⟩ ?_
    intro i hi
    by_cases h : i < 4
    · have h' : (i : Int) < 4 := by omega
      have w1 : IntKind.i64.wrap (8 * (i : Int)) = 8 * (i : Int) := wrap_id (by omega) (by omega)
      by_cases h0 : i = 0
      · subst h0
        simp [lay_byte0 (n := n) (by omega), i64w0, i64w1]
        exact ⟨1, by simp, by simp, [0, 2], by simp [layT_one]⟩
      · have hb := lay_byte (n := n) (by omega) h
        simp [h', h0, w1, hb, layT_length hi, suc64 (show i ≤ 281474976710656 by omega)]
        exact ⟨by omega, by omega, i + 1, by simp only; omega, by simp only; omega, [0, 3], by simp [layT_succ h]⟩
    · have e : i = 4 := by omega
      subst e
      simp [i64w1, layT_all]
      exact ⟨true, by simp, by simp, [0, 1], by simp⟩
  · simp
theorem lay_row (r : List Int) (hr : r.length ≤ 1000000) (c : Bool) : callAt P f [.view 1 1 0 r.length c, .view 1 0 0 1 true] [some [intL n], some (r.map u8L)] fun l R => l = .view 1 2 0 (r.length + 4) false ∧ R = [some [intL n], none, some ((r ++ lay4 n).map u8L)] := by
  refine callAt_enter ir (by simp [irCLay]) ?_
  simp [irCLay]
  refine lwp_loop (fun b : Bool => [(0, if b then .view 1 2 0 (r.length + 4) false else .view 1 1 0 r.length c), (8, .view 1 0 0 1 true), (9, intL 1), (10, intL (if b then 1 else 0))]) (fun b => if b then [some [intL n], none, some ((r ++ lay4 n).map u8L)] else [some [intL n], some (r.map u8L)]) (fun b => if b then 0 else 1) (fun _ => True) false trivial ⟨[0, 1], by simp⟩ ?_
  intro b _
  cases b
  · simp
    refine lwp_loop (fun i : Nat => [(0, if i = 0 then .view 1 1 0 r.length c else .view 1 2 0 (r.length + i) false), (6, intL n), (8, .view 1 0 0 1 true), (9, intL 1), (10, intL 0), (14, intL i)]) (fun i => if i = 0 then [some [intL n], some (r.map u8L)] else [some [intL n], none, some (r.map u8L ++ (layT n i).map u8L)]) (fun i => 4 - i) (fun i => i ≤ 4) 0 (by simp) ⟨[0, 1], by simp⟩ ?_
    intro i hi
    by_cases h : i < 4
    · have h' : (i : Int) < 4 := by omega
      have w1 : IntKind.i64.wrap (8 * (i : Int)) = 8 * (i : Int) := wrap_id (by omega) (by omega)
      by_cases h0 : i = 0
      · subst h0
        simp [lay_byte0 (n := n) (by omega), i64w0, i64w1]
        exact ⟨by omega, 1, by simp, by simp, [0, 1, 3], by simp [layT_one]⟩
      · have hb := lay_byte (n := n) (by omega) h
        simp [h', h0, w1, hb, layT_length hi, suc64 (show i ≤ 281474976710656 by omega)]
        exact ⟨by omega, by omega, i + 1, by simp only; omega, by simp only; omega, [0, 1, 4], by simp [layT_succ h]; omega⟩
    · have e : i = 4 := by omega
      subst e
      simp [i64w1, layT_all]
      exact ⟨true, by simp, by simp, [0, 1, 2], by simp⟩
  · simp
end
end Lg
