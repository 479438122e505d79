/- A table: what is found. -/
import Derived.Test.YtadpjaolnkliiaaLibSeek
namespace Lg
open Go

def irFind0 (seek : Nat) : FnIR := ⟨25, [.t 4, .t 5],
  (.seq (.ops [⟨some 2, .box (.t 0), none⟩,
    ⟨some 4, .mov (.c (.v (.int .i64 0))), none⟩,
    ⟨some 5, .mov (.c (.v (.bool false))), none⟩])
  (.seq (.seq (.ops [⟨some 7, .faddr 0 (.t 2), none⟩,
    ⟨some 8, .faddr 2 (.t 7), none⟩,
    ⟨some 9, .load 1 false (.t 8), none⟩,
    ⟨some 10, .len false (.t 9), none⟩,
    ⟨some 11, .bin .eql false (.t 10) (.c (.v (.int .i64 0))), none⟩])
  (.cond (.t 11)
    (.seq (.ops [⟨some 4, .mov (.c (.v (.int .i64 0))), none⟩,
      ⟨some 5, .mov (.c (.v (.bool false))), none⟩])
    .ret)
    .skip))
  (.seq (.draw [[⟨some 12, .faddr 0 (.t 2), none⟩,
      ⟨some 13, .faddr 2 (.t 12), none⟩,
      ⟨some 14, .load 1 false (.t 13), none⟩,
      ⟨some 15, .load 3 true (.t 2), none⟩,
      ⟨some 16, .mov (.t 1), none⟩,
      ⟨some 17, .call seek [(.t 15), (.t 16)], none⟩],
    [⟨some 18, .iaddr 1 (.t 14) (.t 17), none⟩],
    [⟨some 19, .load 1 false (.t 18), none⟩],
    [⟨some 6, .mov (.t 19), none⟩]])
  (.seq (.ops [⟨some 20, .mov (.t 6), none⟩,
    ⟨some 21, .bin .sub false (.t 20) (.c (.v (.int .i64 1))), none⟩,
    ⟨some 22, .mm true (.t 21) [(.c (.v (.int .i64 0)))], none⟩,
    ⟨some 23, .mov (.t 6), none⟩,
    ⟨some 24, .bin .gtr false (.t 23) (.c (.v (.int .i64 0))), none⟩,
    ⟨some 4, .mov (.t 22), none⟩,
    ⟨some 5, .mov (.t 24), none⟩])
  .ret))))⟩

def irFind (find : Nat) : FnIR := ⟨12, [.t 4, .t 5],
  (.seq (.ops [⟨some 2, .box (.t 0), none⟩,
    ⟨some 4, .mov (.c (.v (.int .i64 0))), none⟩,
    ⟨some 5, .mov (.c (.v (.bool false))), none⟩])
  (.seq (.ops [⟨some 6, .load 3 true (.t 2), none⟩,
    ⟨some 7, .build [(.v (.int .i64 0)), (.v (.slice none 0 0)), (.v (.slice none 0 0))] [(0, 3, (.t 6))], none⟩,
    ⟨some 8, .mov (.t 1), none⟩,
    ⟨some 9, .call find [(.t 7), (.t 8)], none⟩,
    ⟨some 10, .extract (.t 9) 0, none⟩,
    ⟨some 11, .extract (.t 9) 1, none⟩,
    ⟨some 4, .mov (.t 10), none⟩,
    ⟨some 5, .mov (.t 11), none⟩])
  .ret))⟩

theorem seekN_lt {slots : List Int} {keys : List (List Int)} {key : List Int} : ∀ (n i : Nat), i < slots.length → seekN slots keys key n i < slots.length
  | 0, i, h => h
  | n + 1, i, h => by
    simp only [seekN]
    split
    · exact h
    · exact seekN_lt n _ (Nat.mod_lt _ (by omega))

/-- The codes of the functions under a table's search. -/
structure SeekFns (P : Program) (f : Nat) where
  pl : Nat
  ha : Nat
  eq : Nat
  a : Nat
  b : Nat
  c' : Nat
  ir : compF P f = some (irSeek pl ha eq)
  irp : compF P pl = some irPlace
  irh : compF P ha = some (irHash a b c')
  ir1 : compF P a = some irEnd1
  ir2 : compF P b = some irEnd2
  ir3 : compF P c' = some irEnd3
  ire : compF P eq = some irEqual

/-- What is known of a table's lists. -/
structure Tidy (keys : List (List Int)) (slots : List Int) : Prop where
  hkeys : ∀ k ∈ keys, ∀ z ∈ k, isByte z
  hS : 0 < slots.length
  hS2 : slots.length ≤ 1000000000
  hv : ∀ v ∈ slots, 0 ≤ v ∧ v ≤ keys.length
  hkn : keys.length ≤ 1000000000

theorem home_lt {key : List Int} {S : Nat} (hS : 0 < S) (hS2 : S ≤ 1000000000) : home key S < S := by
  have h1 : 0 ≤ hash key 0 := (u64_range _).1
  unfold home
  have h3 : place (hash key 0) S = hash key 0 % S := by
    have : ¬ (S : Int) < 1 := by omega
    simp only [place, this, if_false]
    rw [u64_id (by omega) (by omega), Int.tmod_eq_emod_of_nonneg h1]
    have := Int.emod_nonneg (hash key 0) (show (S : Int) ≠ 0 by omega)
    have := Int.emod_lt_of_pos (hash key 0) (show 0 < (S : Int) by omega)
    exact wrap_id (by omega) (by omega)
  rw [h3]
  have := Int.emod_nonneg (hash key 0) (show (S : Int) ≠ 0 by omega)
  have := Int.emod_lt_of_pos (hash key 0) (show 0 < (S : Int) by omega)
  omega

/-- The place where a key's search ends. -/
def spot (keys : List (List Int)) (slots : List Int) (key : List Int) : Nat := seekN slots keys key slots.length (home key slots.length)

theorem seek_tidy {P : Program} {f : Nat} (F : SeekFns P f) (cap : Int) (ck cs ckey : Bool) {keys : List (List Int)} {slots : List Int} (ht : Tidy keys slots) (key : List Int) (hkey : ∀ z ∈ key, isByte z) (hkl : key.length ≤ 1000000000)
    (hn : stops slots keys key (spot keys slots key)) : PC P f [.agg (cells3 cap ck cs keys slots), .sl 1 ckey (key.map u8L)] (intL (spot keys slots key : Nat)) :=
  seek_gen F.ir F.irp F.irh F.ir1 F.ir2 F.ir3 F.ire cap ck cs ckey keys slots key hkey ht.hkeys hkl ht.hS ht.hS2 ht.hv ht.hkn _ hn

theorem find0_gen {P : Program} {f g : Nat} (ir : compF P f = some (irFind0 g)) (F : SeekFns P g) (cap : Int) (ck cs ckey : Bool) {keys : List (List Int)} {slots : List Int} (ht : Tidy keys slots) (key : List Int) (hkey : ∀ z ∈ key, isByte z) (hkl : key.length ≤ 1000000000)
    (hn : stops slots keys key (spot keys slots key)) : PC P f [.agg (cells3 cap ck cs keys slots), .sl 1 ckey (key.map u8L)] (.tup [intL (max (slots.getD (spot keys slots key) 0 - 1) 0), boolL (decide (0 < slots.getD (spot keys slots key) 0))]) := by
  have hlt : spot keys slots key < slots.length := seekN_lt _ _ (home_lt ht.hS ht.hS2)
  have hv0 := ht.hv slots[spot keys slots key] (List.getElem_mem hlt)
  have hkn := ht.hkn
  have hget : slots.getD (spot keys slots key) 0 = slots[spot keys slots key] := by simp [List.getD, hlt]
  have hnz : ¬ (slots.length : Int) = 0 := by have := ht.hS; omega
  have hnz2 : ¬ slots = [] := by intro e; have := ht.hS; simp [e] at this
  rw [hget]
  refine pc_of_call (callAt_enter ir (by simp [irFind0]) ?_)
  simp [irFind0, hnz, hnz2]
  refine bcallT_plain (seek_tidy F cap ck cs ckey ht key hkey hkl hn) rfl rfl ?_
  have hw : IntKind.i64.wrap (slots[spot keys slots key] - 1) = slots[spot keys slots key] - 1 := IntWalk.i64_in _ ⟨by omega, by omega⟩
  simp [hlt, hw, mmL]
  omega

theorem find_gen {P : Program} {h f g : Nat} (irf : compF P h = some (irFind f)) (ir : compF P f = some (irFind0 g)) (F : SeekFns P g) (cap : Int) (ck cs ckey : Bool) {keys : List (List Int)} {slots : List Int} (ht : Tidy keys slots) (key : List Int) (hkey : ∀ z ∈ key, isByte z) (hkl : key.length ≤ 1000000000)
    (hn : stops slots keys key (spot keys slots key)) : PC P h [.agg (cells3 cap ck cs keys slots), .sl 1 ckey (key.map u8L)] (.tup [intL (max (slots.getD (spot keys slots key) 0 - 1) 0), boolL (decide (0 < slots.getD (spot keys slots key) 0))]) := by
  refine pc_of_call (callAt_enter irf (by simp [irFind]) ?_)
  simp [irFind]
  refine callT_plain (find0_gen ir F cap ck cs ckey ht key hkey hkl hn) rfl rfl ?_
  simp

end Lg
