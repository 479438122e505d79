/- Byte strings, copies of lists. -/
import Derived.Test.YtadpjaolnkliiaaLibMix
namespace Lg
open Go

def irEqual : FnIR := ⟨10, [.t 4],
  (.seq (.ops [⟨some 4, .mov (.c (.v (.bool false))), none⟩])
  (.seq (.ops [⟨some 5, .mov (.t 0), none⟩,
    ⟨some 6, .b2s (.t 5), none⟩,
    ⟨some 7, .mov (.t 1), none⟩,
    ⟨some 8, .b2s (.t 7), none⟩,
    ⟨some 9, .bin .eql false (.t 6) (.t 8), none⟩,
    ⟨some 4, .mov (.t 9), none⟩])
  .ret))⟩

def irClip : FnIR := ⟨9, [.t 2],
  (.seq (.ops [⟨some 2, .mov (.c (.v (.slice none 0 0))), none⟩])
  (.seq (.ops [⟨some 3, .mov (.t 0), none⟩,
    ⟨some 4, .mov (.t 0), none⟩,
    ⟨some 5, .len false (.t 4), none⟩,
    ⟨some 6, .mov (.t 0), none⟩,
    ⟨some 7, .len false (.t 6), none⟩,
    ⟨some 8, .slice 1 (.t 3) none (some (.t 5)) (some (.t 7)), none⟩,
    ⟨some 2, .mov (.t 8), none⟩])
  .ret))⟩

def irClone (b : Nat) (z : L) : FnIR := ⟨8, [.t 2],
  (.seq (.ops [⟨some 2, .mov (.c (.v (.slice none 0 0))), none⟩])
  (.seq (.seq (.ops [⟨some 3, .mov (.t 0), none⟩,
    ⟨some 4, .isnil false (.t 3), none⟩])
  (.cond (.t 4)
    (.seq (.ops [⟨some 2, .mov (.c (.v (.slice none 0 0))), none⟩])
    .ret)
    .skip))
  (.seq (.ops [⟨some 5, .bslice 1 [z] 0 [], none⟩,
    ⟨some 6, .mov (.t 0), none⟩,
    ⟨some 7, .append 1 b [z] (.t 5) (.t 6), none⟩,
    ⟨some 2, .mov (.t 7), none⟩])
  .ret)))⟩

abbrev bytesL (k : List Int) : L := .sl 1 false (k.map u8L)

theorem equal_gen {P : Program} {f : Nat} (ir : compF P f = some irEqual) (c c' : Bool) (a b : List Int) (ha : ∀ z ∈ a, isByte z) (hb : ∀ z ∈ b, isByte z) :
    PC P f [.sl 1 c (a.map u8L), .sl 1 c' (b.map u8L)] (boolL (decide (a = b))) := by
  refine pc_of_call (callAt_enter ir (by simp [irEqual]) ?_)
  simp [irEqual, bytes_inj ha hb]

theorem clip_gen {P : Program} {f : Nat} (ir : compF P f = some irClip) (c : Bool) (ys : List L) (hl : ys.length ≤ 9223372036854775807) : PC P f [.sl 1 c ys] (.sl 1 true ys) := by
  refine pc_of_call (callAt_enter ir (by simp [irClip]) ?_)
  simp [irClip]

theorem clone_gen {P : Program} {f b : Nat} {z : L} (ir : compF P f = some (irClone b z)) (hz : topOK z = true) (hz2 : z.cells.length = 1) (c : Bool) (ys : List L) (h1 : ys.all solid = true) (h2 : ys.all closed = true) (hl : ys.length * b ≤ 70368744177664) : PC P f [.sl 1 c ys] (.sl 1 false ys) := by
  refine pc_of_call' (callAt_enter ir (by simp [irClone]) ?_)
  simp [irClone]
  have h1' := List.all_eq_true.1 h1
  have h2' := List.all_eq_true.1 h2
  exact ⟨⟨h1', hl, _, by rw [if_pos h2'], .refl _⟩, fun e => by subst e; exact .nil _ _⟩

end Lg
