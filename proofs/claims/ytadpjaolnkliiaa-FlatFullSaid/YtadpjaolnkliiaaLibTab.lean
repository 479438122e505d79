/- A table's simple functions. -/
import Derived.Test.YtadpjaolnkliiaaLibProbe
namespace Lg
open Go

def irNew : FnIR := ⟨14, [.c 2 3 true, .t 3],
  (.seq (.ops [⟨some 2, .alloc (.agg [(.v (.int .i64 0)), (.v (.slice none 0 0)), (.v (.slice none 0 0))]), none⟩,
    ⟨some 3, .mov (.c (.v (.int .i64 0))), none⟩])
  (.seq (.seq (.ops [⟨some 4, .mov (.t 0), none⟩,
    ⟨some 5, .bin .lss false (.t 4) (.c (.v (.int .i64 0))), none⟩,
    ⟨some 6, .mov (.t 5), none⟩,
    ⟨some 7, .mov (.t 0), some (6, false)⟩,
    ⟨some 8, .bin .gtr false (.t 7) (.c (.v (.int .i64 1048576))), some (6, false)⟩,
    ⟨some 9, .pick (.t 6) (.c (.v (.bool true))) (.t 8), none⟩])
  (.cond (.t 9)
    (.seq (.ops [⟨some 10, .build [(.v (.int .i64 0)), (.v (.slice none 0 0)), (.v (.slice none 0 0))] [], none⟩,
      ⟨none, .store 3 (.t 2) (.t 10), none⟩,
      ⟨some 3, .mov (.c (.v (.int .i64 1))), none⟩])
    .ret)
    .skip))
  (.seq (.ops [⟨some 11, .mov (.t 0), none⟩,
    ⟨some 12, .mksl 1 8 [(.v (.int .i64 0))] (.c (.v (.int .i64 8))) (.c (.v (.int .i64 8))), none⟩,
    ⟨some 13, .build [(.v (.int .i64 0)), (.v (.slice none 0 0)), (.v (.slice none 0 0))] [(0, 1, (.t 11)), (2, 1, (.t 12))], none⟩,
    ⟨none, .store 3 (.t 2) (.t 13), none⟩,
    ⟨some 3, .mov (.c (.v (.int .i64 0))), none⟩])
  .ret)))⟩

def irMany : FnIR := ⟨6, [.t 2],
  (.seq (.ops [⟨some 1, .box (.t 0), none⟩,
    ⟨some 2, .mov (.c (.v (.int .i64 0))), none⟩])
  (.seq (.ops [⟨some 3, .faddr 1 (.t 1), none⟩,
    ⟨some 4, .load 1 false (.t 3), none⟩,
    ⟨some 5, .len false (.t 4), none⟩,
    ⟨some 2, .mov (.t 5), none⟩])
  .ret))⟩

def irKey (clone : Nat) : FnIR := ⟨21, [.t 4, .t 5],
  (.seq (.ops [⟨some 2, .box (.t 0), none⟩,
    ⟨some 4, .mov (.c (.v (.slice none 0 0))), none⟩,
    ⟨some 5, .mov (.c (.v (.int .i64 0))), none⟩])
  (.seq (.seq (.ops [⟨some 6, .mov (.t 1), none⟩,
    ⟨some 7, .bin .lss false (.t 6) (.c (.v (.int .i64 0))), none⟩,
    ⟨some 8, .mov (.t 7), none⟩,
    ⟨some 9, .mov (.t 1), some (8, false)⟩,
    ⟨some 10, .faddr 1 (.t 2), some (8, false)⟩,
    ⟨some 11, .load 1 false (.t 10), some (8, false)⟩,
    ⟨some 12, .len false (.t 11), some (8, false)⟩,
    ⟨some 13, .bin .geq false (.t 9) (.t 12), some (8, false)⟩,
    ⟨some 14, .pick (.t 8) (.c (.v (.bool true))) (.t 13), none⟩])
  (.cond (.t 14)
    (.seq (.ops [⟨some 4, .mov (.c (.v (.slice none 0 0))), none⟩,
      ⟨some 5, .mov (.c (.v (.int .i64 10))), none⟩])
    .ret)
    .skip))
  (.seq (.ops [⟨some 15, .faddr 1 (.t 2), none⟩,
    ⟨some 16, .load 1 false (.t 15), none⟩,
    ⟨some 17, .mov (.t 1), none⟩,
    ⟨some 18, .iaddr 1 (.t 16) (.t 17), none⟩,
    ⟨some 19, .load 1 false (.t 18), none⟩,
    ⟨some 20, .call clone [(.t 19)], none⟩,
    ⟨some 4, .mov (.t 20), none⟩,
    ⟨some 5, .mov (.c (.v (.int .i64 0))), none⟩])
  .ret)))⟩

def irKeys (clone : Nat) : FnIR := ⟨6, [.t 2],
  (.seq (.ops [⟨some 1, .box (.t 0), none⟩,
    ⟨some 2, .mov (.c (.v (.slice none 0 0))), none⟩])
  (.seq (.ops [⟨some 3, .faddr 1 (.t 1), none⟩,
    ⟨some 4, .load 1 false (.t 3), none⟩,
    ⟨some 5, .call clone [(.t 4)], none⟩,
    ⟨some 2, .mov (.t 5), none⟩])
  .ret))⟩

theorem find_tab {P : Program} {h f g : Nat} (irf : compF P h = some (irFind f)) (ir : compF P f = some (irFind0 g)) (F : SeekFns P g) (cap : Int) (ck cs ckey : Bool) {keys : List (List Int)} {slots : List Int} (ht : Tab keys slots) (key : List Int) (hkey : ∀ z ∈ key, isByte z) (hkl : key.length ≤ 1000000000) :
    PC P h [.agg (cells3 cap ck cs keys slots), .sl 1 ckey (key.map u8L)] (.tup [intL (if key ∈ keys then (idx keys key : Int) else 0), boolL (decide (key ∈ keys))]) := by
  obtain ⟨h1, h2⟩ := ht.spot_stops key
  have := find_gen irf ir F cap ck cs ckey ht.tidy key hkey hkl h1
  rw [h2] at this
  by_cases hk : key ∈ keys
  · rw [if_pos hk] at this ⊢
    have e1 : max ((idx keys key : Int) + 1 - 1) 0 = idx keys key := by omega
    have e2 : decide (0 < (idx keys key : Int) + 1) = true := by simp <;> omega
    rw [e1, e2] at this
    simpa [hk] using this
  · rw [if_neg hk] at this ⊢
    have e1 : max ((0 : Int) - 1) 0 = 0 := by omega
    rw [e1] at this
    simpa [hk] using this

theorem new_tab {P : Program} {f : Nat} (ir : compF P f = some irNew) (most : Int) (h0 : 0 ≤ most) (h1 : most ≤ 1048576) : PC P f [intL most] (.tup [.agg (cells3 most false false [] (List.replicate 8 0)), intL 0]) := by
  refine pc_of_call' (callAt_enter ir (by simp [irNew]) ?_)
  have h2 : ¬ most < 0 := by omega
  have h3 : ¬ 1048576 < most := by omega
  simp [irNew, h2, h3]
  exact .tupL (.cons (.aggL (.cons (.refl _) (.cons (.nil _ _) (.cons (.clip _ _) .nil)))) (.cons (.refl _) .nil))

theorem tab_nil : Tab [] (List.replicate 8 0) := ⟨probe_nil (by simp) (by omega), by simp, by simp, by simp, by simp, by simp, by simp⟩

theorem many_tab {P : Program} {f : Nat} (ir : compF P f = some irMany) (cap : Int) (ck cs : Bool) (keys : List (List Int)) (slots : List Int) : PC P f [.agg (cells3 cap ck cs keys slots)] (intL keys.length) := by
  refine pc_of_call (callAt_enter ir (by simp [irMany]) ?_)
  simp [irMany]

theorem all_bytesL {ks : List (List Int)} : (ks.map bytesL).all solid = true ∧ (ks.map bytesL).all closed = true := by simp

theorem key_tab {P : Program} {f g : Nat} (ir : compF P f = some (irKey g)) (irc : compF P g = some (irClone 1 (.v (.int .u8 0)))) (cap : Int) (ck cs : Bool) (keys : List (List Int)) (slots : List Int) (i : Int) (h0 : 0 ≤ i) (hi : i.toNat < keys.length) (hl : (keys[i.toNat]).length ≤ 1000000000) :
    PC P f [.agg (cells3 cap ck cs keys slots), intL i] (.tup [bytesL keys[i.toNat], intL 0]) := by
  have h1 : ¬ i < 0 := by omega
  have h2 : ¬ (keys.length : Int) ≤ i := by omega
  refine pc_of_call (callAt_enter ir (by simp [irKey]) ?_)
  simp [irKey, h0, h1, h2, hi]
  refine callT_closed (clone_gen irc (by simp) (by simp) false (keys[i.toNat].map u8L) (by simp) (by simp) (by simp; omega)) rfl ?_
  simp

theorem keys_tab {P : Program} {f g : Nat} (ir : compF P f = some (irKeys g)) (irc : compF P g = some (irClone 24 (.v (.slice none 0 0)))) (cap : Int) (ck cs : Bool) (keys : List (List Int)) (slots : List Int) (hl : keys.length ≤ 1000000000) :
    PC P f [.agg (cells3 cap ck cs keys slots)] (.sl 1 false (keys.map bytesL)) := by
  refine pc_of_call (callAt_enter ir (by simp [irKeys]) ?_)
  simp [irKeys]
  refine callT_closed (clone_gen irc (by simp) (by simp) ck (keys.map bytesL) (by simp) (by simp) (by simp; omega)) rfl ?_
  simp

end Lg
