/- The functions of flat. -/
import Derived.Test.YtadpjaolnkliiaaFlatIr
import Derived.Test.YtadpjaolnkliiaaLibOrd
import Derived.Test.YtadpjaolnkliiaaLibBits8
namespace Go.Proofs.Ytadpjaolnkliiaa
open Go Lg

def seekF : SeekFns Try.prog 28 := ⟨31, 32, 33, 34, 35, 36, ir28, ir31, ir32, ir34, ir35, ir36, ir33⟩
def insF : InsFns Try.prog 16 := ⟨23, 30, 24, 25, 26, 27, 28, ir16, ir23, ir30, ir24, ir25, ir26, ir27, seekF⟩

/-- A store: a table's cells, and flags. -/
abbrev fL (cap : Int) (keys : List (List Int)) (slots : List Int) (fl : List Int) : L := .agg [intL cap, .sl 1 false (keys.map bytesL), .sl 1 false (slots.map intL), .sl 1 false (fl.map u8L)]

theorem new_any (most : Int) (h0 : 0 ≤ most) (h1 : most ≤ 1048576) : ∃ s, Tab [] s ∧ PC Try.prog 8 [intL most] (.tup [fL most [] s [], intL 0]) := by
  refine ⟨List.replicate 8 0, tab_nil, ?_⟩
  have h := new_tab ir15 most h0 h1
  refine pc_of_call' (callAt_enter ir8 (by simp) ?_)
  simp
  refine callT_closed h rfl ?_
  simp
  exact .tupL (.cons (.aggL (.cons (.refl _) (.cons (.refl _) (.cons (.refl _) (.cons (.nil _ _) .nil))))) (.cons (.refl _) .nil))

theorem many_any (cap : Int) (keys : List (List Int)) (slots fl : List Int) : PC Try.prog 12 [fL cap keys slots fl] (intL keys.length) := by
  have h := many_tab ir22 cap false false keys slots
  refine pc_of_call (callAt_enter ir12 (by simp) ?_)
  simp
  refine callT_plain h rfl rfl ?_
  simp

theorem member_any (cap : Int) {keys : List (List Int)} {slots : List Int} (ht : Tab keys slots) (fl key : List Int) (hkey : ∀ z ∈ key, isByte z) (hkl : key.length ≤ 1000000000) (ck : Bool) :
    PC Try.prog 14 [fL cap keys slots fl, .sl 1 ck (key.map u8L)] (boolL (decide (key ∈ keys))) := by
  have h := find_tab ir23 ir30 seekF cap false false ck ht key hkey hkl
  refine pc_of_call (callAt_enter ir14 (by simp) ?_)
  simp
  refine callT_plain h rfl rfl ?_
  simp

theorem ins_any (cap : Int) {keys : List (List Int)} {slots : List Int} (ht : Tab keys slots) (fl : List Int) (hfl : fl.length ≤ 1000000) (key : List Int) (hkey : ∀ z ∈ key, isByte z) (hkl : key.length ≤ 1000000000) (hn : keys.length + 1 ≤ 1000000) :
    ∃ s, Tab (insK cap keys key) s ∧ ∀ ck, PC Try.prog 9 [fL cap keys slots fl, .sl 1 ck (key.map u8L)] (.tup [fL cap (insK cap keys key) s (if insN cap keys key then fl ++ [0] else fl), boolL (insN cap keys key), intL (insE cap keys key)]) := by
  obtain ⟨s, t, h⟩ := ins_gen insF cap ht key hkey hkl hn
  by_cases hN : insN cap keys key = true
  · refine ⟨s, t, fun ck => ?_⟩
    have h := h ck
    have hE : insE cap keys key = 0 := by
      simp [insN] at hN
      have : ¬ cap ≤ keys.length := by omega
      simp [insE, this]
    rw [hN, hE] at h
    rw [hN, hE]
    refine pc_of_call' (callAt_enter ir9 (by simp) ?_)
    simp
    refine callT_closed h rfl ?_
    simp
    refine bcallT_closed (clip_gen ir17 false (fl.map u8L) (by simp; omega)) rfl ?_
    simp
    have e : List.map u8L fl ++ [L.v (.int .u8 0)] = (fl ++ [0]).map u8L := by simp
    rw [e]
    exact ⟨by omega, .refl _⟩
  · have hN' : insN cap keys key = false := by simpa using hN
    have hK : insK cap keys key = keys := by
      simp [insN] at hN'
      unfold insK
      by_cases hk : key ∈ keys
      · simp [hk]
      · have := hN' hk
        simp [hk]; omega
    refine ⟨slots, by rw [hK]; exact ht, fun ck => ?_⟩
    have h := h ck
    rw [hN'] at h
    rw [hN', hK]
    refine pc_of_call (callAt_enter ir9 (by simp) ?_)
    simp
    refine callT_closed h rfl ?_
    simp

def bitOf (flag : Int) : Int := if flag = 0 then 1 else if flag = 1 then 2 else 0

theorem bit_any (flag : Int) : PC Try.prog 29 [intL flag] (u8L (bitOf flag)) := by
  refine pc_of_call (callAt_enter ir29 (by simp) ?_)
  unfold bitOf
  by_cases h0 : flag = 0
  · simp [h0]
  · by_cases h1 : flag = 1
    · simp [h0, h1]
    · simp [h0, h1]

theorem get_bad (cap : Int) (keys : List (List Int)) (slots fl key : List Int) (ck : Bool) (flag : Int) (hf : flag < 0 ∨ 1 < flag) :
    PC Try.prog 11 [fL cap keys slots fl, .sl 1 ck (key.map u8L), intL flag] (.tup [boolL false, intL 1]) := by
  have hb : bitOf flag = 0 := by unfold bitOf; rw [if_neg (by omega), if_neg (by omega)]
  have h := bit_any flag
  rw [hb] at h
  refine pc_of_call (callAt_enter ir11 (by simp) ?_)
  simp
  refine callAt_enter ir18 (by simp) ?_
  simp
  refine callT_plain h rfl rfl ?_
  simp

theorem get_none (cap : Int) {keys : List (List Int)} {slots : List Int} (ht : Tab keys slots) (fl key : List Int) (hkey : ∀ z ∈ key, isByte z) (hkl : key.length ≤ 1000000000) (ck : Bool) (flag : Int) (hf : flag = 0 ∨ flag = 1) (hk : key ∉ keys) :
    PC Try.prog 11 [fL cap keys slots fl, .sl 1 ck (key.map u8L), intL flag] (.tup [boolL false, intL 10]) := by
  have hb : ¬ bitOf flag = 0 := by unfold bitOf; rcases hf with rfl | rfl <;> simp
  have h := bit_any flag
  have hfd := find_tab ir23 ir30 seekF cap false false ck ht key hkey hkl
  rw [if_neg hk, show decide (key ∈ keys) = false by simpa using hk] at hfd
  refine pc_of_call (callAt_enter ir11 (by simp) ?_)
  simp
  refine callAt_enter ir18 (by simp) ?_
  simp
  refine callT_plain h rfl rfl ?_
  simp [hb]
  refine callT_plain hfd rfl rfl ?_
  simp

theorem get_any (cap : Int) {keys : List (List Int)} {slots : List Int} (ht : Tab keys slots) (fl key : List Int) (hkey : ∀ z ∈ key, isByte z) (hkl : key.length ≤ 1000000000) (ck : Bool) (flag : Int) (hf : flag = 0 ∨ flag = 1) (hk : key ∈ keys) (hlt : idx keys key < fl.length) :
    PC Try.prog 11 [fL cap keys slots fl, .sl 1 ck (key.map u8L), intL flag] (.tup [boolL (decide (bitsI .and .u8 fl[idx keys key] (bitOf flag) ≠ 0)), intL 0]) := by
  have hb : ¬ bitOf flag = 0 := by unfold bitOf; rcases hf with rfl | rfl <;> simp
  have h := bit_any flag
  have hfd := find_tab ir23 ir30 seekF cap false false ck ht key hkey hkl
  rw [if_pos hk, show decide (key ∈ keys) = true by simpa using hk] at hfd
  refine pc_of_call (callAt_enter ir11 (by simp) ?_)
  simp
  refine callAt_enter ir18 (by simp) ?_
  simp
  refine callT_plain h rfl rfl ?_
  simp [hb]
  refine callT_plain hfd rfl rfl ?_
  simp
  refine callAt_enter ir21 (by simp) ?_
  simp [hlt]

theorem set_any (cap : Int) {keys : List (List Int)} {slots : List Int} (ht : Tab keys slots) (fl key : List Int) (hfl : fl.length ≤ 1000000) (hkey : ∀ z ∈ key, isByte z) (hkl : key.length ≤ 1000000000) (ck : Bool) (flag : Int) (hf : flag = 0 ∨ flag = 1) (hk : key ∈ keys) (hlt : idx keys key < fl.length) :
    PC Try.prog 10 [fL cap keys slots fl, .sl 1 ck (key.map u8L), intL flag] (.tup [fL cap keys slots (fl.set (idx keys key) (bitsI .or .u8 fl[idx keys key] (bitOf flag))), intL 0]) := by
  have hb : ¬ bitOf flag = 0 := by unfold bitOf; rcases hf with rfl | rfl <;> simp
  have h := bit_any flag
  have hne : ¬ fl = [] := by intro e; subst e; simp at hlt
  have hfd := find_tab ir23 ir30 seekF cap false false ck ht key hkey hkl
  rw [if_pos hk, show decide (key ∈ keys) = true by simpa using hk] at hfd
  refine pc_of_call' (callAt_enter ir10 (by simp) ?_)
  simp
  refine callAt_enter ir18 (by simp) ?_
  simp
  refine callT_plain h rfl rfl ?_
  simp [hb]
  refine callT_plain hfd rfl rfl ?_
  simp
  refine callAt_enter ir19 (by simp) ?_
  simp
  refine callAt_enter ir20 (by simp) ?_
  have hset : (fl.map u8L).set (idx keys key) (.v (.int .u8 (bitsI .or .u8 fl[idx keys key] (bitOf flag)))) = (fl.set (idx keys key) (bitsI .or .u8 fl[idx keys key] (bitOf flag))).map u8L := by rw [List.map_set]
  have hcl : ∀ x ∈ (fl.map u8L).set (idx keys key) (.v (.int .u8 (bitsI .or .u8 fl[idx keys key] (bitOf flag)))), closed x = true := fun x hx => by
    rw [hset] at hx
    obtain ⟨z, -, rfl⟩ := List.mem_map.1 hx
    rfl
  simp [hne, hlt]
  rw [if_pos hcl]
  simp
  rw [hset]
  exact ⟨by omega, by omega, .refl _⟩

end Go.Proofs.Ytadpjaolnkliiaa
