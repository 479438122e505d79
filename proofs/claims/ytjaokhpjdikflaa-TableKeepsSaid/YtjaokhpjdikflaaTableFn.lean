/- The functions of table, by the generic contracts. -/
import Derived.Test.YtjaokhpjdikflaaTableIr
import Derived.Test.YtjaokhpjdikflaaLibOrd
namespace Go.Proofs.Ytjaokhpjdikflaa
open Go Lg

def seekF : SeekFns Try.prog 21 := ⟨24, 25, 26, 27, 28, 29, ir21, ir24, ir25, ir27, ir28, ir29, ir26⟩
def insF : InsFns Try.prog 9 := ⟨12, 22, 17, 18, 19, 20, 21, ir9, ir12, ir22, ir17, ir18, ir19, ir20, seekF⟩

abbrev tabL (cap : Int) (keys : List (List Int)) (slots : List Int) : L := .agg (cells3 cap false false keys slots)

/-- A new table. -/
theorem new_any (most : Int) (h0 : 0 ≤ most) (h1 : most ≤ 1048576) : ∃ s, Tab [] s ∧ s.length = 8 ∧ PC Try.prog 8 [intL most] (.tup [tabL most [] s, intL 0]) :=
  ⟨List.replicate 8 0, tab_nil, by simp, new_tab ir8 most h0 h1⟩

theorem new_bad : PC Try.prog 8 [intL (-1)] (.tup [.agg [.v (.int .i64 0), .v (.slice none 0 0), .v (.slice none 0 0)], intL 1]) := by
  refine pc_of_call (callAt_enter ir8 (by simp) ?_)
  simp

theorem find_any (cap : Int) {keys : List (List Int)} {slots : List Int} (ht : Tab keys slots) (key : List Int) (hkey : ∀ z ∈ key, isByte z) (hkl : key.length ≤ 1000000000) (ckey : Bool) :
    PC Try.prog 12 [tabL cap keys slots, .sl 1 ckey (key.map u8L)] (.tup [intL (if key ∈ keys then (idx keys key : Int) else 0), boolL (decide (key ∈ keys))]) :=
  find_tab ir12 ir22 seekF cap false false ckey ht key hkey hkl

theorem ins_any (cap : Int) {keys : List (List Int)} {slots : List Int} (ht : Tab keys slots) (key : List Int) (hkey : ∀ z ∈ key, isByte z) (hkl : key.length ≤ 1000000000) (hn : keys.length + 1 ≤ 1000000) :
    ∃ s, Tab (insK cap keys key) s ∧ ∀ ckey, PC Try.prog 9 [tabL cap keys slots, .sl 1 ckey (key.map u8L)] (.tup [tabL cap (insK cap keys key) s, intL (insI cap keys key), boolL (insN cap keys key), intL (insE cap keys key)]) :=
  ins_gen insF cap ht key hkey hkl hn

theorem wf_byte {l : List Int} (h : ∀ z ∈ l, (Lit.int .u8 z).wf = true) : ∀ z ∈ l, isByte z := fun z hz => by
  have := h z hz
  simp [Lit.wf, IntKind.min, IntKind.max, IntKind.signed, IntKind.bits] at this
  exact this

theorem flag_any (b : Bool) : PC Try.prog 16 [boolL b] (intL b.toNat) := by
  refine pc_of_call (callAt_enter ir16 (by simp) ?_)
  cases b <;> simp

theorem keys_any (cap : Int) (keys : List (List Int)) (slots : List Int) (hl : keys.length ≤ 1000000000) : PC Try.prog 14 [tabL cap keys slots] (.sl 1 false (keys.map bytesL)) :=
  keys_tab ir14 ir23 cap false false keys slots hl

end Go.Proofs.Ytjaokhpjdikflaa
