/- A table behind an insert is a table. -/
import Derived.Test.YtadpjaolnkliiaaLibIns
namespace Lg
open Go

theorem Tab.ins {keys : List (List Int)} {slots : List Int} (ht : Tab keys slots) {key : List Int} (hkey : ∀ z ∈ key, isByte z) (hkl : key.length ≤ 1000000000) (hk : key ∉ keys) (hn : keys.length + 1 ≤ 1000000) : Tab (keys ++ [key]) (insSlots keys slots key) := by
  have hS8 := ht.hS8
  have hhalf := ht.half
  have hc4 := ht.cap4
  have hkn := ht.hkn
  have hpa := ht.probe.app hk
  have hb : ∀ k ∈ keys ++ [key], ∀ z ∈ k, isByte z := fun k h => by
    rcases List.mem_append.1 h with h | h
    · exact ht.hkeys k h
    · simp at h; subst h; exact hkey
  have hl : ∀ k ∈ keys ++ [key], k.length ≤ 1000000000 := fun k h => by
    rcases List.mem_append.1 h with h | h
    · exact ht.hlen k h
    · simp at h; subst h; exact hkl
  have hg : (keys ++ [key]).getD keys.length [] = key := by simp [List.getD]
  unfold insSlots
  split
  · rename_i hgrow
    have hm : max slots.length 8 = slots.length := by omega
    rw [hm] at hgrow ⊢
    have h := growS_probe (K := keys ++ [key]) hpa.nodup (S := 2 * slots.length) (by simp; omega) (by omega) (keys.length + 1) (by simp)
    exact ⟨by simpa using h, hb, by simpa using hn, by simp; omega, by simp; omega, by simp; omega, hl⟩
  · rename_i hno
    have h := hpa.put (by omega) (by simp) (by omega)
    rw [hg, spot_app ht.probe.val] at h
    exact ⟨by simpa using h, hb, by simpa using hn, by simp; omega, by simp; omega, by simp; omega, hl⟩

end Lg
