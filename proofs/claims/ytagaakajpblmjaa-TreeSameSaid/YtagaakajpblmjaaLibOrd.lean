/- An insert, in one word; keys in the order in which they first came. -/
import Derived.Test.YtagaakajpblmjaaLibTb
namespace Lg
open Go
def insK (cap : Int) (keys : List (List Int)) (key : List Int) : List (List Int) := if key ∈ keys ∨ cap ≤ keys.length then keys else keys ++ [key]
def insI (cap : Int) (keys : List (List Int)) (key : List Int) : Int := if key ∈ keys then (idx keys key : Int) else if cap ≤ keys.length then 0 else keys.length
def insN (cap : Int) (keys : List (List Int)) (key : List Int) : Bool := decide (key ∉ keys ∧ keys.length < cap)
def insE (cap : Int) (keys : List (List Int)) (key : List Int) : Int := if key ∈ keys then 0 else if cap ≤ keys.length then 7 else 0
theorem ins_gen {P : Program} {f : Nat} (F : InsFns P f) (cap : Int) {keys : List (List Int)} {slots : List Int} (ht : Tab keys slots) (key : List Int) (hkey : ∀ z ∈ key, isByte z) (hkl : key.length ≤ 1000000000) (hn : keys.length + 1 ≤ 1000000) :
    ∃ s, Tab (insK cap keys key) s ∧ ∀ ckey, PC P f [.agg (cells3 cap false false keys slots), .sl 1 ckey (key.map u8L)] (.tup [.agg (cells3 cap false false (insK cap keys key) s), intL (insI cap keys key), boolL (insN cap keys key), intL (insE cap keys key)]) := by
  by_cases hk : key ∈ keys
  · have e1 : insK cap keys key = keys := by simp [insK, hk]
    have e2 : insN cap keys key = false := by simp [insN, hk]
    rw [e1, e2]
    refine ⟨slots, ht, fun ckey => ?_⟩
    simp only [insI, insE, hk, if_true]
    exact insert_old F cap false false ckey ht key hkey hkl hk
  · by_cases hc : cap ≤ keys.length
    · have e1 : insK cap keys key = keys := by simp [insK, hc]
      have e2 : insN cap keys key = false := by simp [insN, hc]
      rw [e1, e2]
      refine ⟨slots, ht, fun ckey => ?_⟩
      simp only [insI, insE, hk, hc, if_true, if_false]
      exact insert_full F cap false false ckey ht key hkey hkl hk hc
    · have e1 : insK cap keys key = keys ++ [key] := by simp [insK, hk, hc]
      have e2 : insN cap keys key = true := by simp [insN, hk]; omega
      rw [e1, e2]
      refine ⟨insSlots keys slots key, ht.ins hkey hkl hk hn, fun ckey => ?_⟩
      simp only [insI, insE, hk, hc, if_false]
      exact insert_new F cap false false ckey ht key hkey hkl hk (by omega)
theorem insK_length {cap : Int} {keys : List (List Int)} {key : List Int} : (insK cap keys key).length = keys.length + (insN cap keys key).toNat := by
  unfold insK insN
  by_cases hk : key ∈ keys
  · simp [hk]
  · by_cases hc : cap ≤ keys.length
    · have : ¬ (keys.length : Int) < cap := by omega
      simp [hc, this]
    · have : (keys.length : Int) < cap := by omega
      simp [hk, hc, this]
theorem mem_insK {cap : Int} {keys : List (List Int)} {key k : List Int} (hc : (keys.length : Int) < cap) : k ∈ insK cap keys key ↔ k ∈ keys ∨ k = key := by
  have hc' : ¬ cap ≤ keys.length := by omega
  unfold insK
  by_cases hk : key ∈ keys
  · simp [hk]
    intro e; rw [e]; exact hk
  · simp [hk, hc']
theorem key_bad {P : Program} {f g : Nat} (ir : compF P f = some (irKey g)) (cap : Int) (ck cs : Bool) (keys : List (List Int)) (slots : List Int) (i : Int) (hi : i < 0 ∨ (keys.length : Int) ≤ i) :
    PC P f [.agg (cells3 cap ck cs keys slots), intL i] (.tup [.v (.slice none 0 0), intL 10]) := by
  refine pc_of_call (callAt_enter ir (by simp [irKey]) ?_)
  by_cases h0 : i < 0
  · simp [irKey, h0]
  · have h1 : (keys.length : Int) ≤ i := by omega
    simp [irKey, h0, h1]
def dd (l : List (List Int)) : List (List Int) := l.foldl (fun ks k => if k ∈ ks then ks else ks ++ [k]) []
@[simp] theorem dd_nil : dd [] = [] := eqOf rfl
theorem dd_append {l : List (List Int)} {k : List Int} : dd (l ++ [k]) = if k ∈ dd l then dd l else dd l ++ [k] := by
  unfold dd
  rw [List.foldl_append]
  simp only [List.foldl_cons, List.foldl_nil]
theorem dd_take {l : List (List Int)} {i : Nat} (h : i < l.length) : dd (l.take (i + 1)) = if l[i] ∈ dd (l.take i) then dd (l.take i) else dd (l.take i) ++ [l[i]] := by
  rw [List.take_succ_eq_append_getElem h, dd_append]
theorem dd_ins {cap : Int} {l : List (List Int)} {i : Nat} (h : i < l.length) (hc : ((dd (l.take i)).length : Int) < cap) : dd (l.take (i + 1)) = insK cap (dd (l.take i)) l[i] := by
  rw [dd_take h]
  have hc' : ¬ cap ≤ (dd (l.take i)).length := by omega
  simp [insK, hc']
theorem dd_len (l : List (List Int)) : ∀ i, i ≤ l.length → (dd (l.take i)).length ≤ i
  | 0, _ => by simp
  | i + 1, h => by
    have := dd_len l i (by omega)
    rw [dd_take (by omega)]
    split
    · omega
    · simp; omega
theorem dd_prefix (l : List (List Int)) (i : Nat) : ∀ n, i + n ≤ l.length → dd (l.take i) <+: dd (l.take (i + n))
  | 0, _ => List.prefix_refl _
  | n + 1, h => by
    refine (dd_prefix l i n (by omega)).trans ?_
    rw [← Nat.add_assoc, dd_take (by omega)]
    split
    · exact List.prefix_refl _
    · exact List.prefix_append _ _
theorem dd_pre {l : List (List Int)} {i : Nat} (h : i ≤ l.length) : dd (l.take i) <+: dd l := by
  have := dd_prefix l i (l.length - i) (by omega)
  rwa [show i + (l.length - i) = l.length by omega, List.take_length] at this
theorem dd_mem {l : List (List Int)} {i : Nat} (h : i < l.length) : l[i] ∈ dd (l.take (i + 1)) := by
  rw [dd_take h]
  split
  · assumption
  · simp
theorem idx_prefix {a b : List (List Int)} {k : List Int} (h : a <+: b) (hk : k ∈ a) : idx b k = idx a k := by
  obtain ⟨c, rfl⟩ := h
  unfold idx
  rw [List.findIdx_append, if_pos]
  exact List.findIdx_lt_length_of_exists ⟨k, hk, by simp⟩
theorem idx_lt {a : List (List Int)} {k : List Int} (hk : k ∈ a) : idx a k < a.length := List.findIdx_lt_length_of_exists ⟨k, hk, by simp⟩
theorem idx_get {a : List (List Int)} {k : List Int} (h : idx a k < a.length) : a[idx a k] = k := by
  have := List.findIdx_getElem (p := fun x => decide (x = k)) (xs := a) (w := h)
  exact of_decide_eq_true this
theorem idx_new {a : List (List Int)} {k : List Int} (hk : k ∉ a) : idx (a ++ [k]) k = a.length := by
  have e : List.findIdx (fun x => decide (x = k)) a = a.length := by
    rw [List.findIdx_eq_length]
    intro x hx
    simp
    rintro rfl
    exact hk hx
  unfold idx
  rw [List.findIdx_append, e, if_neg (by omega)]
  simp
theorem few_len {l : List (List Int)} {most : Int} (h : fewK l most = true) : (l.length : Int) ≤ most ∧ ∀ k ∈ l, k.length ≤ 200 := by
  simpa [fewK] using h
theorem insN_old {cap : Int} {keys : List (List Int)} {key : List Int} (hc : (keys.length : Int) < cap) : insN cap keys key = decide (key ∉ keys) := by simp [insN, hc]
theorem insE_ok {cap : Int} {keys : List (List Int)} {key : List Int} (hc : (keys.length : Int) < cap) : insE cap keys key = 0 := by
  have : ¬ cap ≤ keys.length := by omega
  simp [insE, this]
end Lg
