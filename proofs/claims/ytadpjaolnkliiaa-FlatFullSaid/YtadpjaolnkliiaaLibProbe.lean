/- Linear probing, in plain terms. -/
import Derived.Test.YtadpjaolnkliiaaLibFind
namespace Lg
open Go

/-- The place so many steps on. -/
def pos (S h j : Nat) : Nat := (h + j) % S

theorem pos_step {S h j : Nat} : step S (pos S h j) = pos S h (j + 1) := by
  unfold step pos
  rw [Nat.mod_add_mod, Nat.add_assoc]

/-- The search goes on to the first place where it ends. -/
theorem seekN_first {slots : List Int} {keys : List (List Int)} {key : List Int} {h : Nat} : ∀ (n j d : Nat), d ≤ n → (∀ i, i < d → ¬ stops slots keys key (pos slots.length h (j + i))) → stops slots keys key (pos slots.length h (j + d)) →
    seekN slots keys key n (pos slots.length h j) = pos slots.length h (j + d)
  | n, j, 0, _, _, hs => by rw [Nat.add_zero] at hs ⊢; exact seekN_stop hs n
  | 0, j, d + 1, hd, _, _ => by omega
  | n + 1, j, d + 1, hd, hn, hs => by
    have h0 := hn 0 (by omega)
    rw [Nat.add_zero] at h0
    simp only [seekN, h0, if_false]
    rw [pos_step]
    have := seekN_first n (j + 1) d (by omega) (fun i hi => by rw [show j + 1 + i = j + (i + 1) by omega]; exact hn (i + 1) (by omega)) (by rw [show j + 1 + d = j + (d + 1) by omega]; exact hs)
    rw [this, show j + 1 + d = j + (d + 1) by omega]

/-- The first so many keys stand in the slots. -/
structure Probe (keys : List (List Int)) (m : Nat) (slots : List Int) : Prop where
  mle : m ≤ keys.length
  lt : m < slots.length
  val : ∀ v ∈ slots, 0 ≤ v ∧ v ≤ m
  uniq : ∀ p q, p < slots.length → q < slots.length → slots.getD p 0 = slots.getD q 0 → slots.getD p 0 ≠ 0 → p = q
  at_ : ∀ i, i < m → ∃ j, j < slots.length ∧ slots.getD (pos slots.length (home (keys.getD i []) slots.length) j) 0 = i + 1 ∧ ∀ j', j' < j → slots.getD (pos slots.length (home (keys.getD i []) slots.length) j') 0 ≠ 0
  nodup : keys.Nodup

theorem val_get {slots : List Int} {m : Nat} (h : ∀ v ∈ slots, 0 ≤ v ∧ v ≤ (m : Int)) (p : Nat) : 0 ≤ slots.getD p 0 ∧ slots.getD p 0 ≤ m := by
  by_cases hp : p < slots.length
  · have := h slots[p] (List.getElem_mem hp)
    simpa [List.getD, hp] using this
  · rw [List.getD, List.getElem?_eq_none (by omega)]
    simp

/-- There is a free slot. -/
theorem Probe.free {keys : List (List Int)} {m : Nat} {slots : List Int} (h : Probe keys m slots) : ∃ p, p < slots.length ∧ slots.getD p 0 = 0 := by
  apply Classical.byContradiction
  intro hno
  have hne : ∀ p, p < slots.length → slots.getD p 0 ≠ 0 := fun p hp e => hno ⟨p, hp, e⟩
  -- the values are m different numbers at most
  have hsub : ∀ x ∈ (List.range slots.length).map fun p => (slots.getD p 0).toNat, x ∈ (List.range (m + 1)).tail := by
    intro x hx
    obtain ⟨p, hp, rfl⟩ := List.mem_map.1 hx
    have h1 := val_get h.val p
    have h2 := hne p (List.mem_range.1 hp)
    rw [List.range_succ_eq_map, List.tail_cons]
    exact List.mem_map.2 ⟨(slots.getD p 0).toNat - 1, List.mem_range.2 (by omega), by show ((slots.getD p 0).toNat - 1) + 1 = _; omega⟩
  have hnd : ((List.range slots.length).map fun p => (slots.getD p 0).toNat).Nodup := by
    refine List.pairwise_map.2 (List.Pairwise.imp_of_mem (fun {i j} hi hj hij e => ?_) List.nodup_range)
    have hi := List.mem_range.1 hi
    have hj := List.mem_range.1 hj
    have h1 := val_get h.val i
    have h2 := val_get h.val j
    exact hij (h.uniq i j hi hj (by omega) (hne i hi))
  have := List.Nodup.length_le_of_subset hnd hsub
  simp at this
  have := h.lt
  omega

theorem pos_val {S h j : Nat} (hh : h < S) (hj : j < S) : pos S h j = if h + j < S then h + j else h + j - S := by
  unfold pos
  split
  · rename_i hlt; exact Nat.mod_eq_of_lt hlt
  · rename_i hge
    rw [Nat.mod_eq_sub_mod (by omega), Nat.mod_eq_of_lt (by omega)]

theorem pos_inj {S h j j' : Nat} (hh : h < S) (hj : j < S) (hj' : j' < S) (e : pos S h j = pos S h j') : j = j' := by
  rw [pos_val hh hj, pos_val hh hj'] at e
  split at e <;> split at e <;> omega

theorem pos_onto {S h p : Nat} (hh : h < S) (hp : p < S) : ∃ j, j < S ∧ pos S h j = p := by
  by_cases hle : h ≤ p
  · exact ⟨p - h, by omega, by rw [pos_val hh (by omega), if_pos (by omega)]; omega⟩
  · exact ⟨p + S - h, by omega, by rw [pos_val hh (by omega), if_neg (by omega)]; omega⟩

theorem pos_lt {S h j : Nat} (hS : 0 < S) : pos S h j < S := Nat.mod_lt _ hS

theorem Probe.spot_new {keys : List (List Int)} {m : Nat} {slots : List Int} (h : Probe keys m slots) (hS2 : slots.length ≤ 1000000000) {key : List Int} (hk : ∀ i, i < m → keys.getD i [] ≠ key) :
    ∃ d, d < slots.length ∧ spot keys slots key = pos slots.length (home key slots.length) d ∧ slots.getD (spot keys slots key) 0 = 0 ∧ ∀ j', j' < d → slots.getD (pos slots.length (home key slots.length) j') 0 ≠ 0 := by
  have hS : 0 < slots.length := by have := h.lt; omega
  have hh := home_lt (key := key) hS hS2
  obtain ⟨p, hp, hp0⟩ := h.free
  obtain ⟨j, hj, rfl⟩ := pos_onto hh hp
  obtain ⟨d, hd1, hd2, hd3⟩ := exists_first (p := fun j => slots.getD (pos slots.length (home key slots.length) j) 0 = 0) hp0
  have hns : ∀ i, i < d → ¬ stops slots keys key (pos slots.length (home key slots.length) (0 + i)) := fun i hi => by
    rw [Nat.zero_add]
    rintro (e | e)
    · exact hd3 i hi e
    · have h1 := val_get h.val (pos slots.length (home key slots.length) i)
      have h2 := hd3 i hi
      exact hk _ (by omega) e
  have hsp : spot keys slots key = pos slots.length (home key slots.length) d := by
    have := seekN_first (h := home key slots.length) slots.length 0 d (by omega) hns (.inl (by rw [Nat.zero_add]; exact hd2))
    rw [Nat.zero_add] at this
    rw [← this]
    unfold spot
    congr 1
    unfold pos
    rw [Nat.add_zero, Nat.mod_eq_of_lt hh]
  exact ⟨d, by omega, hsp, by rw [hsp]; exact hd2, hd3⟩

theorem getD_nodup {keys : List (List Int)} (h : keys.Nodup) {i j : Nat} (hi : i < keys.length) (hj : j < keys.length) (e : keys.getD i [] = keys.getD j []) : i = j := by
  have e' : keys[i] = keys[j] := by simpa [List.getD, hi, hj] using e
  exact (List.getElem_inj h).1 e'

theorem Probe.spot_old {keys : List (List Int)} {m : Nat} {slots : List Int} (h : Probe keys m slots) (hS2 : slots.length ≤ 1000000000) {key : List Int} {i : Nat} (hi : i < m) (hk : keys.getD i [] = key) :
    slots.getD (spot keys slots key) 0 = i + 1 ∧ stops slots keys key (spot keys slots key) := by
  have hS : 0 < slots.length := by have := h.lt; omega
  have hh := home_lt (key := key) hS hS2
  obtain ⟨j, hj, hj1, hj2⟩ := h.at_ i hi
  rw [hk] at hj1 hj2
  have hmle := h.mle
  have hst : stops slots keys key (pos slots.length (home key slots.length) (0 + j)) := by
    rw [Nat.zero_add]
    refine .inr ?_
    rw [hj1, show ((i : Int) + 1).toNat - 1 = i by omega]
    exact hk
  have hns : ∀ a, a < j → ¬ stops slots keys key (pos slots.length (home key slots.length) (0 + a)) := fun a ha => by
    rw [Nat.zero_add]
    rintro (e | e)
    · exact hj2 a ha e
    · have h1 := val_get h.val (pos slots.length (home key slots.length) a)
      have h2 := hj2 a ha
      have h3 := getD_nodup h.nodup (i := (slots.getD (pos slots.length (home key slots.length) a) 0).toNat - 1) (j := i) (by omega) (by omega) (by rw [e, hk])
      have h4 := h.uniq _ _ (pos_lt hS) (pos_lt hS) (show slots.getD (pos slots.length (home key slots.length) a) 0 = slots.getD (pos slots.length (home key slots.length) j) 0 by omega) h2
      have := pos_inj hh (by omega) hj h4
      omega
  have hsp : spot keys slots key = pos slots.length (home key slots.length) j := by
    have := seekN_first (h := home key slots.length) slots.length 0 j (by omega) hns hst
    rw [Nat.zero_add] at this
    rw [← this]
    unfold spot
    congr 1
    unfold pos
    rw [Nat.add_zero, Nat.mod_eq_of_lt hh]
  rw [Nat.zero_add] at hst
  rw [hsp]
  exact ⟨hj1, hst⟩

/-- One key more is put into its slot. -/
theorem Probe.put {keys : List (List Int)} {m : Nat} {slots : List Int} (h : Probe keys m slots) (hS2 : slots.length ≤ 1000000000) (hm : m < keys.length) (hlt : m + 1 < slots.length) : Probe keys (m + 1) (slots.set (spot keys slots (keys.getD m [])) (m + 1)) := by
  have hS : 0 < slots.length := by omega
  have hk : ∀ i, i < m → keys.getD i [] ≠ keys.getD m [] := fun i hi e => by
    have := getD_nodup h.nodup (by omega) hm e
    omega
  obtain ⟨d, hd, hsp, h0, hd2⟩ := h.spot_new hS2 hk
  have hslt : spot keys slots (keys.getD m []) < slots.length := by rw [hsp]; exact pos_lt hS
  have hg : ∀ q, (slots.set (spot keys slots (keys.getD m [])) ((m : Int) + 1)).getD q 0 = if q = spot keys slots (keys.getD m []) then (m : Int) + 1 else slots.getD q 0 := fun q => by
    generalize spot keys slots (keys.getD m []) = r at hslt
    unfold List.getD
    rw [List.getElem?_set]
    by_cases hq : q = r
    · subst hq; simp [hslt]
    · rw [if_neg (Ne.symm hq), if_neg hq]
  refine ⟨hm, by simpa using hlt, fun v hv => ?_, fun p q hp hq e hne => ?_, fun i hi => ?_, h.nodup⟩
  · rcases List.mem_or_eq_of_mem_set hv with hv | hv
    · have := h.val v hv; omega
    · omega
  · simp only [List.length_set] at hp hq
    rw [hg] at hne
    rw [hg, hg] at e
    have h1 := val_get h.val p
    have h2 := val_get h.val q
    split at e <;> split at e
    · omega
    · omega
    · omega
    · rw [if_neg (by assumption)] at hne
      exact h.uniq p q hp hq e hne
  · simp only [List.length_set]
    by_cases him : i = m
    · subst him
      refine ⟨d, hd, by rw [hg, if_pos hsp.symm], fun j' hj' => ?_⟩
      rw [hg]
      split
      · omega
      · exact hd2 j' hj'
    · obtain ⟨j, hj, hj1, hj2⟩ := h.at_ i (by omega)
      refine ⟨j, hj, ?_, fun j' hj' => ?_⟩
      · rw [hg]
        split
        · rename_i e; rw [e, h0] at hj1; omega
        · exact hj1
      · rw [hg]
        split
        · omega
        · exact hj2 j' hj'

theorem probe_nil {keys : List (List Int)} (hn : keys.Nodup) {S : Nat} (hS : 0 < S) : Probe keys 0 (List.replicate S 0) := by
  have h0 : ∀ p, (List.replicate S (0 : Int)).getD p 0 = 0 := fun p => by
    unfold List.getD
    rw [List.getElem?_replicate]
    split <;> rfl
  refine ⟨Nat.zero_le _, by simpa using hS, fun v hv => ?_, fun p q _ _ _ hne => absurd (h0 p) hne, fun i hi => by omega, hn⟩
  rw [List.eq_of_mem_replicate hv]
  omega

theorem getD_app {keys : List (List Int)} {key : List Int} {i : Nat} (hi : i < keys.length) : (keys ++ [key]).getD i [] = keys.getD i [] := by
  simp [List.getD, List.getElem?_append_left hi]

theorem Probe.app {keys : List (List Int)} {slots : List Int} (h : Probe keys keys.length slots) {key : List Int} (hk : key ∉ keys) : Probe (keys ++ [key]) keys.length slots := by
  refine ⟨by simp, h.lt, h.val, h.uniq, fun i hi => ?_, ?_⟩
  · rw [getD_app hi]; exact h.at_ i hi
  · rw [List.nodup_append]
    refine ⟨h.nodup, by simp, fun a ha b hb => ?_⟩
    simp at hb
    subst hb
    exact fun e => hk (e ▸ ha)

theorem seekN_congr {slots : List Int} {keys keys' : List (List Int)} {key : List Int} (h : ∀ p, stops slots keys key p ↔ stops slots keys' key p) : ∀ n i, seekN slots keys key n i = seekN slots keys' key n i
  | 0, _ => rfl
  | n + 1, i => by
    simp only [seekN, h i, seekN_congr h n]

theorem spot_app {keys : List (List Int)} {slots : List Int} (hv : ∀ v ∈ slots, 0 ≤ v ∧ v ≤ (keys.length : Int)) (key k : List Int) : spot (keys ++ [key]) slots k = spot keys slots k := by
  refine seekN_congr (fun p => ?_) _ _
  have h1 := val_get hv p
  unfold stops
  by_cases h0 : slots.getD p 0 = 0
  · exact ⟨fun _ => .inl h0, fun _ => .inl h0⟩
  · rw [getD_app (by omega)]

/-- What is known of a table. -/
structure Tab (keys : List (List Int)) (slots : List Int) : Prop where
  probe : Probe keys keys.length slots
  hkeys : ∀ k ∈ keys, ∀ z ∈ k, isByte z
  hkn : keys.length ≤ 1000000
  cap4 : slots.length ≤ 8 + 4 * keys.length
  hS8 : 8 ≤ slots.length
  half : 2 * keys.length ≤ slots.length
  hlen : ∀ k ∈ keys, k.length ≤ 1000000000

theorem Tab.hS2 {keys : List (List Int)} {slots : List Int} (h : Tab keys slots) : slots.length ≤ 100000000 := by
  have := h.cap4; have := h.hkn; omega

theorem Tab.tidy {keys : List (List Int)} {slots : List Int} (h : Tab keys slots) : Tidy keys slots :=
  ⟨h.hkeys, by have := h.hS8; omega, by have := h.hS2; omega, h.probe.val, by have := h.hkn; omega⟩

/-- Where a key stands: its place among the keys. -/
def idx (keys : List (List Int)) (key : List Int) : Nat := keys.findIdx (fun k => decide (k = key))

theorem Tab.spot_stops {keys : List (List Int)} {slots : List Int} (h : Tab keys slots) (key : List Int) : stops slots keys key (spot keys slots key) ∧ slots.getD (spot keys slots key) 0 = if key ∈ keys then (idx keys key : Int) + 1 else 0 := by
  have hS2 : slots.length ≤ 1000000000 := by have := h.hS2; omega
  by_cases hk : key ∈ keys
  · have hlt : idx keys key < keys.length := List.findIdx_lt_length_of_exists ⟨key, hk, by simp⟩
    have hget : keys.getD (idx keys key) [] = key := by
      have := List.findIdx_getElem (w := hlt)
      simp only [List.getD, List.getElem?_eq_getElem hlt, Option.getD_some]
      exact of_decide_eq_true this
    obtain ⟨h1, h2⟩ := h.probe.spot_old hS2 hlt hget
    exact ⟨h2, by rw [if_pos hk]; exact h1⟩
  · obtain ⟨d, -, -, h0, -⟩ := h.probe.spot_new hS2 (key := key) (fun i hi e => hk (by
      rw [← e]
      simp only [List.getD, List.getElem?_eq_getElem hi, Option.getD_some]
      exact List.getElem_mem hi))
    exact ⟨.inl h0, by rw [if_neg hk]; exact h0⟩

end Lg
