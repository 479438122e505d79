/- Bytes as eight bits; rows of bytes as sets of places. -/
import Derived.Test.YtagaakajpblmjaaLibTb
namespace Lg
open Go
def byteN (f : Nat → Bool) : Nat := (f 0).toNat + 2 * (f 1).toNat + 4 * (f 2).toNat + 8 * (f 3).toNat + 16 * (f 4).toNat + 32 * (f 5).toNat + 64 * (f 6).toNat + 128 * (f 7).toNat
def tab8 (b0 b1 b2 b3 b4 b5 b6 b7 : Bool) (i : Nat) : Bool := match i with
  | 0 => b0 | 1 => b1 | 2 => b2 | 3 => b3 | 4 => b4 | 5 => b5 | 6 => b6 | _ => b7
theorem byteN_tab (f : Nat → Bool) : byteN f = byteN (tab8 (f 0) (f 1) (f 2) (f 3) (f 4) (f 5) (f 6) (f 7)) := rfl
theorem tab8_eq (f : Nat → Bool) {i : Nat} (h : i < 8) : tab8 (f 0) (f 1) (f 2) (f 3) (f 4) (f 5) (f 6) (f 7) i = f i := by
  have : i = 0 ∨ i = 1 ∨ i = 2 ∨ i = 3 ∨ i = 4 ∨ i = 5 ∨ i = 6 ∨ i = 7 := by omega
  rcases this with rfl | rfl | rfl | rfl | rfl | rfl | rfl | rfl <;> rfl
theorem byteN_lt (f : Nat → Bool) : byteN f < 256 := by
  unfold byteN
  have h := fun i => (f i).toNat_le
  have := h 0; have := h 1; have := h 2; have := h 3; have := h 4; have := h 5; have := h 6; have := h 7
  omega
def popN (n : Nat) : Nat := n % 2 + n / 2 % 2 + n / 4 % 2 + n / 8 % 2 + n / 16 % 2 + n / 32 % 2 + n / 64 % 2 + n / 128 % 2
theorem pop_tab : ∀ b0 b1 b2 b3 b4 b5 b6 b7 : Bool, popN (byteN (tab8 b0 b1 b2 b3 b4 b5 b6 b7)) = b0.toNat + b1.toNat + b2.toNat + b3.toNat + b4.toNat + b5.toNat + b6.toNat + b7.toNat := by decide +kernel
theorem pop_byte (f : Nat → Bool) : popN (byteN f) = (f 0).toNat + (f 1).toNat + (f 2).toNat + (f 3).toNat + (f 4).toNat + (f 5).toNat + (f 6).toNat + (f 7).toNat := by
  rw [byteN_tab, pop_tab]
theorem byteN_congr {f g : Nat → Bool} (h : ∀ i, i < 8 → f i = g i) : byteN f = byteN g := by
  unfold byteN
  rw [h 0 (by omega), h 1 (by omega), h 2 (by omega), h 3 (by omega), h 4 (by omega), h 5 (by omega), h 6 (by omega), h 7 (by omega)]
theorem and_all : ∀ n : Fin 256, ∀ i : Fin 8, (bitsI .and .u8 (n.val : Int) ((2 ^ i.val : Nat) : Int) = 0 ↔ n.val / 2 ^ i.val % 2 = 0) := by decide +kernel
theorem or_all : ∀ n : Fin 256, ∀ i : Fin 8, bitsI .or .u8 (n.val : Int) ((2 ^ i.val : Nat) : Int) = ((if n.val / 2 ^ i.val % 2 = 0 then n.val + 2 ^ i.val else n.val : Nat) : Int) := by decide +kernel
theorem pop_all : ∀ n : Fin 256, 0 < n.val → ∃ m : Fin 256, bitsI .and .u8 (n.val : Int) ((n.val : Int) - 1) = (m.val : Int) ∧ popN m.val + 1 = popN n.val ∧ m.val < n.val := by
  intro n hn
  have h : ∀ n : Fin 256, 0 < n.val → (bitsI .and .u8 (n.val : Int) ((n.val : Int) - 1) = (((bitsI .and .u8 (n.val : Int) ((n.val : Int) - 1)).toNat : Nat) : Int) ∧ (bitsI .and .u8 (n.val : Int) ((n.val : Int) - 1)).toNat < 256) ∧ popN (bitsI .and .u8 (n.val : Int) ((n.val : Int) - 1)).toNat + 1 = popN n.val ∧ (bitsI .and .u8 (n.val : Int) ((n.val : Int) - 1)).toNat < n.val := by decide +kernel
  obtain ⟨⟨h1, h2⟩, h3, h4⟩ := h n hn
  exact ⟨⟨_, h2⟩, h1, h3, h4⟩
theorem byteN_bit (f : Nat → Bool) {i : Nat} (hi : i < 8) : byteN f / 2 ^ i % 2 = (f i).toNat := by
  have h := fun i => (f i).toNat_le
  have := h 0; have := h 1; have := h 2; have := h 3; have := h 4; have := h 5; have := h 6; have := h 7
  have : i = 0 ∨ i = 1 ∨ i = 2 ∨ i = 3 ∨ i = 4 ∨ i = 5 ∨ i = 6 ∨ i = 7 := by omega
  unfold byteN
  rcases this with rfl | rfl | rfl | rfl | rfl | rfl | rfl | rfl <;> simp <;> omega
theorem byteN_test (f : Nat → Bool) {i : Nat} (hi : i < 8) : bitsI .and .u8 (byteN f : Int) ((2 ^ i : Nat) : Int) = 0 ↔ f i = false := by
  have := and_all ⟨byteN f, byteN_lt f⟩ ⟨i, hi⟩
  simp only at this
  rw [this, byteN_bit f hi]
  cases f i <;> simp
theorem byteN_set (f : Nat → Bool) {i : Nat} (hi : i < 8) : bitsI .or .u8 (byteN f : Int) ((2 ^ i : Nat) : Int) = (byteN (fun k => f k || decide (k = i)) : Int) := by
  have := or_all ⟨byteN f, byteN_lt f⟩ ⟨i, hi⟩
  simp only at this
  rw [this, byteN_bit f hi]
  congr 1
  have hc : i = 0 ∨ i = 1 ∨ i = 2 ∨ i = 3 ∨ i = 4 ∨ i = 5 ∨ i = 6 ∨ i = 7 := by omega
  unfold byteN
  rcases hc with rfl | rfl | rfl | rfl | rfl | rfl | rfl | rfl
  · cases f 0 <;> simp <;> omega
  · cases f 1 <;> simp <;> omega
  · cases f 2 <;> simp <;> omega
  · cases f 3 <;> simp <;> omega
  · cases f 4 <;> simp <;> omega
  · cases f 5 <;> simp <;> omega
  · cases f 6 <;> simp <;> omega
  · cases f 7 <;> simp <;> omega
def bt (on : List Int) (j i : Nat) : Bool := decide (((8 * j + i : Nat) : Int) ∈ on)
def rowB (w : Nat) (on : List Int) : List Int := (List.range w).map fun j => (byteN (bt on j) : Int)
@[simp] theorem rowB_length {w : Nat} {on : List Int} : (rowB w on).length = w := by simp [rowB]
theorem rowB_get {w j : Nat} {on : List Int} (h : j < (rowB w on).length) : (rowB w on)[j] = (byteN (bt on j) : Int) := by simp [rowB]
theorem rowB_congr {w : Nat} {on on' : List Int} (h : ∀ p, p ∈ on ↔ p ∈ on') : rowB w on = rowB w on' := by
  have : bt on = bt on' := by funext j i; simp [bt, h]
  simp [rowB, this]
theorem rowB_nil {w : Nat} : rowB w [] = List.replicate w 0 := by
  have : ∀ j, byteN (bt [] j) = 0 := fun j => by simp [byteN, bt]
  simp [rowB, this]
  exact List.eq_replicate_iff.2 ⟨by simp, fun b hb => by simp at hb; exact hb.2.symm⟩
theorem rowB_test {w : Nat} {on : List Int} {p : Nat} (h : p / 8 < (rowB w on).length) : bitsI .and .u8 (rowB w on)[p / 8] ((2 ^ (p % 8) : Nat) : Int) = 0 ↔ (p : Int) ∉ on := by
  rw [rowB_get, byteN_test _ (by omega)]
  unfold bt
  rw [show 8 * (p / 8) + p % 8 = p by omega]
  simp
theorem rowB_set {w : Nat} {on : List Int} {p : Nat} (h : p / 8 < (rowB w on).length) : (rowB w on).set (p / 8) (bitsI .or .u8 (rowB w on)[p / 8] ((2 ^ (p % 8) : Nat) : Int)) = rowB w (on ++ [(p : Int)]) := by
  rw [rowB_get, byteN_set _ (by omega)]
  refine List.ext_getElem (by simp) fun j h1 h2 => ?_
  simp at h1 h2
  rw [List.getElem_set, rowB_get]
  have key : ∀ i, i < 8 → (((8 * j + i : Nat) : Int) ∈ on ++ [(p : Int)] ↔ ((8 * j + i : Nat) : Int) ∈ on ∨ (j = p / 8 ∧ i = p % 8)) := fun i hi => by
    simp only [List.mem_append, List.mem_singleton]
    refine or_congr_right ?_
    omega
  split
  · rename_i e
    rw [rowB_get]
    congr 1
    refine byteN_congr fun i hi => ?_
    simp only [bt, key i hi, e, true_and, Bool.decide_or]
  · rename_i e
    rw [rowB_get]
    congr 1
    refine byteN_congr fun i hi => ?_
    have e' : ¬ j = p / 8 := fun h => e h.symm
    simp only [bt, key i hi, e', false_and, or_false]
theorem shl1 : ∀ b : Fin 8, shlI .u8 1 (b.val : Int) = ((2 ^ b.val : Nat) : Int) := by decide +kernel
theorem rowB_test' {w : Nat} {on : List Int} {q j b : Nat} (hj : j = q / 8) (hb : b = q % 8) (h : j < (rowB w on).length) : bitsI .and .u8 (rowB w on)[j] (shlI .u8 1 (b : Int)) = 0 ↔ (q : Int) ∉ on := by
  subst hj; subst hb
  rw [shl1 ⟨q % 8, by omega⟩]
  exact rowB_test h
theorem rowB_set' {w : Nat} {on : List Int} {q j b : Nat} (hj : j = q / 8) (hb : b = q % 8) (h : j < (rowB w on).length) : (rowB w on).set j (bitsI .or .u8 (rowB w on)[j] (shlI .u8 1 (b : Int))) = rowB w (on ++ [(q : Int)]) := by
  subst hj; subst hb
  rw [shl1 ⟨q % 8, by omega⟩]
  exact rowB_set h
def cnt (on : List Int) (n : Nat) : Nat := (List.range n).countP fun (p : Nat) => decide ((p : Int) ∈ on)
theorem cnt_succ {on : List Int} {n : Nat} : cnt on (n + 1) = cnt on n + (decide ((n : Int) ∈ on)).toNat := by
  simp only [cnt, List.range_succ, List.countP_append, List.countP_singleton]
  cases decide ((n : Int) ∈ on) <;> simp
theorem cnt_byte {on : List Int} {j : Nat} : cnt on (8 * (j + 1)) = cnt on (8 * j) + popN (byteN (bt on j)) := by
  rw [pop_byte]
  simp only [bt]
  have : 8 * (j + 1) = 8 * j + 1 + 1 + 1 + 1 + 1 + 1 + 1 + 1 := by omega
  rw [this]
  simp only [cnt_succ, Nat.add_zero, Nat.add_assoc]
theorem cnt_all {on : List Int} (hn : on.Nodup) {n : Nat} (hb : ∀ p ∈ on, 0 ≤ p ∧ p < n) : cnt on n = on.length := by
  have e : cnt on n = (((List.range n).filter fun (p : Nat) => decide ((p : Int) ∈ on)).map fun (p : Nat) => (p : Int)).length := by
    simp only [cnt, List.countP_eq_length_filter, List.length_map]
  rw [e]
  refine List.Perm.length_eq ((List.perm_ext_iff_of_nodup ?_ hn).2 fun p => ?_)
  · refine List.pairwise_map.2 ?_
    have : ((List.range n).filter fun (p : Nat) => decide ((p : Int) ∈ on)).Nodup := List.Nodup.sublist List.filter_sublist List.nodup_range
    exact this.imp (fun h e => h (by omega))
  · simp only [List.mem_map, List.mem_filter, List.mem_range, decide_eq_true_eq]
    constructor
    · rintro ⟨q, ⟨h1, h2⟩, rfl⟩; exact h2
    · intro hp
      obtain ⟨h1, h2⟩ := hb p hp
      have e : ((p.toNat : Nat) : Int) = p := by omega
      exact ⟨p.toNat, ⟨by omega, by rw [e]; exact hp⟩, e⟩
theorem cnt_le {on : List Int} {n : Nat} : cnt on n ≤ n := by
  have := List.countP_le_length (p := fun (p : Nat) => decide ((p : Int) ∈ on)) (l := List.range n)
  simpa [cnt] using this
def allIn (on ps : List Int) : Bool := ps.all fun p => decide (p ∈ on)
theorem allIn_nil {on : List Int} : allIn on [] = true := rfl
theorem allIn_take {on ps : List Int} {i : Nat} (h : i < ps.length) : allIn on (ps.take (i + 1)) = (allIn on (ps.take i) && decide (ps[i] ∈ on)) := by
  unfold allIn
  rw [List.take_succ_eq_append_getElem h, List.all_append]
  simp
theorem allIn_iff {on ps : List Int} : allIn on ps = true ↔ ∀ p ∈ ps, p ∈ on := by simp [allIn]
def withP (on ps : List Int) : List Int := ps.foldl (fun on p => if p ∈ on then on else on ++ [p]) on
theorem withP_nil {on : List Int} : withP on [] = on := rfl
theorem withP_snoc {on ps : List Int} {p : Int} : withP on (ps ++ [p]) = if p ∈ withP on ps then withP on ps else withP on ps ++ [p] := by
  unfold withP
  rw [List.foldl_append]
  simp only [List.foldl_cons, List.foldl_nil]
theorem withP_take {on ps : List Int} {i : Nat} (h : i < ps.length) : withP on (ps.take (i + 1)) = if ps[i] ∈ withP on (ps.take i) then withP on (ps.take i) else withP on (ps.take i) ++ [ps[i]] := by
  rw [List.take_succ_eq_append_getElem h, withP_snoc]
theorem withP_mem {on : List Int} : ∀ {ps : List Int} {q : Int}, q ∈ withP on ps ↔ q ∈ on ∨ q ∈ ps := by
  intro ps
  induction ps generalizing on with
  | nil => intro q; simp [withP]
  | cons p ps ih =>
    intro q
    have : withP on (p :: ps) = withP (if p ∈ on then on else on ++ [p]) ps := rfl
    rw [this, ih]
    split
    · rename_i h
      simp only [List.mem_cons]
      constructor
      · rintro (h' | h')
        · exact .inl h'
        · exact .inr (.inr h')
      · rintro (h' | h' | h')
        · exact .inl h'
        · subst h'; exact .inl h
        · exact .inr h'
    · simp [or_assoc]
theorem withP_nodup {on : List Int} (h : on.Nodup) : ∀ {ps : List Int}, (withP on ps).Nodup := by
  intro ps
  induction ps generalizing on with
  | nil => exact h
  | cons p ps ih =>
    have : withP on (p :: ps) = withP (if p ∈ on then on else on ++ [p]) ps := rfl
    rw [this]
    refine ih ?_
    split
    · exact h
    · rename_i hp
      refine List.nodup_append.2 ⟨h, by simp, fun a ha b hb => ?_⟩
      simp at hb; subst hb
      intro e; subst e; exact hp ha
theorem withP_old {on : List Int} : ∀ {ps : List Int}, (∀ p ∈ ps, p ∈ on) → withP on ps = on := by
  intro ps
  induction ps with
  | nil => intro _; rfl
  | cons p ps ih =>
    intro h
    have : withP on (p :: ps) = withP (if p ∈ on then on else on ++ [p]) ps := rfl
    rw [this, if_pos (h p (by simp))]
    exact ih fun q hq => h q (by simp [hq])
theorem withP_len {on : List Int} : ∀ {ps : List Int}, on.length ≤ (withP on ps).length ∧ (withP on ps).length ≤ on.length + ps.length := by
  intro ps
  induction ps generalizing on with
  | nil => simp [withP]
  | cons p ps ih =>
    have e : withP on (p :: ps) = withP (if p ∈ on then on else on ++ [p]) ps := rfl
    rw [e]
    have := ih (on := if p ∈ on then on else on ++ [p])
    split at this
    · rename_i h; simp [h]; omega
    · rename_i h; simp [h] at this ⊢; omega
theorem withP_new {on : List Int} : ∀ {ps : List Int}, (∃ p ∈ ps, p ∉ on) → on.length < (withP on ps).length := by
  intro ps
  induction ps generalizing on with
  | nil => rintro ⟨p, hp, -⟩; simp at hp
  | cons p ps ih =>
    rintro ⟨q, hq, hn⟩
    have e : withP on (p :: ps) = withP (if p ∈ on then on else on ++ [p]) ps := rfl
    rw [e]
    split
    · rename_i h
      refine ih ⟨q, ?_, hn⟩
      rcases List.mem_cons.1 hq with h' | h'
      · subst h'; exact absurd h hn
      · exact h'
    · have := (withP_len (on := on ++ [p]) (ps := ps)).1
      simp at this
      omega
theorem same_len {a b : List Int} (ha : a.Nodup) (hb : b.Nodup) (h : ∀ p, p ∈ a ↔ p ∈ b) : a.length = b.length := ((List.perm_ext_iff_of_nodup ha hb).2 h).length_eq
end Lg
