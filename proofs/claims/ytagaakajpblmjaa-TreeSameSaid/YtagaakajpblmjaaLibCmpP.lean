/- The collapsed store, in plain terms: a vector's parts, and rows of places. -/
import Derived.Test.YtagaakajpblmjaaLibCmpA
namespace Lg
open Go
def cutV (lo hi : Nat) (v : List Int) : List Int := (v.take hi).drop lo
def prt {α : Type} (l : List α) (i : Nat) : List α := (l.take (2 * i + 2)).drop (2 * i)
def np (s : List (Int × Int)) : Nat := (s.length + 1) / 2
def ck (s : List (Int × Int)) (v : List Int) (i : Nat) : List Int := encB (prt s i) (prt v i)
theorem prt_length {α : Type} {l : List α} {i : Nat} : (prt l i).length = min (2 * i + 2) l.length - 2 * i := by simp [prt]
theorem prt_get {α : Type} {l : List α} {i j : Nat} (h : j < 2) : (prt l i)[j]? = l[2 * i + j]? := by
  rw [prt, List.getElem?_drop, List.getElem?_take, if_pos (by omega)]
theorem prt_mem {α : Type} {l : List α} {i : Nat} {x : α} (h : x ∈ prt l i) : x ∈ l := List.mem_of_mem_take (List.mem_of_mem_drop h)
theorem prt_ext {α : Type} {v w : List α} {n : Nat} (hv : v.length ≤ 2 * n) (hw : w.length ≤ 2 * n) (h : ∀ i, i < n → prt v i = prt w i) : v = w := by
  apply List.ext_getElem?
  intro j
  by_cases hj : j < 2 * n
  · have e := h (j / 2) (by omega)
    have a := prt_get (l := v) (i := j / 2) (j := j % 2) (by omega)
    have b := prt_get (l := w) (i := j / 2) (j := j % 2) (by omega)
    rw [show 2 * (j / 2) + j % 2 = j by omega] at a b
    rw [← a, ← b, e]
  · rw [List.getElem?_eq_none (by omega), List.getElem?_eq_none (by omega)]
theorem prt_in {s : List (Int × Int)} {v : List Int} {i : Nat} (h : inV s v = 0) : inV (prt s i) (prt v i) = 0 := by
  obtain ⟨h1, h2⟩ := inV_zero.1 h
  refine inV_zero.2 ⟨by rw [prt_length, prt_length, h1], fun p hp => h2 p ?_⟩
  obtain ⟨j, hj⟩ := List.getElem?_of_mem hp
  rw [List.getElem?_zip_eq_some] at hj
  obtain ⟨k1, k2⟩ := hj
  have hj2 : j < 2 := by
    have := (List.getElem?_eq_some_iff.1 k1).1
    rw [prt_length] at this
    omega
  rw [prt_get hj2] at k1 k2
  exact List.mem_of_getElem? (zip_get k1 k2)
theorem ck_same {s : List (Int × Int)} {v w : List Int} (hm : ∀ z ∈ s, mayP z) (hv : inV s v = 0) (hw : inV s w = 0) (h : ∀ i, i < np s → ck s v i = ck s w i) : v = w := by
  have l1 := (inV_zero.1 hv).1
  have l2 := (inV_zero.1 hw).1
  refine prt_ext (n := np s) (by unfold np; omega) (by unfold np; omega) fun i hi => ?_
  exact (encB_same (fun z hz => hm z (prt_mem hz)) (prt_in hv) (prt_in hw)).1 (h i hi)
theorem mem_ddA {k : List Int} : ∀ {l acc : List (List Int)}, k ∈ l.foldl (fun ks k => if k ∈ ks then ks else ks ++ [k]) acc ↔ k ∈ acc ∨ k ∈ l
  | [], acc => by simp
  | x :: l, acc => by
    rw [List.foldl_cons, mem_ddA]
    by_cases h : x ∈ acc
    · rw [if_pos h, List.mem_cons]
      constructor
      · rintro (a | a)
        · exact .inl a
        · exact .inr (.inr a)
      · rintro (a | rfl | a)
        · exact .inl a
        · exact .inl h
        · exact .inr a
    · rw [if_neg h, List.mem_append, List.mem_singleton, List.mem_cons, or_assoc]
theorem mem_dd {l : List (List Int)} {k : List Int} : k ∈ dd l ↔ k ∈ l := by
  unfold dd
  rw [mem_ddA]
  simp
theorem dd_le {l : List (List Int)} : (dd l).length ≤ l.length := by
  have := dd_len l l.length (Nat.le_refl _)
  rwa [List.take_length] at this
theorem dd_more {l : List (List Int)} {k : List Int} : dd l <+: dd (l ++ [k]) := by
  rw [dd_append]
  split
  · exact List.prefix_refl _
  · exact List.prefix_append _ _
section
variable (s : List (Int × Int)) (V : List (List Int))
def partK (i : Nat) : List (List Int) := dd (V.map fun v => ck s v i)
def rowT (v : List Int) (k : Nat) : List Int := (List.range k).flatMap fun i => lay4 (idx (partK s V i) (ck s v i))
def rowF (v : List Int) : List Int := rowT s V v (np s)
def rowsK : List (List Int) := V.map (rowF s V)
end
variable {s : List (Int × Int)} {V : List (List Int)} {v w : List Int}
theorem partK_len {i : Nat} : (partK s V i).length ≤ V.length := by
  have := dd_le (l := V.map fun v => ck s v i)
  simpa [partK] using this
theorem partK_mem {i : Nat} (h : v ∈ V) : ck s v i ∈ partK s V i := mem_dd.2 (List.mem_map.2 ⟨v, h, rfl⟩)
theorem partK_snoc {i : Nat} : partK s (V ++ [v]) i = if ck s v i ∈ partK s V i then partK s V i else partK s V i ++ [ck s v i] := by
  unfold partK
  rw [List.map_append, List.map_singleton, dd_append]
theorem partK_more {i : Nat} : partK s V i <+: partK s (V ++ [v]) i := by
  unfold partK
  rw [List.map_append, List.map_singleton]
  exact dd_more
theorem partK_byte {i : Nat} : ∀ k ∈ partK s V i, ∀ z ∈ k, isByte z := fun k hk z hz => by
  obtain ⟨v, -, rfl⟩ := List.mem_map.1 (mem_dd.1 hk)
  exact encB_byte z hz
theorem rowT_succ {k : Nat} : rowT s V v (k + 1) = rowT s V v k ++ lay4 (idx (partK s V k) (ck s v k)) := by simp [rowT, List.range_succ]
theorem rowT_zero : rowT s V v 0 = [] := rfl
theorem rowT_length {k : Nat} : (rowT s V v k).length = 4 * k := by
  induction k with
  | zero => rfl
  | succ k ih => rw [rowT_succ, List.length_append, ih, lay4_length]; omega
theorem rowT_byte {k : Nat} : ∀ z ∈ rowT s V v k, isByte z := fun z hz => by
  obtain ⟨i, -, h⟩ := List.mem_flatMap.1 hz
  exact lay4_byte z h
theorem rowT_more {k : Nat} (h : v ∈ V) : rowT s (V ++ [w]) v k = rowT s V v k := by
  induction k with
  | zero => rfl
  | succ k ih => rw [rowT_succ, rowT_succ, ih, idx_prefix partK_more (partK_mem h)]
theorem rowsK_length : (rowsK s V).length = V.length := by simp [rowsK]
theorem rowsK_snoc : rowsK s (V ++ [v]) = rowsK s V ++ [rowF s (V ++ [v]) v] := by
  unfold rowsK
  rw [List.map_append, List.map_singleton]
  congr 1
  exact List.map_congr_left fun x hx => rowT_more hx
theorem idx_inj {l : List (List Int)} {a b : List Int} (ha : a ∈ l) (hb : b ∈ l) (h : idx l a = idx l b) : a = b := by
  have e1 := idx_get (idx_lt ha)
  have e2 := idx_get (idx_lt hb)
  rw [← e1, ← e2]
  congr 1
theorem rowT_inj {k : Nat} (hl : V.length < 4294967296) (hv : ∀ i, i < k → ck s v i ∈ partK s V i) (hw : ∀ i, i < k → ck s w i ∈ partK s V i) (h : rowT s V v k = rowT s V w k) : ∀ i, i < k → ck s v i = ck s w i := by
  induction k with
  | zero => intro i hi; omega
  | succ k ih =>
    rw [rowT_succ, rowT_succ] at h
    obtain ⟨h1, h2⟩ := List.append_inj h (by rw [rowT_length, rowT_length])
    intro i hi
    by_cases hik : i < k
    · exact ih (fun i hi => hv i (by omega)) (fun i hi => hw i (by omega)) h1 i hik
    · have e : i = k := by omega
      subst e
      have b1 := idx_lt (hv i hi)
      have b2 := idx_lt (hw i hi)
      have b3 := partK_len (s := s) (V := V) (i := i)
      exact idx_inj (hv i hi) (hw i hi) (lay4_inj (by omega) (by omega) h2)
structure VecsOk (s : List (Int × Int)) (V : List (List Int)) : Prop where
  may : ∀ z ∈ s, mayP z
  some : s ≠ []
  short : s.length ≤ 1000
  nd : V.Nodup
  inn : ∀ v ∈ V, inV s v = 0
  few : V.length ≤ 100000
theorem VecsOk.row_inj (h : VecsOk s V) (hv : inV s v = 0) (hp : ∀ i, i < np s → ck s v i ∈ partK s V i) (hw : w ∈ V) (e : rowF s V v = rowF s V w) : v = w := by
  have hf := h.few
  exact ck_same h.may hv (h.inn w hw) (rowT_inj (by omega) hp (fun i _ => partK_mem hw) e)
theorem VecsOk.row_mem (h : VecsOk s V) (hv : inV s v = 0) (hp : ∀ i, i < np s → ck s v i ∈ partK s V i) : rowF s V v ∈ rowsK s V ↔ v ∈ V := by
  constructor
  · intro hm
    obtain ⟨w, hw, e⟩ := List.mem_map.1 hm
    rw [h.row_inj hv hp hw e.symm]
    exact hw
  · intro hm
    exact List.mem_map.2 ⟨v, hm, rfl⟩
theorem idx_map {l : List (List Int)} {f : List Int → List Int} {x : List Int} (hf : ∀ y ∈ l, f y = f x → y = x) : idx (l.map f) (f x) = idx l x := by
  induction l with
  | nil => rfl
  | cons y l ih =>
    unfold idx at *
    rw [List.map_cons, List.findIdx_cons, List.findIdx_cons]
    by_cases h : y = x
    · subst h; simp
    · have h' : f y ≠ f x := fun e => h (hf y (by simp) e)
      simp only [h, h', decide_false, cond_false, ih fun z hz => hf z (by simp [hz])]
theorem VecsOk.row_idx (h : VecsOk s V) (hm : v ∈ V) : idx (rowsK s V) (rowF s V v) = idx V v :=
  idx_map fun y hy e => (h.row_inj (h.inn v hm) (fun i _ => partK_mem hm) hy e.symm).symm
theorem VecsOk.snoc (h : VecsOk s V) (hv : inV s v = 0) (hn : v ∉ V) (hl : V.length < 100000) : VecsOk s (V ++ [v]) :=
  ⟨h.may, h.some, h.short, by
    rw [List.nodup_append]
    exact ⟨h.nd, by simp, fun a ha b hb => by simp at hb; subst hb; rintro rfl; exact hn ha⟩, fun w hw => by
    rcases List.mem_append.1 hw with hw | hw
    · exact h.inn w hw
    · simp at hw; subst hw; exact hv, by simp; omega⟩
theorem VecsOk.row_new (h : VecsOk s V) (hv : inV s v = 0) (hn : v ∉ V) (hl : V.length < 100000) : rowF s (V ++ [v]) v ∉ rowsK s V := fun hm => by
  obtain ⟨w, hw, e⟩ := List.mem_map.1 hm
  have e2 : rowF s (V ++ [v]) w = rowF s V w := rowT_more hw
  have := (h.snoc hv hn hl).row_inj hv (fun i _ => partK_mem (by simp)) (List.mem_append_left _ hw) (by rw [e2, e])
  subst this
  exact hn hw
theorem idx_snoc {i : Nat} : idx (partK s (V ++ [v]) i) (ck s v i) = if ck s v i ∈ partK s V i then idx (partK s V i) (ck s v i) else (partK s V i).length := by
  rw [partK_snoc]
  by_cases h : ck s v i ∈ partK s V i
  · rw [if_pos h, if_pos h]
  · rw [if_neg h, if_neg h, idx_new h]
theorem np_pos (h : s ≠ []) : 0 < np s := by
  have : s.length ≠ 0 := by simpa using h
  unfold np; omega
theorem prt_some {s : List (Int × Int)} {i : Nat} (h : i < np s) : prt s i ≠ [] := fun e => by
  have := congrArg List.length e
  rw [prt_length] at this
  unfold np at h
  simp at this
  omega
end Lg
