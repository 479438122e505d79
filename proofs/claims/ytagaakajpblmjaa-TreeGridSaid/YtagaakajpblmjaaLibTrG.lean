/- All vectors of so many values in each of five places; in whichever order they come, a segment of m places has n ^ m different ones. -/
import Derived.Test.YtagaakajpblmjaaLibGrid
import Derived.Test.YtagaakajpblmjaaLibTrP
namespace Lg
open Go
def dg (n : Nat) : Nat → Nat → List Int
  | 0, _ => []
  | k + 1, x => (((x % n : Nat) : Int) + 5) :: dg n k (x / n)
theorem dg_len {n : Nat} : ∀ {k x : Nat}, (dg n k x).length = k
  | 0, _ => rfl
  | k + 1, x => by simp [dg, dg_len]
theorem dg_drop {n : Nat} : ∀ {lo k x : Nat}, lo ≤ k → (dg n k x).drop lo = dg n (k - lo) (x / n ^ lo)
  | 0, k, x, _ => by simp
  | lo + 1, 0, x, h => by omega
  | lo + 1, k + 1, x, h => by
    simp only [dg, List.drop_succ_cons]
    rw [dg_drop (by omega), show k + 1 - (lo + 1) = k - lo by omega, Nat.pow_succ, Nat.mul_comm, ← Nat.div_div_eq_div_mul]
theorem dg_take {n : Nat} : ∀ {m k x : Nat}, m ≤ k → (dg n k x).take m = dg n m x
  | 0, k, x, _ => by simp [dg]
  | m + 1, 0, x, h => by omega
  | m + 1, k + 1, x, h => by
    simp only [dg, List.take_succ_cons]
    rw [dg_take (by omega)]
theorem dg_mod {n : Nat} : ∀ {k x : Nat}, dg n k x = dg n k (x % n ^ k)
  | 0, x => rfl
  | k + 1, x => by
    simp only [dg]
    rw [dg_mod (k := k), show x % n ^ (k + 1) % n = x % n from Nat.mod_mod_of_dvd _ (by rw [Nat.pow_succ]; exact Nat.dvd_mul_left n _), show x % n ^ (k + 1) / n = x / n % n ^ k by rw [Nat.pow_succ, Nat.mul_comm, Nat.mod_mul_right_div_self]]
theorem dg_inj {n : Nat} (hn : 0 < n) : ∀ {k x y : Nat}, x < n ^ k → y < n ^ k → dg n k x = dg n k y → x = y
  | 0, x, y, hx, hy, _ => by simp at hx hy; omega
  | k + 1, x, y, hx, hy, h => by
    simp only [dg, List.cons.injEq] at h
    have e1 : x % n = y % n := by omega
    have b : ∀ {z}, z < n ^ (k + 1) → z / n < n ^ k := fun {z} hz => Nat.div_lt_of_lt_mul (by rw [Nat.mul_comm, ← Nat.pow_succ]; exact hz)
    have e2 := dg_inj hn (b hx) (b hy) h.2
    rw [← Nat.div_add_mod x n, ← Nat.div_add_mod y n, e2, e1]
theorem dg_in {n : Nat} (hn : 0 < n) : ∀ {k x : Nat} {q : Int}, q ∈ dg n k x → 5 ≤ q ∧ q ≤ (n : Int) + 4
  | 0, x, q, h => by simp [dg] at h
  | k + 1, x, q, h => by
    have := Nat.mod_lt x hn
    simp only [dg, List.mem_cons] at h
    rcases h with rfl | h
    · omega
    · exact dg_in hn h
def num5 (n b i : Nat) : Nat := i * b % n ^ 5
def vecs5 (n b i : Nat) : List (List Int) := (List.range i).map fun j => dg n 5 (num5 n b j)
def f5 (n : Nat) : Int × Int := (5, (n : Int) + 4)
def s5 (n : Nat) : List (Int × Int) := [f5 n, f5 n, f5 n, f5 n, f5 n]
theorem num5_inj {n b i j : Nat} (hc : Nat.Coprime b n) (hi : i < n ^ 5) (hj : j < n ^ 5) (h : num5 n b i = num5 n b j) : i = j := by
  have key : ∀ {i j : Nat}, i ≤ j → j < n ^ 5 → num5 n b i = num5 n b j → i = j := fun {i j} hij hj h => by
    unfold num5 at h
    have hd : n ^ 5 ∣ (j - i) * b := by
      rw [Nat.sub_mul]
      exact mod_dvd (Nat.mul_le_mul_right b hij) h
    have := Nat.Coprime.dvd_of_dvd_mul_right (Nat.Coprime.pow_right 5 hc).symm hd
    have := Nat.eq_zero_of_dvd_of_lt this (by omega)
    omega
  rcases Nat.le_total i j with hij | hij
  · exact key hij hj h
  · exact (key hij hi h.symm).symm
theorem num5_lt {n b i : Nat} (hn : 0 < n) : num5 n b i < n ^ 5 := Nat.mod_lt _ (Nat.pow_pos hn)
theorem num5_all {n b p : Nat} (hn : 0 < n) (hc : Nat.Coprime b n) (hp : p < n ^ 5) : ∃ i, i < n ^ 5 ∧ num5 n b i = p := by
  have h := nodup_all (l := (List.range (n ^ 5)).map (num5 n b)) (m := n ^ 5) (by
    rw [List.nodup_iff_pairwise_ne, List.pairwise_map]
    refine List.Pairwise.imp_of_mem (fun {i j} hi hj hij e => hij ?_) List.nodup_range
    exact num5_inj hc (List.mem_range.1 hi) (List.mem_range.1 hj) e) (by simp) (fun x hx => by
    obtain ⟨i, -, rfl⟩ := List.mem_map.1 hx
    exact num5_lt hn) hp
  obtain ⟨i, hi, e⟩ := List.mem_map.1 h
  exact ⟨i, List.mem_range.1 hi, e⟩
theorem vecs5_len {n b i : Nat} : (vecs5 n b i).length = i := by simp [vecs5]
theorem vecs5_succ {n b i : Nat} : vecs5 n b (i + 1) = vecs5 n b i ++ [dg n 5 (num5 n b i)] := by simp [vecs5, List.range_succ]
theorem vecs5_new {n b i : Nat} (hn : 0 < n) (hc : Nat.Coprime b n) (hi : i < n ^ 5) : dg n 5 (num5 n b i) ∉ vecs5 n b i := fun h => by
  obtain ⟨j, hj, e⟩ := List.mem_map.1 h
  have hj' := List.mem_range.1 hj
  have := num5_inj hc (show j < n ^ 5 by omega) hi (dg_inj hn (num5_lt hn) (num5_lt hn) e)
  omega
theorem may5 {n : Nat} (h0 : 0 < n) (h4 : n ≤ 4) : ∀ z ∈ s5 n, mayP z := fun z hz => by
  have : z = f5 n := by simpa [s5] using hz
  subst this
  exact ⟨by simp only [f5]; omega, by simp only [f5]; omega, by simp only [f5]; omega, by simp only [f5]; omega⟩
theorem in5 {n x : Nat} (hn : 0 < n) : inV (s5 n) (dg n 5 x) = 0 := by
  refine inV_zero.2 ⟨by simp [dg_len, s5], fun p hp => ?_⟩
  obtain ⟨h1, h2⟩ := List.of_mem_zip hp
  have e : p.1 = f5 n := by simpa [s5] using h1
  have := dg_in hn h2
  rw [e]
  simp only [f5]
  omega
theorem seg5 {n lo m x : Nat} (h : lo + m ≤ 5) : seg lo m (dg n 5 x) = dg n m (x / n ^ lo) := by
  rw [seg_eq, dg_drop (by omega), dg_take (by omega)]
theorem segK5 {n b lo m : Nat} (hn : 0 < n) (hc : Nat.Coprime b n) (h : lo + m ≤ 5) : (segK (vecs5 n b (n ^ 5)) lo m).length = n ^ m := by
  have hp : 0 < n ^ lo := Nat.pow_pos hn
  have e := same_lenK (a := segK (vecs5 n b (n ^ 5)) lo m) (b := (List.range (n ^ m)).map (dg n m)) dd_nodup (by
    rw [List.nodup_iff_pairwise_ne, List.pairwise_map]
    refine List.Pairwise.imp_of_mem (fun {i j} hi hj hij e => hij ?_) List.nodup_range
    exact dg_inj hn (List.mem_range.1 hi) (List.mem_range.1 hj) e) (fun x => by
    unfold segK
    rw [mem_dd]
    simp only [List.mem_map, vecs5, List.mem_range]
    constructor
    · rintro ⟨v, ⟨i, hi, rfl⟩, rfl⟩
      exact ⟨num5 n b i / n ^ lo % n ^ m, Nat.mod_lt _ (Nat.pow_pos hn), by rw [seg5 h, ← dg_mod]⟩
    · rintro ⟨p, hp', rfl⟩
      have hlt : n ^ lo * p < n ^ 5 := by
        refine Nat.lt_of_lt_of_le (Nat.mul_lt_mul_of_pos_left hp' hp) ?_
        rw [← Nat.pow_add]
        exact Nat.pow_le_pow_right hn h
      obtain ⟨i, hi, e⟩ := num5_all (b := b) hn hc hlt
      exact ⟨_, ⟨i, hi, rfl⟩, by rw [seg5 h, e, Nat.mul_div_cancel_left _ hp]⟩)
  rw [e]
  simp
end Lg
