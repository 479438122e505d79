/- All vectors of so many values in each of four places are taken; of both parts there are as many as pairs of values; in whichever order they come. -/
import Derived.Test.YtagaakajpblmjaaLibCmpF
namespace Lg
open Go
theorem nodup_le : ∀ {α : Type} [DecidableEq α] {a b : List α}, a.Nodup → (∀ x ∈ a, x ∈ b) → a.length ≤ b.length
  | _, _, [], _, _, _ => by simp
  | _, _, x :: a, b, hn, hs => by
    have hx : x ∈ b := hs x (by simp)
    have hn' := List.nodup_cons.1 hn
    have ih := nodup_le (a := a) (b := b.erase x) hn'.2 fun y hy => by
      have : y ≠ x := fun e => by subst e; exact hn'.1 hy
      exact (List.mem_erase_of_ne this).2 (hs y (by simp [hy]))
    have h1 := List.length_erase_of_mem hx
    have h2 := List.length_pos_of_mem hx
    simp
    omega
theorem nodup_all {l : List Nat} {m : Nat} (hn : l.Nodup) (hl : l.length = m) (hm : ∀ x ∈ l, x < m) {p : Nat} (hp : p < m) : p ∈ l := by
  apply Classical.byContradiction
  intro h
  have := nodup_le (a := p :: l) (b := List.range m) (List.nodup_cons.2 ⟨h, hn⟩) fun x hx => by
    rcases List.mem_cons.1 hx with rfl | hx
    · exact List.mem_range.2 hp
    · exact List.mem_range.2 (hm x hx)
  simp at this
  omega
def vecG (n x : Nat) : List Int := [(((x % n : Nat) : Int) - 1), (((x / n % n : Nat) : Int) - 1), (((x / n / n % n : Nat) : Int) - 1), (((x / n / n / n % n : Nat) : Int) - 1)]
def numG (n b i : Nat) : Nat := i * b % (n * n * n * n)
def vecsG (n b i : Nat) : List (List Int) := (List.range i).map fun j => vecG n (numG n b j)
def fG (n : Nat) : Int × Int := (-1, (n : Int) - 2)
def sG (n : Nat) : List (Int × Int) := [fG n, fG n, fG n, fG n]
theorem vecG_inj {n x y : Nat} (hn : 0 < n) (hx : x < n * n * n * n) (hy : y < n * n * n * n) (h : vecG n x = vecG n y) : x = y := by
  simp only [vecG, List.cons.injEq] at h
  obtain ⟨h1, h2, h3, h4, -⟩ := h
  have e1 : x % n = y % n := by omega
  have e2 : x / n % n = y / n % n := by omega
  have e3 : x / n / n % n = y / n / n % n := by omega
  have e4 : x / n / n / n % n = y / n / n / n % n := by omega
  have b1 : x / n / n / n < n := by
    rw [Nat.div_div_eq_div_mul, Nat.div_div_eq_div_mul]
    exact Nat.div_lt_of_lt_mul (by rw [← Nat.mul_assoc]; exact hx)
  have b2 : y / n / n / n < n := by
    rw [Nat.div_div_eq_div_mul, Nat.div_div_eq_div_mul]
    exact Nat.div_lt_of_lt_mul (by rw [← Nat.mul_assoc]; exact hy)
  rw [Nat.mod_eq_of_lt b1, Nat.mod_eq_of_lt b2] at e4
  have f3 : x / n / n = y / n / n := by rw [← Nat.div_add_mod (x / n / n) n, ← Nat.div_add_mod (y / n / n) n, e4, e3]
  have f2 : x / n = y / n := by rw [← Nat.div_add_mod (x / n) n, ← Nat.div_add_mod (y / n) n, f3, e2]
  rw [← Nat.div_add_mod x n, ← Nat.div_add_mod y n, f2, e1]
theorem coprime_pow {n b : Nat} (h : Nat.Coprime b n) : Nat.Coprime b (n * n * n * n) := Nat.Coprime.mul_right (Nat.Coprime.mul_right (Nat.Coprime.mul_right h h) h) h
theorem mod_dvd {a c m : Nat} (h : a ≤ c) (e : a % m = c % m) : m ∣ c - a := by
  refine ⟨c / m - a / m, ?_⟩
  rw [Nat.mul_sub]
  have h1 := Nat.div_add_mod a m
  have h2 := Nat.div_add_mod c m
  omega
theorem numG_inj {n b i j : Nat} (hc : Nat.Coprime b n) (hi : i < n * n * n * n) (hj : j < n * n * n * n) (h : numG n b i = numG n b j) : i = j := by
  have key : ∀ {i j : Nat}, i ≤ j → j < n * n * n * n → numG n b i = numG n b j → i = j := fun {i j} hij hj h => by
    unfold numG at h
    have hd : (n * n * n * n) ∣ (j - i) * b := by
      rw [Nat.sub_mul]
      exact mod_dvd (Nat.mul_le_mul_right b hij) h
    have := Nat.Coprime.dvd_of_dvd_mul_right (coprime_pow hc).symm hd
    have := Nat.eq_zero_of_dvd_of_lt this (by omega)
    omega
  rcases Nat.le_total i j with hij | hij
  · exact key hij hj h
  · exact (key hij hi h.symm).symm
theorem numG_lt {n b i : Nat} (hn : 0 < n) : numG n b i < n * n * n * n := Nat.mod_lt _ (Nat.mul_pos (Nat.mul_pos (Nat.mul_pos hn hn) hn) hn)
theorem numG_all {n b p : Nat} (hn : 0 < n) (hc : Nat.Coprime b n) (hp : p < n * n * n * n) : ∃ i, i < n * n * n * n ∧ numG n b i = p := by
  have h := nodup_all (l := (List.range (n * n * n * n)).map (numG n b)) (m := n * n * n * n) (by
    rw [List.nodup_iff_pairwise_ne, List.pairwise_map]
    refine List.Pairwise.imp_of_mem (fun {i j} hi hj hij e => hij ?_) List.nodup_range
    exact numG_inj hc (List.mem_range.1 hi) (List.mem_range.1 hj) e) (by simp) (fun x hx => by
    obtain ⟨i, -, rfl⟩ := List.mem_map.1 hx
    exact numG_lt hn) hp
  obtain ⟨i, hi, e⟩ := List.mem_map.1 h
  exact ⟨i, List.mem_range.1 hi, e⟩
theorem vecsG_len {n b i : Nat} : (vecsG n b i).length = i := by simp [vecsG]
theorem vecsG_succ {n b i : Nat} : vecsG n b (i + 1) = vecsG n b i ++ [vecG n (numG n b i)] := by simp [vecsG, List.range_succ]
theorem vecsG_new {n b i : Nat} (hn : 0 < n) (hc : Nat.Coprime b n) (hi : i < n * n * n * n) : vecG n (numG n b i) ∉ vecsG n b i := fun h => by
  obtain ⟨j, hj, e⟩ := List.mem_map.1 h
  have hj' := List.mem_range.1 hj
  have := numG_inj hc (show j < n * n * n * n by omega) hi (vecG_inj hn (numG_lt hn) (numG_lt hn) e)
  omega
theorem mayG {n : Nat} (h0 : 0 < n) (h4 : n ≤ 4) : ∀ z ∈ sG n, mayP z := fun z hz => by
  have : z = fG n := by simpa [sG] using hz
  subst this
  exact ⟨by simp only [fG]; omega, by simp only [fG]; omega, by simp only [fG]; omega, by simp only [fG]; omega⟩
theorem inG {n x : Nat} (hn : 0 < n) : inV (sG n) (vecG n x) = 0 := by
  refine inV_zero.2 ⟨rfl, fun p hp => ?_⟩
  have m1 := Nat.mod_lt x hn
  have m2 := Nat.mod_lt (x / n) hn
  have m3 := Nat.mod_lt (x / n / n) hn
  have m4 := Nat.mod_lt (x / n / n / n) hn
  simp only [sG, vecG, fG, List.zip_cons_cons, List.zip_nil_right, List.mem_cons, List.not_mem_nil, or_false] at hp
  rcases hp with rfl | rfl | rfl | rfl <;> simp only <;> omega
theorem dd_nodup {l : List (List Int)} : (dd l).Nodup := by
  have key : ∀ (l acc : List (List Int)), acc.Nodup → (l.foldl (fun ks k => if k ∈ ks then ks else ks ++ [k]) acc).Nodup := fun l => by
    induction l with
    | nil => intro acc h; exact h
    | cons x l ih =>
      intro acc h
      rw [List.foldl_cons]
      refine ih _ ?_
      split
      · exact h
      · rename_i hx
        rw [List.nodup_append]
        exact ⟨h, by simp, fun a ha b hb => by simp at hb; subst hb; rintro rfl; exact hx ha⟩
  exact key l [] (by simp)
theorem same_lenK {a b : List (List Int)} (ha : a.Nodup) (hb : b.Nodup) (h : ∀ x, x ∈ a ↔ x ∈ b) : a.length = b.length :=
  Nat.le_antisymm (nodup_le ha fun x hx => (h x).1 hx) (nodup_le hb fun x hx => (h x).2 hx)
def pairG (n p : Nat) : List Int := [(((p % n : Nat) : Int) - 1), (((p / n % n : Nat) : Int) - 1)]
theorem prt0 {n x : Nat} : prt (vecG n x) 0 = pairG n x := rfl
theorem prt1 {n x : Nat} : prt (vecG n x) 1 = pairG n (x / n / n) := rfl
theorem pairG_in {n p : Nat} (hn : 0 < n) : inV [fG n, fG n] (pairG n p) = 0 := by
  refine inV_zero.2 ⟨rfl, fun q hq => ?_⟩
  have m1 := Nat.mod_lt p hn
  have m2 := Nat.mod_lt (p / n) hn
  simp only [pairG, fG, List.zip_cons_cons, List.zip_nil_right, List.mem_cons, List.not_mem_nil, or_false] at hq
  rcases hq with rfl | rfl <;> simp only <;> omega
theorem pairG_inj {n x y : Nat} (hx : x < n * n) (hy : y < n * n) (h : pairG n x = pairG n y) : x = y := by
  simp only [pairG, List.cons.injEq] at h
  obtain ⟨h1, h2, -⟩ := h
  have e1 : x % n = y % n := by omega
  have e2 : x / n % n = y / n % n := by omega
  rw [Nat.mod_eq_of_lt (Nat.div_lt_of_lt_mul hx), Nat.mod_eq_of_lt (Nat.div_lt_of_lt_mul hy)] at e2
  rw [← Nat.div_add_mod x n, ← Nat.div_add_mod y n, e2, e1]
theorem pairG_mod {n x : Nat} (hn : 0 < n) : pairG n x = pairG n (x % (n * n)) := by
  unfold pairG
  rw [Nat.mod_mul_right_div_self, Nat.mod_mod, Nat.mod_mod_of_dvd _ (Nat.dvd_mul_left n n)]
theorem parts_len {n b k : Nat} (hn : 0 < n) (h4 : n ≤ 4) (hc : Nat.Coprime b n) (hk : k < 2) : (partK (sG n) (vecsG n b (n * n * n * n)) k).length = n * n := by
  have hmay : ∀ z ∈ [fG n, fG n], mayP z := fun z hz => mayG hn h4 z (by simp [sG] at hz ⊢; exact hz)
  have hs : prt (sG n) k = [fG n, fG n] := by
    rcases k with _ | _ | k
    · rfl
    · rfl
    · omega
  have hnn : 0 < n * n := Nat.mul_pos hn hn
  have e := same_lenK (a := partK (sG n) (vecsG n b (n * n * n * n)) k) (b := (List.range (n * n)).map fun p => encB [fG n, fG n] (pairG n p)) dd_nodup (by
    rw [List.nodup_iff_pairwise_ne, List.pairwise_map]
    refine List.Pairwise.imp_of_mem (fun {i j} hi hj hij e => hij ?_) List.nodup_range
    exact pairG_inj (List.mem_range.1 hi) (List.mem_range.1 hj) ((encB_same hmay (pairG_in hn) (pairG_in hn)).1 e)) (fun x => by
    unfold partK
    rw [mem_dd]
    simp only [List.mem_map, vecsG, List.mem_range]
    constructor
    · rintro ⟨v, ⟨i, hi, rfl⟩, rfl⟩
      have hkp : ∃ q, prt (vecG n (numG n b i)) k = pairG n q := by
        rcases k with _ | _ | k
        · exact ⟨_, prt0⟩
        · exact ⟨_, prt1⟩
        · omega
      obtain ⟨q, hq⟩ := hkp
      refine ⟨q % (n * n), Nat.mod_lt _ hnn, ?_⟩
      rw [← pairG_mod hn, ck, hs, hq]
    · rintro ⟨p, hp, rfl⟩
      rcases k with _ | _ | k
      · obtain ⟨i, hi, e⟩ := numG_all (b := b) hn hc (p := p) (Nat.lt_of_lt_of_le hp (by rw [Nat.mul_assoc (n * n)]; exact Nat.le_mul_of_pos_right _ hnn))
        refine ⟨_, ⟨i, hi, rfl⟩, ?_⟩
        rw [ck, hs, prt0, e]
      · obtain ⟨i, hi, e⟩ := numG_all (b := b) hn hc (p := n * n * p) (by rw [Nat.mul_assoc (n * n)]; exact Nat.mul_lt_mul_of_pos_left hp hnn)
        refine ⟨_, ⟨i, hi, rfl⟩, ?_⟩
        rw [ck, hs, prt1, e, Nat.div_div_eq_div_mul, Nat.mul_div_cancel_left _ hnn]
      · omega)
  rw [e]
  simp
theorem sizes_grid {n b : Nat} (hn : 0 < n) (h4 : n ≤ 4) (hc : Nat.Coprime b n) : sizesV (sG n) (vecsG n b (n * n * n * n)) = [((n * n : Nat) : Int), ((n * n : Nat) : Int)] := by
  unfold sizesV
  rw [show np (sG n) = 2 by simp [np, sG], show List.range 2 = [0, 1] from rfl]
  simp only [List.map_cons, List.map_nil]
  rw [parts_len hn h4 hc (by omega), parts_len hn h4 hc (by omega)]
end Lg
