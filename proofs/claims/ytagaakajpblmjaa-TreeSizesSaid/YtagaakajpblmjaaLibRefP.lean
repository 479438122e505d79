/- The answer's store: how many different ones there are of each part. -/
import Derived.Test.YtagaakajpblmjaaLibRefT
namespace Lg
open Go
variable {s : List (Int × Int)} {V : List (List Int)} {cap : Int}
theorem dd_succ {D : List (List Int)} {i : Nat} {d : List Int} (h : D[i]? = some d) : dd (D.take (i + 1)) = if d ∈ D.take i then dd (D.take i) else dd (D.take i) ++ [d] := by
  obtain ⟨hi, rfl⟩ := List.getElem?_eq_some_iff.1 h
  rw [dd_take hi]
  by_cases hm : D[i] ∈ D.take i
  · rw [if_pos hm, if_pos (mem_dd.2 hm)]
  · rw [if_neg hm, if_neg (fun h => hm (mem_dd.1 h))]
theorem udiffer_gen {P : Program} {f vec : Nat} (ir : compF P f = some (irUDiffer vec)) (hvec : ∀ v w : List Int, v.length ≤ 1000000 → PC P vec [vecL v, vecL w] (boolL (decide (v = w)))) (V : List (List Int)) (hl : V.length ≤ 1000000) (lo hi : Nat) (hlh : lo ≤ hi) (hV : ∀ v ∈ V, hi ≤ v.length ∧ v.length ≤ 1000000) :
    PC P f [.sl 1 false (V.map vecL), intL lo, intL hi] (intL (dd (V.map (cutV lo hi))).length) := by
  refine pc_of_call (callAt_enter ir (by simp [irUDiffer]) ?_)
  simp [irUDiffer]
  obtain ⟨D, hD⟩ : ∃ D, D = V.map (cutV lo hi) := ⟨_, rfl⟩
  have hDl : D.length = V.length := by rw [hD]; simp
  rw [← hD]
  have hdle := fun i (h : i ≤ D.length) => dd_len D i h
  refine lwp_loop (fun i : Nat => [(0, .sl 1 false (V.map vecL)), (1, intL lo), (2, intL hi), (7, intL (dd (D.take i)).length), (8, intL i)]) (fun _ => []) (fun i => V.length - i) (fun i => i ≤ V.length) 0 (by simp) ⟨[], by simp⟩ ?_
  intro i hi'
  by_cases h : i < V.length
  · obtain ⟨v, hv⟩ : ∃ v, V[i]? = some v := ⟨_, List.getElem?_eq_getElem h⟩
    have hg : V[i] = v := by simpa [h] using hv
    have hDv : D[i]? = some (cutV lo hi v) := by rw [hD, List.getElem?_map, hv]; rfl
    obtain ⟨b1, b2⟩ := hV v (List.mem_of_getElem? hv)
    have hddi := hdle i (by omega)
    simp [h]
    refine lwp_loop (fun j : Nat => [(0, .sl 1 false (V.map vecL)), (1, intL lo), (2, intL hi), (7, intL (dd (D.take i)).length), (8, intL i), (9, boolL (decide (cutV lo hi v ∈ D.take j))), (10, intL j)]) (fun _ => []) (fun j => i - j) (fun j => j ≤ i) 0 (by simp) ⟨[], by simp⟩ ?_
    intro j hj
    by_cases hji : j < i
    · obtain ⟨w, hw⟩ : ∃ w, V[j]? = some w := ⟨_, List.getElem?_eq_getElem (by omega)⟩
      have hgw : V[j] = w := by simpa [show j < V.length by omega] using hw
      have hDw : D[j]? = some (cutV lo hi w) := by rw [hD, List.getElem?_map, hw]; rfl
      obtain ⟨c1, c2⟩ := hV w (List.mem_of_getElem? hw)
      have hcall := hvec (cutV lo hi v) (cutV lo hi w) (by simp [cutV]; omega)
      have htk : D.take (j + 1) = D.take j ++ [cutV lo hi w] := by rw [List.take_add_one, hDw]; rfl
      simp [h, hg, hji, hgw, show j < V.length by omega, b1, c1, hlh, ← List.map_take, ← List.map_drop]
      refine callT_closed hcall (by simp) ?_
      by_cases hm : cutV lo hi v ∈ D.take j
      · simp [hm, suc64 (show j ≤ 281474976710656 by omega)]
        exact ⟨j + 1, by omega, by simp only; omega, [], by simp [htk, hm]⟩
      · by_cases he : cutV lo hi v = cutV lo hi w
        · rw [he] at hm
          simp [hm, he, suc64 (show j ≤ 281474976710656 by omega)]
          exact ⟨j + 1, by omega, by simp only; omega, [], by simp [htk]⟩
        · simp [hm, he, suc64 (show j ≤ 281474976710656 by omega)]
          exact ⟨j + 1, by omega, by simp only; omega, [], by simp [htk, hm, he]⟩
    · have e : j = i := by omega
      subst e
      simp
      have hsn := dd_succ hDv
      by_cases hm : cutV lo hi v ∈ D.take j
      · rw [if_pos hm] at hsn
        simp [hm, suc64 (show j ≤ 281474976710656 by omega)]
        exact ⟨j + 1, by omega, by simp only; omega, [], by simp [hsn]⟩
      · rw [if_neg hm] at hsn
        simp [hm, suc64 (show j ≤ 281474976710656 by omega), suc64 (show (dd (D.take j)).length ≤ 281474976710656 by omega)]
        exact ⟨j + 1, by omega, by simp only; omega, [], by simp [hsn]⟩
  · have e : i = V.length := by omega
    subst e
    rw [← hDl, List.take_length]
    simp [show ¬ D.length < V.length by omega]
theorem dd_map_inj {f : List Int → List Int} {l : List (List Int)} (h : ∀ x ∈ l, ∀ y ∈ l, f x = f y → x = y) : dd (l.map f) = (dd l).map f := by
  have key : ∀ (l acc : List (List Int)), (∀ x ∈ acc ++ l, ∀ y ∈ acc ++ l, f x = f y → x = y) → (l.map f).foldl (fun ks k => if k ∈ ks then ks else ks ++ [k]) (acc.map f) = (l.foldl (fun ks k => if k ∈ ks then ks else ks ++ [k]) acc).map f := fun l => by
    induction l with
    | nil => intro acc _; rfl
    | cons x l ih =>
      intro acc h
      rw [List.map_cons, List.foldl_cons, List.foldl_cons]
      by_cases hx : x ∈ acc
      · rw [if_pos hx, if_pos (List.mem_map.2 ⟨x, hx, rfl⟩)]
        exact ih acc fun y hy z hz => h y (by simp at hy ⊢; rcases hy with hy | hy <;> simp [hy]) z (by simp at hz ⊢; rcases hz with hz | hz <;> simp [hz])
      · rw [if_neg hx, if_neg (fun hm => by
          obtain ⟨y, hy, e⟩ := List.mem_map.1 hm
          have := h y (by simp [hy]) x (by simp) e
          subst this
          exact hx hy)]
        have := ih (acc ++ [x]) fun y hy z hz => h y (by simpa using hy) z (by simpa using hz)
        simpa using this
  exact key l [] (by simpa using h)
theorem partK_dd (hV : VecsOk s V) (i : Nat) : (partK s V i).length = (dd (V.map fun v => prt v i)).length := by
  have e : V.map (fun v => ck s v i) = (V.map fun v => prt v i).map (encB (prt s i)) := by rw [List.map_map]; rfl
  unfold partK
  rw [e, dd_map_inj, List.length_map]
  intro x hx y hy h
  obtain ⟨v, hv, rfl⟩ := List.mem_map.1 hx
  obtain ⟨w, hw, rfl⟩ := List.mem_map.1 hy
  exact (encB_same (fun z hz => hV.may z (prt_mem hz)) (prt_in (hV.inn v hv)) (prt_in (hV.inn w hw))).1 h
theorem prt_cut (hV : VecsOk s V) {i hi : Nat} (h : hi = min (2 * i + 2) s.length) : V.map (cutV (2 * i) hi) = V.map fun v => prt v i := by
  refine List.map_congr_left fun v hv => ?_
  have hl := (inV_zero.1 (hV.inn v hv)).1
  unfold cutV prt
  by_cases h2 : 2 * i + 2 ≤ s.length
  · rw [h, Nat.min_eq_left h2]
  · rw [h, Nat.min_eq_right (by omega), List.take_of_length_le (by omega), List.take_of_length_le (by omega)]
def sizesN (s : List (Int × Int)) (V : List (List Int)) (n : Nat) : List Int := (List.range n).map fun i => ((partK s V i).length : Int)
theorem sizesN_succ {n : Nat} : sizesN s V (n + 1) = sizesN s V n ++ [((partK s V n).length : Int)] := by simp [sizesN, List.range_succ]
theorem sizesN_length {n : Nat} : (sizesN s V n).length = n := by simp [sizesN]
theorem sizesN_one : sizesN s V 1 = [((partK s V 0).length : Int)] := rfl
def dbl (i : Nat) : Nat := 2 * i
theorem dbl_eq {i : Nat} : dbl i = 2 * i := rfl
theorem uparts_gen {P : Program} {f df vec : Nat} (ir : compF P f = some (irUParts df)) (ird : compF P df = some (irUDiffer vec)) (hvec : ∀ v w : List Int, v.length ≤ 1000000 → PC P vec [vecL v, vecL w] (boolL (decide (v = w)))) (hV : VecsOk s V) (cap : Int) (F : List (Bool × Bool)) :
    PC P f [.agg (refC s cap V F)] (vecL (sizesV s V)) := by
  have hsh := hV.short
  have hfew := hV.few
  have hs0 : 0 < s.length := by
    have : s.length ≠ 0 := by simpa using hV.some
    omega
  obtain ⟨n, hn⟩ : ∃ n, n = np s := ⟨_, rfl⟩
  have hn2 : n = (s.length + 1) / 2 := hn
  have hsz : sizesV s V = sizesN s V n := by rw [hn]; rfl
  rw [hsz]
  refine pc_of_call (callAt_enter ir (by simp [irUParts]) ?_)
  simp [irUParts]
  refine lwp_loop (fun i : Nat => [(1, .ptr 0 0), (3, if i = 0 then nilL else .view 1 1 0 i false), (4, intL (dbl i))]) (fun i => if i = 0 then [some (refC s cap V F)] else [some (refC s cap V F), some ((sizesN s V i).map fun z => intL z)]) (fun i => n - i) (fun i => i ≤ n) 0 (by simp) ⟨[0], by simp [show dbl 0 = 0 from rfl]⟩ ?_
  intro i hi
  have hd := dbl_eq (i := i)
  have hd1 := dbl_eq (i := i + 1)
  by_cases h : i < n
  · have h1 : ((dbl i : Nat) : Int) < (s.length : Int) := by omega
    have w1 : IntKind.i64.wrap (((dbl i : Nat) : Int) + 2) = ((dbl (i + 1) : Nat) : Int) := by rw [wrap_id (by omega) (by omega)]; omega
    have hl : ∀ v ∈ V, v.length = s.length := fun v hv => (inV_zero.1 (hV.inn v hv)).1
    obtain ⟨hi', hhi⟩ : ∃ k, k = min (2 * i + 2) s.length := ⟨_, rfl⟩
    have hcall := udiffer_gen ird hvec V (by omega) (2 * i) hi' (by omega) (fun v hv => by have := hl v hv; omega)
    rw [prt_cut hV hhi, ← partK_dd hV, ← hd] at hcall
    obtain ⟨pk, hpk⟩ : ∃ pk, pk = (partK s V i).length := ⟨_, rfl⟩
    rw [← hpk] at hcall
    have hsn := sizesN_succ (s := s) (V := V) (n := i)
    rw [← hpk] at hsn
    have hsl := sizesN_length (s := s) (V := V) (n := i)
    have fin : ∀ e : Nat, e = hi' → PC P df [.sl 1 false (V.map vecL), intL (dbl i : Nat), intL e] (intL pk) := fun e he => by subst he; exact hcall
    by_cases h2 : (s.length : Int) < ((dbl (i + 1) : Nat) : Int)
    · have hc := fin s.length (by omega)
      by_cases h0 : i = 0
      · subst h0
        simp [h1, w1, h2]
        refine callT_closed hc (by simp) ?_
        simp [w1]
        exact ⟨1, by omega, by simp only; omega, [0, 2], by simp [hsn, show sizesN s V 0 = [] from rfl]⟩
      · simp [h0, h1, w1, h2]
        refine callT_closed hc (by simp) ?_
        simp [w1, hsl]
        exact ⟨by omega, i + 1, by omega, by simp only; omega, [0, 3], by simp [hsn]⟩
    · have hc := fin (dbl (i + 1)) (by omega)
      by_cases h0 : i = 0
      · subst h0
        simp [h1, w1, h2]
        refine callT_closed hc (by simp) ?_
        simp [w1]
        exact ⟨1, by omega, by simp only; omega, [0, 2], by simp [hsn, show sizesN s V 0 = [] from rfl]⟩
      · simp [h0, h1, w1, h2]
        refine callT_closed hc (by simp) ?_
        simp [w1, hsl]
        exact ⟨by omega, i + 1, by omega, by simp only; omega, [0, 3], by simp [hsn]⟩
  · have e : i = n := by omega
    subst e
    have hn0 : i ≠ 0 := by omega
    have h1 : ¬ ((dbl i : Nat) : Int) < (s.length : Int) := by omega
    have hsl := sizesN_length (s := s) (V := V) (n := i)
    simp [hn0, h1]
    have htk : List.take i ((sizesN s V i).map fun z => intL z) = (sizesN s V i).map fun z => intL z := List.take_of_length_le (by simp [hsl])
    have hcl : ∀ x ∈ (sizesN s V i).map fun z => intL z, closed x = true := fun x hx => by
      obtain ⟨y, -, rfl⟩ := List.mem_map.1 hx
      simp
    rw [htk, if_pos hcl, htk]
    exact ⟨by omega, rfl⟩
end Lg
