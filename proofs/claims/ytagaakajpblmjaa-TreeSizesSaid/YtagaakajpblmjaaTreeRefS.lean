/- The answer's sizes. -/
import Derived.Test.YtagaakajpblmjaaTreeIrR
import Derived.Test.YtagaakajpblmjaaTreeRef
import Derived.Test.YtagaakajpblmjaaLibRefP
namespace Go.Proofs.Ytagaakajpblmjaa
open Go Lg
theorem seal_vec {Z : List Int} {n : Nat} (hn : n = Z.length) {X : Option L} : (if ∀ (x : L), x ∈ List.take n (List.map (fun z => intL z) Z) → closed x = true then some (L.sl 1 false (List.take n (List.take n (List.map (fun z => intL z) Z)))) else X) = some (vecL Z) := by
  have htk : List.take n (List.map (fun z => intL z) Z) = List.map (fun z => intL z) Z := List.take_of_length_le (by simp; omega)
  have hcl : ∀ x ∈ List.map (fun z => intL z) Z, closed x = true := fun x hx => by
    obtain ⟨y, -, rfl⟩ := List.mem_map.1 hx
    simp
  rw [htk, if_pos hcl, htk]
section
variable {s : List (Int × Int)} {V : List (List Int)}
theorem usizes_any (hV : VecsOk s V) (cap : Int) (F : List (Bool × Bool)) : ∀ (m lo : Nat), lo + m ≤ s.length → PC Try.prog 45 [.agg (refC s cap V F), intL lo, intL (lo + m : Nat)] (vecL (szs V lo m)) := by
  have hsh := hV.short
  have hfew := hV.few
  intro m
  induction m using Nat.strongRecOn with
  | _ m ih =>
    intro lo hlm
    obtain ⟨hi, hhi⟩ : ∃ hi, hi = lo + m := ⟨_, rfl⟩
    rw [← hhi]
    have w0 : IntKind.i64.wrap ((hi : Int) - (lo : Int)) = (m : Int) := by rw [show (hi : Int) - (lo : Int) = (m : Int) by omega, wrap_id (by omega) (by omega)]
    by_cases h2 : m < 2
    · have h2' : (m : Int) < 2 := by omega
      rw [szs_small h2]
      refine pc_of_call' (callAt_enter ir45 (by simp) ?_)
      simp [w0, h2']
      exact .nil _ _
    · have h2' : ¬ (m : Int) < 2 := by omega
      have hh := hf_le (m := m) (by omega)
      obtain ⟨k, hk⟩ : ∃ k, k = hf m := ⟨_, rfl⟩
      rw [← hk] at hh
      have hszs := szs_node (V := V) (lo := lo) (m := m) (by omega)
      rw [← hk] at hszs
      have c0 := udiffer_gen ir59 (fun v w h => vecA_any v w h) V (by omega) lo hi (by omega) (fun v hv => by
        have := (inV_zero.1 (hV.inn v hv)).1
        omega)
      have ed : (dd (V.map (cutV lo hi))).length = (segK V lo m).length := by rw [hhi]; rfl
      rw [ed] at c0
      obtain ⟨d, hd⟩ : ∃ d, d = (segK V lo m).length := ⟨_, rfl⟩
      rw [← hd] at c0 hszs
      obtain ⟨mid, hmid⟩ : ∃ mid, mid = lo + k := ⟨_, rfl⟩
      have c1 := ih k (by omega) lo (by omega)
      have c2 := ih (m - k) (by omega) (lo + k) (by omega)
      rw [← hmid] at c1 c2
      rw [show mid + (m - k) = hi by omega] at c2
      obtain ⟨A, hA⟩ : ∃ A, A = szs V lo k := ⟨_, rfl⟩
      obtain ⟨B, hB⟩ : ∃ B, B = szs V mid (m - k) := ⟨_, rfl⟩
      have lA : A.length = k - 1 := by rw [hA]; exact szs_len k lo (by omega)
      have lB : B.length = m - k - 1 := by rw [hB]; exact szs_len (m - k) mid (by omega)
      rw [← hmid, ← hA, ← hB] at hszs
      rw [← hA] at c1
      rw [← hB] at c2
      rw [hszs]
      have w1 : IntKind.i64.wrap ((m : Int) + 1) = ((m + 1 : Nat) : Int) := by rw [wrap_id (by omega) (by omega)]; omega
      have w2 : IntKind.i64.wrap (((m + 1 : Nat) : Int) / 2) = (k : Int) := by
        have : ((m + 1 : Nat) : Int) / 2 = (k : Int) := by rw [hk, hf]; rfl
        rw [this, wrap_id (by omega) (by omega)]
      obtain ⟨m1, hm1⟩ : ∃ m1, m1 = m + 1 := ⟨_, rfl⟩
      rw [← hm1] at w1 w2
      have w3 : IntKind.i64.wrap ((lo : Int) + (k : Int)) = (mid : Int) := by rw [wrap_id (by omega) (by omega)]; omega
      refine pc_of_call' (callAt_enter ir45 (by simp) ?_)
      simp [w0, h2', w1, w2, w3]
      refine callT_closed c0 (by simp) ?_
      simp
      refine callT_closed c1 (by simp) ?_
      by_cases hA0 : A = []
      · by_cases hB0 : B = []
        · simp [hA0]
          refine callT_closed c2 (by simp) ?_
          simp [hB0]
          exact .refl _
        · simp [hA0]
          refine callT_closed c2 (by simp) ?_
          simp [hB0]
          exact ⟨by omega, vecL ((d : Int) :: B), ⟨by omega, seal_vec (Z := (d : Int) :: B) (by simp; omega)⟩, .refl _⟩
      · by_cases hB0 : B = []
        · simp [hA0]
          refine ⟨by omega, ?_⟩
          refine callT_closed c2 (by simp) ?_
          simp [hB0]
          exact ⟨⟨by omega, by omega⟩, vecL ((d : Int) :: A), ⟨by omega, seal_vec (Z := (d : Int) :: A) (by simp; omega)⟩, .refl _⟩
        · simp [hA0]
          refine ⟨by omega, ?_⟩
          refine callT_closed c2 (by simp) ?_
          simp [hB0]
          exact ⟨⟨by omega, by omega⟩, vecL ((d : Int) :: (A ++ B)), ⟨by omega, by rw [← List.map_append]; exact seal_vec (Z := (d : Int) :: (A ++ B)) (by simp; omega)⟩, .refl _⟩
theorem usz_any (hV : VecsOk s V) (cap : Int) (F : List (Bool × Bool)) : PC Try.prog 24 [.agg (refC s cap V F)] (vecL (szsV s V)) := by
  have hs0 : s.length ≠ 0 := by simpa using hV.some
  have hfew := hV.few
  refine pc_of_call' (callAt_enter ir24 (by simp) ?_)
  unfold szsV
  by_cases h1 : s.length = 1
  · rw [if_pos h1]
    simp [h1]
    exact .clip 1 [intL V.length]
  · have h2 : ¬ (s.length : Int) = 1 := by omega
    have c := usizes_any hV cap F s.length 0 (by omega)
    rw [Nat.zero_add] at c
    rw [if_neg h1]
    simp [h1, h2]
    refine callT_closed c (by simp) ?_
    simp
    exact .refl _
end
end Go.Proofs.Ytagaakajpblmjaa
