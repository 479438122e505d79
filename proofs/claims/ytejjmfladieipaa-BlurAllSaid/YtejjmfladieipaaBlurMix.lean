/- The functions of blur that are mix's. -/
import Derived.Test.YtejjmfladieipaaBlurIr
import Derived.Test.YtejjmfladieipaaLibBits8
namespace Go.Proofs.Ytejjmfladieipaa
open Go Lg

def refEnd (h : Int) : Int :=
  let h1 := bitsI .xor .u64 h (IntKind.u64.wrap (h.tdiv 536870912))
  let h2 := IntKind.u64.wrap (h1 * 13787848793156543929)
  bitsI .xor .u64 h2 (IntKind.u64.wrap (h2.tdiv 4294967296))
def refHash (bs : List Int) (s : Int) : Int := refEnd (hloop s bs)

theorem ref_hash (c : Bool) (bs : List Int) (hl : bs.length ≤ 1000000000) (s : Int) : PC Try.prog 27 [.sl 1 c (bs.map u8L), u64L s] (u64L (refHash bs s)) := by
  refine pc_of_call (callAt_enter ir27 (by simp) ?_)
  simp
  refine lwp_loop (fun i : Nat => [(0, .sl 1 c (bs.map u8L)), (5, u64L (hloop s (bs.take i))), (6, intL i)]) (fun i => []) (fun i => bs.length - i) (fun i => i ≤ bs.length) 0 (Nat.zero_le _) ⟨[], ?_⟩ ?_
  · simp [hloop]
  · intro i hi
    simp
    refine ⟨fun hlt => ?_, fun hge => ?_⟩
    · simp [hlt]
      refine ⟨i + 1, by simp <;> omega, by simp <;> omega, [], ?_⟩
      simp [hloop_succ s bs i hlt, hstep]
      exact wrap_id (by omega) (by omega)
    · have : i = bs.length := by omega
      subst this
      rw [List.take_length]
      rfl

def places (bs : List Int) (s : Int) (k : Nat) (n : Int) : List Int := (List.range k).map fun (i : Nat) => place (hash bs (IntKind.u64.wrap (s + IntKind.u64.wrap (i : Int)))) n

@[simp] theorem places_len (bs : List Int) (s : Int) (k : Nat) (n : Int) : (places bs s k n).length = k := by simp [places]
theorem places_succ (bs : List Int) (s : Int) (k : Nat) (n : Int) : places bs s (k + 1) n = places bs s k n ++ [place (hash bs (IntKind.u64.wrap (s + IntKind.u64.wrap (k : Int)))) n] := by
  simp [places, List.range_succ]

def refPlaces (bs : List Int) (s : Int) (k : Nat) (n : Int) : List Int := (List.range k).map fun (i : Nat) => place (refHash bs (IntKind.u64.wrap (s + IntKind.u64.wrap (i : Int)))) n

theorem refPlaces_succ (bs : List Int) (s : Int) (k : Nat) (n : Int) : refPlaces bs s (k + 1) n = refPlaces bs s k n ++ [place (refHash bs (IntKind.u64.wrap (s + IntKind.u64.wrap (k : Int)))) n] := by
  simp [refPlaces, List.range_succ]

theorem places_any (c : Bool) (bs : List Int) (hl : bs.length ≤ 1000000000) (s k n : Int) (hk : k ≤ 1000000) (hn : n ≤ 9223372036854775807) :
    PC Try.prog 33 [.sl 1 c (bs.map u8L), u64L s, intL k, intL n] (.sl 1 false ((places bs s k.toNat n).map intL)) := by
  refine pc_of_call' (callAt_enter ir33 (by simp) ?_)
  simp [mmL]
  refine lwp_loop (fun i : Nat => [(0, .sl 1 c (bs.map u8L)), (1, u64L s), (3, intL n), (9, if i = 0 then .v (.slice none 0 0) else .view 1 0 0 i false), (12, intL k.toNat), (13, intL i)])
    (fun i => if i = 0 then [] else [some ((places bs s i n).map intL)]) (fun i => k.toNat - i) (fun i => i ≤ k.toNat) 0 (Nat.zero_le _) ⟨[], ?_⟩ ?_
  · simp
    omega
  · intro i hi
    by_cases h0 : i = 0
    · subst h0
      simp
      refine ⟨fun hlt => ?_, fun hge => ?_⟩
      · refine callT_closed (hash_gen ir35 ir36 ir37 ir38 c bs hl _) rfl ?_
        simp
        refine callT_plain (place_gen ir34 _ _ hn) rfl rfl ?_
        simp
        refine ⟨1, by simp <;> omega, by simp <;> omega, [1], ?_⟩
        simp [places]
        exact wrap_id (by omega) (by omega)
      · have : k.toNat = 0 := by omega
        simp [this, places]
        exact .nil _ _
    · simp [h0]
      refine ⟨fun hlt => ?_, fun hge => ?_⟩
      · refine callT_closed (hash_gen ir35 ir36 ir37 ir38 c bs hl _) rfl ?_
        simp
        refine callT_plain (place_gen ir34 _ _ hn) rfl rfl ?_
        simp
        refine ⟨by omega, i + 1, by simp <;> omega, by simp <;> omega, [2], ?_⟩
        simp [places_succ]
        exact wrap_id (by omega) (by omega)
      · have : k.toNat = i := by omega
        simp [this]
        exact .refl _

@[simp] theorem refPlaces_len (bs : List Int) (s : Int) (k : Nat) (n : Int) : (refPlaces bs s k n).length = k := by simp [refPlaces]

theorem refPlaces_any (c : Bool) (bs : List Int) (hl : bs.length ≤ 1000000000) (s k n : Int) (hk : k ≤ 1000000) (hn : n ≤ 9223372036854775807) :
    PC Try.prog 20 [.sl 1 c (bs.map u8L), u64L s, intL k, intL n] (.sl 1 false ((refPlaces bs s k.toNat n).map intL)) := by
  refine pc_of_call' (callAt_enter ir20 (by simp) ?_)
  simp
  refine lwp_loop (fun i : Nat => [(0, .sl 1 c (bs.map u8L)), (1, u64L s), (3, intL n), (9, if i = 0 then .v (.slice none 0 0) else .view 1 0 0 i false), (2, intL k), (10, intL i)])
    (fun i => if i = 0 then [] else [some ((refPlaces bs s i n).map intL)]) (fun i => k.toNat - i) (fun i => i ≤ k.toNat) 0 (Nat.zero_le _) ⟨[], ?_⟩ ?_
  · simp
  · intro i hi
    by_cases h0 : i = 0
    · subst h0
      simp
      refine ⟨fun hlt => ?_, fun hge => ?_⟩
      · refine callT_closed (ref_hash c bs hl _) rfl ?_
        simp
        refine callT_plain (place_gen ir26 _ _ hn) rfl rfl ?_
        simp
        refine ⟨1, by simp <;> omega, by simp <;> omega, [1], ?_⟩
        simp [refPlaces]
        exact wrap_id (by omega) (by omega)
      · have : k.toNat = 0 := by omega
        simp [this, refPlaces]
        exact .nil _ _
    · simp [h0]
      refine ⟨fun hlt => ?_, fun hge => ?_⟩
      · refine callT_closed (ref_hash c bs hl _) rfl ?_
        simp
        refine callT_plain (place_gen ir26 _ _ hn) rfl rfl ?_
        simp
        refine ⟨by omega, i + 1, by simp <;> omega, by simp <;> omega, [2], ?_⟩
        simp [refPlaces_succ]
        exact wrap_id (by omega) (by omega)
      · have : k.toNat = i := by omega
        simp [this]
        exact .refl _

theorem shr_quo {h : Int} (h0 : 0 ≤ h ∧ h < 18446744073709551616) : shrI .u64 h 29 = IntKind.u64.wrap (h.tdiv 536870912) ∧ shrI .u64 h 32 = IntKind.u64.wrap (h.tdiv 4294967296) := by
  simp [shrI, IntKind.bits, IntKind.wrap, IntKind.signed]
  rw [Int.tdiv_eq_ediv_of_nonneg h0.1, Int.tdiv_eq_ediv_of_nonneg h0.1, Int.fdiv_eq_ediv_of_nonneg _ (by omega), Int.fdiv_eq_ediv_of_nonneg _ (by omega)]
  omega

theorem hash_ref (bs : List Int) (s : Int) : refHash bs s = hash bs s := by
  have h1 := hloop_range s bs
  unfold refHash Lg.hash refEnd hend3 hend2 hend1
  simp only
  rw [← (shr_quo h1).1, ← (shr_quo (u64_range _)).2]

theorem places_ref (bs : List Int) (s : Int) (k : Nat) (n : Int) : refPlaces bs s k n = places bs s k n := by
  simp [refPlaces, places, hash_ref]

theorem hash_range (bs : List Int) (s : Int) : 0 ≤ hash bs s ∧ hash bs s < 18446744073709551616 := u64_range _

theorem place_val {h n : Int} (h0 : 0 ≤ h) (hn : 1 ≤ n) (hn2 : n ≤ 9223372036854775807) : place h n = h % n := by
  have h1 : ¬ n < 1 := by omega
  simp only [place, h1, if_false]
  rw [u64_id (by omega) hn2, Int.tmod_eq_emod_of_nonneg h0]
  have := Int.emod_nonneg h (show n ≠ 0 by omega)
  have := Int.emod_lt_of_pos h (show 0 < n by omega)
  exact wrap_id (by omega) (by omega)

theorem places_range (bs : List Int) (s : Int) (k : Nat) {n : Int} (hn : 1 ≤ n) (hn2 : n ≤ 9223372036854775807) : ∀ p ∈ places bs s k n, 0 ≤ p ∧ p < n := by
  intro p hp
  simp only [places, List.mem_map, List.mem_range] at hp
  obtain ⟨i, hi, rfl⟩ := hp
  have hr := hash_range bs (IntKind.u64.wrap (s + IntKind.u64.wrap (i : Int)))
  rw [place_val hr.1 hn hn2]
  exact ⟨Int.emod_nonneg _ (by omega), Int.emod_lt_of_pos _ (by omega)⟩

theorem ref_any (c : Bool) (bs : List Int) (hl : bs.length ≤ 1000000000) (s k n : Int) (hk : k ≤ 1000000) (hn : n ≤ 9223372036854775807) :
    PC Try.prog 20 [.sl 1 c (bs.map u8L), u64L s, intL k, intL n] (.sl 1 false ((places bs s k.toNat n).map intL)) := by
  rw [← places_ref]; exact refPlaces_any c bs hl s k n hk hn

end Go.Proofs.Ytejjmfladieipaa
