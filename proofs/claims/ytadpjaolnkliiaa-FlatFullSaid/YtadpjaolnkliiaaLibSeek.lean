/- A table's slots: where a key is looked for. -/
import Derived.Test.YtadpjaolnkliiaaLibTable
namespace Lg
open Go

def irSeek (place hash equal : Nat) : FnIR := ⟨41, [.t 4],
  (.seq (.ops [⟨some 2, .box (.t 0), none⟩,
    ⟨some 4, .mov (.c (.v (.int .i64 0))), none⟩])
  (.scope 0 (.seq (.draw [[⟨some 7, .mov (.t 1), none⟩,
      ⟨some 8, .call hash [(.t 7), (.c (.v (.int .u64 0)))], none⟩,
      ⟨some 9, .faddr 0 (.t 2), none⟩,
      ⟨some 10, .faddr 2 (.t 9), none⟩,
      ⟨some 11, .load 1 false (.t 10), none⟩,
      ⟨some 12, .len false (.t 11), none⟩],
    [⟨some 13, .call place [(.t 8), (.t 12)], none⟩],
    [⟨some 5, .mov (.t 13), none⟩]])
  (.seq (.label 0)
  (.seq (.ops [⟨some 14, .faddr 0 (.t 2), none⟩,
    ⟨some 15, .faddr 2 (.t 14), none⟩,
    ⟨some 16, .load 1 false (.t 15), none⟩,
    ⟨some 17, .mov (.t 5), none⟩,
    ⟨some 18, .iaddr 1 (.t 16) (.t 17), none⟩,
    ⟨some 19, .load 1 false (.t 18), none⟩,
    ⟨some 6, .mov (.t 19), none⟩])
  (.seq (.seq (.ops [⟨some 20, .mov (.t 6), none⟩,
    ⟨some 21, .bin .eql false (.t 20) (.c (.v (.int .i64 0))), none⟩,
    ⟨some 22, .mov (.t 21), none⟩,
    ⟨some 23, .faddr 0 (.t 2), some (22, false)⟩,
    ⟨some 24, .faddr 1 (.t 23), some (22, false)⟩,
    ⟨some 25, .load 1 false (.t 24), some (22, false)⟩,
    ⟨some 26, .mov (.t 6), some (22, false)⟩,
    ⟨some 27, .bin .sub false (.t 26) (.c (.v (.int .i64 1))), some (22, false)⟩,
    ⟨some 28, .iaddr 1 (.t 25) (.t 27), some (22, false)⟩,
    ⟨some 29, .load 1 false (.t 28), some (22, false)⟩,
    ⟨some 30, .mov (.t 1), some (22, false)⟩,
    ⟨some 31, .call equal [(.t 29), (.t 30)], some (22, false)⟩,
    ⟨some 32, .pick (.t 22) (.c (.v (.bool true))) (.t 31), none⟩])
  (.cond (.t 32)
    (.seq (.ops [⟨some 33, .mov (.t 5), none⟩,
      ⟨some 4, .mov (.t 33), none⟩])
    .ret)
    .skip))
  (.seq (.ops [⟨some 34, .mov (.t 5), none⟩,
    ⟨some 35, .bin .add false (.t 34) (.c (.v (.int .i64 1))), none⟩,
    ⟨some 36, .faddr 0 (.t 2), none⟩,
    ⟨some 37, .faddr 2 (.t 36), none⟩,
    ⟨some 38, .load 1 false (.t 37), none⟩,
    ⟨some 39, .len false (.t 38), none⟩,
    ⟨some 40, .bin .rem false (.t 35) (.t 39), none⟩,
    ⟨some 5, .mov (.t 40), none⟩])
  (.goto 0))))))
    (.seq .skip
    (.seq (.ops [⟨some 14, .faddr 0 (.t 2), none⟩,
      ⟨some 15, .faddr 2 (.t 14), none⟩,
      ⟨some 16, .load 1 false (.t 15), none⟩,
      ⟨some 17, .mov (.t 5), none⟩,
      ⟨some 18, .iaddr 1 (.t 16) (.t 17), none⟩,
      ⟨some 19, .load 1 false (.t 18), none⟩,
      ⟨some 6, .mov (.t 19), none⟩])
    (.seq (.seq (.ops [⟨some 20, .mov (.t 6), none⟩,
      ⟨some 21, .bin .eql false (.t 20) (.c (.v (.int .i64 0))), none⟩,
      ⟨some 22, .mov (.t 21), none⟩,
      ⟨some 23, .faddr 0 (.t 2), some (22, false)⟩,
      ⟨some 24, .faddr 1 (.t 23), some (22, false)⟩,
      ⟨some 25, .load 1 false (.t 24), some (22, false)⟩,
      ⟨some 26, .mov (.t 6), some (22, false)⟩,
      ⟨some 27, .bin .sub false (.t 26) (.c (.v (.int .i64 1))), some (22, false)⟩,
      ⟨some 28, .iaddr 1 (.t 25) (.t 27), some (22, false)⟩,
      ⟨some 29, .load 1 false (.t 28), some (22, false)⟩,
      ⟨some 30, .mov (.t 1), some (22, false)⟩,
      ⟨some 31, .call equal [(.t 29), (.t 30)], some (22, false)⟩,
      ⟨some 32, .pick (.t 22) (.c (.v (.bool true))) (.t 31), none⟩])
    (.cond (.t 32)
      (.seq (.ops [⟨some 33, .mov (.t 5), none⟩,
        ⟨some 4, .mov (.t 33), none⟩])
      .ret)
      .skip))
    (.seq (.ops [⟨some 34, .mov (.t 5), none⟩,
      ⟨some 35, .bin .add false (.t 34) (.c (.v (.int .i64 1))), none⟩,
      ⟨some 36, .faddr 0 (.t 2), none⟩,
      ⟨some 37, .faddr 2 (.t 36), none⟩,
      ⟨some 38, .load 1 false (.t 37), none⟩,
      ⟨some 39, .len false (.t 38), none⟩,
      ⟨some 40, .bin .rem false (.t 35) (.t 39), none⟩,
      ⟨some 5, .mov (.t 40), none⟩])
    (.goto 0)))))))⟩

/-- Is the search at its end at a place? -/
def stops (slots : List Int) (keys : List (List Int)) (key : List Int) (i : Nat) : Prop := slots.getD i 0 = 0 ∨ keys.getD ((slots.getD i 0).toNat - 1) [] = key

instance {slots : List Int} {keys : List (List Int)} {key : List Int} {i : Nat} : Decidable (stops slots keys key i) := by unfold stops; infer_instance

/-- So many steps on. -/
def step (S : Nat) (i : Nat) : Nat := (i + 1) % S

/-- The first place of so many, from one on, where the search ends. -/
def seekN (slots : List Int) (keys : List (List Int)) (key : List Int) : Nat → Nat → Nat
  | 0, i => i
  | n + 1, i => if stops slots keys key i then i else seekN slots keys key n (step slots.length i)

abbrev cells3 (cap : Int) (ck cs : Bool) (keys : List (List Int)) (slots : List Int) : List L := [intL cap, .sl 1 ck (keys.map bytesL), .sl 1 cs (slots.map intL)]

/-- Where a key's search begins. -/
def home (key : List Int) (S : Nat) : Nat := (place (hash key 0) S).toNat

theorem seekN_stop {slots : List Int} {keys : List (List Int)} {key : List Int} {i : Nat} (h : stops slots keys key i) : ∀ n, seekN slots keys key n i = i
  | 0 => rfl
  | n + 1 => by simp [seekN, h]

theorem step_int {S i : Nat} (hi : i < S) (hS : S ≤ 1000000000) : (IntKind.i64.wrap ((i : Int) + 1)).tmod S = (step S i : Nat) := by
  rw [wrap_id (by omega) (by omega), Int.tmod_eq_emod_of_nonneg (by omega)]
  unfold step
  simp

theorem seek_gen {P : Program} {f pl ha eq a b c' : Nat} (ir : compF P f = some (irSeek pl ha eq)) (irp : compF P pl = some irPlace) (irh : compF P ha = some (irHash a b c')) (ir1 : compF P a = some irEnd1) (ir2 : compF P b = some irEnd2) (ir3 : compF P c' = some irEnd3)
    (ire : compF P eq = some irEqual) (cap : Int) (ck cs ckey : Bool) (keys : List (List Int)) (slots : List Int) (key : List Int) (hkey : ∀ z ∈ key, isByte z) (hkeys : ∀ k ∈ keys, ∀ z ∈ k, isByte z) (hkl : key.length ≤ 1000000000)
    (hS : 0 < slots.length) (hS2 : slots.length ≤ 1000000000) (hv : ∀ v ∈ slots, 0 ≤ v ∧ v ≤ keys.length) (hkn : keys.length ≤ 1000000000) (n : Nat) (hn : stops slots keys key (seekN slots keys key n (home key slots.length))) :
    PC P f [.agg (cells3 cap ck cs keys slots), .sl 1 ckey (key.map u8L)] (intL (seekN slots keys key n (home key slots.length) : Nat)) := by
  have hp : place (hash key 0) slots.length = (home key slots.length : Nat) ∧ home key slots.length < slots.length := by
    have h1 := hloop_range 0 key
    have h2 : 0 ≤ hash key 0 := (u64_range _).1
    have h3 : place (hash key 0) slots.length = hash key 0 % slots.length := by
      have : ¬ (slots.length : Int) < 1 := by omega
      simp only [place, this, if_false]
      rw [u64_id (by omega) (by omega), Int.tmod_eq_emod_of_nonneg h2]
      have := Int.emod_nonneg (hash key 0) (show (slots.length : Int) ≠ 0 by omega)
      have := Int.emod_lt_of_pos (hash key 0) (show 0 < (slots.length : Int) by omega)
      exact wrap_id (by omega) (by omega)
    have h4 := Int.emod_nonneg (hash key 0) (show (slots.length : Int) ≠ 0 by omega)
    have h5 := Int.emod_lt_of_pos (hash key 0) (show 0 < (slots.length : Int) by omega)
    unfold home
    rw [h3]
    omega
  generalize hR : seekN slots keys key n (home key slots.length) = R at hn ⊢
  refine pc_of_call (callAt_enter ir (by simp [irSeek]) ?_)
  simp [irSeek]
  refine lwp_scope (fun x : Nat × Nat => [(1, .sl 1 ckey (key.map u8L)), (2, .ptr 0 0), (5, intL x.2)]) (fun x => [some (cells3 cap ck cs keys slots)]) (fun x => x.1)
    (fun x => x.2 < slots.length ∧ seekN slots keys key x.1 x.2 = R) ?_ ?_
  · simp
    refine bcallT_plain (hash_gen irh ir1 ir2 ir3 ckey key hkl 0) rfl rfl ?_
    simp
    refine callT_plain (place_gen irp _ _ (by omega)) rfl rfl ?_
    simp only [hp.1]
    have hi := hp.2
    clear hp
    generalize home key slots.length = i at hi hR ⊢
    have hv0 := hv slots[i] (List.getElem_mem hi)
    have hget : slots.getD i 0 = slots[i] := by simp [List.getD, hi]
    simp [hi]
    by_cases h0 : slots[i] = 0
    · have hst : stops slots keys key i := .inl (by rw [hget]; exact h0)
      have hfin := seekN_stop hst n
      simp [h0, ← hR, hfin]
    · have hw : IntKind.i64.wrap (slots[i] - 1) = slots[i] - 1 := wrap_id (by omega) (by omega)
      have hlt : slots[i].toNat - 1 < keys.length := by omega
      have hge : 1 ≤ slots[i] := by omega
      simp [h0, hw, hlt, hge]
      have hk := equal_gen ire false ckey keys[slots[i].toNat - 1] key (hkeys _ (List.getElem_mem hlt)) hkey
      refine callT_plain hk rfl rfl ?_
      have hkd : keys.getD ((slots.getD i 0).toNat - 1) [] = keys[slots[i].toNat - 1] := by
        have e : (slots.getD i 0).toNat - 1 = slots[i].toNat - 1 := by rw [hget]
        rw [e]; simp [List.getD, hlt]
      by_cases heq : keys[slots[i].toNat - 1] = key
      · have hst : stops slots keys key i := .inr (by rw [hkd]; exact heq)
        have hfin := seekN_stop hst n
        simp [heq, ← hR, hfin]
      · have hns : ¬ stops slots keys key i := by
          rintro (h | h)
          · rw [hget] at h; exact h0 h
          · rw [hkd] at h; exact heq h
        simp [heq]
        obtain ⟨m', hm'⟩ : ∃ m', n = m' + 1 := by
          rcases Nat.eq_zero_or_pos n with h | h
          · exfalso
            rw [h] at hR
            simp only [seekN] at hR
            rw [← hR] at hn
            exact hns hn
          · exact ⟨n - 1, by omega⟩
        have hnz : ¬ (slots.length : Int) = 0 := by omega
        have hnz2 : ¬ slots = [] := by intro e; subst e; simp at hS
        simp [hnz, hnz2, step_int hi hS2]
        have hnext : seekN slots keys key m' (step slots.length i) = R := by
          rw [← hR, hm']; simp [seekN, hns]
        have hlt2 : step slots.length i < slots.length := Nat.mod_lt _ hS
        exact ⟨(m', step slots.length i), ⟨hlt2, hnext⟩, [0], by simp⟩
  · rintro ⟨m, i⟩ ⟨hi, hm⟩
    simp only at hi hm
    have hv0 := hv slots[i] (List.getElem_mem hi)
    have hget : slots.getD i 0 = slots[i] := by simp [List.getD, hi]
    simp [hi]
    by_cases h0 : slots[i] = 0
    · have hst : stops slots keys key i := .inl (by rw [hget]; exact h0)
      have hfin := seekN_stop hst m
      simp [h0, ← hm, hfin]
    · have hw : IntKind.i64.wrap (slots[i] - 1) = slots[i] - 1 := wrap_id (by omega) (by omega)
      have hlt : slots[i].toNat - 1 < keys.length := by omega
      have hge : 1 ≤ slots[i] := by omega
      simp [h0, hw, hlt, hge]
      have hk := equal_gen ire false ckey keys[slots[i].toNat - 1] key (hkeys _ (List.getElem_mem hlt)) hkey
      refine callT_plain hk rfl rfl ?_
      have hkd : keys.getD ((slots.getD i 0).toNat - 1) [] = keys[slots[i].toNat - 1] := by
        have e : (slots.getD i 0).toNat - 1 = slots[i].toNat - 1 := by rw [hget]
        rw [e]; simp [List.getD, hlt]
      by_cases heq : keys[slots[i].toNat - 1] = key
      · have hst : stops slots keys key i := .inr (by rw [hkd]; exact heq)
        have hfin := seekN_stop hst m
        simp [heq, ← hm, hfin]
      · have hns : ¬ stops slots keys key i := by
          rintro (h | h)
          · rw [hget] at h; exact h0 h
          · rw [hkd] at h; exact heq h
        simp [heq]
        obtain ⟨m', hm'⟩ : ∃ m', m = m' + 1 := by
          rcases Nat.eq_zero_or_pos m with h | h
          · exfalso
            rw [h] at hm
            simp only [seekN] at hm
            rw [← hm] at hn
            exact hns hn
          · exact ⟨m - 1, by omega⟩
        have hnz : ¬ (slots.length : Int) = 0 := by omega
        have hnz2 : ¬ slots = [] := by intro e; subst e; simp at hS
        simp [hnz, hnz2, step_int hi hS2]
        have hnext : seekN slots keys key m' (step slots.length i) = R := by
          rw [← hm, hm']; simp [seekN, hns]
        have hlt2 : step slots.length i < slots.length := Nat.mod_lt _ hS
        exact ⟨(m', step slots.length i), ⟨hlt2, hnext⟩, by simp [hm'], [0], by simp⟩

end Lg
