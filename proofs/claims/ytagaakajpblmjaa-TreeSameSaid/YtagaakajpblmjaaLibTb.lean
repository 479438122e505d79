import Derived.Test.YtagaakajpblmjaaLibMix
/- Byte strings, copies of lists. -/
namespace Lg
open Go
def irEqual : FnIR := ⟨10, [.t 4],
  (.seq (.ops [⟨some 4, .mov (.c (.v (.bool false))), none⟩])
  (.seq (.ops [⟨some 5, .mov (.t 0), none⟩,
    ⟨some 6, .b2s (.t 5), none⟩,
    ⟨some 7, .mov (.t 1), none⟩,
    ⟨some 8, .b2s (.t 7), none⟩,
    ⟨some 9, .bin .eql false (.t 6) (.t 8), none⟩,
    ⟨some 4, .mov (.t 9), none⟩])
  .ret))⟩
def irClip : FnIR := ⟨9, [.t 2],
  (.seq (.ops [⟨some 2, .mov (.c (.v (.slice none 0 0))), none⟩])
  (.seq (.ops [⟨some 3, .mov (.t 0), none⟩,
    ⟨some 4, .mov (.t 0), none⟩,
    ⟨some 5, .len false (.t 4), none⟩,
    ⟨some 6, .mov (.t 0), none⟩,
    ⟨some 7, .len false (.t 6), none⟩,
    ⟨some 8, .slice 1 (.t 3) none (some (.t 5)) (some (.t 7)), none⟩,
    ⟨some 2, .mov (.t 8), none⟩])
  .ret))⟩
def irClone (b : Nat) (z : L) : FnIR := ⟨8, [.t 2],
  (.seq (.ops [⟨some 2, .mov (.c (.v (.slice none 0 0))), none⟩])
  (.seq (.seq (.ops [⟨some 3, .mov (.t 0), none⟩,
    ⟨some 4, .isnil false (.t 3), none⟩])
  (.cond (.t 4)
    (.seq (.ops [⟨some 2, .mov (.c (.v (.slice none 0 0))), none⟩])
    .ret)
    .skip))
  (.seq (.ops [⟨some 5, .bslice 1 [z] 0 [], none⟩,
    ⟨some 6, .mov (.t 0), none⟩,
    ⟨some 7, .append 1 b [z] (.t 5) (.t 6), none⟩,
    ⟨some 2, .mov (.t 7), none⟩])
  .ret)))⟩
abbrev bytesL (k : List Int) : L := .sl 1 false (k.map u8L)
theorem equal_gen {P : Program} {f : Nat} (ir : compF P f = some irEqual) (c c' : Bool) (a b : List Int) (ha : ∀ z ∈ a, isByte z) (hb : ∀ z ∈ b, isByte z) :
    PC P f [.sl 1 c (a.map u8L), .sl 1 c' (b.map u8L)] (boolL (decide (a = b))) := by
  refine pc_of_call (callAt_enter ir (by simp [irEqual]) ?_)
  simp [irEqual, bytes_inj ha hb]
theorem clip_gen {P : Program} {f : Nat} (ir : compF P f = some irClip) (c : Bool) (ys : List L) (hl : ys.length ≤ 9223372036854775807) : PC P f [.sl 1 c ys] (.sl 1 true ys) := by
  refine pc_of_call (callAt_enter ir (by simp [irClip]) ?_)
  simp [irClip]
theorem clone_gen {P : Program} {f b : Nat} {z : L} (ir : compF P f = some (irClone b z)) (hz : topOK z = true) (hz2 : z.cells.length = 1) (c : Bool) (ys : List L) (h1 : ys.all solid = true) (h2 : ys.all closed = true) (hl : ys.length * b ≤ 70368744177664) : PC P f [.sl 1 c ys] (.sl 1 false ys) := by
  refine pc_of_call' (callAt_enter ir (by simp [irClone]) ?_)
  simp [irClone]
  have h1' := List.all_eq_true.1 h1
  have h2' := List.all_eq_true.1 h2
  exact ⟨⟨h1', hl, _, by rw [if_pos h2'], .refl _⟩, fun e => by subst e; exact .nil _ _⟩
end Lg
/- A table's slots: where a key is looked for. -/
namespace Lg
open Go
def irSeek (place hash equal : Nat) : FnIR := ⟨41, [.t 4],
  (.seq (.ops [⟨some 2, .box (.t 0), none⟩,
    ⟨some 4, .mov (.c (.v (.int .i64 0))), none⟩])
  (.scope 0 (.seq (.draw [[⟨some 7, .mov (.t 1), none⟩,
      ⟨some 8, .call hash [(.t 7), (.c (.v (.int .u64 0)))], none⟩,
      ⟨some 9, .faddr 0 (.t 2), none⟩,
      ⟨some 10, .faddr 2 (.t 9), none⟩,
      ⟨some 11, .load 1 false (.t 10), none⟩,
      ⟨some 12, .len false (.t 11), none⟩],
    [⟨some 13, .call place [(.t 8), (.t 12)], none⟩],
    [⟨some 5, .mov (.t 13), none⟩]])
  (.seq (.label 0)
  (.seq (.ops [⟨some 14, .faddr 0 (.t 2), none⟩,
    ⟨some 15, .faddr 2 (.t 14), none⟩,
    ⟨some 16, .load 1 false (.t 15), none⟩,
    ⟨some 17, .mov (.t 5), none⟩,
    ⟨some 18, .iaddr 1 (.t 16) (.t 17), none⟩,
    ⟨some 19, .load 1 false (.t 18), none⟩,
    ⟨some 6, .mov (.t 19), none⟩])
  (.seq (.seq (.ops [⟨some 20, .mov (.t 6), none⟩,
    ⟨some 21, .bin .eql false (.t 20) (.c (.v (.int .i64 0))), none⟩,
    ⟨some 22, .mov (.t 21), none⟩,
    ⟨some 23, .faddr 0 (.t 2), some (22, false)⟩,
    ⟨some 24, .faddr 1 (.t 23), some (22, false)⟩,
    ⟨some 25, .load 1 false (.t 24), some (22, false)⟩,
    ⟨some 26, .mov (.t 6), some (22, false)⟩,
    ⟨some 27, .bin .sub false (.t 26) (.c (.v (.int .i64 1))), some (22, false)⟩,
    ⟨some 28, .iaddr 1 (.t 25) (.t 27), some (22, false)⟩,
    ⟨some 29, .load 1 false (.t 28), some (22, false)⟩,
    ⟨some 30, .mov (.t 1), some (22, false)⟩,
    ⟨some 31, .call equal [(.t 29), (.t 30)], some (22, false)⟩,
    ⟨some 32, .pick (.t 22) (.c (.v (.bool true))) (.t 31), none⟩])
  (.cond (.t 32)
    (.seq (.ops [⟨some 33, .mov (.t 5), none⟩,
      ⟨some 4, .mov (.t 33), none⟩])
    .ret)
    .skip))
  (.seq (.ops [⟨some 34, .mov (.t 5), none⟩,
    ⟨some 35, .bin .add false (.t 34) (.c (.v (.int .i64 1))), none⟩,
    ⟨some 36, .faddr 0 (.t 2), none⟩,
    ⟨some 37, .faddr 2 (.t 36), none⟩,
    ⟨some 38, .load 1 false (.t 37), none⟩,
    ⟨some 39, .len false (.t 38), none⟩,
    ⟨some 40, .bin .rem false (.t 35) (.t 39), none⟩,
    ⟨some 5, .mov (.t 40), none⟩])
  (.goto 0))))))
    (.seq .skip
    (.seq (.ops [⟨some 14, .faddr 0 (.t 2), none⟩,
      ⟨some 15, .faddr 2 (.t 14), none⟩,
      ⟨some 16, .load 1 false (.t 15), none⟩,
      ⟨some 17, .mov (.t 5), none⟩,
      ⟨some 18, .iaddr 1 (.t 16) (.t 17), none⟩,
      ⟨some 19, .load 1 false (.t 18), none⟩,
      ⟨some 6, .mov (.t 19), none⟩])
    (.seq (.seq (.ops [⟨some 20, .mov (.t 6), none⟩,
      ⟨some 21, .bin .eql false (.t 20) (.c (.v (.int .i64 0))), none⟩,
      ⟨some 22, .mov (.t 21), none⟩,
      ⟨some 23, .faddr 0 (.t 2), some (22, false)⟩,
      ⟨some 24, .faddr 1 (.t 23), some (22, false)⟩,
      ⟨some 25, .load 1 false (.t 24), some (22, false)⟩,
      ⟨some 26, .mov (.t 6), some (22, false)⟩,
      ⟨some 27, .bin .sub false (.t 26) (.c (.v (.int .i64 1))), some (22, false)⟩,
      ⟨some 28, .iaddr 1 (.t 25) (.t 27), some (22, false)⟩,
      ⟨some 29, .load 1 false (.t 28), some (22, false)⟩,
      ⟨some 30, .mov (.t 1), some (22, false)⟩,
      ⟨some 31, .call equal [(.t 29), (.t 30)], some (22, false)⟩,
      ⟨some 32, .pick (.t 22) (.c (.v (.bool true))) (.t 31), none⟩])
    (.cond (.t 32)
      (.seq (.ops [⟨some 33, .mov (.t 5), none⟩,
        ⟨some 4, .mov (.t 33), none⟩])
      .ret)
      .skip))
    (.seq (.ops [⟨some 34, .mov (.t 5), none⟩,
      ⟨some 35, .bin .add false (.t 34) (.c (.v (.int .i64 1))), none⟩,
      ⟨some 36, .faddr 0 (.t 2), none⟩,
      ⟨some 37, .faddr 2 (.t 36), none⟩,
      ⟨some 38, .load 1 false (.t 37), none⟩,
      ⟨some 39, .len false (.t 38), none⟩,
      ⟨some 40, .bin .rem false (.t 35) (.t 39), none⟩,
      ⟨some 5, .mov (.t 40), none⟩])
    (.goto 0)))))))⟩
def stops (slots : List Int) (keys : List (List Int)) (key : List Int) (i : Nat) : Prop := slots.getD i 0 = 0 ∨ keys.getD ((slots.getD i 0).toNat - 1) [] = key
instance {slots : List Int} {keys : List (List Int)} {key : List Int} {i : Nat} : Decidable (stops slots keys key i) := by unfold stops; infer_instance
def step (S : Nat) (i : Nat) : Nat := (i + 1) % S
def seekN (slots : List Int) (keys : List (List Int)) (key : List Int) : Nat → Nat → Nat
  | 0, i => i
  | n + 1, i => if stops slots keys key i then i else seekN slots keys key n (step slots.length i)
abbrev cells3 (cap : Int) (ck cs : Bool) (keys : List (List Int)) (slots : List Int) : List L := [intL cap, .sl 1 ck (keys.map bytesL), .sl 1 cs (slots.map intL)]
def home (key : List Int) (S : Nat) : Nat := (place (hash key 0) S).toNat
theorem seekN_stop {slots : List Int} {keys : List (List Int)} {key : List Int} {i : Nat} (h : stops slots keys key i) : ∀ n, seekN slots keys key n i = i
  | 0 => rfl
  | n + 1 => by simp [seekN, h]
theorem step_int {S i : Nat} (hi : i < S) (hS : S ≤ 1000000000) : (IntKind.i64.wrap ((i : Int) + 1)).tmod S = (step S i : Nat) := by
  rw [wrap_id (by omega) (by omega), Int.tmod_eq_emod_of_nonneg (by omega)]
  unfold step
  simp
theorem seek_gen {P : Program} {f pl ha eq a b c' : Nat} (ir : compF P f = some (irSeek pl ha eq)) (irp : compF P pl = some irPlace) (irh : compF P ha = some (irHash a b c')) (ir1 : compF P a = some irEnd1) (ir2 : compF P b = some irEnd2) (ir3 : compF P c' = some irEnd3)
    (ire : compF P eq = some irEqual) (cap : Int) (ck cs ckey : Bool) (keys : List (List Int)) (slots : List Int) (key : List Int) (hkey : ∀ z ∈ key, isByte z) (hkeys : ∀ k ∈ keys, ∀ z ∈ k, isByte z) (hkl : key.length ≤ 1000000000)
    (hS : 0 < slots.length) (hS2 : slots.length ≤ 1000000000) (hv : ∀ v ∈ slots, 0 ≤ v ∧ v ≤ keys.length) (hkn : keys.length ≤ 1000000000) (n : Nat) (hn : stops slots keys key (seekN slots keys key n (home key slots.length))) :
    PC P f [.agg (cells3 cap ck cs keys slots), .sl 1 ckey (key.map u8L)] (intL (seekN slots keys key n (home key slots.length) : Nat)) := by
  have hp : place (hash key 0) slots.length = (home key slots.length : Nat) ∧ home key slots.length < slots.length := by
    have h1 := hloop_range 0 key
    have h2 : 0 ≤ hash key 0 := (u64_range _).1
    have h3 : place (hash key 0) slots.length = hash key 0 % slots.length := by
      have : ¬ (slots.length : Int) < 1 := by omega
      simp only [place, this, if_false]
      rw [u64_id (by omega) (by omega), Int.tmod_eq_emod_of_nonneg h2]
      have := Int.emod_nonneg (hash key 0) (show (slots.length : Int) ≠ 0 by omega)
      have := Int.emod_lt_of_pos (hash key 0) (show 0 < (slots.length : Int) by omega)
      exact wrap_id (by omega) (by omega)
    have h4 := Int.emod_nonneg (hash key 0) (show (slots.length : Int) ≠ 0 by omega)
    have h5 := Int.emod_lt_of_pos (hash key 0) (show 0 < (slots.length : Int) by omega)
    unfold home
    rw [h3]
    omega
  generalize hR : seekN slots keys key n (home key slots.length) = R at hn ⊢
  refine pc_of_call (callAt_enter ir (by simp [irSeek]) ?_)
  simp [irSeek]
  refine lwp_scope (fun x : Nat × Nat => [(1, .sl 1 ckey (key.map u8L)), (2, .ptr 0 0), (5, intL x.2)]) (fun x => [some (cells3 cap ck cs keys slots)]) (fun x => x.1)
    (fun x => x.2 < slots.length ∧ seekN slots keys key x.1 x.2 = R) ?_ ?_
  · simp
    refine bcallT_plain (hash_gen irh ir1 ir2 ir3 ckey key hkl 0) rfl rfl ?_
    simp
    refine callT_plain (place_gen irp _ _ (by omega)) rfl rfl ?_
    simp only [hp.1]
    have hi := hp.2
    clear hp
    generalize home key slots.length = i at hi hR ⊢
    have hv0 := hv slots[i] (List.getElem_mem hi)
    have hget : slots.getD i 0 = slots[i] := by simp [List.getD, hi]
    simp [hi]
    by_cases h0 : slots[i] = 0
    · have hst : stops slots keys key i := .inl (by rw [hget]; exact h0)
      have hfin := seekN_stop hst n
      simp [h0, ← hR, hfin]
    · have hw : IntKind.i64.wrap (slots[i] - 1) = slots[i] - 1 := wrap_id (by omega) (by omega)
      have hlt : slots[i].toNat - 1 < keys.length := by omega
      have hge : 1 ≤ slots[i] := by omega
      simp [h0, hw, hlt, hge]
      have hk := equal_gen ire false ckey keys[slots[i].toNat - 1] key (hkeys _ (List.getElem_mem hlt)) hkey
      refine callT_plain hk rfl rfl ?_
      have hkd : keys.getD ((slots.getD i 0).toNat - 1) [] = keys[slots[i].toNat - 1] := by
        have e : (slots.getD i 0).toNat - 1 = slots[i].toNat - 1 := by rw [hget]
        rw [e]; simp [List.getD, hlt]
      by_cases heq : keys[slots[i].toNat - 1] = key
      · have hst : stops slots keys key i := .inr (by rw [hkd]; exact heq)
        have hfin := seekN_stop hst n
        simp [heq, ← hR, hfin]
      · have hns : ¬ stops slots keys key i := by
          rintro (h | h)
          · rw [hget] at h; exact h0 h
          · rw [hkd] at h; exact heq h
        simp [heq]
        obtain ⟨m', hm'⟩ : ∃ m', n = m' + 1 := by
          rcases Nat.eq_zero_or_pos n with h | h
          · exfalso
            rw [h] at hR
            simp only [seekN] at hR
            rw [← hR] at hn
            exact hns hn
          · exact ⟨n - 1, by omega⟩
        have hnz : ¬ (slots.length : Int) = 0 := by omega
        have hnz2 : ¬ slots = [] := by intro e; subst e; simp at hS
        simp [hnz2, step_int hi hS2]
        have hnext : seekN slots keys key m' (step slots.length i) = R := by
          rw [← hR, hm']; simp [seekN, hns]
        have hlt2 : step slots.length i < slots.length := Nat.mod_lt _ hS
        exact ⟨(m', step slots.length i), ⟨hlt2, hnext⟩, [0], by simp⟩
  · rintro ⟨m, i⟩ ⟨hi, hm⟩
    simp only at hi hm
    have hv0 := hv slots[i] (List.getElem_mem hi)
    have hget : slots.getD i 0 = slots[i] := by simp [List.getD, hi]
    simp [hi]
    by_cases h0 : slots[i] = 0
    · have hst : stops slots keys key i := .inl (by rw [hget]; exact h0)
      have hfin := seekN_stop hst m
      simp [h0, ← hm, hfin]
    · have hw : IntKind.i64.wrap (slots[i] - 1) = slots[i] - 1 := wrap_id (by omega) (by omega)
      have hlt : slots[i].toNat - 1 < keys.length := by omega
      have hge : 1 ≤ slots[i] := by omega
      simp [h0, hw, hlt, hge]
      have hk := equal_gen ire false ckey keys[slots[i].toNat - 1] key (hkeys _ (List.getElem_mem hlt)) hkey
      refine callT_plain hk rfl rfl ?_
      have hkd : keys.getD ((slots.getD i 0).toNat - 1) [] = keys[slots[i].toNat - 1] := by
        have e : (slots.getD i 0).toNat - 1 = slots[i].toNat - 1 := by rw [hget]
        rw [e]; simp [List.getD, hlt]
      by_cases heq : keys[slots[i].toNat - 1] = key
      · have hst : stops slots keys key i := .inr (by rw [hkd]; exact heq)
        have hfin := seekN_stop hst m
        simp [heq, ← hm, hfin]
      · have hns : ¬ stops slots keys key i := by
          rintro (h | h)
          · rw [hget] at h; exact h0 h
          · rw [hkd] at h; exact heq h
        simp [heq]
        obtain ⟨m', hm'⟩ : ∃ m', m = m' + 1 := by
          rcases Nat.eq_zero_or_pos m with h | h
          · exfalso
            rw [h] at hm
            simp only [seekN] at hm
            rw [← hm] at hn
            exact hns hn
          · exact ⟨m - 1, by omega⟩
        have hnz : ¬ (slots.length : Int) = 0 := by omega
        have hnz2 : ¬ slots = [] := by intro e; subst e; simp at hS
        simp [hnz2, step_int hi hS2]
        have hnext : seekN slots keys key m' (step slots.length i) = R := by
          rw [← hm, hm']; simp [seekN, hns]
        have hlt2 : step slots.length i < slots.length := Nat.mod_lt _ hS
        exact ⟨(m', step slots.length i), ⟨hlt2, hnext⟩, by simp [hm'], [0], by simp⟩
end Lg
/- A table: what is found. -/
namespace Lg
open Go
def irFind0 (seek : Nat) : FnIR := ⟨25, [.t 4, .t 5],
  (.seq (.ops [⟨some 2, .box (.t 0), none⟩,
    ⟨some 4, .mov (.c (.v (.int .i64 0))), none⟩,
    ⟨some 5, .mov (.c (.v (.bool false))), none⟩])
  (.seq (.seq (.ops [⟨some 7, .faddr 0 (.t 2), none⟩,
    ⟨some 8, .faddr 2 (.t 7), none⟩,
    ⟨some 9, .load 1 false (.t 8), none⟩,
    ⟨some 10, .len false (.t 9), none⟩,
    ⟨some 11, .bin .eql false (.t 10) (.c (.v (.int .i64 0))), none⟩])
  (.cond (.t 11)
    (.seq (.ops [⟨some 4, .mov (.c (.v (.int .i64 0))), none⟩,
      ⟨some 5, .mov (.c (.v (.bool false))), none⟩])
    .ret)
    .skip))
  (.seq (.draw [[⟨some 12, .faddr 0 (.t 2), none⟩,
      ⟨some 13, .faddr 2 (.t 12), none⟩,
      ⟨some 14, .load 1 false (.t 13), none⟩,
      ⟨some 15, .load 3 true (.t 2), none⟩,
      ⟨some 16, .mov (.t 1), none⟩,
      ⟨some 17, .call seek [(.t 15), (.t 16)], none⟩],
    [⟨some 18, .iaddr 1 (.t 14) (.t 17), none⟩],
    [⟨some 19, .load 1 false (.t 18), none⟩],
    [⟨some 6, .mov (.t 19), none⟩]])
  (.seq (.ops [⟨some 20, .mov (.t 6), none⟩,
    ⟨some 21, .bin .sub false (.t 20) (.c (.v (.int .i64 1))), none⟩,
    ⟨some 22, .mm true (.t 21) [(.c (.v (.int .i64 0)))], none⟩,
    ⟨some 23, .mov (.t 6), none⟩,
    ⟨some 24, .bin .gtr false (.t 23) (.c (.v (.int .i64 0))), none⟩,
    ⟨some 4, .mov (.t 22), none⟩,
    ⟨some 5, .mov (.t 24), none⟩])
  .ret))))⟩
def irFind (find : Nat) : FnIR := ⟨12, [.t 4, .t 5],
  (.seq (.ops [⟨some 2, .box (.t 0), none⟩,
    ⟨some 4, .mov (.c (.v (.int .i64 0))), none⟩,
    ⟨some 5, .mov (.c (.v (.bool false))), none⟩])
  (.seq (.ops [⟨some 6, .load 3 true (.t 2), none⟩,
    ⟨some 7, .build [(.v (.int .i64 0)), (.v (.slice none 0 0)), (.v (.slice none 0 0))] [(0, 3, (.t 6))], none⟩,
    ⟨some 8, .mov (.t 1), none⟩,
    ⟨some 9, .call find [(.t 7), (.t 8)], none⟩,
    ⟨some 10, .extract (.t 9) 0, none⟩,
    ⟨some 11, .extract (.t 9) 1, none⟩,
    ⟨some 4, .mov (.t 10), none⟩,
    ⟨some 5, .mov (.t 11), none⟩])
  .ret))⟩
theorem seekN_lt {slots : List Int} {keys : List (List Int)} {key : List Int} : ∀ (n i : Nat), i < slots.length → seekN slots keys key n i < slots.length
  | 0, i, h => h
  | n + 1, i, h => by
    simp only [seekN]
    split
    · exact h
    · exact seekN_lt n _ (Nat.mod_lt _ (by omega))
structure SeekFns (P : Program) (f : Nat) where
  pl : Nat
  ha : Nat
  eq : Nat
  a : Nat
  b : Nat
  c' : Nat
  ir : compF P f = some (irSeek pl ha eq)
  irp : compF P pl = some irPlace
  irh : compF P ha = some (irHash a b c')
  ir1 : compF P a = some irEnd1
  ir2 : compF P b = some irEnd2
  ir3 : compF P c' = some irEnd3
  ire : compF P eq = some irEqual
structure Tidy (keys : List (List Int)) (slots : List Int) : Prop where
  hkeys : ∀ k ∈ keys, ∀ z ∈ k, isByte z
  hS : 0 < slots.length
  hS2 : slots.length ≤ 1000000000
  hv : ∀ v ∈ slots, 0 ≤ v ∧ v ≤ keys.length
  hkn : keys.length ≤ 1000000000
theorem home_lt {key : List Int} {S : Nat} (hS : 0 < S) (hS2 : S ≤ 1000000000) : home key S < S := by
  have h1 : 0 ≤ hash key 0 := (u64_range _).1
  unfold home
  have h3 : place (hash key 0) S = hash key 0 % S := by
    have : ¬ (S : Int) < 1 := by omega
    simp only [place, this, if_false]
    rw [u64_id (by omega) (by omega), Int.tmod_eq_emod_of_nonneg h1]
    have := Int.emod_nonneg (hash key 0) (show (S : Int) ≠ 0 by omega)
    have := Int.emod_lt_of_pos (hash key 0) (show 0 < (S : Int) by omega)
    exact wrap_id (by omega) (by omega)
  rw [h3]
  have := Int.emod_nonneg (hash key 0) (show (S : Int) ≠ 0 by omega)
  have := Int.emod_lt_of_pos (hash key 0) (show 0 < (S : Int) by omega)
  omega
def spot (keys : List (List Int)) (slots : List Int) (key : List Int) : Nat := seekN slots keys key slots.length (home key slots.length)
theorem seek_tidy {P : Program} {f : Nat} (F : SeekFns P f) (cap : Int) (ck cs ckey : Bool) {keys : List (List Int)} {slots : List Int} (ht : Tidy keys slots) (key : List Int) (hkey : ∀ z ∈ key, isByte z) (hkl : key.length ≤ 1000000000)
    (hn : stops slots keys key (spot keys slots key)) : PC P f [.agg (cells3 cap ck cs keys slots), .sl 1 ckey (key.map u8L)] (intL (spot keys slots key : Nat)) :=
  seek_gen F.ir F.irp F.irh F.ir1 F.ir2 F.ir3 F.ire cap ck cs ckey keys slots key hkey ht.hkeys hkl ht.hS ht.hS2 ht.hv ht.hkn _ hn
theorem find0_gen {P : Program} {f g : Nat} (ir : compF P f = some (irFind0 g)) (F : SeekFns P g) (cap : Int) (ck cs ckey : Bool) {keys : List (List Int)} {slots : List Int} (ht : Tidy keys slots) (key : List Int) (hkey : ∀ z ∈ key, isByte z) (hkl : key.length ≤ 1000000000)
    (hn : stops slots keys key (spot keys slots key)) : PC P f [.agg (cells3 cap ck cs keys slots), .sl 1 ckey (key.map u8L)] (.tup [intL (max (slots.getD (spot keys slots key) 0 - 1) 0), boolL (decide (0 < slots.getD (spot keys slots key) 0))]) := by
  have hlt : spot keys slots key < slots.length := seekN_lt _ _ (home_lt ht.hS ht.hS2)
  have hv0 := ht.hv slots[spot keys slots key] (List.getElem_mem hlt)
  have hkn := ht.hkn
  have hget : slots.getD (spot keys slots key) 0 = slots[spot keys slots key] := by simp [List.getD, hlt]
  have hnz : ¬ (slots.length : Int) = 0 := by have := ht.hS; omega
  have hnz2 : ¬ slots = [] := by intro e; have := ht.hS; simp [e] at this
  rw [hget]
  refine pc_of_call (callAt_enter ir (by simp [irFind0]) ?_)
  simp [irFind0, hnz2]
  refine bcallT_plain (seek_tidy F cap ck cs ckey ht key hkey hkl hn) rfl rfl ?_
  have hw : IntKind.i64.wrap (slots[spot keys slots key] - 1) = slots[spot keys slots key] - 1 := IntWalk.i64_in _ ⟨by omega, by omega⟩
  simp [hlt, hw, mmL]
  omega
theorem find_gen {P : Program} {h f g : Nat} (irf : compF P h = some (irFind f)) (ir : compF P f = some (irFind0 g)) (F : SeekFns P g) (cap : Int) (ck cs ckey : Bool) {keys : List (List Int)} {slots : List Int} (ht : Tidy keys slots) (key : List Int) (hkey : ∀ z ∈ key, isByte z) (hkl : key.length ≤ 1000000000)
    (hn : stops slots keys key (spot keys slots key)) : PC P h [.agg (cells3 cap ck cs keys slots), .sl 1 ckey (key.map u8L)] (.tup [intL (max (slots.getD (spot keys slots key) 0 - 1) 0), boolL (decide (0 < slots.getD (spot keys slots key) 0))]) := by
  refine pc_of_call (callAt_enter irf (by simp [irFind]) ?_)
  simp [irFind]
  refine callT_plain (find0_gen ir F cap ck cs ckey ht key hkey hkl hn) rfl rfl ?_
  simp
end Lg
/- Linear probing, in plain terms. -/
namespace Lg
open Go
def pos (S h j : Nat) : Nat := (h + j) % S
theorem pos_step {S h j : Nat} : step S (pos S h j) = pos S h (j + 1) := by
  unfold step pos
  rw [Nat.mod_add_mod, Nat.add_assoc]
theorem seekN_first {slots : List Int} {keys : List (List Int)} {key : List Int} {h : Nat} : ∀ (n j d : Nat), d ≤ n → (∀ i, i < d → ¬ stops slots keys key (pos slots.length h (j + i))) → stops slots keys key (pos slots.length h (j + d)) →
    seekN slots keys key n (pos slots.length h j) = pos slots.length h (j + d)
  | n, j, 0, _, _, hs => by rw [Nat.add_zero] at hs ⊢; exact seekN_stop hs n
  | 0, j, d + 1, hd, _, _ => by omega
  | n + 1, j, d + 1, hd, hn, hs => by
    have h0 := hn 0 (by omega)
    rw [Nat.add_zero] at h0
    simp only [seekN, h0, if_false]
    rw [pos_step]
    have := seekN_first n (j + 1) d (by omega) (fun i hi => by rw [show j + 1 + i = j + (i + 1) by omega]; exact hn (i + 1) (by omega)) (by rw [show j + 1 + d = j + (d + 1) by omega]; exact hs)
    rw [this, show j + 1 + d = j + (d + 1) by omega]
structure Probe (keys : List (List Int)) (m : Nat) (slots : List Int) : Prop where
  mle : m ≤ keys.length
  lt : m < slots.length
  val : ∀ v ∈ slots, 0 ≤ v ∧ v ≤ m
  uniq : ∀ p q, p < slots.length → q < slots.length → slots.getD p 0 = slots.getD q 0 → slots.getD p 0 ≠ 0 → p = q
  at_ : ∀ i, i < m → ∃ j, j < slots.length ∧ slots.getD (pos slots.length (home (keys.getD i []) slots.length) j) 0 = i + 1 ∧ ∀ j', j' < j → slots.getD (pos slots.length (home (keys.getD i []) slots.length) j') 0 ≠ 0
  nodup : keys.Nodup
theorem val_get {slots : List Int} {m : Nat} (h : ∀ v ∈ slots, 0 ≤ v ∧ v ≤ (m : Int)) (p : Nat) : 0 ≤ slots.getD p 0 ∧ slots.getD p 0 ≤ m := by
  by_cases hp : p < slots.length
  · have := h slots[p] (List.getElem_mem hp)
    simpa [List.getD, hp] using this
  · rw [List.getD, List.getElem?_eq_none (by omega)]
    simp
theorem Probe.free {keys : List (List Int)} {m : Nat} {slots : List Int} (h : Probe keys m slots) : ∃ p, p < slots.length ∧ slots.getD p 0 = 0 := by
  apply Classical.byContradiction
  intro hno
  have hne : ∀ p, p < slots.length → slots.getD p 0 ≠ 0 := fun p hp e => hno ⟨p, hp, e⟩
  have hsub : ∀ x ∈ (List.range slots.length).map fun p => (slots.getD p 0).toNat, x ∈ (List.range (m + 1)).tail := by
    intro x hx
    obtain ⟨p, hp, rfl⟩ := List.mem_map.1 hx
    have h1 := val_get h.val p
    have h2 := hne p (List.mem_range.1 hp)
    rw [List.range_succ_eq_map, List.tail_cons]
    exact List.mem_map.2 ⟨(slots.getD p 0).toNat - 1, List.mem_range.2 (by omega), by show ((slots.getD p 0).toNat - 1) + 1 = _; omega⟩
  have hnd : ((List.range slots.length).map fun p => (slots.getD p 0).toNat).Nodup := by
    refine List.pairwise_map.2 (List.Pairwise.imp_of_mem (fun {i j} hi hj hij e => ?_) List.nodup_range)
    have hi := List.mem_range.1 hi
    have hj := List.mem_range.1 hj
    have h1 := val_get h.val i
    have h2 := val_get h.val j
    exact hij (h.uniq i j hi hj (by omega) (hne i hi))
  have := List.Nodup.length_le_of_subset hnd hsub
  simp at this
  have := h.lt
  omega
theorem pos_val {S h j : Nat} (hh : h < S) (hj : j < S) : pos S h j = if h + j < S then h + j else h + j - S := by
  unfold pos
  split
  · rename_i hlt; exact Nat.mod_eq_of_lt hlt
  · rename_i hge
    rw [Nat.mod_eq_sub_mod (by omega), Nat.mod_eq_of_lt (by omega)]
theorem pos_inj {S h j j' : Nat} (hh : h < S) (hj : j < S) (hj' : j' < S) (e : pos S h j = pos S h j') : j = j' := by
  rw [pos_val hh hj, pos_val hh hj'] at e
  split at e <;> split at e <;> omega
theorem pos_onto {S h p : Nat} (hh : h < S) (hp : p < S) : ∃ j, j < S ∧ pos S h j = p := by
  by_cases hle : h ≤ p
  · exact ⟨p - h, by omega, by rw [pos_val hh (by omega), if_pos (by omega)]; omega⟩
  · exact ⟨p + S - h, by omega, by rw [pos_val hh (by omega), if_neg (by omega)]; omega⟩
theorem pos_lt {S h j : Nat} (hS : 0 < S) : pos S h j < S := Nat.mod_lt _ hS
theorem Probe.spot_new {keys : List (List Int)} {m : Nat} {slots : List Int} (h : Probe keys m slots) (hS2 : slots.length ≤ 1000000000) {key : List Int} (hk : ∀ i, i < m → keys.getD i [] ≠ key) :
    ∃ d, d < slots.length ∧ spot keys slots key = pos slots.length (home key slots.length) d ∧ slots.getD (spot keys slots key) 0 = 0 ∧ ∀ j', j' < d → slots.getD (pos slots.length (home key slots.length) j') 0 ≠ 0 := by
  have hS : 0 < slots.length := by have := h.lt; omega
  have hh := home_lt (key := key) hS hS2
  obtain ⟨p, hp, hp0⟩ := h.free
  obtain ⟨j, hj, rfl⟩ := pos_onto hh hp
  obtain ⟨d, hd1, hd2, hd3⟩ := exists_first (p := fun j => slots.getD (pos slots.length (home key slots.length) j) 0 = 0) hp0
  have hns : ∀ i, i < d → ¬ stops slots keys key (pos slots.length (home key slots.length) (0 + i)) := fun i hi => by
    rw [Nat.zero_add]
    rintro (e | e)
    · exact hd3 i hi e
    · have h1 := val_get h.val (pos slots.length (home key slots.length) i)
      have h2 := hd3 i hi
      exact hk _ (by omega) e
  have hsp : spot keys slots key = pos slots.length (home key slots.length) d := by
    have := seekN_first (h := home key slots.length) slots.length 0 d (by omega) hns (.inl (by rw [Nat.zero_add]; exact hd2))
    rw [Nat.zero_add] at this
    rw [← this]
    unfold spot
    congr 1
    unfold pos
    rw [Nat.add_zero, Nat.mod_eq_of_lt hh]
  exact ⟨d, by omega, hsp, by rw [hsp]; exact hd2, hd3⟩
theorem getD_nodup {keys : List (List Int)} (h : keys.Nodup) {i j : Nat} (hi : i < keys.length) (hj : j < keys.length) (e : keys.getD i [] = keys.getD j []) : i = j := by
  have e' : keys[i] = keys[j] := by simpa [List.getD, hi, hj] using e
  exact (List.getElem_inj h).1 e'
theorem Probe.spot_old {keys : List (List Int)} {m : Nat} {slots : List Int} (h : Probe keys m slots) (hS2 : slots.length ≤ 1000000000) {key : List Int} {i : Nat} (hi : i < m) (hk : keys.getD i [] = key) :
    slots.getD (spot keys slots key) 0 = i + 1 ∧ stops slots keys key (spot keys slots key) := by
  have hS : 0 < slots.length := by have := h.lt; omega
  have hh := home_lt (key := key) hS hS2
  obtain ⟨j, hj, hj1, hj2⟩ := h.at_ i hi
  rw [hk] at hj1 hj2
  have hmle := h.mle
  have hst : stops slots keys key (pos slots.length (home key slots.length) (0 + j)) := by
    rw [Nat.zero_add]
    refine .inr ?_
    rw [hj1, show ((i : Int) + 1).toNat - 1 = i by omega]
    exact hk
  have hns : ∀ a, a < j → ¬ stops slots keys key (pos slots.length (home key slots.length) (0 + a)) := fun a ha => by
    rw [Nat.zero_add]
    rintro (e | e)
    · exact hj2 a ha e
    · have h1 := val_get h.val (pos slots.length (home key slots.length) a)
      have h2 := hj2 a ha
      have h3 := getD_nodup h.nodup (i := (slots.getD (pos slots.length (home key slots.length) a) 0).toNat - 1) (j := i) (by omega) (by omega) (by rw [e, hk])
      have h4 := h.uniq _ _ (pos_lt hS) (pos_lt hS) (show slots.getD (pos slots.length (home key slots.length) a) 0 = slots.getD (pos slots.length (home key slots.length) j) 0 by omega) h2
      have := pos_inj hh (by omega) hj h4
      omega
  have hsp : spot keys slots key = pos slots.length (home key slots.length) j := by
    have := seekN_first (h := home key slots.length) slots.length 0 j (by omega) hns hst
    rw [Nat.zero_add] at this
    rw [← this]
    unfold spot
    congr 1
    unfold pos
    rw [Nat.add_zero, Nat.mod_eq_of_lt hh]
  rw [Nat.zero_add] at hst
  rw [hsp]
  exact ⟨hj1, hst⟩
theorem Probe.put {keys : List (List Int)} {m : Nat} {slots : List Int} (h : Probe keys m slots) (hS2 : slots.length ≤ 1000000000) (hm : m < keys.length) (hlt : m + 1 < slots.length) : Probe keys (m + 1) (slots.set (spot keys slots (keys.getD m [])) (m + 1)) := by
  have hS : 0 < slots.length := by omega
  have hk : ∀ i, i < m → keys.getD i [] ≠ keys.getD m [] := fun i hi e => by
    have := getD_nodup h.nodup (by omega) hm e
    omega
  obtain ⟨d, hd, hsp, h0, hd2⟩ := h.spot_new hS2 hk
  have hslt : spot keys slots (keys.getD m []) < slots.length := by rw [hsp]; exact pos_lt hS
  have hg : ∀ q, (slots.set (spot keys slots (keys.getD m [])) ((m : Int) + 1)).getD q 0 = if q = spot keys slots (keys.getD m []) then (m : Int) + 1 else slots.getD q 0 := fun q => by
    generalize spot keys slots (keys.getD m []) = r at hslt
    unfold List.getD
    rw [List.getElem?_set]
    by_cases hq : q = r
    · subst hq; simp [hslt]
    · rw [if_neg (Ne.symm hq), if_neg hq]
  refine ⟨hm, by simpa using hlt, fun v hv => ?_, fun p q hp hq e hne => ?_, fun i hi => ?_, h.nodup⟩
  · rcases List.mem_or_eq_of_mem_set hv with hv | hv
    · have := h.val v hv; omega
    · omega
  · simp only [List.length_set] at hp hq
    rw [hg] at hne
    rw [hg, hg] at e
    have h1 := val_get h.val p
    have h2 := val_get h.val q
    split at e <;> split at e
    · omega
    · omega
    · omega
    · rw [if_neg (by assumption)] at hne
      exact h.uniq p q hp hq e hne
  · simp only [List.length_set]
    by_cases him : i = m
    · subst him
      refine ⟨d, hd, by rw [hg, if_pos hsp.symm], fun j' hj' => ?_⟩
      rw [hg]
      split
      · omega
      · exact hd2 j' hj'
    · obtain ⟨j, hj, hj1, hj2⟩ := h.at_ i (by omega)
      refine ⟨j, hj, ?_, fun j' hj' => ?_⟩
      · rw [hg]
        split
        · rename_i e; rw [e, h0] at hj1; omega
        · exact hj1
      · rw [hg]
        split
        · omega
        · exact hj2 j' hj'
theorem probe_nil {keys : List (List Int)} (hn : keys.Nodup) {S : Nat} (hS : 0 < S) : Probe keys 0 (List.replicate S 0) := by
  have h0 : ∀ p, (List.replicate S (0 : Int)).getD p 0 = 0 := fun p => by
    unfold List.getD
    rw [List.getElem?_replicate]
    split <;> rfl
  refine ⟨Nat.zero_le _, by simpa using hS, fun v hv => ?_, fun p q _ _ _ hne => absurd (h0 p) hne, fun i hi => by omega, hn⟩
  rw [List.eq_of_mem_replicate hv]
  omega
theorem getD_app {keys : List (List Int)} {key : List Int} {i : Nat} (hi : i < keys.length) : (keys ++ [key]).getD i [] = keys.getD i [] := by
  simp [List.getD, List.getElem?_append_left hi]
theorem Probe.app {keys : List (List Int)} {slots : List Int} (h : Probe keys keys.length slots) {key : List Int} (hk : key ∉ keys) : Probe (keys ++ [key]) keys.length slots := by
  refine ⟨by simp, h.lt, h.val, h.uniq, fun i hi => ?_, ?_⟩
  · rw [getD_app hi]; exact h.at_ i hi
  · rw [List.nodup_append]
    refine ⟨h.nodup, by simp, fun a ha b hb => ?_⟩
    simp at hb
    subst hb
    exact fun e => hk (e ▸ ha)
theorem seekN_congr {slots : List Int} {keys keys' : List (List Int)} {key : List Int} (h : ∀ p, stops slots keys key p ↔ stops slots keys' key p) : ∀ n i, seekN slots keys key n i = seekN slots keys' key n i
  | 0, _ => rfl
  | n + 1, i => by
    simp only [seekN, h i, seekN_congr h n]
theorem spot_app {keys : List (List Int)} {slots : List Int} (hv : ∀ v ∈ slots, 0 ≤ v ∧ v ≤ (keys.length : Int)) (key k : List Int) : spot (keys ++ [key]) slots k = spot keys slots k := by
  refine seekN_congr (fun p => ?_) _ _
  have h1 := val_get hv p
  unfold stops
  by_cases h0 : slots.getD p 0 = 0
  · exact ⟨fun _ => .inl h0, fun _ => .inl h0⟩
  · rw [getD_app (by omega)]
structure Tab (keys : List (List Int)) (slots : List Int) : Prop where
  probe : Probe keys keys.length slots
  hkeys : ∀ k ∈ keys, ∀ z ∈ k, isByte z
  hkn : keys.length ≤ 1000000
  cap4 : slots.length ≤ 8 + 4 * keys.length
  hS8 : 8 ≤ slots.length
  half : 2 * keys.length ≤ slots.length
  hlen : ∀ k ∈ keys, k.length ≤ 1000000000
theorem Tab.hS2 {keys : List (List Int)} {slots : List Int} (h : Tab keys slots) : slots.length ≤ 100000000 := by
  have := h.cap4; have := h.hkn; omega
theorem Tab.tidy {keys : List (List Int)} {slots : List Int} (h : Tab keys slots) : Tidy keys slots :=
  ⟨h.hkeys, by have := h.hS8; omega, by have := h.hS2; omega, h.probe.val, by have := h.hkn; omega⟩
def idx (keys : List (List Int)) (key : List Int) : Nat := keys.findIdx (fun k => decide (k = key))
theorem Tab.spot_stops {keys : List (List Int)} {slots : List Int} (h : Tab keys slots) (key : List Int) : stops slots keys key (spot keys slots key) ∧ slots.getD (spot keys slots key) 0 = if key ∈ keys then (idx keys key : Int) + 1 else 0 := by
  have hS2 : slots.length ≤ 1000000000 := by have := h.hS2; omega
  by_cases hk : key ∈ keys
  · have hlt : idx keys key < keys.length := List.findIdx_lt_length_of_exists ⟨key, hk, by simp⟩
    have hget : keys.getD (idx keys key) [] = key := by
      have := List.findIdx_getElem (w := hlt)
      simp only [List.getD, List.getElem?_eq_getElem hlt, Option.getD_some]
      exact of_decide_eq_true this
    obtain ⟨h1, h2⟩ := h.probe.spot_old hS2 hlt hget
    exact ⟨h2, by rw [if_pos hk]; exact h1⟩
  · obtain ⟨d, -, -, h0, -⟩ := h.probe.spot_new hS2 (key := key) (fun i hi e => hk (by
      rw [← e]
      simp only [List.getD, List.getElem?_eq_getElem hi, Option.getD_some]
      exact List.getElem_mem hi))
    exact ⟨.inl h0, by rw [if_neg hk]; exact h0⟩
end Lg
/- A table's simple functions. -/
namespace Lg
open Go
def irNew : FnIR := ⟨14, [.c 2 3 true, .t 3],
  (.seq (.ops [⟨some 2, .alloc (.agg [(.v (.int .i64 0)), (.v (.slice none 0 0)), (.v (.slice none 0 0))]), none⟩,
    ⟨some 3, .mov (.c (.v (.int .i64 0))), none⟩])
  (.seq (.seq (.ops [⟨some 4, .mov (.t 0), none⟩,
    ⟨some 5, .bin .lss false (.t 4) (.c (.v (.int .i64 0))), none⟩,
    ⟨some 6, .mov (.t 5), none⟩,
    ⟨some 7, .mov (.t 0), some (6, false)⟩,
    ⟨some 8, .bin .gtr false (.t 7) (.c (.v (.int .i64 1048576))), some (6, false)⟩,
    ⟨some 9, .pick (.t 6) (.c (.v (.bool true))) (.t 8), none⟩])
  (.cond (.t 9)
    (.seq (.ops [⟨some 10, .build [(.v (.int .i64 0)), (.v (.slice none 0 0)), (.v (.slice none 0 0))] [], none⟩,
      ⟨none, .store 3 (.t 2) (.t 10), none⟩,
      ⟨some 3, .mov (.c (.v (.int .i64 1))), none⟩])
    .ret)
    .skip))
  (.seq (.ops [⟨some 11, .mov (.t 0), none⟩,
    ⟨some 12, .mksl 1 8 [(.v (.int .i64 0))] (.c (.v (.int .i64 8))) (.c (.v (.int .i64 8))), none⟩,
    ⟨some 13, .build [(.v (.int .i64 0)), (.v (.slice none 0 0)), (.v (.slice none 0 0))] [(0, 1, (.t 11)), (2, 1, (.t 12))], none⟩,
    ⟨none, .store 3 (.t 2) (.t 13), none⟩,
    ⟨some 3, .mov (.c (.v (.int .i64 0))), none⟩])
  .ret)))⟩
def irMany : FnIR := ⟨6, [.t 2],
  (.seq (.ops [⟨some 1, .box (.t 0), none⟩,
    ⟨some 2, .mov (.c (.v (.int .i64 0))), none⟩])
  (.seq (.ops [⟨some 3, .faddr 1 (.t 1), none⟩,
    ⟨some 4, .load 1 false (.t 3), none⟩,
    ⟨some 5, .len false (.t 4), none⟩,
    ⟨some 2, .mov (.t 5), none⟩])
  .ret))⟩
def irKey (clone : Nat) : FnIR := ⟨21, [.t 4, .t 5],
  (.seq (.ops [⟨some 2, .box (.t 0), none⟩,
    ⟨some 4, .mov (.c (.v (.slice none 0 0))), none⟩,
    ⟨some 5, .mov (.c (.v (.int .i64 0))), none⟩])
  (.seq (.seq (.ops [⟨some 6, .mov (.t 1), none⟩,
    ⟨some 7, .bin .lss false (.t 6) (.c (.v (.int .i64 0))), none⟩,
    ⟨some 8, .mov (.t 7), none⟩,
    ⟨some 9, .mov (.t 1), some (8, false)⟩,
    ⟨some 10, .faddr 1 (.t 2), some (8, false)⟩,
    ⟨some 11, .load 1 false (.t 10), some (8, false)⟩,
    ⟨some 12, .len false (.t 11), some (8, false)⟩,
    ⟨some 13, .bin .geq false (.t 9) (.t 12), some (8, false)⟩,
    ⟨some 14, .pick (.t 8) (.c (.v (.bool true))) (.t 13), none⟩])
  (.cond (.t 14)
    (.seq (.ops [⟨some 4, .mov (.c (.v (.slice none 0 0))), none⟩,
      ⟨some 5, .mov (.c (.v (.int .i64 10))), none⟩])
    .ret)
    .skip))
  (.seq (.ops [⟨some 15, .faddr 1 (.t 2), none⟩,
    ⟨some 16, .load 1 false (.t 15), none⟩,
    ⟨some 17, .mov (.t 1), none⟩,
    ⟨some 18, .iaddr 1 (.t 16) (.t 17), none⟩,
    ⟨some 19, .load 1 false (.t 18), none⟩,
    ⟨some 20, .call clone [(.t 19)], none⟩,
    ⟨some 4, .mov (.t 20), none⟩,
    ⟨some 5, .mov (.c (.v (.int .i64 0))), none⟩])
  .ret)))⟩
def irKeys (clone : Nat) : FnIR := ⟨6, [.t 2],
  (.seq (.ops [⟨some 1, .box (.t 0), none⟩,
    ⟨some 2, .mov (.c (.v (.slice none 0 0))), none⟩])
  (.seq (.ops [⟨some 3, .faddr 1 (.t 1), none⟩,
    ⟨some 4, .load 1 false (.t 3), none⟩,
    ⟨some 5, .call clone [(.t 4)], none⟩,
    ⟨some 2, .mov (.t 5), none⟩])
  .ret))⟩
theorem find_tab {P : Program} {h f g : Nat} (irf : compF P h = some (irFind f)) (ir : compF P f = some (irFind0 g)) (F : SeekFns P g) (cap : Int) (ck cs ckey : Bool) {keys : List (List Int)} {slots : List Int} (ht : Tab keys slots) (key : List Int) (hkey : ∀ z ∈ key, isByte z) (hkl : key.length ≤ 1000000000) :
    PC P h [.agg (cells3 cap ck cs keys slots), .sl 1 ckey (key.map u8L)] (.tup [intL (if key ∈ keys then (idx keys key : Int) else 0), boolL (decide (key ∈ keys))]) := by
  obtain ⟨h1, h2⟩ := ht.spot_stops key
  have := find_gen irf ir F cap ck cs ckey ht.tidy key hkey hkl h1
  rw [h2] at this
  by_cases hk : key ∈ keys
  · rw [if_pos hk] at this ⊢
    have e1 : max ((idx keys key : Int) + 1 - 1) 0 = idx keys key := by omega
    have e2 : decide (0 < (idx keys key : Int) + 1) = true := by simp <;> omega
    rw [e1, e2] at this
    simpa [hk] using this
  · rw [if_neg hk] at this ⊢
    have e1 : max ((0 : Int) - 1) 0 = 0 := by omega
    rw [e1] at this
    simpa [hk] using this
theorem new_tab {P : Program} {f : Nat} (ir : compF P f = some irNew) (most : Int) (h0 : 0 ≤ most) (h1 : most ≤ 1048576) : PC P f [intL most] (.tup [.agg (cells3 most false false [] (List.replicate 8 0)), intL 0]) := by
  refine pc_of_call' (callAt_enter ir (by simp [irNew]) ?_)
  have h2 : ¬ most < 0 := by omega
  have h3 : ¬ 1048576 < most := by omega
  simp [irNew, h2, h3]
  exact .tupL (.cons (.aggL (.cons (.refl _) (.cons (.nil _ _) (.cons (.clip _ _) .nil)))) (.cons (.refl _) .nil))
theorem tab_nil : Tab [] (List.replicate 8 0) := ⟨probe_nil (by simp) (by omega), by simp, by simp, by simp, by simp, by simp, by simp⟩
theorem many_tab {P : Program} {f : Nat} (ir : compF P f = some irMany) (cap : Int) (ck cs : Bool) (keys : List (List Int)) (slots : List Int) : PC P f [.agg (cells3 cap ck cs keys slots)] (intL keys.length) := by
  refine pc_of_call (callAt_enter ir (by simp [irMany]) ?_)
  simp [irMany]
theorem all_bytesL {ks : List (List Int)} : (ks.map bytesL).all solid = true ∧ (ks.map bytesL).all closed = true := by simp
theorem key_tab {P : Program} {f g : Nat} (ir : compF P f = some (irKey g)) (irc : compF P g = some (irClone 1 (.v (.int .u8 0)))) (cap : Int) (ck cs : Bool) (keys : List (List Int)) (slots : List Int) (i : Int) (h0 : 0 ≤ i) (hi : i.toNat < keys.length) (hl : (keys[i.toNat]).length ≤ 1000000000) :
    PC P f [.agg (cells3 cap ck cs keys slots), intL i] (.tup [bytesL keys[i.toNat], intL 0]) := by
  have h1 : ¬ i < 0 := by omega
  have h2 : ¬ (keys.length : Int) ≤ i := by omega
  refine pc_of_call (callAt_enter ir (by simp [irKey]) ?_)
  simp [irKey, h0, h1, h2, hi]
  refine callT_closed (clone_gen irc (by simp) (by simp) false (keys[i.toNat].map u8L) (by simp) (by simp) (by simp; omega)) rfl ?_
  simp
theorem keys_tab {P : Program} {f g : Nat} (ir : compF P f = some (irKeys g)) (irc : compF P g = some (irClone 24 (.v (.slice none 0 0)))) (cap : Int) (ck cs : Bool) (keys : List (List Int)) (slots : List Int) (hl : keys.length ≤ 1000000000) :
    PC P f [.agg (cells3 cap ck cs keys slots)] (.sl 1 false (keys.map bytesL)) := by
  refine pc_of_call (callAt_enter ir (by simp [irKeys]) ?_)
  simp [irKeys]
  refine callT_closed (clone_gen irc (by simp) (by simp) ck (keys.map bytesL) (by simp) (by simp) (by simp; omega)) rfl ?_
  simp
end Lg
/- A table: a key is inserted. -/
namespace Lg
open Go
def irGrow (seek : Nat) : FnIR := ⟨41, [],
  (.seq (.ops [⟨some 6, .mov (.t 0), none⟩,
    ⟨some 7, .mov (.t 1), none⟩,
    ⟨some 8, .mksl 1 8 [(.v (.int .i64 0))] (.t 7) (.t 7), none⟩,
    ⟨some 9, .nilchk (.t 6), none⟩,
    ⟨some 10, .faddr 0 (.t 9), none⟩,
    ⟨some 11, .faddr 0 (.t 10), none⟩,
    ⟨some 12, .faddr 2 (.t 11), none⟩,
    ⟨none, .store 1 (.t 12) (.t 8), none⟩])
  (.seq (.ops [⟨some 13, .mov (.t 0), none⟩,
    ⟨some 14, .nilchk (.t 13), none⟩,
    ⟨some 15, .faddr 0 (.t 14), none⟩,
    ⟨some 16, .faddr 0 (.t 15), none⟩,
    ⟨some 17, .faddr 1 (.t 16), none⟩,
    ⟨some 18, .load 1 false (.t 17), none⟩,
    ⟨some 19, .len false (.t 18), none⟩,
    ⟨some 20, .mov (.c (.v (.int .i64 0))), none⟩])
  (.block 0 (.loop
    (.seq (.ops [⟨some 21, .bin .lss false (.t 20) (.t 19), none⟩])
    (.seq (.cond (.t 21)
      .skip
      (.exit 0))
    (.seq (.block 1 (.seq (.ops [⟨some 22, .mov (.t 20), none⟩,
      ⟨some 23, .iaddr 1 (.t 18) (.t 20), none⟩,
      ⟨some 24, .load 1 false (.t 23), none⟩,
      ⟨some 4, .mov (.t 22), none⟩,
      ⟨some 5, .mov (.t 24), none⟩])
    (.draw [[⟨some 25, .mov (.t 0), none⟩,
        ⟨some 26, .nilchk (.t 25), none⟩,
        ⟨some 27, .faddr 0 (.t 26), none⟩,
        ⟨some 28, .faddr 0 (.t 27), none⟩,
        ⟨some 29, .faddr 2 (.t 28), none⟩,
        ⟨some 30, .load 1 false (.t 29), none⟩,
        ⟨some 31, .mov (.t 0), none⟩,
        ⟨some 32, .nilchk (.t 31), none⟩,
        ⟨some 33, .faddr 0 (.t 32), none⟩,
        ⟨some 34, .load 3 true (.t 33), none⟩,
        ⟨some 35, .mov (.t 5), none⟩,
        ⟨some 36, .call seek [(.t 34), (.t 35)], none⟩,
        ⟨some 37, .mov (.t 4), none⟩,
        ⟨some 38, .bin .add false (.t 37) (.c (.v (.int .i64 1))), none⟩],
      [⟨some 39, .iaddr 1 (.t 30) (.t 36), none⟩],
      [⟨none, .store 1 (.t 39) (.t 38), none⟩]])))
    (.ops [⟨some 40, .bin .add false (.t 20) (.c (.v (.int .i64 1))), none⟩,
      ⟨some 20, .mov (.t 40), none⟩]))))))))⟩
def irInsert (find clip cloneB grow cloneI seek : Nat) : FnIR := ⟨86, [.c 4 3 true, .t 5, .t 6, .t 7],
  (.seq (.ops [⟨some 2, .box (.t 0), none⟩,
    ⟨some 4, .alloc (.agg [(.v (.int .i64 0)), (.v (.slice none 0 0)), (.v (.slice none 0 0))]), none⟩,
    ⟨some 5, .mov (.c (.v (.int .i64 0))), none⟩,
    ⟨some 6, .mov (.c (.v (.bool false))), none⟩,
    ⟨some 7, .mov (.c (.v (.int .i64 0))), none⟩])
  (.seq (.seq (.ops [⟨some 14, .load 3 true (.t 2), none⟩,
    ⟨some 15, .mov (.t 1), none⟩,
    ⟨some 16, .call find [(.t 14), (.t 15)], none⟩,
    ⟨some 13, .mov (.t 16), none⟩,
    ⟨some 17, .extract (.t 13) 0, none⟩,
    ⟨some 18, .extract (.t 13) 1, none⟩,
    ⟨some 8, .mov (.t 17), none⟩,
    ⟨some 9, .mov (.t 18), none⟩])
  (.seq (.ops [⟨some 19, .mov (.t 9), none⟩])
  (.cond (.t 19)
    (.seq (.ops [⟨some 20, .load 3 true (.t 2), none⟩,
      ⟨some 21, .mov (.t 8), none⟩,
      ⟨none, .store 3 (.t 4) (.t 20), none⟩,
      ⟨some 5, .mov (.t 21), none⟩,
      ⟨some 6, .mov (.c (.v (.bool false))), none⟩,
      ⟨some 7, .mov (.c (.v (.int .i64 0))), none⟩])
    .ret)
    .skip)))
  (.seq (.ops [⟨some 22, .faddr 1 (.t 2), none⟩,
    ⟨some 23, .load 1 false (.t 22), none⟩,
    ⟨some 24, .len false (.t 23), none⟩,
    ⟨some 10, .mov (.t 24), none⟩])
  (.seq (.seq (.ops [⟨some 25, .mov (.t 10), none⟩,
    ⟨some 26, .faddr 0 (.t 2), none⟩,
    ⟨some 27, .load 1 false (.t 26), none⟩,
    ⟨some 28, .bin .geq false (.t 25) (.t 27), none⟩])
  (.cond (.t 28)
    (.seq (.ops [⟨some 29, .load 3 true (.t 2), none⟩,
      ⟨none, .store 3 (.t 4) (.t 29), none⟩,
      ⟨some 5, .mov (.c (.v (.int .i64 0))), none⟩,
      ⟨some 6, .mov (.c (.v (.bool false))), none⟩,
      ⟨some 7, .mov (.c (.v (.int .i64 7))), none⟩])
    .ret)
    .skip))
  (.seq (.ops [⟨some 30, .load 3 true (.t 2), none⟩,
    ⟨some 31, .build [(.v (.int .i64 0)), (.v (.slice none 0 0)), (.v (.slice none 0 0))] [(0, 3, (.t 30))], none⟩,
    ⟨some 32, .build [(.v (.int .i64 0)), (.v (.slice none 0 0)), (.v (.slice none 0 0))] [(0, 3, (.t 31))], none⟩,
    ⟨some 33, .box (.t 32), none⟩,
    ⟨some 11, .mov (.t 33), none⟩])
  (.seq (.ops [⟨some 34, .mov (.t 11), none⟩,
    ⟨some 35, .faddr 1 (.t 2), none⟩,
    ⟨some 36, .load 1 false (.t 35), none⟩,
    ⟨some 37, .call clip [(.t 36)], none⟩,
    ⟨some 38, .mov (.t 1), none⟩,
    ⟨some 39, .call cloneB [(.t 38)], none⟩,
    ⟨some 40, .bslice 1 [(.v (.slice none 0 0))] 1 [(0, 1, (.t 39))], none⟩,
    ⟨some 41, .append 1 24 [(.v (.slice none 0 0))] (.t 37) (.t 40), none⟩,
    ⟨some 42, .nilchk (.t 34), none⟩,
    ⟨some 43, .faddr 0 (.t 42), none⟩,
    ⟨some 44, .faddr 0 (.t 43), none⟩,
    ⟨some 45, .faddr 1 (.t 44), none⟩,
    ⟨none, .store 1 (.t 45) (.t 41), none⟩])
  (.seq (.seq (.ops [⟨some 46, .faddr 2 (.t 2), none⟩,
    ⟨some 47, .load 1 false (.t 46), none⟩,
    ⟨some 48, .len false (.t 47), none⟩,
    ⟨some 49, .mm true (.t 48) [(.c (.v (.int .i64 8)))], none⟩,
    ⟨some 12, .mov (.t 49), none⟩])
  (.seq (.ops [⟨some 50, .mov (.t 10), none⟩,
    ⟨some 51, .bin .add false (.t 50) (.c (.v (.int .i64 1))), none⟩,
    ⟨some 52, .bin .mul false (.c (.v (.int .i64 2))) (.t 51), none⟩,
    ⟨some 53, .mov (.t 12), none⟩,
    ⟨some 54, .bin .gtr false (.t 52) (.t 53), none⟩])
  (.cond (.t 54)
    (.ops [⟨some 55, .mov (.t 11), none⟩,
      ⟨some 56, .mov (.t 12), none⟩,
      ⟨some 57, .bin .mul false (.c (.v (.int .i64 2))) (.t 56), none⟩,
      ⟨some 58, .call grow [(.t 55), (.t 57)], none⟩])
    (.seq (.ops [⟨some 59, .mov (.t 11), none⟩,
      ⟨some 60, .faddr 2 (.t 2), none⟩,
      ⟨some 61, .load 1 false (.t 60), none⟩,
      ⟨some 62, .call cloneI [(.t 61)], none⟩,
      ⟨some 63, .nilchk (.t 59), none⟩,
      ⟨some 64, .faddr 0 (.t 63), none⟩,
      ⟨some 65, .faddr 0 (.t 64), none⟩,
      ⟨some 66, .faddr 2 (.t 65), none⟩,
      ⟨none, .store 1 (.t 66) (.t 62), none⟩])
    (.draw [[⟨some 67, .mov (.t 11), none⟩,
        ⟨some 68, .nilchk (.t 67), none⟩,
        ⟨some 69, .faddr 0 (.t 68), none⟩,
        ⟨some 70, .faddr 0 (.t 69), none⟩,
        ⟨some 71, .faddr 2 (.t 70), none⟩,
        ⟨some 72, .load 1 false (.t 71), none⟩,
        ⟨some 73, .load 3 true (.t 2), none⟩,
        ⟨some 74, .build [(.v (.int .i64 0)), (.v (.slice none 0 0)), (.v (.slice none 0 0))] [(0, 3, (.t 73))], none⟩,
        ⟨some 75, .mov (.t 1), none⟩,
        ⟨some 76, .call seek [(.t 74), (.t 75)], none⟩,
        ⟨some 77, .mov (.t 10), none⟩,
        ⟨some 78, .bin .add false (.t 77) (.c (.v (.int .i64 1))), none⟩],
      [⟨some 79, .iaddr 1 (.t 72) (.t 76), none⟩],
      [⟨none, .store 1 (.t 79) (.t 78), none⟩]])))))
  (.seq (.ops [⟨some 80, .mov (.t 11), none⟩,
    ⟨some 81, .nilchk (.t 80), none⟩,
    ⟨some 82, .faddr 0 (.t 81), none⟩,
    ⟨some 83, .faddr 0 (.t 82), none⟩,
    ⟨some 84, .load 3 true (.t 83), none⟩,
    ⟨some 85, .mov (.t 10), none⟩,
    ⟨none, .store 3 (.t 4) (.t 84), none⟩,
    ⟨some 5, .mov (.t 85), none⟩,
    ⟨some 6, .mov (.c (.v (.bool true))), none⟩,
    ⟨some 7, .mov (.c (.v (.int .i64 0))), none⟩])
  .ret))))))))⟩
structure InsFns (P : Program) (f : Nat) where
  find : Nat
  find0 : Nat
  clip : Nat
  cloneB : Nat
  grow : Nat
  cloneI : Nat
  seek : Nat
  ir : compF P f = some (irInsert find clip cloneB grow cloneI seek)
  irf : compF P find = some (irFind find0)
  irf0 : compF P find0 = some (irFind0 seek)
  irc : compF P clip = some irClip
  irb : compF P cloneB = some (irClone 1 (.v (.int .u8 0)))
  irg : compF P grow = some (irGrow seek)
  iri : compF P cloneI = some (irClone 8 (.v (.int .i64 0)))
  F : SeekFns P seek
theorem renL_replicate {f : Nat → Nat} {x : L} : ∀ {n : Nat}, renL f (List.replicate n x) = List.replicate n (ren f x)
  | 0 => rfl
  | n + 1 => by simp [List.replicate_succ, renL, renL_replicate (n := n)]
theorem belowL_replicate {m : Nat} {x : L} (h : below m x = true) : ∀ {n : Nat}, belowL m (List.replicate n x) = true
  | 0 => rfl
  | n + 1 => by simp [List.replicate_succ, belowL, belowL_replicate h (n := n), h]
def growS (K : List (List Int)) (S : Nat) : Nat → List Int
  | 0 => List.replicate S 0
  | i + 1 => (growS K S i).set (spot K (growS K S i) (K.getD i [])) ((i : Int) + 1)
@[simp] theorem growS_length {K : List (List Int)} {S : Nat} : ∀ {i : Nat}, (growS K S i).length = S
  | 0 => by simp [growS]
  | i + 1 => by simp [growS, growS_length (i := i)]
theorem growS_probe {K : List (List Int)} (hK : K.Nodup) {S : Nat} (hS : K.length < S) (hS2 : S ≤ 1000000000) : ∀ i, i ≤ K.length → Probe K i (growS K S i)
  | 0, _ => probe_nil hK (by omega)
  | i + 1, hi => by
    have h := growS_probe hK hS hS2 i (by omega)
    exact h.put (by rw [growS_length]; exact hS2) (by omega) (by rw [growS_length]; omega)
def insSlots (keys : List (List Int)) (slots : List Int) (key : List Int) : List Int :=
  if 2 * (keys.length + 1) > max slots.length 8 then growS (keys ++ [key]) (2 * max slots.length 8) (keys.length + 1)
  else slots.set (spot keys slots key) (keys.length + 1)
theorem insert_old {P : Program} {f : Nat} (F : InsFns P f) (cap : Int) (ck cs ckey : Bool) {keys : List (List Int)} {slots : List Int} (ht : Tab keys slots) (key : List Int) (hkey : ∀ z ∈ key, isByte z) (hkl : key.length ≤ 1000000000) (hk : key ∈ keys) :
    PC P f [.agg (cells3 cap ck cs keys slots), .sl 1 ckey (key.map u8L)] (.tup [.agg (cells3 cap ck cs keys slots), intL (idx keys key), boolL false, intL 0]) := by
  refine pc_of_call (callAt_enter F.ir (by simp [irInsert]) ?_)
  simp [irInsert]
  have hf := find_tab F.irf F.irf0 F.F cap ck cs ckey ht key hkey hkl
  rw [if_pos hk] at hf
  refine callT_plain hf rfl rfl ?_
  simp [hk]
theorem insert_full {P : Program} {f : Nat} (F : InsFns P f) (cap : Int) (ck cs ckey : Bool) {keys : List (List Int)} {slots : List Int} (ht : Tab keys slots) (key : List Int) (hkey : ∀ z ∈ key, isByte z) (hkl : key.length ≤ 1000000000) (hk : key ∉ keys) (hc : cap ≤ keys.length) :
    PC P f [.agg (cells3 cap ck cs keys slots), .sl 1 ckey (key.map u8L)] (.tup [.agg (cells3 cap ck cs keys slots), intL 0, boolL false, intL 7]) := by
  refine pc_of_call (callAt_enter F.ir (by simp [irInsert]) ?_)
  simp [irInsert]
  have hf := find_tab F.irf F.irf0 F.F cap ck cs ckey ht key hkey hkl
  rw [if_neg hk] at hf
  refine callT_plain hf rfl rfl ?_
  simp [hk, hc]
theorem insert_new {P : Program} {f : Nat} (F : InsFns P f) (cap : Int) (ck cs ckey : Bool) {keys : List (List Int)} {slots : List Int} (ht : Tab keys slots) (key : List Int) (hkey : ∀ z ∈ key, isByte z) (hkl : key.length ≤ 1000000000) (hk : key ∉ keys) (hc : keys.length < cap) :
    PC P f [.agg (cells3 cap ck cs keys slots), .sl 1 ckey (key.map u8L)] (.tup [.agg (cells3 cap false false (keys ++ [key]) (insSlots keys slots key)), intL keys.length, boolL true, intL 0]) := by
  have hkn := ht.hkn
  have hS2 := ht.hS2
  have hS8 := ht.hS8
  have hn1 : IntKind.i64.wrap ((keys.length : Int) + 1) = keys.length + 1 := wrap_id (by omega) (by omega)
  have hn2 : IntKind.i64.wrap (2 * ((keys.length : Int) + 1)) = 2 * ((keys.length : Int) + 1) := wrap_id (by omega) (by omega)
  have hmx : (if (8 : Int) > slots.length then (8 : Int) else slots.length) = slots.length := by rw [if_neg (by omega)]
  refine pc_of_call' (callAt_enter F.ir (by simp [irInsert]) ?_)
  simp [irInsert]
  have hf := find_tab F.irf F.irf0 F.F cap ck cs ckey ht key hkey hkl
  rw [if_neg hk] at hf
  refine callT_plain hf rfl rfl ?_
  have hnc : ¬ cap ≤ keys.length := by omega
  simp [hk, hnc]
  refine callT_closed (clip_gen F.irc ck (keys.map bytesL) (by simp; omega)) rfl ?_
  simp
  refine callT_closed (clone_gen F.irb (by simp) (by simp) ckey (key.map u8L) (by simp) (by simp) (by simp; omega)) rfl ?_
  have hm8 : ¬ (slots.length : Int) < 8 := by omega
  have hn3 : IntKind.i64.wrap (2 * (slots.length : Int)) = 2 * slots.length := wrap_id (by omega) (by omega)
  simp [hn1, hn2, mmL, hm8, hn3]
  refine ⟨by omega, fun hgrow => ?_, fun hno => ?_⟩
  · refine callT_of (callAt_enter F.irg (by simp [irGrow]) ?_)
    simp [irGrow]
    refine ⟨by omega, ?_⟩
    let K := keys ++ [key]
    have hKn : K.Nodup := (ht.probe.app hk).nodup
    have hKl : K.length = keys.length + 1 := by simp [K]
    have hKb : ∀ k ∈ K, ∀ z ∈ k, isByte z := fun k hk' => by
      rcases List.mem_append.1 hk' with h | h
      · exact ht.hkeys k h
      · simp at h; subst h; exact hkey
    have hhalf := ht.half
    have hPr := fun i hi => growS_probe hKn (S := 2 * slots.length) (by omega) (by omega) i hi
    have z0 : ((2 * (slots.length : Int)).toNat) = 2 * slots.length := by omega
    have e2 : List.map bytesL keys ++ [L.sl 1 false (List.map u8L key)] = K.map bytesL := by simp [K]
    rw [e2]
    refine lwp_loop (fun i : Nat => [(0, .ptr 2 0), (18, .view 1 4 0 (keys.length + 1) false), (19, intL (keys.length + 1)), (20, intL i)])
      (fun i => [some (cells3 cap ck cs keys slots), some [L.v (Value.int IntKind.i64 0), L.v (Value.slice none 0 0), L.v (Value.slice none 0 0)], some [intL cap, .view 1 4 0 (keys.length + 1) false, .view 1 5 0 (2 * slots.length) true],
        some [L.sl 1 false (List.map u8L key)], some (K.map bytesL), some ((growS K (2 * slots.length) i).map intL)]) (fun i => keys.length + 1 - i) (fun i => i ≤ keys.length + 1) 0 (by omega) ⟨[0, 1, 2, 3, 4, 5], ?_⟩ ?_
    · simp [growS, z0, renL_replicate, belowL_replicate]
    · intro i hi
      simp
      refine ⟨fun hlt => ?_, fun hge => ?_⟩
      · have hlt' : i < K.length := by omega
        refine ⟨hlt, ?_⟩
        simp [hlt']
        have hp := hPr i (by omega)
        have hKil : K[i].length ≤ 1000000000 := by
          rcases List.mem_append.1 (List.getElem_mem hlt') with h | h
          · exact ht.hlen _ h
          · simp at h; rw [h]; exact hkl
        have hti : Tidy K (growS K (2 * slots.length) i) := ⟨hKb, by rw [growS_length]; omega, by rw [growS_length]; omega, fun v hv => by have := hp.val v hv; omega, by omega⟩
        have hgd : K.getD i [] = K[i] := by simp [List.getD, hlt']
        obtain ⟨d, -, hsp, h0, -⟩ := hp.spot_new (by rw [growS_length]; omega) (key := K[i]) (fun j hj e => by
          rw [← hgd] at e
          have := getD_nodup hKn (by omega) hlt' e
          omega)
        have hslt : spot K (growS K (2 * slots.length) i) K[i] < 2 * slots.length := by
          exact Nat.lt_of_lt_of_eq (seekN_lt (slots := growS K (2 * slots.length) i) (keys := K) (key := K[i]) (growS K (2 * slots.length) i).length (home K[i] (growS K (2 * slots.length) i).length) (home_lt (by rw [growS_length]; omega) (by rw [growS_length]; omega))) growS_length
        refine bcallT_plain (seek_tidy F.F cap false true false hti K[i] (hKb _ (List.getElem_mem hlt')) hKil (.inl h0)) rfl (by simp [hKl]) ?_
        have hw : IntKind.i64.wrap ((i : Int) + 1) = i + 1 := wrap_id (by omega) (by omega)
        simp [hw]
        have hs : (List.map intL (growS K (2 * slots.length) i)).set (spot K (growS K (2 * slots.length) i) K[i]) (L.v (Value.int IntKind.i64 ((i : Int) + 1))) = (growS K (2 * slots.length) (i + 1)).map intL := by simp only [growS, hgd, List.map_set]
        rw [hs]
        refine ⟨by omega, by omega, i + 1, by simp <;> omega, by simp <;> omega, [0, 1, 2, 3, 4, 5], ?_⟩
        simp
      · have hi' : i = keys.length + 1 := by omega
        subst hi'
        have hcl : ∀ x ∈ (K.map bytesL), closed x = true := fun x hx => by
          obtain ⟨z, -, rfl⟩ := List.mem_map.1 hx
          rfl
        simp [hKl]
        have e : insSlots keys slots key = growS K (2 * slots.length) (keys.length + 1) := by
          unfold insSlots
          rw [if_pos (by omega), show max slots.length 8 = slots.length by omega]
        rw [e]
        exact .tupL (.cons (.aggL (.cons (.refl _) (.cons (.refl _) (.cons (.clip _ _) .nil)))) (.cons (.refl _) (.cons (.refl _) (.cons (.refl _) .nil))))
  · have hne : ¬ slots = [] := by intro e; simp [e] at hS8
    obtain ⟨hst, h0⟩ := ht.spot_stops key
    have hlt : spot keys slots key < slots.length := seekN_lt _ _ (home_lt ht.tidy.hS ht.tidy.hS2)
    refine callT_of (callAt_enter F.iri (by simp [irClone]) ?_)
    simp [irClone, hne]
    refine ⟨by omega, ?_⟩
    refine bcallT_plain (seek_tidy F.F cap ck cs ckey ht.tidy key hkey hkl hst) rfl rfl ?_
    have hset : (slots.map intL).set (spot keys slots key) (.v (.int .i64 (keys.length + 1))) = (slots.set (spot keys slots key) (keys.length + 1)).map intL := by rw [List.map_set]
    have hno' : ¬ 2 * (keys.length + 1) > max slots.length 8 := by omega
    have hcl : ∀ x ∈ (slots.map intL).set (spot keys slots key) (.v (.int .i64 (keys.length + 1))), closed x = true := fun x hx => by
      rw [hset] at hx
      obtain ⟨z, -, rfl⟩ := List.mem_map.1 hx
      rfl
    simp [hn1, hlt]
    rw [if_pos hcl]
    simp
    refine ⟨by omega, ?_⟩
    have e : insSlots keys slots key = slots.set (spot keys slots key) (keys.length + 1) := by unfold insSlots; rw [if_neg hno']
    rw [hset, e]
    have e2 : List.map bytesL keys ++ [L.sl 1 false (List.map u8L key)] = (keys ++ [key]).map bytesL := by simp
    rw [e2]
    exact .refl _
end Lg
/- A table behind an insert is a table. -/
namespace Lg
open Go
theorem Tab.ins {keys : List (List Int)} {slots : List Int} (ht : Tab keys slots) {key : List Int} (hkey : ∀ z ∈ key, isByte z) (hkl : key.length ≤ 1000000000) (hk : key ∉ keys) (hn : keys.length + 1 ≤ 1000000) : Tab (keys ++ [key]) (insSlots keys slots key) := by
  have hS8 := ht.hS8
  have hhalf := ht.half
  have hc4 := ht.cap4
  have hkn := ht.hkn
  have hpa := ht.probe.app hk
  have hb : ∀ k ∈ keys ++ [key], ∀ z ∈ k, isByte z := fun k h => by
    rcases List.mem_append.1 h with h | h
    · exact ht.hkeys k h
    · simp at h; subst h; exact hkey
  have hl : ∀ k ∈ keys ++ [key], k.length ≤ 1000000000 := fun k h => by
    rcases List.mem_append.1 h with h | h
    · exact ht.hlen k h
    · simp at h; subst h; exact hkl
  have hg : (keys ++ [key]).getD keys.length [] = key := by simp [List.getD]
  unfold insSlots
  split
  · rename_i hgrow
    have hm : max slots.length 8 = slots.length := by omega
    rw [hm] at hgrow ⊢
    have h := growS_probe (K := keys ++ [key]) hpa.nodup (S := 2 * slots.length) (by simp; omega) (by omega) (keys.length + 1) (by simp)
    exact ⟨by simpa using h, hb, by simpa using hn, by simp; omega, by simp; omega, by simp; omega, hl⟩
  · rename_i hno
    have h := hpa.put (by omega) (by simp) (by omega)
    rw [hg, spot_app ht.probe.val] at h
    exact ⟨by simpa using h, hb, by simpa using hn, by simp; omega, by simp; omega, by simp; omega, hl⟩
end Lg
/- Rows of byte strings: are they few, are two the same? -/
namespace Lg
open Go
def irFew : FnIR := ⟨22, [.t 4],
  (.seq (.ops [⟨some 4, .mov (.c (.v (.bool false))), none⟩])
  (.seq (.seq (.ops [⟨some 6, .mov (.t 0), none⟩,
    ⟨some 7, .len false (.t 6), none⟩,
    ⟨some 8, .mov (.t 1), none⟩,
    ⟨some 9, .bin .gtr false (.t 7) (.t 8), none⟩])
  (.cond (.t 9)
    (.seq (.ops [⟨some 4, .mov (.c (.v (.bool false))), none⟩])
    .ret)
    .skip))
  (.seq (.seq (.ops [⟨some 5, .mov (.c (.v (.int .i64 0))), none⟩])
  (.block 0 (.loop
    (.seq (.seq (.ops [⟨some 10, .mov (.t 5), none⟩,
      ⟨some 11, .mov (.t 0), none⟩,
      ⟨some 12, .len false (.t 11), none⟩,
      ⟨some 13, .bin .lss false (.t 10) (.t 12), none⟩])
    (.cond (.t 13)
      .skip
      (.exit 0)))
    (.seq (.block 1 (.seq (.ops [⟨some 16, .mov (.t 0), none⟩,
      ⟨some 17, .mov (.t 5), none⟩,
      ⟨some 18, .iaddr 1 (.t 16) (.t 17), none⟩,
      ⟨some 19, .load 1 false (.t 18), none⟩,
      ⟨some 20, .len false (.t 19), none⟩,
      ⟨some 21, .bin .gtr false (.t 20) (.c (.v (.int .i64 200))), none⟩])
    (.cond (.t 21)
      (.seq (.ops [⟨some 4, .mov (.c (.v (.bool false))), none⟩])
      .ret)
      .skip)))
    (.ops [⟨some 14, .mov (.t 5), none⟩,
      ⟨some 15, .bin .add false (.t 14) (.c (.v (.int .i64 1))), none⟩,
      ⟨some 5, .mov (.t 15), none⟩]))))))
  (.seq (.ops [⟨some 4, .mov (.c (.v (.bool true))), none⟩])
  .ret))))⟩
def irRows : FnIR := ⟨28, [.t 4],
  (.seq (.ops [⟨some 4, .mov (.c (.v (.bool false))), none⟩])
  (.seq (.seq (.ops [⟨some 6, .mov (.t 0), none⟩,
    ⟨some 7, .len false (.t 6), none⟩,
    ⟨some 8, .mov (.t 1), none⟩,
    ⟨some 9, .len false (.t 8), none⟩,
    ⟨some 10, .bin .neq false (.t 7) (.t 9), none⟩])
  (.cond (.t 10)
    (.seq (.ops [⟨some 4, .mov (.c (.v (.bool false))), none⟩])
    .ret)
    .skip))
  (.seq (.seq (.ops [⟨some 5, .mov (.c (.v (.int .i64 0))), none⟩])
  (.block 0 (.loop
    (.seq (.seq (.ops [⟨some 11, .mov (.t 5), none⟩,
      ⟨some 12, .mov (.t 0), none⟩,
      ⟨some 13, .len false (.t 12), none⟩,
      ⟨some 14, .bin .lss false (.t 11) (.t 13), none⟩])
    (.cond (.t 14)
      .skip
      (.exit 0)))
    (.seq (.block 1 (.seq (.draw [[⟨some 17, .mov (.t 0), none⟩,
        ⟨some 18, .mov (.t 5), none⟩,
        ⟨some 19, .iaddr 1 (.t 17) (.t 18), none⟩,
        ⟨some 20, .load 1 false (.t 19), none⟩,
        ⟨some 21, .b2s (.t 20), none⟩,
        ⟨some 22, .mov (.t 1), none⟩,
        ⟨some 23, .mov (.t 5), none⟩,
        ⟨some 24, .iaddr 1 (.t 22) (.t 23), none⟩,
        ⟨some 25, .load 1 false (.t 24), none⟩,
        ⟨some 26, .b2s (.t 25), none⟩],
      [⟨some 27, .bin .neq false (.t 21) (.t 26), none⟩]])
    (.cond (.t 27)
      (.seq (.ops [⟨some 4, .mov (.c (.v (.bool false))), none⟩])
      .ret)
      .skip)))
    (.ops [⟨some 15, .mov (.t 5), none⟩,
      ⟨some 16, .bin .add false (.t 15) (.c (.v (.int .i64 1))), none⟩,
      ⟨some 5, .mov (.t 16), none⟩]))))))
  (.seq (.ops [⟨some 4, .mov (.c (.v (.bool true))), none⟩])
  .ret))))⟩
def fewK (l : List (List Int)) (most : Int) : Bool := decide ((l.length : Int) ≤ most) && l.all fun k => decide (k.length ≤ 200)
theorem few_gen {P : Program} {f : Nat} (ir : compF P f = some irFew) (c : Bool) (l : List (List Int)) (most : Int) (hl : l.length ≤ 140737488351232) : PC P f [.sl 1 c (l.map bytesL), intL most] (boolL (fewK l most)) := by
  refine pc_of_call (callAt_enter ir (by simp [irFew]) ?_)
  by_cases h0 : (l.length : Int) ≤ most
  · have h0' : ¬ most < l.length := by omega
    simp [irFew, h0']
    refine lwp_loop (fun i : Nat => [(0, .sl 1 c (l.map bytesL)), (5, intL i)]) (fun _ => []) (fun i => l.length - i) (fun i => i ≤ l.length ∧ ∀ k ∈ l.take i, k.length ≤ 200) 0 (by simp) ⟨[], ?_⟩ ?_
    · simp
    · rintro i ⟨hi, hk⟩
      simp
      refine ⟨fun hlt => ?_, fun hge => ?_⟩
      · simp [hlt]
        refine ⟨fun hbig => ?_, fun hsm => ?_⟩
        · simp [fewK]
          intro _
          exact ⟨l[i], List.getElem_mem hlt, by omega⟩
        · refine ⟨i + 1, ⟨by omega, fun k hk' => ?_⟩, by simp <;> omega, [], ?_⟩
          · rw [List.take_succ_eq_append_getElem hlt] at hk'
            rcases List.mem_append.1 hk' with h | h
            · exact hk k h
            · simp at h; subst h; omega
          · simp
            exact wrap_id (by omega) (by omega)
      · have : i = l.length := by omega
        subst this
        rw [List.take_length] at hk
        simp [fewK, h0]
        exact hk
  · have h0' : most < l.length := by omega
    simp [irFew, h0', fewK]
    omega
theorem rows_gen {P : Program} {f : Nat} (ir : compF P f = some irRows) (c c' : Bool) (xs ys : List (List Int)) (hx : ∀ k ∈ xs, ∀ z ∈ k, isByte z) (hy : ∀ k ∈ ys, ∀ z ∈ k, isByte z) (hl : xs.length ≤ 1000000000) :
    PC P f [.sl 1 c (xs.map bytesL), .sl 1 c' (ys.map bytesL)] (boolL (decide (xs = ys))) := by
  refine pc_of_call (callAt_enter ir (by simp [irRows]) ?_)
  simp [irRows]
  refine ⟨fun hne e => hne (by rw [e]), fun hlen => ?_⟩
  refine lwp_loop (fun i : Nat => [(0, .sl 1 c (xs.map bytesL)), (1, .sl 1 c' (ys.map bytesL)), (5, intL i)]) (fun i => []) (fun i => xs.length - i) (fun i => i ≤ xs.length ∧ xs.take i = ys.take i) 0 (by simp) ⟨[], ?_⟩ ?_
  · simp
  · rintro i ⟨hi, he⟩
    simp
    refine ⟨fun hlt => ?_, fun hge => ?_⟩
    · have hlt' : i < ys.length := by omega
      simp [hlt, hlt', bytes_inj (hx _ (List.getElem_mem hlt)) (hy _ (List.getElem_mem hlt'))]
      refine ⟨fun hne e => hne (by simp [e]), fun heq => ⟨i + 1, ⟨by omega, ?_⟩, by simp <;> omega, [], ?_⟩⟩
      · rw [List.take_succ_eq_append_getElem hlt, List.take_succ_eq_append_getElem hlt', he, heq]
      · simp
        exact wrap_id (by omega) (by omega)
    · have h1 : i = xs.length := by omega
      have h2 : i = ys.length := by omega
      have : xs = ys := by
        rw [h1, List.take_length, ← h1, h2, List.take_length] at he
        exact he
      simp [this]
end Lg
