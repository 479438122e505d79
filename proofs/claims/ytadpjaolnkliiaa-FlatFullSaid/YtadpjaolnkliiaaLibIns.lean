/- A table: a key is inserted. -/
import Derived.Test.YtadpjaolnkliiaaLibTab
namespace Lg
open Go

def irGrow (seek : Nat) : FnIR := ⟨41, [],
  (.seq (.ops [⟨some 6, .mov (.t 0), none⟩,
    ⟨some 7, .mov (.t 1), none⟩,
    ⟨some 8, .mksl 1 8 [(.v (.int .i64 0))] (.t 7) (.t 7), none⟩,
    ⟨some 9, .nilchk (.t 6), none⟩,
    ⟨some 10, .faddr 0 (.t 9), none⟩,
    ⟨some 11, .faddr 0 (.t 10), none⟩,
    ⟨some 12, .faddr 2 (.t 11), none⟩,
    ⟨none, .store 1 (.t 12) (.t 8), none⟩])
  (.seq (.ops [⟨some 13, .mov (.t 0), none⟩,
    ⟨some 14, .nilchk (.t 13), none⟩,
    ⟨some 15, .faddr 0 (.t 14), none⟩,
    ⟨some 16, .faddr 0 (.t 15), none⟩,
    ⟨some 17, .faddr 1 (.t 16), none⟩,
    ⟨some 18, .load 1 false (.t 17), none⟩,
    ⟨some 19, .len false (.t 18), none⟩,
    ⟨some 20, .mov (.c (.v (.int .i64 0))), none⟩])
  (.block 0 (.loop
    (.seq (.ops [⟨some 21, .bin .lss false (.t 20) (.t 19), none⟩])
    (.seq (.cond (.t 21)
      .skip
      (.exit 0))
    (.seq (.block 1 (.seq (.ops [⟨some 22, .mov (.t 20), none⟩,
      ⟨some 23, .iaddr 1 (.t 18) (.t 20), none⟩,
      ⟨some 24, .load 1 false (.t 23), none⟩,
      ⟨some 4, .mov (.t 22), none⟩,
      ⟨some 5, .mov (.t 24), none⟩])
    (.draw [[⟨some 25, .mov (.t 0), none⟩,
        ⟨some 26, .nilchk (.t 25), none⟩,
        ⟨some 27, .faddr 0 (.t 26), none⟩,
        ⟨some 28, .faddr 0 (.t 27), none⟩,
        ⟨some 29, .faddr 2 (.t 28), none⟩,
        ⟨some 30, .load 1 false (.t 29), none⟩,
        ⟨some 31, .mov (.t 0), none⟩,
        ⟨some 32, .nilchk (.t 31), none⟩,
        ⟨some 33, .faddr 0 (.t 32), none⟩,
        ⟨some 34, .load 3 true (.t 33), none⟩,
        ⟨some 35, .mov (.t 5), none⟩,
        ⟨some 36, .call seek [(.t 34), (.t 35)], none⟩,
        ⟨some 37, .mov (.t 4), none⟩,
        ⟨some 38, .bin .add false (.t 37) (.c (.v (.int .i64 1))), none⟩],
      [⟨some 39, .iaddr 1 (.t 30) (.t 36), none⟩],
      [⟨none, .store 1 (.t 39) (.t 38), none⟩]])))
    (.ops [⟨some 40, .bin .add false (.t 20) (.c (.v (.int .i64 1))), none⟩,
      ⟨some 20, .mov (.t 40), none⟩]))))))))⟩

def irInsert (find clip cloneB grow cloneI seek : Nat) : FnIR := ⟨86, [.c 4 3 true, .t 5, .t 6, .t 7],
  (.seq (.ops [⟨some 2, .box (.t 0), none⟩,
    ⟨some 4, .alloc (.agg [(.v (.int .i64 0)), (.v (.slice none 0 0)), (.v (.slice none 0 0))]), none⟩,
    ⟨some 5, .mov (.c (.v (.int .i64 0))), none⟩,
    ⟨some 6, .mov (.c (.v (.bool false))), none⟩,
    ⟨some 7, .mov (.c (.v (.int .i64 0))), none⟩])
  (.seq (.seq (.ops [⟨some 14, .load 3 true (.t 2), none⟩,
    ⟨some 15, .mov (.t 1), none⟩,
    ⟨some 16, .call find [(.t 14), (.t 15)], none⟩,
    ⟨some 13, .mov (.t 16), none⟩,
    ⟨some 17, .extract (.t 13) 0, none⟩,
    ⟨some 18, .extract (.t 13) 1, none⟩,
    ⟨some 8, .mov (.t 17), none⟩,
    ⟨some 9, .mov (.t 18), none⟩])
  (.seq (.ops [⟨some 19, .mov (.t 9), none⟩])
  (.cond (.t 19)
    (.seq (.ops [⟨some 20, .load 3 true (.t 2), none⟩,
      ⟨some 21, .mov (.t 8), none⟩,
      ⟨none, .store 3 (.t 4) (.t 20), none⟩,
      ⟨some 5, .mov (.t 21), none⟩,
      ⟨some 6, .mov (.c (.v (.bool false))), none⟩,
      ⟨some 7, .mov (.c (.v (.int .i64 0))), none⟩])
    .ret)
    .skip)))
  (.seq (.ops [⟨some 22, .faddr 1 (.t 2), none⟩,
    ⟨some 23, .load 1 false (.t 22), none⟩,
    ⟨some 24, .len false (.t 23), none⟩,
    ⟨some 10, .mov (.t 24), none⟩])
  (.seq (.seq (.ops [⟨some 25, .mov (.t 10), none⟩,
    ⟨some 26, .faddr 0 (.t 2), none⟩,
    ⟨some 27, .load 1 false (.t 26), none⟩,
    ⟨some 28, .bin .geq false (.t 25) (.t 27), none⟩])
  (.cond (.t 28)
    (.seq (.ops [⟨some 29, .load 3 true (.t 2), none⟩,
      ⟨none, .store 3 (.t 4) (.t 29), none⟩,
      ⟨some 5, .mov (.c (.v (.int .i64 0))), none⟩,
      ⟨some 6, .mov (.c (.v (.bool false))), none⟩,
      ⟨some 7, .mov (.c (.v (.int .i64 7))), none⟩])
    .ret)
    .skip))
  (.seq (.ops [⟨some 30, .load 3 true (.t 2), none⟩,
    ⟨some 31, .build [(.v (.int .i64 0)), (.v (.slice none 0 0)), (.v (.slice none 0 0))] [(0, 3, (.t 30))], none⟩,
    ⟨some 32, .build [(.v (.int .i64 0)), (.v (.slice none 0 0)), (.v (.slice none 0 0))] [(0, 3, (.t 31))], none⟩,
    ⟨some 33, .box (.t 32), none⟩,
    ⟨some 11, .mov (.t 33), none⟩])
  (.seq (.ops [⟨some 34, .mov (.t 11), none⟩,
    ⟨some 35, .faddr 1 (.t 2), none⟩,
    ⟨some 36, .load 1 false (.t 35), none⟩,
    ⟨some 37, .call clip [(.t 36)], none⟩,
    ⟨some 38, .mov (.t 1), none⟩,
    ⟨some 39, .call cloneB [(.t 38)], none⟩,
    ⟨some 40, .bslice 1 [(.v (.slice none 0 0))] 1 [(0, 1, (.t 39))], none⟩,
    ⟨some 41, .append 1 24 [(.v (.slice none 0 0))] (.t 37) (.t 40), none⟩,
    ⟨some 42, .nilchk (.t 34), none⟩,
    ⟨some 43, .faddr 0 (.t 42), none⟩,
    ⟨some 44, .faddr 0 (.t 43), none⟩,
    ⟨some 45, .faddr 1 (.t 44), none⟩,
    ⟨none, .store 1 (.t 45) (.t 41), none⟩])
  (.seq (.seq (.ops [⟨some 46, .faddr 2 (.t 2), none⟩,
    ⟨some 47, .load 1 false (.t 46), none⟩,
    ⟨some 48, .len false (.t 47), none⟩,
    ⟨some 49, .mm true (.t 48) [(.c (.v (.int .i64 8)))], none⟩,
    ⟨some 12, .mov (.t 49), none⟩])
  (.seq (.ops [⟨some 50, .mov (.t 10), none⟩,
    ⟨some 51, .bin .add false (.t 50) (.c (.v (.int .i64 1))), none⟩,
    ⟨some 52, .bin .mul false (.c (.v (.int .i64 2))) (.t 51), none⟩,
    ⟨some 53, .mov (.t 12), none⟩,
    ⟨some 54, .bin .gtr false (.t 52) (.t 53), none⟩])
  (.cond (.t 54)
    (.ops [⟨some 55, .mov (.t 11), none⟩,
      ⟨some 56, .mov (.t 12), none⟩,
      ⟨some 57, .bin .mul false (.c (.v (.int .i64 2))) (.t 56), none⟩,
      ⟨some 58, .call grow [(.t 55), (.t 57)], none⟩])
    (.seq (.ops [⟨some 59, .mov (.t 11), none⟩,
      ⟨some 60, .faddr 2 (.t 2), none⟩,
      ⟨some 61, .load 1 false (.t 60), none⟩,
      ⟨some 62, .call cloneI [(.t 61)], none⟩,
      ⟨some 63, .nilchk (.t 59), none⟩,
      ⟨some 64, .faddr 0 (.t 63), none⟩,
      ⟨some 65, .faddr 0 (.t 64), none⟩,
      ⟨some 66, .faddr 2 (.t 65), none⟩,
      ⟨none, .store 1 (.t 66) (.t 62), none⟩])
    (.draw [[⟨some 67, .mov (.t 11), none⟩,
        ⟨some 68, .nilchk (.t 67), none⟩,
        ⟨some 69, .faddr 0 (.t 68), none⟩,
        ⟨some 70, .faddr 0 (.t 69), none⟩,
        ⟨some 71, .faddr 2 (.t 70), none⟩,
        ⟨some 72, .load 1 false (.t 71), none⟩,
        ⟨some 73, .load 3 true (.t 2), none⟩,
        ⟨some 74, .build [(.v (.int .i64 0)), (.v (.slice none 0 0)), (.v (.slice none 0 0))] [(0, 3, (.t 73))], none⟩,
        ⟨some 75, .mov (.t 1), none⟩,
        ⟨some 76, .call seek [(.t 74), (.t 75)], none⟩,
        ⟨some 77, .mov (.t 10), none⟩,
        ⟨some 78, .bin .add false (.t 77) (.c (.v (.int .i64 1))), none⟩],
      [⟨some 79, .iaddr 1 (.t 72) (.t 76), none⟩],
      [⟨none, .store 1 (.t 79) (.t 78), none⟩]])))))
  (.seq (.ops [⟨some 80, .mov (.t 11), none⟩,
    ⟨some 81, .nilchk (.t 80), none⟩,
    ⟨some 82, .faddr 0 (.t 81), none⟩,
    ⟨some 83, .faddr 0 (.t 82), none⟩,
    ⟨some 84, .load 3 true (.t 83), none⟩,
    ⟨some 85, .mov (.t 10), none⟩,
    ⟨none, .store 3 (.t 4) (.t 84), none⟩,
    ⟨some 5, .mov (.t 85), none⟩,
    ⟨some 6, .mov (.c (.v (.bool true))), none⟩,
    ⟨some 7, .mov (.c (.v (.int .i64 0))), none⟩])
  .ret))))))))⟩

/-- The functions under Insert. -/
structure InsFns (P : Program) (f : Nat) where
  find : Nat
  find0 : Nat
  clip : Nat
  cloneB : Nat
  grow : Nat
  cloneI : Nat
  seek : Nat
  ir : compF P f = some (irInsert find clip cloneB grow cloneI seek)
  irf : compF P find = some (irFind find0)
  irf0 : compF P find0 = some (irFind0 seek)
  irc : compF P clip = some irClip
  irb : compF P cloneB = some (irClone 1 (.v (.int .u8 0)))
  irg : compF P grow = some (irGrow seek)
  iri : compF P cloneI = some (irClone 8 (.v (.int .i64 0)))
  F : SeekFns P seek

theorem renL_replicate {f : Nat → Nat} {x : L} : ∀ {n : Nat}, renL f (List.replicate n x) = List.replicate n (ren f x)
  | 0 => rfl
  | n + 1 => by simp [List.replicate_succ, renL, renL_replicate (n := n)]
theorem belowL_replicate {m : Nat} {x : L} (h : below m x = true) : ∀ {n : Nat}, belowL m (List.replicate n x) = true
  | 0 => rfl
  | n + 1 => by simp [List.replicate_succ, belowL, belowL_replicate h (n := n), h]

/-- The slots behind the first so many keys, laid anew. -/
def growS (K : List (List Int)) (S : Nat) : Nat → List Int
  | 0 => List.replicate S 0
  | i + 1 => (growS K S i).set (spot K (growS K S i) (K.getD i [])) ((i : Int) + 1)

@[simp] theorem growS_length {K : List (List Int)} {S : Nat} : ∀ {i : Nat}, (growS K S i).length = S
  | 0 => by simp [growS]
  | i + 1 => by simp [growS, growS_length (i := i)]

theorem growS_probe {K : List (List Int)} (hK : K.Nodup) {S : Nat} (hS : K.length < S) (hS2 : S ≤ 1000000000) : ∀ i, i ≤ K.length → Probe K i (growS K S i)
  | 0, _ => probe_nil hK (by omega)
  | i + 1, hi => by
    have h := growS_probe hK hS hS2 i (by omega)
    exact h.put (by rw [growS_length]; exact hS2) (by omega) (by rw [growS_length]; omega)

/-- The table behind an insert of a new key. -/
def insSlots (keys : List (List Int)) (slots : List Int) (key : List Int) : List Int :=
  if 2 * (keys.length + 1) > max slots.length 8 then growS (keys ++ [key]) (2 * max slots.length 8) (keys.length + 1)
  else slots.set (spot keys slots key) (keys.length + 1)

theorem insert_old {P : Program} {f : Nat} (F : InsFns P f) (cap : Int) (ck cs ckey : Bool) {keys : List (List Int)} {slots : List Int} (ht : Tab keys slots) (key : List Int) (hkey : ∀ z ∈ key, isByte z) (hkl : key.length ≤ 1000000000) (hk : key ∈ keys) :
    PC P f [.agg (cells3 cap ck cs keys slots), .sl 1 ckey (key.map u8L)] (.tup [.agg (cells3 cap ck cs keys slots), intL (idx keys key), boolL false, intL 0]) := by
  refine pc_of_call (callAt_enter F.ir (by simp [irInsert]) ?_)
  simp [irInsert]
  have hf := find_tab F.irf F.irf0 F.F cap ck cs ckey ht key hkey hkl
  rw [if_pos hk] at hf
  refine callT_plain hf rfl rfl ?_
  simp [hk]

theorem insert_full {P : Program} {f : Nat} (F : InsFns P f) (cap : Int) (ck cs ckey : Bool) {keys : List (List Int)} {slots : List Int} (ht : Tab keys slots) (key : List Int) (hkey : ∀ z ∈ key, isByte z) (hkl : key.length ≤ 1000000000) (hk : key ∉ keys) (hc : cap ≤ keys.length) :
    PC P f [.agg (cells3 cap ck cs keys slots), .sl 1 ckey (key.map u8L)] (.tup [.agg (cells3 cap ck cs keys slots), intL 0, boolL false, intL 7]) := by
  refine pc_of_call (callAt_enter F.ir (by simp [irInsert]) ?_)
  simp [irInsert]
  have hf := find_tab F.irf F.irf0 F.F cap ck cs ckey ht key hkey hkl
  rw [if_neg hk] at hf
  refine callT_plain hf rfl rfl ?_
  simp [hk, hc]

theorem insert_new {P : Program} {f : Nat} (F : InsFns P f) (cap : Int) (ck cs ckey : Bool) {keys : List (List Int)} {slots : List Int} (ht : Tab keys slots) (key : List Int) (hkey : ∀ z ∈ key, isByte z) (hkl : key.length ≤ 1000000000) (hk : key ∉ keys) (hc : keys.length < cap) :
    PC P f [.agg (cells3 cap ck cs keys slots), .sl 1 ckey (key.map u8L)] (.tup [.agg (cells3 cap false false (keys ++ [key]) (insSlots keys slots key)), intL keys.length, boolL true, intL 0]) := by
  have hkn := ht.hkn
  have hS2 := ht.hS2
  have hS8 := ht.hS8
  have hn1 : IntKind.i64.wrap ((keys.length : Int) + 1) = keys.length + 1 := wrap_id (by omega) (by omega)
  have hn2 : IntKind.i64.wrap (2 * ((keys.length : Int) + 1)) = 2 * ((keys.length : Int) + 1) := wrap_id (by omega) (by omega)
  have hmx : (if (8 : Int) > slots.length then (8 : Int) else slots.length) = slots.length := by rw [if_neg (by omega)]
  refine pc_of_call' (callAt_enter F.ir (by simp [irInsert]) ?_)
  simp [irInsert]
  have hf := find_tab F.irf F.irf0 F.F cap ck cs ckey ht key hkey hkl
  rw [if_neg hk] at hf
  refine callT_plain hf rfl rfl ?_
  have hnc : ¬ cap ≤ keys.length := by omega
  simp [hk, hnc]
  refine callT_closed (clip_gen F.irc ck (keys.map bytesL) (by simp; omega)) rfl ?_
  simp
  refine callT_closed (clone_gen F.irb (by simp) (by simp) ckey (key.map u8L) (by simp) (by simp) (by simp; omega)) rfl ?_
  have hm8 : ¬ (slots.length : Int) < 8 := by omega
  have hn3 : IntKind.i64.wrap (2 * (slots.length : Int)) = 2 * slots.length := wrap_id (by omega) (by omega)
  simp [hn1, hn2, mmL, hm8, hn3]
  refine ⟨by omega, fun hgrow => ?_, fun hno => ?_⟩
  · refine callAt_enter F.irg (by simp [irGrow]) ?_
    simp [irGrow]
    refine ⟨by omega, ?_⟩
    let K := keys ++ [key]
    have hKn : K.Nodup := (ht.probe.app hk).nodup
    have hKl : K.length = keys.length + 1 := by simp [K]
    have hKb : ∀ k ∈ K, ∀ z ∈ k, isByte z := fun k hk' => by
      rcases List.mem_append.1 hk' with h | h
      · exact ht.hkeys k h
      · simp at h; subst h; exact hkey
    have hhalf := ht.half
    have hPr := fun i hi => growS_probe hKn (S := 2 * slots.length) (by omega) (by omega) i hi
    have z0 : ((2 * (slots.length : Int)).toNat) = 2 * slots.length := by omega
    have e2 : List.map bytesL keys ++ [L.sl 1 false (List.map u8L key)] = K.map bytesL := by simp [K]
    rw [e2]
    refine lwp_loop (fun i : Nat => [(0, .ptr 2 0), (18, .view 1 4 0 (keys.length + 1) false), (19, intL (keys.length + 1)), (20, intL i)])
      (fun i => [some (cells3 cap ck cs keys slots), some [L.v (Value.int IntKind.i64 0), L.v (Value.slice none 0 0), L.v (Value.slice none 0 0)], some [intL cap, .view 1 4 0 (keys.length + 1) false, .view 1 5 0 (2 * slots.length) true],
        some [L.sl 1 false (List.map u8L key)], some (K.map bytesL), some ((growS K (2 * slots.length) i).map intL)]) (fun i => keys.length + 1 - i) (fun i => i ≤ keys.length + 1) 0 (by omega) ⟨[0, 1, 2, 3, 4, 5], ?_⟩ ?_
    · simp [growS, z0, zeros, renL_replicate, belowL_replicate]
    · intro i hi
      simp
      refine ⟨fun hlt => ?_, fun hge => ?_⟩
      · have hlt' : i < K.length := by omega
        refine ⟨hlt, ?_⟩
        simp [hlt']
        have hp := hPr i (by omega)
        have hKil : K[i].length ≤ 1000000000 := by
          rcases List.mem_append.1 (List.getElem_mem hlt') with h | h
          · exact ht.hlen _ h
          · simp at h; rw [h]; exact hkl
        have hti : Tidy K (growS K (2 * slots.length) i) := ⟨hKb, by rw [growS_length]; omega, by rw [growS_length]; omega, fun v hv => by have := hp.val v hv; omega, by omega⟩
        have hgd : K.getD i [] = K[i] := by simp [List.getD, hlt']
        obtain ⟨d, -, hsp, h0, -⟩ := hp.spot_new (by rw [growS_length]; omega) (key := K[i]) (fun j hj e => by
          rw [← hgd] at e
          have := getD_nodup hKn (by omega) hlt' e
          omega)
        have hslt : spot K (growS K (2 * slots.length) i) K[i] < 2 * slots.length := by
          exact Nat.lt_of_lt_of_eq (seekN_lt (slots := growS K (2 * slots.length) i) (keys := K) (key := K[i]) (growS K (2 * slots.length) i).length (home K[i] (growS K (2 * slots.length) i).length) (home_lt (by rw [growS_length]; omega) (by rw [growS_length]; omega))) growS_length
        refine bcallT_plain (seek_tidy F.F cap false true false hti K[i] (hKb _ (List.getElem_mem hlt')) hKil (.inl h0)) rfl (by simp [hKl]) ?_
        have hw : IntKind.i64.wrap ((i : Int) + 1) = i + 1 := wrap_id (by omega) (by omega)
        simp [hw]
        have hs : (List.map intL (growS K (2 * slots.length) i)).set (spot K (growS K (2 * slots.length) i) K[i]) (L.v (Value.int IntKind.i64 ((i : Int) + 1))) = (growS K (2 * slots.length) (i + 1)).map intL := by simp only [growS, hgd, List.map_set]
        rw [hs]
        refine ⟨by omega, by omega, i + 1, by simp <;> omega, by simp <;> omega, [0, 1, 2, 3, 4, 5], ?_⟩
        simp
      · have hi' : i = keys.length + 1 := by omega
        subst hi'
        have hcl : ∀ x ∈ (K.map bytesL), closed x = true := fun x hx => by
          obtain ⟨z, -, rfl⟩ := List.mem_map.1 hx
          rfl
        simp [hKl]
        have e : insSlots keys slots key = growS K (2 * slots.length) (keys.length + 1) := by
          unfold insSlots
          rw [if_pos (by omega), show max slots.length 8 = slots.length by omega]
        rw [e]
        exact .tupL (.cons (.aggL (.cons (.refl _) (.cons (.refl _) (.cons (.clip _ _) .nil)))) (.cons (.refl _) (.cons (.refl _) (.cons (.refl _) .nil))))
  · have hne : ¬ slots = [] := by intro e; simp [e] at hS8
    obtain ⟨hst, h0⟩ := ht.spot_stops key
    have hlt : spot keys slots key < slots.length := seekN_lt _ _ (home_lt ht.tidy.hS ht.tidy.hS2)
    refine callAt_enter F.iri (by simp [irClone]) ?_
    simp [irClone, hne]
    refine ⟨by omega, ?_⟩
    refine bcallT_plain (seek_tidy F.F cap ck cs ckey ht.tidy key hkey hkl hst) rfl rfl ?_
    have hset : (slots.map intL).set (spot keys slots key) (.v (.int .i64 (keys.length + 1))) = (slots.set (spot keys slots key) (keys.length + 1)).map intL := by rw [List.map_set]
    have hno' : ¬ 2 * (keys.length + 1) > max slots.length 8 := by omega
    have hcl : ∀ x ∈ (slots.map intL).set (spot keys slots key) (.v (.int .i64 (keys.length + 1))), closed x = true := fun x hx => by
      rw [hset] at hx
      obtain ⟨z, -, rfl⟩ := List.mem_map.1 hx
      rfl
    simp [hn1, hlt]
    rw [if_pos hcl]
    simp
    refine ⟨by omega, ?_⟩
    have e : insSlots keys slots key = slots.set (spot keys slots key) (keys.length + 1) := by unfold insSlots; rw [if_neg hno']
    rw [hset, e]
    have e2 : List.map bytesL keys ++ [L.sl 1 false (List.map u8L key)] = (keys ++ [key]).map bytesL := by simp
    rw [e2]
    exact .refl _

end Lg
