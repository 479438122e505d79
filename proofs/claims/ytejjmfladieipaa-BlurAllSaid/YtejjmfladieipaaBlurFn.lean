/- The functions of blur. -/
import Derived.Test.YtejjmfladieipaaBlurMix
namespace Go.Proofs.Ytejjmfladieipaa
open Go Lg

/-- A store: sizes, seed, and three sets of places. -/
structure St where
  m : Nat
  k : Nat
  seed : Int
  a : List Int
  b : List Int
  c : List Int

def St.w (s : St) : Nat := (s.m + 7) / 8
def St.L (s : St) : L := .agg [intL s.m, intL s.k, u64L s.seed, .sl 1 false ((rowB s.w s.a).map u8L), .sl 1 false ((rowB s.w s.b).map u8L), .sl 1 false ((rowB s.w s.c).map u8L)]
structure St.ok (s : St) : Prop where
  m1 : 1 ≤ s.m
  m2 : s.m ≤ 4194304
  k1 : 1 ≤ s.k
  k2 : s.k ≤ 16
def St.row (s : St) : Nat → List Int
  | 0 => s.a
  | 1 => s.b
  | _ => s.c
def St.pl (s : St) (key : List Int) : List Int := places key s.seed s.k s.m

theorem all_any (s : St) (hs : s.ok) (key : List Int) (ck : Bool) (hkl : key.length ≤ 1000000000) (row : Nat) (hr : row < 3) :
    PC Try.prog 24 [s.L, .sl 1 ck (key.map u8L), intL row] (boolL (allIn (s.row row) (s.pl key))) := by
  have ⟨hm1, hm2, hk1, hk2⟩ := hs
  have hpr := places_range key s.seed s.k (n := s.m) (by omega) (by omega)
  have hlen : (places key s.seed s.k s.m).length = s.k := places_len _ _ _ _
  have hw : ∀ p : Nat, (p : Int) < s.m → p / 8 < s.w := fun p hp => by simp only [St.w]; omega
  have hc3 : row = 0 ∨ row = 1 ∨ row = 2 := by omega
  refine pc_of_call (callAt_enter ir24 (by simp) ?_)
  simp [St.L]
  refine callAt_enter ir29 (by simp) ?_
  simp
  refine callT_closed (places_any ck key hkl s.seed s.k s.m (by omega) (by omega)) rfl ?_
  simp
  generalize hps : places key s.seed s.k s.m = ps at hpr hlen
  refine lwp_loop (fun i : Nat => [(17, .sl 1 false (ps.map intL)), (18, intL s.k), (19, intL i), (4, .ptr 2 0), (2, intL row), (3, .fn (.func 32) [] [.ptr 1 0])])
    (fun i => [some s.L.cells, some [boolL (allIn (s.row row) (ps.take i))], some s.L.cells]) (fun i => s.k - i) (fun i => i ≤ s.k) 0 (by omega) ⟨[0, 1, 2], ?_⟩ ?_
  · simp [St.L, L.cells, allIn_nil]
  · intro i hi
    simp [St.L, L.cells]
    refine ⟨fun hlt => ?_, fun hge => ?_⟩
    · have hil : i < ps.length := by omega
      obtain ⟨h0, h1⟩ := hpr _ (List.getElem_mem hil)
      obtain ⟨q, hq⟩ : ∃ q : Nat, ps[i] = (q : Int) := ⟨ps[i].toNat, by omega⟩
      have hqw := hw q (by omega)
      obtain ⟨j, hj⟩ : ∃ j : Nat, j = q / 8 := ⟨_, rfl⟩
      obtain ⟨b, hb⟩ : ∃ b : Nat, b = q % 8 := ⟨_, rfl⟩
      have hjw : j < s.w := by omega
      have hd : IntKind.i64.wrap ((q : Int) / 8) = (j : Int) := by rw [wrap_id (by omega) (by omega)]; omega
      have hm : (q : Int).tmod 8 = (b : Int) := by rw [Int.tmod_eq_emod_of_nonneg (by omega)]; omega
      have hb0 : ¬ (b : Int) < 0 := by omega
      have hsucc := allIn_take (on := s.row row) hil
      rw [hq] at hsucc
      simp [hil]
      have htest := rowB_test' (w := s.w) (on := s.row row) hj hb (by simpa using hjw)
      cases hA : allIn (s.row row) (ps.take i)
      all_goals
        rw [hA] at hsucc
        rcases hc3 with rfl | rfl | rfl
        all_goals
          simp only [St.row] at htest hsucc hA ⊢
          simp [hq, hd, hm, hb0, hjw]
          refine callAt_enter ir32 (by simp) ?_
          simp [hA]
          refine ⟨i + 1, by omega, by simp <;> omega, [0, 1, 2], ?_⟩
          simp [hsucc, htest]
          exact wrap_id (by omega) (by omega)
    · have hik : i = ps.length := by omega
      simp [hik, St.pl, hps]

def St.put (s : St) (row : Nat) (ps : List Int) : St :=
  match row with
  | 0 => { s with a := withP s.a ps }
  | 1 => { s with b := withP s.b ps }
  | _ => { s with c := withP s.c ps }

theorem member_any (s : St) (hs : s.ok) (key : List Int) (ck : Bool) (hkl : key.length ≤ 1000000000) :
    PC Try.prog 17 [s.L, .sl 1 ck (key.map u8L)] (boolL (allIn s.a (s.pl key))) := by
  refine pc_of_call (callAt_enter ir17 (by simp) ?_)
  simp [St.L]
  refine callT_closed (all_any s hs key ck hkl 0 (by omega)) rfl ?_
  simp [St.row]

theorem set_any (s : St) (hs : s.ok) (key : List Int) (ck : Bool) (hkl : key.length ≤ 1000000000) (row : Nat) (hr : row < 3) :
    PC Try.prog 21 [s.L, .sl 1 ck (key.map u8L), intL row] (s.put row (s.pl key)).L := by
  have ⟨hm1, hm2, hk1, hk2⟩ := hs
  have hpr := places_range key s.seed s.k (n := s.m) (by omega) (by omega)
  have hlen : (places key s.seed s.k s.m).length = s.k := places_len _ _ _ _
  have hw : ∀ p : Nat, (p : Int) < s.m → p / 8 < s.w := fun p hp => by simp only [St.w]; omega
  have hw0 : 0 < s.w ∧ s.w ≤ 600000 := by simp only [St.w]; omega
  have hc3 : row = 0 ∨ row = 1 ∨ row = 2 := by omega
  have hne : ∀ on, ¬ rowB s.w on = [] := fun on e => by have := congrArg List.length e; simp at this; omega
  rcases hc3 with rfl | rfl | rfl
  · refine pc_of_call' (callAt_enter ir21 (by simp) ?_)
    simp [St.L]
    refine callAt_enter ir28 (by simp) ?_
    simp [hne]
    refine ⟨by omega, callAt_enter ir29 (by simp) ?_⟩
    simp
    refine callT_closed (places_any ck key hkl s.seed s.k s.m (by omega) (by omega)) rfl ?_
    simp
    generalize hps : places key s.seed s.k s.m = ps at hpr hlen
    refine lwp_loop (fun i : Nat => [(17, .sl 1 false (ps.map intL)), (18, intL s.k), (19, intL i), (4, .ptr 4 0), (2, intL 0), (3, .fn (.func 30) [] [])])
      (fun i => [some [intL s.m, intL s.k, u64L s.seed, .view 1 3 0 s.w false, .sl 1 false ((rowB s.w s.b).map u8L), .sl 1 false ((rowB s.w s.c).map u8L)], some [.v (.int .i64 0), .v (.int .i64 0), .v (.int .u64 0), .v (.slice none 0 0), .v (.slice none 0 0), .v (.slice none 0 0)], none,
        some ((rowB s.w (s.a ++ ps.take i)).map u8L), some [intL s.m, intL s.k, u64L s.seed, .view 1 3 0 s.w false, .sl 1 false ((rowB s.w s.b).map u8L), .sl 1 false ((rowB s.w s.c).map u8L)]]) (fun i => s.k - i) (fun i => i ≤ s.k) 0 (by omega) ⟨[0, 1, 2, 3, 4], ?_⟩ ?_
    · simp
    · intro i hi
      simp
      refine ⟨fun hlt => ?_, fun hge => ?_⟩
      · have hil : i < ps.length := by omega
        obtain ⟨h0, h1⟩ := hpr _ (List.getElem_mem hil)
        obtain ⟨q, hq⟩ : ∃ q : Nat, ps[i] = (q : Int) := ⟨ps[i].toNat, by omega⟩
        have hqw := hw q (by omega)
        obtain ⟨j, hj⟩ : ∃ j : Nat, j = q / 8 := ⟨_, rfl⟩
        obtain ⟨b, hb⟩ : ∃ b : Nat, b = q % 8 := ⟨_, rfl⟩
        have hjw : j < s.w := by omega
        have hd : IntKind.i64.wrap ((q : Int) / 8) = (j : Int) := by rw [wrap_id (by omega) (by omega)]; omega
        have hm : (q : Int).tmod 8 = (b : Int) := by rw [Int.tmod_eq_emod_of_nonneg (by omega)]; omega
        have hb0 : ¬ (b : Int) < 0 := by omega
        have hidx : j < (rowB s.w (s.a ++ ps.take i)).length := by simpa using hjw
        have hset := rowB_set' (w := s.w) (on := s.a ++ ps.take i) hj hb hidx
        rw [List.append_assoc, ← hq, ← List.take_succ_eq_append_getElem hil] at hset
        have hset' : ((rowB s.w (s.a ++ ps.take i)).map u8L).set j (.v (.int .u8 (bitsI .or .u8 (rowB s.w (s.a ++ ps.take i))[j] (shlI .u8 1 (b : Int))))) = (rowB s.w (s.a ++ ps.take (i + 1))).map u8L := by rw [← hset, List.map_set]
        simp [hil]
        simp [hq, hd, hm, hb0, hjw]
        refine callAt_enter ir30 (by simp) ?_
        simp [hjw]
        rw [hset']
        refine ⟨by omega, i + 1, by omega, by simp <;> omega, [0, 1, 2, 3, 4], ?_⟩
        simp
        exact wrap_id (by omega) (by omega)
      · have hik : i = ps.length := by omega
        have he : rowB s.w (s.a ++ ps.take i) = rowB s.w (withP s.a (s.pl key)) := rowB_congr fun p => by
          rw [withP_mem, hik, List.take_length, St.pl, hps]; simp
        simp [he]
        exact .refl _
  · refine pc_of_call' (callAt_enter ir21 (by simp) ?_)
    simp [St.L]
    refine callAt_enter ir28 (by simp) ?_
    simp [hne]
    refine ⟨by omega, callAt_enter ir29 (by simp) ?_⟩
    simp
    refine callT_closed (places_any ck key hkl s.seed s.k s.m (by omega) (by omega)) rfl ?_
    simp
    generalize hps : places key s.seed s.k s.m = ps at hpr hlen
    refine lwp_loop (fun i : Nat => [(17, .sl 1 false (ps.map intL)), (18, intL s.k), (19, intL i), (4, .ptr 4 0), (2, intL 1), (3, .fn (.func 30) [] [])])
      (fun i => [some [intL s.m, intL s.k, u64L s.seed, .sl 1 false ((rowB s.w s.a).map u8L), .view 1 3 0 s.w false, .sl 1 false ((rowB s.w s.c).map u8L)], some [.v (.int .i64 0), .v (.int .i64 0), .v (.int .u64 0), .v (.slice none 0 0), .v (.slice none 0 0), .v (.slice none 0 0)], none,
        some ((rowB s.w (s.b ++ ps.take i)).map u8L), some [intL s.m, intL s.k, u64L s.seed, .sl 1 false ((rowB s.w s.a).map u8L), .view 1 3 0 s.w false, .sl 1 false ((rowB s.w s.c).map u8L)]]) (fun i => s.k - i) (fun i => i ≤ s.k) 0 (by omega) ⟨[0, 1, 2, 3, 4], ?_⟩ ?_
    · simp
    · intro i hi
      simp
      refine ⟨fun hlt => ?_, fun hge => ?_⟩
      · have hil : i < ps.length := by omega
        obtain ⟨h0, h1⟩ := hpr _ (List.getElem_mem hil)
        obtain ⟨q, hq⟩ : ∃ q : Nat, ps[i] = (q : Int) := ⟨ps[i].toNat, by omega⟩
        have hqw := hw q (by omega)
        obtain ⟨j, hj⟩ : ∃ j : Nat, j = q / 8 := ⟨_, rfl⟩
        obtain ⟨b, hb⟩ : ∃ b : Nat, b = q % 8 := ⟨_, rfl⟩
        have hjw : j < s.w := by omega
        have hd : IntKind.i64.wrap ((q : Int) / 8) = (j : Int) := by rw [wrap_id (by omega) (by omega)]; omega
        have hm : (q : Int).tmod 8 = (b : Int) := by rw [Int.tmod_eq_emod_of_nonneg (by omega)]; omega
        have hb0 : ¬ (b : Int) < 0 := by omega
        have hidx : j < (rowB s.w (s.b ++ ps.take i)).length := by simpa using hjw
        have hset := rowB_set' (w := s.w) (on := s.b ++ ps.take i) hj hb hidx
        rw [List.append_assoc, ← hq, ← List.take_succ_eq_append_getElem hil] at hset
        have hset' : ((rowB s.w (s.b ++ ps.take i)).map u8L).set j (.v (.int .u8 (bitsI .or .u8 (rowB s.w (s.b ++ ps.take i))[j] (shlI .u8 1 (b : Int))))) = (rowB s.w (s.b ++ ps.take (i + 1))).map u8L := by rw [← hset, List.map_set]
        simp [hil]
        simp [hq, hd, hm, hb0, hjw]
        refine callAt_enter ir30 (by simp) ?_
        simp [hjw]
        rw [hset']
        refine ⟨by omega, i + 1, by omega, by simp <;> omega, [0, 1, 2, 3, 4], ?_⟩
        simp
        exact wrap_id (by omega) (by omega)
      · have hik : i = ps.length := by omega
        have he : rowB s.w (s.b ++ ps.take i) = rowB s.w (withP s.b (s.pl key)) := rowB_congr fun p => by
          rw [withP_mem, hik, List.take_length, St.pl, hps]; simp
        simp [he]
        exact .refl _
  · refine pc_of_call' (callAt_enter ir21 (by simp) ?_)
    simp [St.L]
    refine callAt_enter ir28 (by simp) ?_
    simp [hne]
    refine ⟨by omega, callAt_enter ir29 (by simp) ?_⟩
    simp
    refine callT_closed (places_any ck key hkl s.seed s.k s.m (by omega) (by omega)) rfl ?_
    simp
    generalize hps : places key s.seed s.k s.m = ps at hpr hlen
    refine lwp_loop (fun i : Nat => [(17, .sl 1 false (ps.map intL)), (18, intL s.k), (19, intL i), (4, .ptr 4 0), (2, intL 2), (3, .fn (.func 30) [] [])])
      (fun i => [some [intL s.m, intL s.k, u64L s.seed, .sl 1 false ((rowB s.w s.a).map u8L), .sl 1 false ((rowB s.w s.b).map u8L), .view 1 3 0 s.w false], some [.v (.int .i64 0), .v (.int .i64 0), .v (.int .u64 0), .v (.slice none 0 0), .v (.slice none 0 0), .v (.slice none 0 0)], none,
        some ((rowB s.w (s.c ++ ps.take i)).map u8L), some [intL s.m, intL s.k, u64L s.seed, .sl 1 false ((rowB s.w s.a).map u8L), .sl 1 false ((rowB s.w s.b).map u8L), .view 1 3 0 s.w false]]) (fun i => s.k - i) (fun i => i ≤ s.k) 0 (by omega) ⟨[0, 1, 2, 3, 4], ?_⟩ ?_
    · simp
    · intro i hi
      simp
      refine ⟨fun hlt => ?_, fun hge => ?_⟩
      · have hil : i < ps.length := by omega
        obtain ⟨h0, h1⟩ := hpr _ (List.getElem_mem hil)
        obtain ⟨q, hq⟩ : ∃ q : Nat, ps[i] = (q : Int) := ⟨ps[i].toNat, by omega⟩
        have hqw := hw q (by omega)
        obtain ⟨j, hj⟩ : ∃ j : Nat, j = q / 8 := ⟨_, rfl⟩
        obtain ⟨b, hb⟩ : ∃ b : Nat, b = q % 8 := ⟨_, rfl⟩
        have hjw : j < s.w := by omega
        have hd : IntKind.i64.wrap ((q : Int) / 8) = (j : Int) := by rw [wrap_id (by omega) (by omega)]; omega
        have hm : (q : Int).tmod 8 = (b : Int) := by rw [Int.tmod_eq_emod_of_nonneg (by omega)]; omega
        have hb0 : ¬ (b : Int) < 0 := by omega
        have hidx : j < (rowB s.w (s.c ++ ps.take i)).length := by simpa using hjw
        have hset := rowB_set' (w := s.w) (on := s.c ++ ps.take i) hj hb hidx
        rw [List.append_assoc, ← hq, ← List.take_succ_eq_append_getElem hil] at hset
        have hset' : ((rowB s.w (s.c ++ ps.take i)).map u8L).set j (.v (.int .u8 (bitsI .or .u8 (rowB s.w (s.c ++ ps.take i))[j] (shlI .u8 1 (b : Int))))) = (rowB s.w (s.c ++ ps.take (i + 1))).map u8L := by rw [← hset, List.map_set]
        simp [hil]
        simp [hq, hd, hm, hb0, hjw]
        refine callAt_enter ir30 (by simp) ?_
        simp [hjw]
        rw [hset']
        refine ⟨by omega, i + 1, by omega, by simp <;> omega, [0, 1, 2, 3, 4], ?_⟩
        simp
        exact wrap_id (by omega) (by omega)
      · have hik : i = ps.length := by omega
        have he : rowB s.w (s.c ++ ps.take i) = rowB s.w (withP s.c (s.pl key)) := rowB_congr fun p => by
          rw [withP_mem, hik, List.take_length, St.pl, hps]; simp
        simp [he]
        exact .refl _

end Go.Proofs.Ytejjmfladieipaa
