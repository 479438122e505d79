/- The functions of blur: insert, set, get, how many bits are 1, a new one. -/
import Derived.Test.YtejjmfladieipaaBlurFn
namespace Go.Proofs.Ytejjmfladieipaa
open Go Lg

theorem St.put_old (s : St) (row : Nat) (ps : List Int) (h : allIn (s.row row) ps = true) : s.put row ps = s := by
  have hp := allIn_iff.1 h
  match row with
  | 0 => simp only [St.put, St.row] at *; rw [withP_old hp]
  | 1 => simp only [St.put, St.row] at *; rw [withP_old hp]
  | n + 2 => simp only [St.put, St.row] at *; rw [withP_old hp]

theorem insert_any (s : St) (hs : s.ok) (key : List Int) (ck : Bool) (hkl : key.length ≤ 1000000000) :
    PC Try.prog 11 [s.L, .sl 1 ck (key.map u8L)] (.tup [(s.put 0 (s.pl key)).L, boolL (!allIn s.a (s.pl key))]) := by
  refine pc_of_call (callAt_enter ir11 (by simp) ?_)
  have h1 := set_any s hs key ck hkl 0 (by omega)
  have hold := s.put_old 0 (s.pl key)
  generalize hs' : s.put 0 (s.pl key) = s' at h1 hold
  have hm := member_any s hs key ck hkl
  simp only [St.L] at h1 hm ⊢
  simp
  refine callT_plain hm rfl rfl ?_
  cases hA : allIn s.a (s.pl key)
  · simp
    refine callT_closed h1 rfl ?_
    simp
  · rw [hold hA]
    simp

theorem why_any (s : St) (hs : s.ok) (key : List Int) (ck : Bool) (hkl : key.length ≤ 1000000000) (flag : Int) :
    PC Try.prog 23 [s.L, .sl 1 ck (key.map u8L), intL flag] (intL (if flag < 0 ∨ 1 < flag then 1 else if allIn s.a (s.pl key) = true then 0 else 10)) := by
  refine pc_of_call (callAt_enter ir23 (by simp) ?_)
  have hm := member_any s hs key ck hkl
  simp only [St.L] at hm ⊢
  by_cases h0 : flag < 0
  · simp [h0]
  · by_cases h1 : 1 < flag
    · simp [h0, h1]
    · simp [h0, h1]
      refine callT_plain hm rfl rfl ?_
      cases hA : allIn s.a (s.pl key) <;> simp

theorem setF_any (s : St) (hs : s.ok) (key : List Int) (ck : Bool) (hkl : key.length ≤ 1000000000) (flag : Int) :
    PC Try.prog 13 [s.L, .sl 1 ck (key.map u8L), intL flag] (.tup [(if flag < 0 ∨ 1 < flag then s else if allIn s.a (s.pl key) = true then s.put (flag.toNat + 1) (s.pl key) else s).L, intL (if flag < 0 ∨ 1 < flag then 1 else if allIn s.a (s.pl key) = true then 0 else 10)]) := by
  refine pc_of_call (callAt_enter ir13 (by simp) ?_)
  have hw := why_any s hs key ck hkl flag
  by_cases hf : flag < 0 ∨ 1 < flag
  · simp only [hf, if_true] at hw ⊢
    simp only [St.L] at hw ⊢
    simp
    refine callT_plain hw rfl rfl ?_
    simp
  · simp only [hf, if_false] at hw ⊢
    cases hA : allIn s.a (s.pl key)
    · rw [hA] at hw
      simp only [Bool.false_eq_true, if_false] at hw ⊢
      simp only [St.L] at hw ⊢
      simp
      refine callT_plain hw rfl rfl ?_
      simp
    · rw [hA] at hw
      simp only [if_true] at hw ⊢
      have h1 := set_any s hs key ck hkl (flag.toNat + 1) (by omega)
      generalize s.put (flag.toNat + 1) (s.pl key) = s' at h1 ⊢
      have e : (((flag.toNat + 1 : Nat)) : Int) = flag + 1 := by omega
      rw [e] at h1
      have ew : IntKind.i64.wrap (1 + flag) = flag + 1 := by rw [wrap_id (by omega) (by omega)]; omega
      simp only [St.L] at hw h1 ⊢
      simp
      refine callT_plain hw rfl rfl ?_
      simp [ew]
      refine callT_closed h1 rfl ?_
      simp

theorem getF_any (s : St) (hs : s.ok) (key : List Int) (ck : Bool) (hkl : key.length ≤ 1000000000) (flag : Int) :
    PC Try.prog 15 [s.L, .sl 1 ck (key.map u8L), intL flag] (.tup [boolL (if flag < 0 ∨ 1 < flag then false else if allIn s.a (s.pl key) = true then allIn (s.row (flag.toNat + 1)) (s.pl key) else false), intL (if flag < 0 ∨ 1 < flag then 1 else if allIn s.a (s.pl key) = true then 0 else 10)]) := by
  refine pc_of_call (callAt_enter ir15 (by simp) ?_)
  have hw := why_any s hs key ck hkl flag
  by_cases hf : flag < 0 ∨ 1 < flag
  · simp only [hf, if_true] at hw ⊢
    simp only [St.L] at hw ⊢
    simp
    refine callT_plain hw rfl rfl ?_
    simp
  · simp only [hf, if_false] at hw ⊢
    cases hA : allIn s.a (s.pl key)
    · rw [hA] at hw
      simp only [Bool.false_eq_true, if_false] at hw ⊢
      simp only [St.L] at hw ⊢
      simp
      refine callT_plain hw rfl rfl ?_
      simp
    · rw [hA] at hw
      simp only [if_true] at hw ⊢
      have h1 := all_any s hs key ck hkl (flag.toNat + 1) (by omega)
      generalize allIn (s.row (flag.toNat + 1)) (s.pl key) = r at h1 ⊢
      have e : (((flag.toNat + 1 : Nat)) : Int) = flag + 1 := by omega
      rw [e] at h1
      have ew : IntKind.i64.wrap (1 + flag) = flag + 1 := by rw [wrap_id (by omega) (by omega)]; omega
      simp only [St.L] at hw h1 ⊢
      simp
      refine callT_plain hw rfl rfl ?_
      simp [ew]
      refine callT_plain h1 rfl rfl ?_
      simp

theorem new_any (m k : Nat) (seed : Int) (h : St.ok ⟨m, k, seed, [], [], []⟩) : PC Try.prog 9 [intL m, intL k, u64L seed] (.tup [St.L ⟨m, k, seed, [], [], []⟩, intL 0]) := by
  have ⟨h1, h2, h3, h4⟩ := h
  refine pc_of_call' (callAt_enter ir9 (by simp) ?_)
  simp at h1 h2 h3 h4
  have n1 : ¬ (m : Int) < 1 := by omega
  have n2 : ¬ (4194304 : Int) < m := by omega
  have n3 : ¬ (k : Int) < 1 := by omega
  have n4 : ¬ (16 : Int) < k := by omega
  simp [n1, n2, n3, n4, St.L]
  have hw : St.w ⟨m, k, seed, [], [], []⟩ = (m + 7) / 8 := rfl
  generalize hwg : (m + 7) / 8 = w at hw
  have hq : IntKind.i64.wrap ((IntKind.i64.wrap ((m : Int) + 7)).tdiv 8) = (w : Int) := by
    have e : IntKind.i64.wrap ((m : Int) + 7) = (m : Int) + 7 := wrap_id (by omega) (by omega)
    rw [e, Int.tdiv_eq_ediv_of_nonneg (by omega), wrap_id (by omega) (by omega)]
    omega
  have hz : List.map u8L (rowB w []) = List.replicate w (.v (.int .u8 0)) := by rw [rowB_nil, List.map_replicate]
  have hw9 : ¬ (w : Int) < 0 := by omega
  have hw10 : w ≤ 1000000 := by omega
  refine lwp_loop (fun i : Nat => [(0, intL m), (6, .ptr 0 0), (8, .ptr 1 0), (29, intL i)])
    (fun i => [some [.v (.int .i64 0), .v (.int .i64 0), .v (.int .u64 0), .v (.slice none 0 0), .v (.slice none 0 0), .v (.slice none 0 0)],
      some [intL m, intL k, u64L seed, if 0 < i then .view 1 2 0 w true else .v (.slice none 0 0), if 1 < i then .view 1 3 0 w true else .v (.slice none 0 0), if 2 < i then .view 1 4 0 w true else .v (.slice none 0 0)]] ++ List.replicate i (some ((rowB w []).map u8L)))
    (fun i => 3 - i) (fun i => i ≤ 3) 0 (by omega) ⟨[0, 1], ?_⟩ ?_
  · simp
  · intro i hi
    have hc : i = 0 ∨ i = 1 ∨ i = 2 ∨ i = 3 := by omega
    rcases hc with rfl | rfl | rfl | rfl
    · simp [hq]
      refine ⟨by omega, 1, by omega, by simp <;> omega, [0, 1, 2], ?_⟩
      simp [hz, zeros, renL_replicate, belowL_replicate]
      decide
    · simp [hq]
      refine ⟨by omega, 2, by omega, by simp <;> omega, [0, 1, 2, 3], ?_⟩
      simp [hz, zeros, renL_replicate, belowL_replicate]
      decide
    · simp [hq]
      refine ⟨by omega, 3, by omega, by simp <;> omega, [0, 1, 2, 3, 4], ?_⟩
      simp [hz, zeros, renL_replicate, belowL_replicate, List.replicate]
      decide
    · simp [List.replicate, hw]
      exact .tupL (.cons (.aggL (.cons (.refl _) (.cons (.refl _) (.cons (.refl _) (.cons (.clip _ _) (.cons (.clip _ _) (.cons (.clip _ _) .nil))))))) (.cons (.refl _) .nil))

theorem ones_any (s : St) (hs : s.ok) (hn : s.a.Nodup) (hb : ∀ p ∈ s.a, 0 ≤ p ∧ p < s.m) : PC Try.prog 19 [s.L] (intL s.a.length) := by
  refine pc_of_call (callAt_enter ir19 (by simp) ?_)
  have ⟨h1, h2, h3, h4⟩ := hs
  simp [St.L]
  have hw0 : s.w ≤ 600000 := by simp only [St.w]; omega
  refine lwp_loop (fun i : Nat => [(8, .sl 1 false ((rowB s.w s.a).map u8L)), (9, intL s.w), (10, intL i), (3, intL (cnt s.a (8 * i)))]) (fun i => []) (fun i => s.w - i) (fun i => i ≤ s.w) 0 (by omega) ⟨[], ?_⟩ ?_
  · simp [cnt]
  · intro i hi
    simp
    refine ⟨fun hlt => ?_, fun hge => ?_⟩
    · have hget := rowB_get (w := s.w) (on := s.a) (j := i) (by simpa using hlt)
      simp [hlt, hget]
      have hcl := cnt_le (on := s.a) (n := 8 * i)
      have hcb := cnt_byte (on := s.a) (j := i)
      have hcl1 := cnt_le (on := s.a) (n := 8 * (i + 1))
      have hbl := byteN_lt (bt s.a i)
      refine lwp_loop (fun x : Nat => [(8, .sl 1 false ((rowB s.w s.a).map u8L)), (9, intL s.w), (10, intL i), (3, intL ((cnt s.a (8 * (i + 1)) - popN x : Nat) : Int)), (5, .v (.int .u8 x))]) (fun _ => []) (fun x => x) (fun x => x < 256 ∧ popN x ≤ popN (byteN (bt s.a i))) (byteN (bt s.a i)) ⟨hbl, by omega⟩ ⟨[], ?_⟩ ?_
      · simp
        omega
      · rintro x ⟨hx, hpx⟩
        simp
        refine ⟨fun hpos => ?_, fun hz => ?_⟩
        · obtain ⟨m, e1, e2, e3⟩ := pop_all ⟨x, hx⟩ (by simpa using hpos)
          simp only at e1 e2 e3
          have hw8 : IntKind.u8.wrap ((x : Int) - 1) = (x : Int) - 1 := by simp [IntKind.wrap, IntKind.signed, IntKind.bits]; omega
          simp [hw8, e1]
          refine ⟨m.val, ⟨m.isLt, by omega⟩, e3, [], ?_⟩
          simp
          rw [wrap_id (by omega) (by omega)]
          omega
        · subst hz
          refine ⟨i + 1, by simp <;> omega, by simp <;> omega, [], ?_⟩
          simp [popN]
          exact wrap_id (by omega) (by omega)
    · have hiw : i = s.w := by omega
      have he : cnt s.a (8 * i) = s.a.length := cnt_all hn fun p hp => by
        obtain ⟨q1, q2⟩ := hb p hp
        refine ⟨q1, ?_⟩
        rw [hiw, St.w]
        omega
      simp [he]

end Go.Proofs.Ytejjmfladieipaa
