/- The document's answer for blur. -/
import Derived.Test.YtejjmfladieipaaBlurActs
namespace Go.Proofs.Ytejjmfladieipaa
open Go Lg

def St.R (s : St) : Lg.L := .agg [intL s.m, intL s.k, u64L s.seed, .sl 1 false (s.a.map intL), .sl 1 false (s.b.map intL), .sl 1 false (s.c.map intL)]

theorem in_any (c : Bool) (on : List Int) (p : Int) (hl : on.length ≤ 1000000000) : PC Try.prog 31 [.sl 1 c (on.map intL), intL p] (boolL (decide (p ∈ on))) := by
  refine pc_of_call (callAt_enter ir31 (by simp) ?_)
  simp
  refine lwp_loop (fun i : Nat => [(0, .sl 1 c (on.map intL)), (1, intL p), (5, intL i)]) (fun _ => []) (fun i => on.length - i) (fun i => i ≤ on.length ∧ p ∉ on.take i) 0 (by simp) ⟨[], ?_⟩ ?_
  · simp
  · rintro i ⟨hi, hn⟩
    simp
    refine ⟨fun hlt => ?_, fun hge => ?_⟩
    · simp [hlt]
      refine ⟨fun heq => ?_, fun hne => ?_⟩
      · rw [← heq]; exact List.getElem_mem hlt
      · refine ⟨i + 1, ⟨by omega, fun h => ?_⟩, by simp <;> omega, [], ?_⟩
        · rw [List.take_succ_eq_append_getElem hlt] at h
          rcases List.mem_append.1 h with h | h
          · exact hn h
          · simp at h; exact hne h.symm
        · simp
          exact wrap_id (by omega) (by omega)
    · have : i = on.length := by omega
      rw [this, List.take_length] at hn
      simp [hn]

theorem allR_any (c c' : Bool) (on ps : List Int) (hl : on.length ≤ 1000000000) (hp : ps.length ≤ 1000000000) : PC Try.prog 25 [.sl 1 c (on.map intL), .sl 1 c' (ps.map intL)] (boolL (allIn on ps)) := by
  refine pc_of_call (callAt_enter ir25 (by simp) ?_)
  simp
  refine lwp_loop (fun i : Nat => [(0, .sl 1 c (on.map intL)), (1, .sl 1 c' (ps.map intL)), (5, intL i)]) (fun _ => []) (fun i => ps.length - i) (fun i => i ≤ ps.length ∧ allIn on (ps.take i) = true) 0 ⟨by simp, rfl⟩ ⟨[], ?_⟩ ?_
  · simp
  · rintro i ⟨hi, hn⟩
    simp
    refine ⟨fun hlt => ?_, fun hge => ?_⟩
    · simp [hlt]
      refine callT_plain (in_any c on ps[i] hl) rfl rfl ?_
      have hs := allIn_take (on := on) hlt
      rw [hn] at hs
      by_cases hm : ps[i] ∈ on
      · simp [hm] at hs ⊢
        refine ⟨i + 1, ⟨by omega, hs⟩, by simp <;> omega, [], ?_⟩
        simp
        exact wrap_id (by omega) (by omega)
      · simp [hm]
        rw [← Bool.not_eq_true, allIn_iff]
        exact fun h => hm (h _ (List.getElem_mem hlt))
    · have : i = ps.length := by omega
      rw [this, List.take_length] at hn
      simp [hn]

theorem with_any (c c' : Bool) (on ps : List Int) (hl : on.length ≤ 1000000) (hp : ps.length ≤ 1000000) : PC Try.prog 22 [.sl 1 c (on.map intL), .sl 1 c' (ps.map intL)] (.sl 1 false ((withP on ps).map intL)) := by
  refine pc_of_call' (callAt_enter ir22 (by simp) ?_)
  simp
  refine ⟨by omega, ?_⟩
  refine lwp_loop (fun i : Nat => [(1, .sl 1 c' (ps.map intL)), (5, .view 1 0 0 (withP on (ps.take i)).length false), (6, intL i)]) (fun i => [some ((withP on (ps.take i)).map intL)]) (fun i => ps.length - i) (fun i => i ≤ ps.length) 0 (by simp) ⟨[1], ?_⟩ ?_
  · simp [withP_nil]
  · intro i hi
    have hwl := (withP_len (on := on) (ps := ps.take i)).2
    simp at hwl
    simp
    refine ⟨fun hlt => ?_, fun hge => ?_⟩
    · simp [hlt]
      refine callT_plain (in_any false (withP on (ps.take i)) ps[i] (by omega)) rfl (by simp) ?_
      have hs := withP_take (on := on) hlt
      by_cases hm : ps[i] ∈ withP on (ps.take i)
      · rw [if_pos hm] at hs
        simp [hm]
        refine ⟨i + 1, by omega, by simp <;> omega, [0], ?_⟩
        simp [hs]
        exact wrap_id (by omega) (by omega)
      · rw [if_neg hm] at hs
        simp [hm, hlt]
        refine ⟨by omega, i + 1, by omega, by simp <;> omega, [2], ?_⟩
        simp [hs]
        exact wrap_id (by omega) (by omega)
    · have : i = ps.length := by omega
      simp [this]
      exact .refl _

theorem memR_any (s : St) (hs : s.ok) (key : List Int) (ck : Bool) (hkl : key.length ≤ 1000000000) (hl : s.a.length ≤ 1000000) :
    PC Try.prog 18 [s.R, .sl 1 ck (key.map u8L)] (boolL (allIn s.a (s.pl key))) := by
  have ⟨hm1, hm2, hk1, hk2⟩ := hs
  have hp := ref_any ck key hkl s.seed s.k s.m (by omega) (by omega)
  have hpl := pl_len s key
  refine pc_of_call (callAt_enter ir18 (by simp) ?_)
  simp [St.R]
  refine bcallT_closed hp rfl ?_
  simp
  have ha := allR_any false false s.a (s.pl key) (by omega) (by omega)
  refine callT_plain ha rfl rfl ?_
  simp

theorem insR_any (s : St) (hs : s.ok) (key : List Int) (ck : Bool) (hkl : key.length ≤ 1000000000) (hl : s.a.length ≤ 1000000) :
    PC Try.prog 12 [s.R, .sl 1 ck (key.map u8L)] (.tup [(s.put 0 (s.pl key)).R, boolL (!allIn s.a (s.pl key))]) := by
  have ⟨hm1, hm2, hk1, hk2⟩ := hs
  have hp := ref_any ck key hkl s.seed s.k s.m (by omega) (by omega)
  have hpl := pl_len s key
  have hm := memR_any s hs key ck hkl hl
  have hw := with_any false false s.a (s.pl key) (by omega) (by omega)
  refine pc_of_call (callAt_enter ir12 (by simp) ?_)
  simp only [St.R] at hm ⊢
  simp
  refine callT_plain hm rfl rfl ?_
  simp
  refine bcallT_closed hp rfl ?_
  simp
  refine bcallT_closed hw rfl ?_
  simp
  exact ⟨rfl, rfl, rfl, rfl, rfl, rfl⟩

theorem setR_any (s : St) (hs : s.ok) (key : List Int) (ck : Bool) (hkl : key.length ≤ 1000000000) (hl : s.a.length ≤ 1000000 ∧ s.b.length ≤ 1000000 ∧ s.c.length ≤ 1000000) (flag : Int) :
    PC Try.prog 14 [s.R, .sl 1 ck (key.map u8L), intL flag] (.tup [(if flag < 0 ∨ 1 < flag then s else if allIn s.a (s.pl key) = true then s.put (flag.toNat + 1) (s.pl key) else s).R, intL (if flag < 0 ∨ 1 < flag then 1 else if allIn s.a (s.pl key) = true then 0 else 10)]) := by
  have ⟨hm1, hm2, hk1, hk2⟩ := hs
  have hp := ref_any ck key hkl s.seed s.k s.m (by omega) (by omega)
  have hpl := pl_len s key
  have hm := memR_any s hs key ck hkl hl.1
  refine pc_of_call (callAt_enter ir14 (by simp) ?_)
  by_cases h0 : flag < 0
  · simp [h0, St.R]
  · by_cases h1 : 1 < flag
    · simp [h0, h1, St.R]
    · have hnf : ¬ (flag < 0 ∨ 1 < flag) := by omega
      simp only [hnf, if_false]
      simp only [St.R] at hm ⊢
      simp [h0, h1]
      refine callT_plain hm rfl rfl ?_
      cases hA : allIn s.a (s.pl key)
      · simp
      · have hc : flag = 0 ∨ flag = 1 := by omega
        rcases hc with rfl | rfl
        · have hw := with_any false false s.b (s.pl key) (by omega) (by omega)
          simp [IntKind.wrap, IntKind.bits, IntKind.signed]
          refine bcallT_closed hp rfl ?_
          simp
          refine bcallT_closed hw rfl ?_
          simp
          exact ⟨rfl, rfl, rfl, rfl, rfl, rfl⟩
        · have hw := with_any false false s.c (s.pl key) (by omega) (by omega)
          simp [IntKind.wrap, IntKind.bits, IntKind.signed]
          refine bcallT_closed hp rfl ?_
          simp
          refine bcallT_closed hw rfl ?_
          simp
          exact ⟨rfl, rfl, rfl, rfl, rfl, rfl⟩

theorem getR_any (s : St) (hs : s.ok) (key : List Int) (ck : Bool) (hkl : key.length ≤ 1000000000) (hl : s.a.length ≤ 1000000 ∧ s.b.length ≤ 1000000 ∧ s.c.length ≤ 1000000) (flag : Int) :
    PC Try.prog 16 [s.R, .sl 1 ck (key.map u8L), intL flag] (.tup [boolL (if flag < 0 ∨ 1 < flag then false else if allIn s.a (s.pl key) = true then allIn (s.row (flag.toNat + 1)) (s.pl key) else false), intL (if flag < 0 ∨ 1 < flag then 1 else if allIn s.a (s.pl key) = true then 0 else 10)]) := by
  have ⟨hm1, hm2, hk1, hk2⟩ := hs
  have hp := ref_any ck key hkl s.seed s.k s.m (by omega) (by omega)
  have hpl := pl_len s key
  have hm := memR_any s hs key ck hkl hl.1
  refine pc_of_call (callAt_enter ir16 (by simp) ?_)
  by_cases h0 : flag < 0
  · simp [h0, St.R]
  · by_cases h1 : 1 < flag
    · simp [h0, h1, St.R]
    · have hnf : ¬ (flag < 0 ∨ 1 < flag) := by omega
      simp only [hnf, if_false]
      simp only [St.R] at hm ⊢
      simp [h0, h1]
      refine callT_plain hm rfl rfl ?_
      cases hA : allIn s.a (s.pl key)
      · simp
      · have hc : flag = 0 ∨ flag = 1 := by omega
        rcases hc with rfl | rfl
        · have hw := allR_any false false s.b (s.pl key) (by omega) (by omega)
          simp [IntKind.wrap, IntKind.bits, IntKind.signed]
          refine bcallT_closed hp rfl ?_
          simp
          refine callT_plain hw rfl rfl ?_
          simp [St.row]
        · have hw := allR_any false false s.c (s.pl key) (by omega) (by omega)
          simp [IntKind.wrap, IntKind.bits, IntKind.signed]
          refine bcallT_closed hp rfl ?_
          simp
          refine callT_plain hw rfl rfl ?_
          simp [St.row]

theorem newR_any (m k : Nat) (seed : Int) (h : St.ok ⟨m, k, seed, [], [], []⟩) : PC Try.prog 10 [intL m, intL k, u64L seed] (.tup [St.R ⟨m, k, seed, [], [], []⟩, intL 0]) := by
  have ⟨h1, h2, h3, h4⟩ := h
  refine pc_of_call' (callAt_enter ir10 (by simp) ?_)
  simp at h1 h2 h3 h4
  have n1 : ¬ (m : Int) < 1 := by omega
  have n2 : ¬ (4194304 : Int) < m := by omega
  have n3 : ¬ (k : Int) < 1 := by omega
  have n4 : ¬ (16 : Int) < k := by omega
  simp [n1, n2, n3, n4, St.R]
  exact .tupL (.cons (.aggL (.cons (.refl _) (.cons (.refl _) (.cons (.refl _) (.cons (.nil _ _) (.cons (.nil _ _) (.cons (.nil _ _) .nil))))))) (.cons (.refl _) .nil))

theorem bad_any (f : Nat) (hf : f = 9 ∨ f = 10) (m k seed : Int) (h : m < 1 ∨ 4194304 < m ∨ k < 1 ∨ 16 < k) : PC Try.prog f [intL m, intL k, u64L seed] (.tup [.agg [.v (.int .i64 0), .v (.int .i64 0), .v (.int .u64 0), .v (.slice none 0 0), .v (.slice none 0 0), .v (.slice none 0 0)], intL 1]) := by
  rcases hf with rfl | rfl
  all_goals
    first | refine pc_of_call (callAt_enter ir9 (by simp) ?_) | refine pc_of_call (callAt_enter ir10 (by simp) ?_)
    by_cases h1 : m < 1
    · simp [h1]
    · by_cases h2 : 4194304 < m
      · simp [h1, h2]
      · by_cases h3 : k < 1
        · simp [h1, h2, h3]
        · have h4 : 16 < k := by omega
          simp [h1, h2, h3, h4]

end Go.Proofs.Ytejjmfladieipaa
