/- NEVER: what was inserted is one of them for good. -/
import Derived.Test.YtejjmfladieipaaBlurActs
namespace Go.Proofs.Ytejjmfladieipaa
open Go Lg

/-- All that was done is told. -/
def Told (l : List A) (i : Nat) (s : St) : Prop := ∀ (j : Nat) (z : A), j < i → l[j]? = some z → allIn (s.row 0) (s.pl z.2.1) = true ∧ (z.1 % 2 = 0 → allIn (s.row ((z.1 / 2 % 2).toNat + 1)) (s.pl z.2.1) = true)

theorem Told.put {l : List A} {i : Nat} {s : St} (h : Told l i s) {row : Nat} (hr : row < 3) (ps : List Int) : Told l i (s.put row ps) := fun j z hj hz => by
  obtain ⟨h1, h2⟩ := h j z hj hz
  rw [put_pl]
  exact ⟨put_sup hr (by omega) h1, fun hz => put_sup hr (by omega) (h2 hz)⟩

/-- A store that may come. -/
structure Fine (m k : Nat) (seed : Int) (s : St) : Prop where
  m : s.m = m
  k : s.k = k
  seed : s.seed = seed
  ok : s.ok
  nd : s.a.Nodup
  rg : ∀ p ∈ s.a, 0 ≤ p ∧ p < (s.m : Int)

theorem Fine.put {m k : Nat} {seed : Int} {s : St} (h : Fine m k seed s) (row : Nat) (key : List Int) : Fine m k seed (s.put row (s.pl key)) := by
  obtain ⟨e1, e2, e3⟩ := put_same s row (s.pl key)
  refine ⟨by rw [e1]; exact h.m, by rw [e2]; exact h.k, by rw [e3]; exact h.seed, put_ok h.ok _ _, ?_, ?_⟩
  · match row with
    | 0 => exact withP_nodup h.nd
    | 1 => exact h.nd
    | n + 2 => exact h.nd
  · rw [e1]
    match row with
    | 0 =>
      intro p hp
      rcases withP_mem.1 hp with h' | h'
      · exact h.rg p h'
      · exact pl_range h.ok key p h'
    | 1 => exact h.rg
    | n + 2 => exact h.rg

theorem Fine.le {m k : Nat} {seed : Int} {s : St} (h : Fine m k seed s) : s.a.length ≤ m := by
  have := cnt_all h.nd (n := m) (by rw [← h.m]; exact h.rg)
  have := cnt_le (on := s.a) (n := m)
  omega

theorem flag_eq {y : Int} (h : 0 ≤ y ∧ y ≤ 255) : (IntKind.i64.wrap (IntKind.u8.wrap (y.tdiv 2))).tmod 2 = y / 2 % 2 := by
  have e : IntKind.u8.wrap (y / 2) = y / 2 := by simp [IntKind.wrap, IntKind.bits, IntKind.signed]; omega
  rw [Int.tdiv_eq_ediv_of_nonneg h.1, e, wrap_id (by omega) (by omega), Int.tmod_eq_emod_of_nonneg (by omega)]

theorem blurNever_any (y0 : (Int) × (Int) × (Int) × (List ((Int) × (List (Int)) × (Int)))) (h0 : ((Lit.int .u16 y0.1).wf = true) ∧ ((Lit.int .u8 y0.2.1).wf = true) ∧ ((Lit.int .u64 y0.2.2.1).wf = true) ∧ ((∀ z ∈ y0.2.2.2, ((Lit.int .u8 z.1).wf = true) ∧ ((∀ zz ∈ z.2.1, (Lit.int .u8 zz).wf = true) ∧ z.2.1.length * 1 ≤ 140737488351232) ∧ ((Lit.int .i64 z.2.2).wf = true)) ∧ y0.2.2.2.length * 40 ≤ 140737488351232)) :
    PC Try.prog 4 [.agg [L.v (.int .u16 y0.1), L.v (.int .u8 y0.2.1), L.v (.int .u64 y0.2.2.1), L.sl 3 false (y0.2.2.2.map fun (z : (Int) × (List (Int)) × (Int)) => .agg [L.v (.int .u8 z.1), L.sl 1 false (z.2.1.map fun (z : Int) => L.v (.int .u8 z)), L.v (.int .i64 z.2.2)])]] (.v (.bool true)) := by
  obtain ⟨ym, yk, seed, l⟩ := y0
  obtain ⟨hm, hk, hseed, hl, hll⟩ := h0
  have hkind : ∀ z ∈ l, 0 ≤ z.1 ∧ z.1 ≤ 255 := fun z hz => by
    have := (hl z hz).1
    simp [Lit.wf, IntKind.min, IntKind.max, IntKind.signed, IntKind.bits] at this
    exact this
  clear hl
  simp [Lit.wf, IntKind.min, IntKind.max, IntKind.signed, IntKind.bits] at hm hk hseed ⊢
  obtain ⟨m, em, m1, m2⟩ := size_of (n := 2000) hm.1 (by omega) (by omega) (by omega)
  obtain ⟨k, ek, k1, k2⟩ := size_of (n := 16) hk.1 (by omega) (by omega) (by omega)
  refine pc_of_call (callAt_enter ir4 (by simp) ?_)
  simp
  refine callT_closed shown_any rfl ?_
  simp
  refine callT_plain (few_any l 50 (by simp at hll; omega)) rfl rfl ?_
  by_cases hf : fewA l 50 = true
  · obtain ⟨hn, hks⟩ := fewA_len hf
    have hok0 : St.ok ⟨m, k, seed, [], [], []⟩ := ⟨m1, by simp; omega, k1, by simp; omega⟩
    have hnew := new_any m k seed hok0
    have hf0 : Fine m k seed ⟨m, k, seed, [], [], []⟩ := ⟨rfl, rfl, rfl, hok0, by simp, by simp⟩
    have ht0 : Told l 0 ⟨m, k, seed, [], [], []⟩ := fun j z hj => by omega
    generalize hs0 : St.mk m k seed [] [] [] = s0 at *
    simp [hf, em, ek]
    simp only [St.L] at hnew
    refine callT_closed hnew rfl ?_
    simp
    refine lwp_loop (fun x : Nat × St => [(6, .sl 3 false (l.map actL)), (7, boolL true), (8, intL m), (9, intL k), (10, .ptr 0 0), (12, intL x.1)])
      (fun x => [some [intL x.2.m, intL x.2.k, u64L x.2.seed, .sl 1 false ((rowB x.2.w x.2.a).map u8L), .sl 1 false ((rowB x.2.w x.2.b).map u8L), .sl 1 false ((rowB x.2.w x.2.c).map u8L)]])
      (fun x => l.length - x.1) (fun x => x.1 ≤ l.length ∧ Fine m k seed x.2 ∧ Told l x.1 x.2) (0, s0) ⟨by simp, hf0, ht0⟩ ⟨[1], ?_⟩ ?_
    · simp
    · rintro ⟨i, s⟩ ⟨hi, hfi, hti⟩
      simp at hi hfi hti ⊢
      intro hlt
      simp [hlt]
      obtain ⟨z, hz⟩ : ∃ z, l[i] = z := ⟨_, rfl⟩
      have hzm : z ∈ l := hz ▸ List.getElem_mem hlt
      have hzl := hks z hzm
      have hzk := hkind z hzm
      have hgz : l[i]? = some z := by rw [List.getElem?_eq_getElem hlt, hz]
      simp only [hz]
      have h1 := insert_any s hfi.ok z.2.1 false (by omega)
      have hf1 := hfi.put 0 z.2.1
      have ht1 := hti.put (row := 0) (by omega) (s.pl z.2.1)
      have hhas : allIn ((s.put 0 (s.pl z.2.1)).row 0) (s.pl z.2.1) = true := put_has (by omega)
      have hpl1 := put_pl s 0 (s.pl z.2.1) z.2.1
      have hgrow : (allIn s.a (s.pl z.2.1) = true ∧ (s.put 0 (s.pl z.2.1)).a.length = s.a.length) ∨ (allIn s.a (s.pl z.2.1) = false ∧ s.a.length < (s.put 0 (s.pl z.2.1)).a.length ∧ (s.put 0 (s.pl z.2.1)).a.length ≤ s.a.length + k) := by
        have e : (s.put 0 (s.pl z.2.1)).a = withP s.a (s.pl z.2.1) := rfl
        rw [e]
        cases hA : allIn s.a (s.pl z.2.1)
        · right
          refine ⟨rfl, ?_, ?_⟩
          · refine withP_new ?_
            apply Classical.byContradiction
            intro hno
            have : allIn s.a (s.pl z.2.1) = true := allIn_iff.2 fun p hp => Classical.byContradiction fun hn => hno ⟨p, hp, hn⟩
            rw [hA] at this; simp at this
          · have := (withP_len (on := s.a) (ps := s.pl z.2.1)).2
            rw [pl_len, hfi.k] at this
            exact this
        · left
          exact ⟨rfl, by rw [withP_old (allIn_iff.1 hA)]⟩
      generalize s.put 0 (s.pl z.2.1) = s1 at h1 hf1 ht1 hhas hpl1 hgrow
      obtain ⟨hA, hge, hle⟩ : allIn s.a (s.pl z.2.1) = !decide (s.a.length < s1.a.length) ∧ s.a.length ≤ s1.a.length ∧ (s1.a.length : Int) - s.a.length ≤ k := by
        rcases hgrow with ⟨q1, q2⟩ | ⟨q1, q2, q3⟩
        · rw [q1]; refine ⟨by simp [q2], by omega, by omega⟩
        · rw [q1]; refine ⟨by simp [q2], by omega, by omega⟩
      rw [hA] at h1
      have o0 := ones_any s hfi.ok hfi.nd hfi.rg
      have o1 := ones_any s1 hf1.ok hf1.nd hf1.rg
      have hle1 := hf1.le
      have hle0 := hfi.le
      have hset := setF_any s1 hf1.ok z.2.1 false (by omega)
      have hhas1 : allIn s1.a (s1.pl z.2.1) = true := by rw [hpl1]; exact hhas
      simp only [St.L] at h1 o0 o1
      refine bcallT_closed h1 rfl ?_
      simp
      refine bcallT_plain o1 rfl rfl ?_
      simp
      refine callT_plain o0 rfl rfl ?_
      have hw1 : IntKind.i64.wrap ((s1.a.length : Int) - (s.a.length : Int)) = (s1.a.length : Int) - s.a.length := wrap_id (by omega) (by omega)
      simp [hw1, hge, hle]
      refine callT_plain o1 rfl rfl ?_
      simp [hle1, hlt]
      have hrem : z.1.tmod 2 = z.1 % 2 := Int.tmod_eq_emod_of_nonneg (by omega)
      simp [hz, hrem]
      refine ⟨fun hev => ?_, fun hodd => ?_⟩
      · have hF : (IntKind.i64.wrap (IntKind.u8.wrap (z.1.tdiv 2))).tmod 2 = z.1 / 2 % 2 := flag_eq hzk
        have hset := setF_any s1 hf1.ok z.2.1 false (by omega) (z.1 / 2 % 2)
        have hnf : ¬ (z.1 / 2 % 2 < 0 ∨ 1 < z.1 / 2 % 2) := by omega
        simp only [hnf, hhas1, if_false, if_true] at hset
        have hf2 := hf1.put ((z.1 / 2 % 2).toNat + 1) z.2.1
        have ht2 : Told l (i + 1) (s1.put ((z.1 / 2 % 2).toNat + 1) (s1.pl z.2.1)) := fun j y hj hy => by
          by_cases hji : j < i
          · exact ht1.put (by omega) _ j y hji hy
          · have : j = i := by omega
            subst this
            rw [hgz] at hy
            cases hy
            rw [put_pl]
            exact ⟨put_sup (by omega) (by omega) hhas1, fun _ => put_has (by omega)⟩
        generalize s1.put ((z.1 / 2 % 2).toNat + 1) (s1.pl z.2.1) = s2 at hset hf2 ht2
        simp only [St.L] at hset
        rw [hF]
        refine bcallT_closed hset rfl ?_
        simp
        refine lwp_loop (fun j : Nat => [(6, .sl 3 false (l.map actL)), (7, boolL true), (8, intL m), (9, intL k), (10, .ptr 0 0), (12, intL i), (18, intL j)])
          (fun _ => [some [intL s2.m, intL s2.k, u64L s2.seed, .sl 1 false ((rowB s2.w s2.a).map u8L), .sl 1 false ((rowB s2.w s2.b).map u8L), .sl 1 false ((rowB s2.w s2.c).map u8L)]])
          (fun j => i + 1 - j) (fun j => j ≤ i + 1) 0 (by omega) ⟨[0], ?_⟩ ?_
        · simp
        · intro j hj
          simp
          refine ⟨fun hle => ?_, fun hgt => ?_⟩
          · have hjl : j < l.length := by omega
            simp [hjl]
            obtain ⟨y, hy⟩ : ∃ y, l[j] = y := ⟨_, rfl⟩
            have hym : y ∈ l := hy ▸ List.getElem_mem hjl
            have hyl := hks y hym
            have hyk := hkind y hym
            have hgy : l[j]? = some y := by rw [List.getElem?_eq_getElem hjl, hy]
            obtain ⟨t1, t2⟩ := ht2 j y (by omega) hgy
            have hmem := member_any s2 hf2.ok y.2.1 false (by omega)
            have e0 : s2.row 0 = s2.a := rfl
            rw [e0] at t1
            rw [t1] at hmem
            simp only [St.L] at hmem
            simp only [hy]
            refine callT_plain hmem rfl rfl ?_
            have hremy : y.1.tmod 2 = y.1 % 2 := Int.tmod_eq_emod_of_nonneg (by omega)
            simp [hy, hjl, hremy]
            refine ⟨fun hev => ?_, fun hodd => ?_⟩
            · have hF : (IntKind.i64.wrap (IntKind.u8.wrap (y.1.tdiv 2))).tmod 2 = y.1 / 2 % 2 := flag_eq hyk
              have hget := getF_any s2 hf2.ok y.2.1 false (by omega) (y.1 / 2 % 2)
              have hnf : ¬ (y.1 / 2 % 2 < 0 ∨ 1 < y.1 / 2 % 2) := by omega
              simp only [hnf, t1, t2 hev, if_false, if_true] at hget
              simp only [St.L] at hget
              rw [hF]
              refine callT_plain hget rfl rfl ?_
              simp
              refine ⟨j + 1, by omega, by simp <;> omega, [0], ?_⟩
              simp
              exact wrap_id (by omega) (by omega)
            · refine ⟨j + 1, by omega, by simp <;> omega, [0], ?_⟩
              simp
              exact wrap_id (by omega) (by omega)
          · refine ⟨(i + 1, s2), ⟨by simp; omega, hf2, ht2⟩, by simp <;> omega, [0], ?_⟩
            simp
            exact wrap_id (by omega) (by omega)
      · have hf2 := hf1
        have ht2 : Told l (i + 1) s1 := fun j y hj hy => by
          by_cases hji : j < i
          · exact ht1 j y hji hy
          · have : j = i := by omega
            subst this
            rw [hgz] at hy
            cases hy
            exact ⟨hhas1, fun hev => absurd hev hodd⟩
        generalize s1 = s2 at *
        refine lwp_loop (fun j : Nat => [(6, .sl 3 false (l.map actL)), (7, boolL true), (8, intL m), (9, intL k), (10, .ptr 0 0), (12, intL i), (18, intL j)])
          (fun _ => [some [intL s2.m, intL s2.k, u64L s2.seed, .sl 1 false ((rowB s2.w s2.a).map u8L), .sl 1 false ((rowB s2.w s2.b).map u8L), .sl 1 false ((rowB s2.w s2.c).map u8L)]])
          (fun j => i + 1 - j) (fun j => j ≤ i + 1) 0 (by omega) ⟨[0], ?_⟩ ?_
        · simp
        · intro j hj
          simp
          refine ⟨fun hle => ?_, fun hgt => ?_⟩
          · have hjl : j < l.length := by omega
            simp [hjl]
            obtain ⟨y, hy⟩ : ∃ y, l[j] = y := ⟨_, rfl⟩
            have hym : y ∈ l := hy ▸ List.getElem_mem hjl
            have hyl := hks y hym
            have hyk := hkind y hym
            have hgy : l[j]? = some y := by rw [List.getElem?_eq_getElem hjl, hy]
            obtain ⟨t1, t2⟩ := ht2 j y (by omega) hgy
            have hmem := member_any s2 hf2.ok y.2.1 false (by omega)
            have e0 : s2.row 0 = s2.a := rfl
            rw [e0] at t1
            rw [t1] at hmem
            simp only [St.L] at hmem
            simp only [hy]
            refine callT_plain hmem rfl rfl ?_
            have hremy : y.1.tmod 2 = y.1 % 2 := Int.tmod_eq_emod_of_nonneg (by omega)
            simp [hy, hjl, hremy]
            refine ⟨fun hev => ?_, fun hodd => ?_⟩
            · have hF : (IntKind.i64.wrap (IntKind.u8.wrap (y.1.tdiv 2))).tmod 2 = y.1 / 2 % 2 := flag_eq hyk
              have hget := getF_any s2 hf2.ok y.2.1 false (by omega) (y.1 / 2 % 2)
              have hnf : ¬ (y.1 / 2 % 2 < 0 ∨ 1 < y.1 / 2 % 2) := by omega
              simp only [hnf, t1, t2 hev, if_false, if_true] at hget
              simp only [St.L] at hget
              rw [hF]
              refine callT_plain hget rfl rfl ?_
              simp
              refine ⟨j + 1, by omega, by simp <;> omega, [0], ?_⟩
              simp
              exact wrap_id (by omega) (by omega)
            · refine ⟨j + 1, by omega, by simp <;> omega, [0], ?_⟩
              simp
              exact wrap_id (by omega) (by omega)
          · refine ⟨(i + 1, s2), ⟨by simp; omega, hf2, ht2⟩, by simp <;> omega, [0], ?_⟩
            simp
            exact wrap_id (by omega) (by omega)
  · simp [hf]

end Go.Proofs.Ytejjmfladieipaa
