/- A store behind acts is as the document says. -/
import Derived.Test.YtejjmfladieipaaBlurRef
import Derived.Test.YtejjmfladieipaaBlurNever
namespace Go.Proofs.Ytejjmfladieipaa
open Go Lg

/-- Rows of few places. -/
def Small (i : Nat) (s : St) : Prop := s.a.length ≤ 16 * i ∧ s.b.length ≤ 16 * i ∧ s.c.length ≤ 16 * i

theorem Small.put {i : Nat} {s : St} (hs : s.ok) (h : Small i s) (row : Nat) (key : List Int) : Small (i + 1) (s.put row (s.pl key)) := by
  obtain ⟨h1, h2, h3⟩ := h
  have hl := pl_len s key
  have hk := hs.k2
  have ha := (withP_len (on := s.a) (ps := s.pl key)).2
  have hb := (withP_len (on := s.b) (ps := s.pl key)).2
  have hc := (withP_len (on := s.c) (ps := s.pl key)).2
  unfold Small
  match row with
  | 0 => simp only [St.put]; omega
  | 1 => simp only [St.put]; omega
  | n + 2 => simp only [St.put]; omega

theorem Small.more {i : Nat} {s : St} (h : Small i s) : Small (i + 1) s := ⟨by have := h.1; omega, by have := h.2.1; omega, by have := h.2.2; omega⟩

theorem blurTells_any (y0 : (Int) × (Int) × (Int) × (List ((Int) × (List (Int)) × (Int)))) (h0 : ((Lit.int .i64 y0.1).wf = true) ∧ ((Lit.int .i64 y0.2.1).wf = true) ∧ ((Lit.int .u64 y0.2.2.1).wf = true) ∧ ((∀ z ∈ y0.2.2.2, ((Lit.int .u8 z.1).wf = true) ∧ ((∀ zz ∈ z.2.1, (Lit.int .u8 zz).wf = true) ∧ z.2.1.length * 1 ≤ 140737488351232) ∧ ((Lit.int .i64 z.2.2).wf = true)) ∧ y0.2.2.2.length * 40 ≤ 140737488351232)) :
    PC Try.prog 3 [.agg [L.v (.int .i64 y0.1), L.v (.int .i64 y0.2.1), L.v (.int .u64 y0.2.2.1), L.sl 3 false (y0.2.2.2.map fun (z : (Int) × (List (Int)) × (Int)) => .agg [L.v (.int .u8 z.1), L.sl 1 false (z.2.1.map fun (z : Int) => L.v (.int .u8 z)), L.v (.int .i64 z.2.2)])]] (.v (.bool true)) := by
  obtain ⟨ym, yk, seed, l⟩ := y0
  obtain ⟨-, -, hseed, hl, hll⟩ := h0
  have hkind : ∀ z ∈ l, 0 ≤ z.1 ∧ z.1 ≤ 255 := fun z hz => by
    have := (hl z hz).1
    simp [Lit.wf, IntKind.min, IntKind.max, IntKind.signed, IntKind.bits] at this
    exact this
  clear hl
  simp [Lit.wf, IntKind.min, IntKind.max, IntKind.signed, IntKind.bits] at hseed ⊢
  refine pc_of_call (callAt_enter ir3 (by simp) ?_)
  simp
  refine callT_closed shown_any rfl ?_
  simp
  refine callT_plain (few_any l 50 (by simp at hll; omega)) rfl rfl ?_
  by_cases hf : fewA l 50 = true
  · obtain ⟨hn, hks⟩ := fewA_len hf
    by_cases hbad : ym < 1 ∨ 4194304 < ym ∨ yk < 1 ∨ 16 < yk
    · have b1 := bad_any 9 (.inl rfl) ym yk seed hbad
      have b2 := bad_any 10 (.inr rfl) ym yk seed hbad
      by_cases h5 : 5000 < ym
      · have h8 : ¬ ym ≤ 5000 := by omega
        by_cases h6 : ym ≤ 4194304
        · have h7 : ¬ 4194304 < ym := by omega
          simp [hf, h5, h6, h7, h8]
        · have h7 : 4194304 < ym := by omega
          simp [hf, h5, h6, h7, h8]
          refine callT_closed b1 rfl ?_
          simp
          refine callT_closed b2 rfl ?_
          simp
      · have h8 : ym ≤ 5000 := by omega
        simp [hf, h5, h8]
        refine callT_closed b1 rfl ?_
        simp
        refine callT_closed b2 rfl ?_
        simp
    · by_cases h5 : 5000 < ym
      · have h6 : ym ≤ 4194304 := by omega
        have h7 : ¬ 4194304 < ym := by omega
        have h8 : ¬ ym ≤ 5000 := by omega
        simp [hf, h5, h6, h7, h8]
      · have h8 : ym ≤ 5000 := by omega
        simp [hf, h5, h8]
        obtain ⟨m, rfl⟩ : ∃ m : Nat, ym = (m : Int) := ⟨ym.toNat, by omega⟩
        obtain ⟨k, rfl⟩ : ∃ k : Nat, yk = (k : Int) := ⟨yk.toNat, by omega⟩
        have hok0 : St.ok ⟨m, k, seed, [], [], []⟩ := ⟨by simp; omega, by simp; omega, by simp; omega, by simp; omega⟩
        have hnew := new_any m k seed hok0
        have hnewR := newR_any m k seed hok0
        have hf0 : Fine m k seed ⟨m, k, seed, [], [], []⟩ := ⟨rfl, rfl, rfl, hok0, by simp, by simp⟩
        have hsm0 : Small 0 ⟨m, k, seed, [], [], []⟩ := ⟨by simp, by simp, by simp⟩
        generalize hs0 : St.mk m k seed [] [] [] = s0 at *
        simp only [St.L, St.R] at hnew hnewR
        refine callT_closed hnew rfl ?_
        simp
        refine callT_closed hnewR rfl ?_
        simp
        refine lwp_loop (fun x : Nat × St => [(6, .sl 3 false (l.map actL)), (7, boolL true), (8, .ptr 0 0), (10, .ptr 1 0), (12, intL x.1)])
          (fun x => [some [intL x.2.m, intL x.2.k, u64L x.2.seed, .sl 1 false ((rowB x.2.w x.2.a).map u8L), .sl 1 false ((rowB x.2.w x.2.b).map u8L), .sl 1 false ((rowB x.2.w x.2.c).map u8L)],
            some [intL x.2.m, intL x.2.k, u64L x.2.seed, .sl 1 false (x.2.a.map intL), .sl 1 false (x.2.b.map intL), .sl 1 false (x.2.c.map intL)]])
          (fun x => l.length - x.1) (fun x => x.1 ≤ l.length ∧ Fine m k seed x.2 ∧ Small x.1 x.2) (0, s0) ⟨by simp, hf0, hsm0⟩ ⟨[1, 2], ?_⟩ ?_
        · simp
        rintro ⟨i, s⟩ ⟨hi, hfi, hti⟩
        simp at hi hfi hti ⊢
        intro hlt
        simp [hlt]
        obtain ⟨z, hz⟩ : ∃ z, l[i] = z := ⟨_, rfl⟩
        have hzm : z ∈ l := hz ▸ List.getElem_mem hlt
        have hzl := hks z hzm
        have hzk := hkind z hzm
        have ⟨q1, q2, q3⟩ := hti
        have hrem : z.1.tmod 3 = z.1 % 3 := Int.tmod_eq_emod_of_nonneg (by omega)
        simp only [hz]
        simp [hrem]
        have hc : z.1 % 3 = 0 ∨ z.1 % 3 = 1 ∨ z.1 % 3 = 2 := by omega
        rcases hc with hc | hc | hc
        · have h1 := insert_any s hfi.ok z.2.1 false (by omega)
          have h2 := insR_any s hfi.ok z.2.1 false (by omega) (by omega)
          have hf2 := hfi.put 0 z.2.1
          have hs2 := hti.put hfi.ok 0 z.2.1
          generalize s.put 0 (s.pl z.2.1) = s2 at h1 h2 hf2 hs2
          simp only [St.L, St.R] at h1 h2
          simp [hc]
          refine callT_closed h1 rfl ?_
          simp
          refine callT_closed h2 rfl ?_
          simp
          have hmem := member_any s2 hf2.ok z.2.1 false (by omega)
          have hmemR := memR_any s2 hf2.ok z.2.1 false (by omega) (by have := hs2.1; omega)
          have hones := ones_any s2 hf2.ok hf2.nd hf2.rg
          simp only [St.L, St.R] at hmem hmemR hones
          refine bcallT_plain hmem rfl rfl ?_
          simp
          refine callT_plain hmemR rfl rfl ?_
          simp
          refine bcallT_plain hones rfl rfl ?_
          simp
          refine ⟨(i + 1, s2), ⟨by simp; omega, hf2, hs2⟩, by simp <;> omega, [0, 1], ?_⟩
          simp
          exact wrap_id (by omega) (by omega)

        · have h1 := setF_any s hfi.ok z.2.1 false (by omega) z.2.2
          have h2 := setR_any s hfi.ok z.2.1 false (by omega) (by omega) z.2.2
          obtain ⟨s2, e2, hf2, hs2⟩ : ∃ s2, (if z.2.2 < 0 ∨ 1 < z.2.2 then s else if allIn s.a (s.pl z.2.1) = true then s.put (z.2.2.toNat + 1) (s.pl z.2.1) else s) = s2 ∧ Fine m k seed s2 ∧ Small (i + 1) s2 := by
            split
            · exact ⟨s, rfl, hfi, hti.more⟩
            · split
              · exact ⟨_, rfl, hfi.put _ _, hti.put hfi.ok _ _⟩
              · exact ⟨s, rfl, hfi, hti.more⟩
          rw [e2] at h1 h2
          generalize (if z.2.2 < 0 ∨ 1 < z.2.2 then (1 : Int) else if allIn s.a (s.pl z.2.1) = true then 0 else 10) = code at h1 h2
          simp only [St.L, St.R] at h1 h2
          simp [hc]
          refine callT_closed h1 rfl ?_
          simp
          refine callT_closed h2 rfl ?_
          simp
          have hmem := member_any s2 hf2.ok z.2.1 false (by omega)
          have hmemR := memR_any s2 hf2.ok z.2.1 false (by omega) (by have := hs2.1; omega)
          have hones := ones_any s2 hf2.ok hf2.nd hf2.rg
          simp only [St.L, St.R] at hmem hmemR hones
          refine bcallT_plain hmem rfl rfl ?_
          simp
          refine callT_plain hmemR rfl rfl ?_
          simp
          refine bcallT_plain hones rfl rfl ?_
          simp
          refine ⟨(i + 1, s2), ⟨by simp; omega, hf2, hs2⟩, by simp <;> omega, [0, 1], ?_⟩
          simp
          exact wrap_id (by omega) (by omega)

        · have h1 := getF_any s hfi.ok z.2.1 false (by omega) z.2.2
          have h2 := getR_any s hfi.ok z.2.1 false (by omega) (by omega) z.2.2
          generalize (if z.2.2 < 0 ∨ 1 < z.2.2 then (1 : Int) else if allIn s.a (s.pl z.2.1) = true then 0 else 10) = code at h1 h2
          generalize (if z.2.2 < 0 ∨ 1 < z.2.2 then false else if allIn s.a (s.pl z.2.1) = true then allIn (s.row (z.2.2.toNat + 1)) (s.pl z.2.1) else false) = is at h1 h2
          have hf2 := hfi
          have hs2 := hti.more
          clear hti
          obtain ⟨s2, hs2e⟩ : ∃ s2, s = s2 := ⟨s, rfl⟩
          subst hs2e
          simp only [St.L, St.R] at h1 h2
          simp [hc]
          refine callT_plain h1 rfl rfl ?_
          simp
          refine callT_plain h2 rfl rfl ?_
          simp
          have hmem := member_any s hf2.ok z.2.1 false (by omega)
          have hmemR := memR_any s hf2.ok z.2.1 false (by omega) (by have := hs2.1; omega)
          have hones := ones_any s hf2.ok hf2.nd hf2.rg
          simp only [St.L, St.R] at hmem hmemR hones
          refine bcallT_plain hmem rfl rfl ?_
          simp
          refine callT_plain hmemR rfl rfl ?_
          simp
          refine bcallT_plain hones rfl rfl ?_
          simp
          refine ⟨(i + 1, s), ⟨by simp; omega, hf2, hs2⟩, by simp <;> omega, [0, 1], ?_⟩
          simp
          exact wrap_id (by omega) (by omega)

  · simp [hf]

end Go.Proofs.Ytejjmfladieipaa
