/- OLD: a store that was stays as it was; in whichever order keys are inserted, the same bits are 1. -/
import Derived.Test.YtejjmfladieipaaBlurActs
namespace Go.Proofs.Ytejjmfladieipaa
open Go Lg

theorem blurOld_any (y0 : (Int) × (Int) × (Int) × (List (Int)) × (List (Int)) × (List (Int))) (h0 : ((Lit.int .u16 y0.1).wf = true) ∧ ((Lit.int .u8 y0.2.1).wf = true) ∧ ((Lit.int .u64 y0.2.2.1).wf = true) ∧ ((∀ z ∈ y0.2.2.2.1, (Lit.int .u8 z).wf = true) ∧ y0.2.2.2.1.length * 1 ≤ 140737488351232) ∧ ((∀ z ∈ y0.2.2.2.2.1, (Lit.int .u8 z).wf = true) ∧ y0.2.2.2.2.1.length * 1 ≤ 140737488351232) ∧ ((∀ z ∈ y0.2.2.2.2.2, (Lit.int .u8 z).wf = true) ∧ y0.2.2.2.2.2.length * 1 ≤ 140737488351232)) :
    PC Try.prog 5 [.agg [L.v (.int .u16 y0.1), L.v (.int .u8 y0.2.1), L.v (.int .u64 y0.2.2.1), L.sl 1 false (y0.2.2.2.1.map fun (z : Int) => L.v (.int .u8 z)), L.sl 1 false (y0.2.2.2.2.1.map fun (z : Int) => L.v (.int .u8 z)), L.sl 1 false (y0.2.2.2.2.2.map fun (z : Int) => L.v (.int .u8 z))]] (.v (.bool true)) := by
  obtain ⟨ym, yk, seed, ka, kb, kc⟩ := y0
  obtain ⟨hm, hk, hseed, -, -, -⟩ := h0
  simp [Lit.wf, IntKind.min, IntKind.max, IntKind.signed, IntKind.bits] at hm hk hseed ⊢
  obtain ⟨m, em, m1, m2⟩ := size_of (n := 2000) hm.1 (by omega) (by omega) (by omega)
  obtain ⟨k, ek, k1, k2⟩ := size_of (n := 16) hk.1 (by omega) (by omega) (by omega)
  refine pc_of_call (callAt_enter ir5 (by simp) ?_)
  simp
  refine callT_closed shown_any rfl ?_
  simp
  intro h1 h2 h3
  simp [em, ek]
  obtain ⟨st, hst⟩ : ∃ st : List Int → St, st = fun on => ⟨m, k, seed, on, [], []⟩ := ⟨_, rfl⟩
  have hok : ∀ on, (st on).ok := fun on => by rw [hst]; exact ⟨m1, by simp; omega, k1, by simp; omega⟩
  obtain ⟨pl, hpl⟩ : ∃ pl : List Int → List Int, pl = fun key => places key seed k m := ⟨_, rfl⟩
  have hpl' : ∀ on key, (st on).pl key = pl key := fun on key => by rw [hst, hpl]; rfl
  have hput : ∀ on ps, (st on).put 0 ps = st (withP on ps) := fun on ps => by rw [hst]; rfl
  have ha : ∀ on, (st on).a = on := fun on => by rw [hst]
  have hpr : ∀ key, ∀ p ∈ pl key, 0 ≤ p ∧ p < m := fun key => by rw [hpl]; exact places_range key seed k (by omega) (by omega)
  have hplen : ∀ key, (pl key).length = k := fun key => by rw [hpl]; exact places_len _ _ _ _
  have hins : ∀ on (key : List Int), key.length ≤ 1000000000 → PC Try.prog 11 [(st on).L, .sl 1 false (key.map u8L)] (.tup [(st (withP on (pl key))).L, boolL (!allIn on (pl key))]) := fun on key hl => by
    have := insert_any (st on) (hok on) key false hl
    rwa [hpl', hput, ha] at this
  have hmem : ∀ on (key : List Int), key.length ≤ 1000000000 → PC Try.prog 17 [(st on).L, .sl 1 false (key.map u8L)] (boolL (allIn on (pl key))) := fun on key hl => by
    have := member_any (st on) (hok on) key false hl
    rwa [hpl', ha] at this
  have hones : ∀ (on : List Int), on.Nodup → (∀ p ∈ on, 0 ≤ p ∧ p < (m : Int)) → PC Try.prog 19 [(st on).L] (intL on.length) := fun on hn hb => by
    have := ones_any (st on) (hok on) (by rw [ha]; exact hn) (by rw [ha]; intro p hp; rw [hst]; exact hb p hp)
    rwa [ha] at this
  have hnew := new_any m k seed (by have := hok []; rwa [hst] at this)
  have hL : ∀ on, St.L ⟨m, k, seed, on, [], []⟩ = (st on).L := fun on => by rw [hst]
  rw [hL] at hnew
  have hr : ∀ on ps, (∀ p ∈ on, 0 ≤ p ∧ p < (m : Int)) → (∀ p ∈ ps, 0 ≤ p ∧ p < (m : Int)) → ∀ p ∈ withP on ps, 0 ≤ p ∧ p < (m : Int) := fun on ps h1 h2 p hp => by
    rcases withP_mem.1 hp with h | h
    · exact h1 p h
    · exact h2 p h
  have cl : ∀ on, ∃ cs, (st on).L = .agg cs ∧ cs.length = 6 ∧ (∀ c ∈ cs, closed c = true ∧ solid c = true) := fun on => by
    rw [hst]
    exact ⟨_, rfl, rfl, by simp [St.w]⟩
  simp only [hst, St.L] at hins hmem hones hnew
  have hw0 : ∀ on, St.w ⟨m, k, seed, on, [], []⟩ = (m + 7) / 8 := fun _ => rfl
  simp only [hw0] at hins hmem hones hnew
  generalize (m + 7) / 8 = w at hins hmem hones hnew
  have nd := fun (ps : List Int) => withP_nodup (on := []) (by simp) (ps := ps)
  have nA := nd (pl ka)
  have nB := nd (pl kb)
  have rA := hr [] (pl ka) (by simp) (hpr ka)
  have rB := hr [] (pl kb) (by simp) (hpr kb)
  have lA := (withP_len (on := []) (ps := pl ka)).2
  have mA : ∀ p, p ∈ withP [] (pl ka) ↔ p ∈ pl ka := fun p => by rw [withP_mem]; simp
  have mAB : ∀ p, p ∈ withP (withP [] (pl ka)) (pl kb) ↔ p ∈ pl ka ∨ p ∈ pl kb := fun p => by rw [withP_mem, mA]
  have mBA : ∀ p, p ∈ withP (withP [] (pl kb)) (pl ka) ↔ p ∈ pl ka ∨ p ∈ pl kb := fun p => by rw [withP_mem, withP_mem]; simp [or_comm]
  have nAB := withP_nodup nA (ps := pl kb)
  have nBA := withP_nodup nB (ps := pl ka)
  have rAB := hr _ (pl kb) rA (hpr kb)
  have rBA := hr _ (pl ka) rB (hpr ka)
  have eAB := same_len nAB nBA (fun p => (mAB p).trans (mBA p).symm)
  have iA := hins [] ka (by omega)
  have iB := hins [] kb (by omega)
  have iAB := hins (withP [] (pl ka)) kb (by omega)
  have iBA := hins (withP [] (pl kb)) ka (by omega)
  have o0 := hones [] (by simp) (by simp)
  have oA := hones _ nA rA
  have oAB := hones _ nAB rAB
  have oBA := hones _ nBA rBA
  have mem0 := hmem [] ka (by omega)
  have memAB := hmem (withP (withP [] (pl ka)) (pl kb)) kc (by omega)
  have memBA := hmem (withP (withP [] (pl kb)) (pl ka)) kc (by omega)
  have memA := hmem (withP [] (pl ka)) kc (by omega)
  have eMem : allIn (withP (withP [] (pl kb)) (pl ka)) (pl kc) = allIn (withP (withP [] (pl ka)) (pl kb)) (pl kc) := by
    rw [Bool.eq_iff_iff, allIn_iff, allIn_iff]
    simp only [mAB, mBA]
  have no0 : allIn [] (pl ka) = false := by
    rw [← Bool.not_eq_true, allIn_iff]
    intro h
    have := hplen ka
    match hx : pl ka with
    | [] => rw [hx] at this; simp at this; omega
    | p :: _ => have := h p (by rw [hx]; simp); simp at this
  have mono : allIn (withP [] (pl ka)) (pl kc) = true → allIn (withP (withP [] (pl ka)) (pl kb)) (pl kc) = true := by
    rw [allIn_iff, allIn_iff]
    intro h p hp
    exact withP_mem.2 (.inl (h p hp))
  have lk : (withP [] (pl ka)).length ≤ k := by have := hplen ka; simp at lA; omega
  rw [no0] at mem0
  rw [← eAB] at oBA
  rw [eMem] at memBA
  generalize hAB : withP (withP [] (pl ka)) (pl kb) = AB at *
  generalize hBA : withP (withP [] (pl kb)) (pl ka) = BA at *
  generalize hA : withP [] (pl ka) = A at *
  generalize hB : withP [] (pl kb) = B at *
  refine callT_closed hnew rfl ?_
  simp
  refine callT_closed iA rfl ?_
  simp
  refine callT_closed iAB rfl ?_
  simp
  refine callT_closed iB rfl ?_
  simp
  refine callT_closed iBA rfl ?_
  simp
  refine callT_plain o0 rfl rfl ?_
  simp
  refine callT_plain mem0 rfl rfl ?_
  simp
  refine bcallT_plain oAB rfl rfl ?_
  simp
  refine callT_plain oBA rfl rfl ?_
  simp
  refine bcallT_plain memAB rfl rfl ?_
  simp
  refine callT_plain memBA rfl rfl ?_
  simp
  refine callT_plain memA rfl rfl ?_
  cases hAc : allIn A (pl kc)
  · simp
    refine bcallT_plain oA rfl rfl ?_
    simp [ek]
    omega
  · have hABc := mono hAc
    rw [hABc] at memAB
    simp [hABc]
    refine callT_plain memAB rfl rfl ?_
    simp
    refine bcallT_plain oA rfl rfl ?_
    simp [ek]
    omega

end Go.Proofs.Ytejjmfladieipaa
