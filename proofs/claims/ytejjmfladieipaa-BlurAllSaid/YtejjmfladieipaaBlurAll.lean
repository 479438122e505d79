/- ALL: a store all of whose bits are 1 says yes of every key. -/
import Derived.Test.YtejjmfladieipaaBlurActs
namespace Go.Proofs.Ytejjmfladieipaa
open Go Lg

/-- Numbers of a set, as a map. -/
def setI (on : List Int) : List (MK × Value) := on.map fun p => (.i .i64 p, .bool true)

theorem setI_length {on : List Int} : (setI on).length = on.length := by simp [setI]
theorem look_setI {p : Int} : ∀ {on : List Int}, mlook (setI on) (.i .i64 p) = if p ∈ on then some (.bool true) else none
  | [] => by simp [setI, mlook]
  | x :: on => by
    have ih := look_setI (p := p) (on := on)
    simp only [setI, List.map_cons, mlook] at ih ⊢
    by_cases hx : x = p
    · subst hx; simp
    · rw [if_neg (by simp [hx]), ih]; simp [Ne.symm hx]
theorem put_setI {p : Int} : ∀ {on : List Int}, mput (setI on) (.i .i64 p) (.bool true) = setI (if p ∈ on then on else on ++ [p])
  | [] => by simp [setI, mput]
  | x :: on => by
    have ih := put_setI (p := p) (on := on)
    simp only [setI, List.map_cons, mput] at ih ⊢
    by_cases hx : x = p
    · subst hx; simp
    · rw [if_neg (by simp [hx]), ih]
      by_cases hk : p ∈ on
      · simp [hk]
      · simp [hk, Ne.symm hx]

theorem all_of_full {on : List Int} (hn : on.Nodup) {n : Nat} (hb : ∀ p ∈ on, 0 ≤ p ∧ p < (n : Int)) (hl : n ≤ on.length) : ∀ p : Int, 0 ≤ p → p < (n : Int) → p ∈ on := by
  have h := cnt_all hn hb
  have hle := cnt_le (on := on) (n := n)
  have he : (List.range n).countP (fun (p : Nat) => decide ((p : Int) ∈ on)) = (List.range n).length := by
    have : cnt on n = n := by omega
    simpa [cnt] using this
  rw [List.countP_eq_length] at he
  intro p h0 h1
  have := he p.toNat (by simp; omega)
  have e : ((p.toNat : Nat) : Int) = p := by omega
  rw [e] at this
  simpa using this

set_option maxRecDepth 100000 in
theorem blurAll_any (y0 : (Int) × (Int) × (Int) × (List (List (Int))) × (List (Int))) (h0 : ((Lit.int .u8 y0.1).wf = true) ∧ ((Lit.int .u8 y0.2.1).wf = true) ∧ ((Lit.int .u64 y0.2.2.1).wf = true) ∧ ((∀ z ∈ y0.2.2.2.1, (∀ zz ∈ z, (Lit.int .u8 zz).wf = true) ∧ z.length * 1 ≤ 140737488351232) ∧ y0.2.2.2.1.length * 24 ≤ 140737488351232) ∧ ((∀ z ∈ y0.2.2.2.2, (Lit.int .u8 z).wf = true) ∧ y0.2.2.2.2.length * 1 ≤ 140737488351232)) : PC Try.prog 6 [.agg [L.v (.int .u8 y0.1), L.v (.int .u8 y0.2.1), L.v (.int .u64 y0.2.2.1), L.sl 1 false (y0.2.2.2.1.map fun (z : List (Int)) => L.sl 1 false (z.map fun (z : Int) => L.v (.int .u8 z))), L.sl 1 false (y0.2.2.2.2.map fun (z : Int) => L.v (.int .u8 z))]] (.v (.bool true)) := by
  obtain ⟨ym, yk, seed, l, key⟩ := y0
  obtain ⟨hm, hk, hseed, -, -⟩ := h0
  simp [Lit.wf, IntKind.min, IntKind.max, IntKind.signed, IntKind.bits] at hm hk hseed ⊢
  obtain ⟨m, em, m1, m2⟩ := size_of (n := 60) hm.1 (by omega) (by omega) (by omega)
  obtain ⟨k, ek, k1, k2⟩ := size_of (n := 16) hk.1 (by omega) (by omega) (by omega)
  refine pc_of_call (callAt_enter ir6 (by simp) ?_)
  simp
  refine callT_closed shown_any rfl ?_
  simp
  by_cases hl : l.length ≤ 100
  · have hl' : ¬ (100 : Int) < (l.length : Int) := by omega
    by_cases hkl : key.length ≤ 100
    · have hkl' : ¬ (100 : Int) < (key.length : Int) := by omega
      simp [hl, hl', hkl, hkl']
      intro q1 q2
      simp [em, ek]
      obtain ⟨st, hst⟩ : ∃ st : List Int → St, st = fun on => ⟨m, k, seed, on, [], []⟩ := ⟨_, rfl⟩
      have hok : ∀ on, (st on).ok := fun on => by rw [hst]; exact ⟨m1, by simp; omega, k1, by simp; omega⟩
      obtain ⟨pl, hpl⟩ : ∃ pl : List Int → List Int, pl = fun key => places key seed k m := ⟨_, rfl⟩
      have hpl' : ∀ on key, (st on).pl key = pl key := fun on key => by rw [hst, hpl]; rfl
      have hput : ∀ on ps, (st on).put 0 ps = st (withP on ps) := fun on ps => by rw [hst]; rfl
      have ha : ∀ on, (st on).a = on := fun on => by rw [hst]
      have hpr : ∀ key, ∀ p ∈ pl key, 0 ≤ p ∧ p < m := fun key => by rw [hpl]; exact places_range key seed k (by omega) (by omega)
      have hplen : ∀ key, (pl key).length = k := fun key => by rw [hpl]; exact places_len _ _ _ _
      have hins : ∀ on (key : List Int), key.length ≤ 1000000000 → PC Try.prog 11 [(st on).L, .sl 1 false (key.map u8L)] (.tup [(st (withP on (pl key))).L, boolL (!allIn on (pl key))]) := fun on key hl => by
        have := insert_any (st on) (hok on) key false hl
        rwa [hpl', hput, ha] at this
      have hmem : ∀ on (key : List Int), key.length ≤ 1000000000 → PC Try.prog 17 [(st on).L, .sl 1 false (key.map u8L)] (boolL (allIn on (pl key))) := fun on key hl => by
        have := member_any (st on) (hok on) key false hl
        rwa [hpl', ha] at this
      have hones : ∀ (on : List Int), on.Nodup → (∀ p ∈ on, 0 ≤ p ∧ p < (m : Int)) → PC Try.prog 19 [(st on).L] (intL on.length) := fun on hn hb => by
        have := ones_any (st on) (hok on) (by rw [ha]; exact hn) (by rw [ha]; intro p hp; rw [hst]; exact hb p hp)
        rwa [ha] at this
      have hplc : ∀ (key : List Int), key.length ≤ 1000000000 → PC Try.prog 20 [.sl 1 false (key.map u8L), u64L seed, intL k, intL m] (.sl 1 false ((pl key).map intL)) := fun key hl => by
        have := ref_any false key hl seed k m (by omega) (by omega)
        simp only [Int.toNat_natCast] at this
        rw [hpl]; exact this
      have hnew := new_any m k seed (by have := hok []; rwa [hst] at this)
      have hL : ∀ on, St.L ⟨m, k, seed, on, [], []⟩ = (st on).L := fun on => by rw [hst]
      rw [hL] at hnew
      have hr : ∀ on ps, (∀ p ∈ on, 0 ≤ p ∧ p < (m : Int)) → (∀ p ∈ ps, 0 ≤ p ∧ p < (m : Int)) → ∀ p ∈ withP on ps, 0 ≤ p ∧ p < (m : Int) := fun on ps h1 h2 p hp => by
        rcases withP_mem.1 hp with h | h
        · exact h1 p h
        · exact h2 p h
      simp only [hst, St.L] at hins hmem hones hnew
      have hw0 : ∀ on, St.w ⟨m, k, seed, on, [], []⟩ = (m + 7) / 8 := fun _ => rfl
      simp only [hw0] at hins hmem hones hnew
      generalize (m + 7) / 8 = w at hins hmem hones hnew
      clear hst hok hpl' hput ha hL hw0
      refine callT_closed hnew rfl ?_
      simp
      refine lwp_loop (fun x : Nat × List Int => [(5, u64L seed), (6, .sl 1 false (l.map bytesL)), (7, .sl 1 false (key.map u8L)), (8, boolL true), (9, intL m), (10, intL k), (11, .ptr 0 0), (13, .mref 1), (14, intL x.1)])
        (fun x => [some [intL m, intL k, u64L seed, .sl 1 false ((rowB w x.2).map u8L), .sl 1 false ((rowB w []).map u8L), .sl 1 false ((rowB w []).map u8L)], some [.mp (.i .i64) (setI x.2)]])
        (fun x => l.length - x.1) (fun x => x.1 ≤ l.length ∧ x.2.Nodup ∧ ∀ p ∈ x.2, 0 ≤ p ∧ p < (m : Int)) (0, []) ⟨by simp, by simp, by simp⟩ ⟨[1, 2], ?_⟩ ?_
      · simp [setI]
      · rintro ⟨i, on⟩ ⟨hi, hnd, hrg⟩
        simp at hi hnd hrg ⊢
        refine ⟨fun hlt => ?_, fun hge => ?_⟩
        · simp [hlt]
          obtain ⟨z, hz⟩ : ∃ z, l[i] = z := ⟨_, rfl⟩
          simp only [hz]
          intro hz20
          have hz2 : ¬ (20 : Int) < (z.length : Int) := by omega
          have hzl : z.length ≤ 1000000000 := by omega
          have hp1 := hplc z hzl
          have hi1 := hins on z hzl
          have hlen := hplen z
          have hnd2 := withP_nodup hnd (ps := pl z)
          have hrg2 := hr on (pl z) hrg (hpr z)
          generalize pl z = ps at *
          refine callT_closed hp1 rfl ?_
          simp
          refine lwp_loop (fun j : Nat => [(5, u64L seed), (6, .sl 1 false (l.map bytesL)), (7, .sl 1 false (key.map u8L)), (8, boolL true), (9, intL m), (10, intL k), (11, .ptr 0 0), (13, .mref 1), (14, intL i), (15, .sl 1 false (ps.map intL)), (16, intL j)])
            (fun j => [some [intL m, intL k, u64L seed, .sl 1 false ((rowB w on).map u8L), .sl 1 false ((rowB w []).map u8L), .sl 1 false ((rowB w []).map u8L)], some [.mp (.i .i64) (setI (withP on (ps.take j)))]])
            (fun j => ps.length - j) (fun j => j ≤ ps.length) 0 (by omega) ⟨[0, 1], ?_⟩ ?_
          · simp [withP_nil]
          · intro j hj
            simp at hj ⊢
            refine ⟨fun hjl => ?_, fun hjg => ?_⟩
            · have ht := withP_take (on := on) hjl
              simp [hjl, put_setI]
              refine ⟨j + 1, by omega, by simp <;> omega, [0, 1], ?_⟩
              simp [ht]
              exact wrap_id (by omega) (by omega)
            · have hjl : j = ps.length := by omega
              subst hjl
              rw [List.take_length]
              simp [hlt, hz]
              refine bcallT_closed hi1 rfl ?_
              simp
              refine ⟨(i + 1, withP on ps), ⟨by simp; omega, hnd2, hrg2⟩, by simp <;> omega, [0, 1], ?_⟩
              simp
              exact wrap_id (by omega) (by omega)
        · have hp1 := hplc key (by omega)
          have hi1 := hins on key (by omega)
          have hm1 := hmem on key (by omega)
          have ho1 := hones on hnd hrg
          have hlen := hplen key
          have hnd2 := withP_nodup hnd (ps := pl key)
          have hrg2 := hr on (pl key) hrg (hpr key)
          have ho2 := hones _ hnd2 hrg2
          have hle : on.length ≤ m := by
            have := cnt_all hnd hrg
            have := cnt_le (on := on) (n := m)
            omega
          have hfull : ¬ on.length < m → allIn on (pl key) = true := fun h => allIn_iff.2 fun p hp => all_of_full hnd hrg (by omega) p (hpr key p hp).1 (hpr key p hp).2
          have hsame : allIn on (pl key) = true → withP on (pl key) = on := fun h => withP_old (allIn_iff.1 h)
          generalize pl key = ps at *
          refine callT_closed hp1 rfl ?_
          simp
          refine lwp_loop (fun j : Nat => [(7, .sl 1 false (key.map u8L)), (8, boolL true), (9, intL m), (11, .ptr 0 0), (13, .mref 1), (19, boolL (allIn on (ps.take j))), (20, .sl 1 false (ps.map intL)), (21, intL j)])
            (fun j => [some [intL m, intL k, u64L seed, .sl 1 false ((rowB w on).map u8L), .sl 1 false ((rowB w []).map u8L), .sl 1 false ((rowB w []).map u8L)], some [.mp (.i .i64) (setI on)]])
            (fun j => ps.length - j) (fun j => j ≤ ps.length) 0 (by omega) ⟨[0, 1], ?_⟩ ?_
          · simp [allIn_nil]
          · intro j hj
            simp at hj ⊢
            refine ⟨fun hjl => ?_, fun hjg => ?_⟩
            · have ht := allIn_take (on := on) hjl
              cases hA : allIn on (ps.take j)
              · rw [hA] at ht
                simp [hjl]
                refine ⟨j + 1, by omega, by simp <;> omega, [0, 1], ?_⟩
                simp [ht]
                exact wrap_id (by omega) (by omega)
              · rw [hA] at ht
                by_cases hp : ps[j] ∈ on
                all_goals
                  simp [hjl, look_setI, hp]
                  refine ⟨j + 1, by omega, by simp <;> omega, [0, 1], ?_⟩
                  simp [ht, hp]
                  exact wrap_id (by omega) (by omega)
            · have hjl : j = ps.length := by omega
              subst hjl
              rw [List.take_length]
              refine callT_closed hi1 rfl ?_
              simp
              refine callT_plain ho1 rfl rfl ?_
              simp [setI_length]
              refine callT_plain hm1 rfl rfl ?_
              by_cases hlm : on.length < m
              · have hlm' : (on.length : Int) < (m : Int) := by omega
                simp [hlm, hlm', setI_length]
              · have hlm' : ¬ (on.length : Int) < (m : Int) := by omega
                have h1 := hfull hlm
                have h2 := hsame h1
                rw [h2] at ho2
                rw [h1, h2]
                simp [hlm, hlm', setI_length]
                refine callT_plain ho1 rfl rfl ?_
                simp
                omega
    · have hkl' : (100 : Int) < (key.length : Int) := by omega
      simp [hl, hl', hkl, hkl']
      intro q1 q2
      omega
  · have hl' : (100 : Int) < (l.length : Int) := by omega
    simp [hl']
    intro h
    omega

end Go.Proofs.Ytejjmfladieipaa
