/- Acts; stores that grow. -/
import Derived.Test.YtejjmfladieipaaBlurShown
namespace Go.Proofs.Ytejjmfladieipaa
open Go Lg

abbrev A := Int × List Int × Int
abbrev actL (z : A) : L := .agg [u8L z.1, .sl 1 false (z.2.1.map u8L), intL z.2.2]

theorem wf_byte {l : List Int} (h : ∀ z ∈ l, (Lit.int .u8 z).wf = true) : ∀ z ∈ l, isByte z := fun z hz => by
  have := h z hz
  simp [Lit.wf, IntKind.min, IntKind.max, IntKind.signed, IntKind.bits] at this
  exact this

/-- A number from 1 to n. -/
theorem size_of {y : Int} (h0 : 0 ≤ y) (h1 : y ≤ 100000) {n : Int} (hn : 0 < n) (hn2 : n ≤ 5000) : ∃ m : Nat, IntKind.i64.wrap (1 + (IntKind.i64.wrap y).tmod n) = (m : Int) ∧ 1 ≤ m ∧ (m : Int) ≤ n := by
  have e : IntKind.i64.wrap y = y := wrap_id (by omega) (by omega)
  have h2 := Int.emod_nonneg y (show n ≠ 0 by omega)
  have h3 := Int.emod_lt_of_pos y hn
  rw [e, Int.tmod_eq_emod_of_nonneg h0, wrap_id (by omega) (by omega)]
  exact ⟨(1 + y % n).toNat, by omega, by omega, by omega⟩

def fewA (l : List A) (most : Int) : Bool := decide ((l.length : Int) ≤ most) && l.all fun k => decide (k.2.1.length ≤ 100)

theorem fewA_len {l : List A} {most : Int} (h : fewA l most = true) : (l.length : Int) ≤ most ∧ ∀ k ∈ l, k.2.1.length ≤ 100 := by
  simp [fewA] at h
  exact ⟨h.1, fun k hk => h.2 k.1 k.2.1 k.2.2 hk⟩

theorem few_any (l : List A) (most : Int) (hl : l.length ≤ 140737488351232) : PC Try.prog 8 [.sl 3 false (l.map actL), intL most] (boolL (fewA l most)) := by
  refine pc_of_call (callAt_enter ir8 (by simp) ?_)
  by_cases h0 : (l.length : Int) ≤ most
  · have h0' : ¬ most < l.length := by omega
    simp [h0']
    refine lwp_loop (fun i : Nat => [(0, .sl 3 false (l.map actL)), (5, intL i)]) (fun _ => []) (fun i => l.length - i) (fun i => i ≤ l.length ∧ ∀ k ∈ l.take i, k.2.1.length ≤ 100) 0 (by simp) ⟨[], ?_⟩ ?_
    · simp
    · rintro i ⟨hi, hk⟩
      simp
      refine ⟨fun hlt => ?_, fun hge => ?_⟩
      · simp [hlt]
        refine ⟨fun hbig => ?_, fun hsm => ?_⟩
        · simp [fewA]
          intro _
          exact ⟨l[i].1, l[i].2.1, ⟨l[i].2.2, List.getElem_mem hlt⟩, by omega⟩
        · have hk2 : ∀ k ∈ l.take (i + 1), k.2.1.length ≤ 100 := fun k hk' => by
            rw [List.take_succ_eq_append_getElem hlt] at hk'
            rcases List.mem_append.1 hk' with h | h
            · exact hk k h
            · simp at h; subst h; omega
          refine ⟨i + 1, ⟨by omega, fun a b c h => hk2 (a, b, c) h⟩, by simp <;> omega, [], ?_⟩
          · simp
            exact wrap_id (by omega) (by omega)
      · have : i = l.length := by omega
        subst this
        rw [List.take_length] at hk
        simp [fewA, h0]
        exact fun a b c h => hk (a, b, c) h
  · have h0' : most < l.length := by omega
    simp [h0', fewA]
    omega

theorem put_same (s : St) (row : Nat) (ps : List Int) : (s.put row ps).m = s.m ∧ (s.put row ps).k = s.k ∧ (s.put row ps).seed = s.seed := by
  match row with
  | 0 => exact ⟨rfl, rfl, rfl⟩
  | 1 => exact ⟨rfl, rfl, rfl⟩
  | n + 2 => exact ⟨rfl, rfl, rfl⟩

theorem put_ok {s : St} (h : s.ok) (row : Nat) (ps : List Int) : (s.put row ps).ok := by
  obtain ⟨e1, e2, e3⟩ := put_same s row ps
  exact ⟨by rw [e1]; exact h.m1, by rw [e1]; exact h.m2, by rw [e2]; exact h.k1, by rw [e2]; exact h.k2⟩

theorem put_pl (s : St) (row : Nat) (ps key : List Int) : (s.put row ps).pl key = s.pl key := by
  obtain ⟨e1, e2, e3⟩ := put_same s row ps
  simp only [St.pl, e1, e2, e3]

theorem put_row (s : St) (row : Nat) (hr : row < 3) (ps : List Int) (r : Nat) (hr2 : r < 3) : (s.put row ps).row r = if r = row then withP (s.row r) ps else s.row r := by
  have h1 : row = 0 ∨ row = 1 ∨ row = 2 := by omega
  have h2 : r = 0 ∨ r = 1 ∨ r = 2 := by omega
  rcases h1 with rfl | rfl | rfl <;> rcases h2 with rfl | rfl | rfl <;> rfl

theorem put_sup {s : St} {row : Nat} (hr : row < 3) {ps : List Int} {r : Nat} (hr2 : r < 3) {qs : List Int} (h : allIn (s.row r) qs = true) : allIn ((s.put row ps).row r) qs = true := by
  rw [put_row s row hr ps r hr2]
  split
  · rw [allIn_iff] at h ⊢
    exact fun p hp => withP_mem.2 (.inl (h p hp))
  · exact h

theorem put_has {s : St} {row : Nat} (hr : row < 3) {ps : List Int} : allIn ((s.put row ps).row row) ps = true := by
  rw [put_row s row hr ps row hr, if_pos rfl, allIn_iff]
  exact fun p hp => withP_mem.2 (.inr hp)

theorem pl_range {s : St} (h : s.ok) (key : List Int) : ∀ p ∈ s.pl key, 0 ≤ p ∧ p < (s.m : Int) := by
  have := h.m1; have := h.m2
  exact places_range key s.seed s.k (by omega) (by omega)
theorem pl_len (s : St) (key : List Int) : (s.pl key).length = s.k := places_len _ _ _ _

end Go.Proofs.Ytejjmfladieipaa
