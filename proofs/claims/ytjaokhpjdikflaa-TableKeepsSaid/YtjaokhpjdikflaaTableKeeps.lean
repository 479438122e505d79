/- KEEPS: keys keep their places. -/
import Derived.Test.YtjaokhpjdikflaaTableShown
import Derived.Test.YtjaokhpjdikflaaLibMap
namespace Go.Proofs.Ytjaokhpjdikflaa
open Go Lg

theorem tableKeeps_any (y0 : Int) (h0 : (Lit.int .u8 y0).wf = true) (y1 : List (List (Int))) (h1 : (∀ z ∈ y1, (∀ zz ∈ z, (Lit.int .u8 zz).wf = true) ∧ z.length * 1 ≤ 140737488351232) ∧ y1.length * 24 ≤ 140737488351232) : PC Try.prog 4 [L.v (.int .u8 y0), L.sl 1 false (y1.map fun (z : List (Int)) => L.sl 1 false (z.map fun (z : Int) => L.v (.int .u8 z)))] (.v (.bool true)) := by
  simp [Lit.wf, IntKind.min, IntKind.max, IntKind.signed, IntKind.bits] at h0
  obtain ⟨hb1, hl1⟩ := h1
  have hbs : ∀ k ∈ y1, ∀ z ∈ k, isByte z := fun k hk => wf_byte (hb1 k hk).1
  obtain ⟨N, hN, hN2⟩ : ∃ N : Nat, (IntKind.i64.wrap y0).tmod 101 = (N : Int) ∧ N < 101 := by
    refine ⟨(y0 % 101).toNat, ?_, by omega⟩
    rw [wrap_id (by omega) (by omega), Int.tmod_eq_emod_of_nonneg (by omega)]
    omega
  refine pc_of_call (callAt_enter ir4 (by simp) ?_)
  simp
  refine callT_closed shown_any rfl ?_
  simp
  refine callT_plain (few_gen ir11 false y1 60 (by omega)) rfl rfl ?_
  by_cases hf : fewK y1 60 = true
  · obtain ⟨hn, hk⟩ := few_len hf
    obtain ⟨s0, t0, -, hnew⟩ := new_any N (by omega) (by omega)
    simp [hf, hN]
    refine callT_closed hnew rfl ?_
    simp
    have hkb : ∀ i, ∀ x ∈ kf N (y1.take i), ∀ z ∈ x, isByte z := fun i x hx => by
      have : ∀ (l K : List (List Int)), (∀ x ∈ K, ∀ z ∈ x, isByte z) → (∀ x ∈ l, ∀ z ∈ x, isByte z) → ∀ x ∈ l.foldl (insK N) K, ∀ z ∈ x, isByte z := by
        intro l
        induction l with
        | nil => intro K h _; exact h
        | cons a l ih =>
          intro K h1 h2
          refine ih _ (fun x hx => ?_) (fun x hx => h2 x (.tail _ hx))
          unfold insK at hx
          split at hx
          · exact h1 x hx
          · rcases List.mem_append.1 hx with hx | hx
            · exact h1 x hx
            · simp at hx; subst hx; exact h2 x (.head _)
      exact this _ [] (by simp) (fun x hx => hbs x (List.mem_of_mem_take hx)) x hx
    refine lwp_loop (fun x : Nat × List Int => [(1, .sl 1 false (y1.map bytesL)), (5, boolL true), (6, intL N), (7, .ptr 0 0), (8, intL 0), (9, .mref 1), (10, intL x.1)]) (fun x => [some (cells3 N false false (kf N (y1.take x.1)) x.2), some [.mp .s (idxM skey (kf N (y1.take x.1)))]]) (fun x => y1.length - x.1) (fun x => x.1 ≤ y1.length ∧ Tab (kf N (y1.take x.1)) x.2) (0, s0) ⟨by simp, by simpa using t0⟩ ⟨[0, 1], ?_⟩ ?_
    · simp [idxM, idxFrom]
    · rintro ⟨i, s⟩ ⟨hi, ht⟩
      simp at ht hi ⊢
      refine ⟨fun hlt => ?_, fun hge => ?_⟩
      · simp [hlt]
        obtain ⟨hl1, hl2⟩ := kf_len (cap := (N : Int)) (by omega) (y1.take i)
        have hbi := hbs _ (List.getElem_mem hlt)
        have hinj : ∀ x ∈ kf N (y1.take i), skey x = skey y1[i] → x = y1[i] := fun x hx e => skey_inj (hkb i x hx) hbi e
        obtain ⟨s', t', hin⟩ := ins_any N ht y1[i] hbi (by have := hk _ (List.getElem_mem hlt); omega) (by omega)
        have hin := hin false
        have hnext := kf_take (cap := (N : Int)) hlt
        have hlook := look_idxM hinj
        have hput := put_idxM hinj
        have hkey : skey y1[i] = .s (y1[i].map fun z => UInt8.ofNat z.toNat) := rfl
        rw [hkey] at hlook hput
        rw [← hnext] at t'
        generalize hK : kf (N : Int) (y1.take i) = K at *
        by_cases hk : y1[i] ∈ K
        · have e1 : insK N K y1[i] = K := by simp [insK, hk]
          have e2 : insI N K y1[i] = idx K y1[i] := by simp [insI, hk]
          have e3 : insN N K y1[i] = false := by simp [insN, hk]
          have e4 : insE N K y1[i] = 0 := by simp [insE, hk]
          rw [e1] at hnext
          rw [hnext] at t'
          rw [e1, e2, e3, e4] at hin
          simp [hlook, hk]
          refine bcallT_closed hin rfl ?_
          simp [hlt]
          refine ⟨(i + 1, s'), ⟨by simp; omega, by simpa [hnext] using t'⟩, by simp <;> omega, [0, 1], ?_⟩
          simp [hnext]
          exact wrap_id (by omega) (by omega)
        · simp [hlook, hk]
          refine bcallT_closed hin rfl ?_
          by_cases hc : K.length < N
          · have hc1 : ¬ (N : Int) ≤ (K.length : Int) := by omega
            have hc2 : (K.length : Int) < (N : Int) := by omega
            have hc3 : ¬ N ≤ K.length := by omega
            have e1 : insK N K y1[i] = K ++ [y1[i]] := by simp [insK, hk, hc3]
            have e2 : insI N K y1[i] = K.length := by simp [insI, hk, hc3]
            have e3 : insN N K y1[i] = true := by simp [insN, hk, hc]
            have e4 : insE N K y1[i] = 0 := by simp [insE, hk, hc3]
            rw [e1] at hnext
            rw [hnext] at t'
            simp [hlt, e1, e2, e3, e4, idxM_length, hc, hc1, hc2, hc3, hput hk]
            refine ⟨(i + 1, s'), ⟨by simp; omega, by simpa [hnext] using t'⟩, by simp <;> omega, [0, 1], ?_⟩
            simp [hnext]
            exact wrap_id (by omega) (by omega)
          · have hc1 : (N : Int) ≤ (K.length : Int) := by omega
            have hc2 : ¬ (K.length : Int) < (N : Int) := by omega
            have hc3 : N ≤ K.length := by omega
            have e1 : insK N K y1[i] = K := by simp [insK, hc3]
            have e2 : insI N K y1[i] = 0 := by simp [insI, hk, hc3]
            have e3 : insN N K y1[i] = false := by simp [insN, hc]
            have e4 : insE N K y1[i] = 7 := by simp [insE, hk, hc3]
            rw [e1] at hnext
            rw [hnext] at t'
            simp [hlt, e1, e2, e3, e4, idxM_length, hc, hc1, hc2, hc3]
            refine ⟨(i + 1, s'), ⟨by simp; omega, by simpa [hnext] using t'⟩, by simp <;> omega, [0, 1], ?_⟩
            simp [hnext]
            exact wrap_id (by omega) (by omega)
      · have hil : i = y1.length := by omega
        subst hil
        have hkb' := hkb y1.length
        rw [List.take_length] at ht hkb'
        simp only [List.take_length]
        obtain ⟨hl1, hl2⟩ := kf_len (cap := (N : Int)) (by omega) y1
        generalize hK : kf (N : Int) y1 = K at *
        refine lwp_loop (fun j : Nat => [(1, .sl 1 false (y1.map bytesL)), (5, boolL true), (7, .ptr 0 0), (8, intL 0), (9, .mref 1), (18, intL j)]) (fun j => [some (cells3 N false false K s), some [.mp .s (idxM skey K)]]) (fun j => y1.length - j) (fun j => j ≤ y1.length) 0 (by omega) ⟨[0, 1], ?_⟩ ?_
        · simp
        · intro j hj
          simp at hj ⊢
          refine ⟨fun hlt => ?_, fun hge => ?_⟩
          · have hbi := hbs _ (List.getElem_mem hlt)
            have hl200 := hk _ (List.getElem_mem hlt)
            have hinj : ∀ x ∈ K, skey x = skey y1[j] → x = y1[j] := fun x hx e => skey_inj (hkb' x hx) hbi e
            have hlook := look_idxM hinj
            have hkey : skey y1[j] = .s (y1[j].map fun z => UInt8.ofNat z.toNat) := rfl
            rw [hkey] at hlook
            have hfind := find_any N ht y1[j] hbi (by omega) false
            by_cases hk : y1[j] ∈ K
            · rw [if_pos hk, decide_eq_true hk] at hfind
              have hlt' := idx_lt hk
              have hkey := key_tab ir13 ir18 N false false K s (idx K y1[j]) (by omega) (by simpa using hlt') (by simp only [Int.toNat_natCast]; rw [idx_get hlt']; omega)
              simp only [Int.toNat_natCast] at hkey
              rw [idx_get hlt'] at hkey
              simp [hlt, hlook, hk]
              refine callT_plain hfind rfl rfl ?_
              simp
              refine callT_closed hkey rfl ?_
              simp [hlt]
              refine ⟨j + 1, by omega, by simp <;> omega, [0, 1], ?_⟩
              simp
              exact wrap_id (by omega) (by omega)
            · rw [if_neg hk, decide_eq_false hk] at hfind
              simp [hlt, hlook, hk]
              refine callT_plain hfind rfl rfl ?_
              simp
              refine ⟨j + 1, by omega, by simp <;> omega, [0, 1], ?_⟩
              simp
              exact wrap_id (by omega) (by omega)
          · refine callT_plain (many_tab ir10 N false false K s) rfl rfl ?_
            simp [idxM_length]
            refine callT_closed (keys_any N K s (by omega)) rfl ?_
            simp [idxM_length]
  · simp [hf]

end Go.Proofs.Ytjaokhpjdikflaa
