/- FULL: just a key that isn't in it is refused, and just where there are as many as the cap. -/
import Derived.Test.YtadpjaolnkliiaaFlatShown
import Derived.Test.YtadpjaolnkliiaaLibMap
namespace Go.Proofs.Ytadpjaolnkliiaa
open Go Lg

theorem set_none (cap : Int) {keys : List (List Int)} {slots : List Int} (ht : Tab keys slots) (fl key : List Int) (hkey : ∀ z ∈ key, isByte z) (hkl : key.length ≤ 1000000000) (ck : Bool) (flag : Int) (hf : flag = 0 ∨ flag = 1) (hk : key ∉ keys) :
    PC Try.prog 10 [fL cap keys slots fl, .sl 1 ck (key.map u8L), intL flag] (.tup [fL cap keys slots fl, intL 10]) := by
  have hb : ¬ bitOf flag = 0 := by unfold bitOf; rcases hf with rfl | rfl <;> simp
  have h := bit_any flag
  have hfd := find_tab ir23 ir30 seekF cap false false ck ht key hkey hkl
  rw [if_neg hk, show decide (key ∈ keys) = false by simpa using hk] at hfd
  refine pc_of_call' (callAt_enter ir10 (by simp) ?_)
  simp
  refine callAt_enter ir18 (by simp) ?_
  simp
  refine callT_plain h rfl rfl ?_
  simp [hb]
  refine callT_plain hfd rfl rfl ?_
  simp
  exact .refl _

theorem flag_any (b : Bool) : PC Try.prog 13 [boolL b] (intL b.toNat) := by
  refine pc_of_call (callAt_enter ir13 (by simp) ?_)
  cases b <;> simp

set_option maxRecDepth 100000 in
theorem flatFull_any (y0 : Int) (h0 : (Lit.int .u8 y0).wf = true) (y1 : List ((Int) × (List (Int)) × (Int))) (h1 : (∀ z ∈ y1, ((Lit.int .u8 z.1).wf = true) ∧ ((∀ zz ∈ z.2.1, (Lit.int .u8 zz).wf = true) ∧ z.2.1.length * 1 ≤ 140737488351232) ∧ ((Lit.int .i64 z.2.2).wf = true)) ∧ y1.length * 40 ≤ 140737488351232) : PC Try.prog 4 [L.v (.int .u8 y0), L.sl 3 false (y1.map fun (z : (Int) × (List (Int)) × (Int)) => .agg [L.v (.int .u8 z.1), L.sl 1 false (z.2.1.map fun (z : Int) => L.v (.int .u8 z)), L.v (.int .i64 z.2.2)])] (.v (.bool true)) := by
  simp [Lit.wf, IntKind.min, IntKind.max, IntKind.signed, IntKind.bits] at h0
  obtain ⟨hz, hll⟩ := h1
  have hbs : ∀ z ∈ y1, ∀ x ∈ z.2.1, isByte x := fun z hzm => wf_byte (hz z hzm).2.1.1
  clear hz
  obtain ⟨N, hN, hN2⟩ : ∃ N : Nat, (IntKind.i64.wrap y0).tmod 21 = (N : Int) ∧ N < 21 := by
    refine ⟨(y0 % 21).toNat, ?_, by omega⟩
    rw [wrap_id (by omega) (by omega), Int.tmod_eq_emod_of_nonneg (by omega)]
    omega
  refine pc_of_call (callAt_enter ir4 (by simp) ?_)
  simp
  refine callT_closed shown_any rfl ?_
  simp
  refine callT_plain (few_any y1 40 (by omega)) rfl rfl ?_
  by_cases hf : fewA y1 40 = true
  · obtain ⟨hn, hks⟩ := fewA_len hf
    obtain ⟨s0, t0, hnew⟩ := new_any N (by omega) (by omega)
    simp [hf, hN]
    refine callT_closed hnew rfl ?_
    simp
    obtain ⟨ks, hksd⟩ : ∃ ks : List (List Int), ks = y1.map (·.2.1) := ⟨_, rfl⟩
    have hkl : ks.length = y1.length := by rw [hksd]; simp
    have hsub : ∀ i, ∀ x ∈ kf N (ks.take i), (∀ z ∈ x, isByte z) ∧ x.length ≤ 200 := fun i x hx => by
      have := List.mem_of_mem_take (kf_sub hx)
      rw [hksd] at this
      obtain ⟨z, hzm, rfl⟩ := List.mem_map.1 this
      exact ⟨hbs z hzm, hks z hzm⟩
    refine lwp_loop (fun x : Nat × List Int => [(1, .sl 3 false (y1.map actL)), (5, boolL true), (6, intL N), (7, .ptr 0 0), (9, .mref 1), (10, intL x.1)])
      (fun x => [some [intL N, .sl 1 false ((kf N (ks.take x.1)).map bytesL), .sl 1 false (x.2.map intL), .sl 1 false ((List.replicate (kf N (ks.take x.1)).length (0 : Int)).map u8L)], some [.mp .s (setM skey (kf N (ks.take x.1)))]])
      (fun x => y1.length - x.1) (fun x => x.1 ≤ y1.length ∧ Tab (kf N (ks.take x.1)) x.2) (0, s0) ⟨by simp, by simpa using t0⟩ ⟨[0, 1], ?_⟩ ?_
    · simp [setM]
    · rintro ⟨i, s⟩ ⟨hi, ht⟩
      have hi' : i ≤ y1.length := hi
      simp only at ht
      obtain ⟨hl1, hl2⟩ := kf_len (cap := (N : Int)) (by omega) (ks.take i)
      generalize hfl : List.replicate (kf (N : Int) (ks.take i)).length (0 : Int) = fl
      have hfll : fl.length ≤ 1000 := by rw [← hfl]; simp; omega
      simp [hfl]
      refine ⟨fun hlt => ?_, fun hge => ?_⟩
      · simp [hlt]
        obtain ⟨z, hzz⟩ : ∃ z, y1[i] = z := ⟨_, rfl⟩
        have hzm : z ∈ y1 := hzz ▸ List.getElem_mem hlt
        have hlt' : i < ks.length := by omega
        have hki : ks[i] = z.2.1 := by simp [hksd, hzz]
        have hbz := hbs z hzm
        have hl200 := hks z hzm
        obtain ⟨s', t', hin⟩ := ins_any N ht fl (by omega) z.2.1 hbz (by omega) (by omega)
        have hin := hin false
        have hnext := kf_take (cap := (N : Int)) hlt'
        rw [hki] at hnext
        have hinj : ∀ x ∈ kf N (ks.take i), skey x = skey z.2.1 → x = z.2.1 := fun x hx e => skey_inj (hsub i x hx).1 hbz e
        have hlook := look_setM hinj
        have hput := put_setM hinj
        have hkey : skey z.2.1 = .s (z.2.1.map fun z => UInt8.ofNat z.toNat) := rfl
        rw [hkey] at hlook hput
        have hfl2 : (if insN N (kf N (ks.take i)) z.2.1 = true then fl ++ [0] else fl) = List.replicate (kf N (ks.take (i + 1))).length (0 : Int) := by
          rw [hnext, insK_length, ← hfl]
          cases insN N (kf N (ks.take i)) z.2.1
          · simp
          · simp [List.replicate_succ']
        rw [hfl2] at hin
        rw [← hnext] at t' hin
        have hmem := member_any N t' (List.replicate (kf N (ks.take (i + 1))).length (0 : Int)) z.2.1 hbz (by omega) false
        have hmany := many_any N (kf N (ks.take (i + 1))) s' (List.replicate (kf N (ks.take (i + 1))).length (0 : Int))
        generalize hfl1 : List.replicate (kf (N : Int) (ks.take (i + 1))).length (0 : Int) = fl1 at *
        generalize hK1 : kf (N : Int) (ks.take (i + 1)) = K1 at *
        generalize hK : kf (N : Int) (ks.take i) = K at *
        simp only [hzz]
        refine bcallT_closed hin rfl ?_
        have hw0 : IntKind.i64.wrap (K.length : Int) = K.length := wrap_id (by omega) (by omega)
        have hw1 : IntKind.i64.wrap ((K.length : Int) + 1) = K.length + 1 := wrap_id (by omega) (by omega)
        by_cases hk : z.2.1 ∈ K
        · have e1 : insK N K z.2.1 = K := by simp [insK, hk]
          have e3 : insN N K z.2.1 = false := by simp [insN, hk]
          have e4 : insE N K z.2.1 = 0 := by simp [insE, hk]
          rw [e1] at hnext
          subst hnext
          simp [hlook, hk, e3, e4]
          refine bcallT_plain hmany rfl rfl ?_
          simp [setM_length]
          refine callT_plain (flag_any false) rfl rfl ?_
          simp [hw0, hlt, hzz]
          refine bcallT_plain hmem rfl rfl ?_
          simp [hk]
          refine ⟨(i + 1, s'), ⟨by simp; omega, by simpa [hK1] using t'⟩, by simp <;> omega, [0, 1], ?_⟩
          simp [hK1, hfl1]
          refine ⟨by rw [← hfl1]; simp, ?_⟩
          exact wrap_id (by omega) (by omega)
        · by_cases hc : K.length < N
          · have hc1 : ¬ (N : Int) ≤ (K.length : Int) := by omega
            have hc2 : (K.length : Int) < (N : Int) := by omega
            have hc3 : ¬ N ≤ K.length := by omega
            have e1 : insK N K z.2.1 = K ++ [z.2.1] := by simp [insK, hk, hc3]
            have e3 : insN N K z.2.1 = true := by simp [insN, hk, hc]
            have e4 : insE N K z.2.1 = 0 := by simp [insE, hk, hc3]
            rw [e1] at hnext
            have hin' : z.2.1 ∈ K1 := by rw [hnext]; simp
            have hlen : (K1.length : Int) = (K.length : Int) + 1 := by rw [hnext]; simp
            rw [if_neg hk, ← hnext] at hput
            simp [hlook, hk, e3, e4, setM_length, hc, hc1, hc2, hc3]
            refine bcallT_plain hmany rfl rfl ?_
            simp [setM_length]
            refine callT_plain (flag_any true) rfl rfl ?_
            simp [hw1, hlen, hlt, hzz]
            refine bcallT_plain hmem rfl rfl ?_
            simp [hin', hput]
            refine ⟨(i + 1, s'), ⟨by simp; omega, by simpa [hK1] using t'⟩, by simp <;> omega, [0, 1], ?_⟩
            simp [hK1, hfl1]
            refine ⟨by rw [← hfl1]; simp, ?_⟩
            exact wrap_id (by omega) (by omega)
          · have hc1 : (N : Int) ≤ (K.length : Int) := by omega
            have hc2 : ¬ (K.length : Int) < (N : Int) := by omega
            have hc3 : N ≤ K.length := by omega
            have e1 : insK N K z.2.1 = K := by simp [insK, hc3]
            have e3 : insN N K z.2.1 = false := by simp [insN, hc]
            have e4 : insE N K z.2.1 = 7 := by simp [insE, hk, hc3]
            rw [e1] at hnext
            subst hnext
            simp [hlook, hk, e3, e4, setM_length, hc, hc1, hc2, hc3]
            refine bcallT_plain hmany rfl rfl ?_
            simp [setM_length]
            refine callT_plain (flag_any false) rfl rfl ?_
            simp [hw0, hlt, hzz]
            refine bcallT_plain hmem rfl rfl ?_
            simp [hk]
            refine ⟨(i + 1, s'), ⟨by simp; omega, by simpa [hK1] using t'⟩, by simp <;> omega, [0, 1], ?_⟩
            simp [hK1, hfl1]
            refine ⟨by rw [← hfl1]; simp, ?_⟩
            exact wrap_id (by omega) (by omega)
      · have hil : i = ks.length := by omega
        subst hil
        have hsub' := hsub ks.length
        rw [List.take_length] at ht hsub' hfl
        have hzk : List.replicate 201 (0 : Int) ∉ kf N ks := fun h => by have := (hsub' _ h).2; simp at this
        have hset := set_none N ht fl (List.replicate 201 (0 : Int)) (fun z hz => by rw [List.mem_replicate] at hz; rw [hz.2]; simp [isByte]) (by simp) true 0 (.inl rfl) hzk
        simp only [List.map_replicate] at hset
        simp only [List.take_length]
        refine bcallT_closed hset rfl ?_
        simp
  · simp [hf]

end Go.Proofs.Ytadpjaolnkliiaa
