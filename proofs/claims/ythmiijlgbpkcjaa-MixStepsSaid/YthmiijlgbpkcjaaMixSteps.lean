/- The third statement of mix: each step of the hash can be undone. -/
import Derived.Test.YthmiijlgbpkcjaaMixFn
namespace Go.Proofs.Ythmiijlgbpkcjaa
open Go Lg

def U (x : Int) : Prop := 0 ≤ x ∧ x < 18446744073709551616

theorem U_wrap (x : Int) : U (IntKind.u64.wrap x) := u64_range x
theorem U_bits (x y : Int) : U (bitsI .xor .u64 x y) := u64_range _

theorem xor_nat {x y : Int} (hx : U x) (hy : U y) : bitsI .xor .u64 x y = ((x.toNat ^^^ y.toNat : Nat) : Int) := by
  have e : ∀ {z : Int}, U z → (BitVec.ofInt 64 z).toNat = z.toNat := fun {z} hz => by
    rw [BitVec.toNat_ofInt]
    obtain ⟨h1, h2⟩ := hz
    rw [Int.emod_eq_of_lt h1 (by omega)]
  have hlt : x.toNat ^^^ y.toNat < 2 ^ 64 := Nat.xor_lt_two_pow (by have := hx.2; have := hx.1; omega) (by have := hy.2; have := hy.1; omega)
  show IntKind.u64.wrap ((BitVec.ofInt 64 x ^^^ BitVec.ofInt 64 y).toNat : Int) = _
  rw [BitVec.toNat_xor, e hx, e hy]
  simp only [IntKind.wrap, IntKind.signed, IntKind.bits]
  simp
  omega

theorem toNat_inj {x y : Int} (hx : U x) (hy : U y) (h : x.toNat = y.toNat) : x = y := by
  obtain ⟨h1, -⟩ := hx
  obtain ⟨h2, -⟩ := hy
  omega

theorem xor_left {x y a : Int} (hx : U x) (hy : U y) (ha : U a) (h : bitsI .xor .u64 x a = bitsI .xor .u64 y a) : x = y := by
  rw [xor_nat hx ha, xor_nat hy ha] at h
  have h : x.toNat ^^^ a.toNat = y.toNat ^^^ a.toNat := by omega
  have h2 := congrArg (· ^^^ a.toNat) h
  simp only [Nat.xor_assoc, Nat.xor_self, Nat.xor_zero] at h2
  exact toNat_inj hx hy h2

theorem xor_right {x y a : Int} (hx : U x) (hy : U y) (ha : U a) (h : bitsI .xor .u64 a x = bitsI .xor .u64 a y) : x = y := by
  rw [xor_nat ha hx, xor_nat ha hy] at h
  have h : a.toNat ^^^ x.toNat = a.toNat ^^^ y.toNat := by omega
  have h2 := congrArg (a.toNat ^^^ ·) h
  simp only [← Nat.xor_assoc, Nat.xor_self, Nat.zero_xor] at h2
  exact toNat_inj hx hy h2

theorem nat_shift {x y k : Nat} (hk : 0 < k) (h : x ^^^ (x >>> k) = y ^^^ (y >>> k)) : x = y := by
  have hz : (x ^^^ y) = (x ^^^ y) >>> k := by
    rw [Nat.shiftRight_xor_distrib]
    have h2 := congrArg (fun t => y ^^^ t ^^^ (x >>> k)) h
    rw [show y ^^^ (x ^^^ x >>> k) ^^^ x >>> k = x ^^^ y by
      rw [Nat.xor_assoc, Nat.xor_assoc, Nat.xor_self, Nat.xor_zero, Nat.xor_comm]] at h2
    rw [h2, ← Nat.xor_assoc, Nat.xor_self, Nat.zero_xor, Nat.xor_comm]
  rw [Nat.shiftRight_eq_div_pow] at hz
  have h0 : x ^^^ y = 0 := by
    rcases Nat.eq_zero_or_pos (x ^^^ y) with h0 | h0
    · exact h0
    · have : (x ^^^ y) / 2 ^ k < x ^^^ y := Nat.div_lt_self h0 (Nat.one_lt_two_pow (by omega))
      omega
  have := congrArg (· ^^^ y) h0
  simp only [Nat.xor_assoc, Nat.xor_self, Nat.xor_zero, Nat.zero_xor] at this
  exact this

theorem shift_inj {x y : Int} (hx : U x) (hy : U y) {k : Nat} (hk : 0 < k) (hk2 : k ≤ 64) (h : bitsI .xor .u64 x (shrI .u64 x k) = bitsI .xor .u64 y (shrI .u64 y k)) : x = y := by
  have e : ∀ {z : Int}, U z → shrI .u64 z k = ((z.toNat >>> k : Nat) : Int) ∧ U (shrI .u64 z k) := fun {z} hz => by
    have h1 : shrI .u64 z k = ((z.toNat >>> k : Nat) : Int) := by
      simp only [shrI, IntKind.bits, Int.toNat_natCast, Nat.min_eq_left hk2]
      rw [Int.fdiv_eq_ediv_of_nonneg _ (Int.pow_nonneg (by decide)), Nat.shiftRight_eq_div_pow]
      obtain ⟨h1, -⟩ := hz
      obtain ⟨m, rfl⟩ := Int.eq_ofNat_of_zero_le h1
      simp
    refine ⟨h1, ?_⟩
    rw [h1]
    have : z.toNat >>> k ≤ z.toNat := by rw [Nat.shiftRight_eq_div_pow]; exact Nat.div_le_self _ _
    obtain ⟨h1, h2⟩ := hz
    revert this
    generalize z.toNat >>> k = m
    intro this
    exact ⟨by omega, by omega⟩
  rw [xor_nat hx (e hx).2, xor_nat hy (e hy).2, (e hx).1, (e hy).1] at h
  simp only [Int.toNat_natCast] at h
  exact toNat_inj hx hy (nat_shift hk (by omega))

theorem mul_inj {x y a b : Int} (hx : U x) (hy : U y) (hab : a * b % 18446744073709551616 = 1) (h : IntKind.u64.wrap (x * a) = IntKind.u64.wrap (y * a)) : x = y := by
  have e : ∀ {z : Int}, U z → (IntKind.u64.wrap (z * a) * b) % 18446744073709551616 = z := fun {z} hz => by
    have : IntKind.u64.wrap (z * a) = (z * a) % 18446744073709551616 := by simp [IntKind.wrap, IntKind.signed, IntKind.bits]
    rw [this, Int.mul_emod, Int.emod_emod_of_dvd _ (Int.dvd_refl _), ← Int.mul_emod, Int.mul_assoc, Int.mul_emod, hab, Int.mul_one, Int.emod_emod_of_dvd _ (Int.dvd_refl _)]
    exact Int.emod_eq_of_lt hz.1 hz.2
  rw [← e hx, ← e hy, h]

theorem hend_inj {x y : Int} (hx : U x) (hy : U y) (h : hend3 (hend2 (hend1 x)) = hend3 (hend2 (hend1 y))) : x = y := by
  have h1 : hend2 (hend1 x) = hend2 (hend1 y) := shift_inj (U_wrap _) (U_wrap _) (k := 32) (by omega) (by omega) h
  have h2 : hend1 x = hend1 y := mul_inj (b := 10871156337175269513) (U_bits _ _) (U_bits _ _) (by decide) h1
  exact shift_inj hx hy (k := 29) (by omega) (by omega) h2

theorem hloop_U (s : Int) (bs : List Int) : U (hloop s bs) := hloop_range s bs

theorem hstep_left {x y c : Int} (hx : U x) (hy : U y) (h : hstep x c = hstep y c) : x = y :=
  xor_left hx hy (U_wrap _) (mul_inj (b := 14886173955864302971) (U_bits _ _) (U_bits _ _) (by decide) h)

theorem hstep_right {x c d : Int} (hx : U x) (hc : 0 ≤ c ∧ c ≤ 255) (hd : 0 ≤ d ∧ d ≤ 255) (h : hstep x c = hstep x d) : c = d := by
  have := xor_right (U_wrap _) (U_wrap _) hx (mul_inj (b := 14886173955864302971) (U_bits _ _) (U_bits _ _) (by decide) h)
  rwa [u64_id hc.1 (by omega), u64_id hd.1 (by omega)] at this

theorem hash_last {bs : List Int} {s c d : Int} (hc : 0 ≤ c ∧ c ≤ 255) (hd : 0 ≤ d ∧ d ≤ 255) : hash (bs ++ [c]) s = hash (bs ++ [d]) s ↔ c = d := by
  refine ⟨fun h => ?_, fun h => by rw [h]⟩
  have h1 := hend_inj (hloop_U _ _) (hloop_U _ _) h
  simp only [hloop, List.foldl_append, List.foldl_cons, List.foldl_nil] at h1
  exact hstep_right (hloop_U s bs) hc hd h1

theorem hash_seed {bs : List Int} {s t : Int} (hs : U s) (ht : U t) : hash bs s = hash bs t ↔ s = t := by
  refine ⟨fun h => ?_, fun h => by rw [h]⟩
  have h1 := hend_inj (hloop_U _ _) (hloop_U _ _) h
  have h2 : bitsI .xor .u64 s 11400714819323198485 = bitsI .xor .u64 t 11400714819323198485 := by
    have : ∀ (bs : List Int) (x y : Int), U x → U y → bs.foldl hstep x = bs.foldl hstep y → x = y := by
      intro bs
      induction bs with
      | nil => intro x y _ _ h; exact h
      | cons b bs ih => intro x y hx hy h; exact hstep_left hx hy (ih _ _ (U_wrap _) (U_wrap _) h)
    exact this bs _ _ (U_bits _ _) (U_bits _ _) h1
  exact xor_left hs ht ⟨by decide, by decide⟩ h2

theorem mixSteps_any (y0 : (List (Int)) × (Int) × (Int) × (Int) × (Int)) (h0 : ((∀ z ∈ y0.1, (Lit.int .u8 z).wf = true) ∧ y0.1.length * 1 ≤ 140737488351232) ∧ ((Lit.int .u8 y0.2.1).wf = true) ∧ ((Lit.int .u8 y0.2.2.1).wf = true) ∧ ((Lit.int .u64 y0.2.2.2.1).wf = true) ∧ ((Lit.int .u64 y0.2.2.2.2).wf = true)) :
    PC Try.prog 5 [.agg [L.sl 1 false (y0.1.map fun (z : Int) => L.v (.int .u8 z)), L.v (.int .u8 y0.2.1), L.v (.int .u8 y0.2.2.1), L.v (.int .u64 y0.2.2.2.1), L.v (.int .u64 y0.2.2.2.2)]] (.v (.bool true)) := by
  obtain ⟨bs, c, d, s, t⟩ := y0
  obtain ⟨⟨hbs, hlen⟩, hc, hd, hs, ht⟩ := h0
  simp [Lit.wf, IntKind.min, IntKind.max, IntKind.signed, IntKind.bits] at hc hd hs ht hlen ⊢
  refine pc_of_call (callAt_enter ir5 (by simp) ?_)
  simp
  refine callT_closed shown_any rfl ?_
  simp
  intro h1
  refine ⟨by omega, by omega, by omega, by omega, ?_⟩
  refine callT_plain (hash_any false (bs ++ [c]) (by simp; omega) s) rfl (by simp) ?_
  simp
  refine callT_plain (hash_any false (bs ++ [d]) (by simp; omega) s) rfl (by simp) ?_
  simp [hash_last (bs := bs) (s := s) (c := c) (d := d) ⟨hc.1, hc.2⟩ ⟨hd.1, hd.2⟩]
  refine callT_plain (hash_any false bs (by omega) s) rfl rfl ?_
  simp
  refine callT_plain (hash_any false bs (by omega) t) rfl rfl ?_
  simp [hash_seed (bs := bs) (s := s) (t := t) ⟨hs.1, by omega⟩ ⟨ht.1, by omega⟩]
end Go.Proofs.Ythmiijlgbpkcjaa
