/- What the functions of mix compute. -/
import Derived.Test.YthmiijlgbpkcjaaMixIr
import Derived.Test.YthmiijlgbpkcjaaLgS
namespace Go.Proofs.Ythmiijlgbpkcjaa
open Go Lg

abbrev u8L (n : Int) : L := .v (.int .u8 n)
abbrev u64L (n : Int) : L := .v (.int .u64 n)
abbrev intL (n : Int) : L := .v (.int .i64 n)
abbrev boolL (b : Bool) : L := .v (.bool b)
def hstep (h c : Int) : Int := IntKind.u64.wrap (bitsI .xor .u64 h (IntKind.u64.wrap c) * 1099511628211)
def hloop (s : Int) (bs : List Int) : Int := bs.foldl hstep (bitsI .xor .u64 s 11400714819323198485)
def hend1 (h : Int) : Int := bitsI .xor .u64 h (shrI .u64 h 29)
def hend2 (h : Int) : Int := IntKind.u64.wrap (h * 13787848793156543929)
def hend3 (h : Int) : Int := bitsI .xor .u64 h (shrI .u64 h 32)
def hash (bs : List Int) (s : Int) : Int := hend3 (hend2 (hend1 (hloop s bs)))
def hends (h : Int) : Nat → Int
  | 0 => h
  | 1 => hend1 h
  | 2 => hend2 (hend1 h)
  | _ => hend3 (hend2 (hend1 h))

theorem hloop_succ (s : Int) (bs : List Int) (i : Nat) (h : i < bs.length) : hloop s (bs.take (i + 1)) = hstep (hloop s (bs.take i)) bs[i] := by
  unfold hloop
  rw [List.take_succ_eq_append_getElem h, List.foldl_append]; rfl

theorem hash_any (c : Bool) (bs : List Int) (hl : bs.length ≤ 1000000000) (s : Int) : PC Try.prog 8 [.sl 1 c (bs.map u8L), u64L s] (u64L (hash bs s)) := by
  refine pc_of_call (callAt_enter ir8 (by simp) ?_)
  simp
  refine lwp_loop (fun i : Nat => [(13, .sl 1 c (bs.map u8L)), (14, intL bs.length), (15, intL i), (5, .ptr 0 0)]) (fun i => [some [u64L (hloop s (bs.take i))]]) (fun i => bs.length - i) (fun i => i ≤ bs.length) 0 (Nat.zero_le _) ⟨[0], ?_⟩ ?_
  · simp [hloop]
  · intro i hi
    simp
    refine ⟨fun hlt => ?_, fun hge => ?_⟩
    · simp [hlt]
      refine ⟨i + 1, by simp <;> omega, by simp <;> omega, [0], ?_⟩
      simp [hloop_succ s bs i hlt, hstep]
      exact wrap_id (by omega) (by omega)
    · have : i = bs.length := by omega
      subst this
      rw [List.take_length]
      refine lwp_loop (fun i : Nat => [(29, .agg [.fn (.func 15) [] [.ptr 0 0], .fn (.func 16) [] [.ptr 0 0], .fn (.func 17) [] [.ptr 0 0]]), (30, intL i), (5, .ptr 0 0)]) (fun i => [some [u64L (hends (hloop s bs) i)]]) (fun i => 3 - i) (fun i => i ≤ 3) 0 (by omega) ⟨[0], ?_⟩ ?_
      · simp [hends]
      · intro i hi
        have : i = 0 ∨ i = 1 ∨ i = 2 ∨ i = 3 := by omega
        rcases this with rfl | rfl | rfl | rfl
        · simp
          refine callAt_enter ir15 (by simp) ?_
          simp
          exact ⟨1, by simp, by simp, [0], by simp [hends, hend1]; exact wrap_id (by omega) (by omega)⟩
        · simp
          refine callAt_enter ir16 (by simp) ?_
          simp
          exact ⟨2, by simp, by simp, [0], by simp [hends, hend2]; exact wrap_id (by omega) (by omega)⟩
        · simp
          refine callAt_enter ir17 (by simp) ?_
          simp
          exact ⟨3, by simp, by simp, [0], by simp [hends, hend3]; exact wrap_id (by omega) (by omega)⟩
        · simp [hends, hash]

def refEnd (h : Int) : Int :=
  let h1 := bitsI .xor .u64 h (IntKind.u64.wrap (h.tdiv 536870912))
  let h2 := IntKind.u64.wrap (h1 * 13787848793156543929)
  bitsI .xor .u64 h2 (IntKind.u64.wrap (h2.tdiv 4294967296))
def refHash (bs : List Int) (s : Int) : Int := refEnd (hloop s bs)

theorem ref_hash (c : Bool) (bs : List Int) (hl : bs.length ≤ 1000000000) (s : Int) : PC Try.prog 9 [.sl 1 c (bs.map u8L), u64L s] (u64L (refHash bs s)) := by
  refine pc_of_call (callAt_enter ir9 (by simp) ?_)
  simp
  refine lwp_loop (fun i : Nat => [(0, .sl 1 c (bs.map u8L)), (5, u64L (hloop s (bs.take i))), (6, intL i)]) (fun i => []) (fun i => bs.length - i) (fun i => i ≤ bs.length) 0 (Nat.zero_le _) ⟨[], ?_⟩ ?_
  · simp [hloop]
  · intro i hi
    simp
    refine ⟨fun hlt => ?_, fun hge => ?_⟩
    · simp [hlt]
      refine ⟨i + 1, by simp <;> omega, by simp <;> omega, [], ?_⟩
      simp [hloop_succ s bs i hlt, hstep]
      exact wrap_id (by omega) (by omega)
    · have : i = bs.length := by omega
      subst this
      rw [List.take_length]
      rfl

def place (h n : Int) : Int := if n < 1 then 0 else IntKind.i64.wrap (h.tmod (IntKind.u64.wrap n))

theorem u64_id {n : Int} (h0 : 0 ≤ n) (h1 : n ≤ 9223372036854775807) : IntKind.u64.wrap n = n := by
  simp [IntKind.wrap, IntKind.signed, IntKind.bits]; omega

theorem place_any (f : Nat) (hf : f = 10 ∨ f = 11) (h n : Int) (hn : n ≤ 9223372036854775807) : PC Try.prog f [u64L h, intL n] (intL (place h n)) := by
  rcases hf with rfl | rfl
  all_goals
    first | refine pc_of_call (callAt_enter ir10 (by simp) ?_) | refine pc_of_call (callAt_enter ir11 (by simp) ?_)
    simp [place]
    by_cases h1 : n < 1
    · simp [h1]; omega
    · have h3 := u64_id (show 0 ≤ n by omega) hn
      simp [h1, h3]; omega

def places (bs : List Int) (s : Int) (k : Nat) (n : Int) : List Int := (List.range k).map fun (i : Nat) => place (hash bs (IntKind.u64.wrap (s + IntKind.u64.wrap (i : Int)))) n

@[simp] theorem places_len (bs : List Int) (s : Int) (k : Nat) (n : Int) : (places bs s k n).length = k := by simp [places]
theorem places_succ (bs : List Int) (s : Int) (k : Nat) (n : Int) : places bs s (k + 1) n = places bs s k n ++ [place (hash bs (IntKind.u64.wrap (s + IntKind.u64.wrap (k : Int)))) n] := by
  simp [places, List.range_succ]

def refPlaces (bs : List Int) (s : Int) (k : Nat) (n : Int) : List Int := (List.range k).map fun (i : Nat) => place (refHash bs (IntKind.u64.wrap (s + IntKind.u64.wrap (i : Int)))) n

theorem refPlaces_succ (bs : List Int) (s : Int) (k : Nat) (n : Int) : refPlaces bs s (k + 1) n = refPlaces bs s k n ++ [place (refHash bs (IntKind.u64.wrap (s + IntKind.u64.wrap (k : Int)))) n] := by
  simp [refPlaces, List.range_succ]

theorem places_any (c : Bool) (bs : List Int) (hl : bs.length ≤ 1000000000) (s k n : Int) (hk : k ≤ 1000000) (hn : n ≤ 9223372036854775807) :
    PC Try.prog 13 [.sl 1 c (bs.map u8L), u64L s, intL k, intL n] (.sl 1 false ((places bs s k.toNat n).map intL)) := by
  refine pc_of_call' (callAt_enter ir13 (by simp) ?_)
  simp [mmL]
  refine lwp_loop (fun i : Nat => [(0, .sl 1 c (bs.map u8L)), (1, u64L s), (3, intL n), (9, if i = 0 then .v (.slice none 0 0) else .view 1 0 0 i false), (12, intL k.toNat), (13, intL i)])
    (fun i => if i = 0 then [] else [some ((places bs s i n).map intL)]) (fun i => k.toNat - i) (fun i => i ≤ k.toNat) 0 (Nat.zero_le _) ⟨[], ?_⟩ ?_
  · simp
    omega
  · intro i hi
    by_cases h0 : i = 0
    · subst h0
      simp
      refine ⟨fun hlt => ?_, fun hge => ?_⟩
      · refine callT_closed (hash_any c bs hl _) rfl ?_
        simp
        refine callT_plain (place_any 10 (.inl rfl) _ _ hn) rfl rfl ?_
        simp
        refine ⟨1, by simp <;> omega, by simp <;> omega, [1], ?_⟩
        simp [places]
        exact wrap_id (by omega) (by omega)
      · have : k.toNat = 0 := by omega
        simp [this, places]
        exact .nil _ _
    · simp [h0]
      refine ⟨fun hlt => ?_, fun hge => ?_⟩
      · refine callT_closed (hash_any c bs hl _) rfl ?_
        simp
        refine callT_plain (place_any 10 (.inl rfl) _ _ hn) rfl rfl ?_
        simp
        refine ⟨by omega, i + 1, by simp <;> omega, by simp <;> omega, [2], ?_⟩
        simp [places_succ]
        exact wrap_id (by omega) (by omega)
      · have : k.toNat = i := by omega
        simp [this]
        exact .refl _

@[simp] theorem refPlaces_len (bs : List Int) (s : Int) (k : Nat) (n : Int) : (refPlaces bs s k n).length = k := by simp [refPlaces]

theorem refPlaces_any (c : Bool) (bs : List Int) (hl : bs.length ≤ 1000000000) (s k n : Int) (hk : k ≤ 1000000) (hn : n ≤ 9223372036854775807) :
    PC Try.prog 14 [.sl 1 c (bs.map u8L), u64L s, intL k, intL n] (.sl 1 false ((refPlaces bs s k.toNat n).map intL)) := by
  refine pc_of_call' (callAt_enter ir14 (by simp) ?_)
  simp
  refine lwp_loop (fun i : Nat => [(0, .sl 1 c (bs.map u8L)), (1, u64L s), (3, intL n), (9, if i = 0 then .v (.slice none 0 0) else .view 1 0 0 i false), (2, intL k), (10, intL i)])
    (fun i => if i = 0 then [] else [some ((refPlaces bs s i n).map intL)]) (fun i => k.toNat - i) (fun i => i ≤ k.toNat) 0 (Nat.zero_le _) ⟨[], ?_⟩ ?_
  · simp
  · intro i hi
    by_cases h0 : i = 0
    · subst h0
      simp
      refine ⟨fun hlt => ?_, fun hge => ?_⟩
      · refine callT_closed (ref_hash c bs hl _) rfl ?_
        simp
        refine callT_plain (place_any 11 (.inr rfl) _ _ hn) rfl rfl ?_
        simp
        refine ⟨1, by simp <;> omega, by simp <;> omega, [1], ?_⟩
        simp [refPlaces]
        exact wrap_id (by omega) (by omega)
      · have : k.toNat = 0 := by omega
        simp [this, refPlaces]
        exact .nil _ _
    · simp [h0]
      refine ⟨fun hlt => ?_, fun hge => ?_⟩
      · refine callT_closed (ref_hash c bs hl _) rfl ?_
        simp
        refine callT_plain (place_any 11 (.inr rfl) _ _ hn) rfl rfl ?_
        simp
        refine ⟨by omega, i + 1, by simp <;> omega, by simp <;> omega, [2], ?_⟩
        simp [refPlaces_succ]
        exact wrap_id (by omega) (by omega)
      · have : k.toNat = i := by omega
        simp [this]
        exact .refl _

theorem vec_any (c c' : Bool) (xs ys : List Int) (hl : xs.length ≤ 1000000000) : PC Try.prog 12 [.sl 1 c (xs.map intL), .sl 1 c' (ys.map intL)] (boolL (decide (xs = ys))) := by
  refine pc_of_call (callAt_enter ir12 (by simp) ?_)
  simp
  refine ⟨fun hne e => hne (by rw [e]), fun hlen => ?_⟩
  refine lwp_loop (fun i : Nat => [(0, .sl 1 c (xs.map intL)), (1, .sl 1 c' (ys.map intL)), (5, intL i)]) (fun i => []) (fun i => xs.length - i) (fun i => i ≤ xs.length ∧ xs.take i = ys.take i) 0 (by simp) ⟨[], ?_⟩ ?_
  · simp
  · rintro i ⟨hi, he⟩
    simp
    refine ⟨fun hlt => ?_, fun hge => ?_⟩
    · have hlt' : i < ys.length := by omega
      simp [hlt, hlt']
      refine ⟨fun hne e => hne (by simp [e]), fun heq => ⟨i + 1, ?_, by simp <;> omega, [], ?_⟩⟩
      · refine ⟨by omega, ?_⟩
        rw [List.take_succ_eq_append_getElem hlt, List.take_succ_eq_append_getElem hlt', he, heq]
      · simp
        exact wrap_id (by omega) (by omega)
    · have h1 : i = xs.length := by omega
      have h2 : i = ys.length := by omega
      have : xs = ys := by
        rw [h1, List.take_length, ← h1, h2, List.take_length] at he
        exact he
      simp [this]
theorem u64_range (x : Int) : 0 ≤ IntKind.u64.wrap x ∧ IntKind.u64.wrap x < 18446744073709551616 := by
  simp [IntKind.wrap, IntKind.signed, IntKind.bits]; omega

theorem hloop_range (s : Int) (bs : List Int) : 0 ≤ hloop s bs ∧ hloop s bs < 18446744073709551616 := by
  unfold hloop
  have h0 : 0 ≤ bitsI .xor .u64 s 11400714819323198485 ∧ bitsI .xor .u64 s 11400714819323198485 < 18446744073709551616 := u64_range _
  revert h0
  generalize bitsI .xor .u64 s 11400714819323198485 = h
  induction bs generalizing h with
  | nil => exact id
  | cons b bs ih => intro _; exact ih _ (u64_range _)

theorem shr_quo {h : Int} (h0 : 0 ≤ h ∧ h < 18446744073709551616) : shrI .u64 h 29 = IntKind.u64.wrap (h.tdiv 536870912) ∧ shrI .u64 h 32 = IntKind.u64.wrap (h.tdiv 4294967296) := by
  simp [shrI, IntKind.bits, IntKind.wrap, IntKind.signed]
  rw [Int.tdiv_eq_ediv_of_nonneg h0.1, Int.tdiv_eq_ediv_of_nonneg h0.1, Int.fdiv_eq_ediv_of_nonneg _ (by omega), Int.fdiv_eq_ediv_of_nonneg _ (by omega)]
  omega

theorem hash_ref (bs : List Int) (s : Int) : refHash bs s = hash bs s := by
  have h1 := hloop_range s bs
  unfold refHash hash refEnd hend3 hend2 hend1
  simp only
  rw [← (shr_quo h1).1, ← (shr_quo (u64_range _)).2]

theorem places_ref (bs : List Int) (s : Int) (k : Nat) (n : Int) : refPlaces bs s k n = places bs s k n := by
  simp [refPlaces, places, hash_ref]

theorem place_17_5 : place 17 5 = 2 := by decide
theorem place_17_0 : place 17 0 = 0 := by decide
theorem hash_ab : hash [97] 1 ≠ hash [98] 1 := by decide

theorem shown_any : PC Try.prog 7 [] (boolL true) := by
  refine pc_of_call (callAt_enter ir7 (by simp) ?_)
  simp
  refine callT_plain (place_any 10 (.inl rfl) _ _ (by omega)) rfl rfl ?_
  simp [place_17_5]
  refine callT_plain (place_any 10 (.inl rfl) _ _ (by omega)) rfl rfl ?_
  simp [place_17_0]
  refine callT_plain ((hash_any true [] (by simp) _).sub (.cons (.nil _ _) (.refl _)) (.refl _)) rfl rfl ?_
  simp
  refine callT_plain ((ref_hash true [] (by simp) _).sub (.cons (.nil _ _) (.refl _)) (.refl _)) rfl rfl ?_
  simp [hash_ref]
  refine callT_plain (hash_any true [97] (by simp) _) rfl rfl ?_
  simp
  refine callT_plain (hash_any true [98] (by simp) _) rfl rfl ?_
  simp [hash_ab]
  refine callT_freeze [2] (places_any true [97] (by simp) 0 3 7 (by omega) (by omega)) rfl ?_
  simp
end Go.Proofs.Ythmiijlgbpkcjaa
