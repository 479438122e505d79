/- The document's example; acts. -/
import Derived.Test.YtadpjaolnkliiaaFlatFn
namespace Go.Proofs.Ytadpjaolnkliiaa
open Go Lg

abbrev A := Int × List Int × Int
abbrev actL (z : A) : L := .agg [u8L z.1, .sl 1 false (z.2.1.map u8L), intL z.2.2]

theorem wf_byte {l : List Int} (h : ∀ z ∈ l, (Lit.int .u8 z).wf = true) : ∀ z ∈ l, isByte z := fun z hz => by
  have := h z hz
  simp [Lit.wf, IntKind.min, IntKind.max, IntKind.signed, IntKind.bits] at this
  exact this

def fewA (l : List A) (most : Int) : Bool := decide ((l.length : Int) ≤ most) && l.all fun k => decide (k.2.1.length ≤ 200)

theorem fewA_len {l : List A} {most : Int} (h : fewA l most = true) : (l.length : Int) ≤ most ∧ ∀ k ∈ l, k.2.1.length ≤ 200 := by
  simp [fewA] at h
  exact ⟨h.1, fun k hk => h.2 k.1 k.2.1 k.2.2 hk⟩

theorem few_any (l : List A) (most : Int) (hl : l.length ≤ 140737488351232) : PC Try.prog 7 [.sl 3 false (l.map actL), intL most] (boolL (fewA l most)) := by
  refine pc_of_call (callAt_enter ir7 (by simp) ?_)
  by_cases h0 : (l.length : Int) ≤ most
  · have h0' : ¬ most < l.length := by omega
    simp [h0']
    refine lwp_loop (fun i : Nat => [(0, .sl 3 false (l.map actL)), (5, intL i)]) (fun _ => []) (fun i => l.length - i) (fun i => i ≤ l.length ∧ ∀ k ∈ l.take i, k.2.1.length ≤ 200) 0 (by simp) ⟨[], ?_⟩ ?_
    · simp
    · rintro i ⟨hi, hk⟩
      simp
      refine ⟨fun hlt => ?_, fun hge => ?_⟩
      · simp [hlt]
        refine ⟨fun hbig => ?_, fun hsm => ?_⟩
        · simp [fewA]
          intro _
          exact ⟨l[i].1, l[i].2.1, ⟨l[i].2.2, List.getElem_mem hlt⟩, by omega⟩
        · have hk2 : ∀ k ∈ l.take (i + 1), k.2.1.length ≤ 200 := fun k hk' => by
            rw [List.take_succ_eq_append_getElem hlt] at hk'
            rcases List.mem_append.1 hk' with h | h
            · exact hk k h
            · simp at h; subst h; omega
          refine ⟨i + 1, ⟨by omega, fun a b c h => hk2 (a, b, c) h⟩, by simp <;> omega, [], ?_⟩
          · simp
            exact wrap_id (by omega) (by omega)
      · have : i = l.length := by omega
        subst this
        rw [List.take_length] at hk
        simp [fewA, h0]
        exact fun a b c h => hk (a, b, c) h
  · have h0' : most < l.length := by omega
    simp [h0', fewA]
    omega


set_option maxRecDepth 100000 in
theorem shown_any : PC Try.prog 6 [] (boolL true) := by
  obtain ⟨s0, t0, hnew⟩ := new_any 1 (by omega) (by omega)
  have ha : ∀ z ∈ [(97 : Int)], isByte z := by simp [isByte]
  have hb : ∀ z ∈ [(98 : Int)], isByte z := by simp [isByte]
  obtain ⟨s1, t1, i1⟩ := ins_any 1 t0 [] (by simp) [97] ha (by simp) (by simp)
  rw [show insK 1 [] [97] = [[97]] by decide] at t1 i1
  rw [show insN 1 [] [97] = true by decide, show insE 1 [] [97] = 0 by decide] at i1
  obtain ⟨s2, t2, i2⟩ := ins_any 1 t1 [0] (by simp) [97] ha (by simp) (by simp)
  rw [show insK 1 [[97]] [97] = [[97]] by decide] at t2 i2
  rw [show insN 1 [[97]] [97] = false by decide, show insE 1 [[97]] [97] = 0 by decide] at i2
  obtain ⟨s3, t3, i3⟩ := ins_any 1 t1 [0] (by simp) [98] hb (by simp) (by simp)
  rw [show insK 1 [[97]] [98] = [[97]] by decide] at t3 i3
  rw [show insN 1 [[97]] [98] = false by decide, show insE 1 [[97]] [98] = 7 by decide] at i3
  have hx : idx [[97]] [97] = 0 := by decide
  have st := set_any 1 t1 [0] [97] (by simp) ha (by simp) true 1 (.inr rfl) (by simp) (by rw [hx]; simp)
  have g1 := get_any 1 t1 [2] [97] ha (by simp) true 1 (.inr rfl) (by simp) (by rw [hx]; simp)
  have g2 := get_any 1 t1 [2] [97] ha (by simp) true 0 (.inl rfl) (by simp) (by rw [hx]; simp)
  have g3 := get_none 1 t1 [2] [98] hb (by simp) true 0 (.inl rfl) (by decide)
  have g4 := get_bad 1 [[97]] s1 [2] [97] true 2 (by omega)
  have m1 := member_any 1 t1 [2] [97] ha (by simp) true
  have m2 := member_any 1 t0 [] [97] ha (by simp) true
  have o1 : bitsI .or .u8 0 2 = 2 := by decide
  have o2 : bitsI .and .u8 2 2 = 2 := by decide
  have o3 : bitsI .and .u8 2 1 = 0 := by decide
  simp only [hx] at st g1 g2
  have i1 := i1 true
  have i2 := i2 true
  have i3 := i3 true
  simp [bitOf, o1, o2, o3] at st g1 g2 i1 i2 i3
  rw [show decide ([(97 : Int)] ∈ [[(97 : Int)]]) = true by decide] at m1
  rw [show decide ([(97 : Int)] ∈ ([] : List (List Int))) = false by decide] at m2
  refine pc_of_call (callAt_enter ir6 (by simp) ?_)
  simp
  refine callT_closed hnew rfl ?_
  simp
  refine callT_freeze [1] i1 rfl ?_
  simp
  refine callT_freeze [3] i2 rfl ?_
  simp
  refine callT_freeze [5] i3 rfl ?_
  simp
  refine callT_freeze [7] st rfl ?_
  simp
  refine callT_plain g1 rfl rfl ?_
  simp
  refine callT_plain g2 rfl rfl ?_
  simp
  refine callT_plain g3 rfl rfl ?_
  simp
  refine callT_plain g4 rfl rfl ?_
  simp
  refine callT_plain (many_any 1 [[97]] s1 [2]) rfl rfl ?_
  simp
  refine callT_plain m1 rfl rfl ?_
  simp
  refine callT_plain m2 rfl rfl ?_
  simp

end Go.Proofs.Ytadpjaolnkliiaa
