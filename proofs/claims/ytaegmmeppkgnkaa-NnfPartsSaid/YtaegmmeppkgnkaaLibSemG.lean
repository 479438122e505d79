/- What is turned until it stays. -/
import Derived.Test.YtaegmmeppkgnkaaLibSemF
namespace Lg
open Go

def enterF (k : Nat) {ι : Type} (mk : ι → Env) (hp : ι → Heap) (inv : ι → Prop) (E : Env) (H : Heap) : Prop := ∃ x, inv x ∧ ∃ fz, weak k (frzE H fz E) (frzH H fz 0 H) (mk x) (hp x)

theorem lwp_scopeF {P : Program} {k : Nat} {Q : X → Env → Heap → Prop} {E : Env} {H : Heap} {l : Nat} {b rest : IR} {ι : Type} (mk : ι → Env) (hp : ι → Heap) (m : ι → Nat) (inv : ι → Prop) (first : lwp P k b (X.jump l (enterF k mk hp inv) Q) E H)
    (round : ∀ x, inv x → lwp P k rest (X.jump l (nextF k mk hp m inv x) Q) (mk x) (hp x)) : lwp P k (.scope l b rest) Q E H := by
  refine ⟨fun E H n => ∃ x, inv x ∧ E = mk x ∧ H = hp x ∧ n = m x, lwp_mono ?_ first, ?_⟩
  · intro e E' H' hq
    cases e with
    | goto l' =>
      obtain ⟨h0, x', h1, fz, h3⟩ := hq
      exact ⟨h0, mk x', hp x', m x', .inr (.inl ⟨fz, h3⟩), x', h1, rfl, rfl, rfl⟩
    | _ => exact hq
  · rintro E H n ⟨x, hx, rfl, rfl, rfl⟩
    refine lwp_mono ?_ (round x hx)
    intro e E' H' hq
    cases e with
    | goto l' =>
      obtain ⟨h0, x', h1, h2, fz, h3⟩ := hq
      exact ⟨h0, mk x', hp x', m x', .inr (.inl ⟨fz, h3⟩), h2, x', h1, rfl, rfl, rfl⟩
    | _ => exact hq

def irStillB (c2 ea eq : Nat) : IR :=
    (.seq (.ops [⟨some 14, .faddr 0 (.t 3), none⟩,
      ⟨some 15, .load 1 false (.t 14), none⟩,
      ⟨some 16, .len false (.t 15), none⟩,
      ⟨some 17, .mkfn (.func c2) [] [(.t 5), (.t 7)], none⟩,
      ⟨some 18, .call ea [(.t 16), (.t 17)], none⟩,
      ⟨some 8, .mov (.t 18), none⟩])
    (.seq (.seq (.ops [⟨some 19, .load 1 false (.t 7), none⟩,
      ⟨some 20, .mov (.t 8), none⟩,
      ⟨some 21, .call eq [(.t 19), (.t 20)], none⟩,
      ⟨some 22, .un .not (.t 21), none⟩])
    (.cond (.t 22)
      (.seq (.ops [⟨some 23, .mov (.t 8), none⟩,
        ⟨none, .store 1 (.t 7) (.t 23), none⟩])
      (.goto 0))
      .skip))
    (.seq (.ops [⟨some 24, .load 1 false (.t 7), none⟩,
      ⟨some 6, .mov (.t 24), none⟩])
    .ret)))

theorem lk_frz_map {H : Heap} {fz : List Nat} {n : Nat} : ∀ {E : Env}, lk (E.map fun p => (p.1, frz H fz p.2)) n = frz H fz (lk E n)
  | [] => by simp [lk]
  | (k, l) :: E => by
    simp only [List.map_cons, lk]
    split
    · rfl
    · exact lk_frz_map

theorem irStill_eq (c1 c2 ea eq : Nat) : irStill c1 c2 ea eq = ⟨25, [.t 6],
  (.seq (.ops [⟨some 3, .box (.t 0), none⟩,
    ⟨some 4, .box (.t 1), none⟩,
    ⟨some 5, .box (.t 2), none⟩,
    ⟨some 6, .mov (.c (.v (.slice none 0 0))), none⟩])
  (.scope 0 (.seq (.ops [⟨some 9, .faddr 0 (.t 3), none⟩,
    ⟨some 10, .load 1 false (.t 9), none⟩,
    ⟨some 11, .len false (.t 10), none⟩,
    ⟨some 12, .mkfn (.func c1) [] [(.t 4)], none⟩,
    ⟨some 13, .call ea [(.t 11), (.t 12)], none⟩,
    ⟨some 7, .alloc (.v (.slice none 0 0)), none⟩,
    ⟨none, .store 1 (.t 7) (.t 13), none⟩])
  (.seq (.label 0) (irStillB c2 ea eq))) (.seq .skip (irStillB c2 ea eq))))⟩ := rfl

theorem still_body {P : Program} {c2 ea eq s : Nat} (i2 : compF P c2 = some irTurn) (iea : compF P ea = some irEach) (ieq : compF P eq = some irEqB) {w : Word} (hn : w.v.length ≤ 1000000) {caps : List L} {U : Nat → Nat → Bool} {m : Nat}
    (hcaps : ∀ H, mapO (reso H 4) caps = some caps) (hb : belowL 0 caps = true) (say : ∀ i : Nat, i < w.v.length → PC P s (intL i :: rowL true w.v.length (U m) :: caps) (boolL (U (m + 1) i)))
    {E : Env} (h3 : lk E 3 = .ptr 0 0) (h5 : lk E 5 = .ptr 2 0) (h7 : lk E 7 = .ptr 3 0) {Q : X → Env → Heap → Prop}
    (hstop : (∀ i, i < w.v.length → U m i = U (m + 1) i) → ∀ E' H', lk E' 6 = rowL true w.v.length (U m) → Q .ret E' H')
    (hgo : ¬ (∀ i, i < w.v.length → U m i = U (m + 1) i) → ∀ E', lk E' 3 = .ptr 0 0 → lk E' 5 = .ptr 2 0 → lk E' 7 = .ptr 3 0 → Q (.goto 0) E' [some w.cells, none, some [.fn (.func s) [] caps], some [.view 1 4 0 w.v.length true], some ((rowsB w.v.length (U (m + 1))).map boolL)]) :
    lwp P 0 (irStillB c2 ea eq) Q E [some w.cells, none, some [.fn (.func s) [] caps], some [rowL true w.v.length (U m)]] := by
  have hb4 : belowL 4 caps = true := belowL_mono (by omega) caps hb
  simp [irStillB, Word.cells, h3, h5, h7]
  refine callT_of (each_at (h := U (m + 1)) iea (by simp [hb4]) (by simp) hn (fun i hi row => ?_) ?_)
  · rw [callD_fn]
    refine callAt_enter i2 (by simp [irTurn]) ?_
    simp [irTurn]
    refine callT_plain (say i hi) rfl (by simp [hcaps]) ?_
    simp
  · simp [h7]
    have heq := eqB_gen ieq hn (c := true) (c' := true) (a := U m) (b := U (m + 1))
    by_cases he : ∀ i, i < w.v.length → U m i = U (m + 1) i
    · rw [decide_eq_true he] at heq
      refine callT_plain heq rfl (by simp) ?_
      simp [h7]
      refine hstop he _ _ ?_
      simp
    · rw [decide_eq_false he] at heq
      refine callT_plain heq rfl (by simp) ?_
      simp [h7]
      have := hgo he
      simp [Word.cells] at this
      refine this _ ?_ ?_ ?_ <;> simp [h3, h5, h7]

/-- What is turned until it stays, by what is said of each turn. -/
theorem still_gen {P : Program} {f c1 c2 ea eq s : Nat} (ir : compF P f = some (irStill c1 c2 ea eq)) (i1 : compF P c1 = some irFirst) (i2 : compF P c2 = some irTurn) (iea : compF P ea = some irEach) (ieq : compF P eq = some irEqB) {w : Word} (hn : w.v.length ≤ 1000000) {caps : List L} {U : Nat → Nat → Bool} {first : Bool} (h0 : ∀ i, U 0 i = first)
    (hcaps : ∀ H, mapO (reso H 4) caps = some caps) (hb : belowL 0 caps = true) (say : ∀ m i : Nat, i < w.v.length → PC P s (intL i :: rowL true w.v.length (U m) :: caps) (boolL (U (m + 1) i)))
    (hU : ∀ m m', (∀ i, i < w.v.length → U m i = U m' i) → ∀ i, i < w.v.length → U (m + 1) i = U (m' + 1) i) {K : Nat} (hK : ∀ i, i < w.v.length → U K i = U (K + 1) i) :
    PC P f [w.L, boolL first, .fn (.func s) [] caps] (rowL true w.v.length (U K)) := by
  have hb4 : belowL 4 caps = true := belowL_mono (by omega) caps hb
  -- behind a turn that changes nothing all stays
  have stay : ∀ m, (∀ i, i < w.v.length → U m i = U (m + 1) i) → ∀ k, ∀ i, i < w.v.length → U (m + k) i = U m i := fun m hm k => by
    induction k with
    | zero => intro i _; rfl
    | succ k ih =>
      intro i hi
      rw [← Nat.add_assoc, hU (m + k) m ih i hi, ← hm i hi]
  have fin : ∀ m, m ≤ K → (∀ i, i < w.v.length → U m i = U (m + 1) i) → rowsB w.v.length (U m) = rowsB w.v.length (U K) := fun m hmK hm => by
    unfold rowsB
    refine List.map_congr_left fun i hi => ?_
    rw [← stay m hm (K - m) i (List.mem_range.1 hi), Nat.add_sub_cancel' hmK]
  rw [irStill_eq] at ir
  refine pc_of_call (callAt_enter ir (by simp) ?_)
  simp [Word.L, Word.cells]
  refine lwp_scopeF (fun _ : Nat => [(3, .ptr 0 0), (5, .ptr 2 0), (7, .ptr 3 0)]) (fun m => [some w.cells, none, some [.fn (.func s) [] caps], some [rowL true w.v.length (U m)]]) (fun m => K - m) (fun m => m ≤ K) ?_ ?_
  · simp
    refine callT_freeze [1] (each_gen (h := U 0) (caps := [.pp [boolL first]]) iea hn (fun H => by simp) (by simp) (fun i hi => by rw [h0]; exact first_gen i1 i first)) (by simp) ?_
    simp
    refine still_body (m := 0) i2 iea ieq hn hcaps hb (say 0) (by simp) (by simp) (by simp) (fun he E' H' h6 => ?_) (fun he E' h3 h5 h7 => ?_)
    · simp [h6, fin 0 (by omega) he]
    · have hK1 : 1 ≤ K := Nat.pos_of_ne_zero fun e => he (by subst e; exact hK)
      simp
      refine ⟨1, hK1, [4], ?_⟩
      show weak 0 _ _ [(3, .ptr 0 0), (5, .ptr 2 0), (7, .ptr 3 0)] [some w.cells, none, some [.fn (.func s) [] caps], some [rowL true w.v.length (U 1)]]
      simp [Word.cells]
      refine ⟨[0, 1, 2, 3], ?_⟩
      simp [lk_frz_map, h3, h5, h7, hb4]
      exact (renL_id (n := 0) (fun i hi => by omega) caps hb).symm
  · intro m hm
    simp
    refine still_body i2 iea ieq hn hcaps hb (say m) (by simp) (by simp) (by simp) (fun he E' H' h6 => ?_) (fun he E' h3 h5 h7 => ?_)
    · simp [h6, fin m hm he]
    · have hmK : m ≠ K := fun e => he (by subst e; exact hK)
      simp
      refine ⟨m + 1, by omega, by show K - (m + 1) < K - m; omega, [4], ?_⟩
      show weak 0 _ _ [(3, .ptr 0 0), (5, .ptr 2 0), (7, .ptr 3 0)] [some w.cells, none, some [.fn (.func s) [] caps], some [rowL true w.v.length (U (m + 1))]]
      simp [Word.cells]
      refine ⟨[0, 1, 2, 3], ?_⟩
      simp [lk_frz_map, h3, h5, h7, hb4]
      exact (renL_id (n := 0) (fun i hi => by omega) caps hb).symm

end Lg
