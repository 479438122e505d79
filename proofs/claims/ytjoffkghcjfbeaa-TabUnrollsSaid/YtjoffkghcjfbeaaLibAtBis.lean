/- Which words are taken hangs on the endless word alone. -/
import Derived.Test.YtjoffkghcjfbeaaLibAtPT
import Derived.Test.YtjoffkghcjfbeaaLibSemP
namespace Lg
open Go
section
variable {a : Aut} {w w' : Word} {f : Nat → Nat}
def F2 (a : Aut) (f : Nat → Nat) (j : Nat) : Nat := f (j / a.lits.length) * a.lits.length + j % a.lits.length
structure Bis (w w' : Word) (f : Nat → Nat) : Prop where
 lt : ∀ i, i < w'.v.length → f i < w.v.length
 nxt : ∀ i, i < w'.v.length → w.nxt (f i) = f (w'.nxt i)
 v : ∀ i, i < w'.v.length → w'.v.getD i [] = w.v.getD (f i) []
 zero : f 0 = 0
variable (ho : AutOk a w) (ho' : AutOk a w') (h : Bis w w' f)
include h in
theorem F2_facts {j : Nat} (hj : j < nN a w') : F2 a f j < nN a w ∧ F2 a f j / a.lits.length = f (j / a.lits.length) ∧ F2 a f j % a.lits.length = j % a.lits.length := by
 have hd := nN_div hj
 exact ⟨nN_lt (h.lt _ hd.1) hd.2.1, node_div hd.2.1⟩
include h in
theorem F2_on {j : Nat} (hj : j < nN a w') : nodeOn a w (F2 a f j) = nodeOn a w' j := by
 obtain ⟨-, h2, h3⟩ := F2_facts h hj
 unfold nodeOn
 rw [h2, h3, h.v _ (nN_div hj).1]
include ho ho' h in
theorem F2_sk {k j : Nat} (hk : k < (setsOf a).length) (hj : j < nN a w') : Sk (takesG a w) k (F2 a f j) ↔ Sk (takesG a w') k j := by
 obtain ⟨h1, -, h3⟩ := F2_facts h hj
 rw [sk_iff ho hk h1, sk_iff ho' hk hj]
 unfold inS plOf
 rw [h3]
include ho ho' h in
theorem F2_nx {j x : Nat} (hj : j < nN a w') (hx : x ∈ nxf (takesG a w') j) : x < nN a w' ∧ F2 a f x ∈ nxf (takesG a w) (F2 a f j) := by
 have hx' := nxf_lt ho' hj hx
 refine ⟨hx', ?_⟩
 obtain ⟨s, hs, rfl⟩ := (nxf_mem ho' hj).1 hx
 obtain ⟨h1, h2, h3⟩ := F2_facts h hj
 have hr := ho'.row _ hs
 rw [nxf_mem ho h1, h2, h3]
 refine ⟨s, hs, ?_⟩
 have hd := node_div (i := w'.nxt (j / a.lits.length)) (show s < a.lits.length by omega)
 unfold F2
 rw [hd.1, hd.2, h.nxt _ (nN_div hj).1]
include ho ho' h in
theorem F2_back {j y : Nat} (hj : j < nN a w') (hy : y ∈ nxf (takesG a w) (F2 a f j)) : ∃ x, x ∈ nxf (takesG a w') j ∧ F2 a f x = y := by
 obtain ⟨h1, h2, h3⟩ := F2_facts h hj
 rw [nxf_mem ho h1, h2, h3] at hy
 obtain ⟨s, hs, rfl⟩ := hy
 have hr := ho'.row _ hs
 refine ⟨_, (nxf_mem ho' hj).2 ⟨s, hs, rfl⟩, ?_⟩
 have hd := node_div (i := w'.nxt (j / a.lits.length)) (show s < a.lits.length by omega)
 unfold F2
 rw [hd.1, hd.2, h.nxt _ (nN_div hj).1]
include ho ho' h in
theorem takes_bis : a.takes w' = a.takes w := by
 rw [Bool.eq_iff_iff, takes_iff, takes_iff]
 unfold Takes
 have h0 : 0 < w'.v.length := by
  have := ho'.wright
  simp only [Word.right, Bool.and_eq_true, decide_eq_true_eq] at this
  omega
 refine exists_congr fun q => and_congr_right fun hq => ?_
 have hqr := ho.init q hq
 have hlt : q.toNat < a.lits.length := by omega
 have hN' := nN_lt (a := a) (w := w') (i := 0) (q := q.toNat) h0 hlt
 simp only [Nat.zero_mul, Nat.zero_add] at hN'
 have e : F2 a f q.toNat = q.toNat := by
  unfold F2
  rw [Nat.div_eq_of_lt hlt, Nat.mod_eq_of_lt hlt, h.zero]; omega
 constructor
 ·rintro ⟨Z, hZ, hq⟩
  have hZl : ∀ j, Z j → j < nN a w' := fun j hj => (onsOn.1 (hZ j hj).1).1
  refine ⟨fun y => ∃ j, Z j ∧ F2 a f j = y, ?_, q.toNat, hq, e⟩
  rintro y ⟨j, hj, rfl⟩
  refine ⟨onsOn.2 ⟨(F2_facts h (hZl j hj)).1, by rw [F2_on h (hZl j hj)]; exact (onsOn.1 (hZ j hj).1).2⟩, fun k hk => ?_⟩
  rw [sets_length] at hk
  have hr := (hZ j hj).2 k (by rw [sets_length]; exact hk)
  have key : ∀ j, Rch (nxf (takesG a w')) Z (Sk (takesG a w') k) j → Z j → Rch (nxf (takesG a w)) (fun y => ∃ j, Z j ∧ F2 a f j = y) (Sk (takesG a w) k) (F2 a f j) := by
   intro j hr
   induction hr with
   | one h1 h2 h3 =>
    intro hj
    obtain ⟨g1, g2⟩ := F2_nx ho ho' h (hZl _ hj) h1
    exact .one g2 ⟨_, h2, rfl⟩ ((F2_sk ho ho' h hk g1).2 h3)
   | more h1 h2 _ ih =>
    intro hj
    obtain ⟨g1, g2⟩ := F2_nx ho ho' h (hZl _ hj) h1
    exact .more g2 ⟨_, h2, rfl⟩ (ih h2)
  exact key j hr hj
 ·rintro ⟨Z, hZ, hq⟩
  refine ⟨fun j => j < nN a w' ∧ Z (F2 a f j), ?_, hN', by rw [e]; exact hq⟩
  rintro j ⟨hj, hz⟩
  refine ⟨onsOn.2 ⟨hj, by rw [← F2_on h hj]; exact (onsOn.1 (hZ _ hz).1).2⟩, fun k hk => ?_⟩
  rw [sets_length] at hk
  have hr := (hZ _ hz).2 k (by rw [sets_length]; exact hk)
  have key : ∀ y, Rch (nxf (takesG a w)) Z (Sk (takesG a w) k) y → ∀ j, j < nN a w' → F2 a f j = y → Rch (nxf (takesG a w')) (fun j => j < nN a w' ∧ Z (F2 a f j)) (Sk (takesG a w') k) j := by
   intro y hr
   induction hr with
   | one h1 h2 h3 =>
    rintro j hj rfl
    obtain ⟨x, g1, rfl⟩ := F2_back ho ho' h hj h1
    have hx := nxf_lt ho' hj g1
    exact .one g1 ⟨hx, h2⟩ ((F2_sk ho ho' h hk hx).1 h3)
   | more h1 h2 _ ih =>
    rintro j hj rfl
    obtain ⟨x, g1, rfl⟩ := F2_back ho ho' h hj h1
    exact .more g1 ⟨nxf_lt ho' hj g1, h2⟩ (ih x (nxf_lt ho' hj g1) rfl)
  exact key _ hr j hj rfl
end
theorem bis_twice {w : Word} (hr : w.right = true) : Bis w w.twice fun i => if i < w.v.length then i else w.loop.toNat + i - w.v.length := by
 have hl := right_loop hr
 have hn : w.twice.v.length = w.v.length + (w.v.length - w.loop.toNat) := by simp [Word.twice]
 obtain ⟨f, hf⟩ : ∃ f : Nat → Nat, f = fun i => if i < w.v.length then i else w.loop.toNat + i - w.v.length := ⟨_, rfl⟩
 have f1 : ∀ i, i < w.v.length → f i = i := fun i h => by rw [hf]; exact if_pos h
 have f2 : ∀ i, w.v.length ≤ i → f i = w.loop.toNat + i - w.v.length := fun i h => by rw [hf]; exact if_neg (by omega)
 have e : ∀ i, w.twice.nxt i = if i + 1 = w.twice.v.length then w.v.length else i + 1 := fun i => by unfold Word.nxt; rfl
 have e0 : ∀ i, w.nxt i = if i + 1 = w.v.length then w.loop.toNat else i + 1 := fun i => rfl
 rw [← hf]
 refine ⟨fun i hi => ?_, fun i hi => ?_, fun i hi => ?_, f1 0 (by omega)⟩
 ·rw [hn] at hi
  by_cases h1 : i < w.v.length
  ·rw [f1 i h1]; exact h1
  ·rw [f2 i (by omega)]; omega
 ·rw [e, hn, e0]
  rw [hn] at hi
  by_cases h1 : i < w.v.length
  ·rw [f1 i h1, if_neg (show ¬ i + 1 = w.v.length + (w.v.length - w.loop.toNat) by omega)]
   by_cases h2 : i + 1 = w.v.length
   ·rw [if_pos h2, f2 _ (by omega)]; omega
   ·rw [if_neg h2, f1 _ (by omega)]
  ·rw [f2 i (by omega)]
   by_cases h2 : i + 1 = w.v.length + (w.v.length - w.loop.toNat)
   ·rw [if_pos (show w.loop.toNat + i - w.v.length + 1 = w.v.length by omega), if_pos h2, f2 _ (by omega)]; omega
   ·rw [if_neg (show ¬ w.loop.toNat + i - w.v.length + 1 = w.v.length by omega), if_neg h2, f2 _ (by omega)]; omega
 ·rw [hn] at hi
  simp only [Word.twice, List.getD]
  by_cases h1 : i < w.v.length
  ·rw [f1 i h1, List.getElem?_append_left h1]
  ·rw [f2 i (by omega), List.getElem?_append_right (by omega), List.getElem?_drop, show w.loop.toNat + (i - w.v.length) = w.loop.toNat + i - w.v.length by omega]
theorem bis_turned {w : Word} (hr : w.right = true) : Bis w w.turned fun i => if i < w.v.length then i else w.loop.toNat := by
 have hl := right_loop hr
 have hn : w.turned.v.length = w.v.length + 1 := by simp [Word.turned]
 obtain ⟨f, hf⟩ : ∃ f : Nat → Nat, f = fun i => if i < w.v.length then i else w.loop.toNat := ⟨_, rfl⟩
 have f1 : ∀ i, i < w.v.length → f i = i := fun i h => by rw [hf]; exact if_pos h
 have f2 : ∀ i, w.v.length ≤ i → f i = w.loop.toNat := fun i h => by rw [hf]; exact if_neg (by omega)
 have e : ∀ i, w.turned.nxt i = if i + 1 = w.turned.v.length then w.loop.toNat + 1 else i + 1 := fun i => by
  unfold Word.nxt
  rw [show w.turned.loop.toNat = w.loop.toNat + 1 by show (w.loop + 1).toNat = _; omega]
 have e0 : ∀ i, w.nxt i = if i + 1 = w.v.length then w.loop.toNat else i + 1 := fun i => rfl
 rw [← hf]
 refine ⟨fun i hi => ?_, fun i hi => ?_, fun i hi => ?_, f1 0 (by omega)⟩
 ·rw [hn] at hi
  by_cases h1 : i < w.v.length
  ·rw [f1 i h1]; exact h1
  ·rw [f2 i (by omega)]; omega
 ·rw [e, hn, e0]
  rw [hn] at hi
  by_cases h1 : i < w.v.length
  ·rw [f1 i h1, if_neg (show ¬ i + 1 = w.v.length + 1 by omega)]
   by_cases h2 : i + 1 = w.v.length
   ·rw [if_pos h2, f2 _ (by omega)]
   ·rw [if_neg h2, f1 _ (by omega)]
  ·rw [f2 i (by omega), if_pos (show i + 1 = w.v.length + 1 by omega)]
   by_cases h2 : w.loop.toNat + 1 = w.v.length
   ·rw [if_pos h2, f2 _ (by omega)]
   ·rw [if_neg h2, f1 _ (by omega)]
 ·rw [hn] at hi
  simp only [Word.turned, List.getD]
  by_cases h1 : i < w.v.length
  ·rw [f1 i h1, List.getElem?_append_left h1]
  ·rw [f2 i (by omega), List.getElem?_append_right (by omega), show i - w.v.length = 0 by omega]; rfl
end Lg

