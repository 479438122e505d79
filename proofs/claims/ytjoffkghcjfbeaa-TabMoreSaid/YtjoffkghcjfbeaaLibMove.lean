/- What a call leaves may be told in another shape: rows let be, forgotten, or numbered anew. Calls that give one of some values. -/
import Derived.Test.YtjoffkghcjfbeaaLibFrame
namespace Lg
open Go
def sigL : List Nat → Heap → List Nat
 | s :: ss, some _ :: cs => s :: sigL ss cs
 | _ :: ss, none :: cs => sigL ss cs
 | _, _ => []
theorem sigL_mem : ∀ {σ : List Nat} {H : Heap} {i s : Nat} {ls : List L}, σ[i]? = some s → H[i]? = some (some ls) → s ∈ sigL σ H
 | [], _, _, _, _, h, _ => by simp at h
 | _ :: _, [], _, _, _, _, h => by simp at h
 | t :: σ, some c :: H, i, s, ls, h1, h2 => by
  cases i with
  | zero => simp at h1; subst h1; simp [sigL]
  | succ i => simp only [sigL, List.mem_cons]; exact .inr (sigL_mem (by simpa using h1) (by simpa using h2))
 | t :: σ, none :: H, i, s, ls, h1, h2 => by
  cases i with
  | zero => simp at h2
  | succ i => simp only [sigL]; exact sigL_mem (by simpa using h1) (by simpa using h2)
theorem sigL_inj : ∀ {σ : List Nat} {H : Heap} {i j s : Nat} {ls ls' : List L}, (sigL σ H).Nodup → σ[i]? = some s → H[i]? = some (some ls) → σ[j]? = some s → H[j]? = some (some ls') → i = j
 | [], _, _, _, _, _, _, _, h, _, _, _ => by simp at h
 | _ :: _, [], _, _, _, _, _, _, _, h, _, _ => by simp at h
 | t :: σ, some c :: H, i, j, s, ls, ls', hn, h1, h2, h3, h4 => by
  simp only [sigL, List.nodup_cons] at hn
  cases i with
  | zero =>
   cases j with
   | zero => rfl
   | succ j =>
    simp at h1; subst h1
    exact absurd (sigL_mem (by simpa using h3) (by simpa using h4)) hn.1
  | succ i =>
   cases j with
   | zero =>
    simp at h3; subst h3
    exact absurd (sigL_mem (by simpa using h1) (by simpa using h2)) hn.1
   | succ j => exact congrArg _ (sigL_inj (s := s) (ls := ls) (ls' := ls') hn.2 (by simpa using h1) (by simpa using h2) (by simpa using h3) (by simpa using h4))
 | t :: σ, none :: H, i, j, s, ls, ls', hn, h1, h2, h3, h4 => by
  simp only [sigL] at hn
  cases i with
  | zero => simp at h2
  | succ i =>
   cases j with
   | zero => simp at h4
   | succ j => exact congrArg _ (sigL_inj (s := s) (ls := ls) (ls' := ls') hn (by simpa using h1) (by simpa using h2) (by simpa using h3) (by simpa using h4))
section
variable {P : Program} {η : List Nat} {S : Nat → Prop} {w : World} {H : Heap}
theorem conc_move {η₀ : List Nat} {S₀ : Nat → Prop} {w₀ : World} {H' : Heap} (h : Conc η S w H) (hL : Le η₀ S₀ w₀ η S w) {σ : List Nat} (w1 : σ.take η₀.length = List.range η₀.length) (w2 : (sigL σ H').Nodup)
  (w3 : rowsOK H (fun i => σ.getD i 0) H'.length σ H') : Conc (σ.map fun s => η.getD s 0) S w H' ∧ Le η₀ S₀ w₀ (σ.map fun s => η.getD s 0) S w ∧
   ∀ {x : Value} {l l2 : L}, Rel S w η x l → Lg.below H'.length l2 = true → (l2 = .any ∨ l = Lg.ren (fun i => σ.getD i 0) l2) → Rel S w (σ.map fun s => η.getD s 0) x l2 := by
 obtain ⟨r1, r2, r3⟩ := rowsOK_spec w3
 obtain ⟨ζ, z1, z2⟩ := hL.pre
 have hget : ∀ {k b : Nat}, (σ.map fun s => η.getD s 0)[k]? = some b → ∃ s, σ[k]? = some s ∧ η[s]? = some b := fun {k b} e => by
  simp only [List.getElem?_map, Option.map_eq_some_iff] at e
  obtain ⟨s, h1, h2⟩ := e
  have hs := r2 s (List.mem_of_getElem? h1)
  rw [← h.len] at hs
  refine ⟨s, h1, ?_⟩
  rw [List.getElem?_eq_getElem hs]
  simpa [List.getD, List.getElem?_eq_getElem hs] using h2
 have hη : ∀ i, i < H'.length → (σ.map fun s => η.getD s 0)[i]? = η[σ.getD i 0]? := fun i hi => by
  have hi' : i < σ.length := by omega
  have hs := r2 σ[i] (List.getElem_mem hi')
  rw [← h.len] at hs
  simp [List.getD, List.getElem?_eq_getElem hi', List.getElem?_eq_getElem hs]
 refine ⟨⟨by simp [r1], fun b hb => ?_, h.Slt, ?_, ?_⟩, ?_, ?_⟩
 ·obtain ⟨k, hk⟩ := List.getElem?_of_mem hb
  obtain ⟨s, -, hs⟩ := hget hk
  exact h.lt b (List.mem_of_getElem? hs)
 ·intro k b ls e1 e2
  obtain ⟨s, s1, s2⟩ := hget e1
  obtain ⟨q1, -⟩ := r3 k s ls s1 e2
  obtain ⟨p1, p2⟩ := h.apart s b _ s2 q1
  refine ⟨p1, fun k' ls' f1 f2 => ?_⟩
  obtain ⟨s', s1', s2'⟩ := hget f1
  obtain ⟨q1', -⟩ := r3 k' s' ls' s1' f2
  have := p2 s' _ s2' q1'
  subst this
  exact sigL_inj w2 s1' f2 s1 e2
 ·intro k b ls e1 e2
  obtain ⟨s, s1, s2⟩ := hget e1
  obtain ⟨q1, q2⟩ := r3 k s ls s1 e2
  rcases h.liveAt s b _ s2 q1 with ⟨c, t, fr, g1, g2, g3, g4⟩ | ⟨kk, es, e, hm⟩ | ⟨rc, st, pd, ks, ts, e, r, g1, g2, g3, g4, g5, g6, g7, g8⟩ | ⟨kk, es, seen, e, m, g1, g2, g3⟩
  rotate_left
  ·exact .inr (.inl ⟨kk, es, renL_mp e, hm⟩)
  ·obtain ⟨ts', rfl, rfl⟩ := renL_lp e
   simp only [belowL, Lg.below, Bool.and_true] at q2
   exact .inr (.inr (.inl ⟨rc, st, pd, ks, ts', rfl, r, g1, g2, g3, g4, g5, g6, g7, fun j => (g8 j).ren hη _ renL_getD (belowL_get q2 j)⟩))
  ·exact .inr (.inr (.inr ⟨kk, es, seen, renL_it e, m, g1, g2.ren hη _ rfl rfl, g3⟩))
  rw [renL_length] at g2
  refine .inl ⟨c, t, fr, g1, g2, g3, fun j hj => ?_⟩
  have := g4 j (by rw [renL_length]; exact hj)
  exact this.ren hη _ renL_getD (belowL_get q2 j)
 ·refine ⟨⟨(σ.drop η₀.length).map fun s => η.getD s 0, ?_, fun b hb => ?_⟩, hL.sub, hL.keep, hL.shape, hL.size, hL.frame, hL.new, hL.os, hL.tape, hL.output⟩
  ·have e : σ = List.range η₀.length ++ σ.drop η₀.length := by rw [← w1]; exact (List.take_append_drop _ _).symm
   rw [e]
   simp only [List.map_append]
   congr 1
   ·refine List.ext_getElem? fun i => ?_
    by_cases hi : i < η₀.length
    ·rw [List.getElem?_map, List.getElem?_range hi]
     simp only [Option.map_some, List.getD, z1, List.getElem?_append_left hi, List.getElem?_eq_getElem hi, Option.getD_some]
    ·rw [List.getElem?_map, List.getElem?_eq_none (show (List.range η₀.length).length ≤ i by simp; omega), List.getElem?_eq_none (show η₀.length ≤ i by omega)]
     rfl
   ·rw [← e]
  ·obtain ⟨s, hs, rfl⟩ := List.mem_map.1 hb
   have hlt := r2 s (List.mem_of_mem_drop hs)
   rw [← h.len] at hlt
   have hm : η.getD s 0 ∈ η := by
    rw [show η.getD s 0 = η[s] by simp [List.getD, List.getElem?_eq_getElem hlt]]
    exact List.getElem_mem hlt
   rw [z1] at hm ⊢
   rcases List.mem_append.1 hm with h' | h'
   ·exact .inl h'
   ·exact z2 _ h'
 ·intro x l l2 hx h1 h2
  rcases h2 with h2 | h2
  ·rw [h2]; exact .any _
  ·exact hx.ren hη l2 h2 h1
theorem callAt_exit {f : FuncId} {ls : List L} {K : L → Heap → Prop} (h : callAt P f ls H fun l H' => ∃ fz σ l2 H2, σ.take H.length = List.range H.length ∧ (sigL σ H2).Nodup ∧ rowsOK (frzH H' fz 0 H') (fun i => σ.getD i 0) H2.length σ H2 ∧
  Lg.below H2.length l2 = true ∧ (l2 = .any ∨ frz H' fz l = Lg.ren (fun i => σ.getD i 0) l2) ∧ K l2 H2) : callAt P f ls H K := by
 refine ⟨h.1, fun η S w vs hC hv => ?_⟩
 refine (h.2 η S w vs hC hv).mono ?_
 rintro e w' ⟨v, l, H', η', S', rfl, ⟨fz, σ, l2, H2, s1, s2, s3, s4, s5, hk⟩, h1, h2, h3⟩
 have hat : At 1 [] η' S' w' { tmps := #[v], defers := [] } [(0, l)] H' := ⟨h2, fun t => by
  simp only [lk]
  split
  ·rename_i e; subst e; exact h1
  ·exact .any _, rfl, rfl⟩
 obtain ⟨S'', q1, q2, -⟩ := hat.frz h3 fz
 have hl : Rel S'' w' η' v (frz H' fz l) := by
  have := q1.env 0
  simpa [frzE, lk] using this
 rw [← hC.len] at s1
 obtain ⟨c1, c2, c3⟩ := conc_move q1.conc q2 s1 s2 s3
 exact ⟨v, l2, H2, _, S'', rfl, hk, c3 hl s4 s5, c1, c2⟩
theorem frz1_none {H : Heap} {l : L} : frz1 H [] l = l := by cases l <;> rfl
theorem frzP_none {H : Heap} {l : L} : frzP H [] l = l := by cases l <;> rfl
theorem frz_none {H : Heap} {l : L} : frz H [] l = l := by
 have h1 : ∀ ls : List L, ls.map (frz1 H []) = ls := fun ls => by induction ls with
  | nil => rfl
  | cons c cs ih => simp only [List.map_cons, frz1_none, ih]
 have h2 : ∀ ls : List L, ls.map (frzP H []) = ls := fun ls => by induction ls with
  | nil => rfl
  | cons c cs ih => simp only [List.map_cons, frzP_none, ih]
 cases l <;> first | rfl | (simp only [frz, h1, h2])
theorem frzH_none {H : Heap} : ∀ {R : Heap} {i : Nat}, frzH H [] i R = R
 | [], _ => rfl
 | r :: R, i => by
  have h1 : ∀ ls : List L, ls.map (frz H []) = ls := fun ls => by induction ls with
   | nil => rfl
   | cons c cs ih => simp only [List.map_cons, frz_none, ih]
  cases r with
  | none => simp only [frzH, frzRow, frzH_none]
  | some ls => simp [frzH, frzRow, frzH_none, h1]
def exitK (m : Nat) (K : L → Heap → Prop) (l : L) (H' : Heap) : Prop := ∃ fz σ l2 H2, σ.take m = List.range m ∧ (sigL σ H2).Nodup ∧ rowsOK (frzH H' fz 0 H') (fun i => σ.getD i 0) H2.length σ H2 ∧
  Lg.below H2.length l2 = true ∧ (l2 = .any ∨ frz H' fz l = Lg.ren (fun i => σ.getD i 0) l2) ∧ K l2 H2
theorem callAt_exitK {f : FuncId} {ls : List L} {K : L → Heap → Prop} (h : callAt P f ls H (exitK H.length K)) : callAt P f ls H K := callAt_exit h
theorem exitK_of {m : Nat} {K : L → Heap → Prop} {l : L} {H' : Heap} (σ : List Nat) (l2 : L) (H2 : Heap) (hk : K l2 H2) (h1 : σ.take m = List.range m) (h2 : (sigL σ H2).Nodup) (h3 : rowsOK H' (fun i => σ.getD i 0) H2.length σ H2)
  (h4 : Lg.below H2.length l2 = true) (h5 : l2 = .any ∨ l = Lg.ren (fun i => σ.getD i 0) l2) : exitK m K l H' :=
 ⟨[], σ, l2, H2, h1, h2, by rw [frzH_none]; exact h3, h4, by rw [frz_none]; exact h5, hk⟩
theorem exitK_fz {m : Nat} {K : L → Heap → Prop} {l : L} {H' : Heap} (fz σ : List Nat) (l2 : L) (H2 : Heap) (hk : K l2 H2) (h1 : σ.take m = List.range m) (h2 : (sigL σ H2).Nodup) (h3 : rowsOK (frzH H' fz 0 H') (fun i => σ.getD i 0) H2.length σ H2)
  (h4 : Lg.below H2.length l2 = true) (h5 : l2 = .any ∨ frz H' fz l = Lg.ren (fun i => σ.getD i 0) l2) : exitK m K l H' :=
 ⟨fz, σ, l2, H2, h1, h2, h3, h4, h5, hk⟩
attribute [simp] sigL
def PCE (P : Program) (f : FuncId) (ls : List L) (R : L → Prop) : Prop :=
 okF P f = true ∧ ∀ S w vs, (∀ b, S b → b < w.heap.size) → RelAll [] S w vs ls → Calls P f vs w fun e w' => ∃ v S' r, R r ∧ e = .returned v ∧ Rel S' w' [] v r ∧ Le [] S w [] S' w' ∧ ∀ b, S' b → b < w'.heap.size
theorem pce_of_call {f : FuncId} {ls : List L} {R : L → Prop} (h : callAt P f ls [] fun l H' => ∃ r' r, R r ∧ reso H' 4 l = some r' ∧ Sub r' r) : PCE P f ls R := by
 refine ⟨h.1, fun S w vs hS hv => ?_⟩
 have hC : Conc [] S w [] := ⟨rfl, by simp, hS, by simp, by simp⟩
 refine (h.2 [] S w vs hC hv).mono ?_
 rintro e w' ⟨v, l, H', η', S', rfl, ⟨r', r, hR, hK, hsub⟩, h1, h2, h3⟩
 have hr := reso_rel h2 (S' := fun b => S' b ∨ b ∈ η') (fun b h => h) 4 v l r' h1 hK
 refine ⟨v, _, r, hR, rfl, hr.sub hsub, ⟨⟨[], by simp, by simp⟩, fun b hb => .inl (h3.sub b hb), h3.keep, h3.shape, h3.size, h3.frame, ?_, h3.os, h3.tape, h3.output⟩, fun b hb => by rcases hb with hb | hb; exact h2.Slt b hb; exact h2.lt b hb⟩
 intro b hb
 rcases hb with hb | hb
 ·exact h3.new b hb
 ·obtain ⟨ζ, e1, e2⟩ := h3.pre
  simp only [List.nil_append] at e1
  subst e1
  rcases e2 b hb with h' | h'
  ·simp at h'
  ·exact .inr (.inr h')
theorem callAt_closedE {f : FuncId} {ls : List L} {R : L → Prop} {K : L → Heap → Prop} (h : PCE P f ls R) (hr : mapO (reso [] 4) ls = some ls) (hk : ∀ r, R r → K r H) : callAt P f ls H K := by
 refine ⟨h.1, fun η S w vs hC hv => ?_⟩
 have hv' : RelAll [] S w vs ls := by
  obtain ⟨h1, h2⟩ := hv
  obtain ⟨e1, e2⟩ := mapO_some hr
  refine ⟨h1, fun j => ?_⟩
  have key : ∀ (k : Nat) (x : Value) (l l' : L), Rel S w η x l → reso [] k l = some l' → Rel S w [] x l' := by
   intro k
   induction k with
   | zero =>
    intro x l l' hx h
    simp only [reso] at h
    split at h
    ·cases h; exact hx.closed ‹_›
    ·simp at h
   | succ k ih =>
    intro x l l' hx h
    cases l <;> simp only [reso] at h
    case view => simp [live] at h
    case agg cs =>
     simp only [Option.map_eq_some_iff] at h
     obtain ⟨cs', h1, rfl⟩ := h
     obtain ⟨vs, rfl, hz, hr⟩ := hx.inv_agg
     obtain ⟨e1, e2⟩ := rel_mapO h1 hr ih
     exact .agg (by omega) e2
    case tup cs =>
     simp only [Option.map_eq_some_iff] at h
     obtain ⟨cs', h1, rfl⟩ := h
     obtain ⟨vs, rfl, hz, hr⟩ := hx.inv_tup
     obtain ⟨e1, e2⟩ := rel_mapO h1 hr ih
     exact .tup (by omega) e2
    case fn f a b =>
     simp only [Option.bind_eq_some_iff, Option.map_eq_some_iff] at h
     obtain ⟨a', h1, b', h2, rfl⟩ := h
     obtain ⟨first, cap, rfl, z1, z2, r1, r2⟩ := hx.inv_fn
     obtain ⟨e1, e2⟩ := rel_mapO h1 r1 ih
     obtain ⟨g1, g2⟩ := rel_mapO h2 r2 ih
     exact .fn (by omega) (by omega) e2 g2
    case ptr => simp [live] at h
    case mref => simp [live] at h
    all_goals first | (cases h; done) | (cases h; exact hx.closed rfl)
  by_cases hj : j < ls.length
  ·exact key 4 _ _ _ (h2 j) (e2 j hj)
  ·rw [getD_of_ge _ _ (by omega)]; exact .any _
 refine (h.2 S w vs hC.Slt hv').mono ?_
 rintro e w' ⟨v, S', r, hR, rfl, h1, h2, h3⟩
 have hsame : ∀ b : Nat, b < w.heap.size → w'.heap[b]? = w.heap[b]? := fun b hb => h2.frame b hb (by simp)
 have hnew : ∀ b, S' b → S b ∨ w.heap.size ≤ b := fun b hb => by
  rcases h2.new b hb with h | h | h
  ·exact .inl h
  ·simp at h
  ·exact .inr h
 refine ⟨v, r, H, η, S', rfl, hk r hR, h1.nil, hC.frame h2.sub h3 (fun b hb hs => ?_) h2.size hsame, ⟨⟨[], by simp, by simp⟩, h2.sub, h2.keep, h2.shape, h2.size, fun b hb _ => hsame b hb, fun b hb => ?_, h2.os, h2.tape, h2.output⟩⟩
 ·rcases hnew b hs with h | h
  ·exact h
  ·have := hC.lt b hb; omega
 ·rcases hnew b hb with h | h
  ·exact .inl h
  ·exact .inr (.inr h)
theorem callT_letE {E : Env} {f : FuncId} {ls ls' : List L} {R : L → Prop} {dst rest} {K : Env → Heap → Prop} (fz : List Nat) (h : PCE P f ls' R) (he : ls.map (frz H fz) = ls') (hr : mapO (reso [] 4) ls' = some ls') (hk : ∀ r, R r → lops P rest K (putE (frzE H fz E) dst r) (frzH H fz 0 H)) : callT (z := true) P f ls H dst rest K E :=
 .inr ⟨fz, by rw [he]; exact callAt_closedE h hr hk⟩
end
end Lg

