/- A call sees some of the own rows alone: what it does with them it does among others. -/
import Derived.Test.YtjoffkghcjfbeaaLibAcc
namespace Lg
open Go
theorem rel_shift {S : Nat → Prop} {w : World} {η : List Nat} {x : Value} {l : L} (h : Rel S w η x l) {η' : List Nat} {f : Nat → Nat} (hf : ∀ h b : Nat, η[h]? = some b → η'[f h]? = some b) : Rel S w η' x (ren f l) := by
 induction h with
 | any v => simp only [ren]; exact .any _
 | no => simp only [ren]; exact .no
 | v x => simp only [ren]; exact .v _
 | sl0 h1 h2 => simp only [ren]; exact .sl0 h1 h2
 | sl cs h2 h3 h4 h5 hS hc hr _ => simp only [ren]; exact .sl cs h2 h3 h4 h5 hS hc hr
 | agg h hr ih => simp only [ren]; exact .agg (by rw [renL_length]; exact h) fun j => by rw [renL_getD]; exact ih j hf
 | tup h hr ih => simp only [ren]; exact .tup (by rw [renL_length]; exact h) fun j => by rw [renL_getD]; exact ih j hf
 | view0 => simp only [ren]; exact .view0
 | view hη hb hsz hn hm hcl => simp only [ren]; exact .view (hf _ _ hη) hb hsz hn hm hcl
 | ptr hη hb => simp only [ren]; exact .ptr (hf _ _ hη) hb
 | mref hη => simp only [ren]; exact .mref (hf _ _ hη)
 | yl hη => simp only [ren]; exact .yl (hf _ _ hη)
 | itp hη => simp only [ren]; exact .itp (hf _ _ hη)
 | cm hS hm => simp only [ren]; exact .cm hS hm
 | pp cs hS hc hr _ => simp only [ren]; exact .pp cs hS hc hr
 | fn h1 h2 r1 r2 i1 i2 => simp only [ren]; exact .fn (by rw [renL_length]; exact h1) (by rw [renL_length]; exact h2) (fun j => by rw [renL_getD]; exact i1 j hf) (fun j => by rw [renL_getD]; exact i2 j hf)
theorem renL_mpf {f : Nat → Nat} {k : KK} {es : List (MK × Value)} : renL f [.mp k es] = [.mp k es] := by simp [renL, ren]
theorem renL_lpf {f : Nat → Nat} {rc : RC} {st : LoopState} {pd : Option Code} {ks : List Nat} {ts : List L} : renL f [.lp rc st pd ks ts] = [.lp rc st pd ks (renL f ts)] := by simp [renL, ren]
theorem renL_itf {f : Nat → Nat} {k : KK} {es : List (MK × Value)} {s : List Nat} : renL f [.it k es s] = [.it k es s] := by simp [renL, ren]
theorem liveAt_shift {η η' : List Nat} {S : Nat → Prop} {w : World} {b : Nat} {ls : List L} {f : Nat → Nat} (h : LiveAt η S w b ls) (hf : ∀ h b : Nat, η[h]? = some b → η'[f h]? = some b) : LiveAt η' S w b (renL f ls) := by
 rcases h with ⟨c, t, fr, q1, q2, q3, q4⟩ | ⟨k, es, rfl, hm⟩ | ⟨rc, st, pd, ks, ts, rfl, r, q1, q2, q3, q4, q5, q6, q7, q8⟩ | ⟨k, es, s, rfl, m, q1, q2, q3⟩
 ·exact .inl ⟨c, t, fr, q1, by rw [renL_length]; exact q2, q3, fun j hj => by rw [renL_getD]; exact rel_shift (q4 j (by rwa [renL_length] at hj)) hf⟩
 ·exact .inr (.inl ⟨k, es, renL_mpf, hm⟩)
 ·exact .inr (.inr (.inl ⟨rc, st, pd, ks, renL f ts, renL_lpf, r, q1, q2, q3, q4, q5, q6, q7, fun j => by rw [renL_getD]; exact rel_shift (q8 j) hf⟩))
 ·exact .inr (.inr (.inr ⟨k, es, s, renL_itf, m, q1, rel_shift q2 hf, q3⟩))
def setRows (f : Nat → Nat) : Heap → List Nat → Heap → Heap
 | H, s :: ss, r :: rs => setRows f (H.set s (r.map (renL f))) ss rs
 | H, _, _ => H
def mergeH (f : Nat → Nat) (H : Heap) (σ : List Nat) (R : Heap) : Heap := setRows f H σ R ++ (R.drop σ.length).map fun r => r.map (renL f)
def upN (σ : List Nat) (n i : Nat) : Nat := if i < σ.length then σ.getD i 0 else n + (i - σ.length)
theorem setRows_length {f : Nat → Nat} : ∀ {σ : List Nat} {H R : Heap}, (setRows f H σ R).length = H.length
 | [], H, R => by simp [setRows]
 | s :: σ, H, [] => by simp [setRows]
 | s :: σ, H, r :: R => by simp only [setRows]; rw [setRows_length]; simp
theorem setRows_other {f : Nat → Nat} : ∀ {σ : List Nat} {H R : Heap} {h : Nat}, h ∉ σ → (setRows f H σ R)[h]? = H[h]?
 | [], H, R, h, _ => by simp [setRows]
 | s :: σ, H, [], h, _ => by simp [setRows]
 | s :: σ, H, r :: R, h, hn => by
  simp only [List.mem_cons, not_or] at hn
  simp only [setRows]
  rw [setRows_other hn.2, List.getElem?_set_ne (Ne.symm hn.1)]
theorem setRows_at {f : Nat → Nat} : ∀ {σ : List Nat} {H R : Heap} {i s : Nat}, σ.Nodup → (∀ s ∈ σ, s < H.length) → σ[i]? = some s → i < R.length → (setRows f H σ R)[s]? = (R[i]?).map fun r => r.map (renL f)
 | [], H, R, i, s, _, _, e, _ => by simp at e
 | t :: σ, H, [], i, s, _, _, _, hi => by simp at hi
 | t :: σ, H, r :: R, i, s, hn, hl, e, hi => by
  simp only [List.nodup_cons] at hn
  simp only [setRows]
  cases i with
  | zero =>
   simp at e; subst e
   rw [setRows_other hn.1, List.getElem?_set_self (hl t (by simp))]
   simp
  | succ i =>
   simp only [List.getElem?_cons_succ] at e ⊢
   exact setRows_at hn.2 (fun s hs => by rw [List.length_set]; exact hl s (by simp [hs])) e (by simpa using hi)
theorem callAt_frame {P : Program} {f : FuncId} {ls ls1 : List L} {H H1 : Heap} {K K1 : L → Heap → Prop} (σ : List Nat) (hnd : σ.Nodup) (hrows : rowsOK H (fun i => σ.getD i 0) H1.length σ H1) (hlive : (H1.all Option.isSome) = true)
  (hargs : ls = renL (fun i => σ.getD i 0) ls1) (hbel : belowL H1.length ls1 = true) (h : callAt P f ls1 H1 K1)
  (hK : ∀ l R, K1 l R → K (ren (upN σ H.length) l) (mergeH (upN σ H.length) H σ R)) : callAt P f ls H K := by
 refine ⟨h.1, fun η S w vs hC hv => ?_⟩
 obtain ⟨r1, r2, r3⟩ := rowsOK_spec hrows
 have hση : ∀ s ∈ σ, s < η.length := fun s hs => by rw [hC.len]; exact r2 s hs
 have hget : ∀ {i b : Nat}, (σ.map fun s => η.getD s 0)[i]? = some b → ∃ s, σ[i]? = some s ∧ η[s]? = some b := fun {i b} e => by
  simp only [List.getElem?_map, Option.map_eq_some_iff] at e
  obtain ⟨s, h1, h2⟩ := e
  have hs := hση s (List.mem_of_getElem? h1)
  refine ⟨s, h1, ?_⟩
  rw [List.getElem?_eq_getElem hs]
  simpa [List.getD, List.getElem?_eq_getElem hs] using h2
 have hback : ∀ i, i < H1.length → (σ.map fun s => η.getD s 0)[i]? = η[σ.getD i 0]? := fun i hi => by
  have hi' : i < σ.length := by omega
  have hs := hση σ[i] (List.getElem_mem hi')
  simp [List.getD, List.getElem?_eq_getElem hi', List.getElem?_eq_getElem hs]
 have liveOf : ∀ {i s : Nat}, σ[i]? = some s → ∃ ls, H1[i]? = some (some ls) ∧ H[s]? = some (some (renL (fun i => σ.getD i 0) ls)) ∧ belowL H1.length ls = true := fun {i s} e => by
  have hi : i < H1.length := by rw [← r1]; exact (List.getElem?_eq_some_iff.1 e).1
  have := List.all_eq_true.1 hlive H1[i] (List.getElem_mem hi)
  obtain ⟨ls, hls⟩ := Option.isSome_iff_exists.1 this
  have hg : H1[i]? = some (some ls) := by rw [List.getElem?_eq_getElem hi, hls]
  exact ⟨ls, hg, r3 i s ls e hg⟩
 have inj : ∀ {i j s : Nat}, σ[i]? = some s → σ[j]? = some s → i = j := fun {i j s} h1 h2 => by
  obtain ⟨a1, b1⟩ := List.getElem?_eq_some_iff.1 h1
  obtain ⟨a2, b2⟩ := List.getElem?_eq_some_iff.1 h2
  exact (List.getElem_inj hnd).1 (b1.trans b2.symm)
 have hC1 : Conc (σ.map fun s => η.getD s 0) S w H1 := by
  refine ⟨by simp [r1], fun b hb => ?_, hC.Slt, fun i b ls e1 e2 => ?_, fun i b ls e1 e2 => ?_⟩
  ·obtain ⟨i, hi⟩ := List.getElem?_of_mem hb
   obtain ⟨s, -, hs⟩ := hget hi
   exact hC.lt b (List.mem_of_getElem? hs)
  ·obtain ⟨s, s1, s2⟩ := hget e1
   obtain ⟨q1, -⟩ := r3 i s ls s1 e2
   obtain ⟨p1, p2⟩ := hC.apart s b _ s2 q1
   refine ⟨p1, fun j ls' f1 f2 => ?_⟩
   obtain ⟨s', s1', s2'⟩ := hget f1
   obtain ⟨q1', -⟩ := r3 j s' ls' s1' f2
   have := p2 s' _ s2' q1'
   subst this
   exact inj s1' s1
  ·obtain ⟨s, s1, s2⟩ := hget e1
   obtain ⟨q1, q2⟩ := r3 i s ls s1 e2
   have hli := hC.liveAt s b _ s2 q1
   rcases hli with ⟨c, t, fr, g1, g2, g3, g4⟩ | ⟨kk, es, e, hm⟩ | ⟨rc, st, pd, ks, ts, e, r, g1, g2, g3, g4, g5, g6, g7, g8⟩ | ⟨kk, es, sn, e, m, g1, g2, g3⟩
   ·rw [renL_length] at g2
    exact .inl ⟨c, t, fr, g1, g2, g3, fun j hj => (g4 j (by rw [renL_length]; exact hj)).ren hback _ renL_getD (belowL_get q2 j)⟩
   ·exact .inr (.inl ⟨kk, es, renL_mp e, hm⟩)
   ·obtain ⟨ts', rfl, rfl⟩ := renL_lp e
    simp only [belowL, Lg.below, Bool.and_true] at q2
    exact .inr (.inr (.inl ⟨rc, st, pd, ks, ts', rfl, r, g1, g2, g3, g4, g5, g6, g7, fun j => (g8 j).ren hback _ renL_getD (belowL_get q2 j)⟩))
   ·exact .inr (.inr (.inr ⟨kk, es, sn, renL_it e, m, g1, g2.ren hback _ rfl rfl, g3⟩))
 have hv1 : RelAll (σ.map fun s => η.getD s 0) S w vs ls1 := by
  subst hargs
  exact ⟨by rw [hv.1, renL_length], fun j => (hv.2 j).ren hback _ renL_getD (belowL_get hbel j)⟩
 refine (h.2 _ S w vs hC1 hv1).mono ?_
 rintro e w' ⟨v, l, R, η1, S', rfl, hk1, k1, k2, k3⟩
 obtain ⟨ζ, rfl, hζ⟩ := k3.pre
 have hm : (σ.map fun s => η.getD s 0).length = σ.length := by simp
 have hRlen : R.length = σ.length + ζ.length := by rw [← k2.len]; simp
 have memσ : ∀ b, b ∈ (σ.map fun s => η.getD s 0) → ∃ s ∈ σ, η[s]? = some b := fun b hb => by
  obtain ⟨i, hi⟩ := List.getElem?_of_mem hb
  obtain ⟨s, h1, h2⟩ := hget hi
  exact ⟨s, List.mem_of_getElem? h1, h2⟩
 have hup : ∀ i b : Nat, ((σ.map fun s => η.getD s 0) ++ ζ)[i]? = some b → (η ++ ζ)[upN σ H.length i]? = some b := fun i b e => by
  unfold upN
  by_cases hi : i < σ.length
  ·rw [if_pos hi]
   rw [List.getElem?_append_left (by rw [hm]; exact hi)] at e
   obtain ⟨s, h1, h2⟩ := hget e
   have : σ.getD i 0 = s := by simp [List.getD, h1]
   rw [this]
   exact prefix_get h2
  ·rw [if_neg hi]
   rw [List.getElem?_append_right (by rw [hm]; omega), hm] at e
   rw [← hC.len, List.getElem?_append_right (by omega), Nat.add_sub_cancel_left]
   exact e
 have hle : Le η S w (η ++ ζ) S' w' := by
  refine ⟨⟨ζ, rfl, fun b hb => ?_⟩, k3.sub, k3.keep, k3.shape, k3.size, fun b hb hn => k3.frame b hb fun hm => ?_, fun b hb => ?_, k3.os, k3.tape, k3.output⟩
  ·rcases hζ b hb with h | h
   ·obtain ⟨s, -, hs⟩ := memσ b h
    exact .inl (List.mem_of_getElem? hs)
   ·exact .inr h
  ·obtain ⟨s, -, hs⟩ := memσ b hm
   exact hn (List.mem_of_getElem? hs)
  ·rcases k3.new b hb with h | h | h
   ·exact .inl h
   ·obtain ⟨s, -, hs⟩ := memσ b h
    exact .inr (.inl (List.mem_of_getElem? hs))
   ·exact .inr (.inr h)
 have unseen : ∀ {h b : Nat} {ls : List L}, h ∉ σ → η[h]? = some b → H[h]? = some (some ls) → b ∉ (σ.map fun s => η.getD s 0) := fun {h b ls} hn e1 e2 hb => by
  obtain ⟨i, hi⟩ := List.getElem?_of_mem hb
  obtain ⟨s, h1, h2⟩ := hget hi
  obtain ⟨ls', g1, g2, -⟩ := liveOf h1
  have := (hC.apart h b ls e1 e2).2 s _ h2 g2
  subst this
  exact hn (List.mem_of_getElem? h1)
 have rowAt : ∀ {h b : Nat} {ls : List L}, (η ++ ζ)[h]? = some b → (mergeH (upN σ H.length) H σ R)[h]? = some (some ls) →
   (h ∉ σ ∧ η[h]? = some b ∧ H[h]? = some (some ls)) ∨ ∃ i ls0, ((σ.map fun s => η.getD s 0) ++ ζ)[i]? = some b ∧ R[i]? = some (some ls0) ∧ ls = renL (upN σ H.length) ls0 ∧ h = upN σ H.length i := by
  intro h b ls e1 e2
  unfold mergeH at e2
  by_cases hh : h < H.length
  ·rw [List.getElem?_append_left (by rw [setRows_length]; exact hh)] at e2
   rw [List.getElem?_append_left (by rw [hC.len]; exact hh)] at e1
   by_cases hs : h ∈ σ
   ·obtain ⟨i, hi⟩ := List.getElem?_of_mem hs
    have hil : i < σ.length := (List.getElem?_eq_some_iff.1 hi).1
    rw [setRows_at hnd r2 hi (by omega)] at e2
    rw [List.getElem?_eq_getElem (show i < R.length by omega)] at e2
    simp only [Option.map_some, Option.some.injEq] at e2
    obtain ⟨ls0, h1, h2⟩ := Option.map_eq_some_iff.1 e2
    refine .inr ⟨i, ls0, ?_, by rw [List.getElem?_eq_getElem (show i < R.length by omega), h1], h2.symm, ?_⟩
    ·rw [List.getElem?_append_left (by rw [hm]; exact hil), List.getElem?_map, hi]
     simp [List.getD, e1]
    ·unfold upN; rw [if_pos hil]; simp [List.getD, hi]
   ·rw [setRows_other hs] at e2
    exact .inl ⟨hs, e1, e2⟩
  ·rw [List.getElem?_append_right (by rw [setRows_length]; omega), setRows_length, List.getElem?_map, List.getElem?_drop] at e2
   rw [List.getElem?_append_right (by rw [hC.len]; omega), hC.len] at e1
   obtain ⟨r, h1, h2⟩ := Option.map_eq_some_iff.1 e2
   obtain ⟨ls0, rfl, h4⟩ := Option.map_eq_some_iff.1 h2
   refine .inr ⟨σ.length + (h - H.length), ls0, ?_, h1, h4.symm, ?_⟩
   ·rw [List.getElem?_append_right (by rw [hm]; omega), hm, Nat.add_sub_cancel_left]; exact e1
   ·unfold upN; rw [if_neg (by omega)]; omega
 refine ⟨v, _, _, η ++ ζ, S', rfl, hK l R hk1, rel_shift k1 hup, ⟨?_, ?_, k2.Slt, ?_, ?_⟩, hle⟩
 ·unfold mergeH
  rw [List.length_append, List.length_append, setRows_length, List.length_map, List.length_drop, hC.len]
  omega
 ·intro b hb
  rcases List.mem_append.1 hb with hb | hb
  ·exact Nat.lt_of_lt_of_le (hC.lt b hb) k3.size
  ·exact k2.lt b (by simp [hb])
 ·intro h b ls e1 e2
  have fresh : ∀ {h b : Nat} {ls : List L}, h ∉ σ → η[h]? = some b → H[h]? = some (some ls) → b ∉ (σ.map fun s => η.getD s 0) ++ ζ := fun {h b ls} hn f1 f2 hb => by
   rcases List.mem_append.1 hb with hb | hb
   ·exact unseen hn f1 f2 hb
   ·rcases hζ b hb with hb | hb
    ·exact unseen hn f1 f2 hb
    ·have := hC.lt b (List.mem_of_getElem? f1); omega
  rcases rowAt e1 e2 with ⟨hs, f1, f2⟩ | ⟨i, ls0, f1, f2, rfl, rfl⟩
  ·refine ⟨fun hS' => ?_, fun h' ls' g1 g2 => ?_⟩
   ·rcases k3.new b hS' with h' | h' | h'
    ·exact (hC.apart h b ls f1 f2).1 h'
    ·exact unseen hs f1 f2 h'
    ·have := hC.lt b (List.mem_of_getElem? f1); omega
   ·rcases rowAt g1 g2 with ⟨hs', f1', f2'⟩ | ⟨i, ls0, f1', -, -, -⟩
    ·exact (hC.apart h b ls f1 f2).2 h' ls' f1' f2'
    ·exact absurd (List.mem_of_getElem? f1') (fresh hs f1 f2)
  ·obtain ⟨p1, p2⟩ := k2.apart i b ls0 f1 f2
   refine ⟨p1, fun h' ls' g1 g2 => ?_⟩
   rcases rowAt g1 g2 with ⟨hs', f1', f2'⟩ | ⟨i', ls0', f1', f2', -, rfl⟩
   ·exact absurd (List.mem_of_getElem? f1) (fresh hs' f1' f2')
   ·rw [p2 i' ls0' f1' f2']
 ·intro h b ls e1 e2
  rcases rowAt e1 e2 with ⟨hs, f1, f2⟩ | ⟨i, ls0, f1, f2, rfl, rfl⟩
  ·exact (hC.liveAt h b ls f1 f2).mono (k3.frame b (hC.lt b (List.mem_of_getElem? f1)) (unseen hs f1 f2)) fun _ _ hr => hr.le hle
  ·exact liveAt_shift (k2.liveAt i b ls0 f1 f2) hup
theorem callT_frame {z : Bool} {P : Program} {f : FuncId} {ls ls1 : List L} {H H1 : Heap} {K1 : L → Heap → Prop} {dst : Option Nat} {rest : List O} {K : Env → Heap → Prop} {E : Env} (σ : List Nat) (h : callAt P f ls1 H1 K1) (hnd : σ.Nodup)
  (hrows : rowsOK H (fun i => σ.getD i 0) H1.length σ H1) (hlive : (H1.all Option.isSome) = true)
  (hargs : ls = renL (fun i => σ.getD i 0) ls1) (hbel : belowL H1.length ls1 = true)
  (hK : ∀ l R, K1 l R → lops P rest K (putE E dst (ren (upN σ H.length) l)) (mergeH (upN σ H.length) H σ R)) : callT (z := z) P f ls H dst rest K E :=
 callT_of (callAt_frame σ hnd hrows hlive hargs hbel h hK)
end Lg

