/- Own rows that are written no more, at a loop's head. -/
import Derived.Test.YtaegmmeppkgnkaaLgQ6
namespace Lg
open Go

section
variable {ds : List Deferred} {ro : Option Nat} {P : Program} {η : List Nat} {S : Nat → Prop} {w : World} {H : Heap} {a : Act} {E : Env}

theorem frzH_length {H : Heap} {fz : List Nat} : ∀ {rs : Heap} {i : Nat}, (frzH H fz i rs).length = rs.length
  | [], _ => rfl
  | _ :: rs, i => by simp [frzH, frzH_length (rs := rs)]

theorem frzH_get {H : Heap} {fz : List Nat} : ∀ {rs : Heap} {i h : Nat} {ls : List L}, (frzH H fz i rs)[h]? = some (some ls) → ∃ ls0, rs[h]? = some (some ls0) ∧ fz.contains (i + h) = false ∧ ls = ls0.map (frz H fz)
  | [], i, h, ls, e => by simp [frzH] at e
  | r :: rs, i, 0, ls, e => by
    simp only [frzH, List.getElem?_cons_zero, Option.some.injEq] at e
    cases r with
    | none => simp [frzRow] at e
    | some ls0 =>
      simp only [frzRow] at e
      split at e
      · simp at e
      · rename_i hc
        simp at e
        exact ⟨ls0, by simp, by simpa using hc, e.symm⟩
  | r :: rs, i, h + 1, ls, e => by
    obtain ⟨ls0, h1, h2, h3⟩ := frzH_get (rs := rs) (i := i + 1) (h := h) (by simpa [frzH] using e)
    exact ⟨ls0, by simpa using h1, by rw [show i + (h + 1) = i + 1 + h by omega]; exact h2, h3⟩

/-- Rows that are written no more. -/
theorem At.frz {n : Nat} {η₀ : List Nat} {S₀ : Nat → Prop} {w₀ : World} (h : At n ds η S w a E H) (hL : Le η₀ S₀ w₀ η S w) (fz : List Nat) :
    ∃ S', At n ds η S' w a (frzE H fz E) (frzH H fz 0 H) ∧ Le η₀ S₀ w₀ η S' w ∧ ∀ b, S' b → S b ∨ b ∈ η := by
  obtain ⟨ζ, hζ, hnew⟩ := hL.pre
  let S' : Nat → Prop := fun b => S b ∨ ∃ (h : Nat) (ls : List L), fz.contains h = true ∧ η[h]? = some b ∧ H[h]? = some (some ls)
  have hr : ∀ {x l}, Rel S w η x l → Rel S' w η x (Lg.frz H fz l) := fun hx => frz_rel h.conc (fun b hb => hb) hx
  refine ⟨S', ⟨⟨by rw [frzH_length]; exact h.conc.len, h.conc.lt, fun b hb => ?_, fun k b ls e1 e2 => ?_, fun k b ls e1 e2 => ?_⟩, fun t => ?_, h.size, h.defers⟩,
    ⟨hL.pre, fun b hb => .inl (hL.sub b hb), hL.keep, hL.shape, hL.size, hL.frame, fun b hb => ?_, hL.os, hL.tape, hL.output⟩, fun b hb => ?_⟩
  rotate_right
  · rcases hb with hb | ⟨k, ls, -, e, -⟩
    · exact .inl hb
    · exact .inr (List.mem_of_getElem? e)
  · rcases hb with hb | ⟨k, ls, -, e, -⟩
    · exact h.conc.Slt b hb
    · exact h.conc.lt b (List.mem_of_getElem? e)
  · obtain ⟨ls0, f1, f2, rfl⟩ := frzH_get e2
    simp only [Nat.zero_add] at f2
    obtain ⟨p1, p2⟩ := h.conc.apart k b ls0 e1 f1
    refine ⟨fun hs => ?_, fun k' ls' g1 g2 => ?_⟩
    · rcases hs with hs | ⟨k', ls', q1, q2, q3⟩
      · exact p1 hs
      · have := p2 k' ls' q2 q3
        subst this
        rw [q1] at f2; cases f2
    · obtain ⟨ls1, f3, -, -⟩ := frzH_get g2
      exact p2 k' ls1 g1 f3
  · obtain ⟨ls0, f1, f2, rfl⟩ := frzH_get e2
    rcases h.conc.liveAt k b ls0 e1 f1 with ⟨c, t, fr, g1, g2, g3, g4⟩ | ⟨kk, es, e, hm⟩ | ⟨rc, st, pd, ts, e, r, g1, g2, g3, g4, g5, g6, g7, g8⟩
    · refine .inl ⟨c, t, fr, g1, by simpa using g2, g3, fun j hj => ?_⟩
      simp at hj
      have := hr (g4 j hj)
      rw [getD_of_lt _ _ (by simpa using hj), List.getElem_map]
      rwa [getD_of_lt _ _ hj] at this
    · exact .inr (.inl ⟨kk, es, by rw [e]; rfl, hm⟩)
    · exact .inr (.inr ⟨rc, st, pd, ts, by rw [e]; rfl, r, g1, g2, g3, g4, g5, g6, g7, fun j => (g8 j).mono (fun b hb => .inl hb) (fun _ _ => rfl) (fun _ c _ fr h => ⟨c, fr, h, rfl⟩) (fun _ _ h => h)⟩)
  · have : lk (frzE H fz E) t = Lg.frz H fz (lk E t) := by
      clear hr
      clear h
      induction E with
      | nil => rfl
      | cons p E ih =>
        obtain ⟨k, l⟩ := p
        simp only [frzE, List.map_cons, lk] at ih ⊢
        split
        · rfl
        · exact ih
    rw [this]
    exact hr (h.env t)
  · rcases hb with hb | ⟨k, ls, -, e, -⟩
    · exact hL.new b hb
    · have hm := List.mem_of_getElem? e
      rw [hζ] at hm
      rcases List.mem_append.1 hm with hm | hm
      · exact .inr (.inl hm)
      · exact .inr (hnew b hm)

theorem Marks.sub {lo : Nat} {η' : List Nat} {S' : Nat → Prop} (h : Marks lo ds η S w) (h1 : ∀ b ∈ η', b ∈ η) (h2 : ∀ b, S' b → S b ∨ b ∈ η) : Marks lo ds η' S' w := by
  obtain ⟨Ds, k1, k2, k3⟩ := h
  refine ⟨Ds, k1, k2, fun D hD => ?_⟩
  obtain ⟨e0, e1, e2, e3⟩ := k3 D hD
  exact ⟨e0, e1, fun hm => e2 (h1 D hm), fun hs => (h2 D hs).elim e3 e2⟩

theorem At.weakZ {n : Nat} {η₀ : List Nat} {S₀ : Nat → Prop} {w₀ : World} {E' : Env} {H' : Heap} (h : At n ds η S w a E H) (hL : Le η₀ S₀ w₀ η S w) (hw : Lg.weakZ η₀.length E H E' H') :
    ∃ η' S', At n ds η' S' w a E' H' ∧ Le η₀ S₀ w₀ η' S' w ∧ (∀ b ∈ η', b ∈ η) ∧ ∀ b, S' b → S b ∨ b ∈ η := by
  rcases hw with hw | ⟨fz, hw⟩ | ⟨fz, fz', hw⟩
  · obtain ⟨η', h1, h2, h3⟩ := h.weak hL hw
    exact ⟨η', S, h1, h2, h3, fun _ h => .inl h⟩
  · obtain ⟨S', h1, h2, h5⟩ := h.frz hL fz
    obtain ⟨η', h3, h4, h6⟩ := h1.weak h2 hw
    exact ⟨η', S', h3, h4, h6, h5⟩
  · obtain ⟨S', h1, h2, h7⟩ := h.frz hL fz
    obtain ⟨S'', h5, h6, h8⟩ := h1.frz h2 fz'
    obtain ⟨η', h3, h4, h9⟩ := h5.weak h6 hw
    exact ⟨η', S'', h3, h4, h9, fun b hb => (h8 b hb).elim (h7 b) .inr⟩

end
end Lg
