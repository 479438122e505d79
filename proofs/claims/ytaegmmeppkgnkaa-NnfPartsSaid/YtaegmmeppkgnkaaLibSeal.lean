/- A row that a call made, and that nobody writes any more: a list; the own rows at hand are as they were. -/
import Derived.Test.YtaegmmeppkgnkaaLibAcc
namespace Lg
open Go

theorem shut_get {n : Nat} : ∀ {H : Heap} {h : Nat} {ls : List L}, shut n H → H[h]? = some (some ls) → belowL n ls = true
  | [], h, ls, _, e => by simp at e
  | none :: H, 0, ls, hs, e => by simp at e
  | some r :: H, 0, ls, hs, e => by simp at e; subst e; exact hs.1
  | none :: H, h + 1, ls, hs, e => shut_get (H := H) hs (by simpa using e)
  | some r :: H, h + 1, ls, hs, e => shut_get (H := H) hs.2 (by simpa using e)

theorem callAt_seal {P : Program} {f : FuncId} {ls : List L} {H : Heap} {e k n : Nat} {c : Bool} {cells : List L} {K : L → Heap → Prop} (hs : shut H.length H)
    (h : callAt P f ls H fun l H' => l = .view e k 0 n c ∧ ∃ R, H' = H ++ R ∧ H.length ≤ k ∧ live H' k = some cells) (hn : n * e ≤ cells.length) (he : e ≠ 0) (hcl : (cells.take (n * e)).all closed = true)
    (hK : K (.sl e c (chunk n e (cells.take (n * e)))) H) : callAt P f ls H K := by
  refine ⟨h.1, fun η S w vs hC hv => (h.2 η S w vs hC hv).mono ?_⟩
  rintro ex w' ⟨v, l, H', η', S', rfl, ⟨rfl, R, rfl, hk, hl⟩, h1, h2, h3⟩
  obtain ⟨ζ, rfl, hζ⟩ := h3.pre
  have hkH : (H ++ R)[k]? = some (some cells) := live_iff.1 hl
  have hklt : k < (H ++ R).length := (List.getElem?_eq_some_iff.1 hkH).1
  obtain ⟨β, hβ⟩ : ∃ β, (η ++ ζ)[k]? = some β := ⟨_, List.getElem?_eq_getElem (by rw [h2.len]; exact hklt)⟩
  have hβm : β ∈ η ++ ζ := List.mem_of_getElem? hβ
  have hβw : β ∈ η ∨ w.heap.size ≤ β := by
    rcases List.mem_append.1 hβm with h | h
    · exact .inl h
    · exact hζ β h
  have hfrz : frz (H ++ R) [k] (.view e k 0 n c) = .sl e c (chunk n e (cells.take (n * e))) := by
    simp only [frz]
    rw [if_pos (by simp), hl]
    simp only [List.drop_zero]
    rw [if_pos ⟨by omega, he, hcl⟩]
  have hr := frz_rel h2 (fz := [k]) (S' := fun b => S' b ∨ b = β) (fun b hb => by
    rcases hb with hb | ⟨h, ls, q1, q2, -⟩
    · exact .inl hb
    · simp at q1; subst q1
      rw [hβ] at q2
      exact .inr (Option.some.inj q2).symm) h1
  rw [hfrz] at hr
  have hlen := hC.len
  have get1 : ∀ {h b : Nat}, η[h]? = some b → (η ++ ζ)[h]? = some b := fun e => prefix_get e
  have get2 : ∀ {h : Nat} {r}, H[h]? = some r → (H ++ R)[h]? = some r := fun {h r} e => by
    rw [List.getElem?_append_left (List.getElem?_eq_some_iff.1 e).1]; exact e
  refine ⟨v, _, H, η, fun b => S' b ∨ b = β, rfl, hK, (hr.closed rfl).nil, ⟨hlen, fun b hb => h2.lt b (List.mem_append_left _ hb), fun b hb => ?_, fun h b ls e1 e2 => ?_, fun h b ls e1 e2 => ?_⟩,
    ⟨⟨[], by simp, by simp⟩, fun b hb => .inl (h3.sub b hb), h3.keep, h3.shape, h3.size, h3.frame, fun b hb => ?_, h3.os, h3.tape, h3.output⟩⟩
  · rcases hb with hb | rfl
    · exact h2.Slt b hb
    · exact h2.lt _ hβm
  · obtain ⟨p1, p2⟩ := h2.apart h b ls (get1 e1) (get2 e2)
    refine ⟨fun hs' => ?_, fun h' ls' f1 f2 => p2 h' ls' (get1 f1) (get2 f2)⟩
    rcases hs' with hs' | rfl
    · exact p1 hs'
    · have := p2 k cells hβ hkH
      have := (List.getElem?_eq_some_iff.1 e2).1
      omega
  · have hb := shut_get hs e2
    rcases h2.liveAt h b ls (get1 e1) (get2 e2) with ⟨c0, t0, fr0, q1, q2, q3, q4⟩ | ⟨kk, es, rfl, hm⟩ | ⟨rc, st, pd, ks, ts, rfl, r, q1, q2, q3, q4, q5, q6, q7, q8⟩
    · refine .inl ⟨c0, t0, fr0, q1, q2, q3, fun j hj => ?_⟩
      have := (q4 j hj).cut H.length (belowL_get hb j)
      rw [← hlen, List.take_left] at this
      exact this.mono (fun _ h => .inl h) (fun _ _ => rfl) (fun _ c _ fr h => ⟨c, fr, h, rfl⟩) (fun _ _ h => h)
    · exact .inr (.inl ⟨kk, es, rfl, hm⟩)
    · simp only [belowL, below, Bool.and_true] at hb
      refine .inr (.inr ⟨rc, st, pd, ks, ts, rfl, r, q1, q2, q3, q4, q5, q6, q7, fun j => ?_⟩)
      have := (q8 j).cut H.length (belowL_get hb j)
      rw [← hlen, List.take_left] at this
      exact this.mono (fun _ h => .inl h) (fun _ _ => rfl) (fun _ c _ fr h => ⟨c, fr, h, rfl⟩) (fun _ _ h => h)
  · rcases hb with hb | rfl
    · exact h3.new b hb
    · rcases hβw with h | h
      · exact .inr (.inl h)
      · exact .inr (.inr h)

end Lg
