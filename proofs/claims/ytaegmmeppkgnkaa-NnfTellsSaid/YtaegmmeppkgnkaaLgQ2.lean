/- Regions whose order of evaluation is open: the orders. -/
import Derived.Test.YtaegmmeppkgnkaaLgQ
namespace Lg
open Go

theorem mem_addAll : ∀ {ys xs : List Nat} {j : Nat}, j ∈ addAll xs ys → j ∈ xs ∨ j ∈ ys
  | [], xs, j, h => .inl h
  | y :: ys, xs, j, h => by
    simp only [addAll] at h
    rcases mem_addAll h with h | h
    · split at h
      · exact .inl h
      · rcases List.mem_cons.1 h with rfl | h
        · exact .inr (by simp)
        · exact .inl h
    · exact .inr (by simp [h])

theorem mem_fold {acc : List (List Nat)} : ∀ {es s : List Nat} {j : Nat}, j ∈ es.foldl (fun s e => addAll (addAll s [e]) (acc.getD e [])) s → j ∈ s ∨ j ∈ es ∨ ∃ e ∈ es, j ∈ acc.getD e []
  | [], s, j, h => .inl h
  | e :: es, s, j, h => by
    simp only [List.foldl_cons] at h
    rcases mem_fold h with h | h | ⟨e', h1, h2⟩
    · rcases mem_addAll h with h | h
      · rcases mem_addAll h with h | h
        · exact .inl h
        · simp at h; subst h; exact .inr (.inl (by simp))
      · exact .inr (.inr ⟨e, by simp, h⟩)
    · exact .inr (.inl (by simp [h]))
    · exact .inr (.inr ⟨e', by simp [h1], h2⟩)

theorem ancs_prefix : ∀ (ops : List Oper) (acc : List (List Nat)), ∃ r, ancs ops acc = acc ++ r
  | [], acc => ⟨[], by simp [ancs]⟩
  | o :: ops, acc => by
    obtain ⟨r, hr⟩ := ancs_prefix ops (acc ++ [(edges o).foldl (fun s e => addAll (addAll s [e]) (acc.getD e [])) []])
    exact ⟨_, by simp only [ancs]; rw [hr, List.append_assoc]⟩

/-- What comes ahead of an operation: what it waits for, and what comes ahead of that. -/
theorem ancs_spec : ∀ (ops : List Oper) (acc : List (List Nat)) (i : Nat) (o : Oper), ops[i]? = some o → ∀ j ∈ (ancs ops acc).getD (acc.length + i) [], j ∈ edges o ∨ ∃ e ∈ edges o, j ∈ (ancs ops acc).getD e []
  | [], acc, i, o, h => by simp at h
  | o' :: ops, acc, i, o, h => by
    intro j hj
    simp only [ancs] at hj ⊢
    cases i with
    | zero =>
      simp at h; subst h
      obtain ⟨r, hr⟩ := ancs_prefix ops (acc ++ [(edges o').foldl (fun s e => addAll (addAll s [e]) (acc.getD e [])) []])
      rw [hr] at hj ⊢
      have e1 : ((acc ++ [(edges o').foldl (fun s e => addAll (addAll s [e]) (acc.getD e [])) []]) ++ r).getD (acc.length + 0) [] = (edges o').foldl (fun s e => addAll (addAll s [e]) (acc.getD e [])) [] := by
        simp [List.getD]
      rw [e1] at hj
      rcases mem_fold hj with hj | hj | ⟨e, h1, h2⟩
      · simp at hj
      · exact .inl hj
      · refine .inr ⟨e, h1, ?_⟩
        have hlt : e < acc.length := by
          rcases Nat.lt_or_ge e acc.length with h' | h'
          · exact h'
          · rw [getD_of_ge _ _ h'] at h2; simp at h2
        simp only [List.getD] at h2 ⊢
        rw [List.append_assoc, List.getElem?_append_left hlt]
        exact h2
    | succ i =>
      have := ancs_spec ops (acc ++ [(edges o').foldl (fun s e => addAll (addAll s [e]) (acc.getD e [])) []]) i o (by simpa using h) j (by
        rw [show (acc ++ [(edges o').foldl (fun s e => addAll (addAll s [e]) (acc.getD e [])) []]).length + i = acc.length + (i + 1) by simp; omega]; exact hj)
      exact this

def valAt (E : Env) (blk : List O) (outs : List Out) (M : Nat → Bool) (t : Nat) : Nat → L
  | 0 => lk E t
  | n + 1 => if M n = true ∧ (blk[n]?).bind (·.dst) = some t then ((outs[n]?).map Out.l).getD .any else valAt E blk outs M t n

theorem valAt_congr {E : Env} {blk : List O} {outs : List Out} {M M' : Nat → Bool} {t : Nat} : ∀ {n : Nat}, (∀ i, i < n → (blk[i]?).bind (·.dst) = some t → M i = M' i) → valAt E blk outs M t n = valAt E blk outs M' t n
  | 0, _ => rfl
  | n + 1, h => by
    simp only [valAt]
    rw [valAt_congr (fun i hi => h i (by omega))]
    by_cases hd : (blk[n]?).bind (·.dst) = some t
    · rw [h n (by omega) hd]
    · simp [hd]

/-- Nobody behind place k writes the slot. -/
theorem valAt_stop {E : Env} {blk : List O} {outs : List Out} {M : Nat → Bool} {t k : Nat} : ∀ {n : Nat}, k ≤ n → (∀ i, k ≤ i → i < n → (blk[i]?).bind (·.dst) = some t → M i = false) → valAt E blk outs M t n = valAt E blk outs M t k
  | 0, h, _ => by rw [Nat.le_zero.1 h]
  | n + 1, h, hn => by
    rcases Nat.lt_or_ge n k with h' | h'
    · rw [show k = n + 1 by omega]
    · simp only [valAt]
      rw [if_neg (fun hc => by have := hn n h' (by omega) hc.2; rw [hc.1] at this; simp at this)]
      exact valAt_stop h' (fun i h1 h2 => hn i h1 (by omega))

theorem foldE_snoc : ∀ {bs : List O} {os : List Out} {E : Env} {o : O} {out : Out}, bs.length = os.length → foldE E (bs ++ [o]) (os ++ [out]) = putE (foldE E bs os) o.dst out.l
  | [], [], E, o, out, _ => rfl
  | b :: bs, o' :: os, E, o, out, h => by simp only [List.cons_append, foldE]; exact foldE_snoc (by simpa using h)
  | [], _ :: _, _, _, _, h => by simp at h
  | _ :: _, [], _, _, _, h => by simp at h

theorem valAt_fold {E : Env} {blk : List O} {outs : List Out} (hl : outs.length = blk.length) {t : Nat} : ∀ {i : Nat}, i ≤ blk.length → valAt E blk outs (fun _ => true) t i = lk (foldE E (blk.take i) (outs.take i)) t
  | 0, _ => by simp [valAt, foldE]
  | i + 1, h => by
    have h1 : i < blk.length := by omega
    have h2 : i < outs.length := by omega
    rw [List.take_succ_eq_append_getElem h1, List.take_succ_eq_append_getElem h2, foldE_snoc (by simp; omega), lk_putE]
    simp only [valAt, List.getElem?_eq_getElem h1, List.getElem?_eq_getElem h2, Option.bind_some, Option.map_some, Option.getD_some, true_and]
    rw [valAt_fold hl (by omega)]

theorem Runs.at {P : Program} {H : Heap} : ∀ {blk : List O} {outs : List Out} {E : Env}, Runs P H E blk outs → outs.length = blk.length ∧ ∀ (i : Nat) o out, blk[i]? = some o → outs[i]? = some out → OutOK P H (foldE E (blk.take i) (outs.take i)) o out
  | [], [], E, _ => ⟨rfl, fun i o out h => by simp at h⟩
  | [], _ :: _, E, h => h.elim
  | _ :: _, [], E, h => h.elim
  | o :: blk, out :: outs, E, h => by
    obtain ⟨h1, h2⟩ := h
    obtain ⟨e1, e2⟩ := Runs.at h2
    refine ⟨by simp [e1], fun i o' out' hb ho => ?_⟩
    cases i with
    | zero => simp at hb ho; subst hb; subst ho; simpa [foldE] using h1
    | succ i => simpa [foldE] using e2 i o' out' (by simpa using hb) (by simpa using ho)

theorem countP_lt {α : Type} {p q : α → Bool} : ∀ {l : List α}, (∀ x ∈ l, q x = true → p x = true) → (∃ x ∈ l, p x = true ∧ q x = false) → l.countP q < l.countP p
  | [], _, h => by obtain ⟨x, hx, -⟩ := h; simp at hx
  | y :: l, hm, h => by
    have hle : ∀ {l : List α}, (∀ x ∈ l, q x = true → p x = true) → l.countP q ≤ l.countP p := by
      intro l
      induction l with
      | nil => intro _; simp
      | cons z l ih =>
        intro hm
        have := ih (fun x hx => hm x (by simp [hx]))
        have hz := hm z (by simp)
        simp only [List.countP_cons]
        cases hq : q z <;> cases hp : p z <;> simp_all <;> omega
    obtain ⟨x, hx, h1, h2⟩ := h
    simp only [List.countP_cons]
    rcases List.mem_cons.1 hx with rfl | hx
    · have := hle (l := l) (fun x hx => hm x (by simp [hx]))
      simp [h1, h2]; omega
    · have := countP_lt (l := l) (fun x hx => hm x (by simp [hx])) ⟨x, hx, h1, h2⟩
      have hy := hm y (by simp)
      cases hq : q y <;> cases hp : p y <;> simp_all <;> omega

section
variable {P : Program} {η : List Nat} {S : Nat → Prop} {w : World} {H : Heap} {a : Act} {E : Env}

/-- A block that nobody else knows, taken up as an own row. -/
theorem Conc.adopt (hC : Conc η S w H) {b : Nat} {c : Array Value} {t : TypeId} {fr : Nat × Nat} (hfr : fr.1 = fr.2 ∨ c.size ≤ fr.1) {ls : List L} (hb : w.heap[b]? = some (.cells c t fr)) (hS : ¬ S b) (hn : b ∉ η) (hz : ls.length ≤ c.size) (hr : ∀ j, j < ls.length → Rel S w η (c.getD j undef) (ls.getD j .any)) :
    Conc (η ++ [b]) S w (H ++ [some ls]) := by
  have up : ∀ {x l}, Rel S w η x l → Rel S w (η ++ [b]) x l := fun h => h.mono (fun _ h => h) (fun _ _ => rfl) (fun _ c _ fr h => ⟨c, fr, h, rfl⟩) (fun _ _ h => prefix_get h)
  have hblt : b < w.heap.size := by
    rcases Nat.lt_or_ge b w.heap.size with h | h
    · exact h
    · simp [Array.getElem?_eq_none h] at hb
  have split : ∀ {k b' : Nat} {ls' : List L}, (η ++ [b])[k]? = some b' → (H ++ [some ls])[k]? = some (some ls') → (η[k]? = some b' ∧ H[k]? = some (some ls')) ∨ (k = η.length ∧ b' = b ∧ ls' = ls) := fun {k b' ls'} e1 e2 => by
    by_cases hk : k < η.length
    · rw [List.getElem?_append_left hk] at e1
      rw [List.getElem?_append_left (by rw [← hC.len]; exact hk)] at e2
      exact .inl ⟨e1, e2⟩
    · rw [List.getElem?_append_right (by omega)] at e1
      rcases hm : k - η.length with _ | m
      · simp [hm] at e1
        have : k = η.length := by omega
        subst this
        rw [List.getElem?_append_right (by rw [hC.len]; omega), hC.len] at e2
        simp at e2
        exact .inr ⟨rfl, e1.symm, e2.symm⟩
      · simp [hm] at e1
  refine ⟨by simp [hC.len], fun b' hb' => ?_, hC.Slt, fun k b' ls' e1 e2 => ?_, fun k b' ls' e1 e2 => ?_⟩
  · rcases List.mem_append.1 hb' with h | h
    · exact hC.lt b' h
    · simp at h; subst h; exact hblt
  · rcases split e1 e2 with ⟨f1, f2⟩ | ⟨rfl, rfl, rfl⟩
    · obtain ⟨g1, g2⟩ := hC.apart k b' ls' f1 f2
      refine ⟨g1, fun k' ls'' e3 e4 => ?_⟩
      rcases split e3 e4 with ⟨f3, f4⟩ | ⟨rfl, rfl, rfl⟩
      · exact g2 k' ls'' f3 f4
      · exact absurd (List.mem_of_getElem? f1) hn
    · refine ⟨hS, fun k' ls'' e3 e4 => ?_⟩
      rcases split e3 e4 with ⟨f3, f4⟩ | ⟨rfl, -, -⟩
      · exact absurd (List.mem_of_getElem? f3) hn
      · rfl
  · rcases split e1 e2 with ⟨f1, f2⟩ | ⟨rfl, rfl, rfl⟩
    · exact (hC.liveAt k b' ls' f1 f2).mono rfl (fun _ _ h => up h)
    · exact .inl ⟨c, t, fr, hb, hz, hfr, fun j hj => up (hr j hj)⟩

end
end Lg
