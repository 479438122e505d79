/- Values that say less; contracts by them. -/
import Derived.Test.YtaegmmeppkgnkaaLgR
import Derived.Test.YtaegmmeppkgnkaaLgP
namespace Lg
open Go

/-- The right one says less. -/
inductive Sub : L → L → Prop
  | refl (l) : Sub l l
  | any (l) : Sub l .any
  | nil (e c) : Sub (.v (.slice none 0 0)) (.sl e c [])
  | clip (e xs) : Sub (.sl e true xs) (.sl e false xs)
  | agg {a b} (h : a.length = b.length) (r : ∀ j, Sub (a.getD j .any) (b.getD j .any)) : Sub (.agg a) (.agg b)
  | tup {a b} (h : a.length = b.length) (r : ∀ j, Sub (a.getD j .any) (b.getD j .any)) : Sub (.tup a) (.tup b)
  | els {c a b} (h : a.length = b.length) (r : ∀ j, Sub (a.getD j .any) (b.getD j .any)) (hb : ∀ x ∈ b, x.cells = [x]) : Sub (.sl 1 c a) (.sl 1 c b)
  | trans {a b c} (h : Sub a b) (k : Sub b c) : Sub a c
  | elsF {e c a b} (h : a.length = b.length) (r : ∀ j, Sub ((flat e a).getD j .any) ((flat e b).getD j .any)) (hb : ∀ x ∈ b, x.cells.length = e ∧ (e = 1 → x.cells = [x])) : Sub (.sl e c a) (.sl e c b)

inductive SubAll : List L → List L → Prop
  | nil : SubAll [] []
  | cons {a b as bs} : Sub a b → SubAll as bs → SubAll (a :: as) (b :: bs)

theorem SubAll.refl : ∀ ls, SubAll ls ls
  | [] => .nil
  | l :: ls => .cons (.refl l) (SubAll.refl ls)

theorem SubAll.get : ∀ {a b : List L}, SubAll a b → a.length = b.length ∧ ∀ j, Sub (a.getD j .any) (b.getD j .any)
  | _, _, .nil => ⟨rfl, fun j => by simp; exact .refl _⟩
  | _, _, .cons h t => by
    obtain ⟨e1, e2⟩ := SubAll.get t
    refine ⟨by simp [e1], fun j => ?_⟩
    cases j with
    | zero => exact h
    | succ j => simpa using e2 j

theorem Sub.tupL {a b : List L} (h : SubAll a b) : Sub (.tup a) (.tup b) := .tup h.get.1 h.get.2
theorem Sub.aggL {a b : List L} (h : SubAll a b) : Sub (.agg a) (.agg b) := .agg h.get.1 h.get.2

section
variable {P : Program} {η : List Nat} {S : Nat → Prop} {w : World} {H : Heap}

theorem Rel.subs {l l' : L} (h : Sub l l') : ∀ {η : List Nat} {x : Value}, Rel S w η x l → Rel S w η x l' := by
  induction h with
  | refl => exact fun h => h
  | any => exact fun _ => .any _
  | nil e c => intro η x h; obtain rfl := h.inv_v; exact .sl0 (fun _ => rfl) (by simp)
  | clip e xs =>
    intro η x h
    cases h with
    | sl0 h1 h2 => exact .sl0 (by simp) h2
    | sl cs h2 h3 h4 h5 hS hc hr => exact .sl cs h2 h3 (by simp) h5 hS hc hr
  | agg h r ih =>
    intro η x hx
    obtain ⟨cs, rfl, hz, hr⟩ := hx.inv_agg
    exact .agg (by omega) fun j => ih j (hr j)
  | tup h r ih =>
    intro η x hx
    obtain ⟨cs, rfl, hz, hr⟩ := hx.inv_tup
    exact .tup (by omega) fun j => ih j (hr j)
  | els h r hb ih =>
    rename_i c a b
    intro η x hx
    cases hx with
    | sl0 h1 h2 =>
      have : b = [] := List.eq_nil_of_length_eq_zero (by simpa using h.symm)
      subst this
      exact .sl0 h1 h2
    | sl cs h2 h3 h4 h5 hS hc hr =>
      rw [h] at h2 h4 hS hc ⊢
      refine .sl cs h2 h3 h4 (fun x hx => by rw [hb x hx]; exact ⟨rfl, fun _ => rfl⟩) hS hc (fun j => ?_)
      have := ih j (hr j)
      simpa [flat] using this
  | trans _ _ ih1 ih2 => exact fun h => ih2 (ih1 h)
  | elsF h r hb ih =>
    rename_i e c a b
    intro η x hx
    cases hx with
    | sl0 h1 h2 =>
      have : b = [] := List.eq_nil_of_length_eq_zero (by simpa using h.symm)
      subst this
      exact .sl0 h1 h2
    | sl cs h2 h3 h4 h5 hS hc hr =>
      rw [h] at h2 h4 hS hc ⊢
      exact .sl cs h2 h3 h4 hb hS hc (fun j => ih j (hr j))
theorem Rel.sub {l l' : L} (h : Sub l l') {x : Value} (hx : Rel S w η x l) : Rel S w η x l' := hx.subs h

/-- A list of lists that say less, one by one. -/
theorem Sub.map {α : Type} {c : Bool} {f g : α → L} {l : List α} (h : ∀ x ∈ l, Sub (f x) (g x)) (hg : ∀ x ∈ l, (g x).cells = [g x]) : Sub (.sl 1 c (l.map f)) (.sl 1 c (l.map g)) := by
  refine .els (by simp) (fun j => ?_) (fun x hx => ?_)
  · by_cases hj : j < l.length
    · simp only [List.getD, List.getElem?_map, List.getElem?_eq_getElem hj, Option.map_some, Option.getD_some]
      exact h _ (List.getElem_mem hj)
    · simp [List.getD, List.getElem?_eq_none (Nat.le_of_not_lt hj)]
      exact .refl _
  · obtain ⟨y, hy, rfl⟩ := List.mem_map.1 hx
    exact hg y hy

theorem RelAll.sub {vs : Array Value} {ls ls' : List L} (h : RelAll η S w vs ls) (hs : SubAll ls ls') : RelAll η S w vs ls' := by
  obtain ⟨e1, e2⟩ := hs.get
  exact ⟨h.1.trans e1, fun j => (h.2 j).sub (e2 j)⟩

theorem PC.sub {f : FuncId} {ls ls' : List L} {r r' : L} (h : PC P f ls r) (hs : SubAll ls' ls) (hr : Sub r r') : PC P f ls' r' :=
  ⟨h.1, fun S w vs hS hv => (h.2 S w vs hS (hv.sub hs)).mono fun _ _ ⟨v, S', h1, h2, h3, h4⟩ => ⟨v, S', h1, h2.sub hr, h3, h4⟩⟩

theorem pc_of_call' {f : FuncId} {ls : List L} {r : L} (h : callAt P f ls [] fun l H' => ∃ r', reso H' 4 l = some r' ∧ Sub r' r) : PC P f ls r := by
  refine ⟨h.1, fun S w vs hS hv => ?_⟩
  have hC : Conc [] S w [] := ⟨rfl, by simp, hS, by simp, by simp⟩
  refine (h.2 [] S w vs hC hv).mono ?_
  rintro e w' ⟨v, l, H', η', S', rfl, ⟨r', hK, hsub⟩, h1, h2, h3⟩
  have hr := reso_rel h2 (S' := fun b => S' b ∨ b ∈ η') (fun b h => h) 4 v l r' h1 hK
  refine ⟨v, _, rfl, hr.sub hsub, ⟨⟨[], by simp, by simp⟩, fun b hb => .inl (h3.sub b hb), h3.keep, h3.shape, h3.size, h3.frame, ?_, h3.os, h3.tape, h3.output⟩, fun b hb => by rcases hb with hb | hb; exact h2.Slt b hb; exact h2.lt b hb⟩
  intro b hb
  rcases hb with hb | hb
  · exact h3.new b hb
  · obtain ⟨ζ, e1, e2⟩ := h3.pre
    simp only [List.nil_append] at e1
    subst e1
    rcases e2 b hb with h' | h'
    · simp at h'
    · exact .inr (.inr h')

/-- Only the rows of these numbers, or all but these. -/
def pickRows (keep : Bool) (ks : List Nat) : Nat → Heap → Heap
  | _, [] => []
  | i, r :: H => (if ks.contains i == keep then r else none) :: pickRows keep ks (i + 1) H

theorem pickRows_length {keep : Bool} {ks : List Nat} : ∀ {H : Heap} {i : Nat}, (pickRows keep ks i H).length = H.length
  | [], _ => rfl
  | r :: H, i => by simp [pickRows, pickRows_length (H := H)]

theorem pickRows_get {keep : Bool} {ks : List Nat} : ∀ {H : Heap} {i h : Nat} {c : List L}, (pickRows keep ks i H)[h]? = some (some c) → H[h]? = some (some c) ∧ (ks.contains (i + h) == keep) = true
  | [], i, h, c, e => by simp [pickRows] at e
  | r :: H, i, 0, c, e => by
    simp only [pickRows, List.getElem?_cons_zero, Option.some.injEq] at e
    split at e
    · rename_i hc; exact ⟨by simp [e], by simpa using hc⟩
    · simp at e
  | r :: H, i, h + 1, c, e => by
    have := pickRows_get (H := H) (i := i + 1) (h := h) (by simpa [pickRows] using e)
    exact ⟨by simpa using this.1, by rw [show i + (h + 1) = i + 1 + h by omega]; exact this.2⟩

theorem Conc.pick (hC : Conc η S w H) (keep : Bool) (ks : List Nat) : Conc η S w (pickRows keep ks 0 H) :=
  ⟨by rw [pickRows_length]; exact hC.len, hC.lt, hC.Slt, fun h b ls e1 e2 => by
    obtain ⟨p1, p2⟩ := hC.apart h b ls e1 (pickRows_get e2).1
    exact ⟨p1, fun h' ls' f1 f2 => p2 h' ls' f1 (pickRows_get f2).1⟩, fun h b ls e1 e2 => hC.liveAt h b ls e1 (pickRows_get e2).1⟩

/-- A call by a contract, what it gives may have lists in it: the rows of the numbers ks, that it may read, are written no more. -/
theorem callAt_freeze {f : FuncId} {ls ls' : List L} {r : L} {K : L → Heap → Prop} (ks : List Nat) (h : PC P f ls' r) (hr : mapO (reso (pickRows true ks 0 H) 4) ls = some ls') (hk : K r (pickRows false ks 0 H)) : callAt P f ls H K := by
  refine ⟨h.1, fun η S w vs hC hv => ?_⟩
  have hCd := hC.pick true ks
  let S₁ : Nat → Prop := fun b => S b ∨ ∃ (h : Nat) (ls : List L), η[h]? = some b ∧ (pickRows true ks 0 H)[h]? = some (some ls)
  have hS₁ : ∀ b, S₁ b → b < w.heap.size := fun b hb => by
    rcases hb with hb | ⟨h, ls, e, -⟩
    · exact hC.Slt b hb
    · exact hC.lt b (List.mem_of_getElem? e)
  have hv' : RelAll [] S₁ w vs ls' := by
    obtain ⟨h1, h2⟩ := hv
    obtain ⟨e1, e2⟩ := rel_mapO hr h2 (fun x l l' => reso_live hCd (fun b hb => hb) 4 x l l')
    exact ⟨by omega, e2⟩
  refine (h.2 S₁ w vs hS₁ hv').mono ?_
  rintro e w' ⟨v, S', rfl, h1, h2, h3⟩
  have hsame : ∀ b : Nat, b < w.heap.size → w'.heap[b]? = w.heap[b]? := fun b hb => h2.frame b hb (by simp)
  have hnew : ∀ b, S' b → S₁ b ∨ w.heap.size ≤ b := fun b hb => by
    rcases h2.new b hb with h | h | h
    · exact .inl h
    · simp at h
    · exact .inr h
  have hsub : ∀ b, S b → S' b := fun b hb => h2.sub b (.inl hb)
  have lt_of : ∀ (b : Nat) o, w.heap[b]? = some o → b < w.heap.size := fun b o ho => by
    rcases Nat.lt_or_ge b w.heap.size with h | h
    · exact h
    · simp [Array.getElem?_eq_none h] at ho
  refine ⟨v, r, _, η, S', rfl, hk, h1.nil, ⟨by rw [pickRows_length]; exact hC.len, fun b hb => Nat.lt_of_lt_of_le (hC.lt b hb) h2.size, h3, fun h b ls e1 e2 => ?_, fun h b ls e1 e2 => ?_⟩, ⟨⟨[], by simp, by simp⟩, hsub, fun b hb => hsame b (hC.Slt b hb), h2.shape, h2.size, fun b hb _ => hsame b hb, fun b hb => ?_, h2.os, h2.tape, h2.output⟩⟩
  · obtain ⟨q1, q2⟩ := pickRows_get e2
    obtain ⟨p1, p2⟩ := hC.apart h b ls e1 q1
    refine ⟨fun hs => ?_, fun h' ls' f1 f2 => p2 h' ls' f1 (pickRows_get f2).1⟩
    rcases hnew b hs with hs | hs
    · rcases hs with hs | ⟨h', ls', f1, f2⟩
      · exact p1 hs
      · obtain ⟨g1, g2⟩ := pickRows_get f2
        have := p2 h' ls' f1 g1
        subst this
        cases hk : ks.contains (0 + h') <;> simp_all
    · have := hC.lt b (List.mem_of_getElem? e1); omega
  · obtain ⟨q1, q2⟩ := pickRows_get e2
    obtain ⟨o0, g1⟩ := (hC.liveAt h b ls e1 q1).some
    exact (hC.liveAt h b ls e1 q1).mono (hsame b (lt_of b _ g1)) fun _ _ hr => hr.mono hsub (fun b hb => hsame b (hC.Slt b hb)) h2.shape (fun _ _ h => h)
  · rcases hnew b hb with hb | hb
    · rcases hb with hb | ⟨h, ls, e, -⟩
      · exact .inl hb
      · exact .inr (.inl (List.mem_of_getElem? e))
    · exact .inr (.inr hb)

theorem callT_freeze {E : Env} {f : FuncId} {ls ls' : List L} {r : L} {dst rest K} (ks : List Nat) (h : PC P f ls' r) (hr : mapO (reso (pickRows true ks 0 H) 4) ls = some ls') (hk : lops P rest K (putE E dst r) (pickRows false ks 0 H)) : callT P f ls H dst rest K E := callAt_freeze ks h hr hk

attribute [simp] pickRows

end
end Lg
