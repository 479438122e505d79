/- Functions that give a value and leave everything as it is. -/
import Derived.Test.YtaegmmeppkgnkaaLgN
namespace Lg
open Go

/-- A call of values without own rows gives such a value, and leaves everything as it was. -/
def PC (P : Program) (f : FuncId) (ls : List L) (r : L) : Prop :=
  okF P f = true ∧ ∀ S w vs, (∀ b, S b → b < w.heap.size) → RelAll [] S w vs ls → Calls P f vs w fun e w' => ∃ v S', e = .returned v ∧ Rel S' w' [] v r ∧ Le [] S w [] S' w' ∧ ∀ b, S' b → b < w'.heap.size

def mapO (f : L → Option L) : List L → Option (List L)
  | [] => some []
  | c :: cs => (f c).bind fun c' => (mapO f cs).map (c' :: ·)

/-- A value that is read off the own rows, to a depth. -/
def reso (H : Heap) : Nat → L → Option L
  | 0, l => if closed l = true then some l else none
  | k + 1, .view e h off n c => match live H h with
    | some cs => if off + n * e ≤ cs.length ∧ e ≠ 0 then
        (if ((cs.drop off).take (n * e)).all closed = true then some (.sl e c (chunk n e ((cs.drop off).take (n * e))))
         else (mapO (reso H k) ((cs.drop off).take (n * e))).bind fun cs' => if cs'.all closed = true then some (.sl e c (chunk n e cs')) else none) else none
    | none => none
  | k + 1, .agg cs => (mapO (reso H k) cs).map .agg
  | k + 1, .tup cs => (mapO (reso H k) cs).map .tup
  | k + 1, .fn f a b => (mapO (reso H k) a).bind fun a' => (mapO (reso H k) b).map fun b' => .fn f a' b'
  | k + 1, .ptr h off => match live H h with
    | some cs => if (cs.drop off).all closed = true then some (.pp (cs.drop off)) else (mapO (reso H k) (cs.drop off)).bind fun cs' => if cs'.all closed = true then some (.pp cs') else none
    | none => none
  | k + 1, .mref _ => none
  | k + 1, .mp _ _ => none
  | k + 1, .yl _ => none
  | k + 1, .lp .. => none
  | k + 1, l => some l

/-- Is it the same whatever memory holds? -/
def plain : L → Bool
  | .any | .no | .v _ => true
  | _ => false

def plainR : L → Bool
  | .agg cs => cs.all plain
  | .tup cs => cs.all plain
  | l => plain l


section
variable {P : Program} {η : List Nat} {S : Nat → Prop} {w : World} {H : Heap}

theorem mapO_some {f : L → Option L} : ∀ {cs cs' : List L}, mapO f cs = some cs' → cs'.length = cs.length ∧ ∀ j, j < cs.length → f (cs.getD j .any) = some (cs'.getD j .any)
  | [], cs', h => by simp [mapO] at h; subst h; exact ⟨rfl, fun j hj => by simp at hj⟩
  | c :: cs, cs', h => by
    simp only [mapO, Option.bind_eq_some_iff, Option.map_eq_some_iff] at h
    obtain ⟨c', h1, cs'', h2, rfl⟩ := h
    obtain ⟨e1, e2⟩ := mapO_some h2
    refine ⟨by simp [e1], fun j hj => ?_⟩
    cases j with
    | zero => exact h1
    | succ j => simpa using e2 j (by simpa using hj)

theorem rel_mapO {f : L → Option L} {S' : Nat → Prop} {cs cs' : List L} {g : Nat → Value} (h : mapO f cs = some cs') (hr : ∀ j, Rel S w η (g j) (cs.getD j .any)) (hf : ∀ x l l', Rel S w η x l → f l = some l' → Rel S' w [] x l') :
    cs'.length = cs.length ∧ ∀ j, Rel S' w [] (g j) (cs'.getD j .any) := by
  obtain ⟨e1, e2⟩ := mapO_some h
  refine ⟨e1, fun j => ?_⟩
  by_cases hj : j < cs.length
  · exact hf _ _ _ (hr j) (e2 j hj)
  · rw [getD_of_ge _ _ (by omega)]; exact .any _

/-- What is read off the own rows: once nobody writes them any more. -/
theorem reso_live (hC : Conc η S w H) {S' : Nat → Prop} (hS : ∀ b, (S b ∨ ∃ (h : Nat) (ls : List L), η[h]? = some b ∧ H[h]? = some (some ls)) → S' b) : ∀ (k : Nat) (x : Value) (l l' : L), Rel S w η x l → reso H k l = some l' → Rel S' w [] x l' := by
  have up : ∀ {x l}, Rel S w [] x l → Rel S' w [] x l := fun h => h.mono (fun b hb => hS b (.inl hb)) (fun _ _ => rfl) (fun _ c _ fr h => ⟨c, fr, h, rfl⟩) (fun _ _ h => h)
  have fromRow : ∀ {e h off n c cs cs' x}, live H h = some cs → off + n * e ≤ cs.length → e ≠ 0 → Rel S w η x (.view e h off n c) → cs'.length = n * e → cs'.all Lg.closed = true →
      (∀ j y, j < n * e → Rel S w η y (((cs.drop off).take (n * e)).getD j .any) → Rel S' w [] y (cs'.getD j .any)) → Rel S' w [] x (.sl e c (chunk n e cs')) := by
    intro e h off n c cs cs' x hl hle he hx hlen hall hcell
    have hcl := chunk_length n e cs' hlen he
    rcases hx.inv_view with ⟨ad, rfl, rfl⟩ | ⟨b, cap, c0, t, fr, rfl, hη, hb, hsz, hn, hm, hcp⟩
    · have : chunk 0 e cs' = [] := List.eq_nil_of_length_eq_zero hcl
      rw [this]; exact .sl0 (fun _ => rfl) (by simp [maxLen])
    · obtain ⟨c1, t1, fr1, q1, q2, q3, q4⟩ := hC.live hb hη (live_iff.1 hl)
      obtain ⟨k1, k2⟩ := chunk_cells n e cs' hlen hall
      have := Rel.sl (S := S') (w := w) (η := []) (b := b) (o := off) (cap := cap) (esz := e) (clip := c) (xs := chunk n e cs') (fun j => c1.getD (off + j) undef) (by rw [hcl]; exact hn) hm (fun h => by rw [hcl]; exact hcp h) k1
        (fun _ => hS b (.inr ⟨_, _, hη, live_iff.1 hl⟩)) (fun j hj => by rw [hcl] at hj; exact cell_of q1 (by omega)) (fun j => by
          rw [k2]
          by_cases hj : j < n * e
          · exact hcell j _ hj (by rw [getD_dropTake _ _ _ _ hj]; exact q4 (off + j) (by omega))
          · rw [getD_of_ge _ _ (by omega)]; exact .any _)
      rwa [hcl] at this
  intro k
  induction k with
  | zero =>
    intro x l l' hx h
    simp only [reso] at h
    split at h
    · cases h; exact up (hx.closed ‹_›)
    · simp at h
  | succ k ih =>
    intro x l l' hx h
    cases l <;> simp only [reso] at h
    case view e h' off n c =>
      split at h
      rotate_left
      · simp at h
      rename_i cs hl
      split at h
      rotate_left
      · simp at h
      rename_i hcond
      have hlen : ((cs.drop off).take (n * e)).length = n * e := by simp; omega
      split at h
      · rename_i hall
        cases h
        refine fromRow hl hcond.1 hcond.2 hx hlen hall fun j y hj hy => up (hy.closed ?_)
        rw [getD_of_lt _ _ (by rw [hlen]; exact hj)]
        exact List.all_eq_true.1 hall _ (List.getElem_mem _)
      · simp only [Option.bind_eq_some_iff] at h
        obtain ⟨cs', h1, h2⟩ := h
        split at h2
        · rename_i hall
          cases h2
          obtain ⟨e1, e2⟩ := mapO_some h1
          refine fromRow hl hcond.1 hcond.2 hx (by rw [e1, hlen]) hall fun j y hj hy => ih y _ _ hy (e2 j (by rw [hlen]; exact hj))
        · simp at h2
    case agg cs =>
      simp only [Option.map_eq_some_iff] at h
      obtain ⟨cs', h1, rfl⟩ := h
      obtain ⟨vs, rfl, hz, hr⟩ := hx.inv_agg
      obtain ⟨e1, e2⟩ := rel_mapO h1 hr ih
      exact .agg (by omega) e2
    case tup cs =>
      simp only [Option.map_eq_some_iff] at h
      obtain ⟨cs', h1, rfl⟩ := h
      obtain ⟨vs, rfl, hz, hr⟩ := hx.inv_tup
      obtain ⟨e1, e2⟩ := rel_mapO h1 hr ih
      exact .tup (by omega) e2
    case fn f a b =>
      simp only [Option.bind_eq_some_iff, Option.map_eq_some_iff] at h
      obtain ⟨a', h1, b', h2, rfl⟩ := h
      obtain ⟨first, cap, rfl, z1, z2, r1, r2⟩ := hx.inv_fn
      obtain ⟨e1, e2⟩ := rel_mapO h1 r1 ih
      obtain ⟨g1, g2⟩ := rel_mapO h2 r2 ih
      exact .fn (by omega) (by omega) e2 g2
    case ptr h' off =>
      split at h
      rotate_left
      · simp at h
      rename_i cs hl
      obtain ⟨b, rfl, hη, c0, t0, fr0, hb0⟩ := hx.inv_ptr
      obtain ⟨c1, t1, fr1, q1, q2, q3, q4⟩ := hC.live hb0 hη (live_iff.1 hl)
      have mk : ∀ cs' : List L, cs'.length = (cs.drop off).length → (∀ j y, j < (cs.drop off).length → Rel S w η y ((cs.drop off).getD j .any) → Rel S' w [] y (cs'.getD j .any)) → Rel S' w [] (.pointer (some ⟨b, off, none⟩)) (.pp cs') := fun cs' hlen hcell => by
        have hlen' : cs'.length = cs.length - off := by rw [hlen]; simp
        refine .pp (fun j => c1.getD (off + j) undef) (fun _ => hS b (.inr ⟨_, _, hη, live_iff.1 hl⟩)) (fun j hj => cell_of q1 (by omega)) (fun j => ?_)
        by_cases hj : j < (cs.drop off).length
        · refine hcell j _ hj ?_
          have := q4 (off + j) (by simp at hj; omega)
          rwa [show cs.getD (off + j) .any = (cs.drop off).getD j .any from by simp [List.getD]] at this
        · rw [getD_of_ge _ _ (by omega)]; exact .any _
      split at h
      · rename_i hall
        cases h
        refine mk _ rfl fun j y hj hy => up (hy.closed ?_)
        rw [getD_of_lt _ _ hj]
        exact List.all_eq_true.1 hall _ (List.getElem_mem _)
      · simp only [Option.bind_eq_some_iff] at h
        obtain ⟨cs', h1, h2⟩ := h
        split at h2
        · cases h2
          obtain ⟨e1, e2⟩ := mapO_some h1
          exact mk _ e1 fun j y hj hy => ih y _ _ hy (e2 j hj)
        · simp at h2
    all_goals first | (cases h; done) | (cases h; exact up (hx.closed rfl))


theorem reso_rel (hC : Conc η S w H) {S' : Nat → Prop} (hS : ∀ b, S b ∨ b ∈ η → S' b) : ∀ (k : Nat) (x : Value) (l l' : L), Rel S w η x l → reso H k l = some l' → Rel S' w [] x l' :=
  reso_live hC fun b hb => hS b (by
    rcases hb with hb | ⟨h, ls, e, -⟩
    · exact .inl hb
    · exact .inr (List.mem_of_getElem? e))

theorem RelAll.reso (hC : Conc η S w H) {S' : Nat → Prop} (hS : ∀ b, S b ∨ b ∈ η → S' b) {vs : Array Value} {ls ls' : List L} {k : Nat} (h : RelAll η S w vs ls) (hr : mapO (Lg.reso H k) ls = some ls') : RelAll [] S' w vs ls' := by
  obtain ⟨h1, h2⟩ := h
  obtain ⟨e1, e2⟩ := rel_mapO hr h2 (fun x l l' => reso_rel hC hS k x l l')
  exact ⟨by omega, e2⟩

/-- The contract of a function that gives a value, from its text. -/
theorem pc_of_call {f : FuncId} {ls : List L} {r : L} (h : callAt P f ls [] fun l H' => reso H' 4 l = some r) : PC P f ls r := by
  refine ⟨h.1, fun S w vs hS hv => ?_⟩
  have hC : Conc [] S w [] := ⟨rfl, by simp, hS, by simp, by simp⟩
  refine (h.2 [] S w vs hC hv).mono ?_
  rintro e w' ⟨v, l, H', η', S', rfl, hK, h1, h2, h3⟩
  have hr := reso_rel h2 (S' := fun b => S' b ∨ b ∈ η') (fun b h => h) 4 v l r h1 hK
  refine ⟨v, _, rfl, hr, ⟨⟨[], by simp, by simp⟩, fun b hb => .inl (h3.sub b hb), h3.keep, h3.shape, h3.size, h3.frame, ?_, h3.os, h3.tape, h3.output⟩, fun b hb => by rcases hb with hb | hb; exact h2.Slt b hb; exact h2.lt b hb⟩
  intro b hb
  rcases hb with hb | hb
  · exact h3.new b hb
  · obtain ⟨ζ, e1, e2⟩ := h3.pre
    simp only [List.nil_append] at e1
    subst e1
    rcases e2 b hb with h' | h'
    · simp at h'
    · exact .inr (.inr h')

theorem Rel.plain {x : Value} {l : L} (h : Rel S w η x l) (hp : plainR l = true) {S' : Nat → Prop} {w' : World} {η' : List Nat} : Rel S' w' η' x l := by
  have one : ∀ {x : Value} {l : L}, Rel S w η x l → Lg.plain l = true → Rel S' w' η' x l := fun {x l} h hp => by
    cases h <;> first | (simp [Lg.plain] at hp; done) | skip
    · exact .any _
    · exact .no
    · exact .v _
  have all : ∀ {cs : List L} {g : Nat → Value}, cs.all Lg.plain = true → (∀ j, Rel S w η (g j) (cs.getD j .any)) → ∀ j, Rel S' w' η' (g j) (cs.getD j .any) := fun {cs g} ha hr j => by
    by_cases hj : j < cs.length
    · refine one (hr j) ?_
      rw [getD_of_lt _ _ hj]
      exact List.all_eq_true.1 ha _ (List.getElem_mem _)
    · rw [getD_of_ge _ _ (by omega)]; exact .any _
  cases l <;> simp only [plainR] at hp
  case agg cs =>
    obtain ⟨vs, rfl, hz, hr⟩ := h.inv_agg
    exact .agg hz (all hp hr)
  case tup cs =>
    obtain ⟨vs, rfl, hz, hr⟩ := h.inv_tup
    exact .tup hz (all hp hr)
  all_goals exact one h hp

/-- A call by a contract: what it gives has no list in it. -/
theorem callAt_plain {f : FuncId} {ls ls' : List L} {r : L} {K : L → Heap → Prop} (h : PC P f ls' r) (hp : plainR r = true) (hr : mapO (reso H 4) ls = some ls') (hk : K r H) : callAt P f ls H K := by
  refine ⟨h.1, fun η S w vs hC hv => ?_⟩
  refine (h.2 (fun b => S b ∨ b ∈ η) w vs (fun b hb => by rcases hb with hb | hb; exact hC.Slt b hb; exact hC.lt b hb) (hv.reso hC (fun _ h => h) hr)).mono ?_
  rintro e w' ⟨v, S', rfl, h1, h2, h3⟩
  have hsame : ∀ b : Nat, b < w.heap.size → w'.heap[b]? = w.heap[b]? := fun b hb => h2.frame b hb (by simp)
  refine ⟨v, r, H, η, S, rfl, hk, h1.plain hp, hC.frame (fun _ h => h) (fun b hb => Nat.lt_of_lt_of_le (hC.Slt b hb) h2.size) (fun _ _ h => h) h2.size hsame, ⟨[], by simp, by simp⟩, fun _ h => h, fun b hb => hsame b (hC.Slt b hb), h2.shape, h2.size, fun b hb _ => hsame b hb, fun _ h => .inl h, h2.os, h2.tape, h2.output⟩

/-- A call by a contract, of values without own rows. -/
theorem callAt_closed {f : FuncId} {ls : List L} {r : L} {K : L → Heap → Prop} (h : PC P f ls r) (hr : mapO (reso [] 4) ls = some ls) (hk : K r H) : callAt P f ls H K := by
  refine ⟨h.1, fun η S w vs hC hv => ?_⟩
  have hv' : RelAll [] S w vs ls := by
    obtain ⟨h1, h2⟩ := hv
    obtain ⟨e1, e2⟩ := mapO_some hr
    refine ⟨h1, fun j => ?_⟩
    have key : ∀ (k : Nat) (x : Value) (l l' : L), Rel S w η x l → reso [] k l = some l' → Rel S w [] x l' := by
      intro k
      induction k with
      | zero =>
        intro x l l' hx h
        simp only [reso] at h
        split at h
        · cases h; exact hx.closed ‹_›
        · simp at h
      | succ k ih =>
        intro x l l' hx h
        cases l <;> simp only [reso] at h
        case view => simp [live] at h
        case agg cs =>
          simp only [Option.map_eq_some_iff] at h
          obtain ⟨cs', h1, rfl⟩ := h
          obtain ⟨vs, rfl, hz, hr⟩ := hx.inv_agg
          obtain ⟨e1, e2⟩ := rel_mapO h1 hr ih
          exact .agg (by omega) e2
        case tup cs =>
          simp only [Option.map_eq_some_iff] at h
          obtain ⟨cs', h1, rfl⟩ := h
          obtain ⟨vs, rfl, hz, hr⟩ := hx.inv_tup
          obtain ⟨e1, e2⟩ := rel_mapO h1 hr ih
          exact .tup (by omega) e2
        case fn f a b =>
          simp only [Option.bind_eq_some_iff, Option.map_eq_some_iff] at h
          obtain ⟨a', h1, b', h2, rfl⟩ := h
          obtain ⟨first, cap, rfl, z1, z2, r1, r2⟩ := hx.inv_fn
          obtain ⟨e1, e2⟩ := rel_mapO h1 r1 ih
          obtain ⟨g1, g2⟩ := rel_mapO h2 r2 ih
          exact .fn (by omega) (by omega) e2 g2
        case ptr => simp [live] at h
        all_goals first | (cases h; done) | (cases h; exact hx.closed rfl)
    by_cases hj : j < ls.length
    · exact key 4 _ _ _ (h2 j) (e2 j hj)
    · rw [getD_of_ge _ _ (by omega)]; exact .any _
  refine (h.2 S w vs hC.Slt hv').mono ?_
  rintro e w' ⟨v, S', rfl, h1, h2, h3⟩
  have hsame : ∀ b : Nat, b < w.heap.size → w'.heap[b]? = w.heap[b]? := fun b hb => h2.frame b hb (by simp)
  have hnew : ∀ b, S' b → S b ∨ w.heap.size ≤ b := fun b hb => by
    rcases h2.new b hb with h | h | h
    · exact .inl h
    · simp at h
    · exact .inr h
  refine ⟨v, r, H, η, S', rfl, hk, h1.nil, hC.frame h2.sub h3 (fun b hb hs => ?_) h2.size hsame, ⟨⟨[], by simp, by simp⟩, h2.sub, h2.keep, h2.shape, h2.size, fun b hb _ => hsame b hb, fun b hb => ?_, h2.os, h2.tape, h2.output⟩⟩
  · rcases hnew b hs with h | h
    · exact h
    · have := hC.lt b hb; omega
  · rcases hnew b hb with h | h
    · exact .inl h
    · exact .inr (.inr h)

end
end Lg
