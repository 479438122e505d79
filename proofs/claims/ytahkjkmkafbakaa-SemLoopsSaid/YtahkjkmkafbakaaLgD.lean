/- Base laws: inversions, a new block, a store. -/
import Derived.Test.YtahkjkmkafbakaaLgC
import Derived.Laws.IdiomCopy
import Derived.ChangeKeysEq
namespace Lg
open Go

section inv
variable {S : Nat → Prop} {w : World} {η : List Nat} {x : Value}

theorem Rel.inv_v {y : Value} (h : Rel S w η x (.v y)) : x = y := by cases h; rfl
theorem Rel.inv_no (h : Rel S w η x .no) : x = undef := by cases h; rfl
theorem Rel.inv_agg {ls} (h : Rel S w η x (.agg ls)) : ∃ cs, x = .agg cs ∧ cs.size = ls.length ∧ ∀ j, Rel S w η (cs.getD j undef) (ls.getD j .any) := by
  cases h with | agg h hr => exact ⟨_, rfl, h, hr⟩
theorem Rel.inv_tup {ls} (h : Rel S w η x (.tup ls)) : ∃ cs, x = .tuple cs ∧ cs.size = ls.length ∧ ∀ j, Rel S w η (cs.getD j undef) (ls.getD j .any) := by
  cases h with | tup h hr => exact ⟨_, rfl, h, hr⟩
theorem Rel.inv_ptr {k off} (h : Rel S w η x (.ptr k off)) : ∃ b, x = .pointer (some ⟨b, off, none⟩) ∧ η[k]? = some b ∧ ∃ c t fr, w.heap[b]? = some (.cells c t fr) := by
  cases h with | ptr hη hb => exact ⟨_, rfl, hη, _, _, _, hb⟩
theorem Rel.inv_mref {k} (h : Rel S w η x (.mref k)) : ∃ b, x = .map (some b) ∧ η[k]? = some b := by
  cases h with | mref hη => exact ⟨_, rfl, hη⟩
theorem Rel.inv_pp {ls} (h : Rel S w η x (.pp ls)) : ∃ b o, ∃ cs : Nat → Value, x = .pointer (some ⟨b, o, none⟩) ∧ (0 < ls.length → S b) ∧ (∀ j, j < ls.length → w.cell? ⟨b, o + j, none⟩ = some (cs j)) ∧
    ∀ j, Rel S w [] (cs j) (ls.getD j .any) := by
  cases h with | pp cs hS hc hr => exact ⟨_, _, cs, rfl, hS, hc, hr⟩
theorem Rel.inv_fn {f ff cc} (h : Rel S w η x (.fn f ff cc)) : ∃ first cap, x = .func f first cap ∧ first.size = ff.length ∧ cap.size = cc.length ∧
    (∀ j, Rel S w η (first.getD j undef) (ff.getD j .any)) ∧ ∀ j, Rel S w η (cap.getD j undef) (cc.getD j .any) := by
  cases h with | fn h1 h2 r1 r2 => exact ⟨_, _, rfl, h1, h2, r1, r2⟩
/-- A list: its address and capacity, and its cells. -/
theorem Rel.inv_sl {esz clip xs} (h : Rel S w η x (.sl esz clip xs)) : ∃ a cap, x = .slice a xs.length cap ∧ xs.length ≤ cap ∧ cap ≤ maxLen ∧ (clip = true → cap = xs.length) ∧
    (∀ y ∈ xs, y.cells.length = esz ∧ (esz = 1 → y.cells = [y])) ∧
    (0 < xs.length → ∃ b o, ∃ cs : Nat → Value, a = some ⟨b, o, none⟩ ∧ (0 < xs.length * esz → S b) ∧ (∀ j, j < xs.length * esz → w.cell? ⟨b, o + j, none⟩ = some (cs j)) ∧
      ∀ j, Rel S w [] (cs j) ((flat esz xs).getD j .any)) := by
  cases h with
  | sl0 h1 h2 => exact ⟨_, _, rfl, by simp, h2, h1, by simp, by simp⟩
  | sl cs h2 h3 h4 h5 hS hc hr => exact ⟨_, _, rfl, h2, h3, h4, h5, fun _ => ⟨_, _, cs, rfl, hS, hc, hr⟩⟩
theorem Rel.inv_view {esz k off n clip} (h : Rel S w η x (.view esz k off n clip)) : (∃ a, x = .slice a 0 0 ∧ n = 0) ∨
    ∃ b cap c t fr, x = .slice (some ⟨b, off, none⟩) n cap ∧ η[k]? = some b ∧ w.heap[b]? = some (.cells c t fr) ∧ off + cap * esz ≤ c.size ∧ n ≤ cap ∧ cap ≤ maxLen ∧ (clip = true → cap = n) := by
  cases h with
  | view0 => exact .inl ⟨_, rfl, rfl⟩
  | view hη hb hsz hn hm hcl => exact .inr ⟨_, _, _, _, _, rfl, hη, hb, hsz, hn, hm, hcl⟩
end inv

theorem getD_of_lt {α : Type} (l : List α) (d : α) {j : Nat} (h : j < l.length) : l.getD j d = l[j] := by simp [List.getD, List.getElem?_eq_getElem h]
theorem getD_of_ge {α : Type} (l : List α) (d : α) {j : Nat} (h : l.length ≤ j) : l.getD j d = d := by simp [List.getD, List.getElem?_eq_none h]
theorem agetD_of_lt {α : Type} (l : Array α) (d : α) {j : Nat} (h : j < l.size) : l.getD j d = l[j] := by simp [Array.getD, h]
theorem agetD_of_ge {α : Type} (l : Array α) (d : α) {j : Nat} (h : l.size ≤ j) : l.getD j d = d := by simp [Array.getD, Nat.not_lt.2 h]

theorem Rel.one {S : Nat → Prop} {w : World} {η : List Nat} {x : Value} {l : L} (h : Rel S w η x l) (hs : solid l = true) : x.oneCell' = true := by
  cases h <;> simp_all [solid, Value.oneCell']

theorem cells_of_one {x : Value} (h : x.oneCell' = true) : x.cells = #[x] := by cases x <;> simp_all [Value.oneCell', Value.cells]

theorem lcells_of_solid {l : L} (h : solid l = true) : l.cells = [l] := by cases l <;> simp_all [solid, L.cells]

theorem Rel.cells {S : Nat → Prop} {w : World} {η : List Nat} {x : Value} {l : L} (h : Rel S w η x l) (ht : topOK l = true) :
    x.cells.size = l.cells.length ∧ ∀ j, Rel S w η (x.cells.getD j undef) (l.cells.getD j .any) := by
  by_cases hs : solid l = true
  · rw [cells_of_one (h.one hs), lcells_of_solid hs]
    refine ⟨rfl, fun j => ?_⟩
    cases j with
    | zero => exact h
    | succ j => exact .any _
  · cases l <;> simp_all [topOK, solid]
    obtain ⟨cs, rfl, hz, hr⟩ := h.inv_agg
    exact ⟨hz, by simpa [Value.cells, L.cells] using hr⟩

theorem all_solid_cells {l : L} (ht : topOK l = true) : l.cells.all solid = true := by
  by_cases hs : solid l = true
  · rw [lcells_of_solid hs]; simp [hs]
  · cases l <;> simp_all [topOK, solid, L.cells]

theorem Rel.cells_one {S : Nat → Prop} {w : World} {η : List Nat} {x : Value} {l : L} (h : Rel S w η x l) (ht : topOK l = true) : ∀ y ∈ x.cells.toList, y.oneCell' = true := by
  obtain ⟨hz, hr⟩ := h.cells ht
  have ha := all_solid_cells ht
  intro y hy
  obtain ⟨j, hj, rfl⟩ := List.getElem_of_mem hy
  have hj' : j < x.cells.size := by simpa using hj
  have := hr j
  rw [agetD_of_lt _ _ hj', getD_of_lt _ _ (by omega)] at this
  simpa using this.one (List.all_eq_true.1 ha _ (List.getElem_mem _))

theorem rel_ofV {S : Nat → Prop} {w : World} {η : List Nat} (x : Value) : Rel S w η x (ofV x) := by
  cases x <;> first | exact .v _ | skip
  rename_i cs
  refine .agg (by simp) fun j => ?_
  by_cases hj : j < cs.size
  · rw [agetD_of_lt _ _ hj, getD_of_lt _ _ (by simpa using hj)]; simp; exact .v _
  · rw [getD_of_ge _ _ (by simpa using hj)]; exact .any _

theorem Conc.rel_le {η S w H} (_ : Conc η S w H) {η' S' w'} (k : Le η S w η' S' w') {x l} (h : Rel S w η x l) : Rel S' w' η' x l := h.le k

/-- A world that has the same memory. -/
theorem Le.heap {η : List Nat} {S : Nat → Prop} {w w' : World} (h : w'.heap = w.heap) (h1 : w'.os = w.os) (h2 : w'.tape = w.tape) (h3 : w'.output = w.output) : Le η S w η S w' :=
  ⟨⟨[], by simp, by simp⟩, fun _ h => h, fun _ _ => by rw [h], fun _ c _ fr hb => ⟨c, fr, by rw [h]; exact hb, rfl⟩, by rw [h]; exact Nat.le_refl _, fun _ _ _ => by rw [h], fun _ h => .inl h, h1, h2, h3⟩

theorem Conc.heap {η : List Nat} {S : Nat → Prop} {w w' : World} {H : Heap} (hC : Conc η S w H) (h : w'.heap = w.heap) : Conc η S w' H := by
  have hm : ∀ {x l}, Rel S w η x l → Rel S w' η x l := fun hr => hr.mono (fun _ h => h) (fun _ _ => by rw [h]) (fun _ c _ fr hb => ⟨c, fr, by rw [h]; exact hb, rfl⟩) (fun _ _ h => h)
  refine ⟨hC.len, fun b hb => by rw [h]; exact hC.lt b hb, fun b hb => by rw [h]; exact hC.Slt b hb, hC.apart, fun k b ls h1 h2 => ?_⟩
  exact (hC.liveAt k b ls h1 h2).mono (by rw [h]) (fun _ _ h => hm h)

/-- The own rows at hand, with a new one behind them. -/
theorem Conc.pushO {η : List Nat} {S : Nat → Prop} {w : World} {H : Heap} (hC : Conc η S w H) (o : Obj) (ls : List L) {w' : World}
    (hl : Le η S w (η ++ [w.heap.size]) S w' → LiveAt (η ++ [w.heap.size]) S w' w.heap.size ls) (hh : w'.heap = w.heap.push o) (h1 : w'.os = w.os) (h2 : w'.tape = w.tape) (h3 : w'.output = w.output) :
    Conc (η ++ [w.heap.size]) S w' (H ++ [some ls]) ∧ Le η S w (η ++ [w.heap.size]) S w' := by
  have old : ∀ b, b < w.heap.size → w'.heap[b]? = w.heap[b]? := fun b hb => by rw [hh, Array.getElem?_push]; simp [Nat.ne_of_lt hb]
  have lt_of : ∀ b o, w.heap[b]? = some o → b < w.heap.size := fun b o ho => by
    rcases Nat.lt_or_ge b w.heap.size with h | h
    · exact h
    · simp [Array.getElem?_eq_none h] at ho
  have hle : Le η S w (η ++ [w.heap.size]) S w' :=
    ⟨⟨[w.heap.size], rfl, by simp⟩, fun _ h => h, fun b hb => old b (hC.Slt b hb), fun b c _ fr hb => ⟨c, fr, by rw [old b (lt_of b _ hb)]; exact hb, rfl⟩, by rw [hh]; simp, fun b hb _ => old b hb, fun _ h => .inl h, h1, h2, h3⟩
  refine ⟨⟨by simp [hC.len], ?_, fun b hb => by have := hC.Slt b hb; rw [hh]; simp; omega, ?_, ?_⟩, hle⟩
  · intro b hb
    rw [hh]; simp
    rcases List.mem_append.1 hb with h | h
    · have := hC.lt b h; omega
    · simp at h; omega
  · intro h b ls' e1 e2
    by_cases hk : h < η.length
    · rw [List.getElem?_append_left hk] at e1
      rw [List.getElem?_append_left (by rw [← hC.len]; exact hk)] at e2
      obtain ⟨p1, p2⟩ := hC.apart h b ls' e1 e2
      refine ⟨p1, fun h' ls'' f1 f2 => ?_⟩
      by_cases hk' : h' < η.length
      · rw [List.getElem?_append_left hk'] at f1
        rw [List.getElem?_append_left (by rw [← hC.len]; exact hk')] at f2
        exact p2 h' ls'' f1 f2
      · rw [List.getElem?_append_right (by omega)] at f1
        have hb := hC.lt b (List.mem_of_getElem? e1)
        rcases h'' : h' - η.length with _ | m
        · simp [h''] at f1; omega
        · simp [h''] at f1
    · rw [List.getElem?_append_right (by omega)] at e1
      have hh0 : h = η.length ∧ b = w.heap.size := by
        rcases h'' : h - η.length with _ | m
        · simp [h''] at e1; omega
        · simp [h''] at e1
      obtain ⟨rfl, rfl⟩ := hh0
      refine ⟨fun hS => by have := hC.Slt _ hS; omega, fun h' ls'' f1 f2 => ?_⟩
      by_cases hk' : h' < η.length
      · rw [List.getElem?_append_left hk'] at f1
        have := hC.lt _ (List.mem_of_getElem? f1); omega
      · rw [List.getElem?_append_right (by omega)] at f1
        rcases h'' : h' - η.length with _ | m
        · omega
        · simp [h''] at f1
  · intro h b ls' e1 e2
    by_cases hk : h < η.length
    · rw [List.getElem?_append_left hk] at e1
      rw [List.getElem?_append_left (by rw [← hC.len]; exact hk)] at e2
      obtain ⟨o', q1⟩ := (hC.liveAt h b ls' e1 e2).some
      exact (hC.liveAt h b ls' e1 e2).mono (old b (lt_of b _ q1)) (fun _ _ h => h.le hle)
    · rw [List.getElem?_append_right (by omega)] at e1
      have hh0 : h = η.length ∧ b = w.heap.size := by
        rcases h'' : h - η.length with _ | m
        · simp [h''] at e1; omega
        · simp [h''] at e1
      obtain ⟨rfl, rfl⟩ := hh0
      rw [List.getElem?_append_right (by rw [hC.len]; omega), hC.len] at e2
      simp at e2; subst e2
      exact hl hle

theorem Conc.push {η : List Nat} {S : Nat → Prop} {w : World} {H : Heap} (hC : Conc η S w H) (cells : Array Value) (t : TypeId) (ls : List L) (hz : ls.length ≤ cells.size)
    (hr : ∀ j, j < ls.length → Rel S w η (cells.getD j undef) (ls.getD j .any)) {w' : World} (hh : w'.heap = w.heap.push (.cells cells t)) (h1 : w'.os = w.os) (h2 : w'.tape = w.tape) (h3 : w'.output = w.output) :
    Conc (η ++ [w.heap.size]) S w' (H ++ [some ls]) ∧ Le η S w (η ++ [w.heap.size]) S w' :=
  hC.pushO (.cells cells t) ls (fun hle => .inl ⟨cells, t, (0, 0), by rw [hh]; simp, hz, .inl rfl, fun j hj => (hr j hj).le hle⟩) hh h1 h2 h3

theorem Rel.new {η : List Nat} {S : Nat → Prop} {w : World} {n : Nat} {c t fr} (hb : w.heap[n]? = some (.cells c t fr)) : Rel S w (η ++ [n]) (.pointer (some ⟨n, 0, none⟩)) (.ptr η.length 0) := .ptr (by simp) hb

/-- Cells laid into an array, one behind the other. -/
def putArr (c : Array Value) (o : Nat) : List Value → Array Value
  | [] => c
  | x :: xs => putArr (c.setIfInBounds o x) (o + 1) xs

theorem putArr_size (vs : List Value) : ∀ (c : Array Value) (o : Nat), (putArr c o vs).size = c.size := by
  induction vs with
  | nil => intros; rfl
  | cons x xs ih => intro c o; rw [putArr, ih]; simp

theorem putArr_get (vs : List Value) : ∀ (c : Array Value) (o j : Nat), o + vs.length ≤ c.size → (putArr c o vs).getD j undef = if o ≤ j ∧ j < o + vs.length then vs.getD (j - o) undef else c.getD j undef := by
  induction vs with
  | nil => intro c o j _; simp [putArr]; intro h1 h2; omega
  | cons x xs ih =>
    intro c o j h
    simp at h
    rw [putArr, ih _ _ _ (by simp; omega)]
    by_cases h1 : o + 1 ≤ j ∧ j < o + 1 + xs.length
    · rw [if_pos h1, if_pos ⟨by omega, by simp; omega⟩, show j - o = (j - (o + 1)) + 1 by omega]
      simp
    · rw [if_neg h1]
      by_cases h2 : j = o
      · subst h2
        rw [if_pos ⟨by omega, by simp⟩]
        simp [Array.getD_eq_getD_getElem?, Array.getElem?_setIfInBounds, show j < c.size by omega]
      · rw [if_neg (by simp; omega)]
        simp [Array.getD_eq_getD_getElem?, Array.getElem?_setIfInBounds, Ne.symm h2]

theorem setCells_length (xs : List L) : ∀ (ls : List L) (o : Nat), (setCells ls o xs).length = ls.length := by
  induction xs with
  | nil => intros; rfl
  | cons x xs ih => intro ls o; rw [setCells, ih]; simp

theorem setCells_get (xs : List L) : ∀ (ls : List L) (o j : Nat), o + xs.length ≤ ls.length → (setCells ls o xs).getD j .any = if o ≤ j ∧ j < o + xs.length then xs.getD (j - o) .any else ls.getD j .any := by
  induction xs with
  | nil => intro c o j _; simp [setCells]; intro h1 h2; omega
  | cons x xs ih =>
    intro ls o j h
    simp at h
    rw [setCells, ih _ _ _ (by simp; omega)]
    by_cases h1 : o + 1 ≤ j ∧ j < o + 1 + xs.length
    · rw [if_pos h1, if_pos ⟨by omega, by simp; omega⟩, show j - o = (j - (o + 1)) + 1 by omega]
      simp
    · rw [if_neg h1]
      by_cases h2 : j = o
      · subst h2
        rw [if_pos ⟨by omega, by simp⟩]
        simp [List.getD, List.getElem?_set, show j < ls.length by omega]
      · rw [if_neg (by simp; omega)]
        simp [List.getD, List.getElem?_set, Ne.symm h2]

theorem setCells_heap (b : Nat) (vs : List Value) : ∀ (w : World) (o : Nat) (c : Array Value) (t : TypeId) (fr : Nat × Nat), w.heap[b]? = some (.cells c t fr) →
    (w.setCells b o vs).heap[b]? = some (.cells (putArr c o vs) t fr) ∧ (∀ b', b' ≠ b → (w.setCells b o vs).heap[b']? = w.heap[b']?) ∧ (w.setCells b o vs).heap.size = w.heap.size ∧
      (w.setCells b o vs).os = w.os ∧ (w.setCells b o vs).tape = w.tape ∧ (w.setCells b o vs).output = w.output := by
  induction vs with
  | nil => intro w o c t fr h; exact ⟨h, fun _ _ => rfl, rfl, rfl, rfl, rfl⟩
  | cons x xs ih =>
    intro w o c t fr h
    have h0 : (w.setCell ⟨b, o, none⟩ x).heap[b]? = some (.cells (c.setIfInBounds o x) t fr) := by
      simp [World.setCell, Array.getElem?_modify, h]
    have h1 : ∀ b', b' ≠ b → (w.setCell ⟨b, o, none⟩ x).heap[b']? = w.heap[b']? := fun b' hb => by
      simp [World.setCell, Array.getElem?_modify, Ne.symm hb]
    obtain ⟨e1, e2, e3, e4, e5, e6⟩ := ih (w.setCell ⟨b, o, none⟩ x) (o + 1) _ t fr h0
    refine ⟨by simpa [World.setCells, putArr] using e1, fun b' hb => ?_, ?_, ?_, ?_, ?_⟩
    · rw [World.setCells, e2 b' hb, h1 b' hb]
    · rw [World.setCells, e3]; simp [World.setCell]
    · rw [World.setCells, e4]; rfl
    · rw [World.setCells, e5]; rfl
    · rw [World.setCells, e6]; rfl

theorem live_iff {H : Heap} {h : Nat} {cs : List L} : live H h = some cs ↔ H[h]? = some (some cs) := by
  unfold live
  cases e : H[h]? with
  | none => simp
  | some o => cases o <;> simp

/-- Cells of an own row turned. -/
theorem Conc.store {η : List Nat} {S : Nat → Prop} {w : World} {H : Heap} (hC : Conc η S w H) {h b off : Nat} {cs : List L} {c0 t0 fr0} (hb0 : w.heap[b]? = some (.cells c0 t0 fr0)) (hη : η[h]? = some b) (hH : H[h]? = some (some cs))
    (vs : List Value) (ys : List L) (hz : vs.length = ys.length) (hb : off + ys.length ≤ cs.length) (hr : ∀ j, j < ys.length → Rel S w η (vs.getD j undef) (ys.getD j .any)) :
    Conc η S (w.setCells b off vs) (H.set h (some (setCells cs off ys))) ∧ Le η S w η S (w.setCells b off vs) := by
  obtain ⟨c, t, fr, q1, q2, q3, q4⟩ := hC.live hb0 hη hH
  obtain ⟨e1, e2, e3, e4, e5, e6⟩ := setCells_heap b vs w off c t fr q1
  obtain ⟨p1, p2⟩ := hC.apart h b cs hη hH
  have hle : Le η S w η S (w.setCells b off vs) := by
    refine ⟨⟨[], by simp, by simp⟩, fun _ h => h, fun b' hb' => e2 b' (fun e => p1 (e ▸ hb')), ?_, by omega, fun b' _ hn => e2 b' (fun e => hn (e ▸ List.mem_of_getElem? hη)), fun _ h => .inl h, e4, e5, e6⟩
    intro b' c' t' fr' hb'
    by_cases hbb : b' = b
    · subst hbb
      rw [q1] at hb'; cases hb'
      exact ⟨_, _, e1, putArr_size _ _ _⟩
    · exact ⟨c', fr', by rw [e2 b' hbb]; exact hb', rfl⟩
  have hlt : h < H.length := (List.getElem?_eq_some_iff.1 hH).1
  refine ⟨⟨by simp [hC.len], fun b' hb' => by rw [e3]; exact hC.lt b' hb', fun b' hb' => by rw [e3]; exact hC.Slt b' hb', ?_, ?_⟩, hle⟩
  · intro k b' ls f1 f2
    have f2' : ∃ ls', H[k]? = some (some ls') := by
      by_cases hk : k = h
      · subst hk; exact ⟨cs, hH⟩
      · rw [List.getElem?_set_ne (Ne.symm hk)] at f2; exact ⟨ls, f2⟩
    obtain ⟨ls', f3⟩ := f2'
    obtain ⟨r1, r2⟩ := hC.apart k b' ls' f1 f3
    refine ⟨r1, fun k' ls'' g1 g2 => ?_⟩
    by_cases hk : k' = h
    · subst hk; exact r2 k' cs g1 hH
    · rw [List.getElem?_set_ne (Ne.symm hk)] at g2; exact r2 k' ls'' g1 g2
  · intro k b' ls f1 f2
    by_cases hk : k = h
    · subst hk
      rw [hη] at f1; cases f1
      rw [List.getElem?_set_self hlt] at f2
      simp at f2; subst f2
      refine .inl ⟨_, t, fr, e1, by rw [setCells_length, putArr_size]; exact q2, by rw [putArr_size]; exact q3, fun j hj => ?_⟩
      rw [setCells_length] at hj
      rw [putArr_get _ _ _ _ (by omega), setCells_get _ _ _ _ hb]
      by_cases hj2 : off ≤ j ∧ j < off + ys.length
      · rw [if_pos (by omega), if_pos hj2]; exact (hr _ (by omega)).le hle
      · rw [if_neg (by omega), if_neg hj2]; exact (q4 j hj).le hle
    · rw [List.getElem?_set_ne (Ne.symm hk)] at f2
      have hbb : b' ≠ b := fun e => by subst e; exact hk (p2 k ls f1 f2)
      exact (hC.liveAt k b' ls f1 f2).mono (e2 b' hbb) (fun _ _ h => h.le hle)

theorem frozen_of {w : World} {b : Nat} {c : Array Value} {t : TypeId} {fr : Nat × Nat} (h : w.heap[b]? = some (.cells c t fr)) {o : Nat} (hn : ¬ (fr.1 ≤ o ∧ o < fr.2)) : w.frozen? ⟨b, o, none⟩ = false := by
  unfold World.frozen?
  simp [h]
  intro h1; exact Nat.le_of_not_lt fun h2 => hn ⟨h1, h2⟩

theorem cell_of {w : World} {b : Nat} {c : Array Value} {t : TypeId} {fr : Nat × Nat} (h : w.heap[b]? = some (.cells c t fr)) {o : Nat} (ho : o < c.size) : w.cell? ⟨b, o, none⟩ = some (c.getD o undef) := by
  unfold World.cell?
  simp [h, ho, Array.getD]

/-- The store itself. -/
theorem run_storeCells_own {P : Program} {η : List Nat} {S : Nat → Prop} {w : World} {H : Heap} (hC : Conc η S w H) {h b off : Nat} {cs : List L} {c0 t0 fr0} (hb0 : w.heap[b]? = some (.cells c0 t0 fr0)) (hη : η[h]? = some b) (hH : H[h]? = some (some cs))
    (vs : List Value) (hb : off + vs.length ≤ cs.length) (h1 : ∀ v ∈ vs, v.oneCell' = true) : (storeCells ⟨b, off, none⟩ vs 0).run P w = .ok () (w.setCells b off vs) := by
  obtain ⟨c, t, fr, q1, q2, q3, q4⟩ := hC.live hb0 hη hH
  have := run_storeCells_cells (P := P) b off vs 0 w (fun j hj => by rw [cell_of q1 (by omega)]; rfl) (fun j hj => frozen_of q1 (by omega)) h1
  simpa using this

end Lg
