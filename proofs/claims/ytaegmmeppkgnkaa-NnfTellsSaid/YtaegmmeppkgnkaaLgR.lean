/- What came in, read as logical values. -/
import Derived.Test.YtaegmmeppkgnkaaLgO
import Derived.ProofKit
import Derived.ChangeOld
import Derived.Below
namespace Lg
open Go

def isAggB (P : Program) (t : TypeId) : Bool :=
  match P.underlying t with
  | some (.struct _) | some (.array _ _) => true
  | _ => false

/-- A value of its cells. -/
def mkL (ag : Bool) (cl : List L) : L := if ag = true then .agg cl else cl.headD .any

/-- A type whose fields lie one behind the other. -/
def tiled : Nat → List (Nat × Nat) → Nat → Bool
  | o, [], n => o == n
  | o, (p, s) :: rest, n => p == o && tiled (o + s) rest n

/-- Fields one behind the other. -/
def TyAll (T : TypeId → List L → Prop) (sz : TypeId → Nat) : List TypeId → List L → Prop
  | [], ls => ls = []
  | t :: ts, ls => ∃ x rest, ls = x ++ rest ∧ x.length = sz t ∧ T t x ∧ TyAll T sz ts rest

/-- What a datum of a type looks like, cell by cell. -/
def Ty (P : Program) : Nat → TypeId → List L → Prop
  | 0, _, _ => False
  | n + 1, t, ls => match P.underlying t with
    | some .bool => ∃ b, ls = [.v (.bool b)]
    | some (.int k) => ∃ m, ls = [.v (.int k m)] ∧ (Lit.int k m).wf = true
    | some .string => ∃ s : ByteArray, ls = [.v (.string s)] ∧ s.size ≤ 140737488351232
    | some (.slice e) => if isAggB P e = true ∧ P.cellsOf e ≤ 1 then ls = [.any] else
        ∃ xs : List (List L), ls = [.sl (P.cellsOf e) false (xs.map (mkL (isAggB P e)))] ∧ (∀ x ∈ xs, Ty P n e x) ∧ xs.length * P.bytesOf e ≤ 140737488351232
    | some (.struct fs) => if tiled 0 (fs.toList.map fun f => (f.offset, P.cellsOf f.type)) (P.cellsOf t) = true then TyAll (Ty P n) (P.cellsOf) (fs.toList.map (·.type)) ls else ls = List.replicate (P.cellsOf t) .any
    | some (.array k e) => if P.cellsOf t = k * P.cellsOf e then ls.length = P.cellsOf t ∧ ∀ i, i < k → Ty P n e ((ls.drop (i * P.cellsOf e)).take (P.cellsOf e)) else ls = List.replicate (P.cellsOf t) .any
    | _ => ls = [.any]

def RelC (W : World) (cs : List Value) (ls : List L) : Prop := ls.length = cs.length ∧ ∀ j, Rel (fun b => b < W.heap.size) W [] (cs.getD j undef) (ls.getD j .any)

theorem RelC.any1 {W : World} {x : Value} : RelC W [x] [.any] := ⟨rfl, fun j => by cases j <;> exact .any _⟩
theorem RelC.one {W : World} {x : Value} {l : L} (h : Rel (fun b => b < W.heap.size) W [] x l) : RelC W [x] [l] := ⟨rfl, fun j => by
  cases j with
  | zero => exact h
  | succ j => exact .any _⟩

theorem RelC.part {W : World} {cs : List Value} {ls : List L} (h : RelC W cs ls) (o n : Nat) : RelC W ((cs.drop o).take n) ((ls.drop o).take n) := by
  obtain ⟨h1, h2⟩ := h
  refine ⟨by simp [h1], fun j => ?_⟩
  by_cases hj : j < n
  · have := h2 (o + j)
    simpa [List.getD, List.getElem?_take, hj] using this
  · rw [getD_of_ge ((ls.drop o).take n) L.any (by simp; omega)]; exact .any _

/-- The parts put together. -/
theorem relC_of_parts {W : World} {cs : List Value} (n s : Nat) (f : Nat → List L) (h : ∀ i, i < n → RelC W ((cs.drop (i * s)).take s) (f i)) (hl : cs.length = n * s) :
    ∃ ls, RelC W cs ls ∧ ∀ i, i < n → (ls.drop (i * s)).take s = f i := by
  induction n generalizing cs with
  | zero => exact ⟨[], ⟨by simp at hl; simp [hl], fun j => by simp; exact .any _⟩, fun i hi => by omega⟩
  | succ n ih =>
    rw [Nat.succ_mul] at hl
    obtain ⟨ls, h1, h2⟩ := ih (cs := cs.take (n * s)) (fun i hi => by
      have := h i (by omega)
      have hm : i * s + s ≤ n * s := by rw [← Nat.succ_mul]; exact Nat.mul_le_mul_right _ hi
      rwa [List.drop_take, List.take_take, Nat.min_eq_left (by omega)]) (by simp; omega)
    have hn := h n (Nat.lt_succ_self n)
    have e1 : ls.length = n * s := by rw [h1.1]; simp; omega
    have e2 : (f n).length = s := by rw [hn.1]; simp; omega
    refine ⟨ls ++ f n, ⟨by simp [e1, e2]; omega, fun j => ?_⟩, fun i hi => ?_⟩
    · by_cases hj : j < n * s
      · have := h1.2 j
        simpa [List.getD, List.getElem?_take, hj, List.getElem?_append_left (show j < ls.length by omega)] using this
      · have := hn.2 (j - n * s)
        by_cases hj2 : j - n * s < s
        · simp only [List.getD, List.getElem?_take, hj2, if_true, List.getElem?_drop, List.getElem?_append_right (show ls.length ≤ j by omega), e1] at this ⊢
          rwa [show n * s + (j - n * s) = j by omega] at this
        · rw [getD_of_ge (ls ++ f n) L.any (by simp [e1, e2]; omega)]; exact .any _
    · rcases Nat.lt_succ_iff_lt_or_eq.1 hi with hi' | rfl
      · have hm : i * s + s ≤ n * s := by rw [← Nat.succ_mul]; exact Nat.mul_le_mul_right _ hi'
        rw [List.drop_append_of_le_length (by omega), List.take_append_of_le_length (by simp; omega)]
        exact h2 i hi'
      · rw [← e1, List.drop_left, ← e2, List.take_length]

theorem fields_of_parts {W : World} {cs : List Value} {T : TypeId → List L → Prop} {sz : TypeId → Nat} (g : Field → List L) : ∀ (fs : List Field) (o n : Nat), (∀ f ∈ fs, RelC W ((cs.drop f.offset).take (sz f.type)) (g f) ∧ T f.type (g f)) → tiled o (fs.map fun f => (f.offset, sz f.type)) n = true → cs.length = n →
    ∃ ls, RelC W (cs.drop o) ls ∧ TyAll T sz (fs.map (·.type)) ls
  | [], o, n, _, ht, hl => ⟨[], ⟨by simp [tiled] at ht; simp; omega, fun j => by simp; exact .any _⟩, by simp [TyAll]⟩
  | f :: fs, o, n, h, ht, hl => by
    simp only [List.map_cons, tiled, Bool.and_eq_true, beq_iff_eq] at ht
    obtain ⟨rfl, ht⟩ := ht
    have mono : ∀ (l : List (Nat × Nat)) (o n : Nat), tiled o l n = true → o ≤ n := by
      intro l
      induction l with
      | nil => intro o n h; simp [tiled] at h; omega
      | cons p l ih => intro o n h; obtain ⟨p, s⟩ := p; simp only [tiled, Bool.and_eq_true] at h; have := ih _ _ h.2; omega
    have hle := mono _ _ _ ht
    obtain ⟨ls, h1, h2⟩ := fields_of_parts g fs _ n (fun f hf => h f (by simp [hf])) ht hl
    obtain ⟨h3, h4⟩ := h f (by simp)
    have e3 : (g f).length = sz f.type := by rw [h3.1]; simp; omega
    refine ⟨g f ++ ls, ⟨by rw [List.length_append, e3, h1.1]; simp; omega, fun j => ?_⟩, ⟨g f, ls, rfl, e3, h4, h2⟩⟩
    by_cases hj : j < sz f.type
    · have := h3.2 j
      simpa [List.getD, List.getElem?_take, hj, List.getElem?_append_left (show j < (g f).length by omega)] using this
    · have := h1.2 (j - sz f.type)
      simp only [List.getD, List.getElem?_drop, List.getElem?_append_right (show (g f).length ≤ j by omega), e3] at this ⊢
      rwa [show f.offset + sz f.type + (j - sz f.type) = f.offset + j by omega] at this

theorem mapM_some {α β : Type} {f : α → Option β} : ∀ {l : List α} {ys : List β}, l.mapM f = some ys → ys.length = l.length ∧ ∀ (i : Nat) x, l[i]? = some x → ∃ y, ys[i]? = some y ∧ f x = some y
  | [], ys, h => by simp at h; subst h; simp
  | a :: l, ys, h => by
    simp only [List.mapM_cons, Option.bind_eq_bind, Option.bind_eq_some_iff, Option.pure_def, Option.some.injEq] at h
    obtain ⟨y, h1, ys', h2, rfl⟩ := h
    obtain ⟨e1, e2⟩ := mapM_some h2
    refine ⟨by simp [e1], fun i x hx => ?_⟩
    cases i with
    | zero => simp at hx; subst hx; exact ⟨y, rfl, h1⟩
    | succ i => simpa using e2 i x (by simpa using hx)

theorem cells_at {W : World} {base : Nat} {a : Addr} {n : Nat} {cs : List Value} (h : W.cells? base a n = some cs) : cs.length = n ∧ ∀ j, j < n → W.cell? (a.add j) = some (cs.getD j undef) := by
  unfold World.cells? at h
  split at h
  · obtain ⟨e1, e2⟩ := mapM_some h
    rw [List.length_range] at e1
    refine ⟨e1, fun j hj => ?_⟩
    obtain ⟨y, h1, h2⟩ := e2 j j (by simp [hj])
    simpa [List.getD, h1] using h2
  · simp at h

theorem cell_lt {W : World} {a : Addr} {x : Value} (h : W.cell? a = some x) : a.block < W.heap.size ∧ a.spot = none := by
  unfold World.cell? at h
  split at h
  · rename_i c t fr e
    refine ⟨?_, ?_⟩
    · rcases Nat.lt_or_ge a.block W.heap.size with h' | h'
      · exact h'
      · simp [Array.getElem?_eq_none h'] at e
    · cases hs : a.spot with
      | none => rfl
      | some _ => simp [hs] at h
  · simp at h

theorem weights_mem {H : Type} {P : Program} {e : TypeId} : ∀ {ds : List (DataW H)} {d : DataW H}, d ∈ ds → ∀ x ∈ d.weights P e, x ∈ DataW.weightsAll P e ds
  | d' :: ds, d, h, x, hx => by
    rw [DataW.weightsAll]
    rcases List.mem_cons.1 h with rfl | h
    · exact List.mem_append.2 (.inl hx)
    · exact List.mem_append.2 (.inr (weights_mem h x hx))

theorem weights_each {H : Type} {P : Program} : ∀ {ts : List TypeId} {ds : List (DataW H)} {i : Nat} {t : TypeId} {d : DataW H}, ts[i]? = some t → ds[i]? = some d → ∀ x ∈ d.weights P t, x ∈ DataW.weightsEach P ts ds
  | [], ds, i, t, d, h, _, x, _ => by simp at h
  | _ :: ts, [], i, t, d, _, h, x, _ => by simp at h
  | t' :: ts, d' :: ds, i, t, d, h1, h2, x, hx => by
    rw [DataW.weightsEach]
    cases i with
    | zero => simp at h1 h2; subst h1; subst h2; exact List.mem_append.2 (.inl hx)
    | succ i => exact List.mem_append.2 (.inr (weights_each (by simpa using h1) (by simpa using h2) x hx))

set_option maxHeartbeats 1000000 in
/-- Whatever reads as a datum reads as a logical value of its type. -/
theorem trod_rel {H : Type} {enc : TypeId × Value → H} {P : Program} {W : World} {base : Nat} {spare : Nat → Bool} {held : Bool} : ∀ (fuel : Nat) (t : TypeId) (cs : List Value) (d : DataW H) (ps : List MemPlace),
    DataW.trod enc P W base spare held fuel t cs = some (d, ps) → (∀ x ∈ d.weights P t, x ≤ 140737488351232) → ∃ ls, RelC W cs ls ∧ Ty P fuel t ls := by
  intro fuel
  induction fuel with
  | zero => intro t cs d ps h; simp [DataW.trod] at h
  | succ fuel ih =>
    intro t cv d ps h hw
    unfold DataW.trod at h
    unfold Ty
    split at h
    · rename_i hu
      simp only [hu]
      exact ⟨_, RelC.one (.v _), _, rfl⟩
    · rename_i k k' n hu
      simp only [hu]
      split at h
      · rename_i hc
        obtain ⟨rfl, hwf⟩ := hc
        exact ⟨_, RelC.one (.v _), n, rfl, hwf⟩
      · simp at h
    · rename_i hu; simp only [hu]; exact ⟨_, RelC.any1, rfl⟩
    · rename_i s hu
      simp only [hu]
      split at h
      · simp only [Option.some.injEq, Prod.mk.injEq] at h
        obtain ⟨rfl, rfl⟩ := h
        refine ⟨_, RelC.one (.v _), s, rfl, ?_⟩
        have := hw s.data.toList.length (by simp [DataW.weights])
        simpa using this
      · simp at h
    · rename_i hu; simp only [hu]; exact ⟨_, RelC.any1, rfl⟩
    · rename_i hu; simp only [hu]; exact ⟨_, RelC.any1, rfl⟩
    · rename_i e hu
      simp only [hu]
      split
      · exact ⟨_, RelC.any1, rfl⟩
      · exact ⟨[.sl (P.cellsOf e) false []], RelC.one (.sl0 (by simp) (by simp [maxLen])), [], by simp, by simp, by simp⟩
    · rename_i e a len cap hu
      simp only [hu]
      split
      · exact ⟨_, RelC.any1, rfl⟩
      rename_i hone
      simp only at h
      split at h
      rotate_left
      · simp at h
      rename_i hcond
      obtain ⟨hb, hlc, hmax⟩ := hcond
      simp only [Option.bind_eq_some_iff, Option.map_eq_some_iff, Prod.mk.injEq] at h
      obtain ⟨els, hels, rest, hrest, rfl, rfl⟩ := h
      obtain ⟨e1, e2⟩ := mapM_some hels
      rw [List.length_range] at e1
      have hwt : ∀ x ∈ (els.length + rest.length) * P.bytesOf e :: (DataW.weightsAll P e (els.map (·.1)) ++ DataW.weightsAll P e (rest.map (·.1))), x ≤ 140737488351232 := by
        have : (DataW.slice (els.map (·.1)) (rest.map (·.1)) : DataW H).weights P t = (els.length + rest.length) * P.bytesOf e :: (DataW.weightsAll P e (els.map (·.1)) ++ DataW.weightsAll P e (rest.map (·.1))) := by
          simp [DataW.weights, hu]
        rw [this] at hw; exact hw
      have elem : ∀ i, i < len → ∃ ls cl, W.cells? base (a.add (i * P.cellsOf e)) (P.cellsOf e) = some cl ∧ RelC W cl ls ∧ Ty P fuel e ls := fun i hi => by
        obtain ⟨y, h1, h2⟩ := e2 i i (by simp [hi])
        simp only [Option.bind_eq_some_iff] at h2
        obtain ⟨cl, h3, h4⟩ := h2
        obtain ⟨d', ps'⟩ := y
        obtain ⟨ls, h5, h6⟩ := ih e cl d' ps' h4 (fun x hx => hwt x (List.mem_cons_of_mem _ (List.mem_append.2 (.inl (weights_mem (List.mem_map.2 ⟨_, List.mem_of_getElem? h1, rfl⟩) x hx)))))
        exact ⟨ls, cl, h3, h5, h6⟩
      have hag : ∀ i, i < len → ∃ ls, Ty P fuel e ls ∧ ls.length = P.cellsOf e ∧ ∀ j, j < P.cellsOf e → ∃ x, W.cell? (a.add (i * P.cellsOf e + j)) = some x ∧ Rel (fun b => b < W.heap.size) W [] x (ls.getD j .any) := fun i hi => by
        obtain ⟨ls, cl, h1, h2, h3⟩ := elem i hi
        obtain ⟨c1, c2⟩ := cells_at h1
        refine ⟨ls, h3, by rw [h2.1, c1], fun j hj => ⟨_, ?_, h2.2 j⟩⟩
        have := c2 j hj
        rwa [show (a.add (i * P.cellsOf e)).add j = a.add (i * P.cellsOf e + j) from by
          unfold Addr.add
          by_cases q1 : i * P.cellsOf e = 0 <;> by_cases q2 : j = 0 <;> simp [q1, q2] <;> omega] at this
      obtain ⟨f, hf⟩ : ∃ f : Nat → List L, ∀ i, i < len → Ty P fuel e (f i) ∧ (f i).length = P.cellsOf e ∧ ∀ j, j < P.cellsOf e → ∃ x, W.cell? (a.add (i * P.cellsOf e + j)) = some x ∧ Rel (fun b => b < W.heap.size) W [] x ((f i).getD j .any) :=
        ⟨fun i => if hi : i < len then Classical.choose (hag i hi) else [], fun i hi => by simp only [hi, dif_pos]; exact Classical.choose_spec (hag i hi)⟩
      have hcells : ∀ i, i < len → (mkL (isAggB P e) (f i)).cells = f i ∧ (P.cellsOf e = 1 → (mkL (isAggB P e) (f i)).cells = [mkL (isAggB P e) (f i)]) := fun i hi => by
        obtain ⟨g1, g2, g3⟩ := hf i hi
        unfold mkL
        by_cases hg : isAggB P e = true
        · simp only [hg, if_true, L.cells]
          exact ⟨trivial, fun h1 => absurd ⟨hg, by omega⟩ hone⟩
        · simp only [hg]
          have h1 : ∃ x, f i = [x] ∧ ∀ cs, x ≠ .agg cs := by
            unfold isAggB at hg
            cases fuel with
            | zero => simp [Ty] at g1
            | succ fuel =>
              unfold Ty at g1
              cases hd : P.underlying e with
              | none => simp only [hd] at g1; exact ⟨_, g1, by simp⟩
              | some dsc =>
                simp only [hd] at g1 hg
                cases dsc <;> simp only at g1 hg <;> first
                  | (exact ⟨_, g1, by simp⟩)
                  | (obtain ⟨_, g1⟩ := g1; exact ⟨_, g1, by simp⟩)
                  | (obtain ⟨_, g1, _⟩ := g1; exact ⟨_, g1, by simp⟩)
                  | (split at g1
                     · exact ⟨_, g1, by simp⟩
                     · obtain ⟨_, g1, _⟩ := g1; exact ⟨_, g1, by simp⟩)
                  | (exact absurd trivial hg)
          obtain ⟨x, h1, h2⟩ := h1
          rw [h1]
          simp only [List.headD_cons]
          have : x.cells = [x] := by cases x <;> simp_all [L.cells]
          exact ⟨this, fun _ => this⟩
      let xs := (List.range len).map f
      have hxs : (xs.map (mkL (isAggB P e))).length = len := by simp [xs]
      refine ⟨[.sl (P.cellsOf e) false (xs.map (mkL (isAggB P e)))], RelC.one ?_, xs, rfl, fun x hx => ?_, ?_⟩
      · by_cases hz : len * P.cellsOf e = 0
        · have h0 : len = 0 := by
            rcases Nat.mul_eq_zero.1 hz with h' | h'
            · exact h'
            · rcases Nat.eq_zero_or_pos len with h'' | h''
              · exact h''
              · exfalso
                obtain ⟨m1, m2⟩ := hcells 0 h''
                obtain ⟨g1, g2, g3⟩ := hf 0 h''
                have hg : ¬ isAggB P e = true := fun hg => hone ⟨hg, by omega⟩
                unfold mkL at m1
                simp only [hg] at m1
                have : f 0 = [] := List.eq_nil_of_length_eq_zero (by omega)
                rw [this] at m1
                simp [L.cells] at m1
          subst h0
          have : xs = [] := List.eq_nil_of_length_eq_zero (by simp [xs])
          simp only [this, List.map_nil]
          exact .sl0 (by simp) hmax
        · obtain ⟨g1, g2, g3⟩ := hf 0 (Nat.pos_of_ne_zero fun e => hz (by rw [e]; simp))
          have hp : 0 < P.cellsOf e := Nat.pos_of_ne_zero fun e => hz (by rw [e]; simp)
          obtain ⟨x0, hx0, -⟩ := g3 0 hp
          obtain ⟨b1, b2⟩ := cell_lt hx0
          simp only [Nat.zero_mul, Nat.add_zero, Addr.add_zero'] at b1 b2
          obtain ⟨blk, off, spot⟩ := a
          simp only at b1 b2
          subst b2
          have hcell : ∀ j, j < len * P.cellsOf e → ∃ x, W.cell? ⟨blk, off + j, none⟩ = some x ∧ Rel (fun b => b < W.heap.size) W [] x ((flat (P.cellsOf e) (xs.map (mkL (isAggB P e)))).getD j .any) := fun j hj => by
            have hm := Nat.mod_lt j hp
            have hdm : j / P.cellsOf e * P.cellsOf e + j % P.cellsOf e = j := by rw [Nat.mul_comm]; exact Nat.div_add_mod j _
            have hdl : j / P.cellsOf e < len := Nat.div_lt_of_lt_mul (by rw [Nat.mul_comm]; exact hj)
            obtain ⟨k1, k2, k3⟩ := hf _ hdl
            obtain ⟨x, r1, r2⟩ := k3 _ hm
            rw [hdm, Addr.add_lit] at r1
            refine ⟨x, r1, ?_⟩
            have := flat_getD (esz := P.cellsOf e) (xs := xs.map (mkL (isAggB P e))) (fun y hy => by
              simp only [xs, List.map_map, List.mem_map, List.mem_range] at hy
              obtain ⟨i, hi, rfl⟩ := hy
              obtain ⟨m1, m2⟩ := hcells i hi
              exact ⟨by simp only [Function.comp]; rw [m1]; exact (hf i hi).2.1, m2⟩) (i := j / P.cellsOf e) (x := mkL (isAggB P e) (f (j / P.cellsOf e))) (by simp [xs, hdl]) hm
            rw [hdm] at this
            rw [this, (hcells _ hdl).1]
            exact r2
          obtain ⟨g, hg⟩ : ∃ g : Nat → Value, ∀ j, j < len * P.cellsOf e → W.cell? ⟨blk, off + j, none⟩ = some (g j) ∧ Rel (fun b => b < W.heap.size) W [] (g j) ((flat (P.cellsOf e) (xs.map (mkL (isAggB P e)))).getD j .any) :=
            ⟨fun j => if hj : j < len * P.cellsOf e then Classical.choose (hcell j hj) else undef, fun j hj => by simp only [hj, dif_pos]; exact Classical.choose_spec (hcell j hj)⟩
          have hall : ∀ y ∈ xs.map (mkL (isAggB P e)), y.cells.length = P.cellsOf e ∧ (P.cellsOf e = 1 → y.cells = [y]) := fun y hy => by
            simp only [xs, List.map_map, List.mem_map, List.mem_range] at hy
            obtain ⟨i, hi, rfl⟩ := hy
            obtain ⟨m1, m2⟩ := hcells i hi
            exact ⟨by simp only [Function.comp]; rw [m1]; exact (hf i hi).2.1, m2⟩
          have := Rel.sl (S := fun b => b < W.heap.size) (w := W) (η := []) (b := blk) (o := off) (cap := cap) (esz := P.cellsOf e) (clip := false) (xs := xs.map (mkL (isAggB P e))) g (by rw [hxs]; exact hlc) hmax (by simp) hall (fun _ => b1)
            (fun j hj => by rw [hxs] at hj; exact (hg j hj).1) (fun j => by
              by_cases hj : j < len * P.cellsOf e
              · exact (hg j hj).2
              · rw [getD_of_ge (flat _ _) L.any (by rw [flat_length hall, hxs]; omega)]; exact .any _)
          rwa [hxs] at this
      · simp only [xs, List.mem_map, List.mem_range] at hx
        obtain ⟨i, hi, rfl⟩ := hx
        exact (hf i hi).1
      · have := hwt _ (List.mem_cons_self ..)
        refine Nat.le_trans (Nat.mul_le_mul_right _ ?_) this
        simp [xs]; omega
    · rename_i cv _ _ fs hu
      simp only [hu]
      split at h
      rotate_left
      · simp at h
      rename_i hlen
      simp only [Option.map_eq_some_iff, Prod.mk.injEq] at h
      obtain ⟨xs, hxs, rfl, rfl⟩ := h
      obtain ⟨e1, e2⟩ := mapM_some hxs
      split
      · rename_i ht
        have hwt : ∀ x ∈ DataW.weightsEach P (fs.toList.map (·.type)) (xs.map (·.1)), x ≤ 140737488351232 := by
          have : (DataW.agg (xs.map (·.1)) : DataW H).weights P t = DataW.weightsEach P (fs.toList.map (·.type)) (xs.map (·.1)) := by simp [DataW.weights, hu]
          rw [this] at hw; exact hw
        have key : ∀ f ∈ fs.toList, ∃ ls, RelC W ((cv.drop f.offset).take (P.cellsOf f.type)) ls ∧ Ty P fuel f.type ls := fun f hf => by
          obtain ⟨i, hi, hfi⟩ := List.getElem_of_mem hf
          have hfi' : fs.toList[i]? = some f := by rw [List.getElem?_eq_getElem hi, hfi]
          obtain ⟨⟨d', ps'⟩, h1, h2⟩ := e2 i f hfi'
          exact ih _ _ _ _ h2 (fun x hx => hwt x (weights_each (i := i) (t := f.type) (d := d') (by rw [List.getElem?_map, hfi']; rfl) (by simp [h1]) x hx))
        obtain ⟨g, hg⟩ : ∃ g : Field → List L, ∀ f ∈ fs.toList, RelC W ((cv.drop f.offset).take (P.cellsOf f.type)) (g f) ∧ Ty P fuel f.type (g f) :=
          ⟨fun f => Classical.epsilon fun ls => RelC W ((cv.drop f.offset).take (P.cellsOf f.type)) ls ∧ Ty P fuel f.type ls, fun f hf => Classical.epsilon_spec (key f hf)⟩
        obtain ⟨ls, h1, h2⟩ := fields_of_parts (T := Ty P fuel) (sz := P.cellsOf) g fs.toList 0 (P.cellsOf t) hg ht hlen
        exact ⟨ls, by simpa using h1, h2⟩
      · exact ⟨_, ⟨by simp [hlen], fun j => by
          have : (List.replicate (P.cellsOf t) L.any).getD j .any = .any := by simp only [List.getD, List.getElem?_replicate]; split <;> rfl
          rw [this]; exact .any _⟩, rfl⟩
    · rename_i cv _ _ n e hu
      simp only [hu]
      split at h
      rotate_left
      · simp at h
      rename_i hlen
      simp only [Option.map_eq_some_iff, Prod.mk.injEq] at h
      obtain ⟨xs, hxs, rfl, rfl⟩ := h
      obtain ⟨e1, e2⟩ := mapM_some hxs
      split
      · rename_i hn
        have hwt : ∀ x ∈ DataW.weightsAll P e (xs.map (·.1)), x ≤ 140737488351232 := by
          have : (DataW.agg (xs.map (·.1)) : DataW H).weights P t = DataW.weightsAll P e (xs.map (·.1)) := by simp [DataW.weights, hu]
          rw [this] at hw; exact hw
        have key : ∀ i, i < n → ∃ ls, RelC W ((cv.drop (i * P.cellsOf e)).take (P.cellsOf e)) ls ∧ Ty P fuel e ls := fun i hi => by
          obtain ⟨⟨d', ps'⟩, h1, h2⟩ := e2 i i (by simp [hi])
          exact ih _ _ _ _ h2 (fun x hx => hwt x (weights_mem (List.mem_map.2 ⟨_, List.mem_of_getElem? h1, rfl⟩) x hx))
        obtain ⟨g, hg⟩ : ∃ g : Nat → List L, ∀ i, i < n → RelC W ((cv.drop (i * P.cellsOf e)).take (P.cellsOf e)) (g i) ∧ Ty P fuel e (g i) :=
          ⟨fun i => if hi : i < n then Classical.choose (key i hi) else [], fun i hi => by simp only [hi, dif_pos]; exact Classical.choose_spec (key i hi)⟩
        obtain ⟨ls, h1, h2⟩ := relC_of_parts n (P.cellsOf e) g (fun i hi => (hg i hi).1) (by rw [hlen, hn])
        exact ⟨ls, h1, by rw [h1.1, hlen], fun i hi => by rw [h2 i hi]; exact (hg i hi).2⟩
      · exact ⟨_, ⟨by simp [hlen], fun j => by
          have : (List.replicate (P.cellsOf t) L.any).getD j .any = .any := by simp only [List.getD, List.getElem?_replicate]; split <;> rfl
          rw [this]; exact .any _⟩, rfl⟩
    all_goals first
      | (rename_i hu; simp only [hu]; exact ⟨_, RelC.any1, rfl⟩)
      | (exfalso; revert h; simp; done)
      | skip

theorem cell_one {P : Program} {w : World} {r : Reach} {b : Nat} {t : TypeId} {v : Value} (h : Cell.okWide P w r b t v) : v.cells = #[v] := by
  cases v <;> first | rfl | skip
  exfalso
  unfold Cell.okWide Cell.ok at h
  split at h <;> simp_all

/-- An argument. -/
theorem open_arg {H : Type} {enc : TypeId × Value → H} {P : Program} {W : World} {base b0 : Nat} {spare : Nat → Bool} {held : Bool} {r : Reach} {t : TypeId} {v : Value} {d : DataW H} {ps : List MemPlace}
    (hval : Value.okWide P W r b0 t v) (h : DataW.Trod enc P W base spare held t v d ps) (hw : ∀ x ∈ d.weights P t, x ≤ 140737488351232) :
    ∃ n ls, Ty P n t ls ∧ Rel (fun b => b < W.heap.size) W [] v (mkL (isAggB P t) ls) := by
  obtain ⟨fuel, hf⟩ := h
  obtain ⟨ls, h1, h2⟩ := trod_rel fuel t _ d ps hf hw
  refine ⟨fuel, ls, h2, ?_⟩
  have agg : ∀ cs, v = .agg cs → Rel (fun b => b < W.heap.size) W [] v (.agg ls) := fun cs hv => by
    subst hv
    obtain ⟨e1, e2⟩ := h1
    exact .agg (by simpa [Value.cells] using e1.symm) fun j => by
      have := e2 j
      simpa [Value.cells, Array.getD_eq_getD_getElem?, List.getD] using this
  have one : v.cells = #[v] → Rel (fun b => b < W.heap.size) W [] v (ls.headD .any) := fun hv => by
    rw [hv] at h1
    have := h1.2 0
    cases ls with
    | nil => exact .any _
    | cons l ls => simpa using this
  unfold Value.okWide at hval
  unfold mkL isAggB
  cases hu : P.underlying t with
  | none => simp only [hu] at hval ⊢; exact one (cell_one hval)
  | some dsc =>
    simp only [hu] at hval ⊢
    cases dsc <;> simp only at hval ⊢ <;> first
      | exact one (cell_one hval)
      | (obtain ⟨cs, hv, _⟩ := hval; exact agg cs hv)

/-- The end of a law's frame. -/
theorem below_of_le {W W' : World} {S S' : Nat → Prop} (h : Le [] S W [] S' W') : Go.RowKit.Below W.heap.size W W' :=
  ⟨h.os, h.tape, h.output, h.size, fun k hk => h.frame k hk (by simp)⟩

/-- A law: its function, on whatever logical values the arguments read as, returns true and leaves everything as it was. -/
theorem law_calls {P : Program} {f : FuncId} {W : World} {vs : Array Value} {ls : List L} (h : PC P f ls (.v (.bool true))) (hv : RelAll [] (fun b => b < W.heap.size) W vs ls) :
    Calls P f vs W fun e W' => e = .returned (.bool true) ∧ Go.RowKit.Below W.heap.size W W' :=
  (h.2 _ W vs (fun _ h => h) hv).mono fun e W' ⟨v, S', h1, h2, h3, _⟩ => ⟨by rw [h1, h2.inv_v], below_of_le h3⟩

theorem RelAll.nil {η : List Nat} {S : Nat → Prop} {w : World} : RelAll η S w #[] [] := ⟨rfl, fun j => by simp; exact .any _⟩
theorem RelAll.one {η : List Nat} {S : Nat → Prop} {w : World} {x : Value} {l : L} (h : Rel S w η x l) : RelAll η S w #[x] [l] := ⟨rfl, fun j => by
  cases j with
  | zero => exact h
  | succ j => exact .any _⟩
theorem RelAll.two {η : List Nat} {S : Nat → Prop} {w : World} {x y : Value} {l m : L} (h : Rel S w η x l) (k : Rel S w η y m) : RelAll η S w #[x, y] [l, m] := (RelAll.one h).append (RelAll.one k)
theorem RelAll.three {η : List Nat} {S : Nat → Prop} {w : World} {x y z : Value} {l m n : L} (h : Rel S w η x l) (k : Rel S w η y m) (j : Rel S w η z n) : RelAll η S w #[x, y, z] [l, m, n] := (RelAll.two h k).append (RelAll.one j)

end Lg
