import Derived.Test.YtjoffkghcjfbeaaLgAF
import Derived.MapKept
import Derived.Maps.RangeRun
/- Soundness of indexes, slices, lengths. -/
namespace Lg
open Go
section
variable {P : Program} {η : List Nat} {S : Nat → Prop} {w : World} {H : Heap} {a : Act} {E : Env}
theorem flat_length {esz : Nat} {xs : List L} (h : ∀ y ∈ xs, y.cells.length = esz ∧ (esz = 1 → y.cells = [y])) : (flat esz xs).length = xs.length * esz := by
 unfold flat
 split
 ·rename_i e; simp [e]
 ·induction xs with
  | nil => simp
  | cons x xs ih =>
   rw [List.flatMap_cons, List.length_append, ih (fun y hy => h y (by simp [hy])), (h x (by simp)).1, List.length_cons, Nat.succ_mul, Nat.add_comm]
theorem flatMap_getD {esz : Nat} {xs : List L} (h : ∀ y ∈ xs, y.cells.length = esz) : ∀ (i : Nat) (x : L) (j : Nat), xs[i]? = some x → j < esz → (xs.flatMap L.cells).getD (i * esz + j) .any = x.cells.getD j .any := by
 induction xs with
 | nil => intro i x j h; simp at h
 | cons y ys ih =>
  intro i x j hx hj
  have hy := h y (by simp)
  cases i with
  | zero =>
   simp at hx; subst hx
   rw [List.flatMap_cons]
   simp only [List.getD, Nat.zero_mul, Nat.zero_add]
   rw [List.getElem?_append_left (by omega)]
  | succ i =>
   simp at hx
   have := ih (fun z hz => h z (by simp [hz])) i x j hx hj
   rw [List.flatMap_cons]
   simp only [List.getD] at this ⊢
   rw [List.getElem?_append_right (by rw [hy, Nat.succ_mul]; omega), hy, show (i + 1) * esz + j - esz = i * esz + j by rw [Nat.succ_mul]; omega]
   exact this
theorem flat_getD {esz : Nat} {xs : List L} (h : ∀ y ∈ xs, y.cells.length = esz ∧ (esz = 1 → y.cells = [y])) {i : Nat} {x : L} {j : Nat} (hx : xs[i]? = some x) (hj : j < esz) :
  (flat esz xs).getD (i * esz + j) .any = x.cells.getD j .any := by
 unfold flat
 split
 ·rename_i e
  subst e
  have := (h x (List.mem_of_getElem? hx)).2 rfl
  rw [this, show j = 0 by omega]
  simp [List.getD, hx]
 ·exact flatMap_getD (fun y hy => (h y hy).1) i x j hx hj
theorem indexAt_slice {t e : TypeId} {s : Nat} (hu : P.underlying t = some (.slice e)) (hs : szOf P e = some s) {k : IntKind} {i : Int} {b o len cap : Nat} (h0 : 0 ≤ i) (h1 : i < (len : Int)) :
  (Instr.indexAt t (.slice (some ⟨b, o, none⟩) len cap) (.int k i)).run P w = .ok (.pointer (some ⟨b, o + i.toNat * s, none⟩)) w := by
 simp only [Instr.indexAt, asIntOf, Sem.run_bind, Sem.run_pure, Result.andThen_ok, run_underlying hu]
 simp [h0, h1, run_sz hs, Addr.add_lit]
theorem indexAt_array {t e : TypeId} {n s : Nat} (hu : P.underlying t = some (.array n e)) (hs : szOf P e = some s) {k : IntKind} {i : Int} {b o : Nat} (h0 : 0 ≤ i) (h1 : i < (n : Int)) :
  (Instr.indexAt t (.pointer (some ⟨b, o, none⟩)) (.int k i)).run P w = .ok (.pointer (some ⟨b, o + i.toNat * s, none⟩)) w := by
 simp only [Instr.indexAt, asIntOf, Sem.run_bind, Sem.run_pure, Result.andThen_ok, run_underlying hu, Instr.sureAddr]
 simp [h0, h1, run_sz hs, Addr.add_lit]
theorem iaddr_fine {t e : TypeId} {s : Nat} {x y : Value} {lx ly l : L} (hu : P.underlying t = some (.slice e)) (hs : szOf P e = some s) (hx : Rel S w η x lx) (hy : Rel S w η y ly) (h : iaddrL s ly lx = some l) :
  ∃ v, (Instr.indexAt t x y).run P w = .ok v w ∧ Rel S w η v l := by
 unfold iaddrL at h
 split at h
 ·rename_i esz clip xs
  split at h
  ·rename_i k n
   have := hy.inv_v; subst this
   split at h
   ·rename_i hc
    obtain ⟨rfl, h0⟩ := hc
    simp only [Option.map_eq_some_iff] at h
    obtain ⟨z, hz, rfl⟩ := h
    obtain ⟨a, cap, rfl, h1, h2, h3, h4, h5⟩ := hx.inv_sl
    have hlt : n.toNat < xs.length := (List.getElem?_eq_some_iff.1 hz).1
    obtain ⟨b, o, cs, rfl, hS, hc, hr⟩ := h5 (by omega)
    have hz4 := (h4 z (List.mem_of_getElem? hz)).1
    have hmul : n.toNat * esz + esz ≤ xs.length * esz := by rw [← Nat.succ_mul]; exact Nat.mul_le_mul_right _ hlt
    refine ⟨_, indexAt_slice hu hs h0 (by omega), .pp (fun j => cs (n.toNat * esz + j)) (fun h => hS (by omega)) (fun j hj => ?_) (fun j => ?_)⟩
    ·rw [show o + n.toNat * esz + j = o + (n.toNat * esz + j) by omega]; exact hc _ (by omega)
    ·by_cases hj : j < esz
     ·rw [← flat_getD h4 hz hj]; exact hr _
     ·rw [getD_of_ge _ _ (by omega)]; exact .any _
   ·simp at h
  ·simp at h
 ·rename_i esz k off n clip
  split at h
  ·rename_i kk m
   have := hy.inv_v; subst this
   split at h
   ·rename_i hc
    obtain ⟨rfl, h0, h1⟩ := hc
    cases h
    rcases hx.inv_view with ⟨a, rfl, rfl⟩ | ⟨b, cap, c, t', fr, rfl, hη, hb, hsz, hn, hm, hcl⟩
    ·omega
    ·exact ⟨_, indexAt_slice hu hs h0 h1, .ptr hη hb⟩
   ·simp at h
  ·simp at h
 ·simp at h
theorem iaddrA_fine {t e : TypeId} {n s : Nat} {x y : Value} {lx ly l : L} (hu : P.underlying t = some (.array n e)) (hs : szOf P e = some s) (hx : Rel S w η x lx) (hy : Rel S w η y ly) (h : iaddrAL n s ly lx = some l) :
  ∃ v, (Instr.indexAt t x y).run P w = .ok v w ∧ Rel S w η v l := by
 unfold iaddrAL at h
 split at h
 ·split at h
  ·rename_i kk m
   have := hy.inv_v; subst this
   split at h
   ·rename_i hc
    cases h
    obtain ⟨b, rfl, hη, c0, t0, fr0, hb0⟩ := hx.inv_ptr
    exact ⟨_, indexAt_array hu hs hc.1 hc.2, .ptr hη hb0⟩
   ·simp at h
  ·simp at h
 ·rename_i ls
  split at h
  ·rename_i kk m
   have := hy.inv_v; subst this
   split at h
   ·rename_i hc
    cases h
    obtain ⟨b, o, cs, rfl, hS, hc', hr⟩ := hx.inv_pp
    refine ⟨_, indexAt_array hu hs hc.1 hc.2, .pp (fun j => cs (m.toNat * s + j)) (fun h => hS (by simp at h; omega)) (fun j hj => ?_) (fun j => ?_)⟩
    ·rw [show o + m.toNat * s + j = o + (m.toNat * s + j) by omega]; exact hc' _ (by simp at hj; omega)
    ·have := hr (m.toNat * s + j)
     simp only [List.getD, List.getElem?_drop] at this ⊢
     exact this
   ·simp at h
  ·simp at h
 ·simp at h
theorem idx_fine {t e : TypeId} {n s : Nat} {ag : Bool} {x y : Value} {lx ly l : L} (hu : P.underlying t = some (.array n e)) (hs : szOf P e = some s) (hg : isAggT P e = some ag) (hx : Rel S w η x lx) (hy : Rel S w η y ly)
  (h : idxL n s ag ly lx = some l) : ∃ v, (Instr.index t x y).run P w = .ok v w ∧ Rel S w η v l := by
 unfold idxL at h
 split at h
 ·rename_i ls
  split at h
  ·rename_i kk m
   have := hy.inv_v; subst this
   split at h
   ·rename_i hc
    obtain ⟨h0, h1⟩ := hc
    obtain ⟨cs, rfl, hz, hr⟩ := hx.inv_agg
    cases ag with
    | true =>
     simp at h
     obtain ⟨h2, rfl⟩ := h
     refine ⟨.agg (cs.extract (m.toNat * s) (m.toNat * s + s)), by simp only [Instr.index, asIntOf, Sem.run_bind, Sem.run_pure, Result.andThen_ok, run_underlying hu]; simp [h0, h1, run_sz hs, part, run_agg hg], .agg (by simp; omega) fun j => ?_⟩
     by_cases hj : j < s
     ·rw [getD_dropTake _ _ _ _ hj]
      have := hr (m.toNat * s + j)
      simpa [Array.getD_eq_getD_getElem?, Array.getElem?_extract, show j < min (m.toNat * s + s) cs.size - m.toNat * s by omega, show m.toNat * s + j < cs.size by omega] using this
     ·rw [getD_of_ge _ _ (by simp; omega)]; exact .any _
    | false =>
     simp at h
     obtain ⟨hlt, h⟩ := List.getElem?_eq_some_iff.1 h
     have hc : cs[m.toNat * s]? = some (cs.getD (m.toNat * s) undef) := by simp [Array.getD, show m.toNat * s < cs.size by omega]
     refine ⟨cs.getD (m.toNat * s) undef, by simp only [Instr.index, asIntOf, Sem.run_bind, Sem.run_pure, Result.andThen_ok, run_underlying hu, if_pos (And.intro h0 h1), run_sz hs, part, run_agg hg, hc, Bool.false_eq_true, if_false], ?_⟩
     have := hr (m.toNat * s)
     rw [getD_of_lt _ _ hlt, h] at this
     exact this
   ·simp at h
  ·simp at h
 ·simp at h
theorem len_slice {t ty e : TypeId} (hu : P.underlying t = some (.slice e)) (a : Option Addr) (n c : Nat) : (Builtin.len_ #[t] ty #[.slice a n c]).run P w = .ok (.int .i64 n) w := by
 simp [Builtin.len_, run_underlying hu, goInt]
theorem len_fine {t ty : TypeId} {str : Bool} {x : Value} {lx l : L} (hu : (str = false → ∃ e, P.underlying t = some (.slice e)) ∧ (str = true → P.underlying t = some .string)) (hx : Rel S w η x lx) (h : lenL str lx = some l) :
  ∃ v, (Builtin.len_ #[t] ty #[x]).run P w = .ok v w ∧ Rel S w η v l := by
 unfold lenL at h
 split at h
 ·split at h <;> cases h
  obtain ⟨e, hu⟩ := hu.1 ‹_›
  obtain ⟨a, cap, rfl, -⟩ := hx.inv_sl
  exact ⟨_, len_slice hu _ _ _, .v _⟩
 ·split at h <;> cases h
  obtain ⟨e, hu⟩ := hu.1 ‹_›
  rcases hx.inv_view with ⟨a, rfl, rfl⟩ | ⟨b, cap, c, t', fr, rfl, -⟩
  ·exact ⟨_, len_slice hu _ _ _, .v _⟩
  ·exact ⟨_, len_slice hu _ _ _, .v _⟩
 ·split at h <;> cases h
  obtain ⟨e, hu⟩ := hu.1 ‹_›
  have := hx.inv_v; subst this
  exact ⟨_, len_slice hu _ _ _, .v _⟩
 ·split at h <;> cases h
  have := hx.inv_v; subst this
  exact ⟨_, by simp [Builtin.len_, run_underlying (hu.2 ‹_›), goInt], .v _⟩
 ·simp at h
end
end Lg


/- Soundness of slice expressions, of new rows, of appends. -/
namespace Lg
open Go
section
variable {P : Program} {η : List Nat} {S : Nat → Prop} {w : World} {H : Heap} {a : Act} {E : Env}
def ORel (S : Nat → Prop) (w : World) (η : List Nat) : Option Value → Option L → Prop
 | none, none => True
 | some v, some l => Rel S w η v l
 | _, _ => False
theorem bound_run {k : IntKind} {i : Int} {y : Nat} {code : BoundsCode} (h0 : 0 ≤ i) (h1 : i ≤ (y : Int)) : (Instr.sliceBound (.int k i) y code).run P w = .ok i.toNat w := by
 simp [Instr.sliceBound, asIntOf, h0, h1]
theorem ORel.int {o : Option Value} {k : IntKind} {n : Int} (h : ORel S w η o (some (.v (.int k n)))) : o = some (.int k n) := by
 cases o with
 | none => exact h.elim
 | some v => have : Rel S w η v _ := h; rw [this.inv_v]
theorem ORel.none {o : Option Value} (h : ORel S w η o none) : o = none := by
 cases o with
 | none => rfl
 | some v => exact h.elim
theorem bnds_run {isS clip : Bool} {len cap : Nat} {lo hi mx : Option Value} {llo lhi lmx : Option L} {l h : Nat} {cl : Bool} (hlo : ORel S w η lo llo) (hhi : ORel S w η hi lhi) (hmx : ORel S w η mx lmx)
  (hm : lmx.isSome = true → lhi.isSome = true) (hc : len ≤ cap) (hcl : clip = true → cap = len) (hb : bnds len clip llo lhi lmx = some (l, h, cl)) :
  ∃ m, (Instr.sliceBounds isS len cap lo hi mx).run P w = .ok (l, h, m) w ∧ l ≤ h ∧ h ≤ len ∧ h ≤ m ∧ m ≤ cap ∧ (cl = true → m = h) := by
 unfold bnds at hb
 simp only at hb
 split at hb
 ·rename_i l' h' e1 e2 e3
  split at hb
  ·rename_i hle
   simp only [Option.some.injEq, Prod.mk.injEq] at hb
   obtain ⟨rfl, rfl, rfl⟩ := hb
   have hmx' : lmx = none := by
    cases lmx with
    | none => rfl
    | some y =>
     cases y with
     | v x => cases x <;> simp at e3
     | _ => simp at e3
   subst hmx'
   have := hmx.none; subst this
   have hH : (h' ≤ len) ∧ (∀ code, (match hi with | some v => Instr.sliceBound v cap code | none => pure len : Sem Nat).run P w = .ok h' w) := by
    cases lhi with
    | none => have := hhi.none; subst this; simp at e2; subst e2; exact ⟨Nat.le_refl _, fun _ => by simp⟩
    | some y =>
     cases y with
     | v x =>
      cases x <;> simp at e2
      rename_i k n
      obtain ⟨⟨q1, q2⟩, rfl⟩ := e2
      have := hhi.int; subst this
      exact ⟨by omega, fun _ => bound_run q1 (by omega)⟩
     | _ => simp at e2
   have hL : ∀ code, (match lo with | some v => Instr.sliceBound v h' code | none => pure 0 : Sem Nat).run P w = .ok l' w := by
    cases llo with
    | none => have := hlo.none; subst this; simp at e1; subst e1; exact fun _ => by simp
    | some y =>
     cases y with
     | v x =>
      cases x <;> simp at e1
      rename_i k n
      obtain ⟨q1, rfl⟩ := e1
      have := hlo.int; subst this
      exact fun _ => bound_run q1 (by omega)
     | _ => simp at e1
   refine ⟨cap, ?_, hle, hH.1, by omega, Nat.le_refl _, fun e => ?_⟩
   ·have h2 := hH.2 (if isS then .sliceAcap else .sliceAlen)
    have h3 := hL .sliceB
    unfold Instr.sliceBounds
    cases hi <;> cases lo <;> simp_all [Sem.run_bind]
   ·split at e
    ·rename_i e4; rw [hcl e, e4]
    ·simp at e
  ·simp at hb
 ·rename_i l' h' m' e1 e2 e3
  split at hb
  ·rename_i hle
   obtain ⟨hle, hle2⟩ := hle
   simp only [Option.some.injEq, Prod.mk.injEq] at hb
   obtain ⟨rfl, rfl, rfl⟩ := hb
   have hM : ∃ k n, lmx = some (.v (.int k n)) ∧ 0 ≤ n ∧ n ≤ (len : Int) ∧ n.toNat = m' := by
    cases lmx with
    | none => simp at e3
    | some y =>
     cases y with
     | v x =>
      cases x <;> simp at e3
      rename_i k n
      obtain ⟨⟨q1, q2⟩, rfl⟩ := e3
      exact ⟨k, n, rfl, q1, q2, rfl⟩
     | _ => simp at e3
   obtain ⟨k, n, rfl, q1, q2, rfl⟩ := hM
   have := hmx.int; subst this
   have hN : ∃ k' n', lhi = some (.v (.int k' n')) ∧ 0 ≤ n' ∧ n' ≤ (len : Int) ∧ n'.toNat = h' := by
    cases lhi with
    | none => simp at hm
    | some y =>
     cases y with
     | v x =>
      cases x <;> simp at e2
      rename_i k n
      obtain ⟨⟨q1, q2⟩, rfl⟩ := e2
      exact ⟨k, n, rfl, q1, q2, rfl⟩
     | _ => simp at e2
   obtain ⟨k', n', rfl, q3, q4, rfl⟩ := hN
   have := hhi.int; subst this
   have hL : ∀ code, (match lo with | some v => Instr.sliceBound v n'.toNat code | none => pure 0 : Sem Nat).run P w = .ok l' w := by
    cases llo with
    | none => have := hlo.none; subst this; simp at e1; subst e1; exact fun _ => by simp
    | some y =>
     cases y with
     | v x =>
      cases x <;> simp at e1
      rename_i k n
      obtain ⟨q1, rfl⟩ := e1
      have := hlo.int; subst this
      exact fun _ => bound_run q1 (by omega)
     | _ => simp at e1
   refine ⟨n.toNat, ?_, hle, by omega, hle2, by omega, fun e => ?_⟩
   ·have h3 := hL .slice3C
    unfold Instr.sliceBounds
    simp only [Sem.run_bind, bound_run q1 (show n ≤ (cap : Int) by omega), Result.andThen_ok, bound_run q3 (show n' ≤ ((n.toNat : Nat) : Int) by omega)]
    cases lo <;> simp_all
   ·split at e
    ·assumption
    ·simp at e
  ·simp at hb
 ·simp at hb
theorem flat_dropTake {esz : Nat} {xs : List L} (h : ∀ y ∈ xs, y.cells.length = esz ∧ (esz = 1 → y.cells = [y])) (l k j : Nat) (hk : k ≤ xs.length) (hj : j < (k - l) * esz) :
  (flat esz ((xs.take k).drop l)).getD j .any = (flat esz xs).getD (l * esz + j) .any := by
 have h0 : 0 < esz := Nat.pos_of_mul_pos_left (by omega : 0 < (k - l) * esz)
 have hi : j / esz < k - l := Nat.div_lt_of_lt_mul (by rw [Nat.mul_comm]; exact hj)
 have hmod := Nat.mod_lt j h0
 have hdiv : j / esz * esz + j % esz = j := by rw [Nat.mul_comm]; exact Nat.div_add_mod j esz
 generalize j / esz = i at hi hdiv
 generalize j % esz = q at hmod hdiv
 have hx : xs[l + i]? = some (xs[l + i]'(by omega)) := List.getElem?_eq_getElem _
 have hx2 : ((xs.take k).drop l)[i]? = some (xs[l + i]'(by omega)) := by
  rw [List.getElem?_drop, List.getElem?_take, if_pos (by omega)]; exact hx
 have e1 := flat_getD h hx hmod
 have e2 := flat_getD (xs := (xs.take k).drop l) (fun y hy => h y (List.mem_of_mem_take (List.mem_of_mem_drop hy))) hx2 hmod
 rw [hdiv] at e2
 rw [e2, ← e1, Nat.add_mul, Nat.add_assoc, hdiv]
theorem slice_fine {t e : TypeId} {s : Nat} {x : Value} {lo hi mx : Option Value} {lx : L} {llo lhi lmx : Option L} {r : L} (hu : P.underlying t = some (.slice e)) (hs : szOf P e = some s) (h0 : s ≠ 0) (hx : Rel S w η x lx)
  (hlo : ORel S w η lo llo) (hhi : ORel S w η hi lhi) (hmx : ORel S w η mx lmx) (hm : lmx.isSome = true → lhi.isSome = true) (h : sliceL s llo lhi lmx lx = some r) :
  ∃ v, (Instr.sliceAt t x lo hi mx).run P w = .ok v w ∧ Rel S w η v r := by
 have hrun : ∀ (ad : Option Addr) len cap l k m, (Instr.sliceBounds true len cap lo hi mx).run P w = .ok (l, k, m) w →
   (Instr.sliceAt t (.slice ad len cap) lo hi mx).run P w = .ok (.slice (if m = l then ad else ad.map (·.add (l * s))) (k - l) (m - l)) w := fun ad len cap l k m hb => by
  simp only [Instr.sliceAt, Sem.run_bind, run_underlying hu, Result.andThen_ok, Instr.slice, hb, run_sz hs, Sem.run_pure]
 unfold sliceL at h
 split at h
 ·rename_i esz clip xs
  split at h
  ·rename_i he; subst he
   simp only [Option.map_eq_some_iff] at h
   obtain ⟨⟨l, k, cl⟩, hb, rfl⟩ := h
   obtain ⟨ad, cap, rfl, h1, h2, h3, h4, h5⟩ := hx.inv_sl
   obtain ⟨m, hm1, hm2, hm3, hm4, hm5, hm6⟩ := bnds_run (P := P) (isS := true) hlo hhi hmx hm h1 h3 hb
   refine ⟨_, hrun ad _ _ l k m hm1, ?_⟩
   have hlen : ((xs.take k).drop l).length = k - l := by simp; omega
   by_cases hz : k - l = 0
   ·have hnil : (xs.take k).drop l = [] := List.eq_nil_of_length_eq_zero (by omega)
    simp only [hnil, hz]
    exact .sl0 (fun e => by have := hm6 e; omega) (by omega)
   ·obtain ⟨b, o, cs, rfl, hS, hc, hr⟩ := h5 (by omega)
    have hml : m ≠ l := by omega
    simp only [hml, if_false, Option.map_some, Addr.add_lit]
    rw [← hlen]
    have hmul : l * esz + (k - l) * esz ≤ xs.length * esz := by rw [← Nat.add_mul]; exact Nat.mul_le_mul_right _ (by omega)
    refine .sl (fun j => cs (l * esz + j)) (by omega) (by omega) (fun e => by have := hm6 e; omega) (fun y hy => h4 y (List.mem_of_mem_take (List.mem_of_mem_drop hy)))
     (fun hp => hS (by rw [hlen] at hp; omega)) (fun j hj => ?_) (fun j => ?_)
    ·rw [hlen] at hj
     rw [show o + l * esz + j = o + (l * esz + j) by omega]; exact hc _ (by omega)
    ·by_cases hj : j < (k - l) * esz
     ·rw [flat_dropTake h4 l k j (by omega) hj]; exact hr _
     ·rw [getD_of_ge _ _ (by rw [flat_length (fun y hy => h4 y (List.mem_of_mem_take (List.mem_of_mem_drop hy))), hlen]; omega)]; exact .any _
  ·simp at h
 ·rename_i esz kk off n clip
  split at h
  ·rename_i he; subst he
   simp only [Option.map_eq_some_iff] at h
   obtain ⟨⟨l, k, cl⟩, hb, rfl⟩ := h
   rcases hx.inv_view with ⟨ad, rfl, rfl⟩ | ⟨b, cap, c, t', fr, rfl, hη, hb', hsz, hn, hmm, hcl⟩
   ·obtain ⟨m, hm1, hm2, hm3, hm4, hm5, hm6⟩ := bnds_run (P := P) (isS := true) hlo hhi hmx hm (Nat.le_refl 0) (fun _ => rfl) hb
    refine ⟨_, hrun ad _ _ l k m hm1, ?_⟩
    have : k - l = 0 := by omega
    have e2 : m - l = 0 := by omega
    simp only [this, e2]
    exact .view0
   ·obtain ⟨m, hm1, hm2, hm3, hm4, hm5, hm6⟩ := bnds_run (P := P) (isS := true) hlo hhi hmx hm hn hcl hb
    refine ⟨_, hrun _ _ _ l k m hm1, ?_⟩
    by_cases hml : m = l
    ·have e1 : k - l = 0 := by omega
     have e2 : m - l = 0 := by omega
     simp only [e1, e2]
     exact .view0
    ·simp only [hml, if_false, Option.map_some, Addr.add_lit]
     refine .view hη hb' ?_ (by omega) (by omega) (fun e => by have := hm6 e; omega)
     have : off + l * esz + (m - l) * esz = off + m * esz := by rw [Nat.add_assoc, ← Nat.add_mul]; congr 2; omega
     have h6 := Nat.mul_le_mul_right esz hm5
     omega
  ·simp at h
 ·simp only [Option.map_eq_some_iff] at h
  obtain ⟨⟨l, k, cl⟩, hb, rfl⟩ := h
  have := hx.inv_v; subst this
  obtain ⟨m, hm1, hm2, hm3, hm4, hm5, hm6⟩ := bnds_run (P := P) (isS := true) hlo hhi hmx hm (Nat.le_refl 0) (fun _ => rfl) hb
  refine ⟨_, hrun none _ _ l k m hm1, ?_⟩
  have e1 : k - l = 0 := by omega
  have e2 : m - l = 0 := by omega
  simp only [e1, e2]
  exact .sl0 (fun _ => rfl) (by simp [maxLen])
 ·simp at h
end
end Lg


/- Soundness of what makes memory: arrays' slices, make, append, copy, literals. -/
namespace Lg
open Go
section
variable {P : Program} {η : List Nat} {S : Nat → Prop} {w : World} {H : Heap} {a : Act} {E : Env}
theorem sliceA_fine {t e : TypeId} {n s : Nat} {x : Value} {lo hi mx : Option Value} {lx : L} {llo lhi lmx : Option L} {r : L} (hC : Conc η S w H) (hu : P.underlying t = some (.array n e)) (hs : szOf P e = some s) (hx : Rel S w η x lx)
  (hlo : ORel S w η lo llo) (hhi : ORel S w η hi lhi) (hmx : ORel S w η mx lmx) (hm : lmx.isSome = true → lhi.isSome = true) (h : sliceAL n s llo lhi lmx H lx = some r) :
  ∃ v, (Instr.sliceAt t x lo hi mx).run P w = .ok v w ∧ Rel S w η v r := by
 unfold sliceAL at h
 split at h
 ·rename_i k off
  obtain ⟨b, rfl, hη, c0, t0, fr0, hb0⟩ := hx.inv_ptr
  split at h
  ·rename_i cs hl
   obtain ⟨c, ty, fr, q1, q2, q3, q4⟩ := hC.live hb0 hη (live_iff.1 hl)
   split at h
   ·rename_i hc
    simp only [Option.map_eq_some_iff] at h
    obtain ⟨⟨l, k', cl⟩, hb, rfl⟩ := h
    obtain ⟨m, hm1, hm2, hm3, hm4, hm5, hm6⟩ := bnds_run (P := P) (isS := false) hlo hhi hmx hm (Nat.le_refl n) (fun _ => rfl) hb
    refine ⟨.slice (some (if m = l then ⟨b, off, none⟩ else ⟨b, off + l * s, none⟩)) (k' - l) (m - l), ?_, ?_⟩
    ·simp only [Instr.sliceAt, Sem.run_bind, run_underlying hu, Result.andThen_ok, Instr.sureAddr, Sem.run_pure, hm1, run_sz hs, Addr.add_lit]
    ·by_cases hml : m = l
     ·have e1 : k' - l = 0 := by omega
      have e2 : m - l = 0 := by omega
      simp only [e1, e2]
      exact .view0
     ·simp only [hml, if_false]
      refine .view hη q1 ?_ (by omega) (by simp only [maxLen]; omega) (fun e => by have := hm6 e; omega)
      have : off + l * s + (m - l) * s = off + m * s := by rw [Nat.add_assoc, ← Nat.add_mul]; congr 2; omega
      have h6 := Nat.mul_le_mul_right s hm5
      omega
   ·simp at h
  ·simp at h
 ·simp at h
theorem zero_cells (z : Value) : (ofV z).cells.length = z.cells.size ∧ ∀ j, Rel S w η (z.cells.getD j undef) ((ofV z).cells.getD j .any) := by
  cases z <;> first
    | (refine ⟨rfl, fun j => ?_⟩
       cases j with
       | zero => exact .v _
       | succ j => exact .any _)
    | skip
  rename_i cs
  refine ⟨by simp [ofV, L.cells, Value.cells], fun j => ?_⟩
  obtain ⟨cs', h1, h2, h3⟩ := (rel_ofV (S := S) (w := w) (η := η) (.agg cs)).inv_agg
  cases h1
  exact h3 j
theorem zeros_getD {s : Nat} {z : List L} (hz : z.length = s) : ∀ (n j : Nat), j < n * s → (zeros n z).getD j .any = z.getD (j % s) .any
 | 0, j, h => by simp at h
 | n + 1, j, h => by
  have : zeros (n + 1) z = z ++ zeros n z := by simp [zeros, List.replicate_succ]
  rw [this]
  simp only [List.getD]
  by_cases hj : j < s
  ·rw [List.getElem?_append_left (by omega), Nat.mod_eq_of_lt hj]
  ·rw [List.getElem?_append_right (by omega), hz]
   have := zeros_getD hz n (j - s) (by rw [Nat.succ_mul] at h; omega)
   simp only [List.getD] at this
   rw [this, ← Nat.mod_eq_sub_mod (by omega)]
theorem zeros_length {s : Nat} {z : List L} (hz : z.length = s) (n : Nat) : (zeros n z).length = n * s := by
 simp [zeros, hz]
theorem rel_zeros {zc : Array Value} {z : List L} (hl : z.length = zc.size) (hz : ∀ j, Rel S w η (zc.getD j undef) (z.getD j .any)) (n : Nat) (j : Nat) (hj : j < n * zc.size) :
  Rel S w η (((Array.range (n * zc.size)).map (zc[· % zc.size]!)).getD j undef) ((zeros n z).getD j .any) := by
 rw [zeros_getD hl n j hj]
 have h0 : 0 < zc.size := Nat.pos_of_mul_pos_left (by omega : 0 < n * zc.size)
 have := hz (j % zc.size)
 have hlt := Nat.mod_lt j h0
 rw [agetD_of_lt _ _ (by simp; exact hj)]
 rw [agetD_of_lt _ _ hlt] at this
 simpa [getElem!_pos, hlt] using this
theorem wrap_id {n : Int} (h0 : 0 ≤ n) (h1 : n ≤ 9223372036854775807) : IntKind.i64.wrap n = n := IntWalk.i64_in n ⟨by omega, by omega⟩
theorem mksl_fine {t e : TypeId} {i : TypeInfo} {z : Value} {x y : Value} {lx ly l : L} {H' : Heap} (hC : Conc η S w H) (hu : P.underlying t = some (.slice e)) (hi : P.info? e = some i) (hz : i.zero = some z) (hz2 : z.cells.size = i.size)
  (hx : Rel S w η x lx) (hy : Rel S w η y ly) (h : mkslL i.size i.bytes (ofV z).cells lx ly H = some (l, H')) :
  ∃ v w' η', (Instr.makeSlice t x y).run P w = .ok v w' ∧ Rel S w' η' v l ∧ Conc η' S w' H' ∧ Le η S w η' S w' ∧ ∃ cells : Array Value, w' = { w with heap := w.heap.push (.cells cells e) } ∧ η' = η ++ [w.heap.size] := by
 unfold mkslL at h
 split at h
 ·rename_i n c
  have := hx.inv_v; subst this
  have := hy.inv_v; subst this
  split at h
  ·rename_i hc
   obtain ⟨h0, h1, h2, h3⟩ := hc
   cases h
   have hw1 := wrap_id h0 (by omega)
   have hw2 := wrap_id (n := c) (by omega) h3
   have hb : (i.bytes : Int) * c ≤ 281474976710656 := by rw [Int.mul_comm]; exact h2
   have hb2 : (i.bytes : Int) * n ≤ 281474976710656 := Int.le_trans (Int.mul_le_mul_of_nonneg_left h1 (by omega)) hb
   obtain ⟨zl, zr⟩ := zero_cells (S := S) (w := w) (η := η) z
   have hsz : (Go.sizeOf e).run P w = .ok i.size w := by simp [Go.sizeOf, run_info hi]
   let cells : Array Value := (Array.range (c.toNat * z.cells.size)).map (z.cells[· % z.cells.size]!)
   have hrun : (Instr.makeSlice t (.int .i64 n) (.int .i64 c)).run P w = .ok (.slice (some ⟨w.heap.size, 0, none⟩) n.toNat c.toNat) { w with heap := w.heap.push (.cells cells e) } := by
    have ht : ¬ (c < 0) := by omega
    have ht2 : ¬ (n < 0) := by omega
    have ht3 : ¬ ((i.bytes : Int) * c > 2 ^ 48) := by rw [show ((2 : Int) ^ 48) = 281474976710656 from by decide]; omega
    simp only [Instr.makeSlice, Sem.run_bind, run_underlying hu, Result.andThen_ok, asInt, asIntOf, Sem.run_pure, run_info hi, hw1, hw2, ht, ht2, ht3, decide_false, Bool.or_self, Bool.or_false, Bool.false_or,
     show ¬ (n > c) by omega, Bool.false_eq_true, if_false, run_askRoom, hsz, newRow]
    by_cases hn : c.toNat * i.size = 0
    ·rw [if_pos hn]
     simp [hn, cells, hz2, Array.range_zero']
    ·rw [if_neg hn]
     simp only [Sem.run_bind, run_zero hi hz, Result.andThen_ok, Sem.run_pure, run_newObj]
     simp [cells, hz2]
   obtain ⟨p1, p2⟩ := hC.push cells e (zeros c.toNat (ofV z).cells) (by simp [cells, zeros_length zl]) (fun j hj => rel_zeros zl zr c.toNat j (by rw [zeros_length zl] at hj; exact hj)) (w' := { w with heap := w.heap.push (.cells cells e) }) rfl rfl rfl rfl
   refine ⟨_, _, _, hrun, ?_, p1, p2, cells, rfl, rfl⟩
   rw [← hC.len]
   refine .view (b := w.heap.size) (by simp) (c := cells) (t := e) (fr := (0, 0)) (by simp) (by simp [cells, hz2]) (by omega) (by simp only [maxLen]; omega) (fun e => by have := of_decide_eq_true e; rw [this])
  ·simp at h
 ·simp at h
theorem lcells_cs {esz : Nat} {y : Value} {ly : L} {ys : List L} (hC : Conc η S w H) (hy : Rel S w η y ly) (h : lcells esz H ly = some ys) :
  ∃ ad m cap, y = .slice ad m cap ∧ ys.length = m * esz ∧ ∃ cs : Nat → Value, (∀ k, k ≤ m → ∀ w' : World, w'.heap = w.heap → (Builtin.firstCells esz k y).run P w' = .ok ((List.range (k * esz)).map cs).toArray w') ∧
   ∀ j, j < ys.length → Rel S w η (cs j) (ys.getD j .any) := by
 have cellsRun : ∀ b o m cap (cs : Nat → Value), (∀ j, j < m * esz → w.cell? ⟨b, o + j, none⟩ = some (cs j)) → ∀ k, k ≤ m → ∀ w' : World, w'.heap = w.heap →
   (Builtin.firstCells esz k (.slice (some ⟨b, o, none⟩) m cap)).run P w' = .ok ((List.range (k * esz)).map cs).toArray w' := fun b o m cap cs hc k hk w' hw => by
  have := Nat.mul_le_mul_right esz hk
  simp only [Builtin.firstCells]
  exact run_loadCells (P := P) w' ⟨b, o, none⟩ (k * esz) cs (fun j hj => by rw [Addr.add_lit, cell?_of_block (w := w) (by rw [hw])]; exact hc j (by omega))
 have nilRun : ∀ ad cap (cs : Nat → Value), ∀ k, k ≤ 0 → ∀ w' : World, w'.heap = w.heap → (Builtin.firstCells esz k (.slice ad 0 cap)).run P w' = .ok ((List.range (k * esz)).map cs).toArray w' := fun ad cap cs k hk w' _ => by
  obtain rfl : k = 0 := by omega
  cases ad with
  | none => simp [Builtin.firstCells]
  | some ad =>
   simp only [Builtin.firstCells, Nat.zero_mul]
   exact (run_loadCells (P := P) w' ad 0 cs (fun j hj => by omega))
 unfold lcells at h
 split at h
 ·rename_i e clip xs
  split at h
  ·rename_i he; subst he
   cases h
   obtain ⟨ad, cap, rfl, h1, h2, h3, h4, h5⟩ := hy.inv_sl
   have hfl := flat_length h4
   by_cases hz : xs.length = 0
   ·have : xs = [] := List.eq_nil_of_length_eq_zero hz
    subst this
    refine ⟨ad, 0, cap, rfl, by simpa using hfl, fun _ => undef, nilRun ad cap _, fun j hj => by simp at hfl; simp [hfl] at hj⟩
   ·obtain ⟨b, o, cs, rfl, hS, hc, hr⟩ := h5 (by omega)
    exact ⟨_, _, _, rfl, hfl, cs, cellsRun b o _ cap cs hc, fun j hj => (hr j).nil⟩
  ·simp at h
 ·cases h
  have := hy.inv_v; subst this
  exact ⟨none, 0, 0, rfl, by simp, fun _ => undef, nilRun none 0 _, fun j hj => by simp at hj⟩
 ·rename_i e k off n clip
  split at h
  ·rename_i he; subst he
   split at h
   ·rename_i cs hl
    split at h
    ·rename_i hle
     cases h
     rcases hy.inv_view with ⟨ad, rfl, rfl⟩ | ⟨b, cap, c, t', fr, rfl, hη, hb, hsz, hn, hmm, hcl⟩
     ·exact ⟨ad, 0, 0, rfl, by simp, fun _ => undef, nilRun ad 0 _, fun j hj => by simp at hj⟩
     ·obtain ⟨c', ty, fr', q1, q2, q3, q4⟩ := hC.live hb hη (live_iff.1 hl)
      have hlen : ((cs.drop off).take (n * e)).length = n * e := by simp; omega
      refine ⟨_, _, _, rfl, hlen, fun j => c'.getD (off + j) undef, cellsRun b off n cap _ (fun j hj => cell_of q1 (by omega)), fun j hj => ?_⟩
      rw [hlen] at hj
      rw [getD_dropTake _ _ _ _ hj]
      exact q4 (off + j) (by omega)
    ·simp at h
   ·simp at h
  ·simp at h
 ·simp at h
theorem lcells_reads {esz : Nat} {y : Value} {ly : L} {ys : List L} (hC : Conc η S w H) (hy : Rel S w η y ly) (h : lcells esz H ly = some ys) :
  ∃ ad m cap, y = .slice ad m cap ∧ ys.length = m * esz ∧ ∃ new : Array Value, new.size = ys.length ∧ (∀ w' : World, w'.heap = w.heap → (Builtin.firstCells esz m y).run P w' = .ok new w') ∧ ∀ j, j < ys.length → Rel S w η (new.getD j undef) (ys.getD j .any) := by
 obtain ⟨ad, m, cap, h1, h2, cs, h3, h4⟩ := lcells_cs (P := P) hC hy h
 refine ⟨ad, m, cap, h1, h2, _, by simp [h2], h3 m (Nat.le_refl _), fun j hj => ?_⟩
 rw [agetD_of_lt _ _ (by simp; omega)]
 simpa using h4 j hj
theorem toBytes_spec : ∀ {ys : List L} {bs : List UInt8} {l : List Value}, toBytes ys = some bs → l.length = ys.length → (∀ j, j < ys.length → Rel S w η (l.getD j undef) (ys.getD j .any)) →
  ∃ ns : List Int, l = ns.map (Value.int .u8) ∧ bs = ns.map fun n => UInt8.ofNat n.toNat
 | [], bs, l, h, hl, _ => by
  simp [toBytes] at h; subst h
  exact ⟨[], List.eq_nil_of_length_eq_zero (by simpa using hl), rfl⟩
 | y :: ys, bs, [], h, hl, _ => by simp at hl
 | y :: ys, bs, x :: l, h, hl, hr => by
  have h0 := hr 0 (by simp)
  simp only [List.getD_cons_zero] at h0
  unfold toBytes at h
  split at h
  ·rename_i e; cases e
  ·rename_i n ls e
   cases e
   obtain rfl := h0.inv_v
   simp only [Option.map_eq_some_iff] at h
   obtain ⟨bs', h1, rfl⟩ := h
   obtain ⟨ns, e1, e2⟩ := toBytes_spec h1 (l := l) (by simpa using hl) (fun j hj => by simpa using hr (j + 1) (by simpa using hj))
   exact ⟨n :: ns, by simp [e1], by simp [e2]⟩
  ·simp at h
theorem b2s_fine {x : Value} {lx : L} {ys : List L} {bs : List UInt8} (hC : Conc η S w H) (hx : Rel S w η x lx) (h1 : lcells 1 H lx = some ys) (h2 : toBytes ys = some bs) :
  (Conv.bytesToString x).run P w = .ok (.string ⟨bs.toArray⟩) w := by
 obtain ⟨ad, m, cap, rfl, hlen, new, hsz, hrun, hrel⟩ := lcells_reads (P := P) hC hx h1
 obtain ⟨ns, e1, rfl⟩ := toBytes_spec h2 (l := new.toList) (by simpa using hsz) (fun j hj => by
  have := hrel j hj
  simpa [Array.getD_eq_getD_getElem?, List.getD] using this)
 have hr := hrun w rfl
 obtain rfl : new = (ns.map (Value.int .u8)).toArray := by rw [← e1]
 cases ad with
 | none =>
  simp [Builtin.firstCells] at hr
  subst hr
  simp [Conv.bytesToString]
  rfl
 | some a =>
  simp only [Builtin.firstCells, Nat.mul_one] at hr
  simp only [Conv.bytesToString, Sem.run_bind, hr, Result.andThen_ok]
  rw [List.forIn_toArray]
  have key : ∀ (g : Value → ByteArray → Sem (ForInStep ByteArray)), (∀ n acc, (g (.int .u8 n) acc).run P w = .ok (.yield (acc.push (UInt8.ofNat n.toNat))) w) →
    ∀ (ns : List Int) (acc : ByteArray), Sem.run P (forIn (ns.map (Value.int IntKind.u8)) acc g) w = .ok ⟨acc.data ++ (ns.map fun n => UInt8.ofNat n.toNat).toArray⟩ w := by
   intro g hg ns
   induction ns with
   | nil => intro acc; simp
   | cons n ns ih =>
    intro acc
    simp only [List.map_cons, List.forIn_cons, Sem.run_bind, hg, Result.andThen_ok]
    rw [ih]
    simp [ByteArray.push]
  rw [key _ (fun n acc => by simp)]
  simp [ByteArray.empty, ByteArray.emptyWithCapacity]
  rfl
theorem Conc.drop (hC : Conc η S w H) (h : Nat) : Conc η S w (H.set h none) := by
 have sub : ∀ {k : Nat} {ls : List L}, (H.set h none)[k]? = some (some ls) → H[k]? = some (some ls) := fun {k ls} e => by
  by_cases hk : k = h
  ·subst hk
   rw [List.getElem?_set] at e
   simp at e
  ·rwa [List.getElem?_set_ne (Ne.symm hk)] at e
 exact ⟨by simp [hC.len], hC.lt, hC.Slt, fun k b ls e1 e2 => ⟨(hC.apart k b ls e1 (sub e2)).1, fun k' ls' f1 f2 => (hC.apart k b ls e1 (sub e2)).2 k' ls' f1 (sub f2)⟩, fun k b ls e1 e2 => hC.liveAt k b ls e1 (sub e2)⟩
theorem Conc.again (hC : Conc η S w H) {h b : Nat} {cs : List L} (hη : η[h]? = some b) (hH : H[h]? = some (some cs)) {ls : List L} {c : Array Value} {t : TypeId} {fr : Nat × Nat}
  (q1 : w.heap[b]? = some (.cells c t fr)) (q2 : ls.length ≤ c.size) (q4 : ∀ j, j < ls.length → Rel S w η (c.getD j undef) (ls.getD j .any)) :
  Conc (η ++ [b]) S w (H.set h none ++ [some ls]) ∧ Le η S w (η ++ [b]) S w := by
 have hle : Le η S w (η ++ [b]) S w :=
  ⟨⟨[b], rfl, fun b' hb' => .inl (by simp at hb'; subst hb'; exact List.mem_of_getElem? hη)⟩, fun _ h => h, fun _ _ => rfl, fun _ c _ fr h => ⟨c, fr, h, rfl⟩, Nat.le_refl _, fun _ _ _ => rfl, fun _ h => .inl h, rfl, rfl, rfl⟩
 obtain ⟨c0, t0, fr0, r1, r2, r3, r4⟩ := hC.live q1 hη hH
 rw [q1] at r1; cases r1
 obtain ⟨p1, p2⟩ := hC.apart h b cs hη hH
 have hD := hC.drop h
 have hlen : η.length = (H.set h none).length := by simp [hC.len]
 have split : ∀ {k b' : Nat} {ls' : List L}, (η ++ [b])[k]? = some b' → (H.set h none ++ [some ls])[k]? = some (some ls') → (η[k]? = some b' ∧ (H.set h none)[k]? = some (some ls') ∧ b' ≠ b) ∨ (k = η.length ∧ b' = b ∧ ls' = ls) := fun {k b' ls'} e1 e2 => by
  by_cases hk : k < η.length
  ·rw [List.getElem?_append_left hk] at e1
   rw [List.getElem?_append_left (by omega)] at e2
   refine .inl ⟨e1, e2, fun e => ?_⟩
   subst e
   by_cases hkh : k = h
   ·subst hkh; rw [List.getElem?_set] at e2; simp at e2
   ·rw [List.getElem?_set_ne (Ne.symm hkh)] at e2; exact hkh (p2 k ls' e1 e2)
  ·rw [List.getElem?_append_right (by omega)] at e1
   rcases hm : k - η.length with _ | m
   ·simp [hm] at e1
    have : k = η.length := by omega
    subst this
    rw [List.getElem?_append_right (by omega), hlen] at e2
    simp at e2
    exact .inr ⟨rfl, e1.symm, e2.symm⟩
   ·simp [hm] at e1
 refine ⟨⟨by simp [hC.len], ?_, hC.Slt, ?_, ?_⟩, hle⟩
 ·intro b' hb'
  rcases List.mem_append.1 hb' with h' | h'
  ·exact hC.lt b' h'
  ·simp at h'; subst h'; exact hC.lt _ (List.mem_of_getElem? hη)
 ·intro k b' ls' e1 e2
  rcases split e1 e2 with ⟨f1, f2, f3⟩ | ⟨rfl, rfl, rfl⟩
  ·obtain ⟨g1, g2⟩ := hD.apart k b' ls' f1 f2
   refine ⟨g1, fun k' ls'' e3 e4 => ?_⟩
   rcases split e3 e4 with ⟨f1', f2', -⟩ | ⟨-, rfl, -⟩
   ·exact g2 k' ls'' f1' f2'
   ·exact absurd rfl f3
  ·refine ⟨p1, fun k' ls'' e3 e4 => ?_⟩
   rcases split e3 e4 with ⟨-, -, f3⟩ | ⟨rfl, -, -⟩
   ·exact absurd rfl f3
   ·rfl
 ·intro k b' ls' e1 e2
  rcases split e1 e2 with ⟨f1, f2, f3⟩ | ⟨rfl, rfl, rfl⟩
  ·exact (hD.liveAt k b' ls' f1 f2).mono rfl (fun _ _ h => h.le hle)
  ·exact .inl ⟨c, t, fr, q1, q2, r3, fun j hj => (q4 j hj).le hle⟩
end
end Lg


/- Soundness of append, copy, of literals. -/
namespace Lg
open Go
section
variable {P : Program} {η : List Nat} {S : Nat → Prop} {w : World} {H : Heap} {a : Act} {E : Env}
def storeBase (ad : Option Addr) (o : Nat) (vs : List Value) : Sem Unit :=
 match ad with
 | some a => storeCells (a.add o) vs
 | none => pure ()
theorem storeBase_nil (ad : Option Addr) (o : Nat) : (storeBase ad o []).run P w = .ok () w := by cases ad <;> rfl
theorem append_run {t u e ty : TypeId} {i : TypeInfo} {z : Value} (hu : P.underlying t = some (.slice e)) (hu2 : ∃ e', P.underlying u = some (.slice e')) (hi : P.info? e = some i) (hz : i.zero = some z) (hb : i.bytes ≠ 0)
  {ad : Option Addr} {n cap : Nat} {ad' : Option Addr} {m cap' : Nat} {old new : Array Value}
  (hold : ∀ w' : World, w'.heap = w.heap → (Builtin.firstCells i.size n (.slice ad n cap)).run P w' = .ok old w') (hnew : ∀ w' : World, w'.heap = w.heap → (Builtin.firstCells i.size m (.slice ad' m cap')).run P w' = .ok new w')
  :
  (n + m ≤ cap → (Builtin.append_ #[t, u] ty #[.slice ad n cap, .slice ad' m cap']).run P w =
   ((storeBase ad (n * i.size) new.toList).run P w).andThen fun _ w' => .ok (.slice ad (n + m) cap) w') ∧
  (cap < n + m → (n + m) * i.bytes ≤ 70368744177664 → ∃ nc, n + m ≤ nc ∧ nc ≤ maxLen ∧ (Builtin.append_ #[t, u] ty #[.slice ad n cap, .slice ad' m cap']).run P w =
   .ok (.slice (some ⟨w.heap.size, 0, none⟩) (n + m) nc) { w with drawn := w.drawn + 1, heap := w.heap.push (.cells (old ++ new ++ Builtin.zeroCells z.cells (nc - (n + m))) e) }) := by
 obtain ⟨e', hu2⟩ := hu2
 have hsz : ∀ w : World, (Go.sizeOf e).run P w = .ok i.size w := fun w => by simp [Go.sizeOf, run_info hi]
 constructor
 ·intro hle
  simp only [Builtin.append_, List.getElem?_toArray, List.getElem?_cons_zero, List.getElem?_cons_succ, Sem.run_bind, run_underlying hu, run_underlying hu2, Result.andThen_ok, hsz, Sem.run_pure, Builtin.lenOf, Bool.false_eq_true, if_false, hle, if_true,
   Bool.not_false, hnew w rfl]
  cases ad with
  | none => simp [storeBase]
  | some a => simp [storeBase]
 ·intro hlt hbytes
  have hnm : n + m ≤ 70368744177664 := Nat.le_trans (Nat.le_mul_of_pos_right _ (by omega)) hbytes
  have hg := growslice_fits hlt (Nat.le_trans hbytes (by omega))
  refine ⟨n + m + (w.tape w.drawn (.appendCap (n + m) cap e)) % (2 ^ 63 - (n + m)), by omega, ?_, ?_⟩
  ·have := Nat.mod_lt (w.tape w.drawn (.appendCap (n + m) cap e)) (show 0 < 2 ^ 63 - (n + m) by omega)
   simp only [maxLen]; omega
  ·simp only [Builtin.append_, List.getElem?_toArray, List.getElem?_cons_zero, List.getElem?_cons_succ, Sem.run_bind, run_underlying hu, run_underlying hu2, Result.andThen_ok, hsz, Sem.run_pure, Builtin.lenOf, Bool.false_eq_true, if_false,
    show ¬ (n + m ≤ cap) by omega, Bool.not_false, if_true, run_info hi, hb, or_self, and_false, show ¬ (Builtin.nextslicecap (n + m) cap * i.bytes > 2 ^ 48) by omega, run_choose, Question.forced, Question.cut, run_askRoom, hold { w with drawn := w.drawn + 1 } rfl,
    hnew { w with drawn := w.drawn + 1 } rfl, run_zero hi hz, newRow, run_newObj]
theorem setCells_behind : ∀ (ys cs : List L), setCells (cs ++ List.replicate ys.length .any) cs.length ys = cs ++ ys
 | [], cs => by simp [setCells]
 | y :: ys, cs => by
  have := setCells_behind ys (cs ++ [y])
  simp only [List.length_cons, List.replicate_succ, setCells]
  rw [List.set_append_right _ _ (Nat.le_refl _)]
  simpa using this
theorem Conc.widen (hC : Conc η S w H) {h b : Nat} {cs : List L} (hη : η[h]? = some b) (hH : H[h]? = some (some cs)) {c : Array Value} {t : TypeId} {fr : Nat × Nat} (q1 : w.heap[b]? = some (.cells c t fr)) {k : Nat} (hk : cs.length + k ≤ c.size) :
  Conc η S w (H.set h (some (cs ++ List.replicate k .any))) := by
 have hlt : h < H.length := (List.getElem?_eq_some_iff.1 hH).1
 have sub : ∀ {k' : Nat} {ls : List L}, (H.set h (some (cs ++ List.replicate k .any)))[k']? = some (some ls) → ∃ ls', H[k']? = some (some ls') := fun {k' ls} e => by
  by_cases hk : k' = h
  ·subst hk; exact ⟨cs, hH⟩
  ·rw [List.getElem?_set_ne (Ne.symm hk)] at e; exact ⟨ls, e⟩
 refine ⟨by simp [hC.len], hC.lt, hC.Slt, fun k' b' ls e1 e2 => ?_, fun k' b' ls e1 e2 => ?_⟩
 ·obtain ⟨ls', e3⟩ := sub e2
  obtain ⟨p1, p2⟩ := hC.apart k' b' ls' e1 e3
  exact ⟨p1, fun k'' ls'' f1 f2 => by obtain ⟨l3, f3⟩ := sub f2; exact p2 k'' l3 f1 f3⟩
 ·by_cases hk' : k' = h
  ·subst hk'
   rw [hη] at e1; cases e1
   rw [List.getElem?_set_self hlt] at e2
   simp at e2; subst e2
   obtain ⟨c0, t0, fr0, r1, r2, r3, r4⟩ := hC.live q1 hη hH
   rw [q1] at r1; cases r1
   refine .inl ⟨c, t, fr, q1, by simp; omega, r3, fun j hj => ?_⟩
   by_cases hj2 : j < cs.length
   ·have := r4 j hj2
    rwa [show (cs ++ List.replicate k L.any).getD j .any = cs.getD j .any from by simp [List.getD, List.getElem?_append_left hj2]]
   ·rw [show (cs ++ List.replicate k L.any).getD j .any = .any from by
     simp only [List.getD]
     rw [List.getElem?_append_right (by omega), List.getElem?_replicate]
     split <;> rfl]
    exact .any _
  ·rw [List.getElem?_set_ne (Ne.symm hk')] at e2
   exact hC.liveAt k' b' ls e1 e2
theorem append_grows {e : TypeId} {esz n m nc : Nat} {z old new : Array Value} {os ys : List L} (hC : Conc η S w H) (ho : old.size = os.length) (ho2 : os.length = n * esz) (hn : new.size = ys.length) (hn2 : ys.length = m * esz) (hz : z.size = esz)
  (ro : ∀ j, j < os.length → Rel S w η (old.getD j undef) (os.getD j .any)) (rn : ∀ j, j < ys.length → Rel S w η (new.getD j undef) (ys.getD j .any)) (h1 : n + m ≤ nc) (h2 : nc ≤ maxLen) :
  ∃ η', Rel S { w with drawn := w.drawn + 1, heap := w.heap.push (.cells (old ++ new ++ Builtin.zeroCells z (nc - (n + m))) e) } η' (.slice (some ⟨w.heap.size, 0, none⟩) (n + m) nc) (.view esz H.length 0 (n + m) false) ∧
   Conc η' S { w with drawn := w.drawn + 1, heap := w.heap.push (.cells (old ++ new ++ Builtin.zeroCells z (nc - (n + m))) e) } (H ++ [some (os ++ ys)]) ∧
   Le η S w η' S { w with drawn := w.drawn + 1, heap := w.heap.push (.cells (old ++ new ++ Builtin.zeroCells z (nc - (n + m))) e) } := by
 have hsize : (old ++ new ++ Builtin.zeroCells z (nc - (n + m))).size = nc * esz := by
  simp only [Array.size_append, ho, ho2, hn, hn2, Builtin.zeroCells, Array.size_map, Array.size_range, hz]
  rw [← Nat.add_mul, ← Nat.add_mul]; congr 1; omega
 have hle : (n + m) * esz ≤ nc * esz := Nat.mul_le_mul_right _ h1
 obtain ⟨p1, p2⟩ := hC.push (old ++ new ++ Builtin.zeroCells z (nc - (n + m))) e (os ++ ys) (by rw [hsize, List.length_append, ho2, hn2, ← Nat.add_mul]; exact hle) (fun j hj => by
  rw [List.length_append] at hj
  simp only [Array.getD_eq_getD_getElem?, List.getD]
  by_cases hj2 : j < os.length
  ·rw [Array.getElem?_append_left (by simp; omega), Array.getElem?_append_left (by omega), List.getElem?_append_left hj2]
   have := ro j hj2
   simpa [Array.getD_eq_getD_getElem?, List.getD] using this
  ·rw [Array.getElem?_append_left (by simp; omega), Array.getElem?_append_right (by omega), List.getElem?_append_right (by omega), ho]
   have := rn (j - os.length) (by omega)
   simpa [Array.getD_eq_getD_getElem?, List.getD] using this) (w' := { w with drawn := w.drawn + 1, heap := w.heap.push (.cells (old ++ new ++ Builtin.zeroCells z (nc - (n + m))) e) }) rfl rfl rfl rfl
 refine ⟨_, ?_, p1, p2⟩
 rw [← hC.len]
 exact .view (b := w.heap.size) (by simp) (c := old ++ new ++ Builtin.zeroCells z (nc - (n + m))) (t := e) (fr := (0, 0)) (by simp) (by rw [hsize]; omega) h1 h2 (by simp)
theorem append_fine {t u e ty : TypeId} {i : TypeInfo} {z : Value} {x y : Value} {lx ly l : L} {H' : Heap} (hC : Conc η S w H) (hu : P.underlying t = some (.slice e)) (hu2 : ∃ e', P.underlying u = some (.slice e')) (hi : P.info? e = some i) (hz : i.zero = some z)
  (hz2 : z.cells.size = i.size) (hb : i.bytes ≠ 0) (hs0 : i.size ≠ 0) (hx : Rel S w η x lx) (hy : Rel S w η y ly) (h : appendL i.size i.bytes lx ly H = some (l, H')) :
  ∃ v w' η', (Builtin.append_ #[t, u] ty #[x, y]).run P w = .ok v w' ∧ Rel S w' η' v l ∧ Conc η' S w' H' ∧ Le η S w η' S w' := by
 unfold appendL at h
 split at h
 ·simp at h
 rename_i ys hys
 split at h
 rotate_left
 ·simp at h
 rename_i hsol
 obtain ⟨ad', m, cap', rfl, hm, new, hn1, hn2, hn3⟩ := lcells_reads (P := P) hC hy hys
 have hdiv : ys.length / i.size = m := by rw [hm, Nat.mul_div_cancel _ (by omega)]
 have hone : ∀ v ∈ new.toList, v.oneCell' = true := fun v hv => by
  obtain ⟨j, hj, rfl⟩ := List.getElem_of_mem hv
  have hj' : j < ys.length := by simp at hj; omega
  have := hn3 j hj'
  rw [agetD_of_lt _ _ (by omega), getD_of_lt _ _ hj'] at this
  simpa using this.one (List.all_eq_true.1 hsol.2 _ (List.getElem_mem _))
 split at h
 ·-- nothing
  have := hx.inv_v; subst this
  obtain ⟨ad0, n0, cap0, e0, ho1, old, ho2, ho3, ho4⟩ := lcells_reads (P := P) (esz := i.size) (ys := []) hC hx rfl
  cases e0
  split at h
  ·cases h
   have hm0 : m = 0 := by
    rcases Nat.mul_eq_zero.1 (by omega : m * i.size = 0) with h' | h'
    ·exact h'
    ·exact absurd h' hs0
   subst hm0
   have := (append_run (P := P) (ty := ty) hu hu2 hi hz hb ho3 hn2).1 (by omega)
   exact ⟨_, w, η, by rw [this]; simp [storeBase], .v _, hC, Le.refl _ _ _⟩
  ·rename_i hne
   split at h
   ·rename_i hbd
    cases h
    have hm0 : 0 < m := Nat.pos_of_ne_zero fun e => by subst e; omega
    have hbd' : (0 + m) * i.bytes ≤ 70368744177664 := by
     rw [Nat.zero_add]
     exact Nat.le_trans (Nat.mul_le_mul_right _ (by rw [hm]; exact Nat.le_mul_of_pos_right _ (by omega))) hbd
    obtain ⟨nc, hc1, hc2, hc3⟩ := (append_run (P := P) (ty := ty) hu hu2 hi hz hb ho3 hn2).2 (by omega) hbd'
    obtain ⟨η', r1, r2, r3⟩ := append_grows (e := e) (os := []) hC ho2 (by simp) hn1 hm hz2 ho4 hn3 hc1 hc2
    rw [hdiv]
    refine ⟨_, _, η', hc3, ?_, by simpa using r2, r3⟩
    simpa using r1
   ·simp at h
 ·rename_i ee xs
  split at h
  rotate_left
  ·simp at h
  rename_i he; subst he
  obtain ⟨ad0, n0, cap0, rfl, ho1, old, ho2, ho3, ho4⟩ := lcells_reads (P := P) (esz := i.size) (ys := flat i.size xs) hC hx (by simp [lcells])
  obtain ⟨ad1, cap1, e1, hx1, hx2, hx3, hx4, hx5⟩ := hx.inv_sl
  cases e1
  have hcap := hx3 rfl
  split at h
  ·cases h
   have hm0 : m = 0 := by
    rcases Nat.mul_eq_zero.1 (by omega : m * i.size = 0) with h' | h'
    ·exact h'
    ·exact absurd h' hs0
   subst hm0
   have hnil : new.toList = [] := List.eq_nil_of_length_eq_zero (by simp [hn1]; simpa using hm)
   have := (append_run (P := P) (ty := ty) hu hu2 hi hz hb ho3 hn2).1 (by omega)
   exact ⟨_, w, η, by rw [this, hnil, storeBase_nil]; rfl, hx, hC, Le.refl _ _ _⟩
  ·rename_i hne
   split at h
   ·rename_i hbd
    cases h
    have hm0 : 0 < m := Nat.pos_of_ne_zero fun e => by subst e; omega
    have hbd' : (xs.length + m) * i.bytes ≤ 70368744177664 := by
     refine Nat.le_trans (Nat.mul_le_mul_right _ ?_) hbd
     have h1 := Nat.le_mul_of_pos_right xs.length (show 0 < i.size by omega)
     have h2 := Nat.le_mul_of_pos_right m (show 0 < i.size by omega)
     omega
    obtain ⟨nc, hc1, hc2, hc3⟩ := (append_run (P := P) (ty := ty) hu hu2 hi hz hb ho3 hn2).2 (by omega) hbd'
    obtain ⟨η', r1, r2, r3⟩ := append_grows (e := e) hC ho2 ho1 hn1 hm hz2 ho4 hn3 hc1 hc2
    rw [hdiv]
    exact ⟨_, _, η', hc3, r1, r2, r3⟩
   ·simp at h
 ·rename_i ee k n cl
  split at h
  rotate_left
  ·simp at h
  rename_i he; subst he
  split at h
  rotate_left
  ·simp at h
  rename_i cs hl
  split at h
  rotate_left
  ·simp at h
  rename_i hcond
  obtain ⟨hcl, hbd⟩ := hcond
  cases h
  have hH := live_iff.1 hl
  have hkH : k < H.length := (List.getElem?_eq_some_iff.1 hH).1
  obtain ⟨b, hη⟩ : ∃ b, η[k]? = some b := ⟨_, List.getElem?_eq_getElem (by rw [hC.len]; exact hkH)⟩
  obtain ⟨c, ty', fr, q1, q2, q3, q4⟩ : ∃ c t fr, w.heap[b]? = some (.cells c t fr) ∧ cs.length ≤ c.size ∧ (fr.1 = fr.2 ∨ c.size ≤ fr.1) ∧ ∀ j, j < cs.length → Rel S w η (c.getD j undef) (cs.getD j .any) := by
   rcases hC.liveAt k b cs hη hH with h | ⟨kk, es, e, ms, clock, h, -⟩ | ⟨_, _, _, _, _, e, r, h, -⟩ | ⟨_, _, _, e, r, h, -⟩
   ·exact h
   all_goals
    rcases hx.inv_view with ⟨ad, e1, e2⟩ | ⟨b', cap, c', t', fr', e1, hη', hb', -⟩
    ·subst e e2; simp at hcl
    ·rw [hη] at hη'; cases hη'
     rw [h] at hb'; cases hb'
  obtain ⟨ad0, n0, cap0, rfl, ho1, old, ho2, ho3, ho4⟩ := lcells_reads (P := P) (esz := i.size) (ys := cs) hC hx (by simp [lcells, hl]; rw [← hcl]; simp)
  have hbd' : (n + m) * i.bytes ≤ 70368744177664 := by
   refine Nat.le_trans (Nat.mul_le_mul_right _ ?_) hbd
   have h1 := Nat.le_mul_of_pos_right n (show 0 < i.size by omega)
   have h2 := Nat.le_mul_of_pos_right m (show 0 < i.size by omega)
   omega
  have hn0 : n0 = n := by
   have : n0 * i.size = n * i.size := by rw [← ho1, hcl]
   exact Nat.eq_of_mul_eq_mul_right (by omega) this
  subst hn0
  have hrun := append_run (P := P) (ty := ty) hu hu2 hi hz hb ho3 hn2
  have grows : cap0 < n0 + m → ∃ v w' η', (Builtin.append_ #[t, u] ty #[.slice ad0 n0 cap0, .slice ad' m cap']).run P w = .ok v w' ∧ Rel S w' η' v (.view i.size H.length 0 (n0 + ys.length / i.size) false) ∧ Conc η' S w' (H.set k none ++ [some (cs ++ ys)]) ∧ Le η S w η' S w' := fun hlt => by
   obtain ⟨nc, hc1, hc2, hc3⟩ := hrun.2 hlt hbd'
   obtain ⟨η', r1, r2, r3⟩ := append_grows (e := e) (hC.drop k) ho2 ho1 hn1 hm hz2 ho4 hn3 hc1 hc2
   rw [hdiv]
   refine ⟨_, _, η', hc3, by simpa using r1, r2, r3⟩
  rcases hx.inv_view with ⟨ad, e1, e2⟩ | ⟨b', cap, c', t', fr', e1, hη', hb', hsz, hn, hmm, hcl'⟩
  ·cases e1
   by_cases hm0 : m = 0
   ·subst hm0
    have hys0 : ys = [] := List.eq_nil_of_length_eq_zero (by simpa using hm)
    have hnil : new.toList = [] := List.eq_nil_of_length_eq_zero (by simp [hn1, hys0])
    have := hrun.1 (by omega)
    obtain ⟨a1, a2⟩ := hC.again hη hH (ls := cs ++ ys) q1 (by simp [hys0]; omega) (fun j hj => by simp [hys0] at hj ⊢; simpa [List.getD] using q4 j hj)
    refine ⟨_, w, _, by rw [this, hnil, storeBase_nil]; rfl, ?_, a1, a2⟩
    rw [hdiv]; exact .view0
   ·exact grows (by omega)
  ·cases e1
   rw [hη] at hη'; cases hη'
   rw [q1] at hb'; cases hb'
   by_cases hle : n0 + m ≤ cap0
   ·have hmul : (n0 + m) * i.size ≤ cap0 * i.size := Nat.mul_le_mul_right _ hle
    rw [Nat.add_mul] at hmul
    have hW := hC.widen hη hH q1 (k := ys.length) (by omega)
    have hlt : k < H.length := hkH
    have hH' : (H.set k (some (cs ++ List.replicate ys.length .any)))[k]? = some (some (cs ++ List.replicate ys.length .any)) := by rw [List.getElem?_set_self hlt]
    have hst := hW.store q1 hη hH' new.toList ys (off := cs.length) (by simp [hn1]) (by simp) (fun j hj => by
     have := hn3 j hj
     simpa [Array.getD_eq_getD_getElem?, List.getD] using this)
    have hrs := run_storeCells_own (P := P) hW q1 hη hH' new.toList (off := cs.length) (by simp [hn1]) hone
    rw [setCells_behind, List.set_set] at hst
    obtain ⟨s1, s2⟩ := hst
    have hH2 : (H.set k (some (cs ++ ys)))[k]? = some (some (cs ++ ys)) := by rw [List.getElem?_set_self hlt]
    obtain ⟨c3, fr3, k1, k2⟩ := s2.shape _ _ _ _ q1
    obtain ⟨c2, t2, fr2, g1, g2, g3, g4⟩ := s1.live k1 hη hH2
    obtain ⟨a1, a2⟩ := s1.again hη hH2 g1 g2 g4
    rw [List.set_set] at a1
    have h1 := hrun.1 hle
    have hoff : (⟨b, 0, none⟩ : Addr).add (n0 * i.size) = ⟨b, cs.length, none⟩ := by rw [Addr.add_lit, hcl]; simp
    refine ⟨_, _, _, by rw [h1]; simp only [storeBase, hoff, hrs, Result.andThen_ok]; rfl, ?_, a1, s2.trans a2⟩
    rw [hdiv, ← hC.len]
    exact .view (b := b) (by simp) k1 (by omega) hle hmm (by simp)
   ·exact grows (by omega)
 ·simp at h
theorem lcells_none {esz : Nat} {l : L} {ys : List L} (h : lcells esz [] l = some ys) (H : Heap) : lcells esz H l = some ys := by
 unfold lcells at h
 split at h
 ·exact h
 ·exact h
 ·split at h
  ·simp [Lg.live] at h
  ·simp at h
 ·simp at h
theorem appz_fine {t u e ty : TypeId} {i : TypeInfo} {z : Value} (hC : Conc η S w H) (hu : P.underlying t = some (.slice e)) (hu2 : P.underlying u = some (.int .i64)) (hi : P.info? e = some i) (hz : i.zero = some z) (hz2 : z.cells.size = i.size) (hb : i.bytes ≠ 0) (hs : i.size ≠ 0)
  {ad : Option Addr} {k : Int} (h0 : 0 < k) (hk : k * i.bytes ≤ 70368744177664) :
  ∃ v w' η', (Builtin.append_ #[t, u] ty #[.slice ad 0 0, .int .i64 k]).run P w = .ok v w' ∧ Rel S w' η' v (.view i.size H.length 0 k.toNat false) ∧ Conc η' S w' (H ++ [some []]) ∧ Le η S w η' S w' := by
 obtain ⟨n, rfl⟩ : ∃ n : Nat, k = n := ⟨k.toNat, by omega⟩
 have hnb : n * i.bytes ≤ 70368744177664 := by
  rw [← Int.natCast_mul] at hk
  omega
 have hn : n ≤ 70368744177664 := Nat.le_trans (Nat.le_mul_of_pos_right _ (by omega)) hnb
 have hg := growslice_fits (show 0 < n by omega) (Nat.le_trans hnb (by omega))
 have hsz : ∀ w : World, (Go.sizeOf e).run P w = .ok i.size w := fun w => by simp [Go.sizeOf, run_info hi]
 obtain ⟨nc, hnc⟩ : ∃ nc, nc = n + (w.tape w.drawn (.appendCap n 0 e)) % (2 ^ 63 - n) := ⟨_, rfl⟩
 have hcap : nc ≤ maxLen := by
  have := Nat.mod_lt (w.tape w.drawn (.appendCap n 0 e)) (show 0 < 2 ^ 63 - n by omega)
  simp only [maxLen]; omega
 have hw : IntKind.i64.wrap (n : Int) = n := IntWalk.i64_in _ ⟨by omega, by omega⟩
 have hrun : (Builtin.append_ #[t, u] ty #[.slice ad 0 0, .int .i64 n]).run P w = .ok (.slice (some ⟨w.heap.size, 0, none⟩) n nc) { w with drawn := w.drawn + 1, heap := w.heap.push (.cells (Builtin.zeroCells z.cells n ++ Builtin.zeroCells z.cells (nc - n)) e) } := by
  have e0 : ¬ ((n : Int) < 0) := by omega
  have e1 : ¬ ((n : Int) * (i.bytes : Int) > 2 ^ 48) := by omega
  have e2 : ¬ (n = 0 ∨ i.size = 0) := by omega
  have e3 : ¬ (n ≤ 0) := by omega
  have e4 : ¬ ((n : Int) > IntKind.i64.max) := by simp [IntKind.max, IntKind.signed, IntKind.bits]; omega
  have e5 : ¬ (Builtin.nextslicecap n 0 * i.bytes > 2 ^ 48) := by omega
  have e6 : ¬ (281474976710656 < (n : Int) * (i.bytes : Int)) := by omega
  have e7 : ¬ (n = 0) := by omega
  have hai : ∀ w : World, (asIntOf (Value.int IntKind.i64 (n : Int))).run P w = .ok (.i64, (n : Int)) w := fun w => rfl
  have hmx : ¬ (9223372036854775807 < (n : Int)) := by omega
  have e8 : ¬ (281474976710656 < Builtin.nextslicecap n 0 * i.bytes) := by omega
  have e9 : ¬ (n ≤ 0) := by omega
  have e10 : ¬ ((n : Int) ≤ 0) := by omega
  have ef : ∀ w : World, (Builtin.firstCells i.size 0 (.slice ad 0 0)).run P w = .ok #[] w := fun w => by
   cases ad with
   | none => rfl
   | some b => simp only [Builtin.firstCells, Nat.zero_mul]; rfl
  have em : ¬ (9223372036854775807 < max (n : Int) 0) := by omega
  simp [Builtin.append_, run_underlying hu, run_underlying hu2, hsz, asInt, hai, hw, e0, e6, e7, e8, e9, e10, em, hmx, run_info hi, Result.andThen_ok, hs, run_choose, Question.forced, Question.cut, run_askRoom, run_zero hi hz, newRow, run_newObj, ef]
  have e11 : ¬ (n * i.size = 0) := fun h => by
   rcases Nat.mul_eq_zero.1 h with h | h <;> omega
  have e12 : nc - n = w.tape w.drawn (Question.appendCap n 0 e) % (9223372036854775808 - n) := by rw [hnc]; simp
  have e13 : n + w.tape w.drawn (Question.appendCap n 0 e) % (9223372036854775808 - n) = nc := by omega
  rw [if_neg e11, e12, e13]
  rfl
 have hsize : (Builtin.zeroCells z.cells n ++ Builtin.zeroCells z.cells (nc - n)).size = nc * i.size := by
  simp only [Array.size_append, Builtin.zeroCells, Array.size_map, Array.size_range, hz2]
  rw [← Nat.add_mul]; congr 1; omega
 obtain ⟨p1, p2⟩ := hC.push (Builtin.zeroCells z.cells n ++ Builtin.zeroCells z.cells (nc - n)) e [] (by simp) (fun j hj => by simp at hj) (w' := { w with drawn := w.drawn + 1, heap := w.heap.push (.cells (Builtin.zeroCells z.cells n ++ Builtin.zeroCells z.cells (nc - n)) e) }) rfl rfl rfl rfl
 refine ⟨_, _, _, hrun, ?_, p1, p2⟩
 rw [← hC.len]
 exact .view (b := w.heap.size) (by simp) (c := Builtin.zeroCells z.cells n ++ Builtin.zeroCells z.cells (nc - n)) (t := e) (fr := (0, 0)) (by simp) (by rw [hsize]; omega) (by omega) hcap (by simp)
end
end Lg


/- Soundness of copy, min, max, of literals; all operations. -/
namespace Lg
open Go
section
variable {P : Program} {η : List Nat} {S : Nat → Prop} {w : World} {H : Heap} {a : Act} {E : Env}
theorem copy_fine {t u e ty : TypeId} {s : Nat} {x y : Value} {lx ly l : L} {H' : Heap} (hC : Conc η S w H) (hu : P.underlying t = some (.slice e)) (hs : szOf P e = some s) (hs0 : s ≠ 0) (hx : Rel S w η x lx) (hy : Rel S w η y ly)
  (h : copyL s lx ly H = some (l, H')) : ∃ v w', (Builtin.copy_ #[t, u] ty #[x, y]).run P w = .ok v w' ∧ Rel S w' η v l ∧ Conc η S w' H' ∧ Le η S w η S w' := by
 unfold copyL at h
 split at h
 rotate_left
 ·simp at h
 rename_i ys ee k off n cl hys
 split at h
 rotate_left
 ·simp at h
 rename_i he; subst he
 split at h
 rotate_left
 ·simp at h
 rename_i cs hl
 split at h
 rotate_left
 ·simp at h
 rename_i hc
 obtain ⟨hc1, hc2⟩ := hc
 cases h
 obtain ⟨ad', m, cap', rfl, hm, f, hf, hr⟩ := lcells_cs (P := P) hC hy hys
 have hdiv : ys.length / ee = m := by rw [hm, Nat.mul_div_cancel _ (by omega)]
 rw [hdiv]
 have hH := live_iff.1 hl
 have hkH : k < H.length := (List.getElem?_eq_some_iff.1 hH).1
 obtain ⟨b, hη⟩ : ∃ b, η[k]? = some b := ⟨_, List.getElem?_eq_getElem (by rw [hC.len]; exact hkH)⟩
 have hle : min m n * ee ≤ m * ee := Nat.mul_le_mul_right _ (Nat.min_le_left _ _)
 have hle2 : min m n * ee ≤ n * ee := Nat.mul_le_mul_right _ (Nat.min_le_right _ _)
 have hfr := hf (min m n) (Nat.min_le_left _ _) w rfl
 have hlen : (ys.take (min m n * ee)).length = min m n * ee := by simp; omega
 have hsol : ∀ v ∈ (List.range (min m n * ee)).map f, v.oneCell' = true := fun v hv => by
  simp only [List.mem_map, List.mem_range] at hv
  obtain ⟨j, hj, rfl⟩ := hv
  have h1 : j < ys.length := by omega
  have := hr j h1
  rw [getD_of_lt _ _ h1] at this
  exact this.one (List.all_eq_true.1 hc2 _ (List.getElem_mem _))
 rcases hx.inv_view with ⟨ad, rfl, rfl⟩ | ⟨b', cap, c, t', fr, rfl, hη', hb, hsz, hn, hmm, hcl⟩
 ·have hset : H.set k (some (setCells cs off (ys.take (min m 0 * ee)))) = H := by
   simp only [Nat.min_zero, Nat.zero_mul, List.take_zero, setCells]
   exact List.ext_getElem? fun j => by
    by_cases hj : j = k
    ·subst hj; rw [List.getElem?_set_self hkH, hH]
    ·rw [List.getElem?_set_ne (Ne.symm hj)]
  simp only [Nat.min_zero, Nat.zero_mul] at hfr hset ⊢
  simp only [List.range_zero, List.map_nil] at hfr
  refine ⟨_, w, ?_, .v _, by rw [hset]; exact hC, Le.refl _ _ _⟩
  simp only [Builtin.copy_, List.getElem?_toArray, List.getElem?_cons_zero, List.getElem?_cons_succ, Sem.run_bind, run_underlying hu, Result.andThen_ok, Builtin.lenOf, Sem.run_pure, run_sz hs, show Nat.min m 0 = 0 from Nat.min_zero m, hfr]
  cases ad <;> simp [storeCells, goInt]
 ·rw [hη] at hη'; cases hη'
  have hst := hC.store hb hη hH ((List.range (min m n * ee)).map f) (ys.take (min m n * ee)) (off := off) (by rw [hlen]; simp) (by rw [hlen]; omega) (fun j hj => by
   rw [hlen] at hj
   have := hr j (by omega)
   rw [getD_of_lt _ _ (by simp; exact hj)]
   simpa [List.getD, List.getElem?_take, hj] using this)
  have hrs := run_storeCells_own (P := P) hC hb hη hH ((List.range (min m n * ee)).map f) (off := off) (by simp; omega) hsol
  refine ⟨_, _, ?_, .v _, hst.1, hst.2⟩
  simp only [Builtin.copy_, List.getElem?_toArray, List.getElem?_cons_zero, List.getElem?_cons_succ, Sem.run_bind, run_underlying hu, Result.andThen_ok, Builtin.lenOf, Sem.run_pure, run_sz hs, show Nat.min m n = min m n from rfl, hfr]
  simp only [hrs, Result.andThen_ok, goInt]
theorem mm_fine {mx : Bool} : ∀ {ls : List L} {vs : List Value} {x : Value} {lx l : L}, Rel S w η x lx → vs.length = ls.length → (∀ j, Rel S w η (vs.getD j undef) (ls.getD j .any)) → mmL mx lx ls = some l →
  ∃ v, ((if mx = true then vs.foldlM Builtin.max2 x else vs.foldlM Builtin.min2 x)).run P w = .ok v w ∧ Rel S w η v l
 | [], vs, x, lx, l, hx, hl, hr, h => by
  have : vs = [] := List.eq_nil_of_length_eq_zero hl
  subst this
  unfold mmL at h
  split at h
  ·cases h; exact ⟨x, by cases mx <;> simp, hx⟩
  ·rename_i e; simp at e
  ·simp at h
 | y :: ls, [], x, lx, l, hx, hl, hr, h => by simp at hl
 | y :: ls, v :: vs, x, lx, l, hx, hl, hr, h => by
  unfold mmL at h
  split at h
  ·rename_i e; simp at e
  ·rename_i k n k' m rest e
   cases e
   have := hx.inv_v; subst this
   have h0 : Rel S w η v (.v (.int k' m)) := by simpa using hr 0
   have := h0.inv_v; subst this
   obtain ⟨v', e1, e2⟩ := mm_fine (.v (.int k (if mx = true then (if m > n then m else n) else (if m < n then m else n)))) (by simpa using hl) (fun j => by simpa using hr (j + 1)) h
   refine ⟨v', ?_, e2⟩
   cases mx
   ·simp only [Bool.false_eq_true, if_false, List.foldlM_cons, Sem.run_bind] at e1 ⊢
    have : (Builtin.min2 (.int k n) (.int k' m)).run P w = .ok (.int k (if m < n then m else n)) w := by simp [Builtin.min2]
    rw [this]; exact e1
   ·simp only [if_true, List.foldlM_cons, Sem.run_bind] at e1 ⊢
    have : (Builtin.max2 (.int k n) (.int k' m)).run P w = .ok (.int k (if m > n then m else n)) w := by simp [Builtin.max2]
    rw [this]; exact e1
  ·simp at h
theorem foldl_putArr (off : Nat) : ∀ (vs : List Value) (i : Nat) (cs : Array Value), (vs.zipIdx i).foldl (fun cs (x : Value × Nat) => cs.setIfInBounds (off + x.2) x.1) cs = putArr cs (off + i) vs
 | [], i, cs => by simp [putArr]
 | v :: vs, i, cs => by simp only [List.zipIdx_cons, List.foldl_cons, putArr]; rw [foldl_putArr off vs (i + 1)]; rfl
theorem fill_fine (place : Nat → Option (Nat × Nat)) (place' : Nat → Option (Nat × Nat)) (hp : ∀ i p, place i = some p → place' i = some p) (hE : REnv η S w a.tmps E) : ∀ {ps : List (Nat × Operand)} {qs : List (Nat × Nat × A)} {cells : Array Value} {zs ls : List L},
  compParts place ps = some qs → cells.size = zs.length → (∀ j, Rel S w η (cells.getD j undef) (zs.getD j .any)) → lfill zs (qs.map fun p => (p.1, p.2.1, arg E p.2.2)) = some ls →
  ∃ cs, Instr.fill place' cells (ps.map fun p => (p.1, a.eval p.2)) = some cs ∧ cs.size = ls.length ∧ ∀ j, Rel S w η (cs.getD j undef) (ls.getD j .any)
 | [], qs, cells, zs, ls, h, hz, hr, hl => by
  simp [compParts] at h; subst h
  simp [lfill] at hl; subst hl
  exact ⟨cells, by simp [Instr.fill], hz, hr⟩
 | (i, x) :: ps, qs, cells, zs, ls, h, hz, hr, hl => by
  simp only [compParts, Option.bind_eq_some_iff, Option.map_eq_some_iff] at h
  obtain ⟨⟨off, size⟩, h1, y, h2, qs', h3, rfl⟩ := h
  simp only [List.map_cons, lfill] at hl
  split at hl
  ·rename_i hc
   obtain ⟨c1, c2, c3⟩ := hc
   have hx := compA_sound h2 hE
   obtain ⟨z1, z2⟩ := hx.cells c1
   have hput : ((a.eval x).cells.zipIdx.foldl (fun cs (x : Value × Nat) => cs.setIfInBounds (off + x.2) x.1) cells) = putArr cells off (a.eval x).cells.toList := by
    rw [← Array.foldl_toList]
    have := foldl_putArr off (a.eval x).cells.toList 0 cells
    simpa using this
   obtain ⟨cs, e1, e2, e3⟩ := fill_fine place place' hp hE h3 (cells := putArr cells off (a.eval x).cells.toList) (by rw [putArr_size, setCells_length]; exact hz) (fun j => by
    rw [putArr_get _ _ _ _ (by simp; omega), setCells_get _ _ _ _ (by omega)]
    by_cases hj : off ≤ j ∧ j < off + (arg E y).cells.length
    ·rw [if_pos (by simp; omega), if_pos hj]
     have := z2 (j - off)
     simpa [Array.getD_eq_getD_getElem?, List.getD] using this
    ·rw [if_neg (by simp; omega), if_neg hj]; exact hr j) hl
   refine ⟨cs, ?_, e2, e3⟩
   simp only [List.map_cons, Instr.fill, hp i _ h1]
   rw [if_neg (by simp; omega)]
   rw [← e1]; congr 1
  ·simp at hl
theorem run_mapM_list {α β : Type} (f : α → Sem β) (g : α → β) : ∀ (l : List α), (∀ x ∈ l, (f x).run P w = .ok (g x) w) → (l.mapM f).run P w = .ok (l.map g) w
 | [], _ => by simp
 | x :: l, h => by
  simp only [List.mapM_cons, Sem.run_bind, h x (by simp), Result.andThen_ok, run_mapM_list f g l (fun y hy => h y (by simp [hy])), Sem.run_pure, List.map_cons]
theorem run_mapM {α β : Type} (f : α → Sem β) (g : α → β) (l : Array α) (h : ∀ x ∈ l, (f x).run P w = .ok (g x) w) : (l.mapM f).run P w = .ok (l.map g) w := by
 rw [Array.mapM_eq_mapM_toList]
 simp only [Sem.run_map, run_mapM_list f g l.toList (fun x hx => h x (by simpa using hx)), Result.andThen_ok]
 congr 1
 apply Array.ext'
 simp
end
end Lg


/- Maps of an own row. -/
namespace Lg
open Go Go.MapKept
def kv (e : MapEntry) : Value × Value := (e.key, e.val)
def kv2 (e : MK × Value) : Value × Value := (e.1.val, e.2)
def FindSpec (ms : List MapEntry) (es : List (MK × Value)) (key : MK) (i0 : Nat) (r : Option (Nat × Value)) : Prop :=
 (r = none ∧ mlook es key = none ∧ ∀ v, mput es key v = es ++ [(key, v)]) ∨
 ∃ j e, r = some (i0 + j, e.val) ∧ ms[j]? = some e ∧ e.key = key.val ∧ mlook es key = some e.val ∧
  ∀ v, (ms.modify j fun e => { e with key := key.val, val := v }).map kv = (mput es key v).map kv2
theorem FindSpec.nil {key : MK} {i0 : Nat} : FindSpec [] [] key i0 none := .inl ⟨rfl, rfl, fun _ => rfl⟩
theorem FindSpec.hit {m : MapEntry} {ms : List MapEntry} {e : MK × Value} {es : List (MK × Value)} {key : MK} {i0 : Nat} (h : kv m = kv2 e) (hs : ms.map kv = es.map kv2) (hk : e.1 = key) : FindSpec (m :: ms) (e :: es) key i0 (some (i0, m.val)) := by
 obtain ⟨k, u⟩ := e
 subst hk
 simp only [kv, kv2, Prod.mk.injEq] at h
 refine .inr ⟨0, m, rfl, rfl, h.1, by simp [mlook, h.2], fun v => ?_⟩
 simp [mput, kv, kv2] at hs ⊢
 exact hs
theorem FindSpec.miss {m : MapEntry} {ms : List MapEntry} {e : MK × Value} {es : List (MK × Value)} {key : MK} {i0 : Nat} {r : Option (Nat × Value)} (h : kv m = kv2 e) (hk : e.1 ≠ key) (hr : FindSpec ms es key (i0 + 1) r) : FindSpec (m :: ms) (e :: es) key i0 r := by
 obtain ⟨k, u⟩ := e
 rcases hr with ⟨h1, h2, h3⟩ | ⟨j, e', h1, h2, h3, h4, h5⟩
 ·exact .inl ⟨h1, by simp [mlook, hk, h2], fun v => by simp [mput, hk, h3]⟩
 ·refine .inr ⟨j + 1, e', by rw [h1]; congr 2; omega, by simpa using h2, h3, by simp [mlook, hk, h4], fun v => ?_⟩
  have := h5 v
  simp [mput, hk, this, h]
section
variable {P : Program} {η : List Nat} {S : Nat → Prop} {w : World} {H : Heap}
structure PairT (P : Program) (kt : TypeId) (k : IntKind) : Prop where
 eq : ∀ (w : World) (a b c d : Int), (Op.equal kt (.agg #[.int k a, .int k b]) (.agg #[.int k c, .int k d])).run P w = .ok (decide (a = c ∧ b = d)) w
 chk : ∀ (w : World) (e : Bool) (a b : Int), (Instr.checkKey e 10000 kt (.agg #[.int k a, .int k b])).run P w = .ok () w
 und : ∃ d, P.underlying kt = some d ∧ ∀ (a b : Int) (y : Value), Instr.sameNow d (.agg #[.int k a, .int k b]) y = none
def KeyT (P : Program) (kt : TypeId) : KK → Prop
 | .s => P.underlying kt = some .string
 | .i k => P.underlying kt = some (.int k)
 | .p k => PairT P kt k
theorem pair_array {kt e : TypeId} {k : IntKind} {i : TypeInfo} (h1 : P.underlying kt = some (.array 2 e)) (h2 : P.underlying e = some (.int k)) (h3 : P.info? e = some i) (h4 : P.cellsOf e = 1) (h5 : P.plainKey e = true) : PairT P kt k := by
 refine ⟨fun w a b c d => run_equal2 h1 h2 h3 h4 h5 a b c d, fun w e' a b => ?_, _, h1, fun a b y => by cases y <;> rfl⟩
 have hi : ∀ x : Int, (Instr.checkKey e' (9998 + 1) e (.int k x)).run P w = .ok () w := fun x => by
  unfold Instr.checkKey; simp only [Sem.run_bind, run_underlying h2, Result.andThen]; rfl
 have hsz : (Go.sizeOf e).run P w = .ok 1 w := by
  have : i.size = 1 := by
   have := h4
   simp [Program.cellsOf, h3] at this
   exact this
  have := run_sz (P := P) (w := w) (t := e) (s := 1) (by simp [szOf, h3, this])
  exact this
 have g0 : (part e #[Value.int k a, .int k b] 0).run P w = .ok (.int k a) w := run_part_plain w h5 rfl
 have g1 : (part e #[Value.int k a, .int k b] 1).run P w = .ok (.int k b) w := run_part_plain w h5 rfl
 rw [show (10000 : Nat) = 9998 + 1 + 1 from rfl]
 unfold Instr.checkKey
 simp only [Sem.run_bind, run_underlying h1, Result.andThen]
 simp [Std.Legacy.Range.forIn_eq_forIn_range', List.range'_succ, hsz, g0, g1, hi, Result.andThen]
theorem pair_struct {kt : TypeId} {k : IntKind} {fs : Array Field} {f g : Field} (h1 : P.underlying kt = some (.struct fs)) (hfs : fs.toList = [f, g]) (h2 : P.underlying f.type = some (.int k)) (h3 : P.underlying g.type = some (.int k))
  (n1 : f.name ≠ "_") (n2 : g.name ≠ "_") (o1 : f.offset = 0) (o2 : g.offset = 1) (p1 : P.plainKey f.type = true) (p2 : P.plainKey g.type = true) (hs : P.stoodInHeld kt = false) : PairT P kt k := by
 refine ⟨fun w a b c d => ?_, fun w e' a b => ?_, _, h1, fun a b y => by cases y <;> rfl⟩
 ·have hf : P.fieldsOf kt = fs := by simp [Program.fieldsOf, h1]
  have g0 : ∀ x y : Int, (part f.type #[Value.int k x, .int k y] 0).run P w = .ok (.int k x) w := fun x y => run_part_plain w p1 rfl
  have g1 : ∀ x y : Int, (part g.type #[Value.int k x, .int k y] 1).run P w = .ok (.int k y) w := fun x y => run_part_plain w p2 rfl
  unfold Op.equal
  rw [show Op.maxDepth = 9998 + 1 + 1 from rfl, run_equalIn_struct w _ kt _ _ (by rw [hf]; exact h1) hs, hf, hfs]
  have i1 : ∀ x y : Int, (Op.equalIn 9999 f.type (.int k x) (.int k y)).run P w = .ok (x == y) w := fun x y => run_equalIn_int 9998 h2 x y
  have i2 : ∀ x y : Int, (Op.equalIn 9999 g.type (.int k x) (.int k y)).run P w = .ok (x == y) w := fun x y => run_equalIn_int 9998 h3 x y
  simp only [Op.eqFields, Sem.run_bind, n1, n2, o1, o2, g0, g1, i1, i2, Result.andThen_ok, ne_eq, not_false_eq_true, if_true]
  by_cases e1 : a = c
  ·subst e1
   by_cases e2 : b = d
   ·subst e2; simp [Op.eqFields, n1, n2, o1, o2, g0, g1, i1, i2]
   ·simp [Op.eqFields, e2, n1, n2, o1, o2, g0, g1, i1, i2]
  ·simp [e1, Op.eqFields, n1, n2, o1, o2, g0, g1, i1, i2]
 ·have g0 : (part f.type #[Value.int k a, .int k b] 0).run P w = .ok (.int k a) w := run_part_plain w p1 rfl
  have g1 : (part g.type #[Value.int k a, .int k b] 1).run P w = .ok (.int k b) w := run_part_plain w p2 rfl
  have i1 : ∀ x : Int, (Instr.checkKey e' (9998 + 1) f.type (.int k x)).run P w = .ok () w := fun x => by
   unfold Instr.checkKey; simp only [Sem.run_bind, run_underlying h2, Result.andThen]; rfl
  have i2 : ∀ x : Int, (Instr.checkKey e' (9998 + 1) g.type (.int k x)).run P w = .ok () w := fun x => by
   unfold Instr.checkKey; simp only [Sem.run_bind, run_underlying h3, Result.andThen]; rfl
  rw [show (10000 : Nat) = 9998 + 1 + 1 from rfl]
  unfold Instr.checkKey
  simp only [Sem.run_bind, run_underlying h1, Result.andThen]
  rw [← Array.forIn_toList, hfs]
  simp [n1, n2, o1, o2, g0, g1, i1, i2, Result.andThen]
theorem pairK_spec {kt : TypeId} {k : IntKind} (hk : pairK P kt = some k) : PairT P kt k := by
 unfold pairK at hk
 split at hk
 ·rename_i e he
  split at hk
  ·rename_i k' he'
   split at hk
   ·rename_i hc
    cases hk
    simp only [Bool.and_eq_true, beq_iff_eq] at hc
    obtain ⟨⟨h1, h2⟩, h3⟩ := hc
    obtain ⟨i, hi⟩ := Option.isSome_iff_exists.1 h1
    exact pair_array he he' hi h2 h3
   ·simp at hk
  ·simp at hk
 ·rename_i fs hu
  split at hk
  ·rename_i f g hfs
   split at hk
   ·rename_i k1 k2 e1 e2
    split at hk
    ·rename_i hc
     cases hk
     simp only [Bool.and_eq_true, beq_iff_eq, bne_iff_ne, Bool.not_eq_true'] at hc
     obtain ⟨⟨⟨⟨⟨⟨⟨c1, c2⟩, c3⟩, c4⟩, c5⟩, c6⟩, c7⟩, c8⟩ := hc
     subst c1
     exact pair_struct hu hfs e1 e2 c2 c3 c4 c5 c6 c7 c8
    ·simp at hk
   ·simp at hk
  ·simp at hk
 ·simp at hk
theorem mapK_spec {t : TypeId} {kk : KK} (h : mapK P t = some kk) : ∃ kt et, P.underlying t = some (.map kt et) ∧ KeyT P kt kk := by
 unfold mapK at h
 split at h
 ·rename_i kt et hu
  refine ⟨kt, et, hu, ?_⟩
  split at h
  ·rename_i hk; cases h; exact hk
  ·rename_i k hk; cases h; exact hk
  ·simp only [Option.map_eq_some_iff] at h
   obtain ⟨k, hk, rfl⟩ := h
   exact pairK_spec hk
  ·simp only [Option.map_eq_some_iff] at h
   obtain ⟨k, hk, rfl⟩ := h
   exact pairK_spec hk
  ·simp at h
 ·simp at h
theorem keyOf_val {x : Value} {l : L} {key : MK} (hx : Rel S w η x l) (h : keyOf l = some key) : x = key.val := by
 unfold keyOf at h
 split at h
 ·cases h; exact hx.inv_v
 ·cases h; exact hx.inv_v
 ·rename_i k a k' b
  split at h
  ·rename_i e
   subst e
   cases h
   obtain ⟨cs, rfl, hz, hr⟩ := hx.inv_agg
   have h0 := (hr 0)
   have h1 := (hr 1)
   simp at h0 h1 hz
   have e0 := h0.inv_v
   have e1 := h1.inv_v
   simp only [MK.val]
   congr 1
   apply Array.ext
   ·simpa using hz
   ·intro j hj1 hj2
    simp at hj2
    rcases (show j = 0 ∨ j = 1 by omega) with rfl | rfl
    ·simpa [Array.getD, hj1] using e0
    ·simpa [Array.getD, hj1] using e1
  ·simp at h
 ·simp at h
theorem checkKey_run {kt : TypeId} {kk : KK} (hT : KeyT P kt kk) {key : MK} (hk : key.kind = kk) (e : Bool) : (Instr.checkKey e 10000 kt key.val).run P w = .ok () w := by
 subst hk
 cases key with
 | s bs => rw [show (10000 : Nat) = 9998 + 1 + 1 from rfl]; unfold Instr.checkKey; simp only [Sem.run_bind, run_underlying hT, Result.andThen]; rfl
 | i k n => rw [show (10000 : Nat) = 9998 + 1 + 1 from rfl]; unfold Instr.checkKey; simp only [Sem.run_bind, run_underlying hT, Result.andThen]; rfl
 | p k a b => exact PairT.chk hT w e a b
theorem findNow_run {d : TypeDesc} {key : MK} (hs : ∀ k : MK, k.kind = key.kind → Instr.sameNow d key.val k.val = some (decide (key = k))) :
  ∀ {ms : List MapEntry} {es : List (MK × Value)} (i0 : Nat), ms.map kv = es.map kv2 → (∀ e ∈ es, e.1.kind = key.kind) → ∃ r, Instr.findNow d key.val ms i0 = some r ∧ FindSpec ms es key i0 r
 | [], [], _, _, _ => ⟨none, rfl, .nil⟩
 | [], e :: es, _, h, _ => by simp at h
 | m :: ms, [], _, h, _ => by simp at h
 | m :: ms, e :: es, i0, h, hk => by
  simp only [List.map_cons, List.cons.injEq] at h
  obtain ⟨h1, h2⟩ := h
  have he := hs e.1 (hk e (.head _))
  have hm : m.key = e.1.val := by simp only [kv, kv2, Prod.mk.injEq] at h1; exact h1.1
  by_cases hq : key = e.1
  ·refine ⟨_, ?_, .hit h1 h2 hq.symm⟩
   rw [decide_eq_true hq] at he
   simp only [Instr.findNow, hm, he]
  ·obtain ⟨r, hr, hf⟩ := findNow_run hs (i0 + 1) h2 (fun x hx => hk x (.tail _ hx))
   refine ⟨r, ?_, .miss h1 (Ne.symm hq) hf⟩
   rw [decide_eq_false hq] at he
   simp only [Instr.findNow, hm, he, hr]
theorem findAsking_run {kt : TypeId} {key : MK} (hs : ∀ k : MK, k.kind = key.kind → (Op.equal kt key.val k.val).run P w = .ok (decide (key = k)) w) :
  ∀ {ms : List MapEntry} {es : List (MK × Value)} (i0 : Nat), ms.map kv = es.map kv2 → (∀ e ∈ es, e.1.kind = key.kind) → ∃ r, (Instr.findAsking kt key.val ms i0).run P w = .ok r w ∧ FindSpec ms es key i0 r
 | [], [], _, _, _ => ⟨none, rfl, .nil⟩
 | [], e :: es, _, h, _ => by simp at h
 | m :: ms, [], _, h, _ => by simp at h
 | m :: ms, e :: es, i0, h, hk => by
  simp only [List.map_cons, List.cons.injEq] at h
  obtain ⟨h1, h2⟩ := h
  have he := hs e.1 (hk e (.head _))
  have hm : m.key = e.1.val := by simp only [kv, kv2, Prod.mk.injEq] at h1; exact h1.1
  by_cases hq : key = e.1
  ·refine ⟨_, ?_, .hit h1 h2 hq.symm⟩
   rw [decide_eq_true hq] at he
   simp only [Instr.findAsking, Sem.run_bind, hm, he, Result.andThen, if_true, Sem.run_pure]
  ·obtain ⟨r, hr, hf⟩ := findAsking_run hs (i0 + 1) h2 (fun x hx => hk x (.tail _ hx))
   refine ⟨r, ?_, .miss h1 (Ne.symm hq) hf⟩
   rw [decide_eq_false hq] at he
   simp only [Instr.findAsking, Sem.run_bind, hm, he, Result.andThen, Bool.false_eq_true, if_false, hr]
theorem findKey_run {kt : TypeId} {kk : KK} (hT : KeyT P kt kk) {key : MK} (hk : key.kind = kk) {ms : List MapEntry} {es : List (MK × Value)} (h : ms.map kv = es.map kv2) (hes : ∀ e ∈ es, e.1.kind = kk) :
  ∃ r, (Instr.findKey kt key.val ms).run P w = .ok r w ∧ FindSpec ms es key 0 r := by
 subst hk
 cases key with
 | s bs =>
  obtain ⟨r, h1, h2⟩ := findNow_run (d := .string) (key := .s bs) (fun k hk => by
   cases k <;> simp [MK.kind] at hk
   rename_i cs
   simp only [MK.val, Instr.sameNow, Option.some.injEq]
   rw [Bool.eq_iff_iff, bytes_beq]
   simp) 0 h hes
  exact ⟨r, by simp [Instr.findKey, run_underlying hT, Result.andThen, h1], h2⟩
 | i k n =>
  obtain ⟨r, h1, h2⟩ := findNow_run (d := .int k) (key := .i k n) (fun k' hk => by
   cases k' <;> simp [MK.kind] at hk
   subst hk
   simp only [MK.val, Instr.sameNow, if_true, Option.some.injEq]
   rw [Bool.eq_iff_iff]
   simp) 0 h hes
  exact ⟨r, by simp [Instr.findKey, run_underlying hT, Result.andThen, h1], h2⟩
 | p k a b =>
  obtain ⟨heq, hchk, d, g1, g2⟩ := hT
  obtain ⟨r, h1, h2⟩ := findAsking_run (P := P) (w := w) (kt := kt) (key := .p k a b) (fun k' hk => by
   cases k' <;> simp [MK.kind] at hk
   subst hk
   rename_i c d
   simp only [MK.val]
   rw [heq]
   simp) 0 h hes
  cases ms with
  | nil =>
   have : es = [] := by cases es with | nil => rfl | cons => simp at h
   subst this
   exact ⟨none, by simp [Instr.findKey, run_underlying g1, Result.andThen, Instr.findNow], .nil⟩
  | cons m ms =>
   refine ⟨r, ?_, h2⟩
   have hn : Instr.findNow d (MK.val (.p k a b)) (m :: ms) 0 = none := by simp [Instr.findNow, MK.val, g2]
   simp only [Instr.findKey, Sem.run_bind, run_underlying g1, Result.andThen, hn, h1]
theorem keyStays_run (key : MK) : (Instr.keyThatStays key.val key.val).run P w = .ok key.val w := by
 have : Instr.sameBits 10000 key.val key.val = true := by
  cases key <;> simp [MK.val, Instr.sameBits, bytes_beq]
 simp [Instr.keyThatStays, this]
theorem lookup_fine {t kt et : TypeId} {kk : KK} {i : TypeInfo} {z : Value} (hm : P.underlying t = some (.map kt et)) (hT : KeyT P kt kk) (hi : P.info? et = some i) (hz : i.zero = some z) {b : Nat} {es : List (MK × Value)} (hb : MapAt w b kk es)
  {key : MK} (hk : key.kind = kk) (comma : Bool) :
  ∃ v, (Instr.lookup t (.map (some b)) key.val comma).run P w = .ok v w ∧ Rel S w η v (mgetR comma z (mlook es key)) := by
 obtain ⟨ms, clock, h1, h2, h3, -⟩ := hb
 obtain ⟨r, hr, hf⟩ := findKey_run (P := P) (w := w) hT hk (ms := ms.toList) (es := es) h2 h3
 have hv : ∀ (o : Option (Nat × Value)) (v : Value) (ok : Bool), Rel S w η (if comma = true then .tuple #[v, .bool ok] else v) (if comma = true then .tup [.v v, .v (.bool ok)] else .v v) := fun o v ok => by
  cases comma
  ·exact .v _
  ·refine .tup rfl fun j => ?_
   rcases j with _ | _ | j
   ·exact .v _
   ·exact .v _
   ·exact .any _
 rcases hf with ⟨rfl, e2, -⟩ | ⟨j, e, rfl, e2, e3, e4, -⟩
 ·refine ⟨_, ?_, by rw [e2]; exact hv none z false⟩
  simp only [Instr.lookup, Sem.run_bind, run_underlying hm, run_getObj_map h1, checkKey_run hT hk, hr, run_zero hi hz, Result.andThen, Sem.run_pure]
 ·refine ⟨_, ?_, by rw [e4]; exact hv none e.val true⟩
  simp only [Instr.lookup, Sem.run_bind, run_underlying hm, run_getObj_map h1, checkKey_run hT hk, hr, Result.andThen, Sem.run_pure]
theorem mapUpdate_fine {t kt et : TypeId} {kk : KK} (hm : P.underlying t = some (.map kt et)) (hT : KeyT P kt kk) {b : Nat} {es : List (MK × Value)} (hb : MapAt w b kk es)
  {key : MK} (hk : key.kind = kk) (v : Value) :
  ∃ ms clock, (Instr.mapUpdate t (.map (some b)) key.val v).run P w = .ok () { w with heap := w.heap.setIfInBounds b (.map ms clock) } ∧ ms.toList.map kv = (mput es key v).map kv2 ∧ (∀ e ∈ mput es key v, e.1.kind = kk) ∧ Stamped ms clock := by
 obtain ⟨ms, clock, h1, h2, h3, hst1, hst2⟩ := hb
 obtain ⟨r, hr, hf⟩ := findKey_run (P := P) (w := w) hT hk (ms := ms.toList) (es := es) h2 h3
 have hkind : ∀ {es : List (MK × Value)}, (∀ e ∈ es, e.1.kind = kk) → ∀ e ∈ mput es key v, e.1.kind = kk := by
  intro es
  induction es with
  | nil => intro _ e he; simp [mput] at he; subst he; exact hk
  | cons x xs ih =>
   intro h e he
   obtain ⟨k, u⟩ := x
   simp only [mput] at he
   split at he
   ·rcases List.mem_cons.1 he with rfl | he
    ·exact hk
    ·exact h e (.tail _ he)
   ·rcases List.mem_cons.1 he with rfl | he
    ·exact h _ (.head _)
    ·exact ih (fun y hy => h y (.tail _ hy)) e he
 rcases hf with ⟨rfl, -, e2⟩ | ⟨j, e, rfl, e2, e3, -, e5⟩
 ·refine ⟨ms.push { key := key.val, val := v, born := clock }, clock + 1, ?_, ?_, hkind h3, by simp [hst1], fun i e he => ?_⟩
  rotate_right
  ·rw [Array.getElem?_push] at he
   split at he
   ·rename_i hi
    cases he
    rw [hi]; exact hst1
   ·exact hst2 i e he
  ·simp only [Instr.mapUpdate, Sem.run_bind, run_underlying hm, run_getObj_map h1, checkKey_run hT hk, hr, run_setObj_map _ h1, Result.andThen]
  ·rw [e2 v]
   have h2' : ms.toList.map kv = es.map kv2 := h2
   simp [h2']
   rfl
 ·have hj : ms[j]? = some e := by simpa using e2
  refine ⟨ms.modify j fun e => { e with key := key.val, val := v }, clock, ?_, ?_, hkind h3, by simp [hst1], fun i e' he => ?_⟩
  rotate_right
  ·rw [Array.getElem?_modify] at he
   split at he
   ·simp only [Option.map_eq_some_iff] at he
    obtain ⟨e0, h0, rfl⟩ := he
    exact hst2 i e0 h0
   ·exact hst2 i e' he
  ·simp only [Instr.mapUpdate, Sem.run_bind, run_underlying hm, run_getObj_map h1, checkKey_run hT hk, hr, Result.andThen, Nat.zero_add, hj, Option.map_some, Option.getD_some, e3, keyStays_run, run_setObj_map _ h1]
  ·rw [Array.toList_modify]
   exact e5 v
theorem Conc.mset {h b : Nat} {kk : KK} {es es' : List (MK × Value)} (hC : Conc η S w H) (hη : η[h]? = some b) (hH : H[h]? = some (some [.mp kk es])) (ms : Array MapEntry) (clock : Nat)
  (h1 : ms.toList.map kv = es'.map kv2) (h2 : ∀ e ∈ es', e.1.kind = kk) (h3 : Stamped ms clock) (hb : ∃ m0 c0, w.heap[b]? = some (.map m0 c0)) :
  Conc η S { w with heap := w.heap.setIfInBounds b (.map ms clock) } (H.set h (some [.mp kk es'])) ∧ Le η S w η S { w with heap := w.heap.setIfInBounds b (.map ms clock) } := by
 obtain ⟨m0, c0, hb⟩ := hb
 obtain ⟨p1, p2⟩ := hC.apart h b _ hη hH
 obtain ⟨e1, e2⟩ := heap_set (o' := .map ms clock) hb
 have hlt : h < H.length := (List.getElem?_eq_some_iff.1 hH).1
 have hle : Le η S w η S { w with heap := w.heap.setIfInBounds b (.map ms clock) } := by
  refine ⟨⟨[], by simp, by simp⟩, fun _ h => h, fun b' hb' => e2 b' (fun e => p1 (e ▸ hb')), ?_, by simp, fun b' _ hn => e2 b' (fun e => hn (e ▸ List.mem_of_getElem? hη)), fun _ h => .inl h, rfl, rfl, rfl⟩
  intro b' c' t' fr' hb'
  have hbb : b' ≠ b := fun e => by subst e; rw [hb] at hb'; cases hb'
  exact ⟨c', fr', by show (w.heap.setIfInBounds b _)[b']? = _; rw [e2 b' hbb]; exact hb', rfl⟩
 refine ⟨⟨by simp [hC.len], fun b' hb' => by simp; exact hC.lt b' hb', fun b' hb' => by simp; exact hC.Slt b' hb', ?_, ?_⟩, hle⟩
 ·intro k b' ls f1 f2
  have f2' : ∃ ls', H[k]? = some (some ls') := by
   by_cases hk : k = h
   ·subst hk; exact ⟨_, hH⟩
   ·rw [List.getElem?_set_ne (Ne.symm hk)] at f2; exact ⟨ls, f2⟩
  obtain ⟨ls', f3⟩ := f2'
  obtain ⟨r1, r2⟩ := hC.apart k b' ls' f1 f3
  refine ⟨r1, fun k' ls'' g1 g2 => ?_⟩
  by_cases hk : k' = h
  ·subst hk; exact r2 k' _ g1 hH
  ·rw [List.getElem?_set_ne (Ne.symm hk)] at g2; exact r2 k' ls'' g1 g2
 ·intro k b' ls f1 f2
  by_cases hk : k = h
  ·subst hk
   rw [hη] at f1; cases f1
   rw [List.getElem?_set_self hlt] at f2
   simp at f2; subst f2
   exact .inr (.inl ⟨kk, es', rfl, ms, clock, e1, h1, h2, h3⟩)
  ·rw [List.getElem?_set_ne (Ne.symm hk)] at f2
   have hbb : b' ≠ b := fun e => by subst e; exact hk (p2 k ls f1 f2)
   exact (hC.liveAt k b' ls f1 f2).mono (e2 b' hbb) (fun _ _ h => h.le hle)
theorem Conc.mapAt {h b : Nat} {kk : KK} {es : List (MK × Value)} (hC : Conc η S w H) (hη : η[h]? = some b) (hH : H[h]? = some (some [.mp kk es])) : MapAt w b kk es := by
 rcases hC.liveAt h b _ hη hH with ⟨c, t, fr, q1, q2, q3, q4⟩ | ⟨k, es', e, hm⟩ | ⟨_, _, _, _, _, e, -⟩ | ⟨_, _, _, e, -⟩
 ·have := q4 0 (by simp)
  simp only [List.getD_cons_zero] at this
  generalize c.getD 0 undef = x at this
  cases this
 ·simp at e
  obtain ⟨rfl, rfl⟩ := e
  exact hm
 ·simp at e
 ·simp at e
theorem Conc.itAt {h b : Nat} {kk : KK} {es : List (MK × Value)} {seen : List Nat} (hC : Conc η S w H) (hη : η[h]? = some b) (hH : H[h]? = some (some [.it kk es seen])) : IterAt η S w b kk es seen := by
 rcases hC.liveAt h b _ hη hH with ⟨c, t, fr, q1, q2, q3, q4⟩ | ⟨k, es', e, hm⟩ | ⟨_, _, _, _, _, e, -⟩ | ⟨k, es', s', e, hm⟩
 ·have := q4 0 (by simp)
  simp only [List.getD_cons_zero] at this
  generalize c.getD 0 undef = x at this
  cases this
 ·simp at e
 ·simp at e
 ·simp at e
  obtain ⟨rfl, rfl, rfl⟩ := e
  exact hm
theorem Conc.lpAt {h b : Nat} {rc : RC} {st : LoopState} {pd : Option Code} {ks : List Nat} {ts : List L} (hC : Conc η S w H) (hη : η[h]? = some b) (hH : H[h]? = some (some [.lp rc st pd ks ts])) : LoopAt η S w b rc st pd ks ts := by
 rcases hC.liveAt h b _ hη hH with ⟨c, t, fr, q1, q2, q3, q4⟩ | ⟨k, es', e, hm⟩ | ⟨rc', st', pd', ks', ts', e, hl⟩ | ⟨_, _, _, e, -⟩
 ·have := q4 0 (by simp)
  simp only [List.getD_cons_zero] at this
  generalize c.getD 0 undef = x at this
  cases this
 ·simp at e
 ·simp at e
  obtain ⟨rfl, rfl, rfl, rfl, rfl⟩ := e
  exact hl
 ·simp at e
theorem Conc.lpset {h b : Nat} {rc : RC} {st st' : LoopState} {pd pd' : Option Code} {ks : List Nat} {ts : List L} (hC : Conc η S w H) (hη : η[h]? = some b) (hH : H[h]? = some (some [.lp rc st pd ks ts])) {r : Loop}
  (hb : w.heap[b]? = some (.loop r)) :
  Conc η S { w with heap := w.heap.setIfInBounds b (.loop { r with state := st', pending := pd' }) } (H.set h (some [.lp rc st' pd' ks ts])) ∧ Le η S w η S { w with heap := w.heap.setIfInBounds b (.loop { r with state := st', pending := pd' }) } := by
 obtain ⟨r', hb', k1, k2, k3, k4, k5, k6, k7⟩ := hC.lpAt hη hH
 rw [hb] at hb'; cases hb'
 obtain ⟨p1, p2⟩ := hC.apart h b _ hη hH
 obtain ⟨e1, e2⟩ := heap_set (o' := .loop { r with state := st', pending := pd' }) hb
 have hlt : h < H.length := (List.getElem?_eq_some_iff.1 hH).1
 have hle : Le η S w η S { w with heap := w.heap.setIfInBounds b (.loop { r with state := st', pending := pd' }) } := by
  refine ⟨⟨[], by simp, by simp⟩, fun _ h => h, fun b' hb' => e2 b' (fun e => p1 (e ▸ hb')), ?_, by simp, fun b' _ hn => e2 b' (fun e => hn (e ▸ List.mem_of_getElem? hη)), fun _ h => .inl h, rfl, rfl, rfl⟩
  intro b' c' t' fr' hb'
  have hbb : b' ≠ b := fun e => by subst e; rw [hb] at hb'; cases hb'
  exact ⟨c', fr', by show (w.heap.setIfInBounds b _)[b']? = _; rw [e2 b' hbb]; exact hb', rfl⟩
 refine ⟨⟨by simp [hC.len], fun b' hb' => by simp; exact hC.lt b' hb', fun b' hb' => by simp; exact hC.Slt b' hb', ?_, ?_⟩, hle⟩
 ·intro k b' ls f1 f2
  have f2' : ∃ ls', H[k]? = some (some ls') := by
   by_cases hk : k = h
   ·subst hk; exact ⟨_, hH⟩
   ·rw [List.getElem?_set_ne (Ne.symm hk)] at f2; exact ⟨ls, f2⟩
  obtain ⟨ls', f3⟩ := f2'
  obtain ⟨r1, r2⟩ := hC.apart k b' ls' f1 f3
  refine ⟨r1, fun k' ls'' g1 g2 => ?_⟩
  by_cases hk : k' = h
  ·subst hk; exact r2 k' _ g1 hH
  ·rw [List.getElem?_set_ne (Ne.symm hk)] at g2; exact r2 k' ls'' g1 g2
 ·intro k b' ls f1 f2
  by_cases hk : k = h
  ·subst hk
   rw [hη] at f1; cases f1
   rw [List.getElem?_set_self hlt] at f2
   simp at f2; subst f2
   exact .inr (.inr (.inl ⟨rc, st', pd', ks, ts, rfl, _, e1, rfl, rfl, k3, k4, k5, k6, fun j => (k7 j).le hle⟩))
  ·rw [List.getElem?_set_ne (Ne.symm hk)] at f2
   have hbb : b' ≠ b := fun e => by subst e; exact hk (p2 k ls f1 f2)
   exact (hC.liveAt k b' ls f1 f2).mono (e2 b' hbb) (fun _ _ h => h.le hle)
theorem Conc.itset {h b : Nat} {kk : KK} {es : List (MK × Value)} {seen seen' : List Nat} (hC : Conc η S w H) (hη : η[h]? = some b) (hH : H[h]? = some (some [.it kk es seen])) {m : Nat}
  (hb : w.heap[b]? = some (.mapIter (some m) es.length seen.toArray es.length)) (hm : Rel S w η (.map (some m)) (.cm kk es)) (hs : ∀ i ∈ seen', i < es.length) :
  Conc η S { w with heap := w.heap.setIfInBounds b (.mapIter (some m) es.length seen'.toArray es.length) } (H.set h (some [.it kk es seen'])) ∧ Le η S w η S { w with heap := w.heap.setIfInBounds b (.mapIter (some m) es.length seen'.toArray es.length) } := by
 obtain ⟨p1, p2⟩ := hC.apart h b _ hη hH
 obtain ⟨e1, e2⟩ := heap_set (o' := .mapIter (some m) es.length seen'.toArray es.length) hb
 have hlt : h < H.length := (List.getElem?_eq_some_iff.1 hH).1
 have hle : Le η S w η S { w with heap := w.heap.setIfInBounds b (.mapIter (some m) es.length seen'.toArray es.length) } := by
  refine ⟨⟨[], by simp, by simp⟩, fun _ h => h, fun b' hb' => e2 b' (fun e => p1 (e ▸ hb')), ?_, by simp, fun b' _ hn => e2 b' (fun e => hn (e ▸ List.mem_of_getElem? hη)), fun _ h => .inl h, rfl, rfl, rfl⟩
  intro b' c' t' fr' hb'
  have hbb : b' ≠ b := fun e => by subst e; rw [hb] at hb'; cases hb'
  exact ⟨c', fr', by show (w.heap.setIfInBounds b _)[b']? = _; rw [e2 b' hbb]; exact hb', rfl⟩
 refine ⟨⟨by simp [hC.len], fun b' hb' => by simp; exact hC.lt b' hb', fun b' hb' => by simp; exact hC.Slt b' hb', ?_, ?_⟩, hle⟩
 ·intro k b' ls f1 f2
  have f2' : ∃ ls', H[k]? = some (some ls') := by
   by_cases hk : k = h
   ·subst hk; exact ⟨_, hH⟩
   ·rw [List.getElem?_set_ne (Ne.symm hk)] at f2; exact ⟨ls, f2⟩
  obtain ⟨ls', f3⟩ := f2'
  obtain ⟨r1, r2⟩ := hC.apart k b' ls' f1 f3
  refine ⟨r1, fun k' ls'' g1 g2 => ?_⟩
  by_cases hk : k' = h
  ·subst hk; exact r2 k' _ g1 hH
  ·rw [List.getElem?_set_ne (Ne.symm hk)] at g2; exact r2 k' ls'' g1 g2
 ·intro k b' ls f1 f2
  by_cases hk : k = h
  ·subst hk
   rw [hη] at f1; cases f1
   rw [List.getElem?_set_self hlt] at f2
   simp at f2; subst f2
   exact .inr (.inr (.inr ⟨kk, es, seen', rfl, m, e1, hm.le hle, hs⟩))
  ·rw [List.getElem?_set_ne (Ne.symm hk)] at f2
   have hbb : b' ≠ b := fun e => by subst e; exact hk (p2 k ls f1 f2)
   exact (hC.liveAt k b' ls f1 f2).mono (e2 b' hbb) (fun _ _ h => h.le hle)
theorem mesL_spec {kk : KK} {x : Value} {l : L} {es : List (MK × Value)} (hC : Conc η S w H) (hx : Rel S w η x l) (hr : mesL kk H l = some es) : ∃ b, x = .map (some b) ∧ MapAt w b kk es := by
 unfold mesL at hr
 split at hr
 ·split at hr
  ·rename_i e
   subst e
   cases hr
   obtain ⟨b, rfl, -, hm⟩ := hx.inv_cm
   exact ⟨b, rfl, hm⟩
  ·simp at hr
 ·simp only [Option.map_eq_some_iff] at hr
  obtain ⟨⟨h, es'⟩, hr, rfl⟩ := hr
  unfold mrow at hr
  split at hr
  ·split at hr
   ·rename_i k' es'' hl
    split at hr
    ·rename_i e
     subst e
     cases hr
     obtain ⟨b, rfl, hη⟩ := hx.inv_mref
     exact ⟨b, rfl, hC.mapAt hη (live_iff.1 hl)⟩
    ·simp at hr
   ·simp at hr
  ·simp at hr
theorem mrow_spec {kk : KK} {x : Value} {l : L} {h : Nat} {es : List (MK × Value)} (hC : Conc η S w H) (hx : Rel S w η x l) (hr : mrow kk H l = some (h, es)) : ∃ b, x = .map (some b) ∧ η[h]? = some b ∧ H[h]? = some (some [.mp kk es]) ∧ MapAt w b kk es := by
 unfold mrow at hr
 split at hr
 ·split at hr
  ·rename_i k' es' hl
   split at hr
   ·rename_i e
    subst e
    cases hr
    obtain ⟨b, rfl, hη⟩ := hx.inv_mref
    exact ⟨b, rfl, hη, live_iff.1 hl, hC.mapAt hη (live_iff.1 hl)⟩
   ·simp at hr
  ·simp at hr
 ·simp at hr
theorem mlen_spec {x : Value} {l : L} {es : List (MK × Value)} (hC : Conc η S w H) (hx : Rel S w η x l) (hr : anyMrow H l = some es) : ∃ b ms clock, x = .map (some b) ∧ w.heap[b]? = some (.map ms clock) ∧ ms.size = es.length := by
 unfold anyMrow at hr
 split at hr
 ·split at hr
  ·rename_i k' es' hl
   cases hr
   obtain ⟨b, rfl, hη⟩ := hx.inv_mref
   obtain ⟨ms, clock, h1, h2, -⟩ := hC.mapAt hη (live_iff.1 hl)
   refine ⟨b, ms, clock, rfl, h1, ?_⟩
   have := congrArg List.length h2
   simpa using this
  ·simp at hr
 ·cases hr
  obtain ⟨b, rfl, -, ms, clock, h1, h2, -⟩ := hx.inv_cm
  refine ⟨b, ms, clock, rfl, h1, ?_⟩
  have := congrArg List.length h2
  simpa using this
 ·simp at hr
theorem scalar_val {x : Value} {l : L} {v : Value} (hx : Rel S w η x l) (h : scalar l = some v) : x = v := by
 unfold scalar at h
 split at h
 ·cases h; exact hx.inv_v
 ·cases h; exact hx.inv_v
 ·simp at h
theorem stamp_at {ms : Array MapEntry} {clock : Nat} (hs : Stamped ms clock) {i : Nat} {e : MapEntry} (h : ms[i]? = some e) : ms.find? (fun x => x.born == i) = some e := by
 obtain ⟨-, hb⟩ := hs
 have hlt : i < ms.size := (Array.getElem?_eq_some_iff.1 h).1
 rw [Array.find?_eq_some_iff_getElem]
 have he : ms[i] = e := (Array.getElem?_eq_some_iff.1 h).2
 refine ⟨by rw [hb i e h]; simp, i, hlt, he, fun j hj => ?_⟩
 have := hb j ms[j] (by simp [show j < ms.size by omega])
 simp [this]; omega
theorem key_rel {k : MK} {S : Nat → Prop} {w : World} {η : List Nat} : Rel S w η k.val (keyL k) := by
 cases k with
 | s bs => exact .v _
 | i k n => exact .v _
 | p k a b =>
  refine .agg rfl fun j => ?_
  rcases j with _ | _ | j
  ·exact .v _
  ·exact .v _
  ·exact .any _
theorem ent_fine {x : Value} {l r : L} (hC : Conc η S w H) (hx : Rel S w η x l) (hr : entL H l = some r) : ∃ v, (Instr.entry x).run P w = .ok v w ∧ Rel S w η v r := by
 unfold entL at hr
 split at hr
 ·split at hr
  ·rename_i h k es seen hl
   simp only [Option.bind_eq_some_iff, Option.map_eq_some_iff] at hr
   obtain ⟨i, hi, e, he, rfl⟩ := hr
   obtain ⟨b, rfl, hη⟩ := hx.inv_itp
   obtain ⟨m, hb, hm, -⟩ := hC.itAt hη (live_iff.1 hl)
   obtain ⟨m', hv, -, ms, clock, hmm, hes, -, hst⟩ := hm.inv_cm
   cases hv
   have hsz : ms.size = es.length := by simpa using congrArg List.length hes
   have hback : seen.toArray.back? = some i := by simpa using hi
   obtain ⟨e0, h0⟩ : ∃ e0, ms[i]? = some e0 := ⟨_, Array.getElem?_eq_getElem (by rw [hsz]; exact (List.getElem?_eq_some_iff.1 he).1)⟩
   have hkv := congrArg (fun l => l[i]?) hes
   simp [h0, he] at hkv
   refine ⟨.tuple #[e0.key, e0.val], ?_, .tup rfl fun j => ?_⟩
   ·have hclk : clock = es.length := by rw [hst.1, hsz]
    have hfd := stamp_at hst h0
    have hget : (getObj b).run P w = .ok (.mapIter (some m) es.length seen.toArray es.length) w := by simp [getObj, Sem.run, hb]
    simp only [Instr.entry, Sem.run_bind, hget, Result.andThen_ok, hback, MapKept.run_getObj_map hmm, hclk]
    simp [hfd]
   ·rcases j with _ | _ | j
    ·simp [hkv.1]; exact key_rel
    ·simp [hkv.2]; exact .v _
    ·exact .any _
  ·simp at hr
 ·simp at hr
theorem next_fine {x : Value} {h : Nat} {k : KK} {es : List (MK × Value)} {seen : List Nat} (hC : Conc η S w H) (hx : Rel S w η x (.itp h)) (hl : live H h = some [.it k es seen]) (ty : TypeId) :
  ((∀ i, i < es.length → i ∈ seen) ∧ (Instr.next x false ty).run P w = .ok (.tuple #[.bool false]) w) ∨
  ∃ i, i < es.length ∧ i ∉ seen ∧ ∃ u v w', (Instr.next x false ty).run P w = .ok (.tuple #[.bool true, u, v]) w' ∧ Conc η S w' (H.set h (some [.it k es (seen ++ [i])])) ∧ Le η S w η S w' := by
 obtain ⟨b, rfl, hη⟩ := hx.inv_itp
 obtain ⟨m, hb, hm, hs⟩ := hC.itAt hη (live_iff.1 hl)
 obtain ⟨m', hv, hS, ms, clock, hmm, hes, hkd, hst⟩ := hm.inv_cm
 cases hv
 have hsz : ms.size = es.length := by simpa using congrArg List.length hes
 have hbn : ∀ x ∈ ms.toList, x.born < es.length := fun x hx => by
  obtain ⟨i, hi, rfl⟩ := List.getElem_of_mem hx
  have hi' : i < ms.size := by simpa using hi
  have := hst.2 i ms[i] (by simp [hi'])
  simp [this]; omega
 have hclk : clock = es.length := by rw [hst.1, hsz]
 rcases run_next_at (P := P) w ty b m es.length es.length seen.toArray ms clock hb hmm hbn (Nat.le_refl _) with ⟨h0, hrun⟩ | ⟨e, he, w1, hal, hrun⟩
 ·refine .inl ⟨fun i hi => ?_, hrun⟩
  have hall := all_seen ms seen.toArray h0 ms[i] (by simp [show i < ms.size by omega])
  have hb' := hst.2 i ms[i] (by simp [show i < ms.size by omega])
  rw [hb'] at hall
  simpa using hall
 ·obtain ⟨hem, hes'⟩ := mem_left he
  obtain ⟨i, hi, hei⟩ := List.getElem_of_mem hem
  have hi' : i < ms.size := by simpa using hi
  have hb' : e.born = i := hst.2 i e (by simp [hi', ← hei])
  rw [hb', hclk] at hrun
  rw [hb'] at hes'
  have hnew : i ∉ seen := by simpa using hes'
  refine .inr ⟨i, by omega, hnew, e.key, e.val, _, hrun, ?_⟩
  have hb1 : w1.heap[b]? = some (.mapIter (some m) es.length seen.toArray es.length) := by rcases hal with rfl | rfl <;> exact hb
  have hs' : ∀ j ∈ seen ++ [i], j < es.length := fun j hj => by
   rcases List.mem_append.1 hj with hj | hj
   ·exact hs j hj
   ·simp at hj; omega
  have hC1 : Conc η S w1 H := by rcases hal with rfl | rfl; exact hC; exact ⟨hC.len, hC.lt, hC.Slt, hC.apart, fun h b ls e1 e2 => (hC.liveAt h b ls e1 e2).mono rfl (fun _ _ hr => hr.mono (w := w) (w' := w.drew) (fun _ h => h) (fun _ _ => rfl) (fun _ c _ fr h => ⟨c, fr, h, rfl⟩) (fun _ _ h => h))⟩
  have hm1 : Rel S w1 η (.map (some m)) (.cm k es) := by rcases hal with rfl | rfl; exact hm; exact hm.mono (w := w) (w' := w.drew) (fun _ h => h) (fun _ _ => rfl) (fun _ c _ fr h => ⟨c, fr, h, rfl⟩) (fun _ _ h => h)
  obtain ⟨q1, q2⟩ := hC1.itset hη (live_iff.1 hl) hb1 hm1 hs'
  have epush : seen.toArray.push i = (seen ++ [i]).toArray := by simp
  rw [epush]
  refine ⟨q1, ?_⟩
  rcases hal with rfl | rfl
  ·exact q2
  ·exact ⟨q2.pre, q2.sub, q2.keep, q2.shape, q2.size, q2.frame, q2.new, q2.os, q2.tape, q2.output⟩
end
end Lg


/- All operations of memory and numbers. -/
namespace Lg
open Go
section
variable {P : Program} {η : List Nat} {S : Nat → Prop} {w : World} {H : Heap} {a : Act} {E : Env}
theorem compOA_sound {x : Option Operand} {y : Option A} (h : compOA x = some y) (hE : REnv η S w a.tmps E) : ORel S w η (x.map a.eval) (y.map (arg E)) := by
 cases x with
 | none => simp [compOA] at h; subst h; trivial
 | some x =>
  simp only [compOA, Option.map_eq_some_iff] at h
  obtain ⟨z, hz, rfl⟩ := h
  exact compA_sound hz hE
theorem Fine.val {s : Sem Value} {v : Value} {w' : World} {η' : List Nat} {S' : Nat → Prop} {l : L} {H' : Heap} (h : s.run P w = .ok v w') (hr : Rel S' w' η' v l) (hC : Conc η' S' w' H') (hL : Le η S w η' S' w') :
  Fine P (do pure (Next.value (← s))) η S w l H' := ⟨v, w', η', S', .inl (run_val h), hr, hC, hL⟩
theorem Fine.read {s : Sem Value} {l : L} (hC : Conc η S w H) (h : ∃ v, s.run P w = .ok v w ∧ Rel S w η v l) : Fine P (do pure (Next.value (← s))) η S w l H := by
 obtain ⟨v, h1, h2⟩ := h
 exact .val h1 h2 hC (Le.refl _ _ _)
theorem newVar_fine {t : TypeId} {x : Value} {ls : List L} (hC : Conc η S w H) (hz : ls.length = x.cells.size) (hr : ∀ j, Rel S w η (x.cells.getD j undef) (ls.getD j .any)) {s : Sem Value}
  (h : s.run P w = .ok (.pointer (some ⟨w.heap.size, 0, none⟩)) { w with heap := w.heap.push (.cells x.cells t) }) :
  Fine P (do pure (Next.value (← s))) η S w (.ptr H.length 0) (H ++ [some ls]) := by
 obtain ⟨p1, p2⟩ := hC.push x.cells t ls (by omega) (fun j _ => hr j) (w' := { w with heap := w.heap.push (.cells x.cells t) }) rfl rfl rfl rfl
 exact .val h (by rw [← hC.len]; exact .new (c := x.cells) (t := t) (fr := (0, 0)) (by simp)) p1 p2
theorem freeze_fine (hC : Conc η S w H) {h b : Nat} {cs : List L} {c : Array Value} {t : TypeId} {fr : Nat × Nat} (hη : η[h]? = some b) (hH : H[h]? = some (some cs)) (hb : w.heap[b]? = some (.cells c t fr)) (hf : fr.1 = fr.2 ∨ c.size ≤ fr.1) :
  Conc η S (w.freeze { block := b, off := c.size } 1) H ∧ Le η S w η S (w.freeze { block := b, off := c.size } 1) := by
 obtain ⟨p1, p2⟩ := hC.apart h b cs hη hH
 have hblk : (w.freeze { block := b, off := c.size } 1).heap[b]? = some (.cells c t (if fr.1 == fr.2 then (c.size, c.size + 1) else (min fr.1 c.size, max fr.2 (c.size + 1)))) := by
  simp [World.freeze, Array.getElem?_modify, hb]
 have hoth : ∀ b', b' ≠ b → (w.freeze { block := b, off := c.size } 1).heap[b']? = w.heap[b']? := fun b' hn => by
  simp [World.freeze, Array.getElem?_modify, Ne.symm hn]
 have hsize : (w.freeze { block := b, off := c.size } 1).heap.size = w.heap.size := by simp [World.freeze]
 have hle : Le η S w η S (w.freeze { block := b, off := c.size } 1) := by
  refine ⟨⟨[], by simp, by simp⟩, fun _ h => h, fun b' hb' => hoth b' (fun e => p1 (e ▸ hb')), ?_, by omega, fun b' _ hn => hoth b' (fun e => hn (e ▸ List.mem_of_getElem? hη)), fun _ h => .inl h, rfl, rfl, rfl⟩
  intro b' c' t' fr' hb'
  by_cases hbb : b' = b
  ·subst hbb
   rw [hb] at hb'; cases hb'
   exact ⟨_, _, hblk, rfl⟩
  ·exact ⟨c', fr', by rw [hoth b' hbb]; exact hb', rfl⟩
 refine ⟨⟨hC.len, fun b' hb' => by rw [hsize]; exact hC.lt b' hb', fun b' hb' => by rw [hsize]; exact hC.Slt b' hb', hC.apart, fun k b' ls e1 e2 => ?_⟩, hle⟩
 by_cases hbb : b' = b
 ·subst hbb
  obtain ⟨c', t', fr', r1, r2, r3, r4⟩ := hC.live hb e1 e2
  rw [hb] at r1; cases r1
  refine .inl ⟨c, t, _, hblk, r2, ?_, fun j hj => (r4 j hj).le hle⟩
  split
  ·exact .inr (Nat.le_refl _)
  ·rename_i hne
   rcases hf with hf | hf
   ·exact absurd hf (by simpa using hne)
   ·exact .inr (Nat.le_min.2 ⟨hf, Nat.le_refl _⟩)
 ·exact (hC.liveAt k b' ls e1 e2).mono (hoth b' hbb) (fun _ _ h => h.le hle)
theorem args2 {args : Array Operand} {x y : Operand} (h : args.toList = [x, y]) : args.map a.eval = #[a.eval x, a.eval y] := by
 have : args = #[x, y] := by apply Array.ext'; simpa using h
 subst this; simp
theorem args1 {args : Array Operand} {x : Operand} (h : args.toList = [x]) : args.map a.eval = #[a.eval x] := by
 have : args = #[x] := by apply Array.ext'; simpa using h
 subst this; simp
theorem argsN {args : Array Operand} {x : Operand} {xs : List Operand} (h : args.toList = x :: xs) : (args.map a.eval).toList = a.eval x :: xs.map a.eval := by simp [h]
theorem types2 {ts : Array TypeId} {t u : TypeId} (h : ts.toList = [t, u]) : ts = #[t, u] := by apply Array.ext'; simpa using h
theorem types1 {ts : Array TypeId} {t : TypeId} (h : ts.toList = [t]) : ts = #[t] := by apply Array.ext'; simpa using h
theorem call_builtin {o : Oper} {c : Call} {b : Builtin} (ho : o.op = .call c) (hb : c.callee = .builtin b) :
  ∃ consts, execOp a.eval o = builtin b c.argTypes o.type consts (c.args.map a.eval) := by
 simp only [execOp, ho, resolve, hb, pure_bind, invoke]
 exact ⟨_, rfl⟩
theorem call_fine {dst : Option Tmp} {c : Call} {ty : TypeId} {pos : String} {after : Array Edge} {guard : Option (Nat × Bool)} {i : I} {l : L} {H' : Heap} (hc : compCall P c = some i) (hl : lopO i E H = some (l, H')) (hC : Conc η S w H) (hE : REnv η S w a.tmps E) :
  Fine P (execOp a.eval ⟨dst, .call c, ty, pos, after, guard⟩) η S w l H' := by
 unfold compCall at hc
 split at hc
 ·split at hc
  ·simp only [Option.map_eq_some_iff] at hc
   obtain ⟨xs, -, rfl⟩ := hc
   simp [lopO] at hl
  ·simp at hc
 ·simp only [Option.map_eq_some_iff] at hc
  obtain ⟨xs, -, rfl⟩ := hc
  simp [lopO] at hl
 ·rename_i hb
  split at hc
  ·rename_i t x ht hx
   have ht := types1 ht
   obtain ⟨consts, hcb⟩ := call_builtin (a := a) (o := ⟨dst, .call c, ty, pos, after, guard⟩) rfl hb
   rw [hcb, ht, args1 hx]
   split at hc
   ·rename_i e hu
    simp only [Option.map_eq_some_iff] at hc
    obtain ⟨y, hy, rfl⟩ := hc
    simp only [lopO, Option.map_eq_some_iff, Prod.mk.injEq] at hl
    obtain ⟨r, hr, rfl, rfl⟩ := hl
    exact .read hC (len_fine ⟨fun _ => ⟨e, hu⟩, fun h => by simp at h⟩ (compA_sound hy hE) hr)
   ·rename_i hu
    simp only [Option.map_eq_some_iff] at hc
    obtain ⟨y, hy, rfl⟩ := hc
    simp only [lopO, Option.map_eq_some_iff, Prod.mk.injEq] at hl
    obtain ⟨r, hr, rfl, rfl⟩ := hl
    exact .read hC (len_fine ⟨fun h => by simp at h, fun _ => hu⟩ (compA_sound hy hE) hr)
   ·rename_i n e hu
    cases hc
    simp only [lopO, Option.some.injEq, Prod.mk.injEq, arg] at hl
    obtain ⟨rfl, rfl⟩ := hl
    exact .read hC ⟨.int .i64 n, by simp [Builtin.len_, run_underlying hu, goInt], .v _⟩
   ·rename_i kt et hu
    simp only [Option.map_eq_some_iff] at hc
    obtain ⟨y, hy, rfl⟩ := hc
    simp only [lopO, Option.map_eq_some_iff, Prod.mk.injEq] at hl
    obtain ⟨es, hr, rfl, rfl⟩ := hl
    obtain ⟨b, ms, clock, hx, hb, hsz⟩ := mlen_spec hC (compA_sound hy hE) hr
    exact .read hC ⟨.int .i64 es.length, by rw [hx]; simp [Builtin.len_, run_underlying hu, MapKept.run_getObj_map hb, goInt, Result.andThen, hsz], .v _⟩
   ·simp at hc
  ·simp at hc
 ·rename_i hb
  split at hc
  ·rename_i t u x y ht hx
   have ht := types2 ht
   obtain ⟨consts, hcb⟩ := call_builtin (a := a) (o := ⟨dst, .call c, ty, pos, after, guard⟩) rfl hb
   rw [hcb, ht, args2 hx]
   split at hc
   ·rename_i e e' hu hu2
    simp only [Option.bind_eq_some_iff] at hc
    obtain ⟨i', hi, z, hz, hc⟩ := hc
    split at hc
    ·simp at hc
    ·rename_i hno
     simp only [not_or] at hno
     simp only [Option.bind_eq_some_iff, Option.map_eq_some_iff] at hc
     obtain ⟨x', hx', y', hy', rfl⟩ := hc
     simp only [lopO] at hl
     obtain ⟨v, w', η', r1, r2, r3, r4⟩ := append_fine (P := P) (ty := ty) hC hu ⟨e', hu2⟩ hi hz (by omega) hno.2.1 hno.1 (compA_sound hx' hE) (compA_sound hy' hE) hl
     exact .val r1 r2 r3 r4
   ·rename_i e hu hu2
    simp only [Option.bind_eq_some_iff] at hc
    obtain ⟨i', hi, z, hz, hc⟩ := hc
    split at hc
    ·simp at hc
    ·rename_i hno
     simp only [not_or] at hno
     simp only [Option.bind_eq_some_iff, Option.map_eq_some_iff] at hc
     obtain ⟨x', hx', y', hy', rfl⟩ := hc
     simp only [lopO] at hl
     split at hl
     ·rename_i k e1 e2
      split at hl
      ·rename_i hk
       cases hl
       have h1 := compA_sound hx' hE
       have h2 := compA_sound hy' hE
       rw [e1] at h1
       rw [e2] at h2
       obtain ⟨v, w', η', r1, r2, r3, r4⟩ := appz_fine (P := P) (ty := ty) hC hu hu2 hi hz (by omega) hno.2.1 hno.1 hk.1 hk.2
       rw [h1.inv_v, h2.inv_v]
       exact .val r1 r2 r3 r4
      ·simp at hl
     ·rename_i e1 e2
      split at hl
      ·rename_i hk
       cases hl
       have h1 := compA_sound hx' hE
       have h2 := compA_sound hy' hE
       rw [e1] at h1
       rw [e2] at h2
       obtain ⟨ad, e0⟩ : ∃ ad, a.eval x = .slice ad 0 0 := by
        generalize a.eval x = v0 at h1
        cases h1 with
        | sl0 q1 q2 => exact ⟨_, by rw [q1 rfl]⟩
        | sl cs q2 q3 q4 q5 qS qc qr => exact ⟨_, by rw [q4 rfl]; rfl⟩
       obtain ⟨v, w', η', r1, r2, r3, r4⟩ := appz_fine (P := P) (ty := ty) (ad := ad) hC hu hu2 hi hz (by omega) hno.2.1 hno.1 hk.1 hk.2
       rw [e0, h2.inv_v]
       exact .val r1 r2 r3 r4
      ·simp at hl
     ·simp at hl
   ·simp at hc
  ·simp at hc
 ·rename_i hb
  split at hc
  ·rename_i t x ht hx
   have ht := types1 ht
   obtain ⟨consts, hcb⟩ := call_builtin (a := a) (o := ⟨dst, .call c, ty, pos, after, guard⟩) rfl hb
   rw [hcb, ht, args1 hx]
   split at hc
   ·rename_i e hu
    simp only [Option.map_eq_some_iff] at hc
    obtain ⟨y, hy, rfl⟩ := hc
    simp only [lopO] at hl
    split at hl
    ·rename_i e1
     cases hl
     have h1 := compA_sound hy hE
     rw [e1] at h1
     rw [h1.inv_v]
     exact .read hC ⟨.int .i64 0, by simp [Builtin.cap_, run_underlying hu, goInt, Result.andThen], .v _⟩
    ·simp at hl
   ·simp at hc
  ·simp at hc
 ·rename_i hb
  split at hc
  ·rename_i t u x y ht hx
   have ht := types2 ht
   obtain ⟨consts, hcb⟩ := call_builtin (a := a) (o := ⟨dst, .call c, ty, pos, after, guard⟩) rfl hb
   rw [hcb, ht, args2 hx]
   split at hc
   ·rename_i e e' hu hu2
    simp only [Option.bind_eq_some_iff] at hc
    obtain ⟨s, hs, hc⟩ := hc
    split at hc
    ·simp at hc
    ·rename_i h0
     simp only [Option.bind_eq_some_iff, Option.map_eq_some_iff] at hc
     obtain ⟨x', hx', y', hy', rfl⟩ := hc
     simp only [lopO] at hl
     obtain ⟨v, w', r1, r2, r3, r4⟩ := copy_fine (P := P) (ty := ty) hC hu hs h0 (compA_sound hx' hE) (compA_sound hy' hE) hl
     exact .val r1 r2 r3 r4
   ·simp at hc
  ·simp at hc
 ·rename_i hb
  split at hc
  ·rename_i x xs hx
   obtain ⟨consts, hcb⟩ := call_builtin (a := a) (o := ⟨dst, .call c, ty, pos, after, guard⟩) rfl hb
   rw [hcb]
   simp only [Option.bind_eq_some_iff, Option.map_eq_some_iff] at hc
   obtain ⟨x', hx', ys, hys, rfl⟩ := hc
   simp only [lopO, Option.map_eq_some_iff, Prod.mk.injEq] at hl
   obtain ⟨r, hr, rfl, rfl⟩ := hl
   obtain ⟨e1, e2⟩ := compAs_sound hE hys
   obtain ⟨v, f1, f2⟩ := mm_fine (P := P) (compA_sound hx' hE) (by simp [e1]) e2 hr
   refine .read (s := Builtin.max_ c.argTypes ty (c.args.map a.eval)) hC ⟨v, ?_, f2⟩
   simp only [Builtin.max_, argsN hx]
   simpa using f1
  ·simp at hc
 ·rename_i hb
  split at hc
  ·rename_i x xs hx
   obtain ⟨consts, hcb⟩ := call_builtin (a := a) (o := ⟨dst, .call c, ty, pos, after, guard⟩) rfl hb
   rw [hcb]
   simp only [Option.bind_eq_some_iff, Option.map_eq_some_iff] at hc
   obtain ⟨x', hx', ys, hys, rfl⟩ := hc
   simp only [lopO, Option.map_eq_some_iff, Prod.mk.injEq] at hl
   obtain ⟨r, hr, rfl, rfl⟩ := hl
   obtain ⟨e1, e2⟩ := compAs_sound hE hys
   obtain ⟨v, f1, f2⟩ := mm_fine (P := P) (compA_sound hx' hE) (by simp [e1]) e2 hr
   refine .read (s := Builtin.min_ c.argTypes ty (c.args.map a.eval)) hC ⟨v, ?_, f2⟩
   simp only [Builtin.min_, argsN hx]
   simpa using f1
  ·simp at hc
 ·simp at hc
set_option maxHeartbeats 1000000 in
theorem lopO_fine {o : Oper} {i : I} {l : L} {H' : Heap} (hc : compOp P o.op = some i) (hl : lopO i E H = some (l, H')) (hC : Conc η S w H) (hE : REnv η S w a.tmps E) : Fine P (execOp a.eval o) η S w l H' := by
 obtain ⟨dst, op, ty, pos, after, guard⟩ := o
 cases op <;> simp only [compOp] at hc <;> first | (simp at hc; done) | skip
 case move x =>
  simp only [Option.map_eq_some_iff] at hc
  obtain ⟨y, hy, rfl⟩ := hc
  simp only [lopO, Option.some.injEq, Prod.mk.injEq] at hl
  obtain ⟨rfl, rfl⟩ := hl
  exact .same hC rfl (compA_sound hy hE)
 case assign x =>
  simp only [Option.map_eq_some_iff] at hc
  obtain ⟨y, hy, rfl⟩ := hc
  simp only [lopO, Option.some.injEq, Prod.mk.injEq] at hl
  obtain ⟨rfl, rfl⟩ := hl
  exact .same hC rfl (compA_sound hy hE)
 case pick c x y =>
  simp only [Option.bind_eq_some_iff, Option.map_eq_some_iff] at hc
  obtain ⟨c', hc', x', hx', y', hy', rfl⟩ := hc
  simp only [lopO] at hl
  split at hl
  ·rename_i t ht
   simp only [Option.some.injEq, Prod.mk.injEq] at hl
   obtain ⟨rfl, rfl⟩ := hl
   have := compA_sound hc' hE
   rw [ht] at this
   have hcv := this.inv_v
   refine .same hC (v := if t = true then a.eval x else a.eval y) ?_ ?_
   ·simp only [execOp, hcv, asBool, Sem.run_bind, Sem.run_pure, Result.andThen_ok]
   ·cases t
    ·exact compA_sound hy' hE
    ·exact compA_sound hx' hE
  ·simp at hl
 case alloc t =>
  simp only [zeroOf, Option.map_eq_some_iff, Option.bind_eq_some_iff] at hc
  obtain ⟨z', ⟨z, ⟨i', hi, hz⟩, rfl⟩, rfl⟩ := hc
  simp only [lopO, Option.some.injEq, Prod.mk.injEq] at hl
  obtain ⟨rfl, rfl⟩ := hl
  obtain ⟨e1, e2⟩ := zero_cells (S := S) (w := w) (η := η) z
  refine newVar_fine (t := t) (x := z) hC e1 e2 ?_
  simp only [Instr.alloc, Sem.run_bind, run_zero hi hz, Result.andThen_ok, newVar, newRow, run_newObj, Sem.run_pure]
 case box t x =>
  simp only [Option.map_eq_some_iff] at hc
  obtain ⟨y, hy, rfl⟩ := hc
  simp only [lopO] at hl
  split at hl
  ·rename_i htop
   simp only [Option.some.injEq, Prod.mk.injEq] at hl
   obtain ⟨rfl, rfl⟩ := hl
   obtain ⟨e1, e2⟩ := (compA_sound hy hE).cells htop
   refine newVar_fine (t := t) (x := a.eval x) hC e1.symm e2 ?_
   simp only [Instr.box, Sem.run_bind, newVar, newRow, run_newObj, Result.andThen_ok, Sem.run_pure]
  ·simp at hl
 case build t parts =>
  simp only [Option.bind_eq_some_iff] at hc
  obtain ⟨i', hi, z, hz, hc⟩ := hc
  obtain ⟨e1, e2⟩ := zero_cells (S := S) (w := w) (η := η) z
  have hparts : (parts.map fun (p : Nat × Operand) => (p.1, a.eval p.2)).toList = parts.toList.map fun p => (p.1, a.eval p.2) := by simp
  split at hc
  ·rename_i fs hu
   split at hc
   ·rename_i hall
    simp only [Option.map_eq_some_iff] at hc
    obtain ⟨qs, hq, rfl⟩ := hc
    simp only [lopO, Option.map_eq_some_iff, Prod.mk.injEq] at hl
    obtain ⟨ls, hf, rfl, rfl⟩ := hl
    have hmap : (fs.mapM fun f => do pure (f.offset, ← Go.sizeOf f.type) : Sem (Array (Nat × Nat))).run P w = .ok (fs.map fun f => (f.offset, (szOf P f.type).getD 0)) w := by
     refine run_mapM _ _ fs fun f hf => ?_
     obtain ⟨s, hs⟩ := Option.isSome_iff_exists.1 (Array.all_eq_true_iff_forall_mem.1 hall f hf)
     simp [run_sz hs, hs]
    obtain ⟨cs, g1, g2, g3⟩ := fill_fine (fieldPl P fs) (fun i => (fs.map fun f => (f.offset, (szOf P f.type).getD 0))[i]?) (fun i p hp => by
     simp only [fieldPl, Option.bind_eq_some_iff, Option.map_eq_some_iff] at hp
     obtain ⟨f, hf, s, hs, rfl⟩ := hp
     simp [hf, hs]) hE hq e1.symm e2 hf
    refine .val (v := .agg cs) ?_ (.agg g2 g3) hC (Le.refl _ _ _)
    simp only [Instr.build, Sem.run_bind, run_zero hi hz, Result.andThen_ok, run_underlying hu, hmap, hparts, g1, Sem.run_pure]
   ·simp at hc
  ·rename_i n e hu
   simp only [Option.bind_eq_some_iff, Option.map_eq_some_iff] at hc
   obtain ⟨s, hs, qs, hq, rfl⟩ := hc
   simp only [lopO, Option.map_eq_some_iff, Prod.mk.injEq] at hl
   obtain ⟨ls, hf, rfl, rfl⟩ := hl
   obtain ⟨cs, g1, g2, g3⟩ := fill_fine (fun i => some (i * s, s)) (fun i => some (i * s, s)) (fun _ _ h => h) hE hq e1.symm e2 hf
   refine .val (v := .agg cs) ?_ (.agg g2 g3) hC (Le.refl _ _ _)
   simp only [Instr.build, Sem.run_bind, run_zero hi hz, Result.andThen_ok, run_underlying hu, run_sz hs, hparts, g1, Sem.run_pure]
  ·simp at hc
 case buildSlice t n parts =>
  split at hc
  ·rename_i e hu
   simp only [Option.bind_eq_some_iff] at hc
   obtain ⟨i', hi, z, hz, hc⟩ := hc
   split at hc
   ·simp at hc
   ·rename_i hno
    simp only [not_or, Nat.not_lt] at hno
    obtain ⟨n1, n2, n3⟩ := hno
    simp only [Option.map_eq_some_iff] at hc
    obtain ⟨qs, hq, rfl⟩ := hc
    simp only [lopO, Option.map_eq_some_iff, Prod.mk.injEq] at hl
    obtain ⟨ls, hf, rfl, rfl⟩ := hl
    obtain ⟨e1, e2⟩ := zero_cells (S := S) (w := w) (η := η) z
    have hz2 : z.cells.size = i'.size := by omega
    have hsz : (Go.sizeOf e).run P w = .ok i'.size w := by simp [Go.sizeOf, run_info hi]
    have hparts : (parts.map fun (p : Nat × Operand) => (p.1, a.eval p.2)).toList = parts.toList.map fun p => (p.1, a.eval p.2) := by simp
    obtain ⟨cs, g1, g2, g3⟩ := fill_fine (fun j => some (j * i'.size, i'.size)) (fun j => some (j * i'.size, i'.size)) (fun _ _ h => h) hE hq (cells := (Array.range (n * z.cells.size)).map (z.cells[· % z.cells.size]!)) (zs := zeros n (ofV z).cells)
     (by simp [zeros_length e1]) (fun j => by
      by_cases hj : j < n * z.cells.size
      ·exact rel_zeros e1 e2 n j hj
      ·rw [getD_of_ge _ _ (by rw [zeros_length e1]; omega)]; exact .any _) hf
    have hlen : ls.length = n * i'.size := by
     have : ∀ (ps : List (Nat × Nat × L)) (zs ls : List L), lfill zs ps = some ls → ls.length = zs.length := by
      intro ps
      induction ps with
      | nil => intro zs ls h; simp [lfill] at h; rw [h]
      | cons p ps ih =>
       intro zs ls h
       obtain ⟨o, s, l⟩ := p
       simp only [lfill] at h
       split at h
       ·rw [ih _ _ h, setCells_length]
       ·simp at h
     rw [this _ _ _ hf, zeros_length e1, hz2]
    obtain ⟨p1, p2⟩ := hC.push cs e ls (by omega) (fun j _ => g3 j) (w' := { w with heap := w.heap.push (.cells cs e) }) rfl rfl rfl rfl
    refine .val (v := .slice (some ⟨w.heap.size, 0, none⟩) n n) ?_ ?_ p1 p2
    ·simp only [Instr.buildSlice, Sem.run_bind, run_underlying hu, Result.andThen_ok, hsz]
     rw [if_neg (by omega)]
     by_cases h0 : n * i'.size = 0
     ·simp only [if_pos h0, Sem.run_bind, Sem.run_pure, Result.andThen_ok, hparts]
      have : Instr.fill (fun i => some (i * i'.size, i'.size)) ((Array.range (n * i'.size)).map (fun x => (#[] : Array Value)[x % (#[] : Array Value).size]!)) (parts.toList.map fun p => (p.1, a.eval p.2)) = some cs := by
       rw [← g1, hz2, h0]; simp [Array.range_zero']
      simp only [this, newRow, run_newObj, Sem.run_bind, Result.andThen_ok, Sem.run_pure]
     ·simp only [if_neg h0, Sem.run_bind, run_zero hi hz, Sem.run_pure, Result.andThen_ok, hparts]
      rw [hz2] at g1
      simp only [hz2, g1, newRow, run_newObj, Sem.run_bind, Result.andThen_ok, Sem.run_pure]
    ·rw [← hC.len]
     have hcap : n ≤ maxLen := by
      have : n ≤ n * i'.size := Nat.le_mul_of_pos_right _ (by omega)
      simp only [maxLen]; omega
     exact .view (b := w.heap.size) (by simp) (c := cs) (t := e) (fr := (0, 0)) (by simp) (by omega) (Nat.le_refl _) hcap (fun _ => rfl)
  ·simp at hc
 case load t x =>
  simp only [Option.bind_eq_some_iff, Option.map_eq_some_iff] at hc
  obtain ⟨s, hs, ag, hg, y, hy, rfl⟩ := hc
  simp only [lopO, Option.map_eq_some_iff, Prod.mk.injEq] at hl
  obtain ⟨l', hl', rfl, rfl⟩ := hl
  exact .read hC (load_fine hC hs hg (compA_sound hy hE) hl')
 case store t x y =>
  simp only [Option.bind_eq_some_iff, Option.map_eq_some_iff] at hc
  obtain ⟨s, hs, x', hx, y', hy, rfl⟩ := hc
  simp only [lopO, Option.map_eq_some_iff, Prod.mk.injEq] at hl
  obtain ⟨H'', hl', rfl, rfl⟩ := hl
  obtain ⟨w', r1, r2, r3⟩ := store_fine (P := P) hC hs (compA_sound hx hE) (compA_sound hy hE) hl'
  exact ⟨undef, w', η, S, .inr ⟨by simp only [execOp, Sem.run_bind, r1, Result.andThen_ok, Sem.run_pure], rfl⟩, .no, r2, r3⟩
 case nilCheck x =>
  simp only [Option.map_eq_some_iff] at hc
  obtain ⟨y, hy, rfl⟩ := hc
  have hx := compA_sound hy hE
  simp only [lopO] at hl
  split at hl
  ·rename_i h o e
   cases hl
   rw [e] at hx
   obtain ⟨b, hb, hη, c0, t0, fr0, hb0⟩ := hx.inv_ptr
   exact .same hC (v := .pointer (some ⟨b, o, none⟩)) (by simp only [execOp, hb, Sem.run_pure]) (.ptr hη hb0)
  ·rename_i ls e
   cases hl
   rw [e] at hx
   obtain ⟨b, o, cs, hb, -⟩ := hx.inv_pp
   exact .same hC (v := .pointer (some ⟨b, o, none⟩)) (by simp only [execOp, hb, Sem.run_pure]) (by rw [← hb]; exact hx)
  ·simp at hl
 case sliceToArrayPointer t x =>
  split at hc
  ·rename_i n e' hu
   simp only [Option.map_eq_some_iff] at hc
   obtain ⟨y, hy, rfl⟩ := hc
   have hx := compA_sound hy hE
   simp only [lopO] at hl
   split at hl
   ·rename_i es h off len cl e
    split at hl
    ·rename_i hcond
     obtain ⟨h0, h1⟩ := hcond
     cases hl
     rw [e] at hx
     rcases hx.inv_view with ⟨ad, -, hz⟩ | ⟨b, cap, c, t', fr, hv, hη, hb, hsz, hn', hm, hcl⟩
     ·omega
     ·refine .same hC (v := .pointer (some ⟨b, off, none⟩)) ?_ (.ptr hη hb)
      simp only [execOp, hv, Instr.arrayAt, Sem.run_bind, run_underlying hu, Result.andThen_ok]
      rw [if_neg (by omega)]
      simp only [Sem.run_pure, Result.andThen_ok]
    ·simp at hl
   ·rename_i es cl xs e
    split at hl
    ·rename_i hcond
     obtain ⟨h0, h1⟩ := hcond
     cases hl
     rw [e] at hx
     obtain ⟨ad, cap, hv, c1, c2, c3, c4, c5⟩ := hx.inv_sl
     obtain ⟨b, o, cs, rfl, hS, hcl, hr⟩ := c5 (by omega)
     have hfl : (flat es xs).length = xs.length * es := flat_length c4
     refine .same hC (v := .pointer (some ⟨b, o, none⟩)) ?_ (.pp cs (by rw [hfl]; exact hS) (by rw [hfl]; exact hcl) hr)
     simp only [execOp, hv, Instr.arrayAt, Sem.run_bind, run_underlying hu, Result.andThen_ok]
     rw [if_neg (by omega)]
     simp only [Sem.run_pure, Result.andThen_ok]
    ·simp at hl
   ·simp at hl
  ·simp at hc
 case binOp op t x y t' =>
  split at hc
  ·simp only [Option.map_eq_some_iff] at hc
   obtain ⟨x', hx, rfl⟩ := hc
   simp [lopO] at hl
  split at hc
  ·rename_i k hk
   simp only [Option.bind_eq_some_iff, Option.map_eq_some_iff] at hc
   obtain ⟨x', hx, y', hy, rfl⟩ := hc
   have hX := compA_sound hx hE
   have hY := compA_sound hy hE
   simp only [lopO] at hl
   split at hl
   ·rename_i k1 a1 k2 b1 k3 c1 k4 d1 ex ey
    split at hl
    ·rename_i hcond
     obtain ⟨rfl, rfl, rfl, rfl⟩ := hcond
     cases hl
     rw [ex] at hX
     rw [ey] at hY
     have two : ∀ {v : Value} {k : IntKind} {p q : Int}, Rel S w η v (.agg [.v (.int k p), .v (.int k q)]) → v = .agg #[.int k p, .int k q] := fun {v k p q} h => by
      obtain ⟨cs, rfl, hz, hr⟩ := h.inv_agg
      have h0 := (hr 0).inv_v
      have h1 := (hr 1).inv_v
      simp at hz
      congr 1
      apply Array.ext
      ·simp [hz]
      ·intro j hj1 hj2
       have : j = 0 ∨ j = 1 := by simp at hj2; omega
       rcases this with rfl | rfl
       ·simpa [Array.getD_eq_getD_getElem?, hz] using h0
       ·simpa [Array.getD_eq_getD_getElem?, hz] using h1
     have vx := two hX
     have vy := two hY
     unfold eq2K at hk
     split at hk
     rotate_left
     ·simp at hk
     rename_i hop
     split at hk
     rotate_left
     ·simp at hk
     rename_i e' hu
     split at hk
     rotate_left
     ·simp at hk
     rename_i k' he'
     split at hk
     rotate_left
     ·simp at hk
     rename_i hcc
     simp only [Bool.and_eq_true, beq_iff_eq, Bool.not_eq_true'] at hcc
     obtain ⟨⟨⟨hc1, hc2⟩, hc3⟩, hc4⟩ := hcc
     obtain ⟨inf, hinf⟩ := Option.isSome_iff_exists.1 hc1
     simp only [Option.some.injEq] at hk
     subst hk
     have hop' : op = .eql := by cases op <;> simp_all
     subst hop'
     refine .read hC ⟨_, ?_, .v _⟩
     rw [vx, vy]
     exact run_eq2 hu he' hinf hc2 hc3 hc4 a1 b1 c1 d1
    ·simp at hl
   ·simp at hl
  simp only [Option.bind_eq_some_iff, Option.map_eq_some_iff] at hc
  obtain ⟨x', hx, y', hy, rfl⟩ := hc
  simp only [lopO, Option.map_eq_some_iff, Prod.mk.injEq] at hl
  obtain ⟨l', hl', rfl, rfl⟩ := hl
  exact .read hC (run_bin (fun h => by split at h <;> first | assumption | simp at h) hl' (compA_sound hx hE) (compA_sound hy hE))
 case unOp op t x =>
  simp only [Option.map_eq_some_iff] at hc
  obtain ⟨x', hx, rfl⟩ := hc
  simp only [lopO, Option.map_eq_some_iff, Prod.mk.injEq] at hl
  obtain ⟨l', hl', rfl, rfl⟩ := hl
  exact .read hC (run_un hl' (compA_sound hx hE))
 case convert src dst x =>
  split at hc
  ·rename_i k1 k2 h1 h2
   simp only [Option.map_eq_some_iff] at hc
   obtain ⟨y, hy, rfl⟩ := hc
   simp only [lopO] at hl
   split at hl
   ·rename_i k n e
    cases hl
    have hx := compA_sound hy hE
    rw [e] at hx
    refine .read hC ⟨_, ?_, .v _⟩
    simp only [hx.inv_v, convert, Sem.run_bind, run_underlying h1, run_underlying h2, Result.andThen_ok, Conv.intToInt, Sem.run_pure]
   ·simp at hl
  ·rename_i e1 e2 h1 h2
   split at hc
   ·rename_i h3
    split at hc
    ·rename_i heq
     simp only [Option.map_eq_some_iff] at hc
     obtain ⟨y, hy, rfl⟩ := hc
     simp only [lopO] at hl
     split at hl
     ·rename_i es h off n cl e
      split at hl
      ·rename_i hcond
       obtain ⟨hn, hlv⟩ := hcond
       cases hl
       have hx := compA_sound hy hE
       rw [e] at hx
       rcases hx.inv_view with ⟨ad, -, h0⟩ | ⟨b, cap, c, t', fr, hv, hη, hb, hsz, hn', hm, hcl⟩
       ·omega
       obtain ⟨cs, hcs⟩ := Option.isSome_iff_exists.1 hlv
       have hH := live_iff.1 hcs
       obtain ⟨c0, t0, fr0, q1, q2, q3, q4⟩ := hC.live hb hη hH
       rw [hb] at q1; cases q1
       obtain ⟨p1, p2⟩ := hC.apart h b cs hη hH
       have hfz := freeze_fine hC hη hH hb q3
       refine ⟨.slice (some ⟨b, off, none⟩) n cap, _, η, S, .inl ?_, ?_, hfz.1, hfz.2⟩
       ·simp only [execOp, hv, convert, Sem.run_bind, run_underlying h1, run_underlying h2, run_underlying h3, Result.andThen_ok, heq]
        simp only [markStringish, Sem.run_bind, run_shape, Result.andThen_ok, World.shape?, hb, run_freeze, Sem.run_pure]
       ·exact (by rw [← hv]; exact hx : Rel S w η (.slice (some ⟨b, off, none⟩) n cap) _).le hfz.2
      ·simp at hl
     ·simp at hl
    ·simp at hc
   ·simp at hc
  ·rename_i e1 h1 h2
   split at hc
   ·rename_i h3
    simp only [Option.map_eq_some_iff] at hc
    obtain ⟨y, hy, rfl⟩ := hc
    simp only [lopO, Option.map_eq_some_iff, Option.bind_eq_some_iff, Prod.mk.injEq] at hl
    obtain ⟨bs, ⟨ys, hys, hbs⟩, rfl, rfl⟩ := hl
    have hx := compA_sound hy hE
    have hrun := b2s_fine (P := P) hC hx hys hbs
    obtain ⟨ad, m, cap, hv, -⟩ := lcells_reads (P := P) hC hx hys
    refine .read hC ⟨_, ?_, .v _⟩
    rw [hv] at hrun ⊢
    simp only [convert, Sem.run_bind, run_underlying h1, run_underlying h2, run_underlying h3, Result.andThen_ok, hrun]
   ·simp at hc
  ·rename_i k1 h1 h2
   simp only [Option.map_eq_some_iff] at hc
   obtain ⟨y, hy, rfl⟩ := hc
   simp only [lopO, Option.map_eq_some_iff, Prod.mk.injEq] at hl
   obtain ⟨l', hl, rfl, rfl⟩ := hl
   unfold r2sL at hl
   split at hl
   ·rename_i k n e
    split at hl
    ·rename_i hn
     cases hl
     have hx := compA_sound hy hE
     rw [e] at hx
     refine .read hC ⟨_, ?_, .v _⟩
     have henc : Utf8.encode n = ⟨#[UInt8.ofNat n.toNat]⟩ := by
      have hv : Utf8.valid n = true := by simp [Utf8.valid]; omega
      unfold Utf8.encode
      simp only [hv, if_true]
      rw [if_pos (by omega)]
     rw [hx.inv_v, run_convert_int_string w src dst k n (by rw [h1]; rfl) h2, henc]
    ·simp at hl
   ·simp at hl
  ·simp at hc
 case range t x =>
  split at hc
  ·rename_i kt et hu
   simp only [Option.map_eq_some_iff] at hc
   obtain ⟨y, hy, rfl⟩ := hc
   simp only [lopO] at hl
   split at hl
   ·rename_i k es e1
    cases hl
    have h1 := compA_sound hy hE
    rw [e1] at h1
    obtain ⟨m, hv, hS, ms, clock, hm, hes, hkd, hst, hbn⟩ := h1.inv_cm
    have hsz : ms.size = es.length := by simpa using congrArg List.length hes
    rw [hst, hsz] at hm
    have hlt := hC.Slt m hS
    obtain ⟨p1, p2⟩ := hC.pushO (.mapIter (some m) es.length #[] es.length) [.it k es []] (w' := { w with heap := w.heap.push (.mapIter (some m) es.length #[] es.length) }) (fun hle => .inr (.inr (.inr ⟨k, es, [], rfl, m, by simp, (Rel.cm hS ⟨ms, clock, by rw [hst, hsz]; exact hm, hes, hkd, hst, hbn⟩ : Rel S w η _ _).le hle, by simp⟩))) rfl rfl rfl rfl
    refine .val (v := .pointer (some ⟨w.heap.size, 0, none⟩)) ?_ (by rw [← hC.len]; exact .itp (by simp)) p1 p2
    simp only [hv, Instr.range, Sem.run_bind, run_underlying hu, Result.andThen_ok, MapKept.run_getObj_map hm, Sem.run_pure, run_newObj]
   ·simp at hl
  ·simp at hc
 case next x s =>
  split at hc
  ·simp at hc
  ·simp only [Option.map_eq_some_iff] at hc
   obtain ⟨y, hy, rfl⟩ := hc
   simp [lopO] at hl
 case entry x =>
  simp only [Option.map_eq_some_iff] at hc
  obtain ⟨y, hy, rfl⟩ := hc
  simp only [lopO, Option.map_eq_some_iff, Prod.mk.injEq] at hl
  obtain ⟨r, hr, rfl, rfl⟩ := hl
  exact .read hC (ent_fine hC (compA_sound hy hE) hr)
 case makeMap t r =>
  cases r with
  | some r => simp at hc
  | none =>
   simp only [Option.isNone_none, if_true, Option.map_eq_some_iff] at hc
   obtain ⟨kk, -, rfl⟩ := hc
   simp only [lopO, Option.some.injEq, Prod.mk.injEq] at hl
   obtain ⟨rfl, rfl⟩ := hl
   obtain ⟨p1, p2⟩ := hC.pushO (.map #[] 0) [.mp kk []] (w' := { w with heap := w.heap.push (.map #[] 0) }) (fun _ => .inr (.inl ⟨kk, [], rfl, #[], 0, by simp, rfl, by simp, rfl, by simp⟩)) rfl rfl rfl rfl
   refine .val (v := .map (some w.heap.size)) ?_ (by rw [← hC.len]; exact .mref (by simp)) p1 p2
   simp only [Option.map_none, Instr.makeMap, Sem.run_bind, Sem.run_pure, Result.andThen_ok, run_newObj]
 case mapUpdate t m k v =>
  simp only [Option.bind_eq_some_iff, Option.map_eq_some_iff] at hc
  obtain ⟨kk, hkk, x', hx, y', hy, z', hz, rfl⟩ := hc
  obtain ⟨kt, et, hm, hT⟩ := mapK_spec hkk
  simp only [lopO, msetL, Option.bind_eq_some_iff] at hl
  obtain ⟨⟨h, es⟩, hr, key, hkey, v', hv', hl⟩ := hl
  split at hl
  ·rename_i hkd
   cases hl
   obtain ⟨b, e1, hη, hH, hmap⟩ := mrow_spec hC (compA_sound hx hE) hr
   obtain ⟨ms, clock, r1, r2, r3, r4⟩ := mapUpdate_fine (P := P) hm hT hmap hkd v'
   have e2 := keyOf_val (compA_sound hy hE) hkey
   have e3 := scalar_val (compA_sound hz hE) hv'
   obtain ⟨m0, c0, hb0, -⟩ := hmap
   obtain ⟨p1, p2⟩ := hC.mset hη hH ms clock r2 r3 r4 ⟨m0, c0, hb0⟩
   exact ⟨undef, _, η, S, .inr ⟨by simp only [execOp, e1, e2, e3, Sem.run_bind, r1, Result.andThen_ok, Sem.run_pure], rfl⟩, .no, p1, p2⟩
  ·simp at hl
 case lookup t m k comma =>
  simp only [Option.bind_eq_some_iff, Option.map_eq_some_iff] at hc
  obtain ⟨kk, hkk, z, hz, x', hx, y', hy, rfl⟩ := hc
  obtain ⟨kt, et, hm, hT⟩ := mapK_spec hkk
  simp only [lopO, Option.map_eq_some_iff, mgetL, Option.bind_eq_some_iff, Prod.mk.injEq] at hl
  obtain ⟨l', ⟨es, hr, key, hkey, hl⟩, rfl, rfl⟩ := hl
  split at hl
  ·rename_i hkd
   cases hl
   obtain ⟨b, e1, hmap⟩ := mesL_spec hC (compA_sound hx hE) hr
   have e2 := keyOf_val (compA_sound hy hE) hkey
   obtain ⟨i', hi, hz'⟩ : ∃ i, P.info? et = some i ∧ i.zero = some z := by
    simp only [mapZ, hm, Option.bind_eq_some_iff] at hz
    obtain ⟨i, hi, z0, h0, hz⟩ := hz
    refine ⟨i, hi, ?_⟩
    split at hz
    ·cases hz; exact h0
    ·cases hz; exact h0
    ·simp at hz
   obtain ⟨v, r1, r2⟩ := lookup_fine (P := P) (η := η) (S := S) hm hT hi hz' hmap hkd comma
   exact .read hC ⟨v, by rw [e1, e2]; exact r1, r2⟩
  ·simp at hl
 case makeFunc f first cap =>
  simp only [Option.bind_eq_some_iff, Option.map_eq_some_iff] at hc
  obtain ⟨xs, hx, ys, hy, rfl⟩ := hc
  simp only [lopO, Option.some.injEq, Prod.mk.injEq] at hl
  obtain ⟨rfl, rfl⟩ := hl
  obtain ⟨e1, e2⟩ := compAs_sound hE hx
  obtain ⟨g1, g2⟩ := compAs_sound hE hy
  refine .read hC ⟨.func f (first.map a.eval) (cap.map a.eval), by simp only [Instr.makeFunc, Sem.run_pure], .fn (by simp at e1 ⊢; exact e1) (by simp at g1 ⊢; exact g1) (fun j => ?_) (fun j => ?_)⟩
  ·have := e2 j
   simpa [Array.getD_eq_getD_getElem?, List.getD] using this
  ·have := g2 j
   simpa [Array.getD_eq_getD_getElem?, List.getD] using this
 case makeSlice t x y =>
  split at hc
  ·rename_i e hu
   simp only [Option.bind_eq_some_iff] at hc
   obtain ⟨i', hi, z, hz, hc⟩ := hc
   split at hc
   ·simp at hc
   ·rename_i hno
    simp only [not_or] at hno
    simp only [Option.bind_eq_some_iff, Option.map_eq_some_iff] at hc
    obtain ⟨x', hx, y', hy, rfl⟩ := hc
    simp only [lopO] at hl
    obtain ⟨v, w', η', r1, r2, r3, r4, -⟩ := mksl_fine hC hu hi hz (by omega) (compA_sound hx hE) (compA_sound hy hE) hl
    exact .val r1 r2 r3 r4
  ·simp at hc
 case slice t x lo hi mx =>
  split at hc
  ·rename_i e hu
   simp only [Option.bind_eq_some_iff] at hc
   obtain ⟨s, hs, hc⟩ := hc
   split at hc
   ·simp at hc
   ·rename_i h0
    simp only [Option.bind_eq_some_iff] at hc
    obtain ⟨x', hx, l', hl', h', hh, m', hm, hc⟩ := hc
    split at hc
    ·simp at hc
    ·rename_i hno
     cases hc
     simp only [lopO, Option.map_eq_some_iff, Prod.mk.injEq] at hl
     obtain ⟨r, hr, rfl, rfl⟩ := hl
     exact .read hC (slice_fine hu hs h0 (compA_sound hx hE) (compOA_sound hl' hE) (compOA_sound hh hE) (compOA_sound hm hE) (fun e => by
      cases m' <;> cases h' <;> simp_all) hr)
  ·rename_i n e hu
   simp only [Option.bind_eq_some_iff] at hc
   obtain ⟨s, hs, hc⟩ := hc
   split at hc
   ·simp at hc
   ·rename_i h0
    simp only [Option.bind_eq_some_iff] at hc
    obtain ⟨x', hx, l', hl', h', hh, m', hm, hc⟩ := hc
    split at hc
    ·simp at hc
    ·rename_i hno
     cases hc
     simp only [lopO, Option.map_eq_some_iff, Prod.mk.injEq] at hl
     obtain ⟨r, hr, rfl, rfl⟩ := hl
     exact .read hC (sliceA_fine hC hu hs (compA_sound hx hE) (compOA_sound hl' hE) (compOA_sound hh hE) (compOA_sound hm hE) (fun e => by
      cases m' <;> cases h' <;> simp_all) hr)
  ·simp at hc
 case fieldAddr t x f =>
  split at hc
  ·rename_i fs hu
   simp only [Option.bind_eq_some_iff] at hc
   obtain ⟨fl, hf, s, hs, hc⟩ := hc
   split at hc
   ·simp at hc
   ·rename_i h0
    simp only [Option.map_eq_some_iff] at hc
    obtain ⟨x', hx, rfl⟩ := hc
    simp only [lopO, Option.map_eq_some_iff, Prod.mk.injEq] at hl
    obtain ⟨r, hr, rfl, rfl⟩ := hl
    exact .read hC (fieldAt_fine hu hf hs h0 (compA_sound hx hE) hr)
  ·simp at hc
 case field t x f =>
  split at hc
  ·rename_i fs hu
   simp only [Option.bind_eq_some_iff, Option.map_eq_some_iff] at hc
   obtain ⟨fl, hf, s, hs, ag, hg, x', hx, rfl⟩ := hc
   simp only [lopO, Option.map_eq_some_iff, Prod.mk.injEq] at hl
   obtain ⟨r, hr, rfl, rfl⟩ := hl
   exact .read hC (field_fine hu hf hs hg (compA_sound hx hE) hr)
  ·simp at hc
 case indexAddr t x y =>
  split at hc
  ·rename_i e hu
   simp only [Option.bind_eq_some_iff] at hc
   obtain ⟨s, hs, hc⟩ := hc
   split at hc
   ·simp at hc
   ·simp only [Option.bind_eq_some_iff, Option.map_eq_some_iff] at hc
    obtain ⟨x', hx, y', hy, rfl⟩ := hc
    simp only [lopO, Option.map_eq_some_iff, Prod.mk.injEq] at hl
    obtain ⟨r, hr, rfl, rfl⟩ := hl
    exact .read hC (iaddr_fine hu hs (compA_sound hx hE) (compA_sound hy hE) hr)
  ·rename_i n e hu
   simp only [Option.bind_eq_some_iff] at hc
   obtain ⟨s, hs, hc⟩ := hc
   split at hc
   ·simp at hc
   ·simp only [Option.bind_eq_some_iff, Option.map_eq_some_iff] at hc
    obtain ⟨x', hx, y', hy, rfl⟩ := hc
    simp only [lopO, Option.map_eq_some_iff, Prod.mk.injEq] at hl
    obtain ⟨r, hr, rfl, rfl⟩ := hl
    exact .read hC (iaddrA_fine hu hs (compA_sound hx hE) (compA_sound hy hE) hr)
  ·simp at hc
 case index t x y =>
  split at hc
  ·rename_i n e hu
   simp only [Option.bind_eq_some_iff, Option.map_eq_some_iff] at hc
   obtain ⟨s, hs, ag, hg, x', hx, y', hy, rfl⟩ := hc
   simp only [lopO, Option.map_eq_some_iff, Prod.mk.injEq] at hl
   obtain ⟨r, hr, rfl, rfl⟩ := hl
   exact .read hC (idx_fine hu hs hg (compA_sound hx hE) (compA_sound hy hE) hr)
  ·simp only [Option.bind_eq_some_iff, Option.map_eq_some_iff] at hc
   obtain ⟨x', hx, y', hy, rfl⟩ := hc
   simp [lopO] at hl
  ·simp at hc
 case extract x n =>
  simp only [Option.map_eq_some_iff] at hc
  obtain ⟨y, hy, rfl⟩ := hc
  simp only [lopO] at hl
  split at hl
  ·rename_i vs e
   simp only [Option.map_eq_some_iff, Prod.mk.injEq] at hl
   obtain ⟨r, hr, rfl, rfl⟩ := hl
   have hx := compA_sound hy hE
   rw [e] at hx
   obtain ⟨cs, hv, hz, hrr⟩ := hx.inv_tup
   obtain ⟨hlt, hr⟩ := List.getElem?_eq_some_iff.1 hr
   have := hrr n
   rw [getD_of_lt _ _ hlt, hr] at this
   refine .read hC ⟨_, ?_, this⟩
   simp only [hv, Instr.extract]
   rw [show cs[n]? = some (cs.getD n undef) from by simp [Array.getD, show n < cs.size by omega]]
   rfl
  ·simp at hl
 case call c =>
  exact call_fine hc hl hC hE
end
end Lg

