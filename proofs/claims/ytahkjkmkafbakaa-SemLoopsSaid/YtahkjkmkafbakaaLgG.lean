/- Soundness of indexes, slices, lengths. -/
import Derived.Test.YtahkjkmkafbakaaLgF
namespace Lg
open Go

section
variable {P : Program} {η : List Nat} {S : Nat → Prop} {w : World} {H : Heap} {a : Act} {E : Env}

theorem flat_length {esz : Nat} {xs : List L} (h : ∀ y ∈ xs, y.cells.length = esz ∧ (esz = 1 → y.cells = [y])) : (flat esz xs).length = xs.length * esz := by
  unfold flat
  split
  · rename_i e; simp [e]
  · induction xs with
    | nil => simp
    | cons x xs ih =>
      rw [List.flatMap_cons, List.length_append, ih (fun y hy => h y (by simp [hy])), (h x (by simp)).1, List.length_cons, Nat.succ_mul, Nat.add_comm]

theorem flatMap_getD {esz : Nat} {xs : List L} (h : ∀ y ∈ xs, y.cells.length = esz) : ∀ (i : Nat) (x : L) (j : Nat), xs[i]? = some x → j < esz → (xs.flatMap L.cells).getD (i * esz + j) .any = x.cells.getD j .any := by
  induction xs with
  | nil => intro i x j h; simp at h
  | cons y ys ih =>
    intro i x j hx hj
    have hy := h y (by simp)
    cases i with
    | zero =>
      simp at hx; subst hx
      rw [List.flatMap_cons]
      simp only [List.getD, Nat.zero_mul, Nat.zero_add]
      rw [List.getElem?_append_left (by omega)]
    | succ i =>
      simp at hx
      have := ih (fun z hz => h z (by simp [hz])) i x j hx hj
      rw [List.flatMap_cons]
      simp only [List.getD] at this ⊢
      rw [List.getElem?_append_right (by rw [hy, Nat.succ_mul]; omega), hy, show (i + 1) * esz + j - esz = i * esz + j by rw [Nat.succ_mul]; omega]
      exact this

theorem flat_getD {esz : Nat} {xs : List L} (h : ∀ y ∈ xs, y.cells.length = esz ∧ (esz = 1 → y.cells = [y])) {i : Nat} {x : L} {j : Nat} (hx : xs[i]? = some x) (hj : j < esz) :
    (flat esz xs).getD (i * esz + j) .any = x.cells.getD j .any := by
  unfold flat
  split
  · rename_i e
    subst e
    have := (h x (List.mem_of_getElem? hx)).2 rfl
    rw [this, show j = 0 by omega]
    simp [List.getD, hx]
  · exact flatMap_getD (fun y hy => (h y hy).1) i x j hx hj

/-- The address of an element. -/
theorem indexAt_slice {t e : TypeId} {s : Nat} (hu : P.underlying t = some (.slice e)) (hs : szOf P e = some s) {k : IntKind} {i : Int} {b o len cap : Nat} (h0 : 0 ≤ i) (h1 : i < (len : Int)) :
    (Instr.indexAt t (.slice (some ⟨b, o, none⟩) len cap) (.int k i)).run P w = .ok (.pointer (some ⟨b, o + i.toNat * s, none⟩)) w := by
  simp only [Instr.indexAt, asIntOf, Sem.run_bind, Sem.run_pure, Result.andThen_ok, run_underlying hu]
  simp [h0, h1, run_sz hs, Addr.add_lit]

theorem indexAt_array {t e : TypeId} {n s : Nat} (hu : P.underlying t = some (.array n e)) (hs : szOf P e = some s) {k : IntKind} {i : Int} {b o : Nat} (h0 : 0 ≤ i) (h1 : i < (n : Int)) :
    (Instr.indexAt t (.pointer (some ⟨b, o, none⟩)) (.int k i)).run P w = .ok (.pointer (some ⟨b, o + i.toNat * s, none⟩)) w := by
  simp only [Instr.indexAt, asIntOf, Sem.run_bind, Sem.run_pure, Result.andThen_ok, run_underlying hu, Instr.sureAddr]
  simp [h0, h1, run_sz hs, Addr.add_lit]

theorem iaddr_fine {t e : TypeId} {s : Nat} {x y : Value} {lx ly l : L} (hu : P.underlying t = some (.slice e)) (hs : szOf P e = some s) (hx : Rel S w η x lx) (hy : Rel S w η y ly) (h : iaddrL s ly lx = some l) :
    ∃ v, (Instr.indexAt t x y).run P w = .ok v w ∧ Rel S w η v l := by
  unfold iaddrL at h
  split at h
  · rename_i esz clip xs
    split at h
    · rename_i k n
      have := hy.inv_v; subst this
      split at h
      · rename_i hc
        obtain ⟨rfl, h0⟩ := hc
        simp only [Option.map_eq_some_iff] at h
        obtain ⟨z, hz, rfl⟩ := h
        obtain ⟨a, cap, rfl, h1, h2, h3, h4, h5⟩ := hx.inv_sl
        have hlt : n.toNat < xs.length := (List.getElem?_eq_some_iff.1 hz).1
        obtain ⟨b, o, cs, rfl, hS, hc, hr⟩ := h5 (by omega)
        have hz4 := (h4 z (List.mem_of_getElem? hz)).1
        have hmul : n.toNat * esz + esz ≤ xs.length * esz := by rw [← Nat.succ_mul]; exact Nat.mul_le_mul_right _ hlt
        refine ⟨_, indexAt_slice hu hs h0 (by omega), .pp (fun j => cs (n.toNat * esz + j)) (fun h => hS (by omega)) (fun j hj => ?_) (fun j => ?_)⟩
        · rw [show o + n.toNat * esz + j = o + (n.toNat * esz + j) by omega]; exact hc _ (by omega)
        · by_cases hj : j < esz
          · rw [← flat_getD h4 hz hj]; exact hr _
          · rw [getD_of_ge _ _ (by omega)]; exact .any _
      · simp at h
    · simp at h
  · rename_i esz k off n clip
    split at h
    · rename_i kk m
      have := hy.inv_v; subst this
      split at h
      · rename_i hc
        obtain ⟨rfl, h0, h1⟩ := hc
        cases h
        rcases hx.inv_view with ⟨a, rfl, rfl⟩ | ⟨b, cap, c, t', fr, rfl, hη, hb, hsz, hn, hm, hcl⟩
        · omega
        · exact ⟨_, indexAt_slice hu hs h0 h1, .ptr hη hb⟩
      · simp at h
    · simp at h
  · simp at h

theorem iaddrA_fine {t e : TypeId} {n s : Nat} {x y : Value} {lx ly l : L} (hu : P.underlying t = some (.array n e)) (hs : szOf P e = some s) (hx : Rel S w η x lx) (hy : Rel S w η y ly) (h : iaddrAL n s ly lx = some l) :
    ∃ v, (Instr.indexAt t x y).run P w = .ok v w ∧ Rel S w η v l := by
  unfold iaddrAL at h
  split at h
  · split at h
    · rename_i kk m
      have := hy.inv_v; subst this
      split at h
      · rename_i hc
        cases h
        obtain ⟨b, rfl, hη, c0, t0, fr0, hb0⟩ := hx.inv_ptr
        exact ⟨_, indexAt_array hu hs hc.1 hc.2, .ptr hη hb0⟩
      · simp at h
    · simp at h
  · rename_i ls
    split at h
    · rename_i kk m
      have := hy.inv_v; subst this
      split at h
      · rename_i hc
        cases h
        obtain ⟨b, o, cs, rfl, hS, hc', hr⟩ := hx.inv_pp
        refine ⟨_, indexAt_array hu hs hc.1 hc.2, .pp (fun j => cs (m.toNat * s + j)) (fun h => hS (by simp at h; omega)) (fun j hj => ?_) (fun j => ?_)⟩
        · rw [show o + m.toNat * s + j = o + (m.toNat * s + j) by omega]; exact hc' _ (by simp at hj; omega)
        · have := hr (m.toNat * s + j)
          simp only [List.getD, List.getElem?_drop] at this ⊢
          exact this
      · simp at h
    · simp at h
  · simp at h

theorem idx_fine {t e : TypeId} {n s : Nat} {ag : Bool} {x y : Value} {lx ly l : L} (hu : P.underlying t = some (.array n e)) (hs : szOf P e = some s) (hg : isAggT P e = some ag) (hx : Rel S w η x lx) (hy : Rel S w η y ly)
    (h : idxL n s ag ly lx = some l) : ∃ v, (Instr.index t x y).run P w = .ok v w ∧ Rel S w η v l := by
  unfold idxL at h
  split at h
  · rename_i ls
    split at h
    · rename_i kk m
      have := hy.inv_v; subst this
      split at h
      · rename_i hc
        obtain ⟨h0, h1⟩ := hc
        obtain ⟨cs, rfl, hz, hr⟩ := hx.inv_agg
        cases ag with
        | true =>
          simp at h
          obtain ⟨h2, rfl⟩ := h
          refine ⟨.agg (cs.extract (m.toNat * s) (m.toNat * s + s)), by simp only [Instr.index, asIntOf, Sem.run_bind, Sem.run_pure, Result.andThen_ok, run_underlying hu]; simp [h0, h1, run_sz hs, part, run_agg hg], .agg (by simp; omega) fun j => ?_⟩
          by_cases hj : j < s
          · rw [getD_dropTake _ _ _ _ hj]
            have := hr (m.toNat * s + j)
            simpa [Array.getD_eq_getD_getElem?, Array.getElem?_extract, show j < min (m.toNat * s + s) cs.size - m.toNat * s by omega, show m.toNat * s + j < cs.size by omega] using this
          · rw [getD_of_ge _ _ (by simp; omega)]; exact .any _
        | false =>
          simp at h
          obtain ⟨hlt, h⟩ := List.getElem?_eq_some_iff.1 h
          have hc : cs[m.toNat * s]? = some (cs.getD (m.toNat * s) undef) := by simp [Array.getD, show m.toNat * s < cs.size by omega]
          refine ⟨cs.getD (m.toNat * s) undef, by simp only [Instr.index, asIntOf, Sem.run_bind, Sem.run_pure, Result.andThen_ok, run_underlying hu, if_pos (And.intro h0 h1), run_sz hs, part, run_agg hg, hc, Bool.false_eq_true, if_false], ?_⟩
          have := hr (m.toNat * s)
          rw [getD_of_lt _ _ hlt, h] at this
          exact this
      · simp at h
    · simp at h
  · simp at h

theorem len_slice {t ty e : TypeId} (hu : P.underlying t = some (.slice e)) (a : Option Addr) (n c : Nat) : (Builtin.len_ #[t] ty #[.slice a n c]).run P w = .ok (.int .i64 n) w := by
  simp [Builtin.len_, run_underlying hu, goInt]

theorem len_fine {t ty : TypeId} {str : Bool} {x : Value} {lx l : L} (hu : (str = false → ∃ e, P.underlying t = some (.slice e)) ∧ (str = true → P.underlying t = some .string)) (hx : Rel S w η x lx) (h : lenL str lx = some l) :
    ∃ v, (Builtin.len_ #[t] ty #[x]).run P w = .ok v w ∧ Rel S w η v l := by
  unfold lenL at h
  split at h
  · split at h <;> cases h
    obtain ⟨e, hu⟩ := hu.1 ‹_›
    obtain ⟨a, cap, rfl, -⟩ := hx.inv_sl
    exact ⟨_, len_slice hu _ _ _, .v _⟩
  · split at h <;> cases h
    obtain ⟨e, hu⟩ := hu.1 ‹_›
    rcases hx.inv_view with ⟨a, rfl, rfl⟩ | ⟨b, cap, c, t', fr, rfl, -⟩
    · exact ⟨_, len_slice hu _ _ _, .v _⟩
    · exact ⟨_, len_slice hu _ _ _, .v _⟩
  · split at h <;> cases h
    obtain ⟨e, hu⟩ := hu.1 ‹_›
    have := hx.inv_v; subst this
    exact ⟨_, len_slice hu _ _ _, .v _⟩
  · split at h <;> cases h
    have := hx.inv_v; subst this
    exact ⟨_, by simp [Builtin.len_, run_underlying (hu.2 ‹_›), goInt], .v _⟩
  · simp at h

end
end Lg
