/- Soundness of append, copy, of literals. -/
import Derived.Test.YtahkjkmkafbakaaLgI
namespace Lg
open Go

section
variable {P : Program} {η : List Nat} {S : Nat → Prop} {w : World} {H : Heap} {a : Act} {E : Env}

/-- Cells stored through a slice's base. -/
def storeBase (ad : Option Addr) (o : Nat) (vs : List Value) : Sem Unit :=
  match ad with
  | some a => storeCells (a.add o) vs
  | none => pure ()

theorem storeBase_nil (ad : Option Addr) (o : Nat) : (storeBase ad o []).run P w = .ok () w := by cases ad <;> rfl

/-- What an append does: within the capacity, or into a new row. -/
theorem append_run {t u e ty : TypeId} {i : TypeInfo} {z : Value} (hu : P.underlying t = some (.slice e)) (hu2 : ∃ e', P.underlying u = some (.slice e')) (hi : P.info? e = some i) (hz : i.zero = some z) (hb : i.bytes ≠ 0)
    {ad : Option Addr} {n cap : Nat} {ad' : Option Addr} {m cap' : Nat} {old new : Array Value}
    (hold : ∀ w' : World, w'.heap = w.heap → (Builtin.firstCells i.size n (.slice ad n cap)).run P w' = .ok old w') (hnew : ∀ w' : World, w'.heap = w.heap → (Builtin.firstCells i.size m (.slice ad' m cap')).run P w' = .ok new w')
    :
    (n + m ≤ cap → (Builtin.append_ #[t, u] ty #[.slice ad n cap, .slice ad' m cap']).run P w =
      ((storeBase ad (n * i.size) new.toList).run P w).andThen fun _ w' => .ok (.slice ad (n + m) cap) w') ∧
    (cap < n + m → (n + m) * i.bytes ≤ 70368744177664 → ∃ nc, n + m ≤ nc ∧ nc ≤ maxLen ∧ (Builtin.append_ #[t, u] ty #[.slice ad n cap, .slice ad' m cap']).run P w =
      .ok (.slice (some ⟨w.heap.size, 0, none⟩) (n + m) nc) { w with drawn := w.drawn + 1, heap := w.heap.push (.cells (old ++ new ++ Builtin.zeroCells z.cells (nc - (n + m))) e) }) := by
  obtain ⟨e', hu2⟩ := hu2
  have hsz : ∀ w : World, (Go.sizeOf e).run P w = .ok i.size w := fun w => by simp [Go.sizeOf, run_info hi]
  constructor
  · intro hle
    simp only [Builtin.append_, List.getElem?_toArray, List.getElem?_cons_zero, List.getElem?_cons_succ, Sem.run_bind, run_underlying hu, run_underlying hu2, Result.andThen_ok, hsz, Sem.run_pure, Builtin.lenOf, Bool.false_eq_true, if_false, hle, if_true,
      Bool.not_false, hnew w rfl]
    cases ad with
    | none => simp [storeBase]
    | some a => simp [storeBase]
  · intro hlt hbytes
    have hnm : n + m ≤ 70368744177664 := Nat.le_trans (Nat.le_mul_of_pos_right _ (by omega)) hbytes
    have hg := growslice_fits hlt (Nat.le_trans hbytes (by omega))
    refine ⟨n + m + (w.tape w.drawn (.appendCap (n + m) cap e)) % (2 ^ 63 - (n + m)), by omega, ?_, ?_⟩
    · have := Nat.mod_lt (w.tape w.drawn (.appendCap (n + m) cap e)) (show 0 < 2 ^ 63 - (n + m) by omega)
      simp only [maxLen]; omega
    · simp only [Builtin.append_, List.getElem?_toArray, List.getElem?_cons_zero, List.getElem?_cons_succ, Sem.run_bind, run_underlying hu, run_underlying hu2, Result.andThen_ok, hsz, Sem.run_pure, Builtin.lenOf, Bool.false_eq_true, if_false,
        show ¬ (n + m ≤ cap) by omega, Bool.not_false, if_true, run_info hi, hb, or_self, and_false, show ¬ (Builtin.nextslicecap (n + m) cap * i.bytes > 2 ^ 48) by omega, run_choose, Question.forced, Question.cut, run_askRoom, hold { w with drawn := w.drawn + 1 } rfl,
        hnew { w with drawn := w.drawn + 1 } rfl, run_zero hi hz, newRow, run_newObj]


theorem setCells_behind : ∀ (ys cs : List L), setCells (cs ++ List.replicate ys.length .any) cs.length ys = cs ++ ys
  | [], cs => by simp [setCells]
  | y :: ys, cs => by
    have := setCells_behind ys (cs ++ [y])
    simp only [List.length_cons, List.replicate_succ, setCells]
    rw [List.set_append_right _ _ (Nat.le_refl _)]
    simpa using this

/-- More cells of an own row at hand, of which nothing is known. -/
theorem Conc.widen (hC : Conc η S w H) {h b : Nat} {cs : List L} (hη : η[h]? = some b) (hH : H[h]? = some (some cs)) {c : Array Value} {t : TypeId} {fr : Nat × Nat} (q1 : w.heap[b]? = some (.cells c t fr)) {k : Nat} (hk : cs.length + k ≤ c.size) :
    Conc η S w (H.set h (some (cs ++ List.replicate k .any))) := by
  have hlt : h < H.length := (List.getElem?_eq_some_iff.1 hH).1
  have sub : ∀ {k' : Nat} {ls : List L}, (H.set h (some (cs ++ List.replicate k .any)))[k']? = some (some ls) → ∃ ls', H[k']? = some (some ls') := fun {k' ls} e => by
    by_cases hk : k' = h
    · subst hk; exact ⟨cs, hH⟩
    · rw [List.getElem?_set_ne (Ne.symm hk)] at e; exact ⟨ls, e⟩
  refine ⟨by simp [hC.len], hC.lt, hC.Slt, fun k' b' ls e1 e2 => ?_, fun k' b' ls e1 e2 => ?_⟩
  · obtain ⟨ls', e3⟩ := sub e2
    obtain ⟨p1, p2⟩ := hC.apart k' b' ls' e1 e3
    exact ⟨p1, fun k'' ls'' f1 f2 => by obtain ⟨l3, f3⟩ := sub f2; exact p2 k'' l3 f1 f3⟩
  · by_cases hk' : k' = h
    · subst hk'
      rw [hη] at e1; cases e1
      rw [List.getElem?_set_self hlt] at e2
      simp at e2; subst e2
      obtain ⟨c0, t0, fr0, r1, r2, r3, r4⟩ := hC.live q1 hη hH
      rw [q1] at r1; cases r1
      refine .inl ⟨c, t, fr, q1, by simp; omega, r3, fun j hj => ?_⟩
      by_cases hj2 : j < cs.length
      · have := r4 j hj2
        rwa [show (cs ++ List.replicate k L.any).getD j .any = cs.getD j .any from by simp [List.getD, List.getElem?_append_left hj2]]
      · rw [show (cs ++ List.replicate k L.any).getD j .any = .any from by
          simp only [List.getD]
          rw [List.getElem?_append_right (by omega), List.getElem?_replicate]
          split <;> rfl]
        exact .any _
    · rw [List.getElem?_set_ne (Ne.symm hk')] at e2
      exact hC.liveAt k' b' ls e1 e2

/-- An append that makes a new row. -/
theorem append_grows {e : TypeId} {esz n m nc : Nat} {z old new : Array Value} {os ys : List L} (hC : Conc η S w H) (ho : old.size = os.length) (ho2 : os.length = n * esz) (hn : new.size = ys.length) (hn2 : ys.length = m * esz) (hz : z.size = esz)
    (ro : ∀ j, j < os.length → Rel S w η (old.getD j undef) (os.getD j .any)) (rn : ∀ j, j < ys.length → Rel S w η (new.getD j undef) (ys.getD j .any)) (h1 : n + m ≤ nc) (h2 : nc ≤ maxLen) :
    ∃ η', Rel S { w with drawn := w.drawn + 1, heap := w.heap.push (.cells (old ++ new ++ Builtin.zeroCells z (nc - (n + m))) e) } η' (.slice (some ⟨w.heap.size, 0, none⟩) (n + m) nc) (.view esz H.length 0 (n + m) false) ∧
      Conc η' S { w with drawn := w.drawn + 1, heap := w.heap.push (.cells (old ++ new ++ Builtin.zeroCells z (nc - (n + m))) e) } (H ++ [some (os ++ ys)]) ∧
      Le η S w η' S { w with drawn := w.drawn + 1, heap := w.heap.push (.cells (old ++ new ++ Builtin.zeroCells z (nc - (n + m))) e) } := by
  have hsize : (old ++ new ++ Builtin.zeroCells z (nc - (n + m))).size = nc * esz := by
    simp only [Array.size_append, ho, ho2, hn, hn2, Builtin.zeroCells, Array.size_map, Array.size_range, hz]
    rw [← Nat.add_mul, ← Nat.add_mul]; congr 1; omega
  have hle : (n + m) * esz ≤ nc * esz := Nat.mul_le_mul_right _ h1
  obtain ⟨p1, p2⟩ := hC.push (old ++ new ++ Builtin.zeroCells z (nc - (n + m))) e (os ++ ys) (by rw [hsize, List.length_append, ho2, hn2, ← Nat.add_mul]; exact hle) (fun j hj => by
    rw [List.length_append] at hj
    simp only [Array.getD_eq_getD_getElem?, List.getD]
    by_cases hj2 : j < os.length
    · rw [Array.getElem?_append_left (by simp; omega), Array.getElem?_append_left (by omega), List.getElem?_append_left hj2]
      have := ro j hj2
      simpa [Array.getD_eq_getD_getElem?, List.getD] using this
    · rw [Array.getElem?_append_left (by simp; omega), Array.getElem?_append_right (by omega), List.getElem?_append_right (by omega), ho]
      have := rn (j - os.length) (by omega)
      simpa [Array.getD_eq_getD_getElem?, List.getD] using this) (w' := { w with drawn := w.drawn + 1, heap := w.heap.push (.cells (old ++ new ++ Builtin.zeroCells z (nc - (n + m))) e) }) rfl rfl rfl rfl
  refine ⟨_, ?_, p1, p2⟩
  rw [← hC.len]
  exact .view (b := w.heap.size) (by simp) (c := old ++ new ++ Builtin.zeroCells z (nc - (n + m))) (t := e) (fr := (0, 0)) (by simp) (by rw [hsize]; omega) h1 h2 (by simp)

theorem append_fine {t u e ty : TypeId} {i : TypeInfo} {z : Value} {x y : Value} {lx ly l : L} {H' : Heap} (hC : Conc η S w H) (hu : P.underlying t = some (.slice e)) (hu2 : ∃ e', P.underlying u = some (.slice e')) (hi : P.info? e = some i) (hz : i.zero = some z)
    (hz2 : z.cells.size = i.size) (hb : i.bytes ≠ 0) (hs0 : i.size ≠ 0) (hx : Rel S w η x lx) (hy : Rel S w η y ly) (h : appendL i.size i.bytes lx ly H = some (l, H')) :
    ∃ v w' η', (Builtin.append_ #[t, u] ty #[x, y]).run P w = .ok v w' ∧ Rel S w' η' v l ∧ Conc η' S w' H' ∧ Le η S w η' S w' := by
  unfold appendL at h
  split at h
  · simp at h
  rename_i ys hys
  split at h
  rotate_left
  · simp at h
  rename_i hsol
  obtain ⟨ad', m, cap', rfl, hm, new, hn1, hn2, hn3⟩ := lcells_reads (P := P) hC hy hys
  have hdiv : ys.length / i.size = m := by rw [hm, Nat.mul_div_cancel _ (by omega)]
  have hone : ∀ v ∈ new.toList, v.oneCell' = true := fun v hv => by
    obtain ⟨j, hj, rfl⟩ := List.getElem_of_mem hv
    have hj' : j < ys.length := by simp at hj; omega
    have := hn3 j hj'
    rw [agetD_of_lt _ _ (by omega), getD_of_lt _ _ hj'] at this
    simpa using this.one (List.all_eq_true.1 hsol.2 _ (List.getElem_mem _))
  split at h
  · -- nothing
    have := hx.inv_v; subst this
    obtain ⟨ad0, n0, cap0, e0, ho1, old, ho2, ho3, ho4⟩ := lcells_reads (P := P) (esz := i.size) (ys := []) hC hx rfl
    cases e0
    split at h
    · cases h
      have hm0 : m = 0 := by
        rcases Nat.mul_eq_zero.1 (by omega : m * i.size = 0) with h' | h'
        · exact h'
        · exact absurd h' hs0
      subst hm0
      have := (append_run (P := P) (ty := ty) hu hu2 hi hz hb ho3 hn2).1 (by omega)
      exact ⟨_, w, η, by rw [this]; simp [storeBase], .v _, hC, Le.refl _ _ _⟩
    · rename_i hne
      split at h
      · rename_i hbd
        cases h
        have hm0 : 0 < m := Nat.pos_of_ne_zero fun e => by subst e; omega
        have hbd' : (0 + m) * i.bytes ≤ 70368744177664 := by
          rw [Nat.zero_add]
          exact Nat.le_trans (Nat.mul_le_mul_right _ (by rw [hm]; exact Nat.le_mul_of_pos_right _ (by omega))) hbd
        obtain ⟨nc, hc1, hc2, hc3⟩ := (append_run (P := P) (ty := ty) hu hu2 hi hz hb ho3 hn2).2 (by omega) hbd'
        obtain ⟨η', r1, r2, r3⟩ := append_grows (e := e) (os := []) hC ho2 (by simp) hn1 hm hz2 ho4 hn3 hc1 hc2
        rw [hdiv]
        refine ⟨_, _, η', hc3, ?_, by simpa using r2, r3⟩
        simpa using r1
      · simp at h
  · rename_i ee xs
    split at h
    rotate_left
    · simp at h
    rename_i he; subst he
    obtain ⟨ad0, n0, cap0, rfl, ho1, old, ho2, ho3, ho4⟩ := lcells_reads (P := P) (esz := i.size) (ys := flat i.size xs) hC hx (by simp [lcells])
    obtain ⟨ad1, cap1, e1, hx1, hx2, hx3, hx4, hx5⟩ := hx.inv_sl
    cases e1
    have hcap := hx3 rfl
    split at h
    · cases h
      have hm0 : m = 0 := by
        rcases Nat.mul_eq_zero.1 (by omega : m * i.size = 0) with h' | h'
        · exact h'
        · exact absurd h' hs0
      subst hm0
      have hnil : new.toList = [] := List.eq_nil_of_length_eq_zero (by simp [hn1]; simpa using hm)
      have := (append_run (P := P) (ty := ty) hu hu2 hi hz hb ho3 hn2).1 (by omega)
      exact ⟨_, w, η, by rw [this, hnil, storeBase_nil]; rfl, hx, hC, Le.refl _ _ _⟩
    · rename_i hne
      split at h
      · rename_i hbd
        cases h
        have hm0 : 0 < m := Nat.pos_of_ne_zero fun e => by subst e; omega
        have hbd' : (xs.length + m) * i.bytes ≤ 70368744177664 := by
          refine Nat.le_trans (Nat.mul_le_mul_right _ ?_) hbd
          have h1 := Nat.le_mul_of_pos_right xs.length (show 0 < i.size by omega)
          have h2 := Nat.le_mul_of_pos_right m (show 0 < i.size by omega)
          omega
        obtain ⟨nc, hc1, hc2, hc3⟩ := (append_run (P := P) (ty := ty) hu hu2 hi hz hb ho3 hn2).2 (by omega) hbd'
        obtain ⟨η', r1, r2, r3⟩ := append_grows (e := e) hC ho2 ho1 hn1 hm hz2 ho4 hn3 hc1 hc2
        rw [hdiv]
        exact ⟨_, _, η', hc3, r1, r2, r3⟩
      · simp at h
  · rename_i ee k n cl
    split at h
    rotate_left
    · simp at h
    rename_i he; subst he
    split at h
    rotate_left
    · simp at h
    rename_i cs hl
    split at h
    rotate_left
    · simp at h
    rename_i hcond
    obtain ⟨hcl, hbd⟩ := hcond
    cases h
    have hH := live_iff.1 hl
    have hkH : k < H.length := (List.getElem?_eq_some_iff.1 hH).1
    obtain ⟨b, hη⟩ : ∃ b, η[k]? = some b := ⟨_, List.getElem?_eq_getElem (by rw [hC.len]; exact hkH)⟩
    obtain ⟨c, ty', fr, q1, q2, q3, q4⟩ : ∃ c t fr, w.heap[b]? = some (.cells c t fr) ∧ cs.length ≤ c.size ∧ (fr.1 = fr.2 ∨ c.size ≤ fr.1) ∧ ∀ j, j < cs.length → Rel S w η (c.getD j undef) (cs.getD j .any) := by
      rcases hC.liveAt k b cs hη hH with h | ⟨kk, es, e, ms, clock, h, -⟩
      · exact h
      · rcases hx.inv_view with ⟨ad, e1, e2⟩ | ⟨b', cap, c', t', fr', e1, hη', hb', -⟩
        · subst e e2; simp at hcl
        · rw [hη] at hη'; cases hη'
          rw [h] at hb'; cases hb'
    obtain ⟨ad0, n0, cap0, rfl, ho1, old, ho2, ho3, ho4⟩ := lcells_reads (P := P) (esz := i.size) (ys := cs) hC hx (by simp [lcells, hl]; rw [← hcl]; simp)
    have hbd' : (n + m) * i.bytes ≤ 70368744177664 := by
      refine Nat.le_trans (Nat.mul_le_mul_right _ ?_) hbd
      have h1 := Nat.le_mul_of_pos_right n (show 0 < i.size by omega)
      have h2 := Nat.le_mul_of_pos_right m (show 0 < i.size by omega)
      omega
    have hn0 : n0 = n := by
      have : n0 * i.size = n * i.size := by rw [← ho1, hcl]
      exact Nat.eq_of_mul_eq_mul_right (by omega) this
    subst hn0
    have hrun := append_run (P := P) (ty := ty) hu hu2 hi hz hb ho3 hn2
    have grows : cap0 < n0 + m → ∃ v w' η', (Builtin.append_ #[t, u] ty #[.slice ad0 n0 cap0, .slice ad' m cap']).run P w = .ok v w' ∧ Rel S w' η' v (.view i.size H.length 0 (n0 + ys.length / i.size) false) ∧ Conc η' S w' (H.set k none ++ [some (cs ++ ys)]) ∧ Le η S w η' S w' := fun hlt => by
      obtain ⟨nc, hc1, hc2, hc3⟩ := hrun.2 hlt hbd'
      obtain ⟨η', r1, r2, r3⟩ := append_grows (e := e) (hC.drop k) ho2 ho1 hn1 hm hz2 ho4 hn3 hc1 hc2
      rw [hdiv]
      refine ⟨_, _, η', hc3, by simpa using r1, r2, r3⟩
    rcases hx.inv_view with ⟨ad, e1, e2⟩ | ⟨b', cap, c', t', fr', e1, hη', hb', hsz, hn, hmm, hcl'⟩
    · cases e1
      by_cases hm0 : m = 0
      · subst hm0
        have hys0 : ys = [] := List.eq_nil_of_length_eq_zero (by simpa using hm)
        have hnil : new.toList = [] := List.eq_nil_of_length_eq_zero (by simp [hn1, hys0])
        have := hrun.1 (by omega)
        obtain ⟨a1, a2⟩ := hC.again hη hH (ls := cs ++ ys) q1 (by simp [hys0]; omega) (fun j hj => by simp [hys0] at hj ⊢; simpa [List.getD] using q4 j hj)
        refine ⟨_, w, _, by rw [this, hnil, storeBase_nil]; rfl, ?_, a1, a2⟩
        rw [hdiv]; exact .view0
      · exact grows (by omega)
    · cases e1
      rw [hη] at hη'; cases hη'
      rw [q1] at hb'; cases hb'
      by_cases hle : n0 + m ≤ cap0
      · have hmul : (n0 + m) * i.size ≤ cap0 * i.size := Nat.mul_le_mul_right _ hle
        rw [Nat.add_mul] at hmul
        have hW := hC.widen hη hH q1 (k := ys.length) (by omega)
        have hlt : k < H.length := hkH
        have hH' : (H.set k (some (cs ++ List.replicate ys.length .any)))[k]? = some (some (cs ++ List.replicate ys.length .any)) := by rw [List.getElem?_set_self hlt]
        have hst := hW.store q1 hη hH' new.toList ys (off := cs.length) (by simp [hn1]) (by simp) (fun j hj => by
          have := hn3 j hj
          simpa [Array.getD_eq_getD_getElem?, List.getD] using this)
        have hrs := run_storeCells_own (P := P) hW q1 hη hH' new.toList (off := cs.length) (by simp [hn1]) hone
        rw [setCells_behind, List.set_set] at hst
        obtain ⟨s1, s2⟩ := hst
        have hH2 : (H.set k (some (cs ++ ys)))[k]? = some (some (cs ++ ys)) := by rw [List.getElem?_set_self hlt]
        obtain ⟨c3, fr3, k1, k2⟩ := s2.shape _ _ _ _ q1
        obtain ⟨c2, t2, fr2, g1, g2, g3, g4⟩ := s1.live k1 hη hH2
        obtain ⟨a1, a2⟩ := s1.again hη hH2 g1 g2 g4
        rw [List.set_set] at a1
        have h1 := hrun.1 hle
        have hoff : (⟨b, 0, none⟩ : Addr).add (n0 * i.size) = ⟨b, cs.length, none⟩ := by rw [Addr.add_lit, hcl]; simp
        refine ⟨_, _, _, by rw [h1]; simp only [storeBase, hoff, hrs, Result.andThen_ok]; rfl, ?_, a1, s2.trans a2⟩
        rw [hdiv, ← hC.len]
        exact .view (b := b) (by simp) k1 (by omega) hle hmm (by simp)
      · exact grows (by omega)
  · simp at h

theorem lcells_none {esz : Nat} {l : L} {ys : List L} (h : lcells esz [] l = some ys) (H : Heap) : lcells esz H l = some ys := by
  unfold lcells at h
  split at h
  · exact h
  · exact h
  · split at h
    · simp [Lg.live] at h
    · simp at h
  · simp at h

end
end Lg
