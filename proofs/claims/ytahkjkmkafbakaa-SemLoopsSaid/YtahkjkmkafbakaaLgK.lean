/- Soundness of copy, min, max, of literals; all operations. -/
import Derived.Test.YtahkjkmkafbakaaLgJ
namespace Lg
open Go

section
variable {P : Program} {η : List Nat} {S : Nat → Prop} {w : World} {H : Heap} {a : Act} {E : Env}

theorem copy_fine {t u e ty : TypeId} {s : Nat} {x y : Value} {lx ly l : L} {H' : Heap} (hC : Conc η S w H) (hu : P.underlying t = some (.slice e)) (hs : szOf P e = some s) (hs0 : s ≠ 0) (hx : Rel S w η x lx) (hy : Rel S w η y ly)
    (h : copyL s lx ly H = some (l, H')) : ∃ v w', (Builtin.copy_ #[t, u] ty #[x, y]).run P w = .ok v w' ∧ Rel S w' η v l ∧ Conc η S w' H' ∧ Le η S w η S w' := by
  unfold copyL at h
  split at h
  rotate_left
  · simp at h
  rename_i ys ee k off n cl hys
  split at h
  rotate_left
  · simp at h
  rename_i he; subst he
  split at h
  rotate_left
  · simp at h
  rename_i cs hl
  split at h
  rotate_left
  · simp at h
  rename_i hc
  obtain ⟨hc1, hc2⟩ := hc
  cases h
  obtain ⟨ad', m, cap', rfl, hm, f, hf, hr⟩ := lcells_cs (P := P) hC hy hys
  have hdiv : ys.length / ee = m := by rw [hm, Nat.mul_div_cancel _ (by omega)]
  rw [hdiv]
  have hH := live_iff.1 hl
  have hkH : k < H.length := (List.getElem?_eq_some_iff.1 hH).1
  obtain ⟨b, hη⟩ : ∃ b, η[k]? = some b := ⟨_, List.getElem?_eq_getElem (by rw [hC.len]; exact hkH)⟩
  have hle : min m n * ee ≤ m * ee := Nat.mul_le_mul_right _ (Nat.min_le_left _ _)
  have hle2 : min m n * ee ≤ n * ee := Nat.mul_le_mul_right _ (Nat.min_le_right _ _)
  have hfr := hf (min m n) (Nat.min_le_left _ _) w rfl
  have hlen : (ys.take (min m n * ee)).length = min m n * ee := by simp; omega
  have hsol : ∀ v ∈ (List.range (min m n * ee)).map f, v.oneCell' = true := fun v hv => by
    simp only [List.mem_map, List.mem_range] at hv
    obtain ⟨j, hj, rfl⟩ := hv
    have h1 : j < ys.length := by omega
    have := hr j h1
    rw [getD_of_lt _ _ h1] at this
    exact this.one (List.all_eq_true.1 hc2 _ (List.getElem_mem _))
  rcases hx.inv_view with ⟨ad, rfl, rfl⟩ | ⟨b', cap, c, t', fr, rfl, hη', hb, hsz, hn, hmm, hcl⟩
  · have hset : H.set k (some (setCells cs off (ys.take (min m 0 * ee)))) = H := by
      simp only [Nat.min_zero, Nat.zero_mul, List.take_zero, setCells]
      exact List.ext_getElem? fun j => by
        by_cases hj : j = k
        · subst hj; rw [List.getElem?_set_self hkH, hH]
        · rw [List.getElem?_set_ne (Ne.symm hj)]
    simp only [Nat.min_zero, Nat.zero_mul] at hfr hset ⊢
    simp only [List.range_zero, List.map_nil] at hfr
    refine ⟨_, w, ?_, .v _, by rw [hset]; exact hC, Le.refl _ _ _⟩
    simp only [Builtin.copy_, List.getElem?_toArray, List.getElem?_cons_zero, List.getElem?_cons_succ, Sem.run_bind, run_underlying hu, Result.andThen_ok, Builtin.lenOf, Sem.run_pure, run_sz hs, show Nat.min m 0 = 0 from Nat.min_zero m, hfr]
    cases ad <;> simp [storeCells, goInt]
  · rw [hη] at hη'; cases hη'
    have hst := hC.store hb hη hH ((List.range (min m n * ee)).map f) (ys.take (min m n * ee)) (off := off) (by rw [hlen]; simp) (by rw [hlen]; omega) (fun j hj => by
      rw [hlen] at hj
      have := hr j (by omega)
      rw [getD_of_lt _ _ (by simp; exact hj)]
      simpa [List.getD, List.getElem?_take, hj] using this)
    have hrs := run_storeCells_own (P := P) hC hb hη hH ((List.range (min m n * ee)).map f) (off := off) (by simp; omega) hsol
    refine ⟨_, _, ?_, .v _, hst.1, hst.2⟩
    simp only [Builtin.copy_, List.getElem?_toArray, List.getElem?_cons_zero, List.getElem?_cons_succ, Sem.run_bind, run_underlying hu, Result.andThen_ok, Builtin.lenOf, Sem.run_pure, run_sz hs, show Nat.min m n = min m n from rfl, hfr]
    simp only [hrs, Result.andThen_ok, goInt]

theorem mm_fine {mx : Bool} : ∀ {ls : List L} {vs : List Value} {x : Value} {lx l : L}, Rel S w η x lx → vs.length = ls.length → (∀ j, Rel S w η (vs.getD j undef) (ls.getD j .any)) → mmL mx lx ls = some l →
    ∃ v, ((if mx = true then vs.foldlM Builtin.max2 x else vs.foldlM Builtin.min2 x)).run P w = .ok v w ∧ Rel S w η v l
  | [], vs, x, lx, l, hx, hl, hr, h => by
    have : vs = [] := List.eq_nil_of_length_eq_zero hl
    subst this
    unfold mmL at h
    split at h
    · cases h; exact ⟨x, by cases mx <;> simp, hx⟩
    · rename_i e; simp at e
    · simp at h
  | y :: ls, [], x, lx, l, hx, hl, hr, h => by simp at hl
  | y :: ls, v :: vs, x, lx, l, hx, hl, hr, h => by
    unfold mmL at h
    split at h
    · rename_i e; simp at e
    · rename_i k n k' m rest e
      cases e
      have := hx.inv_v; subst this
      have h0 : Rel S w η v (.v (.int k' m)) := by simpa using hr 0
      have := h0.inv_v; subst this
      obtain ⟨v', e1, e2⟩ := mm_fine (.v (.int k (if mx = true then (if m > n then m else n) else (if m < n then m else n)))) (by simpa using hl) (fun j => by simpa using hr (j + 1)) h
      refine ⟨v', ?_, e2⟩
      cases mx
      · simp only [Bool.false_eq_true, if_false, List.foldlM_cons, Sem.run_bind] at e1 ⊢
        have : (Builtin.min2 (.int k n) (.int k' m)).run P w = .ok (.int k (if m < n then m else n)) w := by simp [Builtin.min2]
        rw [this]; exact e1
      · simp only [if_true, List.foldlM_cons, Sem.run_bind] at e1 ⊢
        have : (Builtin.max2 (.int k n) (.int k' m)).run P w = .ok (.int k (if m > n then m else n)) w := by simp [Builtin.max2]
        rw [this]; exact e1
    · simp at h

theorem foldl_putArr (off : Nat) : ∀ (vs : List Value) (i : Nat) (cs : Array Value), (vs.zipIdx i).foldl (fun cs (x : Value × Nat) => cs.setIfInBounds (off + x.2) x.1) cs = putArr cs (off + i) vs
  | [], i, cs => by simp [putArr]
  | v :: vs, i, cs => by simp only [List.zipIdx_cons, List.foldl_cons, putArr]; rw [foldl_putArr off vs (i + 1)]; rfl

/-- Parts laid into a literal. -/
theorem fill_fine (place : Nat → Option (Nat × Nat)) (place' : Nat → Option (Nat × Nat)) (hp : ∀ i p, place i = some p → place' i = some p) (hE : REnv η S w a.tmps E) : ∀ {ps : List (Nat × Operand)} {qs : List (Nat × Nat × A)} {cells : Array Value} {zs ls : List L},
    compParts place ps = some qs → cells.size = zs.length → (∀ j, Rel S w η (cells.getD j undef) (zs.getD j .any)) → lfill zs (qs.map fun p => (p.1, p.2.1, arg E p.2.2)) = some ls →
    ∃ cs, Instr.fill place' cells (ps.map fun p => (p.1, a.eval p.2)) = some cs ∧ cs.size = ls.length ∧ ∀ j, Rel S w η (cs.getD j undef) (ls.getD j .any)
  | [], qs, cells, zs, ls, h, hz, hr, hl => by
    simp [compParts] at h; subst h
    simp [lfill] at hl; subst hl
    exact ⟨cells, by simp [Instr.fill], hz, hr⟩
  | (i, x) :: ps, qs, cells, zs, ls, h, hz, hr, hl => by
    simp only [compParts, Option.bind_eq_some_iff, Option.map_eq_some_iff] at h
    obtain ⟨⟨off, size⟩, h1, y, h2, qs', h3, rfl⟩ := h
    simp only [List.map_cons, lfill] at hl
    split at hl
    · rename_i hc
      obtain ⟨c1, c2, c3⟩ := hc
      have hx := compA_sound h2 hE
      obtain ⟨z1, z2⟩ := hx.cells c1
      have hput : ((a.eval x).cells.zipIdx.foldl (fun cs (x : Value × Nat) => cs.setIfInBounds (off + x.2) x.1) cells) = putArr cells off (a.eval x).cells.toList := by
        rw [← Array.foldl_toList]
        have := foldl_putArr off (a.eval x).cells.toList 0 cells
        simpa using this
      obtain ⟨cs, e1, e2, e3⟩ := fill_fine place place' hp hE h3 (cells := putArr cells off (a.eval x).cells.toList) (by rw [putArr_size, setCells_length]; exact hz) (fun j => by
        rw [putArr_get _ _ _ _ (by simp; omega), setCells_get _ _ _ _ (by omega)]
        by_cases hj : off ≤ j ∧ j < off + (arg E y).cells.length
        · rw [if_pos (by simp; omega), if_pos hj]
          have := z2 (j - off)
          simpa [Array.getD_eq_getD_getElem?, List.getD] using this
        · rw [if_neg (by simp; omega), if_neg hj]; exact hr j) hl
      refine ⟨cs, ?_, e2, e3⟩
      simp only [List.map_cons, Instr.fill, hp i _ h1]
      rw [if_neg (by simp; omega)]
      rw [← e1]; congr 1
    · simp at hl

theorem run_mapM_list {α β : Type} (f : α → Sem β) (g : α → β) : ∀ (l : List α), (∀ x ∈ l, (f x).run P w = .ok (g x) w) → (l.mapM f).run P w = .ok (l.map g) w
  | [], _ => by simp
  | x :: l, h => by
    simp only [List.mapM_cons, Sem.run_bind, h x (by simp), Result.andThen_ok, run_mapM_list f g l (fun y hy => h y (by simp [hy])), Sem.run_pure, List.map_cons]

theorem run_mapM {α β : Type} (f : α → Sem β) (g : α → β) (l : Array α) (h : ∀ x ∈ l, (f x).run P w = .ok (g x) w) : (l.mapM f).run P w = .ok (l.map g) w := by
  rw [Array.mapM_eq_mapM_toList]
  simp only [Sem.run_map, run_mapM_list f g l.toList (fun x hx => h x (by simpa using hx)), Result.andThen_ok]
  congr 1
  apply Array.ext'
  simp

end
end Lg
