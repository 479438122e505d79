/- Regions whose order of evaluation is open: all orders. -/
import Derived.Test.YtaegmmeppkgnkaaLgQ3
namespace Lg
open Go

theorem compOps_get {P : Program} {n : Nat} {ops : Array Oper} : ∀ {l : List Oper} {ol : List O}, compOps P n ops l = some ol → ol.length = l.length ∧ ∀ (i : Nat) o oo, l[i]? = some o → ol[i]? = some oo → compO P n ops o = some oo
  | [], ol, h => by simp [compOps] at h; subst h; simp
  | o :: l, ol, h => by
    simp only [compOps, Option.bind_eq_some_iff, Option.map_eq_some_iff] at h
    obtain ⟨x, h1, ol', h2, rfl⟩ := h
    obtain ⟨e1, e2⟩ := compOps_get h2
    refine ⟨by simp [e1], fun i o' oo ho hoo => ?_⟩
    cases i with
    | zero => simp at ho hoo; subst ho; subst hoo; exact h1
    | succ i => exact e2 i o' oo (by simpa using ho) (by simpa using hoo)

theorem tempsOK_spec {anc : List (List Nat)} {ol : List O} (h : tempsOK anc ol = true) {i j : Nat} {x y : O} (hij : i < j) (hx : ol[i]? = some x) (hy : ol[j]? = some y) :
    (∀ d, x.dst = some d → (d ∈ y.names ∨ y.dst = some d) → i ∈ anc.getD j []) ∧ (∀ d, y.dst = some d → d ∈ x.names → i ∈ anc.getD j []) := by
  unfold tempsOK at h
  have hj : j < ol.length := (List.getElem?_eq_some_iff.1 hy).1
  have h1 := List.all_eq_true.1 (List.all_eq_true.1 h j (List.mem_range.2 hj)) i (List.mem_range.2 hij)
  simp only [hx, hy, Bool.and_eq_true] at h1
  obtain ⟨h2, h3⟩ := h1
  refine ⟨fun d hd hn => ?_, fun d hd hn => ?_⟩
  · rw [hd] at h2
    simp only [Bool.or_eq_true, Bool.not_eq_true', Bool.or_eq_false_iff] at h2
    rcases h2 with ⟨h4, h5⟩ | h4
    · rcases hn with hn | hn
      · have := List.contains_iff_mem.2 hn; rw [this] at h4; simp at h4
      · rw [hn] at h5; simp at h5
    · exact List.contains_iff_mem.1 h4
  · rw [hd] at h3
    simp only [Bool.or_eq_true, Bool.not_eq_true'] at h3
    rcases h3 with h4 | h4
    · have := List.contains_iff_mem.2 hn; rw [this] at h4; simp at h4
    · exact List.contains_iff_mem.1 h4

theorem newsOK_spec {ol : List O} (h : newsOK ol = true) {i j : Nat} {x y : O} {d : Nat} (hij : i ≠ j) (hx : ol[i]? = some x) (hy : ol[j]? = some y) (hn : isNew x.op = true) (hd : x.dst = some d) : y.dst ≠ some d := by
  unfold newsOK at h
  have hi : i < ol.length := (List.getElem?_eq_some_iff.1 hx).1
  have hj : j < ol.length := (List.getElem?_eq_some_iff.1 hy).1
  have h1 := List.all_eq_true.1 (List.all_eq_true.1 h i (List.mem_range.2 hi)) j (List.mem_range.2 hj)
  simp only [hx, hy, Bool.or_eq_true, beq_iff_eq, hij, false_or, hd, Option.isNone_some, Bool.false_eq_true, or_false, bne_iff_ne, ne_eq] at h1
  rcases h1 with h1 | h1
  · exfalso
    revert h1 hn
    cases x.op <;> simp [isNew]
  · exact fun e => h1 e.symm

theorem edgesOK_spec {ops : List Oper} (h : edgesOK ops = true) {i : Nat} {o : Oper} (ho : ops[i]? = some o) : ∀ e ∈ edges o, e < i := by
  unfold edgesOK at h
  have hi : i < ops.length := (List.getElem?_eq_some_iff.1 ho).1
  have h1 := List.all_eq_true.1 h i (List.mem_range.2 hi)
  simp only [ho] at h1
  intro e he
  simpa using List.all_eq_true.1 h1 e he

theorem cutAt_spec {anc : List (List Nat)} {n p : Nat} (h : cutAt anc n p = true) {k j : Nat} (hk : k < n) (hpk : p ≤ k) (hj : j < p) : j ∈ anc.getD k [] := by
  unfold cutAt at h
  have h1 := List.all_eq_true.1 h k (List.mem_range.2 hk)
  simp only [Bool.or_eq_true, decide_eq_true_eq] at h1
  rcases h1 with h1 | h1
  · omega
  · exact List.contains_iff_mem.1 (List.all_eq_true.1 h1 j (List.mem_range.2 hj))

section
variable {ds : List Deferred} {ro : Option Nat} {P : Program}

def unl (N : Nat) (listed : Array Bool) : Nat := (List.range N).countP fun j => !listed.getD j false

theorem unl_step {N : Nat} {listed : Array Bool} {i : Nat} (hi : i < listed.size) (hN : i < N) (h : listed.getD i false = false) : unl N (listed.setIfInBounds i true) < unl N listed :=
  countP_lt (fun x _ hx => by
    rw [set_getD hi] at hx
    split at hx
    · simp at hx
    · exact hx) ⟨i, List.mem_range.2 hN, by rw [h]; rfl, by rw [set_getD hi, if_pos rfl]; rfl⟩

theorem unl_pos {N : Nat} {listed : Array Bool} {i : Nat} (hN : i < N) (h : listed.getD i false = false) : 0 < unl N listed :=
  List.countP_pos_iff.2 ⟨i, List.mem_range.2 hN, by rw [h]; rfl⟩

/-- The operation that comes first among those that have not run is ready. -/
theorem least_ready {n : Nat} {ops : Array Oper} {ol : List O} {anc : List (List Nat)} (lkd : Looked n ops ol anc P) {listed : Array Bool} (hsz : listed.size = ops.size) {i : Nat} (hi : i < ops.size) (hu : listed.getD i false = false) (hl : ∀ j, j < i → listed.getD j false = true) :
    i ∈ Region.ready .any ops listed := by
  refine ready_iff.2 ⟨by rw [agetD_of_lt _ _ (by omega)] at hu ⊢; exact hu, _, Array.getElem?_eq_getElem hi, fun e he => hl e (lkd.edge i _ (Array.getElem?_eq_getElem hi) e he)⟩

theorem exists_first {p : Nat → Prop} {i : Nat} (h : p i) : ∃ k, k ≤ i ∧ p k ∧ ∀ j, j < k → ¬ p j := by
  induction i using Nat.strongRecOn with
  | _ i ih =>
    by_cases hx : ∃ j, j < i ∧ p j
    · obtain ⟨j, hj, hp⟩ := hx
      obtain ⟨k, h1, h2, h3⟩ := ih j hj hp
      exact ⟨k, by omega, h2, h3⟩
    · exact ⟨i, Nat.le_refl _, h, fun j hj hp => hx ⟨j, hj, hp⟩⟩

/-- One operation that runs or is passed over, outside of a piece of several. -/
theorem single_sound {n : Nat} {ops : Array Oper} {o : Oper} {oo : O} {K : Env → Heap → Prop} {Q : Exit → Act → World → Prop} {next : Act → World → Prop} {E : Env} {H : Heap} {η : List Nat} {S : Nat → Prop} {w : World} {a : Act} (hc : compO P n ops o = some oo) (hl : lops P [oo] K E H)
    (hA : At n ds η S w a E H) (hn : ∀ E' H' η' S' w' a', K E' H' → At n ds η' S' w' a' E' H' → Le η S w η' S' w' → next a' w') {i : Nat} (hi : ops[i]? = some o) : wpOpIn (FW ro) 0 P ops Q i next a w := by
  simp only [compO, Option.bind_eq_some_iff] at hc
  obtain ⟨ii, hii, ho⟩ := hc
  split at ho
  rotate_left
  · simp at ho
  rename_i hd
  have hd' : ∀ t, o.dst = some t → t < n := fun t ht => by rw [ht] at hd; simpa [dstOk] using hd
  have runIt : ∀ {E' : Env}, At n ds η S w a E' H → (lop P ii E' H fun l H' => K (putE E' o.dst l) H') → o.wpIn (FW ro) 0 P a w next Q := fun {E'} hA' hl' => by
    refine lop_sound hii hl' hA'.conc hA'.env ?_
    intro v l' H' η' S' w' hK hr hC' hL
    exact hn _ _ _ _ _ _ hK (hA'.put hd' hC' hL hr) hL
  have passIt : ∀ {E' : Env}, At n ds η S w a E' H → K (putE E' o.dst .no) H → next (a.put o.dst undef) w := fun {E'} hA' hl' =>
    hn _ _ _ _ _ _ hl' (hA'.put hd' hA'.conc (Le.refl _ _ _) .no) (Le.refl _ _ _)
  unfold wpOpIn
  rw [hi]
  simp only
  cases hg : o.guard with
  | none =>
    simp only [hg, Option.some.injEq] at ho
    subst ho
    have hw : Region.wanted o (yielded ops a.tmps) = true := by simp [Region.wanted, hg]
    rw [if_pos hw]
    exact (runIt hA hl)
  | some jb =>
    obtain ⟨j, b⟩ := jb
    simp only [hg, Option.map_eq_some_iff] at ho
    obtain ⟨s, hs, rfl⟩ := ho
    simp only [lops, lguard] at hl
    have hwant : ∀ x : Value, a.tmps.getD s undef = x → Region.wanted o (yielded ops a.tmps) = (match x with | .bool y => y == b | _ => false) := fun x hx => by
      simp only [Region.wanted, hg, yielded, hs, Option.bind_some]
      by_cases hlt : s < a.tmps.size
      · rw [agetD_of_lt _ _ hlt] at hx
        simp only [Array.getElem?_eq_getElem hlt, hx]
        cases x <;> simp
      · rw [agetD_of_ge _ _ (by omega)] at hx
        subst hx
        simp [Array.getElem?_eq_none (Nat.le_of_not_lt hlt), undef]
    have hE := hA.env s
    split at hl
    · rename_i x e
      rw [e] at hE
      have hv := hE.inv_v
      rw [hwant _ hv]
      have again : ∀ c, x = c → At n ds η S w a ((s, .v (.bool c)) :: E) H := fun c hx => by
        subst hx
        refine ⟨hA.conc, fun u => ?_, hA.size, hA.defers⟩
        by_cases hu : u = s
        · subst hu; simp only [lk, if_true]; rw [hv]; exact .v _
        · simp only [lk, hu, if_false]; exact hA.env u
      by_cases hxb : x = b
      · simp only [hxb, beq_self_eq_true, if_true]
        exact (runIt (again b hxb) (hl.1 hxb))
      · have hxb' : x = !b := by cases x <;> cases b <;> simp_all
        simp only [beq_eq_false_iff_ne.2 hxb, Bool.false_eq_true, if_false]
        exact ⟨fun _ _ => trivial, passIt (again (!b) hxb') (hl.2 hxb')⟩
    · rename_i e
      rw [e] at hE
      have hv := hE.inv_no
      rw [hwant _ hv]
      simp only [undef, Bool.false_eq_true, if_false]
      exact ⟨fun _ _ => trivial, passIt hA hl⟩
    · exact hl.elim

theorem append_new {t u e ty : TypeId} {i : TypeInfo} {z : Value} {x y : Value} {lx ly : L} {cs : List L} {mk : Nat → L} {H : Heap} {η : List Nat} {S : Nat → Prop} {w : World} (hC : Conc η S w H) (hu : P.underlying t = some (.slice e)) (hu2 : ∃ e', P.underlying u = some (.slice e')) (hi : P.info? e = some i) (hz : i.zero = some z)
    (hz2 : z.cells.size = i.size) (hb : i.bytes ≠ 0) (hs0 : i.size ≠ 0) (hx : Rel S w η x lx) (hy : Rel S w η y ly) (h : appNew i.size i.bytes lx ly = some (cs, mk)) :
    ∃ v c dr, (Builtin.append_ #[t, u] ty #[x, y]).run P w = .ok v { w with drawn := dr, heap := w.heap.push (.cells c e) } ∧ cs.length ≤ c.size ∧ (∀ j, Rel S w η (c.getD j undef) (cs.getD j .any)) ∧
      ∀ S' w', w'.heap[w.heap.size]? = some (.cells c e (0, 0)) → Rel S' w' [w.heap.size] v (mk 0) := by
  unfold appNew at h
  split at h
  · cases h
  rename_i ys hys
  have hys' := lcells_none hys H
  split at h
  rotate_left
  · cases h
  rename_i hcond
  obtain ⟨hdv, hsol, hne⟩ := hcond
  obtain ⟨ad', m, cap', rfl, hm, new, hn1, hn2, hn3⟩ := lcells_reads (P := P) hC hy hys'
  have hdiv : ys.length / i.size = m := by rw [hm, Nat.mul_div_cancel _ (by omega)]
  have hm0 : 0 < m := Nat.pos_of_ne_zero fun e => by subst e; omega
  have grow : ∀ {ad0 : Option Addr} {n0 cap0 : Nat} {os : List L} {old : Array Value}, cap0 < n0 + m → os.length = n0 * i.size → old.size = os.length → (∀ w' : World, w'.heap = w.heap → (Builtin.firstCells i.size n0 (.slice ad0 n0 cap0)).run P w' = .ok old w') → (∀ j, j < os.length → Rel S w η (old.getD j undef) (os.getD j .any)) → (os.length + ys.length) * i.bytes ≤ 70368744177664 →
      ∃ v c dr, (Builtin.append_ #[t, u] ty #[.slice ad0 n0 cap0, .slice ad' m cap']).run P w = .ok v { w with drawn := dr, heap := w.heap.push (.cells c e) } ∧ (os ++ ys).length ≤ c.size ∧ (∀ j, Rel S w η (c.getD j undef) ((os ++ ys).getD j .any)) ∧
      ∀ S' w', w'.heap[w.heap.size]? = some (.cells c e (0, 0)) → Rel S' w' [w.heap.size] v (.view i.size 0 0 (n0 + m) false) := fun {ad0 n0 cap0 os old} hcap ho1 ho2 ho3 ho4 hbd => by
    have hbd' : (n0 + m) * i.bytes ≤ 70368744177664 := by
      refine Nat.le_trans (Nat.mul_le_mul_right _ ?_) hbd
      have h1 := Nat.le_mul_of_pos_right n0 (show 0 < i.size by omega)
      have h2 := Nat.le_mul_of_pos_right m (show 0 < i.size by omega)
      omega
    obtain ⟨nc, hc1, hc2, hc3⟩ := (append_run (P := P) (ty := ty) hu hu2 hi hz hb ho3 hn2).2 hcap hbd'
    have hsize : (old ++ new ++ Builtin.zeroCells z.cells (nc - (n0 + m))).size = nc * i.size := by
      simp only [Array.size_append, ho2, ho1, hn1, hm, Builtin.zeroCells, Array.size_map, Array.size_range, hz2]
      rw [← Nat.add_mul, ← Nat.add_mul]; congr 1; omega
    have hle : (n0 + m) * i.size ≤ nc * i.size := Nat.mul_le_mul_right _ hc1
    refine ⟨_, _, _, hc3, by rw [hsize, List.length_append, ho1, hm, ← Nat.add_mul]; exact hle, fun j => ?_, fun S' w' hw => .view (b := w.heap.size) (by simp) hw (by rw [hsize]; omega) hc1 hc2 (by simp)⟩
    simp only [Array.getD_eq_getD_getElem?, List.getD]
    by_cases hj2 : j < os.length
    · rw [Array.getElem?_append_left (by simp; omega), Array.getElem?_append_left (by omega), List.getElem?_append_left hj2]
      have := ho4 j hj2
      simpa [Array.getD_eq_getD_getElem?, List.getD] using this
    · by_cases hj3 : j < os.length + ys.length
      · rw [Array.getElem?_append_left (by simp; omega), Array.getElem?_append_right (by omega), List.getElem?_append_right (by omega), ho2]
        have := hn3 (j - os.length) (by omega)
        simpa [Array.getD_eq_getD_getElem?, List.getD] using this
      · rw [List.getElem?_eq_none (l := os ++ ys) (by simp; omega)]
        exact .any _
  split at h
  · -- nothing
    obtain ⟨ad0, n0, cap0, e0, ho1, old, ho2, ho3, ho4⟩ := lcells_reads (P := P) (esz := i.size) (ys := []) hC hx rfl
    have := hx.inv_v; subst this
    cases e0
    split at h
    · rename_i hbd
      cases h
      have := grow (os := []) (by omega) (by simp) ho2 ho3 ho4 (by simpa using hbd)
      simpa [hdiv] using this
    · cases h
  · rename_i ee xs
    split at h
    rotate_left
    · cases h
    rename_i he; subst he
    obtain ⟨ad0, n0, cap0, rfl, ho1, old, ho2, ho3, ho4⟩ := lcells_reads (P := P) (esz := i.size) (ys := flat i.size xs) hC hx (by simp [lcells])
    obtain ⟨ad1, cap1, e1, hx1, hx2, hx3, hx4, hx5⟩ := hx.inv_sl
    cases e1
    have hcap := hx3 rfl
    split at h
    · rename_i hbd
      cases h
      have := grow (by omega) ho1 ho2 ho3 ho4 hbd
      simpa [hdiv] using this
    · cases h
  · cases h

/-- An operation that makes a row: the block is new, and nobody knows it. -/
theorem new_fine {o : Oper} {i : I} {cs : List L} {mk : Nat → L} {E : Env} {η : List Nat} {S : Nat → Prop} {w : World} {a : Act} (hc : compOp P o.op = some i) (hl : lnew i E = some (cs, mk)) (hE : REnv η S w a.tmps E) {H : Heap} (hC : Conc η S w H) :
    ∃ v c t dr, (execOp a.eval o).run P w = .ok (.value v) { w with drawn := dr, heap := w.heap.push (.cells c t) } ∧ cs.length ≤ c.size ∧ (∀ j, Rel S w η (c.getD j undef) (cs.getD j .any)) ∧
      ∀ S' w', w'.heap[w.heap.size]? = some (.cells c t (0, 0)) → Rel S' w' [w.heap.size] v (mk 0) := by
  obtain ⟨dst, op, ty, pos, after, guard⟩ := o
  cases op <;> simp only [compOp] at hc <;> first | (simp at hc; done) | skip
  case alloc t =>
    simp only [zeroOf, Option.map_eq_some_iff, Option.bind_eq_some_iff] at hc
    obtain ⟨z', ⟨z, ⟨i', hi, hz⟩, rfl⟩, rfl⟩ := hc
    simp only [lnew, Option.some.injEq, Prod.mk.injEq] at hl
    obtain ⟨rfl, rfl⟩ := hl
    obtain ⟨e1, e2⟩ := zero_cells (S := S) (w := w) (η := η) z
    refine ⟨.pointer (some ⟨w.heap.size, 0, none⟩), z.cells, t, w.drawn, ?_, by omega, e2, fun S' w' hw => .ptr (by simp) hw⟩
    simp only [execOp, Instr.alloc, Sem.run_bind, run_zero hi hz, Result.andThen_ok, newVar, newRow, run_newObj, Sem.run_pure]
  case box t x =>
    simp only [Option.map_eq_some_iff] at hc
    obtain ⟨y, hy, rfl⟩ := hc
    simp only [lnew] at hl
    split at hl
    · rename_i htop
      simp only [Option.some.injEq, Prod.mk.injEq] at hl
      obtain ⟨rfl, rfl⟩ := hl
      obtain ⟨e1, e2⟩ := (compA_sound hy hE).cells htop
      refine ⟨.pointer (some ⟨w.heap.size, 0, none⟩), (a.eval x).cells, t, w.drawn, ?_, by omega, e2, fun S' w' hw => .ptr (by simp) hw⟩
      simp only [execOp, Instr.box, Sem.run_bind, newVar, newRow, run_newObj, Result.andThen_ok, Sem.run_pure]
    · simp at hl
  case buildSlice t n parts =>
    have hparts : (parts.map fun (p : Nat × Operand) => (p.1, a.eval p.2)).toList = parts.toList.map fun p => (p.1, a.eval p.2) := by simp
    split at hc
    · rename_i e hu
      simp only [Option.bind_eq_some_iff] at hc
      obtain ⟨i', hi, z, hz, hc⟩ := hc
      split at hc
      · simp at hc
      · rename_i hno
        simp only [not_or, Nat.not_lt] at hno
        obtain ⟨n1, n2, n3⟩ := hno
        simp only [Option.map_eq_some_iff] at hc
        obtain ⟨qs, hq, rfl⟩ := hc
        simp only [lnew, Option.map_eq_some_iff, Prod.mk.injEq] at hl
        obtain ⟨ls, hf, rfl, rfl⟩ := hl
        obtain ⟨e1, e2⟩ := zero_cells (S := S) (w := w) (η := η) z
        have hz2 : z.cells.size = i'.size := by omega
        have hsz : (Go.sizeOf e).run P w = .ok i'.size w := by simp [Go.sizeOf, run_info hi]
        obtain ⟨cs, g1, g2, g3⟩ := fill_fine (fun j => some (j * i'.size, i'.size)) (fun j => some (j * i'.size, i'.size)) (fun _ _ h => h) hE hq (cells := (Array.range (n * z.cells.size)).map (z.cells[· % z.cells.size]!)) (zs := zeros n (ofV z).cells)
          (by simp [zeros_length e1]) (fun j => by
            by_cases hj : j < n * z.cells.size
            · exact rel_zeros e1 e2 n j hj
            · rw [getD_of_ge _ _ (by rw [zeros_length e1]; omega)]; exact .any _) hf
        have hlen : ls.length = n * i'.size := by
          have : ∀ (ps : List (Nat × Nat × L)) (zs ls : List L), lfill zs ps = some ls → ls.length = zs.length := by
            intro ps
            induction ps with
            | nil => intro zs ls h; simp [lfill] at h; rw [h]
            | cons p ps ih =>
              intro zs ls h
              obtain ⟨o, s, l⟩ := p
              simp only [lfill] at h
              split at h
              · rw [ih _ _ h, setCells_length]
              · simp at h
          rw [this _ _ _ hf, zeros_length e1, hz2]
        refine ⟨.slice (some ⟨w.heap.size, 0, none⟩) n n, cs, e, w.drawn, ?_, by omega, g3, fun S' w' hw => ?_⟩
        · simp only [execOp, Instr.buildSlice, Sem.run_bind, run_underlying hu, Result.andThen_ok, hsz]
          rw [if_neg (by omega)]
          by_cases h0 : n * i'.size = 0
          · simp only [if_pos h0, Sem.run_bind, Sem.run_pure, Result.andThen_ok, hparts]
            have : Instr.fill (fun i => some (i * i'.size, i'.size)) ((Array.range (n * i'.size)).map (fun x => (#[] : Array Value)[x % (#[] : Array Value).size]!)) (parts.toList.map fun p => (p.1, a.eval p.2)) = some cs := by
              rw [← g1, hz2, h0]; simp [Array.range_zero']
            simp only [this, newRow, run_newObj, Sem.run_bind, Result.andThen_ok, Sem.run_pure]
          · simp only [if_neg h0, Sem.run_bind, run_zero hi hz, Sem.run_pure, Result.andThen_ok, hparts]
            rw [hz2] at g1
            simp only [hz2, g1, newRow, run_newObj, Sem.run_bind, Result.andThen_ok, Sem.run_pure]
        · have hcap : n ≤ maxLen := by
            have : n ≤ n * i'.size := Nat.le_mul_of_pos_right _ (by omega)
            simp only [maxLen]; omega
          exact .view (b := w.heap.size) (by simp) hw (by omega) (Nat.le_refl _) hcap (fun _ => rfl)
    · simp at hc
  case call c =>
    by_cases hb : c.callee = .builtin .append
    · have hcc := hc
      unfold compCall at hcc
      rw [hb] at hcc
      simp only at hcc
      split at hcc
      · rename_i t u x y ht hx
        have ht := types2 ht
        obtain ⟨consts, hcb⟩ := call_builtin (a := a) (o := ⟨dst, .call c, ty, pos, after, guard⟩) rfl hb
        rw [hcb, ht, args2 hx]
        split at hcc
        · rename_i e e' hu hu2
          simp only [Option.bind_eq_some_iff] at hcc
          obtain ⟨i', hi, z, hz, hcc⟩ := hcc
          split at hcc
          · simp at hcc
          · rename_i hno
            simp only [not_or] at hno
            simp only [Option.bind_eq_some_iff, Option.map_eq_some_iff] at hcc
            obtain ⟨x', hx', y', hy', rfl⟩ := hcc
            simp only [lnew] at hl
            obtain ⟨v, cs', dr, r1, r2, r3, r4⟩ := append_new (P := P) (ty := ty) hC hu ⟨e', hu2⟩ hi hz (by omega) hno.2.1 hno.1 (compA_sound hx' hE) (compA_sound hy' hE) hl
            exact ⟨v, cs', e, dr, run_val r1, r2, r3, r4⟩
        · simp at hcc
      · simp at hcc
    · exfalso
      cases i <;> simp only [lnew] at hl <;> first | (cases hl; done) | ((revert hc; unfold compCall) <;> ((repeat' split) <;> simp_all [Option.bind_eq_some_iff]; done))
  all_goals (exfalso; cases i <;> simp only [lnew] at hl <;> first | (cases hl; done) | (revert hc; try unfold compCall) <;> ((repeat' split) <;> simp [Option.bind_eq_some_iff]; done))

theorem comp_mksl {op : Op} {esz bytes : Nat} {z : List L} {n c : A} (h : compOp P op = some (.mksl esz bytes z n c)) :
    ∃ t x y e i z0, op = .makeSlice t x y ∧ P.underlying t = some (.slice e) ∧ P.info? e = some i ∧ i.zero = some z0 ∧ z0.cells.size = i.size ∧ i.size ≠ 0 ∧ compA x = some n ∧ compA y = some c ∧ esz = i.size ∧ bytes = i.bytes ∧ z = (ofV z0).cells := by
  cases op <;> simp only [compOp] at h
  case makeSlice t x y =>
    split at h
    · rename_i e hu
      simp only [Option.bind_eq_some_iff] at h
      obtain ⟨i, hi, z0, hz, h⟩ := h
      split at h
      · simp at h
      · rename_i hno
        simp only [not_or] at hno
        simp only [Option.bind_eq_some_iff, Option.map_eq_some_iff, I.mksl.injEq] at h
        obtain ⟨x', hx, y', hy, rfl, rfl, rfl, rfl, rfl⟩ := h
        exact ⟨t, x, y, e, i, z0, rfl, hu, hi, hz, by omega, hno.1, hx, hy, rfl, rfl, rfl⟩
    · simp at h
  all_goals (exfalso; (revert h; try unfold compCall) <;> ((repeat' split) <;> simp [Option.bind_eq_some_iff]; done))

theorem Le.newBlock {H : Heap} {η : List Nat} {S : Nat → Prop} {w : World} (hC : Conc η S w H) (c : Array Value) (t : TypeId) (dr : Nat) : Le η S w η S { w with drawn := dr, heap := w.heap.push (.cells c t) } := by
  have old : ∀ b : Nat, b < w.heap.size → (w.heap.push (Obj.cells c t))[b]? = w.heap[b]? := fun b hb => by rw [Array.getElem?_push]; simp [Nat.ne_of_lt hb]
  have lt_of : ∀ (b : Nat) o, w.heap[b]? = some o → b < w.heap.size := fun b o ho => by
    rcases Nat.lt_or_ge b w.heap.size with h | h
    · exact h
    · simp [Array.getElem?_eq_none h] at ho
  exact ⟨⟨[], by simp, by simp⟩, fun _ h => h, fun b hb => old b (hC.Slt b hb), fun b c _ fr hb => ⟨c, fr, by simp only; rw [old b (lt_of b _ hb)]; exact hb, rfl⟩, by simp, fun b hb _ => old b hb, fun _ h => .inl h, rfl, rfl, rfl⟩

theorem Conc.newBlock {H : Heap} {η : List Nat} {S : Nat → Prop} {w : World} (hC : Conc η S w H) (c : Array Value) (t : TypeId) (dr : Nat) : Conc η S { w with drawn := dr, heap := w.heap.push (.cells c t) } H :=
  hC.frame (fun _ h => h) (fun b hb => by have := hC.Slt b hb; simp; omega) (fun _ _ h => h) (by simp) (fun b hb => by simp only; rw [Array.getElem?_push]; simp [Nat.ne_of_lt hb])

/-- One operation of a piece of several: what it gives. -/
theorem piece_op {n : Nat} {ops : Array Oper} {o : Oper} {oo : O} {out : Out} {Q : Exit → Act → World → Prop} {next : Act → World → Prop} {E : Env} {H : Heap} {η : List Nat} {S : Nat → Prop} {w : World} {a : Act} (hc : compO P n ops o = some oo) (hok : OutOK P H E oo out) (hC : Conc η S w H)
    (hE : ∀ t ∈ oo.names, Rel S w η (a.tmps.getD t undef) (lk E t)) {i : Nat} (hi : ops[i]? = some o) (hnp : ∀ d l, out ≠ .put d l)
    (hn : ∀ v S' w', Le η S w η S' w' → Conc η S' w' H → Rel S' w' η v out.l → (∀ cs mk, out = .new cs mk → w.heap.size < w'.heap.size ∧ ¬ S' w.heap.size ∧ (∃ c t, w'.heap[w.heap.size]? = some (.cells c t (0, 0)) ∧ cs.length ≤ c.size ∧ ∀ j, j < cs.length → Rel S' w' η (c.getD j undef) (cs.getD j .any)) ∧ Rel S' w' [w.heap.size] v (mk 0)) →
      next (a.put o.dst v) w') : wpOpIn (FW ro) 0 P ops Q i next a w := by
  simp only [compO, Option.bind_eq_some_iff] at hc
  obtain ⟨ii, hii, hc⟩ := hc
  split at hc
  rotate_left
  · simp at hc
  -- the slots that it names
  let E' : Env := oo.names.map fun t => (t, lk E t)
  have hE'lk : ∀ t ∈ oo.names, lk E' t = lk E t := by
    have : ∀ (l : List Nat) t, t ∈ l → lk (l.map fun t => (t, lk E t)) t = lk E t := by
      intro l
      induction l with
      | nil => intro t h; simp at h
      | cons x l ih =>
        intro t ht
        simp only [List.map_cons, lk]
        split
        · rename_i e; rw [e]
        · rename_i e
          exact ih t (by rcases List.mem_cons.1 ht with h | h; exact absurd h e; exact h)
    exact fun t ht => this _ t ht
  have hRE : REnv η S w a.tmps E' := by
    have : ∀ (l : List Nat), (∀ t ∈ l, Rel S w η (a.tmps.getD t undef) (lk E t)) → REnv η S w a.tmps (l.map fun t => (t, lk E t)) := by
      intro l
      induction l with
      | nil => intro _ t; exact .any _
      | cons x l ih =>
        intro h t
        simp only [List.map_cons, lk]
        split
        · rename_i e; subst e; exact h t (by simp)
        · exact ih (fun t ht => h t (by simp [ht])) t
    exact this _ hE
  have hok' : OutOK P H E' oo out := hok.congr fun t ht => (hE'lk t ht).symm
  -- the guard
  have hooop : oo.op = ii ∧ oo.dst = o.dst := by
    cases hg : o.guard with
    | none => simp only [hg, Option.some.injEq] at hc; subst hc; exact ⟨rfl, rfl⟩
    | some jb => obtain ⟨j, b⟩ := jb; simp only [hg, Option.map_eq_some_iff] at hc; obtain ⟨s, -, rfl⟩ := hc; exact ⟨rfl, rfl⟩
  have hwant : (runs E' oo → Region.wanted o (yielded ops a.tmps) = true) ∧ (passes E' oo → Region.wanted o (yielded ops a.tmps) = false) := by
    cases hg : o.guard with
    | none =>
      simp only [hg, Option.some.injEq] at hc
      subst hc
      exact ⟨fun _ => by simp [Region.wanted, hg], fun h => by simp [passes] at h⟩
    | some jb =>
      obtain ⟨j, b⟩ := jb
      simp only [hg, Option.map_eq_some_iff] at hc
      obtain ⟨s, hs, rfl⟩ := hc
      have hw : ∀ x : Value, a.tmps.getD s undef = x → Region.wanted o (yielded ops a.tmps) = (match x with | .bool y => y == b | _ => false) := fun x hx => by
        simp only [Region.wanted, hg, yielded, hs, Option.bind_some]
        by_cases hlt : s < a.tmps.size
        · rw [agetD_of_lt _ _ hlt] at hx
          simp only [Array.getElem?_eq_getElem hlt, hx]
          cases x <;> simp
        · rw [agetD_of_ge _ _ (by omega)] at hx
          subst hx
          simp [Array.getElem?_eq_none (Nat.le_of_not_lt hlt), undef]
      have hE0 := hRE s
      refine ⟨fun h => ?_, fun h => ?_⟩
      · simp only [runs] at h
        rw [h] at hE0
        rw [hw _ hE0.inv_v]; simp
      · simp only [passes] at h
        rcases h with h | h
        · rw [h] at hE0
          rw [hw _ hE0.inv_v]; cases b <;> rfl
        · rw [h] at hE0
          rw [hw _ hE0.inv_no]; rfl
  unfold wpOpIn
  rw [hi]
  simp only
  cases out with
  | put d l => exact absurd rfl (hnp d l)
  | skip =>
    rw [if_neg (by rw [hwant.2 hok']; simp)]
    exact ⟨fun _ _ => trivial, hn undef S w (Le.refl _ _ _) hC .no (fun cs mk h => by simp at h)⟩
  | val l =>
    obtain ⟨hr, hv⟩ := hok'
    rw [if_pos (hwant.1 hr)]
    rw [hooop.1] at hv
    have hη : ∀ {η' : List Nat} {S' : Nat → Prop} {w' : World}, Conc η' S' w' H → Le η S w η' S' w' → η' = η := fun {η' S' w'} h1 h2 => by
      obtain ⟨ζ, e, -⟩ := h2.pre
      have := h1.len
      have h3 := hC.len
      subst e
      simp at this
      have : ζ = [] := List.eq_nil_of_length_eq_zero (by omega)
      simp [this]
    by_cases hmk : ∃ esz bytes z n c k k', ii = .mksl esz bytes z n c ∧ arg E' n = .v (.int .i64 k) ∧ arg E' c = .v (.int .i64 k') ∧ mkShared esz bytes z k k' ∧ l = .sl esz true (chunk k.toNat esz (zeros k.toNat z))
    · obtain ⟨esz, bytes, z, n, c, k, k', he, e1, e2, e3, rfl⟩ := hmk
      subst he
      obtain ⟨t, lx, ly, e', i', z0, ho, hu, hi', hz, hz2, hz3, hcx, hcy, hesz, hbytes, hzz⟩ := comp_mksl hii
      subst hesz hbytes hzz
      obtain ⟨v, w', S', r1, r2, r3, r4⟩ := mksl_shared (P := P) hC hu hi' hz hz2 (compA_sound hcx hRE) (compA_sound hcy hRE) e1 e2 e3
      have hexec : (execOp a.eval o).run P w = .ok (.value v) w' := by
        obtain ⟨dst, op, ty', pos, after, guard⟩ := o
        simp only at ho
        subst ho
        exact run_val r1
      refine wpI_run (compOp_nd hii) hexec ?_
      rw [Oper.uponIn_value]
      exact hn v S' w' r4 r3 r2 (fun cs mk h => by simp at h)
    by_cases hem : emptyB ii = true ∧ l = .sl (eszB ii) true []
    · obtain ⟨hem, rfl⟩ := hem
      have hnl : ∃ esz z, ii = .bslice esz z 0 [] ∧ lnew ii E' = some ([], fun h => .view esz h 0 0 true) := by
        cases ii with
        | bslice esz z n ps => cases n with
          | zero => cases ps with
            | nil => exact ⟨esz, z, rfl, by simp [lnew, lfill, zeros]⟩
            | cons => simp [emptyB] at hem
          | succ => simp [emptyB] at hem
        | _ => simp [emptyB] at hem
      obtain ⟨esz, z, rfl, hnl⟩ := hnl
      obtain ⟨v, c, t, dr, h1, h2, h3, h4⟩ := new_fine (a := a) hii hnl hRE hC
      refine wpI_run (compOp_nd hii) h1 ?_
      rw [Oper.uponIn_value]
      refine hn v S _ (Le.newBlock hC c t dr) (Conc.newBlock hC c t dr) ?_ (fun cs mk h => by simp at h)
      rcases (h4 S { w with drawn := dr, heap := w.heap.push (.cells c t) } (by simp)).inv_view with ⟨ad, rfl, h0⟩ | ⟨b, cap, c', t', fr', rfl, hη', hb', hsz, hn', hm, hcl⟩
      · exact .sl0 (fun _ => rfl) (by simp [maxLen])
      · exact .sl0 hcl hm
    have hlop : lop P ii E' H (fun l' H' => l' = l ∧ H' = H) := by
      rcases hv with ⟨f, xs, he, hcall⟩ | ⟨x, xs, f, ff, cc, he, hx, hcall⟩ | ⟨esz, bytes, z, n, c, k, k', g1, g2, g3, g4, g5⟩ | ⟨hread, H', hlo⟩ | hem'
      · subst he; exact hcall
      · subst he
        show callD P (arg E' x) (xs.map (arg E')) H _
        rw [hx]; exact hcall
      · exact absurd ⟨esz, bytes, z, n, c, k, k', g1, g2, g3, g4, g5⟩ hmk
      · have := read_same hread hlo
        subst this
        cases ii <;> first | (simp [isRead] at hread; done) | exact ⟨_, hlo, rfl, rfl⟩
      · exact absurd hem' hem
    refine lop_sound hii hlop hC hRE ?_
    rintro v l' H' η' S' w' ⟨rfl, rfl⟩ h1 h2 h3
    have := hη h2 h3
    subst this
    exact hn v S' w' h3 h2 h1 (fun cs mk h => by simp at h)
  | new cs mk =>
    obtain ⟨hr, hv⟩ := hok'
    rw [if_pos (hwant.1 hr)]
    rw [hooop.1] at hv
    obtain ⟨v, c, t, dr, h1, h2, h3, h4⟩ := new_fine (a := a) hii hv hRE hC
    refine wpI_run (compOp_nd hii) h1 ?_
    rw [Oper.uponIn_value]
    have hL := Le.newBlock hC c t dr
    have hC' := Conc.newBlock hC c t dr
    refine hn v S _ hL hC' (.any _) ?_
    rintro cs' mk' he
    cases he
    exact ⟨by simp, fun hs => by have := hC.Slt _ hs; omega, ⟨c, t, by simp, h2, fun j hj => (h3 j).le hL⟩, h4 S _ (by simp)⟩

theorem comp_store {op : Op} {s d : Nat} {y : A} (h : compOp P op = some (.store s (.t d) y)) : ∃ t x y', op = .store t x y' ∧ szOf P t = some s ∧ compA x = some (.t d) ∧ compA y' = some y := by
  cases op <;> simp only [compOp] at h
  case store t x y' =>
    simp only [Option.bind_eq_some_iff, Option.map_eq_some_iff] at h
    obtain ⟨s', hs, x', hx, y'', hy, e⟩ := h
    simp only [I.store.injEq] at e
    obtain ⟨rfl, rfl, rfl⟩ := e
    exact ⟨t, x, y', rfl, hs, hx, hy⟩
  all_goals (exfalso; (revert h; try unfold compCall) <;> ((repeat' split) <;> simp [Option.bind_eq_some_iff]; done))

/-- A store, in a piece of several, to a row that was made there. -/
theorem piece_put {n : Nat} {ops : Array Oper} {o : Oper} {oo : O} {d : Nat} {l : L} {Q : Exit → Act → World → Prop} {next : Act → World → Prop} {E : Env} {H : Heap} {η : List Nat} {S : Nat → Prop} {w : World} {a : Act} (hc : compO P n ops o = some oo) (hok : OutOK P H E oo (.put d l)) (hC : Conc η S w H)
    (hE : ∀ t ∈ oo.names, Rel S w η (a.tmps.getD t undef) (lk E t)) {i : Nat} (hi : ops[i]? = some o) {β : Nat} {cs : List L} (hβ : Holds η S w β cs) (hβS : ¬ S β) (hβη : β ∉ η) (hptr : a.tmps.getD d undef = .pointer (some ⟨β, 0, none⟩)) (hlen : l.cells.length ≤ cs.length)
    (hn : ∀ w', Le (η ++ [β]) S w (η ++ [β]) S w' → (∀ b, b ≠ β → w'.heap[b]? = w.heap[b]?) → Conc η S w' H → Holds η S w' β (setCells cs 0 l.cells) → next a w') : wpOpIn (FW ro) 0 P ops Q i next a w := by
  simp only [compO, Option.bind_eq_some_iff] at hc
  obtain ⟨ii, hii, hc⟩ := hc
  split at hc
  rotate_left
  · simp at hc
  obtain ⟨hr, hdn, s, y, hop, hyd, hy, htop, hs⟩ := hok
  have hooop : oo.op = ii ∧ oo.dst = o.dst := by
    cases hg : o.guard with
    | none => simp only [hg, Option.some.injEq] at hc; subst hc; exact ⟨rfl, rfl⟩
    | some jb => obtain ⟨j, b⟩ := jb; simp only [hg, Option.map_eq_some_iff] at hc; obtain ⟨s, -, rfl⟩ := hc; exact ⟨rfl, rfl⟩
  have hwant : Region.wanted o (yielded ops a.tmps) = true := by
    cases hg : o.guard with
    | none => simp [Region.wanted, hg]
    | some jb =>
      obtain ⟨j, b⟩ := jb
      simp only [hg, Option.map_eq_some_iff] at hc
      obtain ⟨s', hs', rfl⟩ := hc
      have hE0 := hE s' (by simp [O.names])
      simp only [runs] at hr
      rw [hr] at hE0
      have hx := hE0.inv_v
      simp only [Region.wanted, hg, yielded, hs', Option.bind_some]
      by_cases hlt : s' < a.tmps.size
      · rw [agetD_of_lt _ _ hlt] at hx
        simp [Array.getElem?_eq_getElem hlt, hx]
      · rw [agetD_of_ge _ _ (by omega)] at hx
        simp [undef] at hx
  have hnames : ∀ k, y = .t k → k ∈ oo.names := fun k hk => by
    unfold O.names; rw [hop, hk]; split <;> simp [I.tmps, A.tmps]
  obtain ⟨c, t, fr, h1, h2, h3, h4⟩ := hβ
  have hC1 := hC.adopt h2 h1 hβS hβη h3 h4
  rw [hooop.1] at hop
  rw [hop] at hii
  obtain ⟨ty, x, y', e1, e2, e3, e4⟩ := comp_store hii
  -- what is stored
  have hyR : Rel S w η (a.eval y') l := by
    rw [← hy]
    cases y with
    | c l0 => exact compA_sound (E := []) e4 (fun t => .any _)
    | t k =>
      have hRE : REnv η S w a.tmps [(k, lk E k)] := by
        intro t
        simp only [lk]
        split
        · rename_i e; subst e; exact hE _ (hnames _ rfl)
        · exact .any _
      have := compA_sound e4 hRE
      simpa [arg, lk] using this
  have hxv : a.eval x = .pointer (some ⟨β, 0, none⟩) := by
    have hRE : REnv [β] S w a.tmps [(d, .ptr 0 0)] := by
      intro t
      simp only [lk]
      split
      · rename_i e; subst e; rw [hptr]; exact .ptr (by simp) h1
      · exact .any _
    have := compA_sound e3 hRE
    simp only [arg, lk, if_true] at this
    obtain ⟨b, hb1, hb2, -⟩ := this.inv_ptr
    simp at hb2
    rw [hb1, hb2]
  obtain ⟨z1, z2⟩ := hyR.cells htop
  have hη1 : (η ++ [β])[η.length]? = some β := by simp
  have hH1 : (H ++ [some cs])[η.length]? = some (some cs) := by rw [hC.len]; simp
  have hst := hC1.store h1 hη1 hH1 (a.eval y').cells.toList l.cells (by simp [z1]) (off := 0) (by omega) (fun j hj => by
    have := (z2 j).mono (η' := η ++ [β]) (fun _ h => h) (fun _ _ => rfl) (fun _ c _ fr h => ⟨c, fr, h, rfl⟩) (fun _ _ h => prefix_get h)
    simpa [Array.getD_eq_getD_getElem?, List.getD] using this)
  have hrun := run_storeCells_own (P := P) hC1 h1 hη1 hH1 (a.eval y').cells.toList (off := 0) (by simp [z1]; omega) (hyR.cells_one htop)
  obtain ⟨f1, f2, f3, f4, f5, f6⟩ := setCells_heap β (a.eval y').cells.toList w 0 c t fr h1
  unfold wpOpIn
  rw [hi]
  simp only
  rw [if_pos hwant]
  have hgo : (Instr.storeAt ty (a.eval x) (a.eval y')).run P w = .ok () (w.setCells β 0 (a.eval y').cells.toList) := by
    rw [hxv]
    simp only [Instr.storeAt, Instr.sureAddr, pure_bind, storeVar, Sem.run_bind, run_sz e2, Result.andThen_ok]
    rw [if_neg (by omega)]
    simpa using hrun
  have hfin : next (a.put o.dst undef) (w.setCells β 0 (a.eval y').cells.toList) := by
    have : a.put o.dst undef = a := by rw [← hooop.2, hdn]; rfl
    rw [this]
    refine hn _ hst.2 f2 ⟨hC.len, fun b hb => by rw [f3]; exact hC.lt b hb, fun b hb => by rw [f3]; exact hC.Slt b hb, hC.apart, fun h b ls q1 q2 => ?_⟩ ⟨_, t, fr, f1, by rw [putArr_size]; exact h2, by rw [setCells_length, putArr_size]; exact h3, fun j hj => ?_⟩
    · have hb : b ≠ β := fun e => hβη (e ▸ List.mem_of_getElem? q1)
      exact (hC.liveAt h b ls q1 q2).mono (f2 b hb) fun _ _ hr => hr.mono hst.2.sub hst.2.keep hst.2.shape (fun _ _ h => h)
    · rw [setCells_length] at hj
      rw [putArr_get _ _ _ _ (by simp [z1]; omega), setCells_get _ _ _ _ (by omega)]
      by_cases hj2 : 0 ≤ j ∧ j < 0 + l.cells.length
      · rw [if_pos (by simp [z1]; omega), if_pos hj2]
        have := (z2 (j - 0)).mono hst.2.sub hst.2.keep hst.2.shape (fun _ _ h => h)
        simpa [Array.getD_eq_getD_getElem?, List.getD] using this
      · rw [if_neg (by simp [z1]; omega), if_neg hj2]
        exact (h4 j hj).mono hst.2.sub hst.2.keep hst.2.shape (fun _ _ h => h)
  have hexec : (execOp a.eval o).run P w = .ok .skip (w.setCells β 0 (a.eval y').cells.toList) := by
    obtain ⟨dst, op, ty', pos, after, guard⟩ := o
    simp only at e1
    subst e1
    simp only [execOp, Sem.run_bind, hgo, Result.andThen_ok, Sem.run_pure]
  refine wpI_run (compOp_nd hii) hexec ?_
  rw [Oper.uponIn_skip]
  exact hfin

end
end Lg
