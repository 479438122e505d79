/- All operations of memory and numbers. -/
import Derived.Test.YtaegmmeppkgnkaaLgGK
namespace Lg
open Go

section
variable {P : Program} {η : List Nat} {S : Nat → Prop} {w : World} {H : Heap} {a : Act} {E : Env}

theorem compOA_sound {x : Option Operand} {y : Option A} (h : compOA x = some y) (hE : REnv η S w a.tmps E) : ORel S w η (x.map a.eval) (y.map (arg E)) := by
  cases x with
  | none => simp [compOA] at h; subst h; trivial
  | some x =>
    simp only [compOA, Option.map_eq_some_iff] at h
    obtain ⟨z, hz, rfl⟩ := h
    exact compA_sound hz hE

theorem Fine.val {s : Sem Value} {v : Value} {w' : World} {η' : List Nat} {S' : Nat → Prop} {l : L} {H' : Heap} (h : s.run P w = .ok v w') (hr : Rel S' w' η' v l) (hC : Conc η' S' w' H') (hL : Le η S w η' S' w') :
    Fine P (do pure (Next.value (← s))) η S w l H' := ⟨v, w', η', S', .inl (run_val h), hr, hC, hL⟩

theorem Fine.read {s : Sem Value} {l : L} (hC : Conc η S w H) (h : ∃ v, s.run P w = .ok v w ∧ Rel S w η v l) : Fine P (do pure (Next.value (← s))) η S w l H := by
  obtain ⟨v, h1, h2⟩ := h
  exact .val h1 h2 hC (Le.refl _ _ _)

theorem newVar_fine {t : TypeId} {x : Value} {ls : List L} (hC : Conc η S w H) (hz : ls.length = x.cells.size) (hr : ∀ j, Rel S w η (x.cells.getD j undef) (ls.getD j .any)) {s : Sem Value}
    (h : s.run P w = .ok (.pointer (some ⟨w.heap.size, 0, none⟩)) { w with heap := w.heap.push (.cells x.cells t) }) :
    Fine P (do pure (Next.value (← s))) η S w (.ptr H.length 0) (H ++ [some ls]) := by
  obtain ⟨p1, p2⟩ := hC.push x.cells t ls (by omega) (fun j _ => hr j) (w' := { w with heap := w.heap.push (.cells x.cells t) }) rfl rfl rfl rfl
  exact .val h (by rw [← hC.len]; exact .new (c := x.cells) (t := t) (fr := (0, 0)) (by simp)) p1 p2

theorem builtin_val {b : Builtin} {ats : Array TypeId} {ty : TypeId} {cs : Array Bool} {args : Array Value} {s : Sem Value} (hb : builtin b ats ty cs args = (do pure (Next.value (← s)))) {l : L} {H' : Heap}
    (h : Fine P (do pure (Next.value (← s))) η S w l H') : Fine P (builtin b ats ty cs args) η S w l H' := by rw [hb]; exact h

/-- The mark that a row shares its bytes with a string: behind its last cell. -/
theorem freeze_fine (hC : Conc η S w H) {h b : Nat} {cs : List L} {c : Array Value} {t : TypeId} {fr : Nat × Nat} (hη : η[h]? = some b) (hH : H[h]? = some (some cs)) (hb : w.heap[b]? = some (.cells c t fr)) (hf : fr.1 = fr.2 ∨ c.size ≤ fr.1) :
    Conc η S (w.freeze { block := b, off := c.size } 1) H ∧ Le η S w η S (w.freeze { block := b, off := c.size } 1) := by
  obtain ⟨p1, p2⟩ := hC.apart h b cs hη hH
  have hblk : (w.freeze { block := b, off := c.size } 1).heap[b]? = some (.cells c t (if fr.1 == fr.2 then (c.size, c.size + 1) else (min fr.1 c.size, max fr.2 (c.size + 1)))) := by
    simp [World.freeze, Array.getElem?_modify, hb]
  have hoth : ∀ b', b' ≠ b → (w.freeze { block := b, off := c.size } 1).heap[b']? = w.heap[b']? := fun b' hn => by
    simp [World.freeze, Array.getElem?_modify, Ne.symm hn]
  have hsize : (w.freeze { block := b, off := c.size } 1).heap.size = w.heap.size := by simp [World.freeze]
  have hle : Le η S w η S (w.freeze { block := b, off := c.size } 1) := by
    refine ⟨⟨[], by simp, by simp⟩, fun _ h => h, fun b' hb' => hoth b' (fun e => p1 (e ▸ hb')), ?_, by omega, fun b' _ hn => hoth b' (fun e => hn (e ▸ List.mem_of_getElem? hη)), fun _ h => .inl h, rfl, rfl, rfl⟩
    intro b' c' t' fr' hb'
    by_cases hbb : b' = b
    · subst hbb
      rw [hb] at hb'; cases hb'
      exact ⟨_, _, hblk, rfl⟩
    · exact ⟨c', fr', by rw [hoth b' hbb]; exact hb', rfl⟩
  refine ⟨⟨hC.len, fun b' hb' => by rw [hsize]; exact hC.lt b' hb', fun b' hb' => by rw [hsize]; exact hC.Slt b' hb', hC.apart, fun k b' ls e1 e2 => ?_⟩, hle⟩
  by_cases hbb : b' = b
  · subst hbb
    obtain ⟨c', t', fr', r1, r2, r3, r4⟩ := hC.live hb e1 e2
    rw [hb] at r1; cases r1
    refine .inl ⟨c, t, _, hblk, r2, ?_, fun j hj => (r4 j hj).le hle⟩
    split
    · exact .inr (Nat.le_refl _)
    · rename_i hne
      rcases hf with hf | hf
      · exact absurd hf (by simpa using hne)
      · exact .inr (Nat.le_min.2 ⟨hf, Nat.le_refl _⟩)
  · exact (hC.liveAt k b' ls e1 e2).mono (hoth b' hbb) (fun _ _ h => h.le hle)

theorem args2 {args : Array Operand} {x y : Operand} (h : args.toList = [x, y]) : args.map a.eval = #[a.eval x, a.eval y] := by
  have : args = #[x, y] := by apply Array.ext'; simpa using h
  subst this; simp
theorem args1 {args : Array Operand} {x : Operand} (h : args.toList = [x]) : args.map a.eval = #[a.eval x] := by
  have : args = #[x] := by apply Array.ext'; simpa using h
  subst this; simp
theorem argsN {args : Array Operand} {x : Operand} {xs : List Operand} (h : args.toList = x :: xs) : (args.map a.eval).toList = a.eval x :: xs.map a.eval := by simp [h]
theorem types2 {ts : Array TypeId} {t u : TypeId} (h : ts.toList = [t, u]) : ts = #[t, u] := by apply Array.ext'; simpa using h
theorem types1 {ts : Array TypeId} {t : TypeId} (h : ts.toList = [t]) : ts = #[t] := by apply Array.ext'; simpa using h

theorem call_builtin {o : Oper} {c : Call} {b : Builtin} (ho : o.op = .call c) (hb : c.callee = .builtin b) :
    ∃ consts, execOp a.eval o = builtin b c.argTypes o.type consts (c.args.map a.eval) := by
  simp only [execOp, ho, resolve, hb, pure_bind, invoke]
  exact ⟨_, rfl⟩

theorem call_fine {dst : Option Tmp} {c : Call} {ty : TypeId} {pos : String} {after : Array Edge} {guard : Option (Nat × Bool)} {i : I} {l : L} {H' : Heap} (hc : compCall P c = some i) (hl : lopO i E H = some (l, H')) (hC : Conc η S w H) (hE : REnv η S w a.tmps E) :
    Fine P (execOp a.eval ⟨dst, .call c, ty, pos, after, guard⟩) η S w l H' := by
  unfold compCall at hc
  split at hc
  · split at hc
    · simp only [Option.map_eq_some_iff] at hc
      obtain ⟨xs, -, rfl⟩ := hc
      simp [lopO] at hl
    · simp at hc
  · simp only [Option.map_eq_some_iff] at hc
    obtain ⟨xs, -, rfl⟩ := hc
    simp [lopO] at hl
  · rename_i hb
    split at hc
    · rename_i t x ht hx
      have ht := types1 ht
      obtain ⟨consts, hcb⟩ := call_builtin (a := a) (o := ⟨dst, .call c, ty, pos, after, guard⟩) rfl hb
      rw [hcb, ht, args1 hx]
      split at hc
      · rename_i e hu
        simp only [Option.map_eq_some_iff] at hc
        obtain ⟨y, hy, rfl⟩ := hc
        simp only [lopO, Option.map_eq_some_iff, Prod.mk.injEq] at hl
        obtain ⟨r, hr, rfl, rfl⟩ := hl
        exact .read hC (len_fine ⟨fun _ => ⟨e, hu⟩, fun h => by simp at h⟩ (compA_sound hy hE) hr)
      · rename_i hu
        simp only [Option.map_eq_some_iff] at hc
        obtain ⟨y, hy, rfl⟩ := hc
        simp only [lopO, Option.map_eq_some_iff, Prod.mk.injEq] at hl
        obtain ⟨r, hr, rfl, rfl⟩ := hl
        exact .read hC (len_fine ⟨fun h => by simp at h, fun _ => hu⟩ (compA_sound hy hE) hr)
      · rename_i n e hu
        cases hc
        simp only [lopO, Option.some.injEq, Prod.mk.injEq, arg] at hl
        obtain ⟨rfl, rfl⟩ := hl
        exact .read hC ⟨.int .i64 n, by simp [Builtin.len_, run_underlying hu, goInt], .v _⟩
      · rename_i kt et hu
        simp only [Option.map_eq_some_iff] at hc
        obtain ⟨y, hy, rfl⟩ := hc
        simp only [lopO, Option.map_eq_some_iff, Prod.mk.injEq] at hl
        obtain ⟨es, hr, rfl, rfl⟩ := hl
        obtain ⟨b, ms, clock, hx, hb, hsz⟩ := mlen_spec hC (compA_sound hy hE) hr
        exact .read hC ⟨.int .i64 es.length, by rw [hx]; simp [Builtin.len_, run_underlying hu, MapKept.run_getObj_map hb, goInt, Result.andThen, hsz], .v _⟩
      · simp at hc
    · simp at hc
  · rename_i hb
    split at hc
    · rename_i t u x y ht hx
      have ht := types2 ht
      obtain ⟨consts, hcb⟩ := call_builtin (a := a) (o := ⟨dst, .call c, ty, pos, after, guard⟩) rfl hb
      rw [hcb, ht, args2 hx]
      split at hc
      · rename_i e e' hu hu2
        simp only [Option.bind_eq_some_iff] at hc
        obtain ⟨i', hi, z, hz, hc⟩ := hc
        split at hc
        · simp at hc
        · rename_i hno
          simp only [not_or] at hno
          simp only [Option.bind_eq_some_iff, Option.map_eq_some_iff] at hc
          obtain ⟨x', hx', y', hy', rfl⟩ := hc
          simp only [lopO] at hl
          obtain ⟨v, w', η', r1, r2, r3, r4⟩ := append_fine (P := P) (ty := ty) hC hu ⟨e', hu2⟩ hi hz (by omega) hno.2.1 hno.1 (compA_sound hx' hE) (compA_sound hy' hE) hl
          exact .val r1 r2 r3 r4
      · simp at hc
    · simp at hc
  · rename_i hb
    split at hc
    · rename_i t u x y ht hx
      have ht := types2 ht
      obtain ⟨consts, hcb⟩ := call_builtin (a := a) (o := ⟨dst, .call c, ty, pos, after, guard⟩) rfl hb
      rw [hcb, ht, args2 hx]
      split at hc
      · rename_i e e' hu hu2
        simp only [Option.bind_eq_some_iff] at hc
        obtain ⟨s, hs, hc⟩ := hc
        split at hc
        · simp at hc
        · rename_i h0
          simp only [Option.bind_eq_some_iff, Option.map_eq_some_iff] at hc
          obtain ⟨x', hx', y', hy', rfl⟩ := hc
          simp only [lopO] at hl
          obtain ⟨v, w', r1, r2, r3, r4⟩ := copy_fine (P := P) (ty := ty) hC hu hs h0 (compA_sound hx' hE) (compA_sound hy' hE) hl
          exact .val r1 r2 r3 r4
      · simp at hc
    · simp at hc
  · rename_i hb
    split at hc
    · rename_i x xs hx
      obtain ⟨consts, hcb⟩ := call_builtin (a := a) (o := ⟨dst, .call c, ty, pos, after, guard⟩) rfl hb
      rw [hcb]
      simp only [Option.bind_eq_some_iff, Option.map_eq_some_iff] at hc
      obtain ⟨x', hx', ys, hys, rfl⟩ := hc
      simp only [lopO, Option.map_eq_some_iff, Prod.mk.injEq] at hl
      obtain ⟨r, hr, rfl, rfl⟩ := hl
      obtain ⟨e1, e2⟩ := compAs_sound hE hys
      obtain ⟨v, f1, f2⟩ := mm_fine (P := P) (compA_sound hx' hE) (by simp [e1]) e2 hr
      refine .read (s := Builtin.max_ c.argTypes ty (c.args.map a.eval)) hC ⟨v, ?_, f2⟩
      simp only [Builtin.max_, argsN hx]
      simpa using f1
    · simp at hc
  · rename_i hb
    split at hc
    · rename_i x xs hx
      obtain ⟨consts, hcb⟩ := call_builtin (a := a) (o := ⟨dst, .call c, ty, pos, after, guard⟩) rfl hb
      rw [hcb]
      simp only [Option.bind_eq_some_iff, Option.map_eq_some_iff] at hc
      obtain ⟨x', hx', ys, hys, rfl⟩ := hc
      simp only [lopO, Option.map_eq_some_iff, Prod.mk.injEq] at hl
      obtain ⟨r, hr, rfl, rfl⟩ := hl
      obtain ⟨e1, e2⟩ := compAs_sound hE hys
      obtain ⟨v, f1, f2⟩ := mm_fine (P := P) (compA_sound hx' hE) (by simp [e1]) e2 hr
      refine .read (s := Builtin.min_ c.argTypes ty (c.args.map a.eval)) hC ⟨v, ?_, f2⟩
      simp only [Builtin.min_, argsN hx]
      simpa using f1
    · simp at hc
  · simp at hc

set_option maxHeartbeats 1000000 in
theorem lopO_fine {o : Oper} {i : I} {l : L} {H' : Heap} (hc : compOp P o.op = some i) (hl : lopO i E H = some (l, H')) (hC : Conc η S w H) (hE : REnv η S w a.tmps E) : Fine P (execOp a.eval o) η S w l H' := by
  obtain ⟨dst, op, ty, pos, after, guard⟩ := o
  cases op <;> simp only [compOp] at hc <;> first | (simp at hc; done) | skip
  case move x =>
    simp only [Option.map_eq_some_iff] at hc
    obtain ⟨y, hy, rfl⟩ := hc
    simp only [lopO, Option.some.injEq, Prod.mk.injEq] at hl
    obtain ⟨rfl, rfl⟩ := hl
    exact .same hC rfl (compA_sound hy hE)
  case assign x =>
    simp only [Option.map_eq_some_iff] at hc
    obtain ⟨y, hy, rfl⟩ := hc
    simp only [lopO, Option.some.injEq, Prod.mk.injEq] at hl
    obtain ⟨rfl, rfl⟩ := hl
    exact .same hC rfl (compA_sound hy hE)
  case pick c x y =>
    simp only [Option.bind_eq_some_iff, Option.map_eq_some_iff] at hc
    obtain ⟨c', hc', x', hx', y', hy', rfl⟩ := hc
    simp only [lopO] at hl
    split at hl
    · rename_i t ht
      simp only [Option.some.injEq, Prod.mk.injEq] at hl
      obtain ⟨rfl, rfl⟩ := hl
      have := compA_sound hc' hE
      rw [ht] at this
      have hcv := this.inv_v
      refine .same hC (v := if t = true then a.eval x else a.eval y) ?_ ?_
      · simp only [execOp, hcv, asBool, Sem.run_bind, Sem.run_pure, Result.andThen_ok]
      · cases t
        · exact compA_sound hy' hE
        · exact compA_sound hx' hE
    · simp at hl
  case alloc t =>
    simp only [zeroOf, Option.map_eq_some_iff, Option.bind_eq_some_iff] at hc
    obtain ⟨z', ⟨z, ⟨i', hi, hz⟩, rfl⟩, rfl⟩ := hc
    simp only [lopO, Option.some.injEq, Prod.mk.injEq] at hl
    obtain ⟨rfl, rfl⟩ := hl
    obtain ⟨e1, e2⟩ := zero_cells (S := S) (w := w) (η := η) z
    refine newVar_fine (t := t) (x := z) hC e1 e2 ?_
    simp only [Instr.alloc, Sem.run_bind, run_zero hi hz, Result.andThen_ok, newVar, newRow, run_newObj, Sem.run_pure]
  case box t x =>
    simp only [Option.map_eq_some_iff] at hc
    obtain ⟨y, hy, rfl⟩ := hc
    simp only [lopO] at hl
    split at hl
    · rename_i htop
      simp only [Option.some.injEq, Prod.mk.injEq] at hl
      obtain ⟨rfl, rfl⟩ := hl
      obtain ⟨e1, e2⟩ := (compA_sound hy hE).cells htop
      refine newVar_fine (t := t) (x := a.eval x) hC e1.symm e2 ?_
      simp only [Instr.box, Sem.run_bind, newVar, newRow, run_newObj, Result.andThen_ok, Sem.run_pure]
    · simp at hl
  case build t parts =>
    simp only [Option.bind_eq_some_iff] at hc
    obtain ⟨i', hi, z, hz, hc⟩ := hc
    obtain ⟨e1, e2⟩ := zero_cells (S := S) (w := w) (η := η) z
    have hparts : (parts.map fun (p : Nat × Operand) => (p.1, a.eval p.2)).toList = parts.toList.map fun p => (p.1, a.eval p.2) := by simp
    split at hc
    · rename_i fs hu
      split at hc
      · rename_i hall
        simp only [Option.map_eq_some_iff] at hc
        obtain ⟨qs, hq, rfl⟩ := hc
        simp only [lopO, Option.map_eq_some_iff, Prod.mk.injEq] at hl
        obtain ⟨ls, hf, rfl, rfl⟩ := hl
        have hmap : (fs.mapM fun f => do pure (f.offset, ← Go.sizeOf f.type) : Sem (Array (Nat × Nat))).run P w = .ok (fs.map fun f => (f.offset, (szOf P f.type).getD 0)) w := by
          refine run_mapM _ _ fs fun f hf => ?_
          obtain ⟨s, hs⟩ := Option.isSome_iff_exists.1 (Array.all_eq_true_iff_forall_mem.1 hall f hf)
          simp [run_sz hs, hs]
        obtain ⟨cs, g1, g2, g3⟩ := fill_fine (fieldPl P fs) (fun i => (fs.map fun f => (f.offset, (szOf P f.type).getD 0))[i]?) (fun i p hp => by
          simp only [fieldPl, Option.bind_eq_some_iff, Option.map_eq_some_iff] at hp
          obtain ⟨f, hf, s, hs, rfl⟩ := hp
          simp [hf, hs]) hE hq e1.symm e2 hf
        refine .val (v := .agg cs) ?_ (.agg g2 g3) hC (Le.refl _ _ _)
        simp only [Instr.build, Sem.run_bind, run_zero hi hz, Result.andThen_ok, run_underlying hu, hmap, hparts, g1, Sem.run_pure]
      · simp at hc
    · rename_i n e hu
      simp only [Option.bind_eq_some_iff, Option.map_eq_some_iff] at hc
      obtain ⟨s, hs, qs, hq, rfl⟩ := hc
      simp only [lopO, Option.map_eq_some_iff, Prod.mk.injEq] at hl
      obtain ⟨ls, hf, rfl, rfl⟩ := hl
      obtain ⟨cs, g1, g2, g3⟩ := fill_fine (fun i => some (i * s, s)) (fun i => some (i * s, s)) (fun _ _ h => h) hE hq e1.symm e2 hf
      refine .val (v := .agg cs) ?_ (.agg g2 g3) hC (Le.refl _ _ _)
      simp only [Instr.build, Sem.run_bind, run_zero hi hz, Result.andThen_ok, run_underlying hu, run_sz hs, hparts, g1, Sem.run_pure]
    · simp at hc
  case buildSlice t n parts =>
    split at hc
    · rename_i e hu
      simp only [Option.bind_eq_some_iff] at hc
      obtain ⟨i', hi, z, hz, hc⟩ := hc
      split at hc
      · simp at hc
      · rename_i hno
        simp only [not_or, Nat.not_lt] at hno
        obtain ⟨n1, n2, n3⟩ := hno
        simp only [Option.map_eq_some_iff] at hc
        obtain ⟨qs, hq, rfl⟩ := hc
        simp only [lopO, Option.map_eq_some_iff, Prod.mk.injEq] at hl
        obtain ⟨ls, hf, rfl, rfl⟩ := hl
        obtain ⟨e1, e2⟩ := zero_cells (S := S) (w := w) (η := η) z
        have hz2 : z.cells.size = i'.size := by omega
        have hsz : (Go.sizeOf e).run P w = .ok i'.size w := by simp [Go.sizeOf, run_info hi]
        have hparts : (parts.map fun (p : Nat × Operand) => (p.1, a.eval p.2)).toList = parts.toList.map fun p => (p.1, a.eval p.2) := by simp
        obtain ⟨cs, g1, g2, g3⟩ := fill_fine (fun j => some (j * i'.size, i'.size)) (fun j => some (j * i'.size, i'.size)) (fun _ _ h => h) hE hq (cells := (Array.range (n * z.cells.size)).map (z.cells[· % z.cells.size]!)) (zs := zeros n (ofV z).cells)
          (by simp [zeros_length e1]) (fun j => by
            by_cases hj : j < n * z.cells.size
            · exact rel_zeros e1 e2 n j hj
            · rw [getD_of_ge _ _ (by rw [zeros_length e1]; omega)]; exact .any _) hf
        have hlen : ls.length = n * i'.size := by
          have : ∀ (ps : List (Nat × Nat × L)) (zs ls : List L), lfill zs ps = some ls → ls.length = zs.length := by
            intro ps
            induction ps with
            | nil => intro zs ls h; simp [lfill] at h; rw [h]
            | cons p ps ih =>
              intro zs ls h
              obtain ⟨o, s, l⟩ := p
              simp only [lfill] at h
              split at h
              · rw [ih _ _ h, setCells_length]
              · simp at h
          rw [this _ _ _ hf, zeros_length e1, hz2]
        obtain ⟨p1, p2⟩ := hC.push cs e ls (by omega) (fun j _ => g3 j) (w' := { w with heap := w.heap.push (.cells cs e) }) rfl rfl rfl rfl
        refine .val (v := .slice (some ⟨w.heap.size, 0, none⟩) n n) ?_ ?_ p1 p2
        · simp only [Instr.buildSlice, Sem.run_bind, run_underlying hu, Result.andThen_ok, hsz]
          rw [if_neg (by omega)]
          by_cases h0 : n * i'.size = 0
          · simp only [if_pos h0, Sem.run_bind, Sem.run_pure, Result.andThen_ok, hparts]
            have : Instr.fill (fun i => some (i * i'.size, i'.size)) ((Array.range (n * i'.size)).map (fun x => (#[] : Array Value)[x % (#[] : Array Value).size]!)) (parts.toList.map fun p => (p.1, a.eval p.2)) = some cs := by
              rw [← g1, hz2, h0]; simp [Array.range_zero']
            simp only [this, newRow, run_newObj, Sem.run_bind, Result.andThen_ok, Sem.run_pure]
          · simp only [if_neg h0, Sem.run_bind, run_zero hi hz, Sem.run_pure, Result.andThen_ok, hparts]
            rw [hz2] at g1
            simp only [hz2, g1, newRow, run_newObj, Sem.run_bind, Result.andThen_ok, Sem.run_pure]
        · rw [← hC.len]
          have hcap : n ≤ maxLen := by
            have : n ≤ n * i'.size := Nat.le_mul_of_pos_right _ (by omega)
            simp only [maxLen]; omega
          exact .view (b := w.heap.size) (by simp) (c := cs) (t := e) (fr := (0, 0)) (by simp) (by omega) (Nat.le_refl _) hcap (fun _ => rfl)
    · simp at hc
  case load t x =>
    simp only [Option.bind_eq_some_iff, Option.map_eq_some_iff] at hc
    obtain ⟨s, hs, ag, hg, y, hy, rfl⟩ := hc
    simp only [lopO, Option.map_eq_some_iff, Prod.mk.injEq] at hl
    obtain ⟨l', hl', rfl, rfl⟩ := hl
    exact .read hC (load_fine hC hs hg (compA_sound hy hE) hl')
  case store t x y =>
    simp only [Option.bind_eq_some_iff, Option.map_eq_some_iff] at hc
    obtain ⟨s, hs, x', hx, y', hy, rfl⟩ := hc
    simp only [lopO, Option.map_eq_some_iff, Prod.mk.injEq] at hl
    obtain ⟨H'', hl', rfl, rfl⟩ := hl
    obtain ⟨w', r1, r2, r3⟩ := store_fine (P := P) hC hs (compA_sound hx hE) (compA_sound hy hE) hl'
    exact ⟨undef, w', η, S, .inr ⟨by simp only [execOp, Sem.run_bind, r1, Result.andThen_ok, Sem.run_pure], rfl⟩, .no, r2, r3⟩
  case nilCheck x =>
    simp only [Option.map_eq_some_iff] at hc
    obtain ⟨y, hy, rfl⟩ := hc
    have hx := compA_sound hy hE
    simp only [lopO] at hl
    split at hl
    · rename_i h o e
      cases hl
      rw [e] at hx
      obtain ⟨b, hb, hη, c0, t0, fr0, hb0⟩ := hx.inv_ptr
      exact .same hC (v := .pointer (some ⟨b, o, none⟩)) (by simp only [execOp, hb, Sem.run_pure]) (.ptr hη hb0)
    · rename_i ls e
      cases hl
      rw [e] at hx
      obtain ⟨b, o, cs, hb, -⟩ := hx.inv_pp
      exact .same hC (v := .pointer (some ⟨b, o, none⟩)) (by simp only [execOp, hb, Sem.run_pure]) (by rw [← hb]; exact hx)
    · simp at hl
  case sliceToArrayPointer t x =>
    split at hc
    · rename_i n e' hu
      simp only [Option.map_eq_some_iff] at hc
      obtain ⟨y, hy, rfl⟩ := hc
      have hx := compA_sound hy hE
      simp only [lopO] at hl
      split at hl
      · rename_i es h off len cl e
        split at hl
        · rename_i hcond
          obtain ⟨h0, h1⟩ := hcond
          cases hl
          rw [e] at hx
          rcases hx.inv_view with ⟨ad, -, hz⟩ | ⟨b, cap, c, t', fr, hv, hη, hb, hsz, hn', hm, hcl⟩
          · omega
          · refine .same hC (v := .pointer (some ⟨b, off, none⟩)) ?_ (.ptr hη hb)
            simp only [execOp, hv, Instr.arrayAt, Sem.run_bind, run_underlying hu, Result.andThen_ok]
            rw [if_neg (by omega)]
            simp only [Sem.run_pure, Result.andThen_ok]
        · simp at hl
      · rename_i es cl xs e
        split at hl
        · rename_i hcond
          obtain ⟨h0, h1⟩ := hcond
          cases hl
          rw [e] at hx
          obtain ⟨ad, cap, hv, c1, c2, c3, c4, c5⟩ := hx.inv_sl
          obtain ⟨b, o, cs, rfl, hS, hcl, hr⟩ := c5 (by omega)
          have hfl : (flat es xs).length = xs.length * es := flat_length c4
          refine .same hC (v := .pointer (some ⟨b, o, none⟩)) ?_ (.pp cs (by rw [hfl]; exact hS) (by rw [hfl]; exact hcl) hr)
          simp only [execOp, hv, Instr.arrayAt, Sem.run_bind, run_underlying hu, Result.andThen_ok]
          rw [if_neg (by omega)]
          simp only [Sem.run_pure, Result.andThen_ok]
        · simp at hl
      · simp at hl
    · simp at hc
  case binOp op t x y t' =>
    split at hc
    · simp only [Option.map_eq_some_iff] at hc
      obtain ⟨x', hx, rfl⟩ := hc
      simp [lopO] at hl
    split at hc
    · rename_i k hk
      simp only [Option.bind_eq_some_iff, Option.map_eq_some_iff] at hc
      obtain ⟨x', hx, y', hy, rfl⟩ := hc
      have hX := compA_sound hx hE
      have hY := compA_sound hy hE
      simp only [lopO] at hl
      split at hl
      · rename_i k1 a1 k2 b1 k3 c1 k4 d1 ex ey
        split at hl
        · rename_i hcond
          obtain ⟨rfl, rfl, rfl, rfl⟩ := hcond
          cases hl
          rw [ex] at hX
          rw [ey] at hY
          have two : ∀ {v : Value} {k : IntKind} {p q : Int}, Rel S w η v (.agg [.v (.int k p), .v (.int k q)]) → v = .agg #[.int k p, .int k q] := fun {v k p q} h => by
            obtain ⟨cs, rfl, hz, hr⟩ := h.inv_agg
            have h0 := (hr 0).inv_v
            have h1 := (hr 1).inv_v
            simp at hz
            congr 1
            apply Array.ext
            · simp [hz]
            · intro j hj1 hj2
              have : j = 0 ∨ j = 1 := by simp at hj2; omega
              rcases this with rfl | rfl
              · simpa [Array.getD_eq_getD_getElem?, hz] using h0
              · simpa [Array.getD_eq_getD_getElem?, hz] using h1
          have vx := two hX
          have vy := two hY
          unfold eq2K at hk
          split at hk
          rotate_left
          · simp at hk
          rename_i hop
          split at hk
          rotate_left
          · simp at hk
          rename_i e' hu
          split at hk
          rotate_left
          · simp at hk
          rename_i k' he'
          split at hk
          rotate_left
          · simp at hk
          rename_i hcc
          simp only [Bool.and_eq_true, beq_iff_eq, Bool.not_eq_true'] at hcc
          obtain ⟨⟨⟨hc1, hc2⟩, hc3⟩, hc4⟩ := hcc
          obtain ⟨inf, hinf⟩ := Option.isSome_iff_exists.1 hc1
          simp only [Option.some.injEq] at hk
          subst hk
          have hop' : op = .eql := by cases op <;> simp_all
          subst hop'
          refine .read hC ⟨_, ?_, .v _⟩
          rw [vx, vy]
          exact run_eq2 hu he' hinf hc2 hc3 hc4 a1 b1 c1 d1
        · simp at hl
      · simp at hl
    simp only [Option.bind_eq_some_iff, Option.map_eq_some_iff] at hc
    obtain ⟨x', hx, y', hy, rfl⟩ := hc
    simp only [lopO, Option.map_eq_some_iff, Prod.mk.injEq] at hl
    obtain ⟨l', hl', rfl, rfl⟩ := hl
    exact .read hC (run_bin (fun h => by split at h <;> first | assumption | simp at h) hl' (compA_sound hx hE) (compA_sound hy hE))
  case unOp op t x =>
    simp only [Option.map_eq_some_iff] at hc
    obtain ⟨x', hx, rfl⟩ := hc
    simp only [lopO, Option.map_eq_some_iff, Prod.mk.injEq] at hl
    obtain ⟨l', hl', rfl, rfl⟩ := hl
    exact .read hC (run_un hl' (compA_sound hx hE))
  case convert src dst x =>
    split at hc
    · rename_i k1 k2 h1 h2
      simp only [Option.map_eq_some_iff] at hc
      obtain ⟨y, hy, rfl⟩ := hc
      simp only [lopO] at hl
      split at hl
      · rename_i k n e
        cases hl
        have hx := compA_sound hy hE
        rw [e] at hx
        refine .read hC ⟨_, ?_, .v _⟩
        simp only [hx.inv_v, convert, Sem.run_bind, run_underlying h1, run_underlying h2, Result.andThen_ok, Conv.intToInt, Sem.run_pure]
      · simp at hl
    · rename_i e1 e2 h1 h2
      split at hc
      · rename_i h3
        split at hc
        · rename_i heq
          simp only [Option.map_eq_some_iff] at hc
          obtain ⟨y, hy, rfl⟩ := hc
          simp only [lopO] at hl
          split at hl
          · rename_i es h off n cl e
            split at hl
            · rename_i hcond
              obtain ⟨hn, hlv⟩ := hcond
              cases hl
              have hx := compA_sound hy hE
              rw [e] at hx
              rcases hx.inv_view with ⟨ad, -, h0⟩ | ⟨b, cap, c, t', fr, hv, hη, hb, hsz, hn', hm, hcl⟩
              · omega
              obtain ⟨cs, hcs⟩ := Option.isSome_iff_exists.1 hlv
              have hH := live_iff.1 hcs
              obtain ⟨c0, t0, fr0, q1, q2, q3, q4⟩ := hC.live hb hη hH
              rw [hb] at q1; cases q1
              obtain ⟨p1, p2⟩ := hC.apart h b cs hη hH
              have hfz := freeze_fine hC hη hH hb q3
              refine ⟨.slice (some ⟨b, off, none⟩) n cap, _, η, S, .inl ?_, ?_, hfz.1, hfz.2⟩
              · simp only [execOp, hv, convert, Sem.run_bind, run_underlying h1, run_underlying h2, run_underlying h3, Result.andThen_ok, heq]
                simp only [markStringish, Sem.run_bind, run_shape, Result.andThen_ok, World.shape?, hb, run_freeze, Sem.run_pure]
              · exact (by rw [← hv]; exact hx : Rel S w η (.slice (some ⟨b, off, none⟩) n cap) _).le hfz.2
            · simp at hl
          · simp at hl
        · simp at hc
      · simp at hc
    · rename_i e1 h1 h2
      split at hc
      · rename_i h3
        simp only [Option.map_eq_some_iff] at hc
        obtain ⟨y, hy, rfl⟩ := hc
        simp only [lopO, Option.map_eq_some_iff, Option.bind_eq_some_iff, Prod.mk.injEq] at hl
        obtain ⟨bs, ⟨ys, hys, hbs⟩, rfl, rfl⟩ := hl
        have hx := compA_sound hy hE
        have hrun := b2s_fine (P := P) hC hx hys hbs
        obtain ⟨ad, m, cap, hv, -⟩ := lcells_reads (P := P) hC hx hys
        refine .read hC ⟨_, ?_, .v _⟩
        rw [hv] at hrun ⊢
        simp only [convert, Sem.run_bind, run_underlying h1, run_underlying h2, run_underlying h3, Result.andThen_ok, hrun]
      · simp at hc
    · rename_i k1 h1 h2
      simp only [Option.map_eq_some_iff] at hc
      obtain ⟨y, hy, rfl⟩ := hc
      simp only [lopO, Option.map_eq_some_iff, Prod.mk.injEq] at hl
      obtain ⟨l', hl, rfl, rfl⟩ := hl
      unfold r2sL at hl
      split at hl
      · rename_i k n e
        split at hl
        · rename_i hn
          cases hl
          have hx := compA_sound hy hE
          rw [e] at hx
          refine .read hC ⟨_, ?_, .v _⟩
          have henc : Utf8.encode n = ⟨#[UInt8.ofNat n.toNat]⟩ := by
            have hv : Utf8.valid n = true := by simp [Utf8.valid]; omega
            unfold Utf8.encode
            simp only [hv, if_true]
            rw [if_pos (by omega)]
          rw [hx.inv_v, run_convert_int_string w src dst k n (by rw [h1]; rfl) h2, henc]
        · simp at hl
      · simp at hl
    · simp at hc
  case makeMap t r =>
    cases r with
    | some r => simp at hc
    | none =>
      simp only [Option.isNone_none, if_true, Option.map_eq_some_iff] at hc
      obtain ⟨kk, -, rfl⟩ := hc
      simp only [lopO, Option.some.injEq, Prod.mk.injEq] at hl
      obtain ⟨rfl, rfl⟩ := hl
      obtain ⟨p1, p2⟩ := hC.pushO (.map #[] 0) [.mp kk []] (w' := { w with heap := w.heap.push (.map #[] 0) }) (fun _ => .inr (.inl ⟨kk, [], rfl, #[], 0, by simp, rfl, by simp⟩)) rfl rfl rfl rfl
      refine .val (v := .map (some w.heap.size)) ?_ (by rw [← hC.len]; exact .mref (by simp)) p1 p2
      simp only [Option.map_none, Instr.makeMap, Sem.run_bind, Sem.run_pure, Result.andThen_ok, run_newObj]
  case mapUpdate t m k v =>
    simp only [Option.bind_eq_some_iff, Option.map_eq_some_iff] at hc
    obtain ⟨kk, hkk, x', hx, y', hy, z', hz, rfl⟩ := hc
    obtain ⟨kt, et, hm, hT⟩ := mapK_spec hkk
    simp only [lopO, msetL, Option.bind_eq_some_iff] at hl
    obtain ⟨⟨h, es⟩, hr, key, hkey, v', hv', hl⟩ := hl
    split at hl
    · rename_i hkd
      cases hl
      obtain ⟨b, e1, hη, hH, hmap⟩ := mrow_spec hC (compA_sound hx hE) hr
      obtain ⟨ms, clock, r1, r2, r3⟩ := mapUpdate_fine (P := P) hm hT hmap hkd v'
      have e2 := keyOf_val (compA_sound hy hE) hkey
      have e3 := scalar_val (compA_sound hz hE) hv'
      obtain ⟨m0, c0, hb0, -⟩ := hmap
      obtain ⟨p1, p2⟩ := hC.mset hη hH ms clock r2 r3 ⟨m0, c0, hb0⟩
      exact ⟨undef, _, η, S, .inr ⟨by simp only [execOp, e1, e2, e3, Sem.run_bind, r1, Result.andThen_ok, Sem.run_pure], rfl⟩, .no, p1, p2⟩
    · simp at hl
  case lookup t m k comma =>
    simp only [Option.bind_eq_some_iff, Option.map_eq_some_iff] at hc
    obtain ⟨kk, hkk, z, hz, x', hx, y', hy, rfl⟩ := hc
    obtain ⟨kt, et, hm, hT⟩ := mapK_spec hkk
    simp only [lopO, Option.map_eq_some_iff, mgetL, Option.bind_eq_some_iff, Prod.mk.injEq] at hl
    obtain ⟨l', ⟨⟨h, es⟩, hr, key, hkey, hl⟩, rfl, rfl⟩ := hl
    split at hl
    · rename_i hkd
      cases hl
      obtain ⟨b, e1, hη, hH, hmap⟩ := mrow_spec hC (compA_sound hx hE) hr
      have e2 := keyOf_val (compA_sound hy hE) hkey
      obtain ⟨i', hi, hz'⟩ : ∃ i, P.info? et = some i ∧ i.zero = some z := by
        simp only [mapZ, hm, Option.bind_eq_some_iff] at hz
        obtain ⟨i, hi, z0, h0, hz⟩ := hz
        refine ⟨i, hi, ?_⟩
        split at hz
        · cases hz; exact h0
        · cases hz; exact h0
        · simp at hz
      obtain ⟨v, r1, r2⟩ := lookup_fine (P := P) (η := η) (S := S) hm hT hi hz' hmap hkd comma
      exact .read hC ⟨v, by rw [e1, e2]; exact r1, r2⟩
    · simp at hl
  case makeFunc f first cap =>
    simp only [Option.bind_eq_some_iff, Option.map_eq_some_iff] at hc
    obtain ⟨xs, hx, ys, hy, rfl⟩ := hc
    simp only [lopO, Option.some.injEq, Prod.mk.injEq] at hl
    obtain ⟨rfl, rfl⟩ := hl
    obtain ⟨e1, e2⟩ := compAs_sound hE hx
    obtain ⟨g1, g2⟩ := compAs_sound hE hy
    refine .read hC ⟨.func f (first.map a.eval) (cap.map a.eval), by simp only [Instr.makeFunc, Sem.run_pure], .fn (by simp at e1 ⊢; exact e1) (by simp at g1 ⊢; exact g1) (fun j => ?_) (fun j => ?_)⟩
    · have := e2 j
      simpa [Array.getD_eq_getD_getElem?, List.getD] using this
    · have := g2 j
      simpa [Array.getD_eq_getD_getElem?, List.getD] using this
  case makeSlice t x y =>
    split at hc
    · rename_i e hu
      simp only [Option.bind_eq_some_iff] at hc
      obtain ⟨i', hi, z, hz, hc⟩ := hc
      split at hc
      · simp at hc
      · rename_i hno
        simp only [not_or] at hno
        simp only [Option.bind_eq_some_iff, Option.map_eq_some_iff] at hc
        obtain ⟨x', hx, y', hy, rfl⟩ := hc
        simp only [lopO] at hl
        obtain ⟨v, w', η', r1, r2, r3, r4, -⟩ := mksl_fine hC hu hi hz (by omega) (compA_sound hx hE) (compA_sound hy hE) hl
        exact .val r1 r2 r3 r4
    · simp at hc
  case slice t x lo hi mx =>
    split at hc
    · rename_i e hu
      simp only [Option.bind_eq_some_iff] at hc
      obtain ⟨s, hs, hc⟩ := hc
      split at hc
      · simp at hc
      · rename_i h0
        simp only [Option.bind_eq_some_iff] at hc
        obtain ⟨x', hx, l', hl', h', hh, m', hm, hc⟩ := hc
        split at hc
        · simp at hc
        · rename_i hno
          cases hc
          simp only [lopO, Option.map_eq_some_iff, Prod.mk.injEq] at hl
          obtain ⟨r, hr, rfl, rfl⟩ := hl
          exact .read hC (slice_fine hu hs h0 (compA_sound hx hE) (compOA_sound hl' hE) (compOA_sound hh hE) (compOA_sound hm hE) (fun e => by
            cases m' <;> cases h' <;> simp_all) hr)
    · rename_i n e hu
      simp only [Option.bind_eq_some_iff] at hc
      obtain ⟨s, hs, hc⟩ := hc
      split at hc
      · simp at hc
      · rename_i h0
        simp only [Option.bind_eq_some_iff] at hc
        obtain ⟨x', hx, l', hl', h', hh, m', hm, hc⟩ := hc
        split at hc
        · simp at hc
        · rename_i hno
          cases hc
          simp only [lopO, Option.map_eq_some_iff, Prod.mk.injEq] at hl
          obtain ⟨r, hr, rfl, rfl⟩ := hl
          exact .read hC (sliceA_fine hC hu hs (compA_sound hx hE) (compOA_sound hl' hE) (compOA_sound hh hE) (compOA_sound hm hE) (fun e => by
            cases m' <;> cases h' <;> simp_all) hr)
    · simp at hc
  case fieldAddr t x f =>
    split at hc
    · rename_i fs hu
      simp only [Option.bind_eq_some_iff] at hc
      obtain ⟨fl, hf, s, hs, hc⟩ := hc
      split at hc
      · simp at hc
      · rename_i h0
        simp only [Option.map_eq_some_iff] at hc
        obtain ⟨x', hx, rfl⟩ := hc
        simp only [lopO, Option.map_eq_some_iff, Prod.mk.injEq] at hl
        obtain ⟨r, hr, rfl, rfl⟩ := hl
        exact .read hC (fieldAt_fine hu hf hs h0 (compA_sound hx hE) hr)
    · simp at hc
  case field t x f =>
    split at hc
    · rename_i fs hu
      simp only [Option.bind_eq_some_iff, Option.map_eq_some_iff] at hc
      obtain ⟨fl, hf, s, hs, ag, hg, x', hx, rfl⟩ := hc
      simp only [lopO, Option.map_eq_some_iff, Prod.mk.injEq] at hl
      obtain ⟨r, hr, rfl, rfl⟩ := hl
      exact .read hC (field_fine hu hf hs hg (compA_sound hx hE) hr)
    · simp at hc
  case indexAddr t x y =>
    split at hc
    · rename_i e hu
      simp only [Option.bind_eq_some_iff] at hc
      obtain ⟨s, hs, hc⟩ := hc
      split at hc
      · simp at hc
      · simp only [Option.bind_eq_some_iff, Option.map_eq_some_iff] at hc
        obtain ⟨x', hx, y', hy, rfl⟩ := hc
        simp only [lopO, Option.map_eq_some_iff, Prod.mk.injEq] at hl
        obtain ⟨r, hr, rfl, rfl⟩ := hl
        exact .read hC (iaddr_fine hu hs (compA_sound hx hE) (compA_sound hy hE) hr)
    · rename_i n e hu
      simp only [Option.bind_eq_some_iff] at hc
      obtain ⟨s, hs, hc⟩ := hc
      split at hc
      · simp at hc
      · simp only [Option.bind_eq_some_iff, Option.map_eq_some_iff] at hc
        obtain ⟨x', hx, y', hy, rfl⟩ := hc
        simp only [lopO, Option.map_eq_some_iff, Prod.mk.injEq] at hl
        obtain ⟨r, hr, rfl, rfl⟩ := hl
        exact .read hC (iaddrA_fine hu hs (compA_sound hx hE) (compA_sound hy hE) hr)
    · simp at hc
  case index t x y =>
    split at hc
    · rename_i n e hu
      simp only [Option.bind_eq_some_iff, Option.map_eq_some_iff] at hc
      obtain ⟨s, hs, ag, hg, x', hx, y', hy, rfl⟩ := hc
      simp only [lopO, Option.map_eq_some_iff, Prod.mk.injEq] at hl
      obtain ⟨r, hr, rfl, rfl⟩ := hl
      exact .read hC (idx_fine hu hs hg (compA_sound hx hE) (compA_sound hy hE) hr)
    · simp only [Option.bind_eq_some_iff, Option.map_eq_some_iff] at hc
      obtain ⟨x', hx, y', hy, rfl⟩ := hc
      simp [lopO] at hl
    · simp at hc
  case extract x n =>
    simp only [Option.map_eq_some_iff] at hc
    obtain ⟨y, hy, rfl⟩ := hc
    simp only [lopO] at hl
    split at hl
    · rename_i vs e
      simp only [Option.map_eq_some_iff, Prod.mk.injEq] at hl
      obtain ⟨r, hr, rfl, rfl⟩ := hl
      have hx := compA_sound hy hE
      rw [e] at hx
      obtain ⟨cs, hv, hz, hrr⟩ := hx.inv_tup
      obtain ⟨hlt, hr⟩ := List.getElem?_eq_some_iff.1 hr
      have := hrr n
      rw [getD_of_lt _ _ hlt, hr] at this
      refine .read hC ⟨_, ?_, this⟩
      simp only [hv, Instr.extract]
      rw [show cs[n]? = some (cs.getD n undef) from by simp [Array.getD, show n < cs.size by omega]]
      rfl
    · simp at hl
  case call c =>
    exact call_fine hc hl hC hE

end
end Lg
