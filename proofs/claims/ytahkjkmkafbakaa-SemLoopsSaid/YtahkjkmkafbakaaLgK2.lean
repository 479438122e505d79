/- Maps of an own row. -/
import Derived.Test.YtahkjkmkafbakaaLgK
import Derived.MapKept
namespace Lg
open Go Go.MapKept

def kv (e : MapEntry) : Value × Value := (e.key, e.val)
def kv2 (e : MK × Value) : Value × Value := (e.1.val, e.2)

theorem MK.val_inj {a b : MK} (h : a.kind = b.kind) : a.val = b.val ↔ a = b := by
  cases a <;> cases b <;> simp_all [MK.kind, MK.val]

/-- What it is to find a key. -/
def FindSpec (ms : List MapEntry) (es : List (MK × Value)) (key : MK) (i0 : Nat) (r : Option (Nat × Value)) : Prop :=
  (r = none ∧ mlook es key = none ∧ ∀ v, mput es key v = es ++ [(key, v)]) ∨
  ∃ j e, r = some (i0 + j, e.val) ∧ ms[j]? = some e ∧ e.key = key.val ∧ mlook es key = some e.val ∧
    ∀ v, (ms.modify j fun e => { e with key := key.val, val := v }).map kv = (mput es key v).map kv2

theorem FindSpec.nil {key : MK} {i0 : Nat} : FindSpec [] [] key i0 none := .inl ⟨rfl, rfl, fun _ => rfl⟩

theorem FindSpec.hit {m : MapEntry} {ms : List MapEntry} {e : MK × Value} {es : List (MK × Value)} {key : MK} {i0 : Nat} (h : kv m = kv2 e) (hs : ms.map kv = es.map kv2) (hk : e.1 = key) : FindSpec (m :: ms) (e :: es) key i0 (some (i0, m.val)) := by
  obtain ⟨k, u⟩ := e
  subst hk
  simp only [kv, kv2, Prod.mk.injEq] at h
  refine .inr ⟨0, m, rfl, rfl, h.1, by simp [mlook, h.2], fun v => ?_⟩
  simp [mput, kv, kv2] at hs ⊢
  exact hs

theorem FindSpec.miss {m : MapEntry} {ms : List MapEntry} {e : MK × Value} {es : List (MK × Value)} {key : MK} {i0 : Nat} {r : Option (Nat × Value)} (h : kv m = kv2 e) (hk : e.1 ≠ key) (hr : FindSpec ms es key (i0 + 1) r) : FindSpec (m :: ms) (e :: es) key i0 r := by
  obtain ⟨k, u⟩ := e
  rcases hr with ⟨h1, h2, h3⟩ | ⟨j, e', h1, h2, h3, h4, h5⟩
  · exact .inl ⟨h1, by simp [mlook, hk, h2], fun v => by simp [mput, hk, h3]⟩
  · refine .inr ⟨j + 1, e', by rw [h1]; congr 2; omega, by simpa using h2, h3, by simp [mlook, hk, h4], fun v => ?_⟩
    have := h5 v
    simp [mput, hk, this, h]

section
variable {P : Program} {η : List Nat} {S : Nat → Prop} {w : World} {H : Heap}

/-- A type of keys. -/
def KeyT (P : Program) (kt : TypeId) : KK → Prop
  | .s => P.underlying kt = some .string
  | .i k => P.underlying kt = some (.int k)
  | .p k => ∃ e i, P.underlying kt = some (.array 2 e) ∧ P.underlying e = some (.int k) ∧ P.info? e = some i ∧ P.cellsOf e = 1 ∧ P.plainKey e = true

theorem mapK_spec {t : TypeId} {kk : KK} (h : mapK P t = some kk) : ∃ kt et, P.underlying t = some (.map kt et) ∧ KeyT P kt kk := by
  unfold mapK at h
  split at h
  · rename_i kt et hu
    refine ⟨kt, et, hu, ?_⟩
    split at h
    · rename_i hk; cases h; exact hk
    · rename_i k hk; cases h; exact hk
    · simp only [Option.map_eq_some_iff] at h
      obtain ⟨k, hk, rfl⟩ := h
      unfold pairK at hk
      split at hk
      · rename_i e he
        split at hk
        · rename_i k' he'
          split at hk
          · rename_i hc
            cases hk
            simp only [Bool.and_eq_true, beq_iff_eq] at hc
            obtain ⟨⟨h1, h2⟩, h3⟩ := hc
            obtain ⟨i, hi⟩ := Option.isSome_iff_exists.1 h1
            exact ⟨e, i, he, he', hi, h2, h3⟩
          · simp at hk
        · simp at hk
      · simp at hk
    · simp at h
  · simp at h

theorem keyOf_val {x : Value} {l : L} {key : MK} (hx : Rel S w η x l) (h : keyOf l = some key) : x = key.val := by
  unfold keyOf at h
  split at h
  · cases h; exact hx.inv_v
  · cases h; exact hx.inv_v
  · rename_i k a k' b
    split at h
    · rename_i e
      subst e
      cases h
      obtain ⟨cs, rfl, hz, hr⟩ := hx.inv_agg
      have h0 := (hr 0)
      have h1 := (hr 1)
      simp at h0 h1 hz
      have e0 := h0.inv_v
      have e1 := h1.inv_v
      simp only [MK.val]
      congr 1
      apply Array.ext
      · simpa using hz
      · intro j hj1 hj2
        simp at hj2
        rcases (show j = 0 ∨ j = 1 by omega) with rfl | rfl
        · simpa [Array.getD, hj1] using e0
        · simpa [Array.getD, hj1] using e1
    · simp at h
  · simp at h

theorem checkKey_run {kt : TypeId} {kk : KK} (hT : KeyT P kt kk) {key : MK} (hk : key.kind = kk) (e : Bool) : (Instr.checkKey e 10000 kt key.val).run P w = .ok () w := by
  subst hk
  rw [show (10000 : Nat) = 9998 + 1 + 1 from rfl]
  cases key with
  | s bs => unfold Instr.checkKey; simp only [Sem.run_bind, run_underlying hT, Result.andThen]; rfl
  | i k n => unfold Instr.checkKey; simp only [Sem.run_bind, run_underlying hT, Result.andThen]; rfl
  | p k a b =>
    obtain ⟨el, i, h1, h2, h3, h4, h5⟩ := hT
    have hi : ∀ x : Int, (Instr.checkKey e (9998 + 1) el (.int k x)).run P w = .ok () w := fun x => by
      unfold Instr.checkKey; simp only [Sem.run_bind, run_underlying h2, Result.andThen]; rfl
    have hsz : (Go.sizeOf el).run P w = .ok 1 w := by
      have : i.size = 1 := by
        have := h4
        simp [Program.cellsOf, h3] at this
        exact this
      have := run_sz (P := P) (w := w) (t := el) (s := 1) (by simp [szOf, h3, this])
      exact this
    have g0 : (part el #[Value.int k a, .int k b] 0).run P w = .ok (.int k a) w := run_part_plain w h5 rfl
    have g1 : (part el #[Value.int k a, .int k b] 1).run P w = .ok (.int k b) w := run_part_plain w h5 rfl
    unfold Instr.checkKey
    simp only [MK.val, Sem.run_bind, run_underlying h1, Result.andThen]
    simp [Std.Legacy.Range.forIn_eq_forIn_range', List.range'_succ, hsz, g0, g1, hi, Result.andThen]

theorem findNow_run {d : TypeDesc} {key : MK} (hs : ∀ k : MK, k.kind = key.kind → Instr.sameNow d key.val k.val = some (decide (key = k))) :
    ∀ {ms : List MapEntry} {es : List (MK × Value)} (i0 : Nat), ms.map kv = es.map kv2 → (∀ e ∈ es, e.1.kind = key.kind) → ∃ r, Instr.findNow d key.val ms i0 = some r ∧ FindSpec ms es key i0 r
  | [], [], _, _, _ => ⟨none, rfl, .nil⟩
  | [], e :: es, _, h, _ => by simp at h
  | m :: ms, [], _, h, _ => by simp at h
  | m :: ms, e :: es, i0, h, hk => by
    simp only [List.map_cons, List.cons.injEq] at h
    obtain ⟨h1, h2⟩ := h
    have he := hs e.1 (hk e (.head _))
    have hm : m.key = e.1.val := by simp only [kv, kv2, Prod.mk.injEq] at h1; exact h1.1
    by_cases hq : key = e.1
    · refine ⟨_, ?_, .hit h1 h2 hq.symm⟩
      rw [decide_eq_true hq] at he
      simp only [Instr.findNow, hm, he]
    · obtain ⟨r, hr, hf⟩ := findNow_run hs (i0 + 1) h2 (fun x hx => hk x (.tail _ hx))
      refine ⟨r, ?_, .miss h1 (Ne.symm hq) hf⟩
      rw [decide_eq_false hq] at he
      simp only [Instr.findNow, hm, he, hr]

theorem findAsking_run {kt : TypeId} {key : MK} (hs : ∀ k : MK, k.kind = key.kind → (Op.equal kt key.val k.val).run P w = .ok (decide (key = k)) w) :
    ∀ {ms : List MapEntry} {es : List (MK × Value)} (i0 : Nat), ms.map kv = es.map kv2 → (∀ e ∈ es, e.1.kind = key.kind) → ∃ r, (Instr.findAsking kt key.val ms i0).run P w = .ok r w ∧ FindSpec ms es key i0 r
  | [], [], _, _, _ => ⟨none, rfl, .nil⟩
  | [], e :: es, _, h, _ => by simp at h
  | m :: ms, [], _, h, _ => by simp at h
  | m :: ms, e :: es, i0, h, hk => by
    simp only [List.map_cons, List.cons.injEq] at h
    obtain ⟨h1, h2⟩ := h
    have he := hs e.1 (hk e (.head _))
    have hm : m.key = e.1.val := by simp only [kv, kv2, Prod.mk.injEq] at h1; exact h1.1
    by_cases hq : key = e.1
    · refine ⟨_, ?_, .hit h1 h2 hq.symm⟩
      rw [decide_eq_true hq] at he
      simp only [Instr.findAsking, Sem.run_bind, hm, he, Result.andThen, if_true, Sem.run_pure]
    · obtain ⟨r, hr, hf⟩ := findAsking_run hs (i0 + 1) h2 (fun x hx => hk x (.tail _ hx))
      refine ⟨r, ?_, .miss h1 (Ne.symm hq) hf⟩
      rw [decide_eq_false hq] at he
      simp only [Instr.findAsking, Sem.run_bind, hm, he, Result.andThen, Bool.false_eq_true, if_false, hr]

theorem findKey_run {kt : TypeId} {kk : KK} (hT : KeyT P kt kk) {key : MK} (hk : key.kind = kk) {ms : List MapEntry} {es : List (MK × Value)} (h : ms.map kv = es.map kv2) (hes : ∀ e ∈ es, e.1.kind = kk) :
    ∃ r, (Instr.findKey kt key.val ms).run P w = .ok r w ∧ FindSpec ms es key 0 r := by
  subst hk
  cases key with
  | s bs =>
    obtain ⟨r, h1, h2⟩ := findNow_run (d := .string) (key := .s bs) (fun k hk => by
      cases k <;> simp [MK.kind] at hk
      rename_i cs
      simp only [MK.val, Instr.sameNow, Option.some.injEq]
      rw [Bool.eq_iff_iff, bytes_beq]
      simp) 0 h hes
    exact ⟨r, by simp [Instr.findKey, run_underlying hT, Result.andThen, h1], h2⟩
  | i k n =>
    obtain ⟨r, h1, h2⟩ := findNow_run (d := .int k) (key := .i k n) (fun k' hk => by
      cases k' <;> simp [MK.kind] at hk
      subst hk
      simp only [MK.val, Instr.sameNow, if_true, Option.some.injEq]
      rw [Bool.eq_iff_iff]
      simp) 0 h hes
    exact ⟨r, by simp [Instr.findKey, run_underlying hT, Result.andThen, h1], h2⟩
  | p k a b =>
    obtain ⟨el, i, g1, g2, g3, g4, g5⟩ := hT
    obtain ⟨r, h1, h2⟩ := findAsking_run (P := P) (w := w) (kt := kt) (key := .p k a b) (fun k' hk => by
      cases k' <;> simp [MK.kind] at hk
      subst hk
      rename_i c d
      simp only [MK.val]
      rw [run_equal2 g1 g2 g3 g4 g5]
      simp) 0 h hes
    cases ms with
    | nil =>
      have : es = [] := by cases es with | nil => rfl | cons => simp at h
      subst this
      exact ⟨none, by simp [Instr.findKey, run_underlying g1, Result.andThen, Instr.findNow], .nil⟩
    | cons m ms =>
      refine ⟨r, ?_, h2⟩
      have hn : Instr.findNow (.array 2 el) (MK.val (.p k a b)) (m :: ms) 0 = none := by simp [Instr.findNow, Instr.sameNow, MK.val]
      simp only [Instr.findKey, Sem.run_bind, run_underlying g1, Result.andThen, hn, h1]

theorem keyStays_run (key : MK) : (Instr.keyThatStays key.val key.val).run P w = .ok key.val w := by
  have : Instr.sameBits 10000 key.val key.val = true := by
    cases key <;> simp [MK.val, Instr.sameBits, bytes_beq]
  simp [Instr.keyThatStays, this]

theorem lookup_fine {t kt et : TypeId} {kk : KK} {i : TypeInfo} {z : Value} (hm : P.underlying t = some (.map kt et)) (hT : KeyT P kt kk) (hi : P.info? et = some i) (hz : i.zero = some z) {b : Nat} {es : List (MK × Value)} (hb : MapAt w b kk es)
    {key : MK} (hk : key.kind = kk) (comma : Bool) :
    ∃ v, (Instr.lookup t (.map (some b)) key.val comma).run P w = .ok v w ∧ Rel S w η v (mgetR comma z (mlook es key)) := by
  obtain ⟨ms, clock, h1, h2, h3⟩ := hb
  obtain ⟨r, hr, hf⟩ := findKey_run (P := P) (w := w) hT hk (ms := ms.toList) (es := es) h2 h3
  have hv : ∀ (o : Option (Nat × Value)) (v : Value) (ok : Bool), Rel S w η (if comma = true then .tuple #[v, .bool ok] else v) (if comma = true then .tup [.v v, .v (.bool ok)] else .v v) := fun o v ok => by
    cases comma
    · exact .v _
    · refine .tup rfl fun j => ?_
      rcases j with _ | _ | j
      · exact .v _
      · exact .v _
      · exact .any _
  rcases hf with ⟨rfl, e2, -⟩ | ⟨j, e, rfl, e2, e3, e4, -⟩
  · refine ⟨_, ?_, by rw [e2]; exact hv none z false⟩
    simp only [Instr.lookup, Sem.run_bind, run_underlying hm, run_getObj_map h1, checkKey_run hT hk, hr, run_zero hi hz, Result.andThen, Sem.run_pure]
  · refine ⟨_, ?_, by rw [e4]; exact hv none e.val true⟩
    simp only [Instr.lookup, Sem.run_bind, run_underlying hm, run_getObj_map h1, checkKey_run hT hk, hr, Result.andThen, Sem.run_pure]

theorem mapUpdate_fine {t kt et : TypeId} {kk : KK} (hm : P.underlying t = some (.map kt et)) (hT : KeyT P kt kk) {b : Nat} {es : List (MK × Value)} (hb : MapAt w b kk es)
    {key : MK} (hk : key.kind = kk) (v : Value) :
    ∃ ms clock, (Instr.mapUpdate t (.map (some b)) key.val v).run P w = .ok () { w with heap := w.heap.setIfInBounds b (.map ms clock) } ∧ ms.toList.map kv = (mput es key v).map kv2 ∧ ∀ e ∈ mput es key v, e.1.kind = kk := by
  obtain ⟨ms, clock, h1, h2, h3⟩ := hb
  obtain ⟨r, hr, hf⟩ := findKey_run (P := P) (w := w) hT hk (ms := ms.toList) (es := es) h2 h3
  have hkind : ∀ {es : List (MK × Value)}, (∀ e ∈ es, e.1.kind = kk) → ∀ e ∈ mput es key v, e.1.kind = kk := by
    intro es
    induction es with
    | nil => intro _ e he; simp [mput] at he; subst he; exact hk
    | cons x xs ih =>
      intro h e he
      obtain ⟨k, u⟩ := x
      simp only [mput] at he
      split at he
      · rcases List.mem_cons.1 he with rfl | he
        · exact hk
        · exact h e (.tail _ he)
      · rcases List.mem_cons.1 he with rfl | he
        · exact h _ (.head _)
        · exact ih (fun y hy => h y (.tail _ hy)) e he
  rcases hf with ⟨rfl, -, e2⟩ | ⟨j, e, rfl, e2, e3, -, e5⟩
  · refine ⟨ms.push { key := key.val, val := v, born := clock }, clock + 1, ?_, ?_, hkind h3⟩
    · simp only [Instr.mapUpdate, Sem.run_bind, run_underlying hm, run_getObj_map h1, checkKey_run hT hk, hr, run_setObj_map _ h1, Result.andThen]
    · rw [e2 v]
      have h2' : ms.toList.map kv = es.map kv2 := h2
      simp [h2']
      rfl
  · have hj : ms[j]? = some e := by simpa using e2
    refine ⟨ms.modify j fun e => { e with key := key.val, val := v }, clock, ?_, ?_, hkind h3⟩
    · simp only [Instr.mapUpdate, Sem.run_bind, run_underlying hm, run_getObj_map h1, checkKey_run hT hk, hr, Result.andThen, Nat.zero_add, hj, Option.map_some, Option.getD_some, e3, keyStays_run, run_setObj_map _ h1]
    · rw [Array.toList_modify]
      exact e5 v

/-- A map's block turned. -/
theorem Conc.mset {h b : Nat} {kk : KK} {es es' : List (MK × Value)} (hC : Conc η S w H) (hη : η[h]? = some b) (hH : H[h]? = some (some [.mp kk es])) (ms : Array MapEntry) (clock : Nat)
    (h1 : ms.toList.map kv = es'.map kv2) (h2 : ∀ e ∈ es', e.1.kind = kk) (hb : ∃ m0 c0, w.heap[b]? = some (.map m0 c0)) :
    Conc η S { w with heap := w.heap.setIfInBounds b (.map ms clock) } (H.set h (some [.mp kk es'])) ∧ Le η S w η S { w with heap := w.heap.setIfInBounds b (.map ms clock) } := by
  obtain ⟨m0, c0, hb⟩ := hb
  obtain ⟨p1, p2⟩ := hC.apart h b _ hη hH
  obtain ⟨e1, e2⟩ := heap_set (o' := .map ms clock) hb
  have hlt : h < H.length := (List.getElem?_eq_some_iff.1 hH).1
  have hle : Le η S w η S { w with heap := w.heap.setIfInBounds b (.map ms clock) } := by
    refine ⟨⟨[], by simp, by simp⟩, fun _ h => h, fun b' hb' => e2 b' (fun e => p1 (e ▸ hb')), ?_, by simp, fun b' _ hn => e2 b' (fun e => hn (e ▸ List.mem_of_getElem? hη)), fun _ h => .inl h, rfl, rfl, rfl⟩
    intro b' c' t' fr' hb'
    have hbb : b' ≠ b := fun e => by subst e; rw [hb] at hb'; cases hb'
    exact ⟨c', fr', by show (w.heap.setIfInBounds b _)[b']? = _; rw [e2 b' hbb]; exact hb', rfl⟩
  refine ⟨⟨by simp [hC.len], fun b' hb' => by simp; exact hC.lt b' hb', fun b' hb' => by simp; exact hC.Slt b' hb', ?_, ?_⟩, hle⟩
  · intro k b' ls f1 f2
    have f2' : ∃ ls', H[k]? = some (some ls') := by
      by_cases hk : k = h
      · subst hk; exact ⟨_, hH⟩
      · rw [List.getElem?_set_ne (Ne.symm hk)] at f2; exact ⟨ls, f2⟩
    obtain ⟨ls', f3⟩ := f2'
    obtain ⟨r1, r2⟩ := hC.apart k b' ls' f1 f3
    refine ⟨r1, fun k' ls'' g1 g2 => ?_⟩
    by_cases hk : k' = h
    · subst hk; exact r2 k' _ g1 hH
    · rw [List.getElem?_set_ne (Ne.symm hk)] at g2; exact r2 k' ls'' g1 g2
  · intro k b' ls f1 f2
    by_cases hk : k = h
    · subst hk
      rw [hη] at f1; cases f1
      rw [List.getElem?_set_self hlt] at f2
      simp at f2; subst f2
      exact .inr ⟨kk, es', rfl, ms, clock, e1, h1, h2⟩
    · rw [List.getElem?_set_ne (Ne.symm hk)] at f2
      have hbb : b' ≠ b := fun e => by subst e; exact hk (p2 k ls f1 f2)
      exact (hC.liveAt k b' ls f1 f2).mono (e2 b' hbb) (fun _ _ h => h.le hle)

/-- A map's row at hand. -/
theorem Conc.mapAt {h b : Nat} {kk : KK} {es : List (MK × Value)} (hC : Conc η S w H) (hη : η[h]? = some b) (hH : H[h]? = some (some [.mp kk es])) : MapAt w b kk es := by
  rcases hC.liveAt h b _ hη hH with ⟨c, t, fr, q1, q2, q3, q4⟩ | ⟨k, es', e, hm⟩
  · have := q4 0 (by simp)
    simp only [List.getD_cons_zero] at this
    generalize c.getD 0 undef = x at this
    cases this
  · simp at e
    obtain ⟨rfl, rfl⟩ := e
    exact hm

theorem mrow_spec {kk : KK} {x : Value} {l : L} {h : Nat} {es : List (MK × Value)} (hC : Conc η S w H) (hx : Rel S w η x l) (hr : mrow kk H l = some (h, es)) : ∃ b, x = .map (some b) ∧ η[h]? = some b ∧ H[h]? = some (some [.mp kk es]) ∧ MapAt w b kk es := by
  unfold mrow at hr
  split at hr
  · split at hr
    · rename_i k' es' hl
      split at hr
      · rename_i e
        subst e
        cases hr
        obtain ⟨b, rfl, hη⟩ := hx.inv_mref
        exact ⟨b, rfl, hη, live_iff.1 hl, hC.mapAt hη (live_iff.1 hl)⟩
      · simp at hr
    · simp at hr
  · simp at hr

theorem mlen_spec {x : Value} {l : L} {es : List (MK × Value)} (hC : Conc η S w H) (hx : Rel S w η x l) (hr : anyMrow H l = some es) : ∃ b ms clock, x = .map (some b) ∧ w.heap[b]? = some (.map ms clock) ∧ ms.size = es.length := by
  unfold anyMrow at hr
  split at hr
  · split at hr
    · rename_i k' es' hl
      cases hr
      obtain ⟨b, rfl, hη⟩ := hx.inv_mref
      obtain ⟨ms, clock, h1, h2, -⟩ := hC.mapAt hη (live_iff.1 hl)
      refine ⟨b, ms, clock, rfl, h1, ?_⟩
      have := congrArg List.length h2
      simpa using this
    · simp at hr
  · simp at hr

theorem scalar_val {x : Value} {l : L} {v : Value} (hx : Rel S w η x l) (h : scalar l = some v) : x = v := by
  unfold scalar at h
  split at h
  · cases h; exact hx.inv_v
  · cases h; exact hx.inv_v
  · simp at h

end
end Lg
