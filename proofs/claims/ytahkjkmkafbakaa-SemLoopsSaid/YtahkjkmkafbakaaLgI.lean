/- Soundness of what makes memory: arrays' slices, make, append, copy, literals. -/
import Derived.Test.YtahkjkmkafbakaaLgH
namespace Lg
open Go

section
variable {P : Program} {η : List Nat} {S : Nat → Prop} {w : World} {H : Heap} {a : Act} {E : Env}

theorem sliceA_fine {t e : TypeId} {n s : Nat} {x : Value} {lo hi mx : Option Value} {lx : L} {llo lhi lmx : Option L} {r : L} (hC : Conc η S w H) (hu : P.underlying t = some (.array n e)) (hs : szOf P e = some s) (hx : Rel S w η x lx)
    (hlo : ORel S w η lo llo) (hhi : ORel S w η hi lhi) (hmx : ORel S w η mx lmx) (hm : lmx.isSome = true → lhi.isSome = true) (h : sliceAL n s llo lhi lmx H lx = some r) :
    ∃ v, (Instr.sliceAt t x lo hi mx).run P w = .ok v w ∧ Rel S w η v r := by
  unfold sliceAL at h
  split at h
  · rename_i k off
    obtain ⟨b, rfl, hη, c0, t0, fr0, hb0⟩ := hx.inv_ptr
    split at h
    · rename_i cs hl
      obtain ⟨c, ty, fr, q1, q2, q3, q4⟩ := hC.live hb0 hη (live_iff.1 hl)
      split at h
      · rename_i hc
        simp only [Option.map_eq_some_iff] at h
        obtain ⟨⟨l, k', cl⟩, hb, rfl⟩ := h
        obtain ⟨m, hm1, hm2, hm3, hm4, hm5, hm6⟩ := bnds_run (P := P) (isS := false) hlo hhi hmx hm (Nat.le_refl n) (fun _ => rfl) hb
        refine ⟨.slice (some (if m = l then ⟨b, off, none⟩ else ⟨b, off + l * s, none⟩)) (k' - l) (m - l), ?_, ?_⟩
        · simp only [Instr.sliceAt, Sem.run_bind, run_underlying hu, Result.andThen_ok, Instr.sureAddr, Sem.run_pure, hm1, run_sz hs, Addr.add_lit]
        · by_cases hml : m = l
          · have e1 : k' - l = 0 := by omega
            have e2 : m - l = 0 := by omega
            simp only [e1, e2]
            exact .view0
          · simp only [hml, if_false]
            refine .view hη q1 ?_ (by omega) (by simp only [maxLen]; omega) (fun e => by have := hm6 e; omega)
            have : off + l * s + (m - l) * s = off + m * s := by rw [Nat.add_assoc, ← Nat.add_mul]; congr 2; omega
            have h6 := Nat.mul_le_mul_right s hm5
            omega
      · simp at h
    · simp at h
  · simp at h

theorem zero_cells (z : Value) : (ofV z).cells.length = z.cells.size ∧ ∀ j, Rel S w η (z.cells.getD j undef) ((ofV z).cells.getD j .any) := by
  cases z <;> first
    | (refine ⟨rfl, fun j => ?_⟩
       cases j with
       | zero => exact .v _
       | succ j => exact .any _)
    | skip
  rename_i cs
  refine ⟨by simp [ofV, L.cells, Value.cells], fun j => ?_⟩
  obtain ⟨cs', h1, h2, h3⟩ := (rel_ofV (S := S) (w := w) (η := η) (.agg cs)).inv_agg
  cases h1
  exact h3 j

theorem zeros_getD {s : Nat} {z : List L} (hz : z.length = s) : ∀ (n j : Nat), j < n * s → (zeros n z).getD j .any = z.getD (j % s) .any
  | 0, j, h => by simp at h
  | n + 1, j, h => by
    have : zeros (n + 1) z = z ++ zeros n z := by simp [zeros, List.replicate_succ]
    rw [this]
    simp only [List.getD]
    by_cases hj : j < s
    · rw [List.getElem?_append_left (by omega), Nat.mod_eq_of_lt hj]
    · rw [List.getElem?_append_right (by omega), hz]
      have := zeros_getD hz n (j - s) (by rw [Nat.succ_mul] at h; omega)
      simp only [List.getD] at this
      rw [this, ← Nat.mod_eq_sub_mod (by omega)]

theorem zeros_length {s : Nat} {z : List L} (hz : z.length = s) (n : Nat) : (zeros n z).length = n * s := by
  simp [zeros, hz]

/-- The cells of zeros in memory. -/
theorem rel_zeros {zc : Array Value} {z : List L} (hl : z.length = zc.size) (hz : ∀ j, Rel S w η (zc.getD j undef) (z.getD j .any)) (n : Nat) (j : Nat) (hj : j < n * zc.size) :
    Rel S w η (((Array.range (n * zc.size)).map (zc[· % zc.size]!)).getD j undef) ((zeros n z).getD j .any) := by
  rw [zeros_getD hl n j hj]
  have h0 : 0 < zc.size := Nat.pos_of_mul_pos_left (by omega : 0 < n * zc.size)
  have := hz (j % zc.size)
  have hlt := Nat.mod_lt j h0
  rw [agetD_of_lt _ _ (by simp; exact hj)]
  rw [agetD_of_lt _ _ hlt] at this
  simpa [getElem!_pos, hlt] using this

theorem wrap_id {n : Int} (h0 : 0 ≤ n) (h1 : n ≤ 9223372036854775807) : IntKind.i64.wrap n = n := IntWalk.i64_in n ⟨by omega, by omega⟩

theorem mksl_fine {t e : TypeId} {i : TypeInfo} {z : Value} {x y : Value} {lx ly l : L} {H' : Heap} (hC : Conc η S w H) (hu : P.underlying t = some (.slice e)) (hi : P.info? e = some i) (hz : i.zero = some z) (hz2 : z.cells.size = i.size)
    (hx : Rel S w η x lx) (hy : Rel S w η y ly) (h : mkslL i.size i.bytes (ofV z).cells lx ly H = some (l, H')) :
    ∃ v w' η', (Instr.makeSlice t x y).run P w = .ok v w' ∧ Rel S w' η' v l ∧ Conc η' S w' H' ∧ Le η S w η' S w' ∧ ∃ cells : Array Value, w' = { w with heap := w.heap.push (.cells cells e) } ∧ η' = η ++ [w.heap.size] := by
  unfold mkslL at h
  split at h
  · rename_i n c
    have := hx.inv_v; subst this
    have := hy.inv_v; subst this
    split at h
    · rename_i hc
      obtain ⟨h0, h1, h2, h3⟩ := hc
      cases h
      have hw1 := wrap_id h0 (by omega)
      have hw2 := wrap_id (n := c) (by omega) h3
      have hb : (i.bytes : Int) * c ≤ 281474976710656 := by rw [Int.mul_comm]; exact h2
      have hb2 : (i.bytes : Int) * n ≤ 281474976710656 := Int.le_trans (Int.mul_le_mul_of_nonneg_left h1 (by omega)) hb
      obtain ⟨zl, zr⟩ := zero_cells (S := S) (w := w) (η := η) z
      have hsz : (Go.sizeOf e).run P w = .ok i.size w := by simp [Go.sizeOf, run_info hi]
      let cells : Array Value := (Array.range (c.toNat * z.cells.size)).map (z.cells[· % z.cells.size]!)
      have hrun : (Instr.makeSlice t (.int .i64 n) (.int .i64 c)).run P w = .ok (.slice (some ⟨w.heap.size, 0, none⟩) n.toNat c.toNat) { w with heap := w.heap.push (.cells cells e) } := by
        have ht : ¬ (c < 0) := by omega
        have ht2 : ¬ (n < 0) := by omega
        have ht3 : ¬ ((i.bytes : Int) * c > 2 ^ 48) := by rw [show ((2 : Int) ^ 48) = 281474976710656 from by decide]; omega
        simp only [Instr.makeSlice, Sem.run_bind, run_underlying hu, Result.andThen_ok, asInt, asIntOf, Sem.run_pure, run_info hi, hw1, hw2, ht, ht2, ht3, decide_false, Bool.or_self, Bool.or_false, Bool.false_or,
          show ¬ (n > c) by omega, Bool.false_eq_true, if_false, run_askRoom, hsz, newRow, run_newObj]
        by_cases hn : c.toNat * i.size = 0
        · rw [if_pos hn]
          simp [hn, cells, hz2, Array.range_zero']
        · rw [if_neg hn]
          simp only [Sem.run_bind, run_zero hi hz, Result.andThen_ok, Sem.run_pure, run_newObj]
          simp [cells, hz2]
      obtain ⟨p1, p2⟩ := hC.push cells e (zeros c.toNat (ofV z).cells) (by simp [cells, zeros_length zl]) (fun j hj => rel_zeros zl zr c.toNat j (by rw [zeros_length zl] at hj; exact hj)) (w' := { w with heap := w.heap.push (.cells cells e) }) rfl rfl rfl rfl
      refine ⟨_, _, _, hrun, ?_, p1, p2, cells, rfl, rfl⟩
      rw [← hC.len]
      refine .view (b := w.heap.size) (by simp) (c := cells) (t := e) (fr := (0, 0)) (by simp) (by simp [cells, hz2]) (by omega) (by simp only [maxLen]; omega) (fun e => by have := of_decide_eq_true e; rw [this])
    · simp at h
  · simp at h


/-- What a list's cells are in memory. -/
theorem lcells_cs {esz : Nat} {y : Value} {ly : L} {ys : List L} (hC : Conc η S w H) (hy : Rel S w η y ly) (h : lcells esz H ly = some ys) :
    ∃ ad m cap, y = .slice ad m cap ∧ ys.length = m * esz ∧ ∃ cs : Nat → Value, (∀ k, k ≤ m → ∀ w' : World, w'.heap = w.heap → (Builtin.firstCells esz k y).run P w' = .ok ((List.range (k * esz)).map cs).toArray w') ∧
      ∀ j, j < ys.length → Rel S w η (cs j) (ys.getD j .any) := by
  have cellsRun : ∀ b o m cap (cs : Nat → Value), (∀ j, j < m * esz → w.cell? ⟨b, o + j, none⟩ = some (cs j)) → ∀ k, k ≤ m → ∀ w' : World, w'.heap = w.heap →
      (Builtin.firstCells esz k (.slice (some ⟨b, o, none⟩) m cap)).run P w' = .ok ((List.range (k * esz)).map cs).toArray w' := fun b o m cap cs hc k hk w' hw => by
    have := Nat.mul_le_mul_right esz hk
    simp only [Builtin.firstCells]
    exact run_loadCells (P := P) w' ⟨b, o, none⟩ (k * esz) cs (fun j hj => by rw [Addr.add_lit, cell?_of_block (w := w) (by rw [hw])]; exact hc j (by omega))
  have nilRun : ∀ ad cap (cs : Nat → Value), ∀ k, k ≤ 0 → ∀ w' : World, w'.heap = w.heap → (Builtin.firstCells esz k (.slice ad 0 cap)).run P w' = .ok ((List.range (k * esz)).map cs).toArray w' := fun ad cap cs k hk w' _ => by
    obtain rfl : k = 0 := by omega
    cases ad with
    | none => simp [Builtin.firstCells]
    | some ad =>
      simp only [Builtin.firstCells, Nat.zero_mul]
      exact (run_loadCells (P := P) w' ad 0 cs (fun j hj => by omega))
  unfold lcells at h
  split at h
  · rename_i e clip xs
    split at h
    · rename_i he; subst he
      cases h
      obtain ⟨ad, cap, rfl, h1, h2, h3, h4, h5⟩ := hy.inv_sl
      have hfl := flat_length h4
      by_cases hz : xs.length = 0
      · have : xs = [] := List.eq_nil_of_length_eq_zero hz
        subst this
        refine ⟨ad, 0, cap, rfl, by simpa using hfl, fun _ => undef, nilRun ad cap _, fun j hj => by simp at hfl; simp [hfl] at hj⟩
      · obtain ⟨b, o, cs, rfl, hS, hc, hr⟩ := h5 (by omega)
        exact ⟨_, _, _, rfl, hfl, cs, cellsRun b o _ cap cs hc, fun j hj => (hr j).nil⟩
    · simp at h
  · cases h
    have := hy.inv_v; subst this
    exact ⟨none, 0, 0, rfl, by simp, fun _ => undef, nilRun none 0 _, fun j hj => by simp at hj⟩
  · rename_i e k off n clip
    split at h
    · rename_i he; subst he
      split at h
      · rename_i cs hl
        split at h
        · rename_i hle
          cases h
          rcases hy.inv_view with ⟨ad, rfl, rfl⟩ | ⟨b, cap, c, t', fr, rfl, hη, hb, hsz, hn, hmm, hcl⟩
          · exact ⟨ad, 0, 0, rfl, by simp, fun _ => undef, nilRun ad 0 _, fun j hj => by simp at hj⟩
          · obtain ⟨c', ty, fr', q1, q2, q3, q4⟩ := hC.live hb hη (live_iff.1 hl)
            have hlen : ((cs.drop off).take (n * e)).length = n * e := by simp; omega
            refine ⟨_, _, _, rfl, hlen, fun j => c'.getD (off + j) undef, cellsRun b off n cap _ (fun j hj => cell_of q1 (by omega)), fun j hj => ?_⟩
            rw [hlen] at hj
            rw [getD_dropTake _ _ _ _ hj]
            exact q4 (off + j) (by omega)
        · simp at h
      · simp at h
    · simp at h
  · simp at h

theorem lcells_reads {esz : Nat} {y : Value} {ly : L} {ys : List L} (hC : Conc η S w H) (hy : Rel S w η y ly) (h : lcells esz H ly = some ys) :
    ∃ ad m cap, y = .slice ad m cap ∧ ys.length = m * esz ∧ ∃ new : Array Value, new.size = ys.length ∧ (∀ w' : World, w'.heap = w.heap → (Builtin.firstCells esz m y).run P w' = .ok new w') ∧ ∀ j, j < ys.length → Rel S w η (new.getD j undef) (ys.getD j .any) := by
  obtain ⟨ad, m, cap, h1, h2, cs, h3, h4⟩ := lcells_cs (P := P) hC hy h
  refine ⟨ad, m, cap, h1, h2, _, by simp [h2], h3 m (Nat.le_refl _), fun j hj => ?_⟩
  rw [agetD_of_lt _ _ (by simp; omega)]
  simpa using h4 j hj

theorem toBytes_spec : ∀ {ys : List L} {bs : List UInt8} {l : List Value}, toBytes ys = some bs → l.length = ys.length → (∀ j, j < ys.length → Rel S w η (l.getD j undef) (ys.getD j .any)) →
    ∃ ns : List Int, l = ns.map (Value.int .u8) ∧ bs = ns.map fun n => UInt8.ofNat n.toNat
  | [], bs, l, h, hl, _ => by
    simp [toBytes] at h; subst h
    exact ⟨[], List.eq_nil_of_length_eq_zero (by simpa using hl), rfl⟩
  | y :: ys, bs, [], h, hl, _ => by simp at hl
  | y :: ys, bs, x :: l, h, hl, hr => by
    have h0 := hr 0 (by simp)
    simp only [List.getD_cons_zero] at h0
    unfold toBytes at h
    split at h
    · rename_i e; cases e
    · rename_i n ls e
      cases e
      obtain rfl := h0.inv_v
      simp only [Option.map_eq_some_iff] at h
      obtain ⟨bs', h1, rfl⟩ := h
      obtain ⟨ns, e1, e2⟩ := toBytes_spec h1 (l := l) (by simpa using hl) (fun j hj => by simpa using hr (j + 1) (by simpa using hj))
      exact ⟨n :: ns, by simp [e1], by simp [e2]⟩
    · simp at h

theorem b2s_fine {x : Value} {lx : L} {ys : List L} {bs : List UInt8} (hC : Conc η S w H) (hx : Rel S w η x lx) (h1 : lcells 1 H lx = some ys) (h2 : toBytes ys = some bs) :
    (Conv.bytesToString x).run P w = .ok (.string ⟨bs.toArray⟩) w := by
  obtain ⟨ad, m, cap, rfl, hlen, new, hsz, hrun, hrel⟩ := lcells_reads (P := P) hC hx h1
  obtain ⟨ns, e1, rfl⟩ := toBytes_spec h2 (l := new.toList) (by simpa using hsz) (fun j hj => by
    have := hrel j hj
    simpa [Array.getD_eq_getD_getElem?, List.getD] using this)
  have hr := hrun w rfl
  obtain rfl : new = (ns.map (Value.int .u8)).toArray := by rw [← e1]
  cases ad with
  | none =>
    simp [Builtin.firstCells] at hr
    subst hr
    simp [Conv.bytesToString]
    rfl
  | some a =>
    simp only [Builtin.firstCells, Nat.mul_one] at hr
    simp only [Conv.bytesToString, Sem.run_bind, hr, Result.andThen_ok]
    rw [List.forIn_toArray]
    have key : ∀ (g : Value → ByteArray → Sem (ForInStep ByteArray)), (∀ n acc, (g (.int .u8 n) acc).run P w = .ok (.yield (acc.push (UInt8.ofNat n.toNat))) w) →
        ∀ (ns : List Int) (acc : ByteArray), Sem.run P (forIn (ns.map (Value.int IntKind.u8)) acc g) w = .ok ⟨acc.data ++ (ns.map fun n => UInt8.ofNat n.toNat).toArray⟩ w := by
      intro g hg ns
      induction ns with
      | nil => intro acc; simp
      | cons n ns ih =>
        intro acc
        simp only [List.map_cons, List.forIn_cons, Sem.run_bind, hg, Result.andThen_ok]
        rw [ih]
        simp [ByteArray.push]
    rw [key _ (fun n acc => by simp)]
    simp [ByteArray.empty, ByteArray.emptyWithCapacity]
    rfl

/-- The own rows at hand, one of them forgotten. -/
theorem Conc.drop (hC : Conc η S w H) (h : Nat) : Conc η S w (H.set h none) := by
  have sub : ∀ {k : Nat} {ls : List L}, (H.set h none)[k]? = some (some ls) → H[k]? = some (some ls) := fun {k ls} e => by
    by_cases hk : k = h
    · subst hk
      rw [List.getElem?_set] at e
      simp at e
    · rwa [List.getElem?_set_ne (Ne.symm hk)] at e
  exact ⟨by simp [hC.len], hC.lt, hC.Slt, fun k b ls e1 e2 => ⟨(hC.apart k b ls e1 (sub e2)).1, fun k' ls' f1 f2 => (hC.apart k b ls e1 (sub e2)).2 k' ls' f1 (sub f2)⟩, fun k b ls e1 e2 => hC.liveAt k b ls e1 (sub e2)⟩

/-- The own rows at hand, the block of one that is forgotten under a new number. -/
theorem Conc.again (hC : Conc η S w H) {h b : Nat} {cs : List L} (hη : η[h]? = some b) (hH : H[h]? = some (some cs)) {ls : List L} {c : Array Value} {t : TypeId} {fr : Nat × Nat}
    (q1 : w.heap[b]? = some (.cells c t fr)) (q2 : ls.length ≤ c.size) (q4 : ∀ j, j < ls.length → Rel S w η (c.getD j undef) (ls.getD j .any)) :
    Conc (η ++ [b]) S w (H.set h none ++ [some ls]) ∧ Le η S w (η ++ [b]) S w := by
  have hle : Le η S w (η ++ [b]) S w :=
    ⟨⟨[b], rfl, fun b' hb' => .inl (by simp at hb'; subst hb'; exact List.mem_of_getElem? hη)⟩, fun _ h => h, fun _ _ => rfl, fun _ c _ fr h => ⟨c, fr, h, rfl⟩, Nat.le_refl _, fun _ _ _ => rfl, fun _ h => .inl h, rfl, rfl, rfl⟩
  obtain ⟨c0, t0, fr0, r1, r2, r3, r4⟩ := hC.live q1 hη hH
  rw [q1] at r1; cases r1
  obtain ⟨p1, p2⟩ := hC.apart h b cs hη hH
  have hD := hC.drop h
  have hlen : η.length = (H.set h none).length := by simp [hC.len]
  have split : ∀ {k b' : Nat} {ls' : List L}, (η ++ [b])[k]? = some b' → (H.set h none ++ [some ls])[k]? = some (some ls') → (η[k]? = some b' ∧ (H.set h none)[k]? = some (some ls') ∧ b' ≠ b) ∨ (k = η.length ∧ b' = b ∧ ls' = ls) := fun {k b' ls'} e1 e2 => by
    by_cases hk : k < η.length
    · rw [List.getElem?_append_left hk] at e1
      rw [List.getElem?_append_left (by omega)] at e2
      refine .inl ⟨e1, e2, fun e => ?_⟩
      subst e
      by_cases hkh : k = h
      · subst hkh; rw [List.getElem?_set] at e2; simp at e2
      · rw [List.getElem?_set_ne (Ne.symm hkh)] at e2; exact hkh (p2 k ls' e1 e2)
    · rw [List.getElem?_append_right (by omega)] at e1
      rcases hm : k - η.length with _ | m
      · simp [hm] at e1
        have : k = η.length := by omega
        subst this
        rw [List.getElem?_append_right (by omega), hlen] at e2
        simp at e2
        exact .inr ⟨rfl, e1.symm, e2.symm⟩
      · simp [hm] at e1
  refine ⟨⟨by simp [hC.len], ?_, hC.Slt, ?_, ?_⟩, hle⟩
  · intro b' hb'
    rcases List.mem_append.1 hb' with h' | h'
    · exact hC.lt b' h'
    · simp at h'; subst h'; exact hC.lt _ (List.mem_of_getElem? hη)
  · intro k b' ls' e1 e2
    rcases split e1 e2 with ⟨f1, f2, f3⟩ | ⟨rfl, rfl, rfl⟩
    · obtain ⟨g1, g2⟩ := hD.apart k b' ls' f1 f2
      refine ⟨g1, fun k' ls'' e3 e4 => ?_⟩
      rcases split e3 e4 with ⟨f1', f2', -⟩ | ⟨-, rfl, -⟩
      · exact g2 k' ls'' f1' f2'
      · exact absurd rfl f3
    · refine ⟨p1, fun k' ls'' e3 e4 => ?_⟩
      rcases split e3 e4 with ⟨-, -, f3⟩ | ⟨rfl, -, -⟩
      · exact absurd rfl f3
      · rfl
  · intro k b' ls' e1 e2
    rcases split e1 e2 with ⟨f1, f2, f3⟩ | ⟨rfl, rfl, rfl⟩
    · exact (hD.liveAt k b' ls' f1 f2).mono rfl (fun _ _ h => h.le hle)
    · exact .inl ⟨c, t, fr, q1, q2, r3, fun j hj => (q4 j hj).le hle⟩

end
end Lg
