/- Own rows that are written no more. -/
import Derived.Test.YtaegmmeppkgnkaaLgM
namespace Lg
open Go

section
variable {P : Program} {η : List Nat} {S : Nat → Prop} {w : World} {H : Heap} {a : Act} {E : Env}

theorem Rel.closed {x : Value} {l : L} (h : Rel S w η x l) (hc : Lg.closed l = true) : Rel S w [] x l := by
  cases h <;> first | (simp [Lg.closed] at hc; done) | skip
  · exact .any _
  · exact .no
  · exact .v _
  · exact .sl0 ‹_› ‹_›
  · exact .sl _ ‹_› ‹_› ‹_› ‹_› ‹_› ‹_› ‹_›
  · exact .pp _ ‹_› ‹_› ‹_›

theorem chunk_length (n e : Nat) (cs : List L) (h : cs.length = n * e) (he : e ≠ 0) : (chunk n e cs).length = n := by
  unfold chunk
  split
  · rename_i h1; subst h1; simp; omega
  · simp

theorem closed_cells {l : L} (h : Lg.closed l = true) : l.cells = [l] := by cases l <;> simp_all [Lg.closed, L.cells]

theorem chunk_cells (n e : Nat) (cs : List L) (h : cs.length = n * e) (hc : cs.all Lg.closed = true) : (∀ y ∈ chunk n e cs, y.cells.length = e ∧ (e = 1 → y.cells = [y])) ∧ flat e (chunk n e cs) = cs := by
  unfold chunk flat
  by_cases h1 : e = 1
  · subst h1
    simp only [if_true]
    rw [List.take_of_length_le (by omega)]
    exact ⟨fun y hy => by rw [closed_cells (List.all_eq_true.1 hc y hy)]; simp, rfl⟩
  · simp only [h1, if_false]
    refine ⟨fun y hy => ?_, ?_⟩
    · simp only [List.mem_map, List.mem_range] at hy
      obtain ⟨i, hi, rfl⟩ := hy
      have : i * e + e ≤ n * e := by rw [← Nat.succ_mul]; exact Nat.mul_le_mul_right _ hi
      refine ⟨by simp [L.cells]; omega, fun he => he.elim⟩
    · have key : ∀ k, k ≤ n → ((List.range k).map fun i => L.agg ((cs.drop (i * e)).take e)).flatMap L.cells = cs.take (k * e) := by
        intro k
        induction k with
        | zero => intro _; simp
        | succ k ih =>
          intro hk
          rw [List.range_succ, List.map_append, List.flatMap_append, ih (by omega)]
          simp only [List.map_cons, List.map_nil, List.flatMap_cons, List.flatMap_nil, L.cells, List.append_nil]
          rw [Nat.succ_mul, List.take_add]
      rw [key n (Nat.le_refl _), ← h, List.take_length]

theorem frz_rel (hC : Conc η S w H) {fz : List Nat} {S' : Nat → Prop} (hS : ∀ b, (S b ∨ ∃ (h : Nat) (ls : List L), fz.contains h = true ∧ η[h]? = some b ∧ H[h]? = some (some ls)) → S' b) {x : Value} {l : L} (hx : Rel S w η x l) : Rel S' w η x (frz H fz l) := by
  have up : ∀ {η x l}, Rel S w η x l → Rel S' w η x l := fun h => h.mono (fun b hb => hS b (.inl hb)) (fun _ _ => rfl) (fun _ c _ fr h => ⟨c, fr, h, rfl⟩) (fun _ _ h => h)
  unfold frz
  split
  rotate_left
  · exact up hx
  rename_i e h off n c
  split
  rotate_left
  · exact up hx
  rename_i hfz
  split
  rotate_left
  · exact .any _
  rename_i cs hl
  split
  rotate_left
  · exact .any _
  rename_i hcond
  obtain ⟨hle, he, hall⟩ := hcond
  have hlen : ((cs.drop off).take (n * e)).length = n * e := by simp; omega
  have hcl := chunk_length n e _ hlen he
  rcases hx.inv_view with ⟨ad, rfl, rfl⟩ | ⟨b, cap, c0, t, fr, rfl, hη, hb, hsz, hn, hm, hcp⟩
  · have : chunk 0 e ((cs.drop off).take (0 * e)) = [] := List.eq_nil_of_length_eq_zero hcl
    rw [this]; exact .sl0 (fun _ => rfl) (by simp [maxLen])
  · obtain ⟨c1, t1, fr1, q1, q2, q3, q4⟩ := hC.live hb hη (live_iff.1 hl)
    obtain ⟨k1, k2⟩ := chunk_cells n e _ hlen hall
    have := Rel.sl (S := S') (w := w) (η := η) (b := b) (o := off) (cap := cap) (esz := e) (clip := c) (xs := chunk n e ((cs.drop off).take (n * e))) (fun j => c1.getD (off + j) undef) (by rw [hcl]; exact hn) hm (fun h => by rw [hcl]; exact hcp h) k1
      (fun _ => hS b (.inr ⟨_, _, hfz, hη, live_iff.1 hl⟩)) (fun j hj => by rw [hcl] at hj; exact cell_of q1 (by omega)) (fun j => by
        rw [k2]
        by_cases hj : j < n * e
        · have hr := q4 (off + j) (by omega)
          rw [← getD_dropTake _ _ _ _ hj] at hr
          have hcj : Lg.closed (((cs.drop off).take (n * e)).getD j .any) = true := by
            rw [getD_of_lt _ _ (by omega)]
            exact List.all_eq_true.1 hall _ (List.getElem_mem _)
          exact up (hr.closed hcj)
        · rw [getD_of_ge _ _ (by omega)]; exact .any _)
    rwa [hcl] at this

/-- The blocks at hand are as they were: so are the own rows. -/
theorem Conc.frame (hC : Conc η S w H) {S' : Nat → Prop} {w' : World} (hsub : ∀ b, S b → S' b) (hlt : ∀ b, S' b → b < w'.heap.size) (hnot : ∀ b ∈ η, S' b → S b) (hsize : w.heap.size ≤ w'.heap.size) (hsame : ∀ b : Nat, b < w.heap.size → w'.heap[b]? = w.heap[b]?) : Conc η S' w' H := by
  refine ⟨hC.len, fun b hb => Nat.lt_of_lt_of_le (hC.lt b hb) hsize, hlt, fun h b ls e1 e2 => ?_, fun h b ls e1 e2 => ?_⟩
  · obtain ⟨p1, p2⟩ := hC.apart h b ls e1 e2
    exact ⟨fun hs => p1 (hnot b (List.mem_of_getElem? e1) hs), p2⟩
  · obtain ⟨o0, q1⟩ := (hC.liveAt h b ls e1 e2).some
    have lt_of : ∀ (b : Nat) o, w.heap[b]? = some o → b < w.heap.size := fun b o ho => by
      rcases Nat.lt_or_ge b w.heap.size with h | h
      · exact h
      · simp [Array.getElem?_eq_none h] at ho
    exact (hC.liveAt h b ls e1 e2).mono (hsame b (lt_of b _ q1)) fun _ _ hr => hr.mono hsub (fun b hb => hsame b (hC.Slt b hb)) (fun b c t fr hb => ⟨c, fr, by rw [hsame b (lt_of b _ hb)]; exact hb, rfl⟩) (fun _ _ h => h)


/-- A row that is made, and written no more. -/
theorem mksl_shared {t e : TypeId} {i : TypeInfo} {z : Value} {x y : Value} {lx ly : L} {k k' : Int} (hC : Conc η S w H) (hu : P.underlying t = some (.slice e)) (hi : P.info? e = some i) (hz : i.zero = some z) (hz2 : z.cells.size = i.size)
    (hx : Rel S w η x lx) (hy : Rel S w η y ly) (ex : lx = .v (.int .i64 k)) (ey : ly = .v (.int .i64 k')) (hs : mkShared i.size i.bytes (ofV z).cells k k') :
    ∃ v w' S', (Instr.makeSlice t x y).run P w = .ok v w' ∧ Rel S' w' η v (.sl i.size true (chunk k.toNat i.size (zeros k.toNat (ofV z).cells))) ∧ Conc η S' w' H ∧ Le η S w η S' w' := by
  obtain ⟨rfl, h0, h1, h2, h3, h4, h5⟩ := hs
  subst ex ey
  have hmk : mkslL i.size i.bytes (ofV z).cells (.v (.int .i64 k)) (.v (.int .i64 k)) H = some (.view i.size H.length 0 k.toNat true, H ++ [some (zeros k.toNat (ofV z).cells)]) := by
    simp [mkslL, h0, h1, h2]
  obtain ⟨v, w', η', r1, r2, r3, r4, cells, rfl, rfl⟩ := mksl_fine (P := P) hC hu hi hz hz2 hx hy hmk
  have old : ∀ b : Nat, b < w.heap.size → (w.heap.push (Obj.cells cells e))[b]? = w.heap[b]? := fun b hb => by rw [Array.getElem?_push]; simp [Nat.ne_of_lt hb]
  have lt_of : ∀ (b : Nat) o, w.heap[b]? = some o → b < w.heap.size := fun b o ho => by
    rcases Nat.lt_or_ge b w.heap.size with h | h
    · exact h
    · simp [Array.getElem?_eq_none h] at ho
  have zl : (ofV z).cells.length = i.size := h4
  have hlen : (zeros k.toNat (ofV z).cells).length = k.toNat * i.size := by simp [zeros, zl]
  have hfrz : frz (H ++ [some (zeros k.toNat (ofV z).cells)]) [H.length] (.view i.size H.length 0 k.toNat true) = .sl i.size true (chunk k.toNat i.size (zeros k.toNat (ofV z).cells)) := by
    have hl : live (H ++ [some (zeros k.toNat (ofV z).cells)]) H.length = some (zeros k.toNat (ofV z).cells) := by simp [Lg.live]
    have hall : (((zeros k.toNat (ofV z).cells).drop 0).take (k.toNat * i.size)).all Lg.closed = true := by
      rw [List.drop_zero, List.take_of_length_le (by omega)]
      refine List.all_eq_true.2 fun c hc => ?_
      simp only [zeros, List.mem_flatten, List.mem_replicate] at hc
      obtain ⟨l, ⟨-, rfl⟩, hc⟩ := hc
      exact List.all_eq_true.1 h5 c hc
    simp only [frz]
    rw [if_pos (by simp), hl]
    simp only
    rw [if_pos ⟨by omega, h3, hall⟩, List.drop_zero, List.take_of_length_le (by omega)]
  have hrel := frz_rel (S' := fun b => S b ∨ b = w.heap.size) (fz := [H.length]) r3 (fun b hb => by
    rcases hb with hb | ⟨h, ls, q1, q2, -⟩
    · exact .inl hb
    · simp at q1
      subst q1
      rw [← hC.len] at q2
      simp at q2
      exact .inr q2.symm) r2
  rw [hfrz] at hrel
  refine ⟨_, _, _, r1, (hrel.closed rfl).nil, hC.frame (fun _ h => .inl h) (fun b hb => ?_) (fun b hb hs => ?_) (by simp) old,
    ⟨⟨[], by simp, by simp⟩, fun _ h => .inl h, fun b hb => old b (hC.Slt b hb), fun b c _ fr hb => ⟨c, fr, by simp only; rw [old b (lt_of b _ hb)]; exact hb, rfl⟩, by simp, fun b hb _ => old b hb, fun b hb => ?_, rfl, rfl, rfl⟩⟩
  · rcases hb with hb | rfl
    · have := hC.Slt b hb; simp; omega
    · simp
  · rcases hs with hs | rfl
    · exact hs
    · have := hC.lt _ hb; omega
  · rcases hb with hb | rfl
    · exact .inl hb
    · exact .inr (.inr (Nat.le_refl _))

end
end Lg
