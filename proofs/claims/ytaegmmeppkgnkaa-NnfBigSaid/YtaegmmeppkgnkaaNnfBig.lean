/- BIG: formulas of one path, as big as they are said to be. -/
import Derived.Test.YtaegmmeppkgnkaaNnfRight
namespace Go.Proofs.Ytaegmmeppkgnkaa
open Go Lg

/-- A path of signs, as it is built; and its tree. -/
def chL : List Int → List L
  | [] => [intL 13, intL 0, intL 0, .v (.slice none 0 0)]
  | op :: ops => [intL op, intL 0, intL 0, .sl 4 true ([chL ops].map L.agg)]
def chT : List Int → T
  | [] => .mk 13 0 0 []
  | op :: ops => .mk op 0 0 [chT ops]
theorem ch_sub : ∀ ops, SubAll (chL ops) (chT ops).toL.cells
  | [] => sub_leaf
  | op :: ops => sub_node (ts := [chT ops]) rfl fun i h => by
    match i with
    | 0 => exact ch_sub ops
theorem ch_form : ∀ ops, ∃ a d, chL ops = [intL a, intL 0, intL 0, d] ∧ (d = .v (.slice none 0 0) ∨ ∃ xs, d = .sl 4 true xs)
  | [] => ⟨13, _, rfl, .inl rfl⟩
  | op :: ops => ⟨op, _, rfl, .inr ⟨_, rfl⟩⟩

/-- What is known of a path. -/
structure Ch (ops : List Int) (sz : Int) : Prop where
  fm : Fm 3 (chT ops)
  size : (chT ops).fsize = sz
  lit : (chT ops).lit = decide (sz = 1)
  dp : (chT ops).dp = 1 + ops.length

theorem ch_nil : Ch [] 1 := by
  obtain ⟨l1, -, l3, l4⟩ := leaf_facts (op := 13) (pl := 0) (.inl rfl)
  exact ⟨leaf_fm (.inl rfl) (by decide), l3, by rw [chT, l1]; rfl, by rw [chT, l4]; rfl⟩
theorem ch_step {ops : List Int} {sz op : Int} (h : Ch ops sz) (ho : op = 20 ∨ op = 21 ∨ op = 22 ∨ (op = 15 ∧ sz ≠ 1)) : Ch (op :: ops) (if op = 20 then sz + 1 else if op = 15 then sz else sz + 2) := by
  obtain ⟨h1, h2, h3, h4⟩ := h
  have hp := T.fsize_pos (chT ops)
  have hk : ∀ t ∈ [chT ops], Fm 3 t := fun t ht => by simp at ht; subst ht; exact h1
  have hf : Fm 3 (chT (op :: ops)) := Fm.node (by omega) (by omega) (by rcases ho with rfl | rfl | rfl | ⟨rfl, -⟩ <;> simp [wants]) hk
  have hl : (chT (op :: ops)).lit = false := by
    rw [chT, Fm.lit_node (vars := 3) (by omega) hk]
    rcases ho with rfl | rfl | rfl | ⟨rfl, ho⟩
    · rfl
    · rfl
    · rfl
    · simp [h3, ho]
  have hs : (chT (op :: ops)).fsize = if op = 20 then sz + 1 else if op = 15 then sz else sz + 2 := by
    have hl' := hl
    rw [chT] at hl' ⊢
    rw [T.fsize_mk, if_neg (by rw [hl']; decide)]
    rcases ho with rfl | rfl | rfl | ⟨rfl, ho⟩ <;> simp [sizeStep, h2] <;> omega
  refine ⟨hf, hs, ?_, ?_⟩
  · rw [hl]
    refine (decide_eq_false ?_).symm
    rcases ho with rfl | rfl | rfl | ⟨rfl, ho⟩ <;> simp <;> omega
  · rw [chT, T.dp_mk]
    simp [h4]
    omega

set_option maxRecDepth 100000 in
set_option maxHeartbeats 4000000 in
theorem big_walk {l : List Int} (hl : ∀ z ∈ l, (Lit.int .u8 z).wf = true) : PC Try.prog 6 [.sl 1 false (l.map fun z => L.v (.int .u8 z))] (boolL true) := by
  refine pc_of_call (callAt_enter ir6 (by simp) ?_)
  simp
  refine callT_closed shown_any (by simp [mapO, reso]) ?_
  simp
  by_cases h40 : 40 < l.length
  · have k3 : (40 : Int) < l.length := by omega
    have k4 : ¬ (l.length : Int) ≤ 40 := by omega
    simp [k3, k4]
  · have k3 : ¬ (40 : Int) < l.length := by omega
    have k4 : (l.length : Int) ≤ 40 := by omega
    simp [k3, k4]
    refine lwp_loopF (fun x : Nat × List Int × Int => [(0, .sl 1 false (l.map fun z => L.v (.int .u8 z))), (3, boolL true), (4, .ptr 0 0), (5, intL x.2.2), (6, intL x.1)]) (fun x => [some (chL x.2.1)]) (fun x => l.length - x.1)
      (fun x => x.1 ≤ l.length ∧ Ch x.2.1 x.2.2 ∧ x.2.1.length ≤ x.1 ∧ 1 ≤ x.2.2 ∧ x.2.2 ≤ 1 + 2 * x.1) (0, [], 1) ⟨by simp, ch_nil, by simp, by simp, by simp⟩ [] ⟨[0], ?_⟩ ?_
    · simp [chL]
    · rintro ⟨i, ops, sz⟩ ⟨hi, hch, hlen, hs1, hs2⟩
      simp only at hi hch hlen hs1 hs2
      obtain ⟨a, d, hc, hd⟩ := ch_form ops
      by_cases hlt : i < l.length
      · have hz := hl l[i] (List.getElem_mem hlt)
        have q : IntKind.u8.min ≤ l[i] ∧ l[i] ≤ IntKind.u8.max := by simpa [Lit.wf] using hz
        have e1 : IntKind.u8.min = 0 := by decide
        have e2 : IntKind.u8.max = 255 := by decide
        rw [e1, e2] at q
        have hnw : IntKind.i64.wrap ((i : Int) + 1) = ((i + 1 : Nat) : Int) := by rw [wrap_id (by omega) (by omega)]; rfl
        have hr : l[i].tmod 4 = 0 ∨ l[i].tmod 4 = 1 ∨ l[i].tmod 4 = 2 ∨ l[i].tmod 4 = 3 := by
          rw [Int.tmod_eq_emod_of_nonneg q.1]; omega
        have w1 : IntKind.i64.wrap (sz + 1) = sz + 1 := wrap_id (by omega) (by omega)
        have w2 : IntKind.i64.wrap (sz + 2) = sz + 2 := wrap_id (by omega) (by omega)
        have hsd : solid d = true := by rcases hd with rfl | ⟨xs, rfl⟩ <;> simp
        rcases hr with hr | hr | hr | hr
        · simp [hlt, hr, hc, hsd]
          refine ⟨(i + 1, 20 :: ops, sz + 1), ⟨by simp only; omega, by simpa using ch_step (op := 20) hch (by omega), by simp; omega, by simp only; omega, by simp only; omega⟩, by simp only; omega, [2], [0], ?_⟩
          rcases hd with rfl | ⟨xs, rfl⟩ <;> simp [chL, hc, hnw, w1, w2, chunk, List.range, List.range.loop]
        · simp [hlt, hr, hc, hsd]
          refine ⟨(i + 1, 21 :: ops, sz + 2), ⟨by simp only; omega, by simpa using ch_step (op := 21) hch (by omega), by simp; omega, by simp only; omega, by simp only; omega⟩, by simp only; omega, [2], [0], ?_⟩
          rcases hd with rfl | ⟨xs, rfl⟩ <;> simp [chL, hc, hnw, w1, w2, chunk, List.range, List.range.loop]
        · simp [hlt, hr, hc, hsd]
          refine ⟨(i + 1, 22 :: ops, sz + 2), ⟨by simp only; omega, by simpa using ch_step (op := 22) hch (by omega), by simp; omega, by simp only; omega, by simp only; omega⟩, by simp only; omega, [2], [0], ?_⟩
          rcases hd with rfl | ⟨xs, rfl⟩ <;> simp [chL, hc, hnw, w1, w2, chunk, List.range, List.range.loop]
        · by_cases h1 : sz = 1
          · simp [hlt, hr, hc, hsd, h1]
            refine ⟨(i + 1, ops, 1), ⟨by simp only; omega, by subst h1; exact hch, by simp only; omega, by simp only; omega, by simp only; omega⟩, by simp only; omega, [], [0], ?_⟩
            rcases hd with rfl | ⟨xs, rfl⟩ <;> simp [hc, hnw]
          · simp [hlt, hr, hc, hsd, h1]
            refine ⟨(i + 1, 15 :: ops, sz), ⟨by simp only; omega, by simpa using ch_step (op := 15) hch (by omega), by simp; omega, by simp only; omega, by simp only; omega⟩, by simp only; omega, [2], [0], ?_⟩
            rcases hd with rfl | ⟨xs, rfl⟩ <;> simp [chL, hc, hnw, w1, w2, chunk, List.range, List.range.loop]
      · have hil : i = l.length := by omega
        have fa := hch.fm
        have hdp := hch.dp
        have hsz := hch.size
        have sb := ch_sub ops
        rw [hc] at sb
        have p1 := (of_any fa).sub (.cons (sub_tree sb) .nil) (.refl _)
        have p2 := (not_any fa).sub (.cons (sub_tree sb) .nil) (.refl _)
        rw [made_eq fa (by omega), hsz] at p1 p2
        simp [hlt, hc]
        by_cases hs : sz ≤ 24
        · rw [if_pos hs] at p1 p2
          have k1 : ¬ 24 < sz := by omega
          have fb := turnR_fm _ fa false
          have fc := turnR_fm _ fa true
          obtain ⟨b1, b2, b3, b4⟩ := turnR_right _ fa false
          obtain ⟨c1, c2, c3, c4⟩ := turnR_right _ fa true
          have s1 := (turnR_self _ fb b2).2 (by omega)
          have s2 := (turnR_self _ fc c2).2 (by omega)
          rw [b3, hsz] at s1
          rw [c3, hsz] at s2
          have r1 := right_any fb.ok
          have r2 := right_any fc.ok
          have z1 := size_any fb.ok
          have z2 := size_any fc.ok
          rw [b2] at r1
          rw [c2] at r2
          rw [s1] at z1
          rw [s2] at z2
          generalize (chT ops).turnR false = X at *
          generalize (chT ops).turnR true = Y at *
          refine callT_closed p1 (by rcases hd with rfl | ⟨xs, rfl⟩ <;> simp [mapO, reso]) ?_
          simp [toL_cells_length, toL_take, toL_agg, setCells_toL, hc]
          refine callT_closed p2 (by rcases hd with rfl | ⟨xs, rfl⟩ <;> simp [mapO, reso]) ?_
          simp [toL_cells_length, toL_take, toL_agg, setCells_toL, hs, k1]
          refine callT_plain z1 rfl (by simp [mapO, reso_toL]) ?_
          simp [toL_cells_length, toL_take, toL_agg]
          refine callT_plain z2 rfl (by simp [mapO, reso_toL]) ?_
          simp [toL_cells_length, toL_take, toL_agg]
          refine callT_plain r1 rfl (by simp [mapO, reso_toL]) ?_
          simp [toL_cells_length, toL_take, toL_agg]
          refine callT_plain r2 rfl (by simp [mapO, reso_toL]) ?_
          simp
        · rw [if_neg hs] at p1 p2
          have k1 : 24 < sz := by omega
          refine callT_closed p1 (by rcases hd with rfl | ⟨xs, rfl⟩ <;> simp [mapO, reso]) ?_
          simp [toL_cells_length, toL_take, toL_agg, setCells_toL, hc]
          refine callT_closed p2 (by rcases hd with rfl | ⟨xs, rfl⟩ <;> simp [mapO, reso]) ?_
          simp [toL_cells_length, toL_take, toL_agg, setCells_toL, hs, k1]

theorem nnfBig_any (y0 : List (Int)) (h0 : (∀ z ∈ y0, (Lit.int .u8 z).wf = true) ∧ y0.length * 1 ≤ 140737488351232) : PC Try.prog 6 [L.sl 1 false (y0.map fun (z : Int) => L.v (.int .u8 z))] (.v (.bool true)) := big_walk h0.1

end Go.Proofs.Ytaegmmeppkgnkaa
