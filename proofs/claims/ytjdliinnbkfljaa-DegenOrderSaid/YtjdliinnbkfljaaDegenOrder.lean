/- ORDER: in what order the sets stand, and how often, does not matter. -/
import Derived.Test.YtjdliinnbkfljaaDegenWord
import Derived.Test.YtjdliinnbkfljaaLibTakesE
namespace Go.Proofs.Ytjdliinnbkfljaa
open Go Lg

theorem right_sets {a : Aut} {sa : List (List Int)} (hm : ∀ s, s ∈ sa ↔ s ∈ a.acc) (h : a.right = true) : ({ a with acc := sa } : Aut).right = true := by
  unfold Aut.right at h ⊢
  simp only [Bool.and_eq_true] at h ⊢
  refine ⟨⟨h.1.1, ?_⟩, ?_⟩
  · exact h.1.2
  · have h2 := List.all_eq_true.1 h.2
    exact List.all_eq_true.2 fun s hs => h2 s ((hm s).1 hs)

theorem ok_sets {a : Aut} {sa : List (List Int)} (h : a.Ok) (hm : ∀ s, s ∈ sa ↔ s ∈ a.acc) (hl : sa.length ≤ 5864062014805) : ({ a with acc := sa } : Aut).Ok :=
  ⟨h.lits, h.lit, h.next, h.row, h.init, hl, fun r hr => h.set r ((hm r).1 hr)⟩

theorem ofOk_sets {a : Aut} {sa : List (List Int)} (h : OfOk a) (hm : ∀ s, s ∈ sa ↔ s ∈ a.acc) (hl : sa.length ≤ 1000) : OfOk { a with acc := sa } :=
  ⟨ok_sets h.ok hm (by omega), right_sets hm h.right, h.few, hl, h.rows, h.init⟩

theorem takesOk_sets {a : Aut} {w : Word} {sa : List (List Int)} (h : TakesOk a w) (hm : ∀ s, s ∈ sa ↔ s ∈ a.acc) (hl : a.init.length + sa.length < 5000) : TakesOk { a with acc := sa } w :=
  ⟨ok_sets h.ok hm (by omega), h.wok, right_sets hm h.right, h.wright, h.few, h.short, h.rows, hl⟩

theorem takesOk_deg2 {a : Aut} {w : Word} (h : OfOk a) (ht : TakesOk a w) (hn : a.lits.length * a.k ≤ 1000) : TakesOk (degenOf a) w := by
  refine ⟨degenOf_ok h, ht.wok, degenOf_right h, ht.wright, by rw [deg_lits]; exact hn, ht.short, fun r hr => ?_, ?_⟩
  · simp only [degenOf, List.mem_map, List.mem_range] at hr
    obtain ⟨x, -, rfl⟩ := hr
    rw [degRow_length]
    exact (ht.rowD _).1
  · have := h.init
    simp only [degenOf, List.length_map, List.length_singleton]; omega

theorem order_walk {a : Aut} (ha : a.Ok) {w : Word} (hw : w.Ok) {u v : Int} (hu : 0 ≤ u ∧ u < 256) (hv : 0 ≤ v ∧ v < 256) : PC Try.prog 6 [.agg (a.cells ++ w.cells ++ [.v (.int .u8 u), .v (.int .u8 v)])] (boolL true) := by
  refine pc_of_call (callAt_enter ir6 (by simp) ?_)
  simp [Aut.cells, Word.cells]
  refine callT_closed shown_any rfl ?_
  simp
  refine callT_plain (few18_any ha 8) rfl (by simp [Aut.L, Aut.cells]) ?_
  cases hf : a.few18 8
  · simp
  · have hfew := few18_facts hf
    by_cases hk1 : a.acc.length < 1
    · have hk1' : (a.acc.length : Int) < 1 := by omega
      have hk1'' : ¬ (1 : Int) ≤ a.acc.length := by omega
      simp [hk1', hk1'']
    · have hk1' : ¬ (a.acc.length : Int) < 1 := by omega
      have hk1'' : (1 : Int) ≤ a.acc.length := by omega
      by_cases hk2 : 4 < a.acc.length
      · have hk2' : (4 : Int) < a.acc.length := by omega
        have hk2'' : ¬ (a.acc.length : Int) ≤ 4 := by omega
        simp [hk1', hk1'', hk2', hk2'']
      · have hk2' : ¬ (4 : Int) < a.acc.length := by omega
        have hk2'' : (a.acc.length : Int) ≤ 4 := by omega
        simp [hk1', hk1'', hk2', hk2'']
        refine callT_plain (right18_any ha) rfl (by simp [Aut.L, Aut.cells]) ?_
        cases hright : a.right
        · simp
        · simp
          refine callT_plain (may18_any ha 3) rfl (by simp [Aut.L, Aut.cells]) ?_
          cases hmay : a.may 3
          · simp
          · simp
            refine callT_plain (right17_any w) rfl (by simp [Word.L, Word.cells]) ?_
            cases hwr : w.right
            · simp
            · simp
              by_cases hvl : 8 < w.v.length
              · have hv' : (8 : Int) < w.v.length := by omega
                have hv'' : ¬ (w.v.length : Int) ≤ 8 := by omega
                simp [hv', hv'']
              · have hv' : ¬ (8 : Int) < w.v.length := by omega
                have hv'' : (w.v.length : Int) ≤ 8 := by omega
                have ho := ofOk_of ha (by omega) hfew hright (by omega)
                have ht := takesOk_of ha (by omega) hfew hright hw hwr (by omega)
                have hl := hfew.lits
                have hkz : ¬ (a.acc.length : Int) = 0 := by omega
                have hkz' : ¬ a.acc = [] := fun e => hk1 (by simp [e])
                obtain ⟨m, rfl⟩ : ∃ m : Nat, u = (m : Int) := ⟨u.toNat, by omega⟩
                obtain ⟨m', rfl⟩ : ∃ m : Nat, v = (m : Int) := ⟨v.toNat, by omega⟩
                have hc1 : IntKind.i64.wrap (m : Int) = (m : Int) := wrap_id (by omega) (by omega)
                have hc2 : IntKind.i64.wrap (m' : Int) = (m' : Int) := wrap_id (by omega) (by omega)
                have hmi : (m : Int).tmod (a.acc.length : Int) = ((m % a.acc.length : Nat) : Int) := by rw [Int.tmod_eq_emod_of_nonneg (by omega)]; simp
                have hmj : (m' : Int).tmod (a.acc.length : Int) = ((m' % a.acc.length : Nat) : Int) := by rw [Int.tmod_eq_emod_of_nonneg (by omega)]; simp
                have hpos : 0 < a.acc.length := by omega
                have hi : m % a.acc.length < a.acc.length := Nat.mod_lt _ hpos
                have hj : m' % a.acc.length < a.acc.length := Nat.mod_lt _ hpos
                obtain ⟨i, hie⟩ : ∃ i, i = m % a.acc.length := ⟨_, rfl⟩
                obtain ⟨j, hje⟩ : ∃ j, j = m' % a.acc.length := ⟨_, rfl⟩
                simp only [← hie, ← hje] at hmi hmj hi hj
                simp [hv', hv'', hkz, hkz', hc1, hc2, hmi, hmj, hi, hj]
                have hal := ha.acc
                refine ⟨by omega, by omega, by omega, by omega, by omega, ?_⟩
                refine callT_plain (takes_any ht) rfl (by simp [Aut.L, Aut.cells, Word.L, Word.cells]) ?_
                have e1 : ((a.acc.map intsL).set i (L.sl 1 false (a.acc[j].map intL))).set j (L.sl 1 false (a.acc[i].map intL)) = ((a.acc.set i a.acc[j]).set j a.acc[i]).map intsL := by simp [List.map_set]
                have e2 : a.acc.map intsL ++ [L.sl 1 false (a.acc[i].map intL)] = (a.acc ++ [a.acc[i]]).map intsL := by simp
                have cl : ((a.acc.set i a.acc[j]).set j a.acc[i]).length = a.acc.length := by simp
                have dl : (a.acc ++ [a.acc[i]]).length = a.acc.length + 1 := by simp
                have cm : ∀ s, s ∈ (a.acc.set i a.acc[j]).set j a.acc[i] ↔ s ∈ a.acc := swap_mem hi hj
                have dm : ∀ s, s ∈ a.acc ++ [a.acc[i]] ↔ s ∈ a.acc := fun s => by
                  simp only [List.mem_append, List.mem_singleton]
                  exact ⟨fun h => h.elim id fun h => h ▸ List.getElem_mem hi, .inl⟩
                rw [e1, e2]
                generalize (a.acc.set i a.acc[j]).set j a.acc[i] = ca at cl cm
                generalize a.acc ++ [a.acc[i]] = da at dl dm
                obtain ⟨c, hce⟩ : ∃ c : Aut, c = { a with acc := ca } := ⟨_, rfl⟩
                obtain ⟨d, hde⟩ : ∃ d : Aut, d = { a with acc := da } := ⟨_, rfl⟩
                have hoc : OfOk c := by rw [hce]; exact ofOk_sets ho cm (by omega)
                have hod : OfOk d := by rw [hde]; exact ofOk_sets ho dm (by omega)
                have htc : TakesOk c w := by rw [hce]; exact takesOk_sets ht cm (by have := hfew.ends; omega)
                have htd : TakesOk d w := by rw [hde]; exact takesOk_sets ht dm (by have := hfew.ends; omega)
                simp
                have hac0 : a.acc ≠ [] := hkz'
                have hcac : c.acc ≠ [] := fun h => hkz' (List.eq_nil_of_length_eq_zero (by rw [← cl]; rw [hce] at h; simp [show ca = [] from h]))
                have hdac : d.acc ≠ [] := fun h => by rw [hde] at h; rw [show da = [] from h] at dl; simp at dl
                have hck : c.lits.length * c.k ≤ 1000 := by
                  have h1 : c.k ≤ 5 := sets_le (by omega) (by rw [hce]; show ca.length ≤ 5; omega)
                  have h2 : c.lits.length ≤ 8 := by rw [hce]; show a.lits.length ≤ 8; omega
                  have := Nat.mul_le_mul h2 h1; omega
                have hdk : d.lits.length * d.k ≤ 1000 := by
                  have h1 : d.k ≤ 5 := sets_le (by omega) (by rw [hde]; show da.length ≤ 5; omega)
                  have h2 : d.lits.length ≤ 8 := by rw [hde]; show a.lits.length ≤ 8; omega
                  have := Nat.mul_le_mul h2 h1; omega
                have hini := hfew.ends
                have tc := takesOk_deg2 hoc htc hck
                have td := takesOk_deg2 hod htd hdk
                have ec : (degenOf c).takes w = a.takes w := by
                  rw [takes_degen hoc htc]
                  rw [hce] at hcac ⊢
                  exact takes_any_sets rfl rfl rfl hac0 hcac cm
                have ed : (degenOf d).takes w = a.takes w := by
                  rw [takes_degen hod htd]
                  rw [hde] at hdac ⊢
                  exact takes_any_sets rfl rfl rfl hac0 hdac dm
                have of1 := of_any hoc
                have of2 := of_any hod
                have b1r := degenOf_right hoc
                have b2r := degenOf_right hod
                have b1o := degenOf_ok hoc
                have b2o := degenOf_ok hod
                generalize degenOf c = b1 at tc ec of1 b1r b1o
                generalize degenOf d = b2 at td ed of2 b2r b2o
                refine callT_freeze [5] of1 (by simp [hce, cl, Aut.L, Aut.cells]) ?_
                simp [Aut.L, Aut.cells]
                refine callT_freeze [9] of2 (by simp [hde, dl, Aut.L, Aut.cells]) ?_
                simp [Aut.L, Aut.cells]
                refine callT_plain (right18_any b1o) rfl (by simp [Aut.L, Aut.cells]) ?_
                simp [b1r]
                refine callT_plain (right18_any b2o) rfl (by simp [Aut.L, Aut.cells]) ?_
                simp [b2r]
                refine callT_plain (takes_any tc) rfl (by simp [Aut.L, Aut.cells, Word.L, Word.cells]) ?_
                simp [ec]
                refine callT_plain (takes_any td) rfl (by simp [Aut.L, Aut.cells, Word.L, Word.cells]) ?_
                simp [ed]

theorem degenOrder_any (y0 : ((List (List (T))) × (List (List (Int))) × (List (Int)) × (List (List (Int)))) × ((List (List (Int))) × (Int)) × (Int) × (Int)) (h0 : (((∀ z ∈ y0.1.1, (∀ zz ∈ z, T.Ok zz) ∧ z.length * 48 ≤ 140737488351232) ∧ y0.1.1.length * 24 ≤ 140737488351232) ∧ ((∀ z ∈ y0.1.2.1, (∀ zz ∈ z, (Lit.int .i64 zz).wf = true) ∧ z.length * 8 ≤ 140737488351232) ∧ y0.1.2.1.length * 24 ≤ 140737488351232) ∧ ((∀ z ∈ y0.1.2.2.1, (Lit.int .i64 z).wf = true) ∧ y0.1.2.2.1.length * 8 ≤ 140737488351232) ∧ ((∀ z ∈ y0.1.2.2.2, (∀ zz ∈ z, (Lit.int .i64 zz).wf = true) ∧ z.length * 8 ≤ 140737488351232) ∧ y0.1.2.2.2.length * 24 ≤ 140737488351232)) ∧ (((∀ z ∈ y0.2.1.1, (∀ zz ∈ z, (Lit.int .i64 zz).wf = true) ∧ z.length * 8 ≤ 140737488351232) ∧ y0.2.1.1.length * 24 ≤ 140737488351232) ∧ ((Lit.int .i64 y0.2.1.2).wf = true)) ∧ ((Lit.int .u8 y0.2.2.1).wf = true) ∧ ((Lit.int .u8 y0.2.2.2).wf = true)) : PC Try.prog 6 [.agg [L.sl 1 false (y0.1.1.map fun (z : List (T)) => L.sl 4 false (z.map fun (z : T) => z.toL)), L.sl 1 false (y0.1.2.1.map fun (z : List (Int)) => L.sl 1 false (z.map fun (z : Int) => L.v (.int .i64 z))), L.sl 1 false (y0.1.2.2.1.map fun (z : Int) => L.v (.int .i64 z)), L.sl 1 false (y0.1.2.2.2.map fun (z : List (Int)) => L.sl 1 false (z.map fun (z : Int) => L.v (.int .i64 z))), L.sl 1 false (y0.2.1.1.map fun (z : List (Int)) => L.sl 1 false (z.map fun (z : Int) => L.v (.int .i64 z))), L.v (.int .i64 y0.2.1.2), L.v (.int .u8 y0.2.2.1), L.v (.int .u8 y0.2.2.2)]] (.v (.bool true)) := by
  obtain ⟨ha, hw, hu, hv⟩ := h0
  have hu' : 0 ≤ y0.2.2.1 ∧ y0.2.2.1 < 256 := by have := hu; simp [Lit.wf, IntKind.min, IntKind.max, IntKind.signed, IntKind.bits] at this; omega
  have hv' : 0 ≤ y0.2.2.2 ∧ y0.2.2.2 < 256 := by have := hv; simp [Lit.wf, IntKind.min, IntKind.max, IntKind.signed, IntKind.bits] at this; omega
  exact order_walk (autOf_ok (y := y0.1) ha) (wordOf_ok (y := y0.2.1) hw) hu' hv'

end Go.Proofs.Ytjdliinnbkfljaa
