/- The functions of pairs: tables. -/
import Derived.Test.YthohjhhiphfngaaPairsFn
namespace Go.Proofs.Ythohjhhiphfngaa
open Go Lg

theorem new_any (most : Int) (h0 : 0 ≤ most) (h1 : most ≤ 1048576) : ∃ s, Tab [] s ∧ PC Try.prog 8 [intL most] (.tup [tabL most [] s, intL 0]) := by
  refine ⟨List.replicate 8 0, tab_nil, ?_⟩
  have h := new_tab ir13 most h0 h1
  refine pc_of_call (callAt_enter ir8 (by simp) ?_)
  simp
  refine callT_closed h rfl ?_
  simp

theorem new_bad : PC Try.prog 8 [intL (-1)] (.tup [.agg [.v (.int .i64 0), .v (.slice none 0 0), .v (.slice none 0 0)], intL 1]) := by
  have h : PC Try.prog 13 [intL (-1)] (.tup [.agg [.v (.int .i64 0), .v (.slice none 0 0), .v (.slice none 0 0)], intL 1]) := by
    refine pc_of_call (callAt_enter ir13 (by simp) ?_)
    simp
  refine pc_of_call (callAt_enter ir8 (by simp) ?_)
  simp
  refine callT_closed h rfl ?_
  simp

theorem many_any (cap : Int) (keys : List (List Int)) (slots : List Int) : PC Try.prog 12 [tabL cap keys slots] (intL keys.length) := by
  have h := many_tab ir20 cap false false keys slots
  refine pc_of_call (callAt_enter ir12 (by simp) ?_)
  simp
  refine callT_plain h rfl rfl ?_
  simp

theorem find_any (cap : Int) {keys : List (List Int)} {slots : List Int} (ht : Tab keys slots) (a b : Int) :
    PC Try.prog 10 [tabL cap keys slots, u32L a, u32L b] (.tup [intL (if pk a b ∈ keys then (idx keys (pk a b) : Int) else 0), boolL (decide (pk a b ∈ keys))]) := by
  have h := find_tab ir17 ir26 seekF cap false false true ht (pk a b) pk_byte (by simp [pk])
  refine pc_of_call (callAt_enter ir10 (by simp) ?_)
  simp
  refine bcallT_closed (of_any a b) rfl ?_
  simp
  refine bcallT_closed (key_any a b) rfl ?_
  simp
  refine callT_plain h rfl rfl ?_
  simp

theorem ins_any (cap : Int) {keys : List (List Int)} {slots : List Int} (ht : Tab keys slots) (a b : Int) (hn : keys.length + 1 ≤ 1000000) :
    ∃ s, Tab (insK cap keys (pk a b)) s ∧ PC Try.prog 9 [tabL cap keys slots, u32L a, u32L b] (.tup [tabL cap (insK cap keys (pk a b)) s, intL (insI cap keys (pk a b)), boolL (insN cap keys (pk a b)), intL (insE cap keys (pk a b))]) := by
  obtain ⟨s, t, h⟩ := ins_gen insF cap ht (pk a b) pk_byte (by simp [pk]) hn
  refine ⟨s, t, ?_⟩
  have h := h true
  refine pc_of_call (callAt_enter ir9 (by simp) ?_)
  simp
  refine bcallT_closed (of_any a b) rfl ?_
  simp
  refine bcallT_closed (key_any a b) rfl ?_
  simp
  refine bcallT_closed h rfl ?_
  simp

theorem pair_any (cap : Int) (keys : List (List Int)) (slots : List Int) (i : Int) (h0 : 0 ≤ i) (hi : i.toNat < keys.length) {a b : Int} (ha : U32 a) (hb : U32 b) (hk : keys[i.toNat] = pk a b) :
    PC Try.prog 11 [tabL cap keys slots, intL i] (.tup [u32L a, u32L b, intL 0]) := by
  have h := key_tab ir18 ir22 cap false false keys slots i h0 hi (by rw [hk]; simp [pk])
  rw [hk] at h
  have hn := numbers_any a b ha hb
  refine pc_of_call (callAt_enter ir11 (by simp) ?_)
  simp
  refine callT_closed h rfl ?_
  simp [pk] at hn ⊢
  refine callT_plain hn rfl rfl ?_
  simp

theorem pair_bad (cap : Int) (keys : List (List Int)) (slots : List Int) (i : Int) (hi : i < 0 ∨ (keys.length : Int) ≤ i) :
    PC Try.prog 11 [tabL cap keys slots, intL i] (.tup [u32L 0, u32L 0, intL 10]) := by
  have h := key_bad ir18 cap false false keys slots i hi
  refine pc_of_call (callAt_enter ir11 (by simp) ?_)
  simp
  refine callT_closed h rfl ?_
  simp

theorem u1 : U32 1 := by unfold U32; omega
theorem u2 : U32 2 := by unfold U32; omega

set_option maxRecDepth 100000 in
theorem shown_any : PC Try.prog 7 [] (boolL true) := by
  obtain ⟨s0, t0, hnew⟩ := new_any 2 (by omega) (by omega)
  obtain ⟨s1, t1, i1⟩ := ins_any 2 t0 1 2 (by simp)
  have n12 : pk 1 2 ≠ pk 2 1 := by rw [Ne, pk_inj u1 u2 u2 u1]; omega
  have n22 : pk 2 2 ≠ pk 1 2 := by rw [Ne, pk_inj u2 u2 u1 u2]; omega
  have n23 : pk 2 2 ≠ pk 2 1 := by rw [Ne, pk_inj u2 u2 u2 u1]; omega
  generalize hx : pk 1 2 = x at *
  generalize hy : pk 2 1 = y at *
  generalize hz : pk 2 2 = z at *
  have k1 : insK 2 [] x = [x] := by simp [insK]
  rw [k1] at t1 i1
  rw [show insI 2 [] x = 0 by simp [insI], show insN 2 [] x = true by simp [insN], show insE 2 [] x = 0 by simp [insE]] at i1
  obtain ⟨s2, t2, i2⟩ := ins_any 2 t1 2 1 (by simp)
  rw [hy] at t2 i2
  have n12' : ¬ y = x := fun e => n12 e.symm
  have k2 : insK 2 [x] y = [x, y] := by simp [insK, n12']
  rw [k2] at t2 i2
  rw [show insI 2 [x] y = 1 by simp [insI, n12'], show insN 2 [x] y = true by simp [insN, n12'], show insE 2 [x] y = 0 by simp [insE, n12']] at i2
  obtain ⟨s3, t3, i3⟩ := ins_any 2 t2 1 2 (by simp)
  rw [hx] at t3 i3
  rw [show insK 2 [x, y] x = [x, y] by simp [insK], show insI 2 [x, y] x = 0 by simp [insI, idx, List.findIdx_cons], show insN 2 [x, y] x = false by simp [insN], show insE 2 [x, y] x = 0 by simp [insE]] at i3
  obtain ⟨s4, t4, i4⟩ := ins_any 2 t2 2 2 (by simp)
  rw [hz] at t4 i4
  rw [show insK 2 [x, y] z = [x, y] by simp [insK], show insI 2 [x, y] z = 0 by simp [insI, n22, n23], show insN 2 [x, y] z = false by simp [insN], show insE 2 [x, y] z = 7 by simp [insE, n22, n23]] at i4
  have f1 := find_any 2 t2 2 1
  have f2 := find_any 2 t1 2 1
  rw [hy] at f1 f2
  rw [if_pos (by simp), show idx [x, y] y = 1 by simp [idx, List.findIdx_cons, n12], show decide (y ∈ [x, y]) = true by simp] at f1
  rw [if_neg (by simp [n12']), show decide (y ∈ [x]) = false by simp [n12']] at f2
  have p1 := pair_any (cap := 2) [x, y] s2 1 (by omega) (by simp) u2 u1 (by simp [hy])
  have p2 := pair_bad 2 [x, y] s2 2 (by simp)
  refine pc_of_call (callAt_enter ir7 (by simp) ?_)
  simp
  refine callT_closed hnew rfl ?_
  simp
  refine callT_closed i1 rfl ?_
  simp
  refine callT_closed i2 rfl ?_
  simp
  refine callT_closed i3 rfl ?_
  simp
  refine callT_closed i4 rfl ?_
  simp
  refine callT_plain f1 rfl rfl ?_
  simp
  refine callT_plain f2 rfl rfl ?_
  simp
  refine callT_plain p1 rfl rfl ?_
  simp
  refine callT_plain p2 rfl rfl ?_
  simp
  refine callT_closed new_bad rfl ?_
  simp
  refine callT_plain (many_any 2 [x, y] s2) rfl rfl ?_
  simp

end Go.Proofs.Ythohjhhiphfngaa
