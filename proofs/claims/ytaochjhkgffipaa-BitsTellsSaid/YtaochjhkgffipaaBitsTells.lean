/- Which bits are right, which the same, how wide a number is, numbers that are put, and taken, and bits that are joined, are as the document says. -/
import Derived.Test.YtaochjhkgffipaaBitsShown
namespace Go.Proofs.Ytaochjhkgffipaa
open Go Lg

theorem bitsTells_any (y0 : ((List (Int)) × (Int)) × ((List (Int)) × (Int)) × (Int) × (Int) × (Int)) (h0 : (((∀ z ∈ y0.1.1, (Lit.int .u8 z).wf = true) ∧ y0.1.1.length * 1 ≤ 140737488351232) ∧ ((Lit.int .i64 y0.1.2).wf = true)) ∧ (((∀ z ∈ y0.2.1.1, (Lit.int .u8 z).wf = true) ∧ y0.2.1.1.length * 1 ≤ 140737488351232) ∧ ((Lit.int .i64 y0.2.1.2).wf = true)) ∧ ((Lit.int .u64 y0.2.2.1).wf = true) ∧ ((Lit.int .i64 y0.2.2.2.1).wf = true) ∧ ((Lit.int .i64 y0.2.2.2.2).wf = true)) : PC Try.prog 3 [.agg [L.sl 1 false (y0.1.1.map fun (z : Int) => L.v (.int .u8 z)), L.v (.int .i64 y0.1.2), L.sl 1 false (y0.2.1.1.map fun (z : Int) => L.v (.int .u8 z)), L.v (.int .i64 y0.2.1.2), L.v (.int .u64 y0.2.2.1), L.v (.int .i64 y0.2.2.2.1), L.v (.int .i64 y0.2.2.2.2)]] (.v (.bool true)) := by
  obtain ⟨⟨W, wn⟩, ⟨O, on⟩, n, at', wide⟩ := y0
  obtain ⟨⟨⟨hW, lW⟩, hwn⟩, ⟨⟨hO, lO⟩, hon⟩, hn, hat, hwide⟩ := h0
  simp only at *
  have bW : ∀ z ∈ W, isByte z := fun z hz => byte_wf (hW z hz)
  have bO : ∀ z ∈ O, isByte z := fun z hz => byte_wf (hO z hz)
  obtain ⟨n1, n2⟩ := u64_wf hn
  obtain ⟨n, rfl⟩ := Int.eq_ofNat_of_zero_le n1
  have hn64 : n < 2 ^ 64 := by omega
  obtain ⟨w1, w2⟩ := i64_wf hwn
  obtain ⟨o1, o2⟩ := i64_wf hon
  obtain ⟨a1, a2⟩ := i64_wf hat
  refine pc_of_call (callAt_enter ir3 (by simp) ?_)
  simp
  refine callT_closed shown_any (by simp) ?_
  simp
  by_cases lw : W.length ≤ 100
  rotate_left
  · refine callT_closed (few_any (B := W) (N := wn)) (by simp) ?_
    simp [lw]
  refine callT_closed (few_any (B := W) (N := wn)) (by simp) ?_
  simp [lw]
  by_cases lo : O.length ≤ 100
  rotate_left
  · refine callT_closed (few_any (B := O) (N := on)) (by simp) ?_
    simp [lo]
  refine callT_closed (few_any (B := O) (N := on)) (by simp) ?_
  simp [lo]
  refine callT_closed (rightA_any (B := W) (N := wn) bW (by omega) w2) (by simp) ?_
  simp
  refine bcallT_closed (right_any (B := W) (N := wn) bW (by omega) w2) (by simp) ?_
  simp
  refine bcallT_closed (same_any (A := W) (B := O) (N := wn) (M := on) bW bO) (by simp) ?_
  simp
  refine callT_closed (sameA_any (A := W) (B := O) (N := wn) (M := on) bW bO) (by simp) ?_
  simp
  refine bcallT_closed (wide_any hn64) (by simp) ?_
  simp
  refine callT_closed (wideA_any hn64) (by simp) ?_
  simp
  cases hv : rightV W wn
  · simp
  have hR := rightV_iff.1 hv
  obtain ⟨l0, l1, l2⟩ := right_len hR
  obtain ⟨p1, p2, p3, p4⟩ := putV_ok (n := n) (wide := wide) bW hR
  simp
  refine callT_closed (put_any (wide := wide) bW hR (by omega) hn64) (by simp) ?_
  simp
  refine callT_closed (putA_any (wide := wide) bW hR (by omega) hn64) (by simp) ?_
  simp
  refine callT_closed (take_any (at' := at') (wide := wide) bW ⟨l0, l1⟩ (by omega) a2) (by simp) ?_
  simp
  refine callT_closed (takeA_any (at' := at') (wide := wide) bW ⟨l0, l1⟩ (by omega) a2) (by simp) ?_
  simp
  refine callT_closed (sameA_any p1 p1) (by simp) ?_
  simp
  refine callT_closed (rightA_any (B := O) (N := on) bO (by omega) o2) (by simp) ?_
  simp
  cases hv2 : rightV O on
  · simp
  have hR2 := rightV_iff.1 hv2
  obtain ⟨m0, m1, m2⟩ := right_len hR2
  obtain ⟨q1, q2⟩ := joinV_ok hR hR2
  simp
  refine bcallT_closed (join_any bW bO hR hR2 (by omega) (by omega)) (by simp) ?_
  simp
  refine callT_closed (joinA_any bW bO hR hR2 (by omega) (by omega)) (by simp) ?_
  simp
  refine callT_closed (sameA_any q1 q1) (by simp) ?_
  simp

end Go.Proofs.Ytaochjhkgffipaa
