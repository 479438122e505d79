/- What is put is taken, in its place, whatever stands ahead of it and behind it; bits stay right; refused, nothing changes. -/
import Derived.Test.YtaochjhkgffipaaBitsPk
namespace Go.Proofs.Ytaochjhkgffipaa
open Go Lg

theorem bitsBack_any (y0 : ((List (Int)) × (Int)) × (Int) × (Int) × (Int) × (Int)) (h0 : (((∀ z ∈ y0.1.1, (Lit.int .u8 z).wf = true) ∧ y0.1.1.length * 1 ≤ 140737488351232) ∧ ((Lit.int .i64 y0.1.2).wf = true)) ∧ ((Lit.int .u64 y0.2.1).wf = true) ∧ ((Lit.int .i64 y0.2.2.1).wf = true) ∧ ((Lit.int .u64 y0.2.2.2.1).wf = true) ∧ ((Lit.int .u8 y0.2.2.2.2).wf = true)) : PC Try.prog 4 [.agg [L.sl 1 false (y0.1.1.map fun (z : Int) => L.v (.int .u8 z)), L.v (.int .i64 y0.1.2), L.v (.int .u64 y0.2.1), L.v (.int .i64 y0.2.2.1), L.v (.int .u64 y0.2.2.2.1), L.v (.int .u8 y0.2.2.2.2)]] (.v (.bool true)) := by
  obtain ⟨⟨W, wn⟩, n, wide, m, more⟩ := y0
  obtain ⟨⟨⟨hW, lW⟩, hwn⟩, hn, hwide, hm, hmore⟩ := h0
  simp only at *
  have bW : ∀ z ∈ W, isByte z := fun z hz => byte_wf (hW z hz)
  obtain ⟨n1, n2⟩ := u64_wf hn
  obtain ⟨n, rfl⟩ := Int.eq_ofNat_of_zero_le n1
  have hn64 : n < 2 ^ 64 := by omega
  obtain ⟨m1, m2⟩ := u64_wf hm
  obtain ⟨m, rfl⟩ := Int.eq_ofNat_of_zero_le m1
  have hm64 : m < 2 ^ 64 := by omega
  obtain ⟨r1, r2⟩ := u8_wf hmore
  obtain ⟨more, rfl⟩ := Int.eq_ofNat_of_zero_le r1
  obtain ⟨w1, w2⟩ := i64_wf hwn
  refine pc_of_call (callAt_enter ir4 (by simp) ?_)
  simp
  refine callT_closed shown_any (by simp) ?_
  simp
  by_cases lw : W.length ≤ 100
  rotate_left
  · refine callT_closed (few_any (B := W) (N := wn)) (by simp) ?_
    simp [lw]
  refine callT_closed (few_any (B := W) (N := wn)) (by simp) ?_
  simp [lw]
  refine callT_closed (rightA_any (B := W) (N := wn) bW (by omega) w2) (by simp) ?_
  simp
  cases hv : rightV W wn
  · simp
  obtain ⟨l, rfl, rfl⟩ := right_list bW (rightV_iff.1 hv)
  have hl : l.length ≤ 800 := by simp at lw; omega
  simp
  by_cases hok : 0 ≤ wide ∧ wide ≤ 64 ∧ (wid n : Int) ≤ wide
  rotate_left
  · obtain ⟨c, hc, hp⟩ := putBad (l := l) (n := n) (wide := wide) (by omega) hn64 (by omega)
    have hc0 : c ≠ 0 := by omega
    refine callT_closed hp (by simp) ?_
    simp
    refine callT_closed (rightA_pk (l := l) (by omega)) (by simp) ?_
    simp [hc0]
    refine callT_closed (sameA_pk (a := l) (b := l)) (by simp) ?_
    simp [hc0]
  obtain ⟨w, rfl⟩ := Int.eq_ofNat_of_zero_le hok.1
  obtain ⟨a, ea, la, hp⟩ := putOk (l := l) (n := n) (w := w) (by omega) hn64 (by omega) (by omega)
  refine callT_closed hp (by simp) ?_
  simp
  refine callT_closed (rightA_pk (l := a) (by omega)) (by simp) ?_
  obtain ⟨k, hk⟩ : ∃ k, k = more % 65 := ⟨_, rfl⟩
  have hr := rem65 (n := more) (by omega)
  rw [← hk] at hr
  simp [hr]
  have hsum : IntKind.i64.wrap ((l.length : Int) + (w : Int)) = (a.length : Nat) := by rw [la, wrap_id (by omega) (by omega)]; simp
  by_cases hf : wid m ≤ k
  · obtain ⟨b, eb, lb, hq⟩ := putOk (l := a) (n := m) (w := k) (by omega) hm64 (by omega) hf
    have hsum2 : IntKind.i64.wrap ((a.length : Int) + (k : Int)) = (b.length : Nat) := by rw [lb, wrap_id (by omega) (by omega)]; simp
    refine callT_closed hq (by simp) ?_
    simp
    refine callT_closed (takeBack (l := l) (x := numB m k) (n := n) (w := w) (b := b) (k := l.length) (by simp; omega) hn64 (by omega) (by omega) (by rw [eb, ea]) rfl) (by simp) ?_
    simp [hsum]
    refine callT_closed (takeBack (l := a) (x := []) (n := m) (w := k) (b := b) (k := a.length) (by simp; omega) hm64 (by omega) hf (by simp [eb]) rfl) (by simp) ?_
    simp [hsum2]
  · obtain ⟨c, hc, hq⟩ := putBad (l := a) (n := m) (wide := (k : Nat)) (by omega) hm64 (by omega)
    have hc0 : c ≠ 0 := by omega
    refine callT_closed hq (by simp) ?_
    simp
    refine callT_closed (takeBack (l := l) (x := []) (n := n) (w := w) (b := a) (k := l.length) (by simp; omega) hn64 (by omega) (by omega) (by simp [ea]) rfl) (by simp) ?_
    simp [hsum]
    refine callT_closed (take_pk (l := a) (at' := (a.length : Nat)) (wide := (k : Nat)) (by omega) (by omega)) (by simp) ?_
    simp [hc0]

end Go.Proofs.Ytaochjhkgffipaa
