/- A number of two parts is put as both parts, one behind the other; of a number no bit is lost. -/
import Derived.Test.YtaochjhkgffipaaBitsPk
namespace Go.Proofs.Ytaochjhkgffipaa
open Go Lg

theorem bitsParts_any (y0 : (List (Int)) × (Int)) (h0 : ((∀ z ∈ y0.1, (Lit.int .u8 z).wf = true) ∧ y0.1.length * 1 ≤ 140737488351232) ∧ ((Lit.int .i64 y0.2).wf = true)) (y1 : Int) (h1 : (Lit.int .u32 y1).wf = true) (y2 : Int) (h2 : (Lit.int .u32 y2).wf = true) : PC Try.prog 6 [.agg [L.sl 1 false (y0.1.map fun (z : Int) => L.v (.int .u8 z)), L.v (.int .i64 y0.2)], L.v (.int .u32 y1), L.v (.int .u32 y2)] (.v (.bool true)) := by
  obtain ⟨W, wn⟩ := y0
  obtain ⟨⟨hW, lW⟩, hwn⟩ := h0
  simp only at *
  have bW : ∀ z ∈ W, isByte z := fun z hz => byte_wf (hW z hz)
  obtain ⟨w1, w2⟩ := i64_wf hwn
  obtain ⟨n1, n2⟩ := u32_wf h1
  obtain ⟨hi, rfl⟩ := Int.eq_ofNat_of_zero_le n1
  obtain ⟨m1, m2⟩ := u32_wf h2
  obtain ⟨lo, rfl⟩ := Int.eq_ofNat_of_zero_le m1
  have c1 : IntKind.u64.wrap (hi : Int) = (hi : Int) := by simp [IntKind.wrap, IntKind.signed, IntKind.bits]; omega
  have c2 : IntKind.u64.wrap (lo : Int) = (lo : Int) := by simp [IntKind.wrap, IntKind.signed, IntKind.bits]; omega
  obtain ⟨s, hs⟩ : ∃ s, s = hi * 2 ^ 32 + lo := ⟨_, rfl⟩
  have c3 : IntKind.u64.wrap ((hi : Int) * 4294967296) = ((hi * 4294967296 : Nat) : Int) := by simp [IntKind.wrap, IntKind.signed, IntKind.bits]; omega
  have c4 : IntKind.u64.wrap (((hi * 4294967296 : Nat) : Int) + (lo : Int)) = (s : Int) := by simp [IntKind.wrap, IntKind.signed, IntKind.bits]; omega
  have c5 : IntKind.u64.wrap (IntKind.u64.wrap ((hi : Int) * 4294967296) + (lo : Int)) = (s : Int) := by rw [c3, c4]
  refine pc_of_call (callAt_enter ir6 (by simp) ?_)
  simp
  refine callT_closed shown_any (by simp) ?_
  simp
  by_cases lw : W.length ≤ 100
  rotate_left
  · refine callT_closed (few_any (B := W) (N := wn)) (by simp) ?_
    simp [lw]
  refine callT_closed (few_any (B := W) (N := wn)) (by simp) ?_
  simp [lw]
  refine callT_closed (rightA_any (B := W) (N := wn) bW (by omega) w2) (by simp) ?_
  simp
  cases hv : rightV W wn
  · simp
  obtain ⟨l, rfl, rfl⟩ := right_list bW (rightV_iff.1 hv)
  have hl : l.length ≤ 800 := by simp at lw; omega
  have wh : wid hi ≤ 32 := (wid_le (by omega)).2 (by omega)
  have wl : wid lo ≤ 32 := (wid_le (by omega)).2 (by omega)
  have ws : wid s ≤ 64 := (wid_le (by omega)).2 (by omega)
  obtain ⟨a, ea, la, ha⟩ := putOk (l := l) (n := hi) (w := 32) (by omega) (by omega) (by omega) wh
  obtain ⟨b, eb, lb, hb⟩ := putOk (l := a) (n := lo) (w := 32) (by omega) (by omega) (by omega) wl
  obtain ⟨c, ec, lc, hc⟩ := putOk (l := l) (n := s) (w := 64) (by omega) (by omega) (by omega) ws
  have e : c = b := by rw [ec, eb, ea, hs, numB_two (a := 32) (by omega), List.append_assoc]
  subst e
  obtain ⟨d, ed, ld, hd⟩ := putOk (l := l) (n := hi) (w := wid hi) (by omega) (by omega) (by omega) (by omega)
  simp [c1]
  refine callT_closed ha (by simp) ?_
  simp [c2]
  refine callT_closed hb (by simp) ?_
  simp [c1, c2, c5]
  refine callT_closed hc (by simp) ?_
  simp [c1]
  refine callT_closed (wide_any (n := hi) (by omega)) (by simp) ?_
  simp [c1]
  refine callT_closed hd (by simp) ?_
  simp [c1]
  have hsub : IntKind.i64.wrap ((wid hi : Int) - 1) = (wid hi : Int) - 1 := IntWalk.i64_in _ ⟨by omega, by omega⟩
  rw [hsub]
  by_cases h0 : wid hi = 0
  · have hp := put_pk (l := l) (n := hi) (wide := (wid hi : Int) - 1) (by omega) (by omega)
    rw [show putP l hi ((wid hi : Int) - 1) = (l, 1) by unfold putP; rw [if_pos (by omega)]] at hp
    refine callT_closed hp (by simp) ?_
    simp
    refine callT_closed (sameA_pk (a := c) (b := c)) (by simp) ?_
    simp [h0]
  · have hp := put_pk (l := l) (n := hi) (wide := (wid hi : Int) - 1) (by omega) (by omega)
    rw [show putP l hi ((wid hi : Int) - 1) = (l, 5) by unfold putP; rw [if_neg (by omega), if_pos (by omega)]] at hp
    refine callT_closed hp (by simp) ?_
    simp
    refine callT_closed (sameA_pk (a := c) (b := c)) (by simp) ?_
    simp [h0]

end Go.Proofs.Ytaochjhkgffipaa
