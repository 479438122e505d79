/- Joined bits are taken as they were; in whichever way three are joined; the whole is as long as both. -/
import Derived.Test.YtaochjhkgffipaaBitsPk
namespace Go.Proofs.Ytaochjhkgffipaa
open Go Lg

theorem bitsJoin_any (y0 : ((List (Int)) × (Int)) × ((List (Int)) × (Int)) × ((List (Int)) × (Int)) × (Int) × (Int)) (h0 : (((∀ z ∈ y0.1.1, (Lit.int .u8 z).wf = true) ∧ y0.1.1.length * 1 ≤ 140737488351232) ∧ ((Lit.int .i64 y0.1.2).wf = true)) ∧ (((∀ z ∈ y0.2.1.1, (Lit.int .u8 z).wf = true) ∧ y0.2.1.1.length * 1 ≤ 140737488351232) ∧ ((Lit.int .i64 y0.2.1.2).wf = true)) ∧ (((∀ z ∈ y0.2.2.1.1, (Lit.int .u8 z).wf = true) ∧ y0.2.2.1.1.length * 1 ≤ 140737488351232) ∧ ((Lit.int .i64 y0.2.2.1.2).wf = true)) ∧ ((Lit.int .i64 y0.2.2.2.1).wf = true) ∧ ((Lit.int .u8 y0.2.2.2.2).wf = true)) : PC Try.prog 5 [.agg [L.sl 1 false (y0.1.1.map fun (z : Int) => L.v (.int .u8 z)), L.v (.int .i64 y0.1.2), L.sl 1 false (y0.2.1.1.map fun (z : Int) => L.v (.int .u8 z)), L.v (.int .i64 y0.2.1.2), L.sl 1 false (y0.2.2.1.1.map fun (z : Int) => L.v (.int .u8 z)), L.v (.int .i64 y0.2.2.1.2), L.v (.int .i64 y0.2.2.2.1), L.v (.int .u8 y0.2.2.2.2)]] (.v (.bool true)) := by
  obtain ⟨⟨A, an⟩, ⟨B, bn⟩, ⟨C, cn⟩, at', wide⟩ := y0
  obtain ⟨⟨⟨hA, lA⟩, han⟩, ⟨⟨hB, lB⟩, hbn⟩, ⟨⟨hC, lC⟩, hcn⟩, hat, hwide⟩ := h0
  simp only at *
  have bA : ∀ z ∈ A, isByte z := fun z hz => byte_wf (hA z hz)
  have bB : ∀ z ∈ B, isByte z := fun z hz => byte_wf (hB z hz)
  have bC : ∀ z ∈ C, isByte z := fun z hz => byte_wf (hC z hz)
  obtain ⟨r1, r2⟩ := u8_wf hwide
  obtain ⟨wide, rfl⟩ := Int.eq_ofNat_of_zero_le r1
  obtain ⟨a1, a2⟩ := i64_wf han
  obtain ⟨b1, b2⟩ := i64_wf hbn
  obtain ⟨c1, c2⟩ := i64_wf hcn
  obtain ⟨t1, t2⟩ := i64_wf hat
  refine pc_of_call (callAt_enter ir5 (by simp) ?_)
  simp
  refine callT_closed shown_any (by simp) ?_
  simp
  by_cases la : A.length ≤ 100
  rotate_left
  · refine callT_closed (few_any (B := A) (N := an)) (by simp) ?_
    simp [la]
  refine callT_closed (few_any (B := A) (N := an)) (by simp) ?_
  simp [la]
  by_cases lb : B.length ≤ 100
  rotate_left
  · refine callT_closed (few_any (B := B) (N := bn)) (by simp) ?_
    simp [lb]
  refine callT_closed (few_any (B := B) (N := bn)) (by simp) ?_
  simp [lb]
  by_cases lc : C.length ≤ 100
  rotate_left
  · refine callT_closed (few_any (B := C) (N := cn)) (by simp) ?_
    simp [lc]
  refine callT_closed (few_any (B := C) (N := cn)) (by simp) ?_
  simp [lc]
  refine callT_closed (rightA_any (B := A) (N := an) bA (by omega) a2) (by simp) ?_
  simp
  cases hva : rightV A an
  · simp
  simp
  refine callT_closed (rightA_any (B := B) (N := bn) bB (by omega) b2) (by simp) ?_
  simp
  cases hvb : rightV B bn
  · simp
  simp
  refine callT_closed (rightA_any (B := C) (N := cn) bC (by omega) c2) (by simp) ?_
  simp
  cases hvc : rightV C cn
  · simp
  obtain ⟨a, rfl, rfl⟩ := right_list bA (rightV_iff.1 hva)
  obtain ⟨b, rfl, rfl⟩ := right_list bB (rightV_iff.1 hvb)
  obtain ⟨c, rfl, rfl⟩ := right_list bC (rightV_iff.1 hvc)
  have ha : a.length ≤ 800 := by simp at la; omega
  have hb : b.length ≤ 800 := by simp at lb; omega
  have hc : c.length ≤ 800 := by simp at lc; omega
  simp
  obtain ⟨x, ex, lx, hx⟩ := joinOk (a := a) (b := b) (by omega) (by omega)
  obtain ⟨xc, exc, lxc, hxc⟩ := joinOk (a := x) (b := c) (by omega) (by omega)
  obtain ⟨bc, ebc, lbc, hbc⟩ := joinOk (a := b) (b := c) (by omega) (by omega)
  obtain ⟨abc, eabc, labc, habc⟩ := joinOk (a := a) (b := bc) (by omega) (by omega)
  obtain ⟨a0, ea0, la0, ha0⟩ := joinOk (a := a) (b := []) (by omega) (by simp)
  have e1 : abc = xc := by rw [eabc, ebc, exc, ex, List.append_assoc]
  have e2 : a0 = a := by rw [ea0, List.append_nil]
  subst e1 e2
  refine callT_closed hx (by simp) ?_
  obtain ⟨k, hk⟩ : ∃ k, k = wide % 65 := ⟨_, rfl⟩
  have hr := rem65 (n := wide) (by omega)
  rw [← hk] at hr
  have hsum : IntKind.i64.wrap ((a0.length : Int) + (b.length : Int)) = (x.length : Nat) := by rw [lx, wrap_id (by omega) (by omega)]; simp
  simp [hr]
  refine callT_closed (rightA_pk (l := x) (by omega)) (by simp) ?_
  simp [hsum]
  refine bcallT_closed hxc (by simp) ?_
  simp
  refine bcallT_closed hbc (by simp) ?_
  simp
  refine callT_closed habc (by simp) ?_
  simp
  refine callT_closed (sameA_pk (a := abc) (b := abc)) (by simp) ?_
  simp
  refine bcallT_closed (nilB2 ha0) (by simp) ?_
  simp
  refine callT_closed (sameA_pk (a := a0) (b := a0)) (by simp) ?_
  simp
  intro h0 h1
  rw [show IntKind.i64.wrap ((b.length : Int) - at') = (b.length : Int) - at' from IntWalk.i64_in _ ⟨by omega, by omega⟩]
  intro h2
  obtain ⟨t, rfl⟩ := Int.eq_ofNat_of_zero_le (show 0 ≤ at' by omega)
  refine callT_closed (takeOk (l := b) (a := t) (w := k) (by omega) (by omega) (by omega)) (by simp) ?_
  obtain ⟨g, hg⟩ : ∃ g, g = a0.length + t := ⟨_, rfl⟩
  have hat : IntKind.i64.wrap ((a0.length : Int) + (t : Int)) = (g : Nat) := by rw [wrap_id (by omega) (by omega), hg]; simp
  simp [hat]
  refine callT_closed (takeOk (l := x) (a := g) (w := k) (by omega) (by omega) (by omega)) (by simp) ?_
  have e : (x.drop g).take k = (b.drop t).take k := by rw [ex, hg, ← List.drop_drop, List.drop_left]
  simp [e]

end Go.Proofs.Ytaochjhkgffipaa
