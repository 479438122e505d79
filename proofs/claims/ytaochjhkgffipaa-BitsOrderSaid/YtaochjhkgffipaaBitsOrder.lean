/- Of two numbers put in as many bits from the beginning on the lesser one's bytes come first. -/
import Derived.Test.YtaochjhkgffipaaBitsPk
namespace Go.Proofs.Ytaochjhkgffipaa
open Go Lg

theorem bitsOrder_any (y0 : Int) (h0 : (Lit.int .u64 y0).wf = true) (y1 : Int) (h1 : (Lit.int .u64 y1).wf = true) (y2 : Int) (h2 : (Lit.int .u8 y2).wf = true) : PC Try.prog 7 [L.v (.int .u64 y0), L.v (.int .u64 y1), L.v (.int .u8 y2)] (.v (.bool true)) := by
  obtain ⟨n1, n2⟩ := u64_wf h0
  obtain ⟨n, rfl⟩ := Int.eq_ofNat_of_zero_le n1
  obtain ⟨m1, m2⟩ := u64_wf h1
  obtain ⟨m, rfl⟩ := Int.eq_ofNat_of_zero_le m1
  obtain ⟨r1, r2⟩ := u8_wf h2
  obtain ⟨wide, rfl⟩ := Int.eq_ofNat_of_zero_le r1
  obtain ⟨k, hk⟩ : ∃ k, k = wide % 65 := ⟨_, rfl⟩
  have hr := rem65 (n := wide) (by omega)
  rw [← hk] at hr
  refine pc_of_call (callAt_enter ir7 (by simp) ?_)
  simp
  refine callT_closed shown_any (by simp) ?_
  simp [hr]
  by_cases hn : wid n ≤ k
  rotate_left
  · obtain ⟨c, hc, hp⟩ := putBad (l := []) (n := n) (wide := (k : Nat)) (by simp) (by omega) (by omega)
    have hc0 : c ≠ 0 := by omega
    refine callT_closed (nilB hp) (by simp) ?_
    simp
    have hq := put_pk (l := []) (n := m) (wide := (k : Nat)) (by simp) (by omega)
    refine callT_closed (nilB hq) (by simp) ?_
    simp [hc0]
  obtain ⟨a, ea, la, ha⟩ := putOk (l := []) (n := n) (w := k) (by simp) (by omega) (by omega) hn
  refine callT_closed (nilB ha) (by simp) ?_
  simp
  by_cases hm : wid m ≤ k
  rotate_left
  · obtain ⟨c, hc, hp⟩ := putBad (l := []) (n := m) (wide := (k : Nat)) (by simp) (by omega) (by omega)
    have hc0 : c ≠ 0 := by omega
    refine callT_closed (nilB hp) (by simp) ?_
    simp [hc0]
  obtain ⟨b, eb, lb, hb⟩ := putOk (l := []) (n := m) (w := k) (by simp) (by omega) (by omega) hm
  refine callT_closed (nilB hb) (by simp) ?_
  have hless := pk_less k (a := a) (b := b) (by simp at la; exact la) (by simp at lb; exact lb)
  have hsame := pk_same (a := a) (b := b) (by omega)
  have na : numOf a = n := by rw [ea, List.nil_append, numOf_numB, Nat.mod_eq_of_lt ((wid_le (by omega)).1 hn)]
  have nb : numOf b = m := by rw [eb, List.nil_append, numOf_numB, Nat.mod_eq_of_lt ((wid_le (by omega)).1 hm)]
  have hinj := numOf_inj (a := a) (b := b) (by omega)
  rw [na, nb] at hless hinj
  unfold u8s at hless hsame
  simp [binStr_lss, hless, hsame, ← hinj]
  omega

end Go.Proofs.Ytaochjhkgffipaa
