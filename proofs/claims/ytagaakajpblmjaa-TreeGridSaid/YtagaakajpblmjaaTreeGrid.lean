/- All vectors of so many values in each of five places are taken; of each segment there are as many as it has; in whichever order they come. -/
import Derived.Test.YtagaakajpblmjaaTreeIr6
import Derived.Test.YtagaakajpblmjaaTreeShown
import Derived.Test.YtagaakajpblmjaaLibTrG
namespace Go.Proofs.Ytagaakajpblmjaa
open Go Lg
theorem cop {n b : Nat} (h1 : 1 ≤ n) (h4 : n ≤ 3) (hb : b % 2 = 1) (h3 : b % 3 ≠ 0) : Nat.Coprime b n := by
  apply Nat.Coprime.symm
  unfold Nat.Coprime
  rw [Nat.gcd_rec]
  have h : n = 1 ∨ n = 2 ∨ n = 3 := by omega
  rcases h with rfl | rfl | rfl
  · rw [show b % 1 = 0 by omega]; decide
  · rw [hb]; decide
  · have : b % 3 = 1 ∨ b % 3 = 2 := by omega
    rcases this with h | h <;> rw [h] <;> decide
theorem sizes5 {n b m m2 m3 : Nat} (hn : 0 < n) (hc : Nat.Coprime b n) (hm : m = n ^ 5) (h2 : m2 = n * n) (h3 : m3 = n * n * n) : szsV (s5 n) (vecs5 n b m) = [(m : Int), (m3 : Int), (m2 : Int), (m2 : Int)] := by
  subst hm
  unfold szsV
  have e1 := segK5 (lo := 0) (m := 5) hn hc (by omega)
  have e2 := segK5 (lo := 0) (m := 3) hn hc (by omega)
  have e3 := segK5 (lo := 0) (m := 2) hn hc (by omega)
  have e4 := segK5 (lo := 3) (m := 2) hn hc (by omega)
  have p2 : n ^ 2 = m2 := by rw [h2]; simp [Nat.pow_succ]
  have p3 : n ^ 3 = m3 := by rw [h3]; simp [Nat.pow_succ]
  rw [p2] at e3 e4
  rw [p3] at e2
  rw [if_neg (by simp [s5]), show (s5 n).length = 5 from rfl, szs_node (by omega), show hf 5 = 3 from rfl, szs_node (m := 3) (by omega), show hf 3 = 2 from rfl, szs_node (m := 2) (lo := 0) (by omega), show hf 2 = 1 from rfl, szs_node (m := 5 - 3) (by omega), show hf (5 - 3) = 1 from rfl, szs_small (by omega), szs_small (by omega), szs_small (by omega), szs_small (by omega), szs_small (by omega), e1, e2, e3, show 0 + 3 = 3 from rfl, show 5 - 3 = 2 from rfl, e4]
  rfl
abbrev s5L (n : Nat) : L := L.sl 2 true [L.agg [L.v (Value.int IntKind.i64 5), L.v (Value.int IntKind.i64 ((n : Int) + 4))], L.agg [L.v (Value.int IntKind.i64 5), L.v (Value.int IntKind.i64 ((n : Int) + 4))], L.agg [L.v (Value.int IntKind.i64 5), L.v (Value.int IntKind.i64 ((n : Int) + 4))], L.agg [L.v (Value.int IntKind.i64 5), L.v (Value.int IntKind.i64 ((n : Int) + 4))], L.agg [L.v (Value.int IntKind.i64 5), L.v (Value.int IntKind.i64 ((n : Int) + 4))]]
theorem treeGrid_any (y0 : Int) (h0 : (Lit.int .u8 y0).wf = true) (y1 : Int) (h1 : (Lit.int .u8 y1).wf = true) : PC Try.prog 6 [L.v (.int .u8 y0), L.v (.int .u8 y1)] (.v (.bool true)) := by
  have a0 := fl_wf h0
  have a1 := fl_wf h1
  obtain ⟨n, hn⟩ : ∃ n : Nat, (n : Int) = 1 + y0.tmod 3 := ⟨(1 + y0.tmod 3).toNat, by rw [Int.tmod_eq_emod_of_nonneg (by omega)]; omega⟩
  have hn1 : 1 ≤ n ∧ n ≤ 3 := by rw [Int.tmod_eq_emod_of_nonneg (by omega)] at hn; omega
  obtain ⟨b0, hb0⟩ : ∃ b : Nat, (b : Int) = 1 + 2 * (y1.tmod 50) := ⟨(1 + 2 * (y1.tmod 50)).toNat, by rw [Int.tmod_eq_emod_of_nonneg (by omega)]; omega⟩
  have hb1 : b0 % 2 = 1 ∧ b0 ≤ 99 := by rw [Int.tmod_eq_emod_of_nonneg (by omega)] at hb0; omega
  have w0 : IntKind.i64.wrap y0 = y0 := wrap_id (by omega) (by omega)
  have w1 : IntKind.i64.wrap y1 = y1 := wrap_id (by omega) (by omega)
  have w2 : IntKind.i64.wrap (y0.tmod 3) = y0.tmod 3 := by rw [Int.tmod_eq_emod_of_nonneg (by omega)]; exact wrap_id (by omega) (by omega)
  have w3 : IntKind.i64.wrap (y1.tmod 50) = y1.tmod 50 := by rw [Int.tmod_eq_emod_of_nonneg (by omega)]; exact wrap_id (by omega) (by omega)
  have w4 : IntKind.i64.wrap (1 + y0.tmod 3) = (n : Int) := by rw [← hn]; exact wrap_id (by omega) (by omega)
  have w5 : IntKind.i64.wrap (2 * (y1.tmod 50)) = 2 * (y1.tmod 50) := by rw [Int.tmod_eq_emod_of_nonneg (by omega)]; exact wrap_id (by omega) (by omega)
  have w6 : IntKind.i64.wrap (1 + 2 * (y1.tmod 50)) = (b0 : Int) := by rw [← hb0]; exact wrap_id (by omega) (by omega)
  have w7 : IntKind.i64.wrap ((n : Int) + 4) = (n : Int) + 4 := by exact IntWalk.i64_in _ ⟨by omega, by omega⟩
  refine pc_of_call (callAt_enter ir6 (by simp) ?_)
  simp
  refine callT_closed shown_any (by simp) ?_
  simp [w0, w2, w4, w7]
  have hs : (s5 n).length ≤ 100000 := by simp [s5]
  have hmay := may5 (n := n) (by omega) (by omega)
  refine callT_let [1] (by2 (c := true) (newT (s := s5 n) hs 1000 (by omega) (by omega))) (by simp [frz, live, chunk, s5, f5]) (by simp) ?_
  obtain ⟨x0, hx0⟩ : ∃ x0, x0 = tst0 (s5 n) := ⟨_, rfl⟩
  have ok0 : TOk (s5 n) x0 := by rw [hx0]; exact tst0_ok hmay (by simp [s5]) (by simp [s5])
  have V0 : x0.V = [] := by rw [hx0]; rfl
  rw [← hx0]
  obtain ⟨m2, hm2⟩ : ∃ m, m = n * n := ⟨_, rfl⟩
  obtain ⟨m3, hm3⟩ : ∃ m, m = n * n * n := ⟨_, rfl⟩
  obtain ⟨m4, hm4⟩ : ∃ m, m = n * n * n * n := ⟨_, rfl⟩
  obtain ⟨m, hm5⟩ : ∃ m, m = n * n * n * n * n := ⟨_, rfl⟩
  have hm : m = n ^ 5 := by rw [hm5]; simp [Nat.pow_succ]
  have l2 : m2 ≤ 9 := by rw [hm2]; exact Nat.mul_le_mul hn1.2 hn1.2
  have l3 : m3 ≤ 27 := by rw [hm3, ← hm2]; exact Nat.mul_le_mul l2 hn1.2
  have l4 : m4 ≤ 81 := by rw [hm4, ← hm3]; exact Nat.mul_le_mul l3 hn1.2
  have l5 : m ≤ 243 := by rw [hm5, ← hm4]; exact Nat.mul_le_mul l4 hn1.2
  have q2 : IntKind.i64.wrap ((n : Int) * (n : Int)) = (m2 : Int) := by rw [show (n : Int) * (n : Int) = (m2 : Int) by rw [hm2]; simp, wrap_id (by omega) (by omega)]
  have q3 : IntKind.i64.wrap ((m2 : Int) * (n : Int)) = (m3 : Int) := by rw [show (m2 : Int) * (n : Int) = (m3 : Int) by rw [hm3, hm2]; simp, wrap_id (by omega) (by omega)]
  have q4 : IntKind.i64.wrap ((m3 : Int) * (n : Int)) = (m4 : Int) := by rw [show (m3 : Int) * (n : Int) = (m4 : Int) by rw [hm4, hm3]; simp, wrap_id (by omega) (by omega)]
  have q5 : IntKind.i64.wrap ((m4 : Int) * (n : Int)) = (m : Int) := by rw [show (m4 : Int) * (n : Int) = (m : Int) by rw [hm5, hm4]; simp, wrap_id (by omega) (by omega)]
  simp [frzE, frzH, frzRow, frz, chunk, w1, w3, w5, w6, q2, q3, q4, q5]
  refine lwp_loop (fun b : Nat => [(5, boolL true), (6, intL n), (8, s5L n), (9, .ptr 0 0), (10, intL 0), (11, intL m), (12, intL b)]) (fun _ => [some ([tabsL 1000 x0.T, bytL (x0.F.map flB)])]) (fun b => if b % 3 = 0 then 1 else 0) (fun b => b % 2 = 1 ∧ (b ≤ 99 ∨ b ≤ 103 ∧ b % 3 ≠ 0)) b0 (by omega) ⟨[2], by simp⟩ ?_
  rintro b ⟨hb2, hb3⟩
  by_cases hz : b % 3 = 0
  · have e : (b : Int).tmod 3 = 0 := by rw [Int.tmod_eq_emod_of_nonneg (by omega)]; omega
    have w8 : IntKind.i64.wrap ((b : Int) + 2) = ((b + 2 : Nat) : Int) := by rw [wrap_id (by omega) (by omega)]; omega
    simp [e, w8]
    exact ⟨b + 2, ⟨by omega, by omega⟩, by simp [hz]; omega, [0], by simp⟩
  · have e : ¬ (b : Int).tmod 3 = 0 := by rw [Int.tmod_eq_emod_of_nonneg (by omega)]; omega
    have hc := cop hn1.1 hn1.2 hb2 hz
    simp [e]
    refine lwp_loop (fun q : Nat × TSt => [(5, boolL true), (6, intL n), (8, s5L n), (9, .ptr 0 0), (10, intL 0), (11, intL m), (12, intL b), (13, intL q.1)]) (fun q => [some ([tabsL 1000 q.2.T, bytL (q.2.F.map flB)])]) (fun q => m - q.1) (fun q => q.1 ≤ m ∧ TOk (s5 n) q.2 ∧ q.2.V = vecs5 n b q.1) (0, x0) ⟨by omega, ok0, by rw [V0]; rfl⟩ ⟨[0], by simp⟩ ?_
    rintro ⟨i, x⟩ ⟨hi, hx, hVl⟩
    simp only at hi hx hVl
    by_cases h : i < m
    · obtain ⟨p, hp⟩ : ∃ p, p = num5 n b i := ⟨_, rfl⟩
      have hib : i * b ≤ 25029 := by
        have := Nat.mul_le_mul (show i ≤ 243 by omega) (show b ≤ 103 by omega)
        omega
      have v1 : IntKind.i64.wrap ((i : Int) * (b : Int)) = ((i * b : Nat) : Int) := by rw [show (i : Int) * (b : Int) = ((i * b : Nat) : Int) by simp, wrap_id (by omega) (by omega)]
      have hm0 : m ≠ 0 := by omega
      have hn0 : n ≠ 0 := by omega
      have hpm : p < m := by rw [hp, hm]; exact num5_lt (by omega)
      have v2 : ((i * b : Nat) : Int).tmod (m : Int) = (p : Int) := by rw [hp, hm]; rfl
      obtain ⟨p0, e0⟩ : ∃ q, q = p % n := ⟨_, rfl⟩
      obtain ⟨d1, f1⟩ : ∃ q, q = p / n := ⟨_, rfl⟩
      obtain ⟨p1, e1⟩ : ∃ q, q = d1 % n := ⟨_, rfl⟩
      obtain ⟨d2, f2⟩ : ∃ q, q = d1 / n := ⟨_, rfl⟩
      obtain ⟨p2, e2⟩ : ∃ q, q = d2 % n := ⟨_, rfl⟩
      obtain ⟨d3, f3⟩ : ∃ q, q = d2 / n := ⟨_, rfl⟩
      obtain ⟨p3, e3⟩ : ∃ q, q = d3 % n := ⟨_, rfl⟩
      obtain ⟨d4, f4⟩ : ∃ q, q = d3 / n := ⟨_, rfl⟩
      obtain ⟨p4, e4⟩ : ∃ q, q = d4 % n := ⟨_, rfl⟩
      have b1 : d1 ≤ p := by rw [f1]; exact Nat.div_le_self _ _
      have b2 : d2 ≤ d1 := by rw [f2]; exact Nat.div_le_self _ _
      have b3 : d3 ≤ d2 := by rw [f3]; exact Nat.div_le_self _ _
      have b4 : d4 ≤ d3 := by rw [f4]; exact Nat.div_le_self _ _
      have c0 : p0 < n := by rw [e0]; exact Nat.mod_lt _ (by omega)
      have c1 : p1 < n := by rw [e1]; exact Nat.mod_lt _ (by omega)
      have c2 : p2 < n := by rw [e2]; exact Nat.mod_lt _ (by omega)
      have c3 : p3 < n := by rw [e3]; exact Nat.mod_lt _ (by omega)
      have c4 : p4 < n := by rw [e4]; exact Nat.mod_lt _ (by omega)
      have t0 : (p : Int).tmod (n : Int) = (p0 : Int) := by rw [e0]; rfl
      have t1 : (d1 : Int).tmod (n : Int) = (p1 : Int) := by rw [e1]; rfl
      have t2 : (d2 : Int).tmod (n : Int) = (p2 : Int) := by rw [e2]; rfl
      have t3 : (d3 : Int).tmod (n : Int) = (p3 : Int) := by rw [e3]; rfl
      have t4 : (d4 : Int).tmod (n : Int) = (p4 : Int) := by rw [e4]; rfl
      have u1 : (p : Int).tdiv (n : Int) = (d1 : Int) := by rw [f1]; rfl
      have u2 : (d1 : Int).tdiv (n : Int) = (d2 : Int) := by rw [f2]; rfl
      have u3 : (d2 : Int).tdiv (n : Int) = (d3 : Int) := by rw [f3]; rfl
      have u4 : (d3 : Int).tdiv (n : Int) = (d4 : Int) := by rw [f4]; rfl
      have x0' : IntKind.i64.wrap ((p0 : Int) + 5) = (p0 : Int) + 5 := IntWalk.i64_in _ ⟨by omega, by omega⟩
      have x1' : IntKind.i64.wrap ((p1 : Int) + 5) = (p1 : Int) + 5 := IntWalk.i64_in _ ⟨by omega, by omega⟩
      have x2' : IntKind.i64.wrap ((p2 : Int) + 5) = (p2 : Int) + 5 := IntWalk.i64_in _ ⟨by omega, by omega⟩
      have x3' : IntKind.i64.wrap ((p3 : Int) + 5) = (p3 : Int) + 5 := IntWalk.i64_in _ ⟨by omega, by omega⟩
      have x4' : IntKind.i64.wrap ((p4 : Int) + 5) = (p4 : Int) + 5 := IntWalk.i64_in _ ⟨by omega, by omega⟩
      have y1' : IntKind.i64.wrap (d1 : Int) = (d1 : Int) := wrap_id (by omega) (by omega)
      have y2' : IntKind.i64.wrap (d2 : Int) = (d2 : Int) := wrap_id (by omega) (by omega)
      have y3' : IntKind.i64.wrap (d3 : Int) = (d3 : Int) := wrap_id (by omega) (by omega)
      have y4' : IntKind.i64.wrap (d4 : Int) = (d4 : Int) := wrap_id (by omega) (by omega)
      have z0' : IntKind.i64.wrap (p0 : Int) = (p0 : Int) := wrap_id (by omega) (by omega)
      have z1' : IntKind.i64.wrap (p1 : Int) = (p1 : Int) := wrap_id (by omega) (by omega)
      have z2' : IntKind.i64.wrap (p2 : Int) = (p2 : Int) := wrap_id (by omega) (by omega)
      have z3' : IntKind.i64.wrap (p3 : Int) = (p3 : Int) := wrap_id (by omega) (by omega)
      have z4' : IntKind.i64.wrap (p4 : Int) = (p4 : Int) := wrap_id (by omega) (by omega)
      have zp' : IntKind.i64.wrap (p : Int) = (p : Int) := wrap_id (by omega) (by omega)
      have hvec : dg n 5 p = [(p0 : Int) + 5, (p1 : Int) + 5, (p2 : Int) + 5, (p3 : Int) + 5, (p4 : Int) + 5] := by simp only [dg, e0, e1, e2, e3, e4, f1, f2, f3, f4]
      obtain ⟨ib, hib'⟩ : ∃ ib, ib = i * b := ⟨_, rfl⟩
      rw [← hib'] at v1 v2
      have hVl : x.V.length = i := by rw [hVl, vecs5_len]
      have hnew : dg n 5 p ∉ x.V := by rw [‹x.V = _›, hp]; exact vecs5_new (by omega) hc (by rw [← hm]; exact h)
      have hin : inV (s5 n) (dg n 5 p) = 0 := in5 (by omega)
      obtain ⟨y, hy, yV, yF, hcall⟩ := insT (cap := 1000) hx (v := dg n 5 p) (by simp [dg]) (by omega)
      rw [show insC (s5 n) 1000 x.V (dg n 5 p) = true from decide_eq_true ⟨hin, hnew, by omega⟩] at hcall
      have hce : insCE (s5 n) 1000 x.V (dg n 5 p) = 0 := by
        unfold insCE
        rw [if_pos hin, if_neg hnew, if_neg (by omega)]
      rw [hce] at hcall
      have hVy : y.V = vecs5 n b (i + 1) := by
        rw [yV, vecs5_succ, ← hp, insCV, if_pos (show insC (s5 n) 1000 x.V (dg n 5 p) = true from decide_eq_true ⟨hin, hnew, by omega⟩), ‹x.V = _›]
      simp [h, v1, v2, hm0, hn0, t0, t1, t2, t3, t4, u1, u2, u3, u4, x0', x1', x2', x3', x4', y1', y2', y3', y4', z0', z1', z2', z3', z4', zp']
      refine callT_let [1] (by1 (c := true) (c' := true) hcall) (by simp [frz, live, chunk, s5, f5, hvec]) (by simp) ?_
      simp [frzE, frzH, frzRow, frz, chunk, suc64 (show i ≤ 281474976710656 by omega)]
      exact ⟨(i + 1, y), ⟨by simp only; omega, hy, hVy⟩, by simp only; omega, [0], by simp⟩
    · have e : i = m := by omega
      subst e
      have hlen : x.V.length = i := by rw [hVl, vecs5_len]
      have hsz := sizes5 (b := b) hn1.1 hc hm hm2 hm3
      rw [← hVl] at hsz
      have hp := sizesTx (cap := 1000) hx
      rw [hsz] at hp
      simp
      refine callT_closed (manyT (cap := 1000) hx) (by simp) ?_
      simp [hlen]
      refine callT_closed hp (by simp) ?_
      simp [q2, q3]
      have hv : PC Try.prog 22 [vecL [(i : Int), (m3 : Int), (m2 : Int), (m2 : Int)], .sl 1 true [intL i, intL m3, intL m2, intL m2]] (boolL (decide ([(i : Int), (m3 : Int), (m2 : Int), (m2 : Int)] = [(i : Int), (m3 : Int), (m2 : Int), (m2 : Int)]))) :=
        PC.sub (vecA_any _ _ (by simp)) (.cons (.refl _) (.cons subCl .nil)) (.refl _)
      refine callT_let [1] hv (by simp [frz, live, chunk]) (by simp) ?_
      simp [frzE, frzH, frzRow, frz, chunk]
end Go.Proofs.Ytagaakajpblmjaa
