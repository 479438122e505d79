/- The automaton with one set takes the same words. -/
import Derived.Test.YtjdliinnbkfljaaLibTakes
import Derived.Test.YtjdliinnbkfljaaLibDegP
import Derived.Test.YtjdliinnbkfljaaLibDegT
namespace Lg
open Go

theorem getD_map_range {α : Type} {f : Nat → α} {n i : Nat} {d : α} (h : i < n) : ((List.range n).map f).getD i d = f i := by
  simp [List.getD, h]
theorem getD_map_range' {α : Type} {f : Nat → α} {n i : Nat} {d : α} (h : ¬ i < n) : ((List.range n).map f).getD i d = d := by
  simp [List.getD, h]

theorem nxf_takes {a : Aut} {w : Word} {x : Nat} (h : x < w.v.length * a.lits.length) : nxf (takesG a w) x = (nodeRow a w x).map Int.toNat := by
  simp [nxf, takesG, nodeRows, List.getD, h]
theorem nxf_takes' {a : Aut} {w : Word} {x : Nat} (h : ¬ x < w.v.length * a.lits.length) : nxf (takesG a w) x = [] := by
  simp [nxf, takesG, nodeRows, List.getD, h]
theorem on_takes {a : Aut} {w : Word} {x : Nat} : on (nodeOns a w (w.v.length * a.lits.length)) x ↔ x < w.v.length * a.lits.length ∧ nodeOn a w x = true := by
  by_cases h : x < w.v.length * a.lits.length
  · simp [on, nodeOns, List.getD, h]
  · simp [on, nodeOns, List.getD, h]
theorem on_setRow {a : Aut} {N k x : Nat} : on (setRow a N k) x ↔ x < N ∧ ((x % a.lits.length : Nat) : Int) ∈ a.acc.getD k [] := by
  by_cases h : x < N
  · simp [on, setRow, List.getD, h]
  · simp [on, setRow, List.getD, h]

theorem takesG_sets {a : Aut} {w : Word} : (takesG a w).sets.length = a.k := by
  unfold Aut.k Aut.sets takesG
  by_cases h : a.acc = [] <;> simp [h]

/-- The node is in a set. -/
def SetA (a : Aut) (w : Word) (k x : Nat) : Prop := x < w.v.length * a.lits.length ∧ ((x % a.lits.length : Nat) : Int) ∈ a.sets.getD k []

theorem sk_takes {a : Aut} {w : Word} {k : Nat} (hk : k < a.k) : Sk (takesG a w) k = SetA a w k := by
  funext x
  refine propext ?_
  by_cases h : a.acc = []
  · have hk0 : k = 0 := by unfold Aut.k Aut.sets at hk; simp [h] at hk; exact hk
    subst hk0
    unfold Sk takesG SetA Aut.sets
    simp only [h, if_true]
    by_cases hx : x < w.v.length * a.lits.length
    · have hn : 0 < a.lits.length := by
        rcases Nat.eq_zero_or_pos a.lits.length with e | e
        · rw [e] at hx; simp at hx
        · exact e
      have hm := Nat.mod_lt x hn
      simp [on, List.getD, hx]
      exact ⟨x % a.lits.length, hm, by simp⟩
    · simp [on, List.getD, hx]
  · have hkk : k < a.acc.length := by unfold Aut.k Aut.sets at hk; simpa [h] using hk
    unfold Sk takesG SetA Aut.sets
    simp only [h, if_false]
    rw [show (setRows a (w.v.length * a.lits.length) a.acc.length).getD k [] = setRow a (w.v.length * a.lits.length) k from getD_map_range hkk]
    exact on_setRow

theorem degen_div {n K x c : Nat} (hK : 0 < K) (hc : c < K) : (x * K + c) / (n * K) = x / n := by
  rw [Nat.mul_comm n K, ← Nat.div_div_eq_div_mul, show (x * K + c) / K = x by rw [Nat.mul_comm, Nat.mul_add_div hK, Nat.div_eq_of_lt hc]; rfl]
theorem degen_mod {n K x c : Nat} (hK : 0 < K) (hc : c < K) : (x * K + c) % (n * K) = x % n * K + c := by
  have h1 := Nat.div_add_mod (x * K + c) (n * K)
  have h2 := Nat.div_add_mod x n
  rw [degen_div hK hc] at h1
  have e : x * K = n * K * (x / n) + x % n * K := by
    conv => lhs; rw [← h2]
    rw [Nat.add_mul, Nat.mul_right_comm]
  omega
theorem degen_lt {V n K x c : Nat} (hc : c < K) : x * K + c < V * (n * K) ↔ x < V * n := by
  rw [← Nat.mul_assoc]
  generalize V * n = N
  constructor
  · intro h
    by_cases hx : x < N
    · exact hx
    · have := Nat.mul_le_mul_right K (Nat.le_of_not_lt hx); omega
  · intro h
    have : x * K + K ≤ N * K := by rw [← Nat.succ_mul]; exact Nat.mul_le_mul_right _ h
    omega

open Classical in
/-- Where the number of the set that is waited for goes. -/
noncomputable def toA (a : Aut) (w : Word) (x c : Nat) : Nat := if SetA a w c x then (c + 1) % a.k else c

theorem toA_eq {a : Aut} {w : Word} {x c : Nat} (hx : x < w.v.length * a.lits.length) : toA a w x c = a.to (x % a.lits.length) c := by
  unfold toA Aut.to SetA
  by_cases h : ((x % a.lits.length : Nat) : Int) ∈ a.sets.getD c []
  · rw [if_pos ⟨hx, h⟩, if_pos h]
  · rw [if_neg (fun e => h e.2), if_neg h]

theorem takes_deg {a : Aut} {w : Word} (h : OfOk a) (ht : TakesOk a w) : Deg (nxf (takesG a w)) (nxf (takesG (degenOf a) w)) (on (nodeOns a w (w.v.length * a.lits.length))) (on (nodeOns (degenOf a) w (w.v.length * (degenOf a).lits.length)))
    (SetA a w) (SetA (degenOf a) w 0) a.k (toA a w) := by
  have hK := h.k.1
  have hln := deg_lits (a := a)
  refine ⟨hK, fun x c hs => if_pos hs, fun x c hs => if_neg hs, fun x c y hc => ?_, fun x c hc => ?_, fun x c hc => ?_⟩
  · by_cases hx : x < w.v.length * a.lits.length
    · have hy : x * a.k + c < w.v.length * (degenOf a).lits.length := by rw [hln]; exact (degen_lt hc).2 hx
      have hn : 0 < a.lits.length := by
        rcases Nat.eq_zero_or_pos a.lits.length with e | e
        · rw [e] at hx; simp at hx
        · exact e
      have hm := Nat.mod_lt x hn
      have hst : x % a.lits.length * a.k + c < a.lits.length * a.k := by
        have : x % a.lits.length * a.k + a.k ≤ a.lits.length * a.k := by rw [← Nat.succ_mul]; exact Nat.mul_le_mul_right _ hm
        omega
      have hqd : (x % a.lits.length * a.k + c) / a.k = x % a.lits.length := by rw [Nat.mul_comm, Nat.mul_add_div hK, Nat.div_eq_of_lt hc]; rfl
      have hqm : (x % a.lits.length * a.k + c) % a.k = c := by rw [Nat.mul_comm, Nat.mul_add_mod, Nat.mod_eq_of_lt hc]
      rw [nxf_takes hx, nxf_takes hy, toA_eq hx]
      have hpos := (ht.rowD (x % a.lits.length)).2
      simp only [nodeRow, hln, degen_div hK hc, degen_mod hK hc, deg_row hst, degRow, hqd, hqm, edgeRow, List.map_map, List.mem_map, Function.comp]
      generalize w.nxt (x / a.lits.length) = j
      generalize a.to (x % a.lits.length) c = t
      have calc' : ∀ p : Int, 0 ≤ p → (((j * (a.lits.length * a.k) : Nat) : Int) + (p * (a.k : Int) + (t : Int))).toNat = (((j * a.lits.length : Nat) : Int) + p).toNat * a.k + t := by
        intro p hp
        obtain ⟨m, rfl⟩ : ∃ m : Nat, p = (m : Int) := ⟨p.toNat, by omega⟩
        have e1 : ((j * (a.lits.length * a.k) : Nat) : Int) + ((m : Int) * (a.k : Int) + (t : Int)) = ((j * (a.lits.length * a.k) + (m * a.k + t) : Nat) : Int) := by simp
        have e2 : ((j * a.lits.length : Nat) : Int) + (m : Int) = ((j * a.lits.length + m : Nat) : Int) := by simp
        rw [e1, e2, Int.toNat_natCast, Int.toNat_natCast, Nat.add_mul, Nat.mul_assoc]
        omega
      constructor
      · rintro ⟨p, hp, rfl⟩
        exact ⟨_, ⟨p, hp, rfl⟩, calc' p (hpos p hp).1⟩
      · rintro ⟨z, ⟨p, hp, rfl⟩, rfl⟩
        exact ⟨p, hp, calc' p (hpos p hp).1⟩
    · have hy : ¬ x * a.k + c < w.v.length * (degenOf a).lits.length := by rw [hln]; exact fun e => hx ((degen_lt hc).1 e)
      rw [nxf_takes' hx, nxf_takes' hy]
      simp
  · rw [on_takes, on_takes, hln, degen_lt hc]
    refine and_congr_right fun hx => ?_
    have hn : 0 < a.lits.length := by
      rcases Nat.eq_zero_or_pos a.lits.length with e | e
      · rw [e] at hx; simp at hx
      · exact e
    have hm := Nat.mod_lt x hn
    have hst : x % a.lits.length * a.k + c < a.lits.length * a.k := by
      have : x % a.lits.length * a.k + a.k ≤ a.lits.length * a.k := by rw [← Nat.succ_mul]; exact Nat.mul_le_mul_right _ hm
      omega
    have hqd : (x % a.lits.length * a.k + c) / a.k = x % a.lits.length := by rw [Nat.mul_comm, Nat.mul_add_div hK, Nat.div_eq_of_lt hc]; rfl
    unfold nodeOn Aut.fits
    rw [hln, degen_div hK hc, degen_mod hK hc, deg_lit hst, hqd]
  · unfold SetA
    rw [hln, degen_lt hc, degen_mod hK hc]
    rw [show (degenOf a).sets.getD 0 [] = degAcc a a.lits.length by simp [Aut.sets, degenOf]]
    constructor
    · rintro ⟨hx, hs⟩
      obtain ⟨q, hq, hqs, he⟩ := mem_degAcc.1 hs
      have he' : x % a.lits.length * a.k + c = q * a.k := by exact_mod_cast he
      have hc0 : c = 0 := by
        have := congrArg (· % a.k) he'
        simp only [Nat.mul_mod_left] at this
        rw [Nat.mul_comm, Nat.mul_add_mod, Nat.mod_eq_of_lt hc] at this
        exact this
      subst hc0
      have hqe : x % a.lits.length = q := Nat.eq_of_mul_eq_mul_right hK (by omega)
      exact ⟨rfl, hx, by rw [hqe]; exact hqs⟩
    · rintro ⟨rfl, hx, hs⟩
      have hn : 0 < a.lits.length := by
        rcases Nat.eq_zero_or_pos a.lits.length with e | e
        · rw [e] at hx; simp at hx
        · exact e
      exact ⟨hx, mem_degAcc.2 ⟨_, Nat.mod_lt x hn, hs, by simp⟩⟩

theorem takes_degen {a : Aut} {w : Word} (h : OfOk a) (ht : TakesOk a w) : (degenOf a).takes w = a.takes w := by
  have hd := takes_deg h ht
  have hK := h.k.1
  have kb : (degenOf a).k = 1 := by simp [Aut.k, Aut.sets, degenOf]
  have hsb : Sk (takesG (degenOf a) w) 0 = SetA (degenOf a) w 0 := sk_takes (by omega)
  rw [Bool.eq_iff_iff, takes_iff, takes_iff]
  constructor
  · rintro ⟨s, hs, Z, hZ, hz⟩
    simp only [degenOf, List.mem_map] at hs
    obtain ⟨q, hq, rfl⟩ := hs
    obtain ⟨m, rfl⟩ : ∃ m : Nat, q = (m : Int) := ⟨q.toNat, by have := h.init' q hq; omega⟩
    have hz' : Z (m * a.k + 0) := by
      have e : ((m : Int) * (a.k : Int)).toNat = m * a.k + 0 := by rw [show (m : Int) * (a.k : Int) = ((m * a.k : Nat) : Int) by simp, Int.toNat_natCast]; rfl
      rwa [e] at hz
    have hdn := hd.down (Z := Z) (fun i hi => ⟨(hZ i hi).1, by have := (hZ i hi).2 0 (by rw [takesG_sets, kb]; omega); rwa [hsb] at this⟩)
    refine ⟨_, hq, _, fun i hi => ⟨(hdn i hi).1, fun k hk => ?_⟩, ⟨0, hK, hz'⟩⟩
    rw [takesG_sets] at hk
    rw [sk_takes hk]
    exact (hdn i hi).2 k hk
  · rintro ⟨q, hq, Z, hZ, hz⟩
    obtain ⟨m, rfl⟩ : ∃ m : Nat, q = (m : Int) := ⟨q.toNat, by have := h.init' q hq; omega⟩
    have hup := hd.up (Z := Z) (fun i hi => ⟨(hZ i hi).1, fun k hk => by have := (hZ i hi).2 k (by rw [takesG_sets]; exact hk); rwa [sk_takes hk] at this⟩)
    refine ⟨(m : Int) * (a.k : Int), by simp only [degenOf, List.mem_map]; exact ⟨_, hq, rfl⟩, fun y => Z (y / a.k), fun i hi => ⟨(hup i hi).1, fun k hk => ?_⟩, ?_⟩
    · rw [takesG_sets, kb] at hk
      rw [show k = 0 by omega, hsb]
      exact (hup i hi).2
    · have e : ((m : Int) * (a.k : Int)).toNat = m * a.k := by rw [show (m : Int) * (a.k : Int) = ((m * a.k : Nat) : Int) by simp, Int.toNat_natCast]
      show Z (((m : Int) * (a.k : Int)).toNat / a.k)
      rw [e, Nat.mul_div_cancel _ hK]
      exact hz

end Lg
