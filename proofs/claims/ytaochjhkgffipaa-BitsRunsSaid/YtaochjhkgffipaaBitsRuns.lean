/- Numbers that are put one behind the other are taken in that order, each in its place, and nothing is left. -/
import Derived.Test.YtaochjhkgffipaaBitsPk
namespace Go.Proofs.Ytaochjhkgffipaa
open Go Lg

/-- Numbers and their widths. -/
theorem pairs_of : ∀ {a b : List Int}, a.length = b.length → (∀ z ∈ a, 0 ≤ z) → (∀ z ∈ b, 0 ≤ z) → ∃ q : List (Nat × Nat), a = q.map (fun p => (p.1 : Int)) ∧ b = q.map (fun p => (p.2 : Int))
  | [], [], _, _, _ => ⟨[], rfl, rfl⟩
  | x :: a, y :: b, h, ha, hb => by
    obtain ⟨q, rfl, rfl⟩ := pairs_of (a := a) (b := b) (by simpa using h) (fun z hz => ha z (by simp [hz])) (fun z hz => hb z (by simp [hz]))
    exact ⟨(x.toNat, y.toNat) :: q, by have := ha x (by simp); simp; omega, by have := hb y (by simp); simp; omega⟩
  | [], _ :: _, h, _, _ => by simp at h
  | _ :: _, [], h, _, _ => by simp at h

def bitsOf (p : Nat × Nat) : List Bool := if wid p.1 ≤ p.2 % 65 then numB p.1 (p.2 % 65) else []
def runsOf (q : List (Nat × Nat)) : List Bool := (q.map bitsOf).flatten
theorem bitsOf_le {p : Nat × Nat} : (bitsOf p).length ≤ 64 := by
  unfold bitsOf
  split
  · simp; omega
  · simp
theorem runsOf_le : ∀ {q : List (Nat × Nat)}, (runsOf q).length ≤ 64 * q.length
  | [] => by simp [runsOf]
  | p :: q => by
    have := runsOf_le (q := q)
    have := bitsOf_le (p := p)
    simp only [runsOf, List.map_cons, List.flatten_cons, List.length_append, List.length_cons] at *
    omega
theorem runsOf_snoc {q : List (Nat × Nat)} {i : Nat} {p : Nat × Nat} (h : q[i]? = some p) : runsOf (q.take (i + 1)) = runsOf (q.take i) ++ bitsOf p := by
  unfold runsOf
  rw [List.take_add_one, h]
  simp
theorem runsOf_split {q : List (Nat × Nat)} {i : Nat} {p : Nat × Nat} (h : q[i]? = some p) : runsOf q = runsOf (q.take i) ++ bitsOf p ++ runsOf (q.drop (i + 1)) := by
  rw [← runsOf_snoc h]
  unfold runsOf
  rw [← List.flatten_append, ← List.map_append, List.take_append_drop]

def runH (q : List (Nat × Nat)) (i : Nat) : Heap := if i = 0 then [some [nilL, intL 0]] else [some [.sl 1 false ((pk (runsOf (q.take i))).map u8L), intL (runsOf (q.take i)).length]]

theorem bitsRuns_any (y0 : List (Int)) (h0 : (∀ z ∈ y0, (Lit.int .u64 z).wf = true) ∧ y0.length * 8 ≤ 140737488351232) (y1 : List (Int)) (h1 : (∀ z ∈ y1, (Lit.int .u8 z).wf = true) ∧ y1.length * 1 ≤ 140737488351232) : PC Try.prog 8 [L.sl 1 false (y0.map fun (z : Int) => L.v (.int .u64 z)), L.sl 1 false (y1.map fun (z : Int) => L.v (.int .u8 z))] (.v (.bool true)) := by
  have l0 : ∀ z ∈ y0, 0 ≤ z ∧ z ≤ 18446744073709551615 := fun z hz => u64_wf (h0.1 z hz)
  have l1 : ∀ z ∈ y1, 0 ≤ z ∧ z ≤ 255 := fun z hz => u8_wf (h1.1 z hz)
  refine pc_of_call (callAt_enter ir8 (by simp) ?_)
  simp
  refine callT_closed shown_any (by simp) ?_
  by_cases hlen : y0.length ≤ 30
  rotate_left
  · simp [show (30 : Int) < y0.length by omega]
  have hlen' : ¬ (30 : Int) < y0.length := by omega
  by_cases heq : y1.length = y0.length
  rotate_left
  · simp [hlen']
    intro e
    omega
  obtain ⟨q, rfl, rfl⟩ := pairs_of heq.symm (fun z hz => (l0 z hz).1) (fun z hz => (l1 z hz).1)
  clear heq h0 h1
  simp only [List.length_map] at hlen hlen'
  simp [hlen']
  refine lwp_loop (fun i : Nat => [(0, .sl 1 false (q.map fun p => u64L p.1)), (1, .sl 1 false (q.map fun p => L.v (.int .u8 p.2))), (4, boolL false), (5, boolL true), (6, .ptr 0 0), (7, intL (runsOf (q.take i)).length), (8, intL i)]) (fun i => runH q i) (fun i => q.length - i) (fun i => i ≤ q.length) 0 (by simp) ⟨[0], by simp [runH, runsOf, Function.comp_def]⟩ ?_
  intro i hi
  by_cases h : i < q.length
  · obtain ⟨p, hp⟩ : ∃ p, q[i]? = some p := ⟨_, List.getElem?_eq_getElem h⟩
    have hmem : p ∈ q := List.mem_of_getElem? hp
    have p1 : p.1 < 2 ^ 64 := by have := (l0 (p.1 : Int) (List.mem_map.2 ⟨p, hmem, rfl⟩)).2; omega
    have p2 : p.2 ≤ 255 := by have := (l1 (p.2 : Int) (List.mem_map.2 ⟨p, hmem, rfl⟩)).2; omega
    obtain ⟨k, hk⟩ : ∃ k, k = p.2 % 65 := ⟨_, rfl⟩
    have hr := rem65 p2
    rw [← hk] at hr
    have hlen2 : (runsOf (q.take i)).length ≤ 1920 := by have := runsOf_le (q := q.take i); simp at this; omega
    have hsnoc := runsOf_snoc hp
    have hput : ∃ (c : Int) (a : List Bool), a = runsOf (q.take (i + 1)) ∧ (c = 0 ↔ wid p.1 ≤ k) ∧ (wid p.1 ≤ k → a.length = (runsOf (q.take i)).length + k) ∧ (¬ wid p.1 ≤ k → a = runsOf (q.take i)) ∧ PC Try.prog 18 [pkL (runsOf (q.take i)), u64L p.1, intL (k : Nat)] (.tup [pkL a, intL c]) := by
      by_cases hw : wid p.1 ≤ k
      · obtain ⟨a, ea, la, ha⟩ := putOk (l := runsOf (q.take i)) (n := p.1) (w := k) (by omega) p1 (by omega) hw
        exact ⟨0, a, by rw [hsnoc, bitsOf, if_pos (by omega), ea, hk], by simp [hw], fun _ => la, fun h => absurd hw h, ha⟩
      · obtain ⟨c, hc, ha⟩ := putBad (l := runsOf (q.take i)) (n := p.1) (wide := (k : Nat)) (by omega) p1 (by omega)
        exact ⟨c, _, by rw [hsnoc, bitsOf, if_neg (by omega), List.append_nil], by constructor <;> intro h <;> omega, fun h => absurd h hw, fun _ => rfl, ha⟩
    obtain ⟨c, a, ea, hc, hl, hs, hput⟩ := hput
    obtain ⟨r, hrr⟩ : ∃ r, r = runsOf (q.take i) := ⟨_, rfl⟩
    rw [← hrr] at hput hl hs hlen2
    have hnext : runH q (i + 1) = [some [.sl 1 false ((pk a).map u8L), intL a.length]] := by simp [runH, ea]
    have hadd : wid p.1 ≤ k → IntKind.i64.wrap ((r.length : Int) + (k : Int)) = (a.length : Int) := fun hw => by rw [hl hw, wrap_id (by omega) (by omega)]; simp
    have hg : q[i] = p := by simpa [h] using hp
    by_cases h0 : i = 0
    · have er : r = [] := by rw [hrr, h0]; rfl
      subst h0
      rw [er] at hput hadd hs
      simp only [Nat.zero_add] at ea hnext
      simp [h, hg, hr, runH, show runsOf [] = [] from rfl]
      refine bcallT_closed (nilB hput) (by simp) ?_
      simp [h, hg]
      refine callT_closed (wideA_any p1) (by simp) ?_
      by_cases hw : wid p.1 ≤ k
      · have hc0 := hc.2 hw
        have hadd' := hadd hw
        simp at hadd'
        simp [hc0, hw, hadd']
        exact ⟨1, by omega, by simp only; omega, [0], by simp [← ea, i64w1]⟩
      · have hc0 : ¬ c = 0 := fun e => hw (hc.1 e)
        have ha := hs hw
        rw [ha] at ea
        simp [hc0, hw]
        exact ⟨1, by omega, by simp only; omega, [0], by simp [← ea, ha, i64w1]⟩
    · simp [h, hg, hr, runH, h0, ← hrr]
      refine bcallT_closed hput (by simp) ?_
      simp [h, hg]
      refine callT_closed (wideA_any p1) (by simp) ?_
      by_cases hw : wid p.1 ≤ k
      · have hc0 := hc.2 hw
        simp [hc0, hw, hadd hw, suc64 (show i ≤ 281474976710656 by omega)]
        exact ⟨i + 1, by omega, by simp only; omega, [0], by simp [hnext, ← ea]⟩
      · have hc0 : ¬ c = 0 := fun e => hw (hc.1 e)
        simp [hc0, hw, suc64 (show i ≤ 281474976710656 by omega)]
        exact ⟨i + 1, by omega, by simp only; omega, [0], by simp [hnext, ← ea, hs hw]⟩
  · have e : i = q.length := by omega
    subst e
    clear h hi
    obtain ⟨R, hR⟩ : ∃ R, R = runsOf q := ⟨_, rfl⟩
    have hlenR : R.length ≤ 1920 := by have := runsOf_le (q := q); rw [← hR] at this; omega
    by_cases hq : q = []
    · subst hq
      have hR0 : R = [] := hR
      simp [runH, show runsOf [] = [] from rfl]
      refine lwp_loop (fun _ : Unit => [(0, .sl 1 false []), (1, .sl 1 false []), (4, boolL false), (5, boolL true), (6, .ptr 0 0), (7, intL 0), (12, intL 0), (13, intL 0)]) (fun _ => [some [nilL, intL 0]]) (fun _ => 0) (fun _ => True) () trivial ⟨[0], by simp⟩ ?_
      intro _ _
      simp
      decide
    have hq0 : q.length ≠ 0 := fun e => hq (List.length_eq_zero_iff.1 e)
    simp [runH, hq0, hq, ← hR]
    refine lwp_loop (fun i : Nat => [(0, .sl 1 false (q.map fun p => u64L p.1)), (1, .sl 1 false (q.map fun p => L.v (.int .u8 p.2))), (4, boolL false), (5, boolL true), (6, .ptr 0 0), (7, intL R.length), (12, intL (runsOf (q.take i)).length), (13, intL i)]) (fun _ => [some [.sl 1 false ((pk R).map u8L), intL R.length]]) (fun i => q.length - i) (fun i => i ≤ q.length) 0 (by simp) ⟨[0], by simp [show runsOf [] = [] from rfl]⟩ ?_
    intro i hi
    by_cases h : i < q.length
    · obtain ⟨p, hp⟩ : ∃ p, q[i]? = some p := ⟨_, List.getElem?_eq_getElem h⟩
      have hmem : p ∈ q := List.mem_of_getElem? hp
      have p1 : p.1 < 2 ^ 64 := by have := (l0 (p.1 : Int) (List.mem_map.2 ⟨p, hmem, rfl⟩)).2; omega
      have p2 : p.2 ≤ 255 := by have := (l1 (p.2 : Int) (List.mem_map.2 ⟨p, hmem, rfl⟩)).2; omega
      obtain ⟨k, hk⟩ : ∃ k, k = p.2 % 65 := ⟨_, rfl⟩
      have hr := rem65 p2
      rw [← hk] at hr
      have hg : q[i] = p := by simpa [h] using hp
      have hsnoc := runsOf_snoc hp
      have hsplit := runsOf_split hp
      rw [← hR] at hsplit
      obtain ⟨r, hrr⟩ : ∃ r, r = runsOf (q.take i) := ⟨_, rfl⟩
      obtain ⟨r', hrr'⟩ : ∃ r', r' = runsOf (q.take (i + 1)) := ⟨_, rfl⟩
      rw [← hrr] at hsplit hsnoc
      rw [← hrr'] at hsnoc
      simp [h, hg, hr, ← hrr]
      refine callT_closed (wideA_any p1) (by simp) ?_
      by_cases hw : wid p.1 ≤ k
      · have eb : bitsOf p = numB p.1 k := by rw [bitsOf, ← hk, if_pos hw]
        rw [eb] at hsnoc hsplit
        have hl : r'.length = r.length + k := by rw [hsnoc]; simp
        have hsum : IntKind.i64.wrap ((r.length : Int) + (k : Int)) = (r'.length : Int) := by
          have : r'.length ≤ R.length := by rw [hsplit, ← hsnoc]; simp
          rw [hl, wrap_id (by omega) (by omega)]; simp
        simp [hw, show ¬ k < wid p.1 by omega]
        refine callT_closed (takeBack (l := r) (x := runsOf (q.drop (i + 1))) (n := p.1) (w := k) (b := R) (k := r.length) (by rw [← hsplit]; omega) p1 (by omega) hw hsplit rfl) (by simp) ?_
        simp [h, hg, hsum, suc64 (show i ≤ 281474976710656 by omega)]
        exact ⟨i + 1, by omega, by simp only; omega, [0], by simp [← hrr']⟩
      · have eb : bitsOf p = [] := by rw [bitsOf, ← hk, if_neg hw]
        rw [eb, List.append_nil] at hsnoc
        simp [hw, show k < wid p.1 by omega, suc64 (show i ≤ 281474976710656 by omega)]
        exact ⟨i + 1, by omega, by simp only; omega, [0], by simp [← hrr', hsnoc]⟩
    · have e : i = q.length := by omega
      subst e
      have h7 : IntKind.i64.wrap ((R.length : Int) + 7) = ((R.length + 7 : Nat) : Int) := by rw [wrap_id (by omega) (by omega)]; simp
      simp [← hR]
      rw [h7, show (((R.length + 7 : Nat) : Int)).tdiv 8 = (((R.length + 7) / 8 : Nat) : Int) from (Int.ofNat_tdiv _ _).symm, wrap_id (by omega) (by omega)]
      omega

end Go.Proofs.Ytaochjhkgffipaa
