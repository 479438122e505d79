/- Vectors as bytes, by their ranges: of small ranges just so many bytes are vectors as there are vectors. -/
import Derived.Test.YtfdcjcepokekdaaLibSchM
namespace Lg
open Go

/-- How many values a range has. -/
def valN (z : Int × Int) : Nat := (z.2 - z.1).toNat + 1
/-- All vectors of ranges. -/
def allV : List (Int × Int) → List (List Int)
  | [] => [[]]
  | z :: s => (List.range (valN z)).flatMap fun (d : Nat) => (allV s).map fun v => (z.1 + (d : Int)) :: v
def prodN (s : List (Int × Int)) : Nat := (s.map valN).foldr (· * ·) 1
theorem allV_length : ∀ {s : List (Int × Int)}, (allV s).length = prodN s
  | [] => rfl
  | z :: s => by
    have ih := allV_length (s := s)
    simp only [allV, prodN, List.map_cons, List.foldr_cons] at *
    have key : ∀ n, ((List.range n).flatMap fun (d : Nat) => (allV s).map fun v => (z.1 + (d : Int)) :: v).length = n * (allV s).length := by
      intro n
      induction n with
      | zero => simp
      | succ n ihn =>
        rw [List.range_succ, List.flatMap_append, List.length_append, ihn, Nat.succ_mul]
        simp
    rw [key, ih]
theorem allV_mem : ∀ {s : List (Int × Int)} {v : List Int}, (∀ z ∈ s, mayP z) → (v ∈ allV s ↔ inV s v = 0)
  | [], v, _ => by
    rw [inV_zero]
    simp [allV, inP]
  | z :: s, v, hm => by
    obtain ⟨h1, h2, h3, h4⟩ := hm z (by simp)
    have ih := fun v => allV_mem (s := s) (v := v) (fun y hy => hm y (by simp [hy]))
    rw [inV_zero]
    simp only [allV, List.mem_flatMap, List.mem_range, List.mem_map]
    constructor
    · rintro ⟨d, hd, u, hu, rfl⟩
      obtain ⟨k1, k2⟩ := inV_zero.1 ((ih u).1 hu)
      refine ⟨by simp [k1], fun p hp => ?_⟩
      simp only [List.zip_cons_cons, List.mem_cons] at hp
      rcases hp with rfl | hp
      · simp only [valN] at hd
        constructor
        · simp only; omega
        · simp only; omega
      · exact k2 p hp
    · rintro ⟨hl, hin⟩
      cases v with
      | nil => simp at hl
      | cons x u =>
        have hx := hin (z, x) (by simp)
        simp only at hx
        refine ⟨(x - z.1).toNat, by simp only [valN]; omega, u, (ih u).2 (inV_zero.2 ⟨by simpa using hl, fun p hp => hin p (by simp [hp])⟩), ?_⟩
        rw [show z.1 + (((x - z.1).toNat : Nat) : Int) = x by omega]
theorem allV_nodup : ∀ {s : List (Int × Int)}, (allV s).Nodup
  | [] => by simp [allV]
  | z :: s => by
    have ih := allV_nodup (s := s)
    rw [allV, List.nodup_iff_pairwise_ne, List.pairwise_flatMap]
    refine ⟨fun d _ => ?_, ?_⟩
    · rw [List.pairwise_map]
      exact ih.imp fun h e => h (List.cons.inj e).2
    · refine List.Pairwise.imp ?_ (List.nodup_iff_pairwise_ne.1 List.nodup_range)
      intro a b hab x hx y hy e
      obtain ⟨u, -, rfl⟩ := List.mem_map.1 hx
      obtain ⟨u', -, rfl⟩ := List.mem_map.1 hy
      have := (List.cons.inj e).1
      exact hab (by omega)

/-- Does a byte decode? -/
def okB (s : List (Int × Int)) (b : Nat) : Bool := decide ((decV s [(b : Int)]).2 = 0)
def byteOf (s : List (Int × Int)) (v : List Int) : Nat := ((encB s v).getD 0 0).toNat
theorem byteOf_spec {s : List (Int × Int)} {v : List Int} (h8 : bitsS s ≤ 8) (h : inV s v = 0) : encB s v = [((byteOf s v : Nat) : Int)] ∧ byteOf s v < 256 := by
  have hl := encB_length (inV_zero.1 h).1
  rw [show bytesS s = 1 by unfold bytesS; omega] at hl
  obtain ⟨x, hx⟩ := List.length_eq_one_iff.1 hl
  have hb := encB_byte (s := s) (v := v) x (by rw [hx]; simp)
  obtain ⟨b1, b2⟩ := hb
  have : byteOf s v = x.toNat := by simp [byteOf, hx]
  exact ⟨by rw [hx, this]; simp; omega, by rw [this]; omega⟩
/-- Just so many bytes are vectors as there are vectors. -/
theorem count_all {s : List (Int × Int)} (hm : ∀ z ∈ s, mayP z) (h8 : bitsS s ≤ 8) : ((List.range 256).filter (okB s)).length = prodN s := by
  rw [← allV_length]
  have hp : ((List.range 256).filter (okB s)).Perm ((allV s).map (byteOf s)) := by
    rw [List.perm_ext_iff_of_nodup]
    · intro b
      simp only [List.mem_filter, List.mem_range, List.mem_map, okB, decide_eq_true_eq]
      constructor
      · rintro ⟨hb, hd⟩
        obtain ⟨d1, d2⟩ := dec_ok hd
        refine ⟨_, (allV_mem hm).2 d1, ?_⟩
        have := (Prod.mk.inj (by rw [← d2, encV, if_pos d1] : (encB s (decV s [(b : Int)]).1, (0 : Int)) = ([(b : Int)], 0))).1
        simp [byteOf, this]
      · rintro ⟨v, hv, rfl⟩
        have h0 := (allV_mem hm).1 hv
        obtain ⟨e1, e2⟩ := byteOf_spec h8 h0
        exact ⟨e2, by rw [← e1, dec_enc hm h0]⟩
    · exact List.nodup_range.filter _
    · refine List.nodup_iff_pairwise_ne.2 (List.pairwise_map.2 ?_)
      refine List.Pairwise.imp_of_mem ?_ (List.nodup_iff_pairwise_ne.1 allV_nodup)
      intro v w hv hw hne e
      have h1 := (allV_mem hm).1 hv
      have h2 := (allV_mem hm).1 hw
      obtain ⟨e1, -⟩ := byteOf_spec h8 h1
      obtain ⟨e2, -⟩ := byteOf_spec h8 h2
      exact hne ((encB_same hm h1 h2).1 (by rw [e1, e2, e]))
  rw [hp.length_eq, List.length_map]

theorem prodN_append {s t : List (Int × Int)} : prodN (s ++ t) = prodN s * prodN t := by
  induction s with
  | nil => simp [prodN]
  | cons z s ih =>
    simp only [prodN, List.cons_append, List.map_cons, List.foldr_cons] at *
    rw [ih, Nat.mul_assoc]
theorem prodN_snoc {s : List (Int × Int)} {i : Nat} {z : Int × Int} (h : s[i]? = some z) : prodN (s.take (i + 1)) = prodN (s.take i) * valN z := by
  rw [List.take_add_one, h, prodN_append]
  simp [prodN]
theorem prodN_le {m : Nat} : ∀ {s : List (Int × Int)}, (∀ z ∈ s, valN z ≤ m) → prodN s ≤ m ^ s.length
  | [], _ => by simp [prodN]
  | z :: s, h => by
    have ih := prodN_le (s := s) (fun y hy => h y (by simp [hy]))
    simp only [prodN, List.map_cons, List.foldr_cons, List.length_cons, Nat.pow_succ] at *
    rw [Nat.mul_comm (m ^ s.length)]
    exact Nat.mul_le_mul (h z (by simp)) ih
/-- How many of the first bytes decode. -/
def cntB (s : List (Int × Int)) (i : Nat) : Nat := ((List.range i).filter (okB s)).length
theorem cntB_succ {s : List (Int × Int)} {i : Nat} : cntB s (i + 1) = cntB s i + (if okB s i = true then 1 else 0) := by
  unfold cntB
  rw [List.range_succ, List.filter_append, List.length_append]
  by_cases h : okB s i = true <;> simp [h]
theorem cntB_le {s : List (Int × Int)} {i : Nat} : cntB s i ≤ i := by
  have := List.length_filter_le (okB s) (List.range i)
  simpa [cntB] using this

end Lg
