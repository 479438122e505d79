/- Going through a vector's rows. -/
import Derived.Test.YtagaakajpblmjaaTreePair
import Derived.Test.YtagaakajpblmjaaTreeFind
namespace Go.Proofs.Ytagaakajpblmjaa
open Go Lg
abbrev tabsL (cap : Int) (T : List (List (List Int) × List Int)) : L := .sl 3 false (T.map (tabL cap))
def numsL (l : List Int) : List L := l.map u32L
abbrev walkR (cap : Int) (T : List (List (List Int) × List Int)) (h : Nat) : List L := [tabsL cap T, .fn (.func 56) [.ptr h 0] []]
section
variable {s : List (Int × Int)} {V : List (List Int)} {T : List (List (List Int) × List Int)} {cap : Int} {H : Heap} {h : Nat}
theorem ask_find (hh : H[h]? = some (some (walkR cap T h))) {r : Nat} {t : List (List Int) × List Int} (ht : T[r]? = some t) (hok : Tab t.1 t.2) {a b : Int} (hm : pk a b ∈ t.1) (hl : t.1.length < 4294967296) :
    callAt Try.prog 56 [.ptr h 0, intL r, u32L a, u32L b] H (fun l H' => l = u32L (idx t.1 (pk a b)) ∧ H' = H) := by
  obtain ⟨hg, hgt⟩ : ∃ hg : r < T.length, T[r] = t := List.getElem?_eq_some_iff.1 ht
  have hi := idx_lt hm
  have hf := pfind_any cap hok a b
  rw [if_pos hm, decide_eq_true hm] at hf
  obtain ⟨i, ei⟩ : ∃ i, i = idx t.1 (pk a b) := ⟨_, rfl⟩
  rw [← ei] at hf hi ⊢
  have w : IntKind.u32.wrap (i : Int) = (i : Int) := by simp [IntKind.wrap, IntKind.bits, IntKind.signed]; omega
  refine callAt_enter ir56 (by simp) ?_
  simp [hh, hg, hgt]
  refine callT_plain hf rfl (by simp) ?_
  simp [w]
theorem ask_panics (hh : H[h]? = some (some (walkR cap T h))) {r : Nat} {t : List (List Int) × List Int} (ht : T[r]? = some t) (hok : Tab t.1 t.2) {a b : Int} (hm : pk a b ∉ t.1) :
    callP Try.prog 56 [.ptr h 0, intL r, u32L a, u32L b] H (fun H' => H' = H) := by
  obtain ⟨hg, hgt⟩ : ∃ hg : r < T.length, T[r] = t := List.getElem?_eq_some_iff.1 ht
  have hf := pfind_any cap hok a b
  rw [if_neg hm, decide_eq_false hm] at hf
  refine callP_enter ir56 (by simp) ?_
  refine .inr ?_
  simp
  refine .inr ?_
  simp [hh, hg, hgt]
  refine callT_plain hf rfl (by simp) ?_
  simp
  refine .inl (.inr ?_)
  simp
  exact ⟨fun _ => rfl, fun h => by simp at h⟩
theorem half_find (hV : VecsOk s V) {v : List Int} (hv : inV s v = 0) (hh : H[h]? = some (some (walkR cap T h))) : ∀ {r lo m : Nat}, OkSeg s V pk T r lo m → lo + m ≤ s.length → r + m ≤ 100000 → (m = 1 ∨ seg lo m v ∈ segK V lo m) → ∀ (us : List Int) (c : Bool), us = seg lo m (nums s v) →
    callAt Try.prog 58 [.ptr h 0, intL r, .sl 1 c (us.map u32L)] H (fun l H' => l = u32L (plc s V lo m v) ∧ H' = H) := by
  intro r lo m hok
  have hlv := (inV_zero.1 hv).1
  have hnl := nums_length (s := s) (v := v)
  have hfew := hV.few
  induction hok with
  | @leaf r lo =>
    intro hlm hrm _ us c hus
    have e : us = [num s v lo] := by rw [hus, seg_one (by omega), nums_get (by omega)]
    have hp : plc s V lo 1 v = num s v lo := by simp [plc]
    refine callAt_enter ir58 (by simp) ?_
    simp [e, hp]
  | @node r lo m h2 t hT hk ht hl hr ih1 ih2 =>
    intro hlm hrm hin us c hus
    have hh' := hf_le h2
    obtain ⟨k, hkk⟩ : ∃ k, k = hf m := ⟨_, rfl⟩
    rw [← hkk] at ih1 ih2 hh'
    have hlen : us.length = m := by rw [hus, seg_length (by omega)]
    have hin' : seg lo m v ∈ segK V lo m := by
      rcases hin with h | h
      · omega
      · exact h
    obtain ⟨w, hw, hsw⟩ := segK_iff.1 hin'
    have hi1 : k = 1 ∨ seg lo k v ∈ segK V lo k := .inr (segK_iff.2 ⟨w, hw, by rw [← seg_take (m := m) (v := w) (by omega), hsw, seg_take (by omega)]⟩)
    have hi2 : m - k = 1 ∨ seg (lo + k) (m - k) v ∈ segK V (lo + k) (m - k) := .inr (segK_iff.2 ⟨w, hw, by rw [← seg_drop (v := w), hsw, seg_drop]⟩)
    have c1 := fun c => ih1 (by omega) (by omega) hi1 (us.take k) c (by rw [hus, seg_take (by omega)])
    have c2 := fun c => ih2 (by omega) (by omega) hi2 (us.drop k) c (by rw [hus, seg_drop])
    have hkey : pk (plc s V lo k v) (plc s V (lo + k) (m - k) v) ∈ t.1 := by
      rw [hk, hkk]; exact (rowK_mem pk_inj hV h2 hlm hv).2 hin'
    have hlt : t.1.length < 4294967296 := by
      have := rowK_le (s := s) (V := V) (pk := pk) (lo := lo) (m := m)
      rw [hk]; omega
    have c3 := ask_find hh hT ht hkey hlt
    have hpl : (idx t.1 (pk (plc s V lo k v) (plc s V (lo + k) (m - k) v)) : Int) = plc s V lo m v := by
      rw [hk, hkk]; exact rowK_idx pk_inj hV h2 hlm hv
    rw [hpl] at c3
    have w1 : IntKind.i64.wrap ((m : Int) + 1) = ((m + 1 : Nat) : Int) := by rw [wrap_id (by omega) (by omega)]; omega
    have w2 : IntKind.i64.wrap (((m + 1 : Nat) : Int) / 2) = (k : Int) := by
      have : ((m + 1 : Nat) : Int) / 2 = (k : Int) := by rw [hkk, hf]; rfl
      rw [this, wrap_id (by omega) (by omega)]
    obtain ⟨m1, hm1⟩ : ∃ m1, m1 = m + 1 := ⟨_, rfl⟩
    rw [← hm1] at w1 w2
    have hm2 : ¬ (m : Int) = 1 := by omega
    have hm3 : ¬ m = 1 := by omega
    have crow := rows_any k (by omega)
    obtain ⟨k1, hk1⟩ : ∃ k1, k1 = k - 1 := ⟨_, rfl⟩
    rw [← hk1] at crow
    have w3 : IntKind.i64.wrap ((r : Int) + 1) = ((r + 1 : Nat) : Int) := by rw [wrap_id (by omega) (by omega)]; omega
    have w4 : IntKind.i64.wrap (((r + 1 : Nat) : Int) + (k1 : Int)) = ((r + k : Nat) : Int) := by rw [wrap_id (by omega) (by omega)]; omega
    obtain ⟨r1, hr1⟩ : ∃ r1, r1 = r + 1 := ⟨_, rfl⟩
    obtain ⟨r2, hr2⟩ : ∃ r2, r2 = r + k := ⟨_, rfl⟩
    simp only [← hr1] at c1 w3 w4
    simp only [← hr2] at c2 w4
    refine callAt_enter ir58 (by simp) ?_
    simp [hlen, hm2, hm3, w1, w2, w3, show k ≤ m by omega, ← List.map_take, ← List.map_drop]
    refine callT_of (callAt_mono (c1 _) ?_)
    rintro _ _ ⟨rfl, rfl⟩
    simp [w3]
    refine bcallT_plain crow rfl rfl ?_
    simp [w4, hlen, show k ≤ m by omega, ← List.map_take, ← List.map_drop]
    refine callT_of (callAt_mono (c2 _) ?_)
    rintro _ _ ⟨rfl, rfl⟩
    simp [hh]
    refine callT_of (callAt_mono c3 ?_)
    rintro _ _ ⟨rfl, rfl⟩
    simp
theorem half_panics (hV : VecsOk s V) {v : List Int} (hv : inV s v = 0) (hh : H[h]? = some (some (walkR cap T h))) : ∀ {r lo m : Nat}, OkSeg s V pk T r lo m → lo + m ≤ s.length → r + m ≤ 100000 → 2 ≤ m → seg lo m v ∉ segK V lo m → ∀ (us : List Int) (c : Bool), us = seg lo m (nums s v) →
    callP Try.prog 58 [.ptr h 0, intL r, .sl 1 c (us.map u32L)] H (fun H' => H' = H) := by
  intro r lo m hok
  have hlv := (inV_zero.1 hv).1
  have hnl := nums_length (s := s) (v := v)
  have hfew := hV.few
  induction hok with
  | leaf => intro _ _ h; omega
  | @node r lo m h2 t hT hk ht hl hr ih1 ih2 =>
    intro hlm hrm _ hin us c hus
    have hh' := hf_le h2
    obtain ⟨k, hkk⟩ : ∃ k, k = hf m := ⟨_, rfl⟩
    rw [← hkk] at ih1 ih2 hh' hl hr
    have hlen : us.length = m := by rw [hus, seg_length (by omega)]
    have w1 : IntKind.i64.wrap ((m : Int) + 1) = ((m + 1 : Nat) : Int) := by rw [wrap_id (by omega) (by omega)]; omega
    have w2 : IntKind.i64.wrap (((m + 1 : Nat) : Int) / 2) = (k : Int) := by
      have : ((m + 1 : Nat) : Int) / 2 = (k : Int) := by rw [hkk, hf]; rfl
      rw [this, wrap_id (by omega) (by omega)]
    obtain ⟨m1, hm1⟩ : ∃ m1, m1 = m + 1 := ⟨_, rfl⟩
    rw [← hm1] at w1 w2
    have hm2 : ¬ (m : Int) = 1 := by omega
    have hm3 : ¬ m = 1 := by omega
    have crow := rows_any k (by omega)
    obtain ⟨k1, hk1⟩ : ∃ k1, k1 = k - 1 := ⟨_, rfl⟩
    rw [← hk1] at crow
    have w3 : IntKind.i64.wrap ((r : Int) + 1) = ((r + 1 : Nat) : Int) := by rw [wrap_id (by omega) (by omega)]; omega
    have w4 : IntKind.i64.wrap (((r + 1 : Nat) : Int) + (k1 : Int)) = ((r + k : Nat) : Int) := by rw [wrap_id (by omega) (by omega)]; omega
    obtain ⟨r1, hr1⟩ : ∃ r1, r1 = r + 1 := ⟨_, rfl⟩
    obtain ⟨r2, hr2⟩ : ∃ r2, r2 = r + k := ⟨_, rfl⟩
    have ha : us.take k = seg lo k (nums s v) := by rw [hus, seg_take (by omega)]
    have hb : us.drop k = seg (lo + k) (m - k) (nums s v) := by rw [hus, seg_drop]
    refine callP_enter ir58 (by simp) ?_
    refine .inr ?_
    simp
    refine .inr ?_
    simp
    refine .inr ?_
    simp [hlen, hm2, hm3]
    refine .inr ?_
    simp [hlen, w1, w2]
    by_cases hi1 : k = 1 ∨ seg lo k v ∈ segK V lo k
    rotate_left
    · have c1 := fun c => ih1 (by omega) (by omega) (by omega) (fun e => hi1 (.inr e)) (us.take k) c ha
      simp only [← hr1] at c1 w3
      refine .inl ⟨6, _, rfl, ?_⟩
      simp [hlen, w3, show k ≤ m by omega, ← List.map_take, ← List.map_drop]
      refine ⟨rfl, ?_⟩
      simp [panI, callPD]
      rw [← List.map_take]
      exact c1 _
    have c1 := fun c => half_find hV hv hh hl (by omega) (by omega) hi1 (us.take k) c ha
    simp only [← hr1] at c1 w3 w4
    refine .inr ?_
    simp [hlen, w3, show k ≤ m by omega, ← List.map_take, ← List.map_drop]
    refine callT_of (callAt_mono (c1 _) ?_)
    rintro _ _ ⟨rfl, rfl⟩
    simp
    by_cases hi2 : m - k = 1 ∨ seg (lo + k) (m - k) v ∈ segK V (lo + k) (m - k)
    rotate_left
    · have c2 := fun c => ih2 (by omega) (by omega) (by omega) (fun e => hi2 (.inr e)) (us.drop k) c hb
      simp only [← hr2] at c2 w4
      refine .inl ⟨1, _, rfl, ?_⟩
      simp [hlen, w3]
      refine bcallT_plain crow rfl rfl ?_
      simp [w4, hlen, show k ≤ m by omega, ← List.map_take, ← List.map_drop]
      refine ⟨rfl, ?_⟩
      simp [panI, callPD]
      rw [← List.map_drop]
      exact c2 _
    have c2 := fun c => half_find hV hv hh hr (by omega) (by omega) hi2 (us.drop k) c hb
    simp only [← hr2] at c2 w4
    have hkey : pk (plc s V lo k v) (plc s V (lo + k) (m - k) v) ∉ t.1 := by
      rw [hk, hkk]; exact fun e => hin ((rowK_mem pk_inj hV h2 hlm hv).1 e)
    have c3 := ask_panics hh hT ht hkey
    refine .inr ?_
    simp [w3]
    refine bcallT_plain crow rfl rfl ?_
    simp [w4, hlen, show k ≤ m by omega, ← List.map_take, ← List.map_drop]
    refine callT_of (callAt_mono (c2 _) ?_)
    rintro _ _ ⟨rfl, rfl⟩
    simp
    refine .inl ⟨7, _, rfl, ?_⟩
    simp [hh]
    refine ⟨rfl, ?_⟩
    simp [panI, callPD]
    exact c3
def OkAll (s : List (Int × Int)) (V : List (List Int)) (T : List (List (List Int) × List Int)) : Prop :=
  if s.length = 1 then ∃ t, T[0]? = some t ∧ t.1 = dd (V.map fun v => pk (num s v 0) 0) ∧ Tab t.1 t.2 else OkSeg s V pk T 0 0 s.length
theorem seg_whole {v : List Int} (hl : v.length = s.length) : seg 0 s.length v = v := by rw [← hl]; exact seg_all
theorem plc_all (hV : VecsOk s V) (hn : s.length ≠ 1) {v : List Int} (hl : v.length = s.length) : plc s V 0 s.length v = (idx V v : Nat) := by
  unfold plc
  rw [if_neg hn, segK_all hV, seg_whole hl]
theorem one_inj (hV : VecsOk s V) (h1 : s.length = 1) {v w : List Int} (hv : inV s v = 0) (hw : inV s w = 0) : pk (num s v 0) 0 = pk (num s w 0) 0 ↔ v = w := by
  have l1 := (inV_zero.1 hv).1
  have l2 := (inV_zero.1 hw).1
  have z : U32 0 := ⟨by decide, by decide⟩
  rw [pk_inj (val_in hV.may hv (by omega)) z (val_in hV.may hw (by omega)) z, num_seg (by omega) (by omega)]
  rw [show seg 0 1 v = v by rw [← h1]; exact seg_whole l1, show seg 0 1 w = w by rw [← h1]; exact seg_whole l2]
  exact ⟨fun h => h.1, fun h => ⟨h, rfl⟩⟩
theorem one_mem (hV : VecsOk s V) (h1 : s.length = 1) {v : List Int} (hv : inV s v = 0) : pk (num s v 0) 0 ∈ dd (V.map fun v => pk (num s v 0) 0) ↔ v ∈ V := by
  rw [mem_dd, List.mem_map]
  constructor
  · rintro ⟨w, hw, e⟩; rw [(one_inj hV h1 (hV.inn w hw) hv).1 e] at hw; exact hw
  · intro h; exact ⟨v, h, rfl⟩
theorem one_idx (hV : VecsOk s V) (h1 : s.length = 1) {v : List Int} (hv : inV s v = 0) : idx (dd (V.map fun v => pk (num s v 0) 0)) (pk (num s v 0) 0) = idx V v := by
  have h := dd_par_idx (f := fun v => pk (num s v 0) 0) (g := id) (l := V) (v := v) (fun x hx y hy => one_inj hV h1 (hV.inn x hx) (hV.inn y hy)) fun y hy => one_inj hV h1 (hV.inn y hy) hv
  rw [List.map_id, dd_same hV.nd] at h
  exact h
theorem whole_find (hV : VecsOk s V) {v : List Int} (hv : inV s v = 0) (hh : H[h]? = some (some (walkR cap T h))) (hok : OkAll s V T) (hm : v ∈ V) (c : Bool) :
    callAt Try.prog 36 [.ptr h 0, .sl 1 c ((nums s v).map u32L)] H (fun l H' => l = u32L (idx V v) ∧ H' = H) := by
  have hlv := (inV_zero.1 hv).1
  have hnl := nums_length (s := s) (v := v)
  have hsh := hV.short
  have hlen : (nums s v).length = s.length := by omega
  obtain ⟨us, hus⟩ : ∃ us, us = nums s v := ⟨_, rfl⟩
  rw [← hus] at hlen ⊢
  refine callAt_enter ir36 (by simp) ?_
  by_cases h1 : s.length = 1
  · unfold OkAll at hok
    rw [if_pos h1] at hok
    obtain ⟨t, hT, hk, ht⟩ := hok
    have e : us = [num s v 0] := by
      have := seg_one (lo := 0) (v := nums s v) (by omega)
      rw [nums_get (by omega), show seg 0 1 (nums s v) = nums s v by rw [show (1 : Nat) = (nums s v).length by omega]; exact seg_all] at this
      rw [hus, this]
    have hfew := hV.few
    have hdl := dd_le (l := V.map fun v => pk (num s v 0) 0)
    simp at hdl
    have c1 := ask_find (r := 0) hh hT ht (a := num s v 0) (b := 0) (by rw [hk]; exact (one_mem hV h1 hv).2 hm) (by rw [hk]; omega)
    rw [hk, one_idx hV h1 hv] at c1
    simp [e, hh]
    refine callT_of (callAt_mono c1 ?_)
    rintro _ _ ⟨rfl, rfl⟩
    simp
  · unfold OkAll at hok
    rw [if_neg h1] at hok
    have hs0 : s.length ≠ 0 := by simpa using hV.some
    have c1 := half_find hV hv hh hok (by omega) (by omega) (.inr (by rw [seg_whole hlv, segK_all hV]; exact hm)) us c (by rw [hus, show s.length = (nums s v).length by omega]; exact seg_all.symm)
    rw [plc_all hV h1 hlv] at c1
    have h2 : ¬ (s.length : Int) = 1 := by omega
    simp [hlen, h1, h2]
    refine callT_of (callAt_mono c1 ?_)
    rintro _ _ ⟨rfl, rfl⟩
    simp
theorem whole_panics (hV : VecsOk s V) {v : List Int} (hv : inV s v = 0) (hh : H[h]? = some (some (walkR cap T h))) (hok : OkAll s V T) (hm : v ∉ V) (c : Bool) :
    callP Try.prog 36 [.ptr h 0, .sl 1 c ((nums s v).map u32L)] H (fun H' => H' = H) := by
  have hlv := (inV_zero.1 hv).1
  have hnl := nums_length (s := s) (v := v)
  have hsh := hV.short
  have hlen : (nums s v).length = s.length := by omega
  obtain ⟨us, hus⟩ : ∃ us, us = nums s v := ⟨_, rfl⟩
  rw [← hus] at hlen ⊢
  refine callP_enter ir36 (by simp) ?_
  refine .inr ?_
  by_cases h1 : s.length = 1
  · unfold OkAll at hok
    rw [if_pos h1] at hok
    obtain ⟨t, hT, hk, ht⟩ := hok
    have e : us = [num s v 0] := by
      have := seg_one (lo := 0) (v := nums s v) (by omega)
      rw [nums_get (by omega), show seg 0 1 (nums s v) = nums s v by rw [show (1 : Nat) = (nums s v).length by omega]; exact seg_all] at this
      rw [hus, this]
    have c1 := ask_panics (r := 0) hh hT ht (a := num s v 0) (b := 0) (by rw [hk]; exact fun e => hm ((one_mem hV h1 hv).1 e))
    simp
    refine .inl (.inr ?_)
    simp [e]
    refine ⟨fun _ => .inl ⟨1, _, rfl, ?_⟩, fun h => by simp at h⟩
    simp [hh]
    refine ⟨rfl, ?_⟩
    simp [panI, callPD]
    exact c1
  · unfold OkAll at hok
    rw [if_neg h1] at hok
    have hs0 : s.length ≠ 0 := by simpa using hV.some
    have c1 := half_panics hV hv hh hok (by omega) (by omega) (by omega) (by rw [seg_whole hlv, segK_all hV]; exact hm) us c (by rw [hus, show s.length = (nums s v).length by omega]; exact seg_all.symm)
    have h2 : ¬ (s.length : Int) = 1 := by omega
    simp
    refine .inr ?_
    simp [hlen, h1, h2]
    refine .inl ⟨2, _, rfl, ?_⟩
    simp
    refine ⟨rfl, ?_⟩
    simp [panI]
    exact c1
theorem numbers_any (hm : ∀ z ∈ s, mayP z) {v : List Int} (hv : inV s v = 0) (hs0 : s ≠ []) (hsh : s.length ≤ 1000) : PC Try.prog 37 [fldsL s, vecL v] (.sl 1 false ((nums s v).map u32L)) := by
  have hlv := (inV_zero.1 hv).1
  have hl0 : s.length ≠ 0 := by simpa using hs0
  refine pc_of_call (callAt_enter ir37 (by simp) ?_)
  simp
  refine lwp_loop (fun i : Nat => [(0, fldsL s), (8, vecL v), (9, intL v.length), (5, if i = 0 then nilL else .view 1 0 0 i false), (10, intL i)]) (fun i => if i = 0 then [] else [some (((nums s v).take i).map u32L)]) (fun i => v.length - i) (fun i => i ≤ v.length) 0 (by simp) ⟨[], by simp⟩ ?_
  intro i hi
  have hnl := nums_length (s := s) (v := v)
  by_cases h : i < v.length
  · obtain ⟨z, hz⟩ : ∃ z, v[i]? = some z := ⟨_, List.getElem?_eq_getElem h⟩
    have hzg : v[i] = z := by simpa [h] using hz
    obtain ⟨p, hp⟩ : ∃ p, s[i]? = some p := ⟨_, List.getElem?_eq_getElem (by omega)⟩
    have hpg : s[i] = p := by simpa [show i < s.length by omega] using hp
    have hn : num s v i = z - p.1 := by unfold num; simp [List.getD, hz, hp]
    obtain ⟨b1, b2⟩ := val_in hm hv h
    have hpm := hm p (List.mem_of_getElem? hp)
    have w1 : IntKind.i64.wrap (z - p.1) = num s v i := by rw [← hn]; exact wrap_id (by omega) (by omega)
    have w2 : IntKind.u32.wrap (num s v i) = num s v i := by simp [IntKind.wrap, IntKind.bits, IntKind.signed]; omega
    have ht : (nums s v).take (i + 1) = (nums s v).take i ++ [num s v i] := by
      rw [List.take_succ_eq_append_getElem (by omega)]
      congr 1
      have := nums_get (s := s) (v := v) h
      simp [List.getD, hnl, h] at this
      rw [this]
    have ht' : List.take (i + 1) (List.map u32L (nums s v)) = List.take i (List.map u32L (nums s v)) ++ [u32L (num s v i)] := by rw [← List.map_take, ht, List.map_append, List.map_take]; rfl
    by_cases h0 : i = 0
    · subst h0
      have ht0 : List.take 1 (List.map u32L (nums s v)) = [u32L (num s v 0)] := by simpa using ht'
      simp [h, hzg, hpg, show 0 < s.length by omega, w1, w2, i64w1]
      exact ⟨1, by omega, by simp only; omega, [1], by simp [ht0]⟩
    · simp [h0, h, hzg, hpg, show i < s.length by omega, w1, w2, hnl, show min i v.length = i by omega, suc64 (show i ≤ 281474976710656 by omega)]
      exact ⟨by omega, i + 1, by omega, by simp only; omega, [2], by simp [ht']; simp [← List.map_take]⟩
  · have e : i = v.length := by omega
    have hn0 : i ≠ 0 := by omega
    obtain ⟨us, hus⟩ : ∃ us, us = List.map u32L (nums s v) := ⟨_, rfl⟩
    have hul : us.length = i := by rw [hus]; simp; omega
    have htk : List.take i us = us := List.take_of_length_le (by omega)
    have hcl : ∀ x ∈ us, closed x = true := fun x hx => by
      rw [hus] at hx
      obtain ⟨y, -, rfl⟩ := List.mem_map.1 hx
      simp
    simp only [List.map_take, ← hus]
    simp [h, hn0, htk, hul]
    intro x hx hc
    rw [hcl x hx] at hc
    simp at hc
end
end Go.Proofs.Ytagaakajpblmjaa
