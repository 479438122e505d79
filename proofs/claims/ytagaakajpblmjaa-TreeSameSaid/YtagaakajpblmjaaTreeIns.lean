/- A vector more. -/
import Derived.Test.YtagaakajpblmjaaTreeFn
import Derived.Test.YtagaakajpblmjaaLibCmpC
namespace Go.Proofs.Ytagaakajpblmjaa
open Go Lg
abbrev iG (cap : Int) (T : List (List (List Int) × List Int)) (G : Heap) : Heap := some [.view 3 1 0 T.length false, .fn (.func 35) [.ptr 0 0] []] :: some (flatT cap T) :: G
theorem idx_insK {keys : List (List Int)} {key : List Int} : idx (if key ∈ keys then keys else keys ++ [key]) key = if key ∈ keys then idx keys key else keys.length := by
  by_cases h : key ∈ keys
  · rw [if_pos h, if_pos h]
  · rw [if_neg h, if_neg h, idx_new h]
section
variable {s : List (Int × Int)} {V : List (List Int)} {T : List (List (List Int) × List Int)} {cap : Int}
theorem ask_ins {r : Nat} {t : List (List Int) × List Int} (ht : T[r]? = some t) (hok : Tab t.1 t.2) {a b : Int} (hlen : t.1.length ≤ 100000) (hcap : (t.1.length : Int) < cap) :
    ∃ t' : List (List Int) × List Int, t'.1 = (if pk a b ∈ t.1 then t.1 else t.1 ++ [pk a b]) ∧ Tab t'.1 t'.2 ∧ ∀ G, callAt Try.prog 35 [.ptr 0 0, intL r, u32L a, u32L b] (iG cap T G) (fun l H' => l = u32L (idx t'.1 (pk a b)) ∧ ∃ G', H' = iG cap (T.set r t') G') := by
  obtain ⟨hg, hgt⟩ : ∃ hg : r < T.length, T[r] = t := List.getElem?_eq_some_iff.1 ht
  obtain ⟨sl, h1, h2⟩ := pins_any cap hok a b (by omega)
  rw [insK_new hcap] at h1 h2
  rw [insI_new hcap, ← idx_insK] at h2
  obtain ⟨K, hK⟩ : ∃ K, K = (if pk a b ∈ t.1 then t.1 else t.1 ++ [pk a b]) := ⟨_, rfl⟩
  rw [← hK] at h1 h2 ⊢
  have hKl : K.length ≤ 100001 := by
    rw [hK]
    split
    · omega
    · simp; omega
  have hi := idx_le (l := K) (x := pk a b)
  obtain ⟨i, ei⟩ : ∃ i, i = idx K (pk a b) := ⟨_, rfl⟩
  rw [← ei] at h2 hi
  have w : IntKind.u32.wrap (i : Int) = (i : Int) := by simp [IntKind.wrap, IntKind.bits, IntKind.signed]; omega
  have hfl := flatT_length (cap := cap) (T := T)
  have hfg := flatT_get (cap := cap) ht
  have hfs := flatT_set (cap := cap) (T := T) (i := r) (t := (K, sl)) hg
  refine ⟨(K, sl), hK ▸ rfl, h1, fun G => ?_⟩
  refine callAt_enter ir35 (by simp) ?_
  simp [hfg, hfl]
  refine ⟨hg, by omega, ?_⟩
  refine callT_closed h2 (by simp) ?_
  have hb : r * 3 + 3 ≤ 3 * T.length := by omega
  have hfs2 : (((flatT cap T).set (r * 3) (intL cap)).set (r * 3 + 1) (L.sl 1 false (List.map bytesL K))).set (r * 3 + 1 + 1) (L.sl 1 false (List.map intL sl)) = flatT cap (T.set r (K, sl)) := hfs
  simp [hfl, hg, hb, w, hfs2, ← ei]
theorem half_ins (hV : VecsOk s V) {v : List Int} (hv : inV s v = 0) (hn : v ∉ V) (hfew : V.length < 100000) (hcap : (V.length : Int) < cap) : ∀ (m : Nat) (T : List (List (List Int) × List Int)) (r lo : Nat), OkSeg s V pk T r lo m → 1 ≤ m → lo + m ≤ s.length → r + m ≤ 100000 → ∃ T' : List (List (List Int) × List Int), T'.length = T.length ∧ (∀ i, i < r ∨ r + m ≤ i + 1 → T'[i]? = T[i]?) ∧ OkSeg s (V ++ [v]) pk T' r lo m ∧ ∀ (us : List Int) (c : Bool) (G : Heap), us = seg lo m (nums s v) →
    callAt Try.prog 58 [.ptr 0 0, intL r, .sl 1 c (us.map u32L)] (iG cap T G) (fun l H' => l = u32L (plc s (V ++ [v]) lo m v) ∧ ∃ G', H' = iG cap T' G') := by
  have hlv := (inV_zero.1 hv).1
  have hnl := nums_length (s := s) (v := v)
  have hV' := hV.snoc hv hn hfew
  intro m
  induction m using Nat.strongRecOn with
  | _ m ih =>
    intro T r lo hok hm1 hlm hrm
    by_cases h1 : m = 1
    · subst h1
      refine ⟨T, rfl, fun _ _ => rfl, .leaf, fun us c G hus => ?_⟩
      have e : us = [num s v lo] := by rw [hus, seg_one (by omega), nums_get (by omega)]
      have hp : plc s (V ++ [v]) lo 1 v = num s v lo := by simp [plc]
      refine callAt_enter ir58 (by simp) ?_
      simp [e, hp]
    · cases hok with
      | leaf => omega
      | node h2 t hT hk ht hl hr =>
      have hh' := hf_le h2
      obtain ⟨k, hkk⟩ : ∃ k, k = hf m := ⟨_, rfl⟩
      rw [← hkk] at hh' hl hr
      obtain ⟨T1, t1, t2, t3, c1'⟩ := ih k (by omega) T (r + 1) lo hl (by omega) (by omega) (by omega)
      have hr' : OkSeg s V pk T1 (r + k) (lo + k) (m - k) := hr.congr fun i h1 h3 => t2 i (by omega)
      obtain ⟨T2, u1, u2, u3, c2'⟩ := ih (m - k) (by omega) T1 (r + k) (lo + k) hr' (by omega) (by omega) (by omega)
      have hT2 : T2[r]? = some t := by rw [u2 r (by omega), t2 r (by omega), hT]
      have htl : t.1.length ≤ V.length := by rw [hk]; exact rowK_le
      obtain ⟨t', e1, e2, c3⟩ := ask_ins hT2 ht (a := plc s (V ++ [v]) lo k v) (b := plc s (V ++ [v]) (lo + k) (m - k) v) (by omega) (cap := cap) (by omega)
      have hkey : pk (plc s (V ++ [v]) lo k v) (plc s (V ++ [v]) (lo + k) (m - k) v) = rkey s (V ++ [v]) pk lo m v := by rw [hkk]; rfl
      rw [hkey] at e1 c3
      have e3 : t'.1 = rowK' s (V ++ [v]) pk lo m := by rw [e1, rowK_snoc, hk]
      have hpl : (idx t'.1 (rkey s (V ++ [v]) pk lo m v) : Int) = plc s (V ++ [v]) lo m v := by rw [e3]; exact rowK_idx pk_inj hV' h2 hlm hv
      rw [hpl] at c3
      have hrT : r < T2.length := (List.getElem?_eq_some_iff.1 hT2).1
      refine ⟨T2.set r t', by simp [u1, t1], fun i hi => ?_, ?_, fun us c G hus => ?_⟩
      · have hne : r ≠ i := by omega
        rw [List.getElem?_set_ne hne, u2 i (by omega), t2 i (by omega)]
      · refine .node h2 t' (by simp [hrT]) e3 e2 ?_ ?_
        · rw [← hkk]
          exact t3.congr fun i h1 h3 => by rw [List.getElem?_set_ne (by omega), u2 i (by omega)]
        · rw [← hkk]
          exact u3.congr fun i h1 h3 => by rw [List.getElem?_set_ne (by omega)]
      have hlen : us.length = m := by rw [hus, seg_length (by omega)]
      have w1 : IntKind.i64.wrap ((m : Int) + 1) = ((m + 1 : Nat) : Int) := by rw [wrap_id (by omega) (by omega)]; omega
      have w2 : IntKind.i64.wrap (((m + 1 : Nat) : Int) / 2) = (k : Int) := by
        have : ((m + 1 : Nat) : Int) / 2 = (k : Int) := by rw [hkk, hf]; rfl
        rw [this, wrap_id (by omega) (by omega)]
      obtain ⟨m1, hm1⟩ : ∃ m1, m1 = m + 1 := ⟨_, rfl⟩
      rw [← hm1] at w1 w2
      have hm2 : ¬ (m : Int) = 1 := by omega
      have hm3 : ¬ m = 1 := by omega
      have crow := rows_any k (by omega)
      obtain ⟨k1, hk1⟩ : ∃ k1, k1 = k - 1 := ⟨_, rfl⟩
      rw [← hk1] at crow
      have w3 : IntKind.i64.wrap ((r : Int) + 1) = ((r + 1 : Nat) : Int) := by rw [wrap_id (by omega) (by omega)]; omega
      have w4 : IntKind.i64.wrap (((r + 1 : Nat) : Int) + (k1 : Int)) = ((r + k : Nat) : Int) := by rw [wrap_id (by omega) (by omega)]; omega
      obtain ⟨r1, hr1⟩ : ∃ r1, r1 = r + 1 := ⟨_, rfl⟩
      obtain ⟨r2, hr2⟩ : ∃ r2, r2 = r + k := ⟨_, rfl⟩
      have c1 := fun c G => c1' (us.take k) c G (by rw [hus, seg_take (by omega)])
      have c2 := fun c G => c2' (us.drop k) c G (by rw [hus, seg_drop])
      simp only [← hr1] at c1 w3 w4
      simp only [← hr2] at c2 w4
      refine callAt_enter ir58 (by simp) ?_
      simp [hlen, hm2, hm3, w1, w2, w3, show k ≤ m by omega, ← List.map_take, ← List.map_drop]
      refine callT_of (callAt_mono (c1 _ _) ?_)
      rintro _ _ ⟨rfl, G1, rfl⟩
      simp [w3]
      refine bcallT_plain crow rfl rfl ?_
      simp [w4, hlen, show k ≤ m by omega, ← List.map_take, ← List.map_drop]
      refine callT_of (callAt_mono (c2 _ _) ?_)
      rintro _ _ ⟨rfl, G2, rfl⟩
      simp
      refine callT_of (callAt_mono (c3 _) ?_)
      rintro _ _ ⟨rfl, G3, rfl⟩
      simp
theorem whole_ins (hV : VecsOk s V) {v : List Int} (hv : inV s v = 0) (hn : v ∉ V) (hfew : V.length < 100000) (hcap : (V.length : Int) < cap) (hok : OkAll s V T) :
    ∃ T' : List (List (List Int) × List Int), T'.length = T.length ∧ OkAll s (V ++ [v]) T' ∧ ∀ (c : Bool) (G : Heap), callAt Try.prog 36 [.ptr 0 0, .sl 1 c ((nums s v).map u32L)] (iG cap T G) (fun l H' => l = u32L (idx (V ++ [v]) v) ∧ ∃ G', H' = iG cap T' G') := by
  have hlv := (inV_zero.1 hv).1
  have hnl := nums_length (s := s) (v := v)
  have hsh := hV.short
  have hV' := hV.snoc hv hn hfew
  have hlen : (nums s v).length = s.length := by omega
  obtain ⟨us, hus⟩ : ∃ us, us = nums s v := ⟨_, rfl⟩
  rw [← hus] at hlen ⊢
  by_cases h1 : s.length = 1
  · unfold OkAll at hok ⊢
    simp only [if_pos h1] at hok ⊢
    obtain ⟨t, hT, hk, ht⟩ := hok
    have e : us = [num s v 0] := by
      have := seg_one (lo := 0) (v := nums s v) (by omega)
      rw [nums_get (by omega), show seg 0 1 (nums s v) = nums s v by rw [show (1 : Nat) = (nums s v).length by omega]; exact seg_all] at this
      rw [hus, this]
    have hdl := dd_le (l := V.map fun v => pk (num s v 0) 0)
    simp at hdl
    obtain ⟨t', e1, e2, c3⟩ := ask_ins (r := 0) hT ht (a := num s v 0) (b := 0) (by rw [hk]; omega) (cap := cap) (by rw [hk]; omega)
    have e3 : t'.1 = dd ((V ++ [v]).map fun v => pk (num s v 0) 0) := by rw [e1, List.map_append, List.map_singleton, dd_append, hk]
    have hT0 : 0 < T.length := (List.getElem?_eq_some_iff.1 hT).1
    refine ⟨T.set 0 t', by simp, ⟨t', by simp [hT0], e3, e2⟩, fun c G => ?_⟩
    rw [e3, one_idx hV' h1 hv] at c3
    refine callAt_enter ir36 (by simp) ?_
    simp [e]
    refine callT_of (callAt_mono (c3 _) ?_)
    rintro _ _ ⟨rfl, G3, rfl⟩
    simp
  · unfold OkAll at hok ⊢
    simp only [if_neg h1] at hok ⊢
    have hs0 : s.length ≠ 0 := by simpa using hV.some
    have h2 : ¬ (s.length : Int) = 1 := by omega
    obtain ⟨T', t1, t2, t3, c1⟩ := half_ins hV hv hn hfew hcap s.length T 0 0 hok (by omega) (by omega) (by omega)
    refine ⟨T', t1, t3, fun c G => ?_⟩
    have c1 := c1 us c G (by rw [hus, show s.length = (nums s v).length by omega]; exact seg_all.symm)
    rw [plc_all hV' h1 hlv] at c1
    refine callAt_enter ir36 (by simp) ?_
    simp [hlen, h1, h2]
    refine callT_of (callAt_mono c1 ?_)
    rintro _ _ ⟨rfl, G3, rfl⟩
    simp
theorem first_len (hV : VecsOk s V) (hok : OkAll s V T) : ∃ t T', T = t :: T' ∧ t.1.length = V.length := by
  unfold OkAll at hok
  by_cases h1 : s.length = 1
  · rw [if_pos h1] at hok
    obtain ⟨t, hT, hk, -⟩ := hok
    obtain ⟨t0, T', rfl⟩ : ∃ t0 T', T = t0 :: T' := by cases T with
      | nil => simp at hT
      | cons a b => exact ⟨a, b, rfl⟩
    simp at hT
    subst hT
    refine ⟨_, _, rfl, ?_⟩
    have h := dd_par_len (f := fun v => pk (num s v 0) 0) (g := id) (l := V) (fun x hx y hy => one_inj hV h1 (hV.inn x hx) (hV.inn y hy))
    rw [List.map_id, dd_same hV.nd] at h
    rw [hk, h]
  · rw [if_neg h1] at hok
    have hs0 : s.length ≠ 0 := by simpa using hV.some
    generalize hn : s.length = n at hok
    cases hok with
    | leaf => omega
    | node h2 t hT hk ht hl hr =>
      obtain ⟨t0, T', rfl⟩ : ∃ t0 T', T = t0 :: T' := by cases T with
        | nil => simp at hT
        | cons a b => exact ⟨a, b, rfl⟩
      simp at hT
      subst hT
      refine ⟨_, _, rfl, ?_⟩
      rw [hk, rowK_len pk_inj hV h2 (by omega), ← hn, segK_all hV]
theorem ins_old {F : List (Bool × Bool)} (hV : VecsOk s V) (hok : OkAll s V T) {v : List Int} (hvl : v.length ≤ 1000000) (h : insC s cap V v = false) : PC Try.prog 13 [treeL cap T F, fldsL s, vecL v] (.tup [treeL cap T F, boolL false, intL (insCE s cap V v)]) := by
  have hsh := hV.short
  refine pc_of_call (callAt_enter ir13 (by simp) ?_)
  simp
  refine callT_closed (in_gen ir32 ir54 s v (by omega) hvl) (by simp) ?_
  by_cases h0 : inV s v = 0
  rotate_left
  · simp [h0, insCE]
  simp [h0]
  refine callT_closed (find_any (cap := cap) (F := F) hV hok h0) (by simp) ?_
  by_cases h1 : v ∈ V
  · simp [h1, insCE, h0]
  obtain ⟨t, T', rfl, hl⟩ := first_len hV hok
  have h2 : cap ≤ V.length := by
    simp [insC, h0, h1] at h
    exact h
  simp [h1, insCE, h0]
  refine bcallT_closed (many_any (cap := cap) (F := F) t T') (by simp) ?_
  simp [hl, h2]
theorem ins_new {F : List (Bool × Bool)} (hV : VecsOk s V) (hok : OkAll s V T) (hTl : T.length ≤ 100000) {v : List Int} (hvl : v.length ≤ 1000000) (h : insC s cap V v = true) (hfew : V.length < 100000) (hF : F.length = V.length) :
    ∃ T' : List (List (List Int) × List Int), T'.length = T.length ∧ OkAll s (V ++ [v]) T' ∧ PC Try.prog 13 [treeL cap T F, fldsL s, vecL v] (.tup [treeL cap T' (F ++ [(false, false)]), boolL true, intL 0]) := by
  have hsh := hV.short
  obtain ⟨h0, h1, h2⟩ : inV s v = 0 ∧ v ∉ V ∧ (V.length : Int) < cap := of_decide_eq_true h
  obtain ⟨T', t1, t2, hw⟩ := whole_ins hV h0 h1 hfew h2 hok
  refine ⟨T', t1, t2, ?_⟩
  have hnum := numbers_any hV.may h0 hV.some hV.short
  obtain ⟨t, T0, hT, hl⟩ := first_len hV hok
  have hTne : T ≠ [] := by rw [hT]; simp
  have hmany := many_any (cap := cap) (F := F) t T0
  rw [← hT, hl] at hmany
  have hT0 : 0 < T.length := by rw [hT]; simp
  have hg0 : T[0] = t := by simp [hT]
  refine pc_of_call (callAt_enter ir13 (by simp) ?_)
  simp
  refine callT_closed (in_gen ir32 ir54 s v (by omega) hvl) (by simp) ?_
  simp [h0]
  refine callT_closed (find_any (cap := cap) (F := F) hV hok h0) (by simp) ?_
  simp [h1]
  refine bcallT_closed hmany (by simp) ?_
  simp [hT0, hg0, show ¬ cap ≤ (V.length : Int) by omega]
  refine callT_frame [] (cclone_own ir34 (cap := cap) hTne (by omega)) (by simp) (by simp) (by simp) (by simp) (by simp) ?_
  rintro l R ⟨rfl, rfl⟩
  simp [mergeH, setRows, upN]
  refine callT_closed hnum (by simp) ?_
  simp [flatT_ren]
  refine callT_frame [4, 3] (hw false []) (by simp) (by simp [flatT_ren, flatT_below]) (by simp) (by simp) (by simp) ?_
  rintro l R ⟨rfl, G', rfl⟩
  simp [mergeH, setRows, upN, flatT_ren]
  obtain ⟨G2, hG2⟩ : ∃ G2 : Heap, G2 = List.map (fun r => Option.map (renL (upN [4, 3] 5)) r) G' := ⟨_, rfl⟩
  rw [← hG2]
  refine bcallT_closed (clip_gen ir38 false ((F.map flB).map u8L) (by simp; omega)) (by simp) ?_
  simp
  refine ⟨by omega, ?_⟩
  have hfl := flatT_length (cap := cap) (T := T')
  have hct : List.take (T'.length * 3) (flatT cap T') = flatT cap T' := List.take_of_length_le (by omega)
  rw [hct, if_pos (show T'.length * 3 ≤ (flatT cap T').length by omega), if_pos (flatT_closed (cap := cap) (T := T')), chunk_tab2]
  simp [flB]
def tn (s : List (Int × Int)) : Nat := max 1 (s.length - 1)
def ntH (most : Int) (i : Nat) : Heap :=
  if i = 0 then [some [nilL, nilL], some (cells3 most false false tab0.1 tab0.2), some [nilL, nilL]] else [some [nilL, nilL], some (cells3 most false false tab0.1 tab0.2), some [.view 3 3 0 i false, nilL], some (flatT most (List.replicate i tab0))]
theorem new_any (hs : s.length ≤ 100000) (most : Int) (h0 : 0 ≤ most) (h1 : most ≤ 1048576) : PC Try.prog 11 [fldsL s, intL most] (.tup [treeL most (List.replicate (tn s) tab0) [], intL 0]) := by
  refine pc_of_call' (callAt_enter ir11 (by simp) ?_)
  simp
  refine callT_closed (pnew_any most h0 h1) (by simp) ?_
  simp
  have hrow := rows_any s.length (by omega)
  refine callT_closed hrow (by simp) ?_
  obtain ⟨n, hnn⟩ : ∃ n, n = tn s := ⟨_, rfl⟩
  have hn1 : (if (1 : Int) < ((s.length - 1 : Nat) : Int) then ((s.length - 1 : Nat) : Int) else 1) = (n : Int) := by rw [hnn, tn]; split <;> omega
  have hn2 : 1 ≤ n ∧ n ≤ 100000 := by rw [hnn, tn]; omega
  rw [← hnn]
  simp [hn1]
  refine lwp_loop (fun i : Nat => [(4, .ptr 0 0), (6, .ptr 1 0), (8, .ptr 2 0), (22, intL n), (23, intL i)]) (fun i => ntH most i) (fun i => n - i) (fun i => i ≤ n) 0 (by simp) ⟨[0, 1, 2], by simp [ntH]⟩ ?_
  intro i hi
  by_cases h : i < n
  · have e0 : flatT most [tab0] = cells3 most false false [] z8 := rfl
    have e1 : flatT most (List.replicate (i + 1) tab0) = flatT most (List.replicate i tab0) ++ cells3 most false false [] z8 := by
      rw [List.replicate_succ', flatT_append]; rfl
    by_cases hi0 : i = 0
    · subst hi0
      simp [ntH, h, i64w1]
      refine ⟨1, by omega, by simp only; omega, [0, 1, 2, 4], ?_⟩
      simp [ntH, e0]
    · have hfl := flatT_length (cap := most) (T := List.replicate i tab0)
      rw [List.length_replicate] at hfl
      simp [ntH, hi0, h, hfl, suc64 (show i ≤ 281474976710656 by omega)]
      refine ⟨⟨by omega, by omega⟩, i + 1, by omega, by simp only; omega, [0, 1, 2, 5], ?_⟩
      simp [ntH, e1, flatT_ren, flatT_below]
  · have e : i = n := by omega
    subst e
    have hfl := flatT_length (cap := most) (T := List.replicate i tab0)
    rw [List.length_replicate] at hfl
    have hi0 : i ≠ 0 := by omega
    simp [ntH, hi0]
    have hct : List.take (i * 3) (flatT most (List.replicate i tab0)) = flatT most (List.replicate i tab0) := List.take_of_length_le (by omega)
    have hck := chunk_tab2 (cap := most) (T := List.replicate i tab0)
    rw [List.length_replicate] at hck
    rw [hct, if_pos (show i * 3 ≤ (flatT most (List.replicate i tab0)).length by omega), if_pos (flatT_closed (cap := most) (T := List.replicate i tab0)), hck]
    simp
    exact .tupL (.cons (.aggL (.cons (by show Lg.Sub _ (.sl 3 false ((List.replicate i tab0).map (tabL most))); rw [List.map_replicate]; exact .refl _) (.cons (.nil _ _) .nil))) (.cons (.refl _) .nil))
theorem new_bad_any (most : Int) (h : most < 0 ∨ 1048576 < most) : PC Try.prog 11 [fldsL s, intL most] (.tup [.agg [nilL, nilL], intL 1]) := by
  refine pc_of_call (callAt_enter ir11 (by simp) ?_)
  simp
  refine callT_closed (pnew_bad most h) (by simp) ?_
  simp
end
end Go.Proofs.Ytagaakajpblmjaa
