/- The collapsed store: the loop over a vector's parts; where a vector is. -/
import Derived.Test.YtagaakajpblmjaaLibCmpP
namespace Lg
open Go
theorem subCl {e : Nat} {c : Bool} {xs : List L} : Sub (.sl e c xs) (.sl e false xs) := by
  cases c
  · exact .refl _
  · exact .clip _ _
def EncC (P : Program) (enc : Nat) : Prop := ∀ (s : List (Int × Int)) (v : List Int), s.length ≤ 1000 → (∀ z ∈ s, mayP z) → v.length ≤ 1000000 → PC P enc [fldsL s, vecL v] (.tup [bytL (encV s v).1, intL (encV s v).2])
abbrev chunkL (it : Nat) (s : List (Int × Int)) (v : List Int) : L := .fn (.func it) [] [.pp [fldsL s], .pp [vecL v]]
theorem chunks_gen {P : Program} {f it : Nat} (ir : compF P f = some (irCChunks it)) (s : List (Int × Int)) (v : List Int) : PC P f [fldsL s, vecL v] (chunkL it s v) := by
  refine pc_of_call (callAt_enter ir (by simp [irCChunks]) ?_)
  simp [irCChunks]
theorem it_gen {P : Program} {it enc : Nat} (ir : compF P it = some (irCIt enc)) (henc : EncC P enc) {s : List (Int × Int)} {v : List Int} (hs : s.length ≤ 1000) (hm : ∀ z ∈ s, mayP z) (hv : inV s v = 0) {h : Nat} {H : Heap} (hh : h < H.length)
    {K : L → Heap → Prop} (inv : Nat → Heap → Prop) (h0 : ∃ H1, H.length ≤ H1.length ∧ weak H.length [] H [] H1 ∧ inv 0 H1)
    (round : ∀ j H', j < np s → inv j H' → callY P h [intL j, bytL (ck s v j)] H' (fun r H'' => (r = boolL true ∧ ∃ H1, H.length ≤ H1.length ∧ weak H.length [] H'' [] H1 ∧ inv (j + 1) H1) ∨ (r = boolL false ∧ K (.tup []) H'')))
    (hK : ∀ H', inv (np s) H' → K (.tup []) H') : callAt P it [.yl h, .pp [fldsL s], .pp [vecL v]] H K := by
  refine callAt_enter ir (by simp [irCIt]) ?_
  simp [irCIt]
  obtain ⟨H1, k1, k2, k3⟩ := h0
  have hlen := (inV_zero.1 hv).1
  refine lwp_loop (fun x : Nat × Heap => [(0, .yl h), (1, .pp [fldsL s]), (2, .pp [vecL v]), (4, intL x.1)]) (fun x => x.2) (fun x => np s - x.1) (fun x => x.1 ≤ np s ∧ H.length ≤ x.2.length ∧ inv x.1 x.2) (0, H1) ⟨by omega, k1, k3⟩ ?_ ?_
  · refine weak_more k2 k1 ?_
    simp [hh]
  rintro ⟨j, H'⟩ ⟨hj, hH', hi⟩
  simp only at hj hH' hi
  have hnp : np s = (s.length + 1) / 2 := rfl
  have w1 : IntKind.i64.wrap ((j : Int) * 2) = (j : Int) * 2 := wrap_id (by omega) (by omega)
  by_cases hlt : j < np s
  · have hlt' : (j : Int) * 2 < (s.length : Int) := by omega
    have w2 : IntKind.i64.wrap ((j : Int) + 1) = (j : Int) + 1 := suc64 (by omega)
    have w3 : IntKind.i64.wrap (((j : Int) + 1) * 2) = ((j : Int) + 1) * 2 := wrap_id (by omega) (by omega)
    obtain ⟨lo, hlo⟩ : ∃ lo, lo = 2 * j := ⟨_, rfl⟩
    obtain ⟨hi', hhi⟩ : ∃ hi', hi' = min s.length (2 * j + 2) := ⟨_, rfl⟩
    have e1 : (j : Int) * 2 = (lo : Int) := by omega
    have e2 : (if ((j : Int) + 1) * 2 < (s.length : Int) then ((j : Int) + 1) * 2 else (s.length : Int)) = (hi' : Int) := by split <;> omega
    have p1 : ∀ {α : Type} {l : List α}, l.length = s.length → List.drop lo (List.take hi' l) = prt l j := fun {α} {l} hl => by
      unfold prt
      rw [hlo, hhi, ← hl]
      congr 1
      by_cases c : l.length ≤ 2 * j + 2
      · rw [Nat.min_eq_left c, List.take_length, List.take_of_length_le c]
      · rw [Nat.min_eq_right (by omega)]
    have c1 : lo ≤ hi' := by omega
    have c2 : hi' ≤ s.length := by omega
    have c3 : (lo : Int) < (s.length : Int) := by omega
    have r := round j H' hlt hi
    have hc := henc (prt s j) (prt v j) (by rw [prt_length]; omega) (fun z hz => hm z (prt_mem hz)) (by rw [prt_length]; omega)
    rw [show encV (prt s j) (prt v j) = (ck s v j, 0) by unfold encV; rw [if_pos (prt_in hv)]; rfl] at hc
    rw [e1] at w1
    simp [w1, w2, w3, hlt', e1, e2, c1, c2, c3, hlen, ← List.map_take, ← List.map_drop, p1]
    refine callT_closed hc (by simp) ?_
    simp
    refine callY_mono ?_ r
    rintro l H'' (⟨rfl, H2, q1, q2, q3⟩ | ⟨rfl, hk⟩)
    · simp [w2]
      refine ⟨(j + 1, H2), ⟨by simp only; omega, q1, q3⟩, by simp only; omega, weak_more q2 q1 ?_⟩
      simp [hh]
    · simp
      exact hk
  · have e : j = np s := by omega
    subst e
    have hlt' : ¬ ((np s : Nat) : Int) * 2 < (s.length : Int) := by omega
    simp [w1, hlt']
    exact hK H' hi
abbrev tabL (cap : Int) (t : List (List Int) × List Int) : L := .agg (cells3 cap false false t.1 t.2)
abbrev cmpC (cap : Int) (T : List (List (List Int) × List Int)) (K : List (List Int)) (S F : List Int) : List L := [.sl 3 false (T.map (tabL cap)), intL cap, .sl 1 false (K.map bytesL), .sl 1 false (S.map intL), bytL F]
structure TabsOk (s : List (Int × Int)) (V : List (List Int)) (T : List (List (List Int) × List Int)) : Prop where
  len : T.length = np s
  ok : ∀ i t, T[i]? = some t → t.1 = partK s V i ∧ Tab t.1 t.2
structure CFindFns (P : Program) (f : Nat) where
  ch : Nat
  it : Nat
  enc : Nat
  tf : Nat
  tf0 : Nat
  seek : Nat
  lay : Nat
  rc : RC
  ir : compF P f = some (irCFind ch tf rc)
  irc : compF P ch = some (irCChunks it)
  iri : compF P it = some (irCIt enc)
  henc : EncC P enc
  irl : compF P lay = some irCLay
  hrc : RcOK (fun _ => false) P 45 rc [17, 18] irCFindAs (irCFindBd tf lay)
  irf : compF P tf = some (irFind tf0)
  irf0 : compF P tf0 = some (irFind0 seek)
  F : SeekFns P seek
def findV (V : List (List Int)) (v : List Int) : Int := if v ∈ V then (idx V v : Int) else -1
def cfH (cs : List L) (rc : RC) (r : List Int) : Heap :=
  if r = [] then [some cs, some [intL 0], some [nilL], some [.lp rc .ready none [3, 6, 7] [.ptr 0 0, .ptr 1 0, .ptr 2 0]]]
  else [some cs, some [intL 0], some [.view 1 4 0 r.length false], some [.lp rc .ready none [3, 6, 7] [.ptr 0 0, .ptr 1 0, .ptr 2 0]], some (r.map u8L)]
theorem cfH_nil {cs : List L} {rc : RC} : cfH cs rc [] = [some cs, some [intL 0], some [nilL], some [.lp rc .ready none [3, 6, 7] [.ptr 0 0, .ptr 1 0, .ptr 2 0]]] := by simp [cfH]
theorem cfH_row {cs : List L} {rc : RC} {r : List Int} (h : r ≠ []) : cfH cs rc r = [some cs, some [intL 0], some [.view 1 4 0 r.length false], some [.lp rc .ready none [3, 6, 7] [.ptr 0 0, .ptr 1 0, .ptr 2 0]], some (r.map u8L)] := by simp [cfH, h]
theorem cfH_len {cs : List L} {rc : RC} {r : List Int} : 4 ≤ (cfH cs rc r).length := by
  unfold cfH
  split <;> simp
theorem ck_len {s : List (Int × Int)} {v : List Int} {i : Nat} (hm : ∀ z ∈ s, mayP z) (hv : inV s v = 0) : (ck s v i).length ≤ 4 := by
  have h1 := (inV_zero.1 (prt_in (i := i) hv)).1
  have h2 := bitsS_le (s := prt s i) (fun z hz => hm z (prt_mem hz))
  have h3 : (prt s i).length ≤ 2 := by rw [prt_length]; omega
  rw [ck, encB_length h1]
  unfold bytesS
  omega
theorem cfind_gen {P : Program} {f : Nat} (G : CFindFns P f) {s : List (Int × Int)} {V : List (List Int)} {T : List (List (List Int) × List Int)} {S : List Int} (hV : VecsOk s V) (hT : TabsOk s V T) (hR : Tab (rowsK s V) S) (cap : Int) (Fl : List Int) {v : List Int} (hv : inV s v = 0) :
    PC P f [.agg (cmpC cap T (rowsK s V) S Fl), fldsL s, vecL v] (intL (findV V v)) := by
  refine pc_of_call (callAt_enter G.ir (by simp [irCFind]) ?_)
  simp [irCFind]
  refine callT_closed (chunks_gen G.irc s v) (by simp) ?_
  simp
  have hfew := hV.few
  have hsh := hV.short
  have hnp : np s = (s.length + 1) / 2 := rfl
  refine it_gen G.iri G.henc hV.short hV.may hv (by simp) (fun j H' => (∀ i, i < j → ck s v i ∈ partK s V i) ∧ H' = cfH (cmpC cap T (rowsK s V) S Fl) G.rc (rowT s V v j)) ⟨_, cfH_len, ?_, by simp, rfl⟩ ?_ ?_
  · exact ⟨[0, 1, 2, 3], by simp [rowT_zero, cfH_nil]⟩
  · rintro j H' hj ⟨hin, rfl⟩
    have hjT : j < T.length := by rw [hT.len]; exact hj
    obtain ⟨t, ht⟩ : ∃ t, T[j]? = some t := ⟨_, List.getElem?_eq_getElem hjT⟩
    obtain ⟨t1, t2⟩ := hT.ok j t ht
    have hfd := find_tab G.irf G.irf0 G.F cap false false false t2 (ck s v j) encB_byte (by have := ck_len (i := j) hV.may hv; omega)
    by_cases hk : ck s v j ∈ t.1
    · rw [if_pos hk] at hfd
      have hk2 : ck s v j ∈ partK s V j := by rw [← t1]; exact hk
      obtain ⟨n, hn⟩ : ∃ n, n = idx t.1 (ck s v j) := ⟨_, rfl⟩
      have hnl : n < 4294967296 := by have := idx_lt hk; have := partK_len (s := s) (V := V) (i := j); rw [← t1] at this; omega
      rw [← hn] at hfd
      have hin' : ∀ i, i < j + 1 → ck s v i ∈ partK s V i := fun i hi => by
        by_cases c : i < j
        · exact hin i c
        · rw [show i = j by omega]; exact hk2
      have hsu := rowT_succ (s := s) (V := V) (v := v) (k := j)
      rw [← t1, ← hn] at hsu
      obtain ⟨r, hr⟩ : ∃ r, r = rowT s V v j := ⟨_, rfl⟩
      obtain ⟨r', hr'⟩ : ∃ r', r' = rowT s V v (j + 1) := ⟨_, rfl⟩
      have hrl : r.length = 4 * j := by rw [hr, rowT_length]
      have hne : r' ≠ [] := fun e => by
        have := congrArg List.length e
        rw [hr', rowT_length] at this
        simp at this
      rw [← hr, ← hr'] at hsu
      rw [← hr, ← hr', cfH_row hne]
      by_cases h0 : r = []
      · refine callY_of (ks := [3, 6, 7]) (ts := [.ptr 0 0, .ptr 1 0, .ptr 2 0]) (by simp [cfH, h0]) G.hrc rfl ?_
        rw [h0, cfH_nil]
        simp [irCFindAs, irCFindBd, ht]
        refine callT_closed hfd (by simp) ?_
        simp [hk]
        refine callT_frame [4] (lay_nil G.irl n hnl) (by simp) (by simp) (by simp) (by simp) (by simp) ?_
        rintro l R ⟨rfl, rfl⟩
        have e4 : r' = lay4 n := by rw [hsu, h0, List.nil_append]
        simp [mergeH, setRows, upN]
        refine ⟨_, ?_, ⟨[0, 1, 2, 3, 5], ?_⟩, hin', rfl⟩
        · simp
        simp [e4]
      · refine callY_of (ks := [3, 6, 7]) (ts := [.ptr 0 0, .ptr 1 0, .ptr 2 0]) (by simp [cfH, h0]) G.hrc rfl ?_
        rw [cfH_row h0]
        simp [irCFindAs, irCFindBd, ht]
        refine callT_closed hfd (by simp) ?_
        simp [hk]
        refine callT_frame [5, 4] (lay_row G.irl n hnl r (by omega) false) (by simp) (by simp) (by simp) (by simp) (by simp) ?_
        rintro l R ⟨rfl, rfl⟩
        simp [mergeH, setRows, upN]
        refine ⟨_, ?_, ⟨[0, 1, 2, 3, 6], ?_⟩, hin', rfl⟩
        · simp
        simp [hsu]
    · rw [if_neg hk] at hfd
      have hk2 : ck s v j ∉ partK s V j := by rw [← t1]; exact hk
      have hv2 : v ∉ V := fun h => hk2 (partK_mem h)
      have hfv : findV V v = -1 := by unfold findV; rw [if_neg hv2]
      by_cases h0 : rowT s V v j = []
      · refine callY_of (ks := [3, 6, 7]) (ts := [.ptr 0 0, .ptr 1 0, .ptr 2 0]) (by simp [cfH, h0]) G.hrc rfl ?_
        rw [h0, cfH_nil]
        simp [irCFindAs, irCFindBd, ht]
        refine callT_closed hfd (by simp) ?_
        simp [hk, hfv]
      · refine callY_of (ks := [3, 6, 7]) (ts := [.ptr 0 0, .ptr 1 0, .ptr 2 0]) (by simp [cfH, h0]) G.hrc rfl ?_
        rw [cfH_row h0]
        simp [irCFindAs, irCFindBd, ht]
        refine callT_closed hfd (by simp) ?_
        simp [hk, hfv]
  · rintro H' ⟨hin, rfl⟩
    have hne : rowT s V v (np s) ≠ [] := fun e => by
      have h1 := congrArg List.length e
      rw [rowT_length] at h1
      have h2 := np_pos hV.some
      simp only [List.length_nil] at h1
      omega
    rw [cfH_row hne]
    simp
    have hfd := find_tab G.irf G.irf0 G.F cap false false false hR (rowF s V v) rowT_byte (by rw [rowF, rowT_length]; omega)
    refine callT_plain hfd rfl (by simp [rowF]) ?_
    have hmem := hV.row_mem hv hin
    by_cases hm : v ∈ V
    · have hm2 := hmem.2 hm
      have hfv : findV V v = idx V v := by unfold findV; rw [if_pos hm]
      rw [if_pos hm2, hV.row_idx hm]
      simp [hm2, hfv]
    · have hm2 : rowF s V v ∉ rowsK s V := fun h => hm (hmem.1 h)
      have hfv : findV V v = -1 := by unfold findV; rw [if_neg hm]
      rw [if_neg hm2]
      simp [hm2, hfv]
end Lg
