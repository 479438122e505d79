/- The collapsed store: how many there are; a vector more. -/
import Derived.Test.YtagaakajpblmjaaLibCmpB
namespace Lg
open Go
variable {s : List (Int × Int)} {V : List (List Int)} {T : List (List (List Int) × List Int)} {S Fl : List Int} {cap : Int}
theorem cmany_gen {P : Program} {f tm : Nat} (ir : compF P f = some (irCMany tm)) (irm : compF P tm = some irMany) (cap : Int) (T : List (List (List Int) × List Int)) (K : List (List Int)) (S F : List Int) : PC P f [.agg (cmpC cap T K S F)] (intL K.length) := by
  refine pc_of_call (callAt_enter ir (by simp [irCMany]) ?_)
  simp [irCMany]
  refine callT_closed (many_tab irm cap false false K S) (by simp) ?_
  simp
def cpH (cs : List L) (l : List Int) : Heap := if l = [] then [some cs] else [some cs, some (l.map intL)]
def cpE (l : List Int) : L := if l = [] then nilL else .view 1 1 0 l.length false
theorem cpE_nil : cpE [] = nilL := by simp [cpE]
theorem cpE_row {l : List Int} (h : l ≠ []) : cpE l = .view 1 1 0 l.length false := by simp [cpE, h]
theorem cpH_nil {cs : List L} : cpH cs [] = [some cs] := by simp [cpH]
theorem cpH_row {cs : List L} {l : List Int} (h : l ≠ []) : cpH cs l = [some cs, some (l.map intL)] := by simp [cpH, h]
def sizesT (T : List (List (List Int) × List Int)) : List Int := T.map fun t => (t.1.length : Int)
theorem cparts_gen {P : Program} {f tm : Nat} (ir : compF P f = some (irCParts tm)) (irm : compF P tm = some irMany) (cap : Int) (T : List (List (List Int) × List Int)) (K : List (List Int)) (S F : List Int) (hl : T.length ≤ 1000000) : PC P f [.agg (cmpC cap T K S F)] (vecL (sizesT T)) := by
  refine pc_of_call' (callAt_enter ir (by simp [irCParts]) ?_)
  simp [irCParts]
  refine lwp_loop (fun i : Nat => [(1, .ptr 0 0), (3, cpE ((sizesT T).take i)), (7, .sl 3 false (T.map (tabL cap))), (8, intL T.length), (9, intL i)]) (fun i => cpH (cmpC cap T K S F) ((sizesT T).take i)) (fun i => T.length - i) (fun i => i ≤ T.length) 0 (by simp) ⟨[0], by simp [cpH, cpE]⟩ ?_
  intro i hi
  by_cases h : i < T.length
  · obtain ⟨t, ht⟩ : ∃ t, T[i]? = some t := ⟨_, List.getElem?_eq_getElem h⟩
    have hg : T[i] = t := by simpa [h] using ht
    have hsn : (sizesT T).take (i + 1) = (sizesT T).take i ++ [(t.1.length : Int)] := by
      rw [List.take_add_one]; simp [sizesT, ht]
    obtain ⟨l, hl'⟩ : ∃ l, l = (sizesT T).take i := ⟨_, rfl⟩
    have hll : l.length = i := by rw [hl']; simp [sizesT]; omega
    rw [← hl'] at hsn ⊢
    have hne : (sizesT T).take (i + 1) ≠ [] := by rw [hsn]; simp
    have hml : List.map intL l ++ [intL t.1.length] = ((sizesT T).take (i + 1)).map intL := by rw [hsn, List.map_append]; rfl
    have hml0 : ((sizesT T).take (i + 1)).length = i + 1 := by rw [hsn, List.length_append, hll]; rfl
    have hE : cpE ((sizesT T).take (i + 1)) = .view 1 1 0 (i + 1) false := by rw [cpE_row hne, hml0]
    have hH : cpH (cmpC cap T K S F) ((sizesT T).take (i + 1)) = [some (cmpC cap T K S F), some (List.map intL l ++ [intL t.1.length])] := by rw [cpH_row hne, hml]
    by_cases h0 : l = []
    · have hi0 : i = 0 := by rw [← hll, h0]; rfl
      subst hi0
      rw [h0, cpE_nil, cpH_nil]
      simp [h, hg]
      refine callT_closed (many_tab irm cap false false t.1 t.2) (by simp) ?_
      have hE1 : cpE ((sizesT T).take 1) = .view 1 1 0 1 false := hE
      have hH1 : cpH (cmpC cap T K S F) ((sizesT T).take 1) = [some (cmpC cap T K S F), some (List.map intL l ++ [intL t.1.length])] := hH
      simp [i64w1]
      refine ⟨1, by omega, by simp only; omega, [0, 3], ?_⟩
      simp [hE1, hH1, h0]
    · rw [cpE_row h0, cpH_row h0]
      simp [h, hg]
      refine callT_closed (many_tab irm cap false false t.1 t.2) (by simp) ?_
      simp [suc64 (show i ≤ 281474976710656 by omega)]
      refine ⟨by omega, i + 1, by omega, by simp only; omega, [0, 4], ?_⟩
      simp [hE, hH, hll]
  · have e : i = T.length := by omega
    subst e
    have htk : (sizesT T).take T.length = sizesT T := by rw [List.take_of_length_le]; simp [sizesT]
    rw [htk]
    by_cases h0 : sizesT T = []
    · rw [h0, cpE_nil, cpH_nil]
      simp
      exact .nil _ _
    · rw [cpE_row h0, cpH_row h0]
      simp
      exact .refl _
def flatT (cap : Int) (T : List (List (List Int) × List Int)) : List L := T.flatMap fun t => cells3 cap false false t.1 t.2
theorem flatT_length : (flatT cap T).length = 3 * T.length := by
  induction T with
  | nil => rfl
  | cons t T ih =>
    have e : flatT cap (t :: T) = cells3 cap false false t.1 t.2 ++ flatT cap T := rfl
    rw [e, List.length_append, ih]
    simp
    omega
theorem flatT_append {T' : List (List (List Int) × List Int)} : flatT cap (T ++ T') = flatT cap T ++ flatT cap T' := by simp [flatT]
theorem flatT_ren {f : Nat → Nat} : renL f (flatT cap T) = flatT cap T := by
  induction T with
  | nil => rfl
  | cons t T ih =>
    have e : flatT cap (t :: T) = cells3 cap false false t.1 t.2 ++ flatT cap T := rfl
    rw [e, renL_append, ih]
    simp
theorem flatT_below {n : Nat} : belowL n (flatT cap T) = true := by
  induction T with
  | nil => rfl
  | cons t T ih =>
    have e : flatT cap (t :: T) = cells3 cap false false t.1 t.2 ++ flatT cap T := rfl
    rw [e, belowL_append, ih]
    simp
theorem flatT_solid : ∀ x ∈ flatT cap T, solid x = true := fun x hx => by
  obtain ⟨t, -, h⟩ := List.mem_flatMap.1 hx
  simp at h
  rcases h with rfl | rfl | rfl <;> simp
theorem flatT_closed : ∀ x ∈ flatT cap T, closed x = true := fun x hx => by
  obtain ⟨t, -, h⟩ := List.mem_flatMap.1 hx
  simp at h
  rcases h with rfl | rfl | rfl <;> simp
theorem flat_tab : List.flatMap L.cells (List.map (tabL cap) T) = flatT cap T := by
  induction T with
  | nil => rfl
  | cons t T ih =>
    have e : flatT cap (t :: T) = cells3 cap false false t.1 t.2 ++ flatT cap T := rfl
    rw [e, ← ih]
    simp
theorem sum_tab : (List.map ((fun a => a.cells.length) ∘ tabL cap) T).sum = 3 * T.length := by
  induction T with
  | nil => rfl
  | cons t T ih =>
    rw [List.map_cons, List.sum_cons, ih]
    simp
    omega
theorem flatT_get {i : Nat} {t : List (List Int) × List Int} (h : T[i]? = some t) : ((flatT cap T).drop (i * 3)).take 3 = cells3 cap false false t.1 t.2 := by
  obtain ⟨hi, rfl⟩ := List.getElem?_eq_some_iff.1 h
  have e : T = T.take i ++ T[i] :: T.drop (i + 1) := by simp
  have hl : (T.take i).length = i := by simp; omega
  obtain ⟨x, hx⟩ : ∃ x, x = T[i] := ⟨_, rfl⟩
  rw [← hx] at e ⊢
  rw [e, flatT_append, List.drop_append_of_le_length (by rw [flatT_length]; omega), List.drop_of_length_le (by rw [flatT_length]; omega)]
  rfl
theorem chunk_tab : chunk T.length 3 (flatT cap T) = T.map (tabL cap) := by
  rw [chunk, if_neg (by omega)]
  apply List.ext_getElem
  · simp
  · intro i h1 h2
    simp at h1
    simp only [List.getElem_map, List.getElem_range]
    rw [flatT_get (t := T[i]) (List.getElem?_eq_getElem h1)]
theorem chunk_tab2 : List.map (fun i => L.agg (List.take 3 (List.drop (i * 3) (flatT cap T)))) (List.range T.length) = T.map (tabL cap) := by
  rw [← chunk_tab, chunk, if_neg (by omega)]
theorem setCells3 {A B : List L} {x y z p q r : L} : setCells (A ++ ([x, y, z] ++ B)) A.length [p, q, r] = A ++ ([p, q, r] ++ B) := by
  simp [setCells, List.set_append_right]
  rw [List.set_append_right _ _ (by omega), show A.length + 1 + 1 - A.length = 2 by omega]
  rfl
theorem flatT_set {i : Nat} {t : List (List Int) × List Int} (h : i < T.length) : setCells (flatT cap T) (i * 3) (cells3 cap false false t.1 t.2) = flatT cap (T.set i t) := by
  have e : T = T.take i ++ T[i] :: T.drop (i + 1) := by simp
  have hl : (T.take i).length = i := by simp; omega
  obtain ⟨x, hx⟩ : ∃ x, x = T[i] := ⟨_, rfl⟩
  obtain ⟨A, hA⟩ : ∃ A, A = T.take i := ⟨_, rfl⟩
  obtain ⟨B, hB⟩ : ∃ B, B = T.drop (i + 1) := ⟨_, rfl⟩
  rw [← hx, ← hA, ← hB] at e
  rw [← hA] at hl
  subst e
  rw [List.set_append_right _ _ (by omega), hl, Nat.sub_self, List.set_cons_zero, flatT_append, flatT_append]
  have e1 : flatT cap (x :: B) = cells3 cap false false x.1 x.2 ++ flatT cap B := rfl
  have e2 : flatT cap (t :: B) = cells3 cap false false t.1 t.2 ++ flatT cap B := rfl
  rw [e1, e2]
  have hfl : (flatT cap A).length = i * 3 := by rw [flatT_length]; omega
  rw [← hfl, setCells3]
theorem cclone_own {P : Program} {f : Nat} (ir : compF P f = some irCClone) (hT : T ≠ []) (hl : T.length ≤ 1000000) :
    callAt P f [.sl 3 false (T.map (tabL cap))] [] fun l R => l = .view 3 1 0 T.length false ∧ R = [none, some (flatT cap T)] := by
  refine callAt_enter ir (by simp [irCClone]) ?_
  simp [irCClone, hT, flat_tab, sum_tab]
  rw [flatT_length]
  exact ⟨⟨⟨T.length, rfl⟩, flatT_solid⟩, by omega, by omega⟩
structure CInsFns (P : Program) (f : Nat) where
  inn : Nat
  find : Nat
  many : Nat
  tm : Nat
  cl : Nat
  ins : Nat
  clip : Nat
  rc : RC
  G : CFindFns P find
  ir : compF P f = some (irCIns inn find many cl G.ch ins clip rc)
  hinn : ∀ (s : List (Int × Int)) (v : List Int), s.length ≤ 1000000 → v.length ≤ 1000000 → PC P inn [fldsL s, vecL v] (intL (inV s v))
  irmany : compF P many = some (irCMany tm)
  irtm : compF P tm = some irMany
  ircl : compF P cl = some irCClone
  I : InsFns P ins
  irclip : compF P clip = some irClip
  hrc : RcOK (fun _ => false) P 84 rc [44, 45] irCInsAs (irCInsBd ins G.lay)
def insC (s : List (Int × Int)) (cap : Int) (V : List (List Int)) (v : List Int) : Bool := decide (inV s v = 0 ∧ v ∉ V ∧ (V.length : Int) < cap)
def insCE (s : List (Int × Int)) (cap : Int) (V : List (List Int)) (v : List Int) : Int := if inV s v = 0 then (if v ∈ V then 0 else if cap ≤ V.length then 7 else 0) else inV s v
def insCV (s : List (Int × Int)) (cap : Int) (V : List (List Int)) (v : List Int) : List (List Int) := if insC s cap V v = true then V ++ [v] else V
def insCF (s : List (Int × Int)) (cap : Int) (V : List (List Int)) (v : List Int) (F : List Int) : List Int := if insC s cap V v = true then F ++ [0] else F
theorem cins_old {P : Program} {f : Nat} (J : CInsFns P f) (hV : VecsOk s V) (hT : TabsOk s V T) (hR : Tab (rowsK s V) S) (cap : Int) (Fl : List Int) {v : List Int} (hvl : v.length ≤ 1000000) (h : insC s cap V v = false) :
    PC P f [.agg (cmpC cap T (rowsK s V) S Fl), fldsL s, vecL v] (.tup [.agg (cmpC cap T (rowsK s V) S Fl), boolL false, intL (insCE s cap V v)]) := by
  refine pc_of_call (callAt_enter J.ir (by simp [irCIns]) ?_)
  simp [irCIns]
  have hsh := hV.short
  refine callT_closed (J.hinn s v (by omega) hvl) (by simp) ?_
  by_cases h0 : inV s v = 0
  rotate_left
  · simp [h0, insCE]
  simp [h0]
  refine callT_closed (cfind_gen J.G hV hT hR cap Fl h0) (by simp) ?_
  by_cases h1 : v ∈ V
  · simp [h1, findV, insCE, h0]
  simp [h1, findV, insCE, h0]
  refine bcallT_closed (cmany_gen J.irmany J.irtm cap T (rowsK s V) S Fl) (by simp) ?_
  have h2 : cap ≤ V.length := by
    simp [insC, h0, h1] at h
    exact h
  simp [h2, rowsK_length]
theorem choose_list {α : Type} {p : Nat → α → Prop} : ∀ {n : Nat}, (∀ i, i < n → ∃ t, p i t) → ∃ U : List α, U.length = n ∧ ∀ i t, U[i]? = some t → p i t
  | 0, _ => ⟨[], rfl, fun i t h => by simp at h⟩
  | n + 1, h => by
    obtain ⟨U, h1, h2⟩ := choose_list (n := n) (p := p) fun i hi => h i (by omega)
    obtain ⟨t, ht⟩ := h n (by omega)
    refine ⟨U ++ [t], by simp [h1], fun i x hx => ?_⟩
    by_cases c : i < n
    · rw [List.getElem?_append_left (by omega)] at hx
      exact h2 i x hx
    · have hi : i = n := by
        have := (List.getElem?_eq_some_iff.1 hx).1
        simp [h1] at this
        omega
      subst hi
      rw [← h1, List.getElem?_append_right (by omega), Nat.sub_self] at hx
      simp at hx
      rw [← hx]
      exact ht
def ciH (cs res : List L) (n : Nat) (cap : Int) (T : List (List (List Int) × List Int)) (rc : RC) (r : List Int) : Heap :=
  if r = [] then [some (.view 3 3 0 n false :: cs), some res, none, some (flatT cap T), some [nilL], some [.lp rc .ready none [3, 10] [.ptr 0 0, .ptr 4 0]]]
  else [some (.view 3 3 0 n false :: cs), some res, none, some (flatT cap T), some [.view 1 6 0 r.length false], some [.lp rc .ready none [3, 10] [.ptr 0 0, .ptr 4 0]], some (r.map u8L)]
theorem ciH_nil {cs res : List L} {n : Nat} {rc : RC} : ciH cs res n cap T rc [] = [some (.view 3 3 0 n false :: cs), some res, none, some (flatT cap T), some [nilL], some [.lp rc .ready none [3, 10] [.ptr 0 0, .ptr 4 0]]] := by simp [ciH]
theorem ciH_row {cs res : List L} {n : Nat} {rc : RC} {r : List Int} (h : r ≠ []) : ciH cs res n cap T rc r = [some (.view 3 3 0 n false :: cs), some res, none, some (flatT cap T), some [.view 1 6 0 r.length false], some [.lp rc .ready none [3, 10] [.ptr 0 0, .ptr 4 0]], some (r.map u8L)] := by simp [ciH, h]
theorem ciH_len {cs res : List L} {n : Nat} {rc : RC} {r : List Int} : 6 ≤ (ciH cs res n cap T rc r).length := by
  unfold ciH
  split <;> simp
theorem insK_new {keys : List (List Int)} {key : List Int} (h : (keys.length : Int) < cap) : insK cap keys key = if key ∈ keys then keys else keys ++ [key] := by
  have h' : ¬ cap ≤ keys.length := by omega
  simp [insK, h']
theorem insI_new {keys : List (List Int)} {key : List Int} (h : (keys.length : Int) < cap) : insI cap keys key = ((if key ∈ keys then idx keys key else keys.length : Nat) : Int) := by
  have h' : ¬ cap ≤ keys.length := by omega
  unfold insI
  rw [if_neg h']
  split <;> rfl
theorem cins_new {P : Program} {f : Nat} (J : CInsFns P f) (hV : VecsOk s V) (hT : TabsOk s V T) (hR : Tab (rowsK s V) S) (cap : Int) (Fl : List Int) {v : List Int} (hvl : v.length ≤ 1000000) (h : insC s cap V v = true) (hfew : V.length < 100000) (hF : Fl.length = V.length) :
    ∃ T' S', TabsOk s (V ++ [v]) T' ∧ Tab (rowsK s (V ++ [v])) S' ∧ PC P f [.agg (cmpC cap T (rowsK s V) S Fl), fldsL s, vecL v] (.tup [.agg (cmpC cap T' (rowsK s (V ++ [v])) S' (Fl ++ [0])), boolL true, intL 0]) := by
  have hh : inV s v = 0 ∧ v ∉ V ∧ (V.length : Int) < cap := of_decide_eq_true h
  obtain ⟨h0, h1, h2⟩ := hh
  have hV' := hV.snoc h0 h1 hfew
  have hsh := hV.short
  have hnp : np s = (s.length + 1) / 2 := rfl
  have hTl := hT.len
  have hT0 : T ≠ [] := fun e => by
    rw [e] at hTl
    have := np_pos hV.some
    simp at hTl
    omega
  obtain ⟨U, hU1, hU2⟩ := choose_list (n := np s) (p := fun i (t : List (List Int) × List Int) => t.1 = partK s (V ++ [v]) i ∧ Tab t.1 t.2 ∧ ∀ t0, T[i]? = some t0 → ∃ b e, PC P J.ins [tabL cap t0, bytL (ck s v i)] (.tup [tabL cap t, intL (idx (partK s (V ++ [v]) i) (ck s v i)), boolL b, intL e])) fun i hi => by
    obtain ⟨t0, ht0⟩ : ∃ t0, T[i]? = some t0 := ⟨_, List.getElem?_eq_getElem (by omega)⟩
    obtain ⟨a1, a2⟩ := hT.ok i t0 ht0
    have hlen : t0.1.length ≤ V.length := by rw [a1]; exact partK_len
    obtain ⟨sl, b1, b2⟩ := ins_gen J.I cap a2 (ck s v i) encB_byte (by have := ck_len (i := i) hV.may h0; omega) (by omega)
    have hlc : (t0.1.length : Int) < cap := by omega
    have e1 : insK cap t0.1 (ck s v i) = partK s (V ++ [v]) i := by rw [insK_new hlc, a1, partK_snoc]
    have e2 : insI cap t0.1 (ck s v i) = ((idx (partK s (V ++ [v]) i) (ck s v i) : Nat) : Int) := by rw [insI_new hlc, idx_snoc, a1]
    refine ⟨(partK s (V ++ [v]) i, sl), rfl, by rw [← e1]; exact b1, fun t1 ht1 => ?_⟩
    rw [ht0] at ht1
    cases ht1
    have b3 := b2 false
    rw [e1, e2] at b3
    exact ⟨_, _, b3⟩
  have hrn := hV.row_new h0 h1 hfew
  have hrl : (rowF s (V ++ [v]) v).length = 4 * np s := rowT_length
  obtain ⟨S', hS1, hS2⟩ := ins_gen J.I cap hR (rowF s (V ++ [v]) v) rowT_byte (by omega) (by rw [rowsK_length]; omega)
  have hlc : ((rowsK s V).length : Int) < cap := by rw [rowsK_length]; exact h2
  have eK : insK cap (rowsK s V) (rowF s (V ++ [v]) v) = rowsK s (V ++ [v]) := by rw [insK_new hlc, if_neg hrn, rowsK_snoc]
  rw [eK] at hS1
  have hS3 := hS2 false
  rw [eK] at hS3
  refine ⟨U, S', ⟨hU1, fun i t ht => ⟨(hU2 i t ht).1, (hU2 i t ht).2.1⟩⟩, hS1, ?_⟩
  have hUne : U ≠ [] := fun e => by
    rw [e] at hU1
    have := np_pos hV.some
    simp at hU1
    omega
  refine pc_of_call (callAt_enter J.ir (by simp [irCIns]) ?_)
  simp [irCIns]
  refine callT_closed (J.hinn s v (by omega) hvl) (by simp) ?_
  simp [h0]
  refine callT_closed (cfind_gen J.G hV hT hR cap Fl h0) (by simp) ?_
  simp [h1, findV]
  refine bcallT_closed (cmany_gen J.irmany J.irtm cap T (rowsK s V) S Fl) (by simp) ?_
  simp [show ¬ cap ≤ (V.length : Int) by omega, rowsK_length]
  refine callT_frame [] (cclone_own J.ircl (cap := cap) hT0 (by omega)) (by simp) (by simp) (by simp) (by simp) (by simp) ?_
  rintro l R ⟨rfl, rfl⟩
  simp [mergeH, setRows, upN]
  refine callT_closed (chunks_gen J.G.irc s v) (by simp) ?_
  simp
  obtain ⟨cs, hcs⟩ : ∃ cs : List L, cs = [intL cap, .sl 1 false ((rowsK s V).map bytesL), .sl 1 false (S.map intL), bytL Fl] := ⟨_, rfl⟩
  obtain ⟨res, hres⟩ : ∃ res : List L, res = [L.v (Value.slice none 0 0), L.v (Value.int IntKind.i64 0), L.v (Value.slice none 0 0), L.v (Value.slice none 0 0), L.v (Value.slice none 0 0)] := ⟨_, rfl⟩
  refine it_gen J.G.iri J.G.henc hV.short hV.may h0 (by simp) (fun j H' => H' = ciH cs res T.length cap (U.take j ++ T.drop j) J.rc (rowT s (V ++ [v]) v j)) ⟨_, ciH_len, ?_, rfl⟩ ?_ ?_
  · rw [rowT_zero, ciH_nil]
    refine ⟨[0, 1, 2, 3, 4, 5], ?_⟩
    simp [hcs, hres, flatT_ren, flatT_below]
  · rintro j H' hj rfl
    obtain ⟨t, ht⟩ : ∃ t, T[j]? = some t := ⟨_, List.getElem?_eq_getElem (by omega)⟩
    obtain ⟨u, hu⟩ : ∃ u, U[j]? = some u := ⟨_, List.getElem?_eq_getElem (by omega)⟩
    obtain ⟨-, -, hu3⟩ := hU2 j u hu
    obtain ⟨b, e, hcall⟩ := hu3 t ht
    obtain ⟨Tj, hTj⟩ : ∃ Tj, Tj = U.take j ++ T.drop j := ⟨_, rfl⟩
    have hTjl : Tj.length = T.length := by rw [hTj]; simp; omega
    have hgj : Tj[j]? = some t := by
      rw [hTj, List.getElem?_append_right (by simp; omega)]
      simp [show min j U.length = j by omega, ht]
    have hTn : U.take (j + 1) ++ T.drop (j + 1) = Tj.set j u := by
      rw [hTj, List.set_append_right _ _ (by simp; omega), List.take_add_one, hu]
      have : T.drop j = t :: T.drop (j + 1) := by
        rw [List.drop_eq_getElem_cons (by omega)]
        congr 1
        exact (List.getElem?_eq_some_iff.1 ht).2
      rw [this]
      simp [show j - min j U.length = 0 by omega]
    obtain ⟨n, hn⟩ : ∃ n, n = idx (partK s (V ++ [v]) j) (ck s v j) := ⟨_, rfl⟩
    have hnl : n < 4294967296 := by
      have a1 := idx_lt (partK_mem (s := s) (i := j) (show v ∈ V ++ [v] by simp))
      have a2 := partK_len (s := s) (V := V ++ [v]) (i := j)
      simp at a2
      omega
    have hsu := rowT_succ (s := s) (V := V ++ [v]) (v := v) (k := j)
    rw [← hn] at hsu hcall
    obtain ⟨r, hr⟩ : ∃ r, r = rowT s (V ++ [v]) v j := ⟨_, rfl⟩
    obtain ⟨r', hr'⟩ : ∃ r', r' = rowT s (V ++ [v]) v (j + 1) := ⟨_, rfl⟩
    have hrl : r.length = 4 * j := by rw [hr, rowT_length]
    have hne : r' ≠ [] := fun e => by
      have := congrArg List.length e
      rw [hr', rowT_length] at this
      simp at this
    rw [← hr, ← hr'] at hsu
    rw [← hr, ← hr', hTn, ciH_row hne, ← hTj]
    have hfg := flatT_get (cap := cap) hgj
    have hfs := flatT_set (cap := cap) (T := Tj) (i := j) (t := u) (by omega)
    have hfs2 : (((flatT cap Tj).set (j * 3) (intL cap)).set (j * 3 + 1) (L.sl 1 false (List.map bytesL u.1))).set (j * 3 + 1 + 1) (L.sl 1 false (List.map intL u.2)) = flatT cap (Tj.set j u) := hfs
    have hfl := flatT_length (cap := cap) (T := Tj)
    by_cases hr0 : r = []
    · refine callY_of (ks := [3, 10]) (ts := [.ptr 0 0, .ptr 4 0]) (by simp [ciH, hr0]) J.hrc rfl ?_
      rw [hr0, ciH_nil]
      simp [irCInsAs, irCInsBd, hfg, hfl]
      refine ⟨by omega, by omega, ?_⟩
      refine callT_closed hcall (by simp) ?_
      simp
      refine callT_frame [7] (lay_nil J.G.irl n hnl) (by simp) (by simp) (by simp) (by simp) (by simp) ?_
      rintro l R ⟨rfl, rfl⟩
      have e4 : r' = lay4 n := by rw [hsu, hr0, List.nil_append]
      simp [mergeH, setRows, upN]
      refine ⟨by omega, by omega, [0, 1, 2, 3, 4, 5, 8], ?_⟩
      rw [hfs2]
      simp [hcs, hres, flatT_ren, flatT_below, e4]
    · refine callY_of (ks := [3, 10]) (ts := [.ptr 0 0, .ptr 4 0]) (by simp [ciH, hr0]) J.hrc rfl ?_
      rw [ciH_row hr0]
      simp [irCInsAs, irCInsBd, hfg, hfl]
      refine ⟨by omega, by omega, ?_⟩
      refine callT_closed hcall (by simp) ?_
      simp
      refine callT_frame [8, 6] (lay_row J.G.irl n hnl r (by omega) false) (by simp) (by simp) (by simp) (by simp) (by simp) ?_
      rintro l R ⟨rfl, rfl⟩
      simp [mergeH, setRows, upN]
      refine ⟨by omega, by omega, [0, 1, 2, 3, 4, 5, 9], ?_⟩
      rw [hfs2]
      simp [hcs, hres, flatT_ren, flatT_below, hsu]
  · rintro H' rfl
    have hne : rowT s (V ++ [v]) v (np s) ≠ [] := fun e => by
      have h1 := congrArg List.length e
      rw [rowT_length] at h1
      have h2 := np_pos hV.some
      simp only [List.length_nil] at h1
      omega
    rw [ciH_row hne]
    rw [show U.take (np s) ++ T.drop (np s) = U by rw [List.take_of_length_le (by omega), List.drop_of_length_le (by omega), List.append_nil]]
    simp [hcs]
    refine callT_freeze [6] hS3 (by simp [rowF]) ?_
    simp [pickRows]
    refine callT_closed (clip_gen J.irclip false (Fl.map u8L) (by simp; omega)) (by simp) ?_
    have hTU : T.length = U.length := by omega
    have hfl := flatT_length (cap := cap) (T := U)
    simp [hres, hTU]
    refine ⟨by omega, ?_⟩
    have hct : List.take (U.length * 3) (flatT cap U) = flatT cap U := List.take_of_length_le (by omega)
    rw [hct, if_pos (show U.length * 3 ≤ (flatT cap U).length by omega), if_pos (flatT_closed (cap := cap) (T := U)), chunk_tab2]
    simp
end Lg
