/- The tree store, in plain terms: places of a vector's rows. -/
import Derived.Test.YtagaakajpblmjaaLibCmpC
namespace Lg
open Go
def hf (m : Nat) : Nat := (m + 1) / 2
theorem hf_le {m : Nat} (h : 2 ≤ m) : 1 ≤ hf m ∧ hf m < m ∧ 1 ≤ m - hf m := by unfold hf; omega
def num (s : List (Int × Int)) (v : List Int) (i : Nat) : Int := v.getD i 0 - (s.getD i (0, 0)).1
def nums (s : List (Int × Int)) (v : List Int) : List Int := (List.range v.length).map (num s v)
def seg (lo m : Nat) (v : List Int) : List Int := cutV lo (lo + m) v
theorem seg_eq {lo m : Nat} {v : List Int} : seg lo m v = (v.drop lo).take m := by unfold seg cutV; rw [List.drop_take]; congr 1; omega
theorem seg_length {lo m : Nat} {v : List Int} (h : lo + m ≤ v.length) : (seg lo m v).length = m := by rw [seg_eq]; simp; omega
theorem seg_split {lo h m : Nat} {v : List Int} (hm : h ≤ m) : seg lo m v = seg lo h v ++ seg (lo + h) (m - h) v := by
  rw [seg_eq, seg_eq, seg_eq, ← List.drop_drop]
  have : (v.drop lo).take m = ((v.drop lo).take h) ++ ((v.drop lo).drop h).take (m - h) := by
    conv => lhs; rw [show m = h + (m - h) by omega, List.take_add]
  exact this
theorem seg_take {lo h m : Nat} {v : List Int} (hm : h ≤ m) : (seg lo m v).take h = seg lo h v := by
  rw [seg_eq, seg_eq, List.take_take]; congr 1; omega
theorem seg_drop {lo h m : Nat} {v : List Int} : (seg lo m v).drop h = seg (lo + h) (m - h) v := by
  rw [seg_eq, seg_eq, List.drop_take, List.drop_drop]
theorem seg_all {v : List Int} : seg 0 v.length v = v := by rw [seg_eq]; simp
theorem seg_one {lo : Nat} {v : List Int} (h : lo < v.length) : seg lo 1 v = [v.getD lo 0] := by
  rw [seg_eq, List.take_one, List.head?_drop, List.getElem?_eq_getElem h]; simp [List.getD, h]
theorem nums_length {s : List (Int × Int)} {v : List Int} : (nums s v).length = v.length := by simp [nums]
theorem nums_get {s : List (Int × Int)} {v : List Int} {i : Nat} (h : i < v.length) : (nums s v).getD i 0 = num s v i := by simp [nums, List.getD, h]
section
variable (s : List (Int × Int)) (V : List (List Int))
def segK (lo m : Nat) : List (List Int) := dd (V.map (seg lo m))
def plc (lo m : Nat) (v : List Int) : Int := if m = 1 then num s v lo else (idx (segK V lo m) (seg lo m v) : Nat)
variable (pk : Int → Int → List Int)
def rkey (lo m : Nat) (v : List Int) : List Int := pk (plc s V lo (hf m) v) (plc s V (lo + hf m) (m - hf m) v)
def rowK' (lo m : Nat) : List (List Int) := dd (V.map (rkey s V pk lo m))
end
def U32 (x : Int) : Prop := 0 ≤ x ∧ x < 4294967296
def PkInj (pk : Int → Int → List Int) : Prop := ∀ {a b c d : Int}, U32 a → U32 b → U32 c → U32 d → (pk a b = pk c d ↔ a = c ∧ b = d)
variable {s : List (Int × Int)} {V : List (List Int)} {pk : Int → Int → List Int}
theorem idx_le {l : List (List Int)} {x : List Int} : idx l x ≤ l.length := List.findIdx_le_length
theorem idx_mem {l : List (List Int)} {x : List Int} (h : idx l x < l.length) : x ∈ l := by
  unfold idx at h
  have := List.findIdx_getElem (w := h)
  have h2 := of_decide_eq_true this
  rw [← h2]
  exact List.getElem_mem _
theorem val_in {v : List Int} {i : Nat} (hm : ∀ z ∈ s, mayP z) (hv : inV s v = 0) (hi : i < v.length) : 0 ≤ num s v i ∧ num s v i < 4294967296 := by
  obtain ⟨h1, h2⟩ := inV_zero.1 hv
  have hs : i < s.length := by omega
  have hz := h2 (s[i], v[i]) (by
    have : (s.zip v)[i]? = some (s[i], v[i]) := by rw [List.getElem?_zip_eq_some]; simp [hs, hi]
    exact List.mem_of_getElem? this)
  have hp := hm s[i] (List.getElem_mem _)
  unfold mayP at hp
  have e1 : v.getD i 0 = v[i] := by simp [List.getD, hi]
  have e2 : s.getD i (0, 0) = s[i] := by simp [List.getD, hs]
  unfold num
  rw [e1, e2]
  simp only at hz
  omega
theorem segK_len {lo m : Nat} : (segK V lo m).length ≤ V.length := by
  have := dd_le (l := V.map (seg lo m))
  simpa [segK] using this
theorem seg_mem {lo m : Nat} {v : List Int} (h : v ∈ V) : seg lo m v ∈ segK V lo m := mem_dd.2 (List.mem_map.2 ⟨v, h, rfl⟩)
theorem segK_iff {lo m : Nat} {x : List Int} : x ∈ segK V lo m ↔ ∃ w ∈ V, seg lo m w = x := by
  unfold segK
  rw [mem_dd, List.mem_map]
theorem plc_u32 (h : VecsOk s V) {lo m : Nat} {v : List Int} (hv : inV s v = 0) (hl : lo < s.length) : U32 (plc s V lo m v) := by
  have hlen := (inV_zero.1 hv).1
  unfold plc
  split
  · exact val_in h.may hv (by omega)
  · have h1 := idx_le (l := segK V lo m) (x := seg lo m v)
    have h2 := segK_len (V := V) (lo := lo) (m := m)
    have h3 := h.few
    constructor <;> omega
theorem num_seg {lo : Nat} {v w : List Int} (hv : lo < v.length) (hw : lo < w.length) : num s v lo = num s w lo ↔ seg lo 1 v = seg lo 1 w := by
  rw [seg_one hv, seg_one hw]
  unfold num
  constructor
  · intro h; rw [show v.getD lo 0 = w.getD lo 0 by omega]
  · intro h
    simp only [List.cons.injEq, and_true] at h
    rw [h]
theorem plc_inj (h : VecsOk s V) {lo m : Nat} {v w : List Int} (hv : inV s v = 0) (hw : w ∈ V) (hl : lo < s.length) : plc s V lo m v = plc s V lo m w ↔ seg lo m v = seg lo m w := by
  have l1 := (inV_zero.1 hv).1
  have l2 := (inV_zero.1 (h.inn w hw)).1
  unfold plc
  by_cases hm : m = 1
  · subst hm
    rw [if_pos rfl, if_pos rfl]
    exact num_seg (by omega) (by omega)
  · rw [if_neg hm, if_neg hm]
    constructor
    · intro e
      have e' : idx (segK V lo m) (seg lo m v) = idx (segK V lo m) (seg lo m w) := by omega
      have h1 := idx_lt (seg_mem (lo := lo) (m := m) hw)
      rw [← e'] at h1
      exact idx_inj (idx_mem h1) (seg_mem hw) e'
    · intro e; rw [e]
section
variable (hpk : PkInj pk)
include hpk
theorem rkey_inj (h : VecsOk s V) {lo m : Nat} (h2 : 2 ≤ m) {v w : List Int} (hv : inV s v = 0) (hw : w ∈ V) (hl : lo + m ≤ s.length) : rkey s V pk lo m v = rkey s V pk lo m w ↔ seg lo m v = seg lo m w := by
  have hh := hf_le h2
  have l1 := (inV_zero.1 hv).1
  have l2 := (inV_zero.1 (h.inn w hw)).1
  have hwv := h.inn w hw
  unfold rkey
  rw [hpk (plc_u32 h hv (by omega)) (plc_u32 h hv (by omega)) (plc_u32 h hwv (by omega)) (plc_u32 h hwv (by omega)), plc_inj h hv hw (by omega), plc_inj h hv hw (by omega)]
  rw [seg_split (lo := lo) (h := hf m) (m := m) (v := v) (by omega), seg_split (lo := lo) (h := hf m) (m := m) (v := w) (by omega)]
  constructor
  · rintro ⟨a, b⟩; rw [a, b]
  · intro e
    exact List.append_inj e (by rw [seg_length (by omega), seg_length (by omega)])
end
theorem dd_par {f g : List Int → List Int} {l : List (List Int)} (h : ∀ x ∈ l, ∀ y ∈ l, f x = f y ↔ g x = g y) : ∃ R : List (List Int), (∀ r ∈ R, r ∈ l) ∧ dd (l.map f) = R.map f ∧ dd (l.map g) = R.map g := by
  have key : ∀ (l R0 : List (List Int)), (∀ x ∈ R0 ++ l, ∀ y ∈ R0 ++ l, f x = f y ↔ g x = g y) → ∃ R : List (List Int), (∀ r ∈ R, r ∈ R0 ++ l) ∧
      (l.map f).foldl (fun ks k => if k ∈ ks then ks else ks ++ [k]) (R0.map f) = R.map f ∧ (l.map g).foldl (fun ks k => if k ∈ ks then ks else ks ++ [k]) (R0.map g) = R.map g := fun l => by
    induction l with
    | nil => intro R0 _; exact ⟨R0, by simp, rfl, rfl⟩
    | cons x l ih =>
      intro R0 h
      rw [List.map_cons, List.map_cons, List.foldl_cons, List.foldl_cons]
      have hiff : f x ∈ R0.map f ↔ g x ∈ R0.map g := by
        rw [List.mem_map, List.mem_map]
        constructor
        · rintro ⟨y, hy, e⟩; exact ⟨y, hy, (h y (by simp [hy]) x (by simp)).1 e⟩
        · rintro ⟨y, hy, e⟩; exact ⟨y, hy, (h y (by simp [hy]) x (by simp)).2 e⟩
      by_cases hx : f x ∈ R0.map f
      · rw [if_pos hx, if_pos (hiff.1 hx)]
        obtain ⟨R, r1, r2, r3⟩ := ih R0 fun y hy z hz => h y (by simp at hy ⊢; rcases hy with hy | hy <;> simp [hy]) z (by simp at hz ⊢; rcases hz with hz | hz <;> simp [hz])
        exact ⟨R, fun r hr => by have := r1 r hr; simp at this ⊢; rcases this with h | h <;> simp [h], r2, r3⟩
      · rw [if_neg hx, if_neg (fun e => hx (hiff.2 e))]
        obtain ⟨R, r1, r2, r3⟩ := ih (R0 ++ [x]) fun y hy z hz => h y (by simpa using hy) z (by simpa using hz)
        exact ⟨R, fun r hr => by have := r1 r hr; simpa using this, by simpa using r2, by simpa using r3⟩
  obtain ⟨R, r1, r2, r3⟩ := key l [] (by simpa using h)
  exact ⟨R, by simpa using r1, r2, r3⟩
theorem dd_par_len {f g : List Int → List Int} {l : List (List Int)} (h : ∀ x ∈ l, ∀ y ∈ l, f x = f y ↔ g x = g y) : (dd (l.map f)).length = (dd (l.map g)).length := by
  obtain ⟨R, -, e1, e2⟩ := dd_par h
  rw [e1, e2]; simp
theorem idx_mapf {f : List Int → List Int} {x : List Int} : ∀ {R : List (List Int)}, idx (R.map f) x = R.findIdx (fun r => decide (f r = x))
  | [] => rfl
  | r :: R => by
    have ih := idx_mapf (f := f) (x := x) (R := R)
    unfold idx at *
    rw [List.map_cons, List.findIdx_cons, List.findIdx_cons, ih]
theorem findIdx_same {p q : List Int → Bool} : ∀ {R : List (List Int)}, (∀ r ∈ R, p r = q r) → R.findIdx p = R.findIdx q
  | [], _ => rfl
  | r :: R, h => by rw [List.findIdx_cons, List.findIdx_cons, h r (by simp), findIdx_same fun x hx => h x (by simp [hx])]
theorem dd_par_idx {f g : List Int → List Int} {l : List (List Int)} (h : ∀ x ∈ l, ∀ y ∈ l, f x = f y ↔ g x = g y) {v : List Int} (hv : ∀ y ∈ l, f y = f v ↔ g y = g v) : idx (dd (l.map f)) (f v) = idx (dd (l.map g)) (g v) := by
  obtain ⟨R, r1, e1, e2⟩ := dd_par h
  rw [e1, e2, idx_mapf, idx_mapf]
  refine findIdx_same fun r hr => ?_
  rw [decide_eq_decide]
  exact hv r (r1 r hr)
section
variable (hpk : PkInj pk)
include hpk
theorem rowK_len (h : VecsOk s V) {lo m : Nat} (h2 : 2 ≤ m) (hl : lo + m ≤ s.length) : (rowK' s V pk lo m).length = (segK V lo m).length :=
  dd_par_len fun x hx y hy => rkey_inj hpk h h2 (h.inn x hx) hy hl
theorem rowK_mem (h : VecsOk s V) {lo m : Nat} (h2 : 2 ≤ m) (hl : lo + m ≤ s.length) {v : List Int} (hv : inV s v = 0) : rkey s V pk lo m v ∈ rowK' s V pk lo m ↔ seg lo m v ∈ segK V lo m := by
  rw [segK_iff]
  unfold rowK'
  rw [mem_dd, List.mem_map]
  constructor
  · rintro ⟨w, hw, e⟩; exact ⟨w, hw, ((rkey_inj hpk h h2 hv hw hl).1 e.symm).symm⟩
  · rintro ⟨w, hw, e⟩; exact ⟨w, hw, ((rkey_inj hpk h h2 hv hw hl).2 e.symm).symm⟩
theorem rowK_idx (h : VecsOk s V) {lo m : Nat} (h2 : 2 ≤ m) (hl : lo + m ≤ s.length) {v : List Int} (hv : inV s v = 0) : (idx (rowK' s V pk lo m) (rkey s V pk lo m v) : Int) = plc s V lo m v := by
  unfold plc
  rw [if_neg (by omega)]
  congr 1
  exact dd_par_idx (fun x hx y hy => rkey_inj hpk h h2 (h.inn x hx) hy hl) fun y hy => by rw [eq_comm, rkey_inj hpk h h2 hv hy hl, eq_comm]
end
theorem segK_more {lo m : Nat} {v : List Int} : segK V lo m <+: segK (V ++ [v]) lo m := by
  unfold segK
  rw [List.map_append, List.map_singleton]
  exact dd_more
theorem plc_more {lo m : Nat} {v w : List Int} (hw : w ∈ V) : plc s (V ++ [v]) lo m w = plc s V lo m w := by
  unfold plc
  split
  · rfl
  · rw [idx_prefix segK_more (seg_mem hw)]
theorem rowK_snoc {lo m : Nat} {v : List Int} : rowK' s (V ++ [v]) pk lo m = if rkey s (V ++ [v]) pk lo m v ∈ rowK' s V pk lo m then rowK' s V pk lo m else rowK' s V pk lo m ++ [rkey s (V ++ [v]) pk lo m v] := by
  unfold rowK'
  have e : V.map (rkey s (V ++ [v]) pk lo m) = V.map (rkey s V pk lo m) := List.map_congr_left fun w hw => by
    unfold rkey
    rw [plc_more hw, plc_more hw]
  rw [List.map_append, List.map_singleton, dd_append, e]
theorem rowK_le {lo m : Nat} : (rowK' s V pk lo m).length ≤ V.length := by
  have := dd_le (l := V.map (rkey s V pk lo m))
  simpa [rowK'] using this
inductive OkSeg (s : List (Int × Int)) (V : List (List Int)) (pk : Int → Int → List Int) (T : List (List (List Int) × List Int)) : Nat → Nat → Nat → Prop where
  | leaf {r lo : Nat} : OkSeg s V pk T r lo 1
  | node {r lo m : Nat} (h2 : 2 ≤ m) (t : List (List Int) × List Int) (hT : T[r]? = some t) (hk : t.1 = rowK' s V pk lo m) (ht : Tab t.1 t.2) (hl : OkSeg s V pk T (r + 1) lo (hf m)) (hr : OkSeg s V pk T (r + hf m) (lo + hf m) (m - hf m)) : OkSeg s V pk T r lo m
theorem OkSeg.congr {T T' : List (List (List Int) × List Int)} {r lo m : Nat} (h : OkSeg s V pk T r lo m) : (∀ i, r ≤ i → i + 1 < r + m → T'[i]? = T[i]?) → OkSeg s V pk T' r lo m := by
  induction h with
  | leaf => intro _; exact .leaf
  | node h2 t hT hk ht hl hr ih1 ih2 =>
    intro hc
    have := hf_le h2
    exact .node h2 t ((hc _ (by omega) (by omega)).trans hT) hk ht (ih1 fun i h1 h3 => hc i (by omega) (by omega)) (ih2 fun i h1 h3 => hc i (by omega) (by omega))
theorem OkSeg.init {T : List (List (List Int) × List Int)} (hT : ∀ (i : Nat) (t : List (List Int) × List Int), T[i]? = some t → t.1 = [] ∧ Tab t.1 t.2) : ∀ m r lo, 1 ≤ m → r + m ≤ T.length + 1 → OkSeg s [] pk T r lo m := fun m => by
  induction m using Nat.strongRecOn with
  | _ m ih =>
    intro r lo h1 h2
    by_cases hm : m = 1
    · subst hm; exact .leaf
    · have hh := hf_le (m := m) (by omega)
      obtain ⟨t, ht⟩ : ∃ t, T[r]? = some t := ⟨_, List.getElem?_eq_getElem (by omega)⟩
      obtain ⟨a, b⟩ := hT r t ht
      exact .node (by omega) t ht (by rw [a]; rfl) b (ih _ (by omega) _ _ (by omega) (by omega)) (ih _ (by omega) _ _ (by omega) (by omega))
theorem dd_same {l : List (List Int)} (h : l.Nodup) : dd l = l := by
  have key : ∀ (l acc : List (List Int)), (acc ++ l).Nodup → l.foldl (fun ks k => if k ∈ ks then ks else ks ++ [k]) acc = acc ++ l := fun l => by
    induction l with
    | nil => intro acc _; simp
    | cons x l ih =>
      intro acc h
      rw [List.foldl_cons, if_neg (fun hx => by
        rw [List.nodup_append] at h
        exact h.2.2 x hx x (by simp) rfl)]
      rw [ih _ (by simpa using h)]
      simp
  have := key l [] (by simpa using h)
  simpa [dd] using this
theorem segK_all (h : VecsOk s V) : segK V 0 s.length = V := by
  unfold segK
  have e : V.map (seg 0 s.length) = V := by
    conv => rhs; rw [← List.map_id V]
    exact List.map_congr_left fun v hv => by
      have := (inV_zero.1 (h.inn v hv)).1
      rw [← this]; exact seg_all
  rw [e, dd_same h.nd]
end Lg
