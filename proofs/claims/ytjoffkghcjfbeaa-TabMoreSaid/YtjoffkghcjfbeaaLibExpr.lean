/- Trees. -/
import Derived.Test.YtjoffkghcjfbeaaLgNX
namespace Lg
open Go
inductive T where
 | mk (op n pl : Int) (l : List T)
mutual
def T.toL : T → L
 | .mk op n pl l => .agg [.v (.int .i64 op), .v (.int .i64 n), .v (.int .i64 pl), .sl 4 false (T.toLs l)]
def T.toLs : List T → List L
 | [] => []
 | t :: ts => t.toL :: T.toLs ts
end
theorem toLs_map : ∀ {l : List T}, T.toLs l = l.map T.toL
 | [] => by simp [T.toLs]
 | t :: ts => by simp [T.toLs, toLs_map (l := ts)]
inductive T.Ok : T → Prop
 | mk {op n pl l} (h1 : (Lit.int .i64 op).wf = true) (h2 : (Lit.int .i64 n).wf = true) (h3 : (Lit.int .i64 pl).wf = true) (h4 : l.length ≤ 2932031007403) (h5 : ∀ t ∈ l, T.Ok t) : T.Ok (.mk op n pl l)
theorem T.ind {M : T → Prop} (h : ∀ op n pl l, (∀ t ∈ l, M t) → M (.mk op n pl l)) (t : T) : M t :=
 T.rec (motive_1 := M) (motive_2 := fun l => ∀ t ∈ l, M t) (fun op n pl l ih => h op n pl l ih) (by simp) (fun t ts h1 h2 x hx => by
  rcases List.mem_cons.1 hx with rfl | hx
  ·exact h1
  ·exact h2 x hx) t
def T.op : T → Int | .mk op _ _ _ => op
def T.num : T → Int | .mk _ n _ _ => n
def T.pl : T → Int | .mk _ _ p _ => p
def T.l : T → List T | .mk _ _ _ l => l
theorem ty_struct_s {P : Program} {n : Nat} {t : TypeId} {ls : List L} (h : Ty P (n + 1) t ls) {fs : Array Field} (hu : P.underlying t = some (.struct fs)) (ht : tiled 0 (fs.toList.map fun f => (f.offset, P.cellsOf f.type)) (P.cellsOf t) = true) {ts : List TypeId} (hts : fs.toList.map (·.type) = ts) :
  TyAll (Ty P n) P.cellsOf ts ls := by
 simp only [Ty, hu] at h
 rw [if_pos ht, hts] at h
 exact h
theorem ty_slice_s {P : Program} {n : Nat} {t e : TypeId} {ls : List L} (h : Ty P (n + 1) t ls) (hu : P.underlying t = some (.slice e)) (hs : (isAggB P e && decide (P.cellsOf e ≤ 1)) = false) :
  ∃ xs : List (List L), ls = [.sl (P.cellsOf e) false (xs.map (mkL (isAggB P e)))] ∧ (∀ x ∈ xs, Ty P n e x) ∧ xs.length * P.bytesOf e ≤ 140737488351232 := by
 simp only [Ty, hu] at h
 rw [if_neg (by intro hc; simp [hc.1, hc.2] at hs)] at h
 exact h
theorem open_expr {P : Program} {tE tL tI : TypeId} {fs : Array Field} (huE : P.underlying tE = some (.struct fs)) (htl : tiled 0 (fs.toList.map fun f => (f.offset, P.cellsOf f.type)) (P.cellsOf tE) = true) (hts : fs.toList.map (·.type) = [tI, tI, tI, tL])
  (huI : P.underlying tI = some (.int .i64)) (huL : P.underlying tL = some (.slice tE)) (hc : P.cellsOf tE = 4) (hb : P.bytesOf tE = 48) (hg : isAggB P tE = true) :
  ∀ (n : Nat) (ls : List L), Ty P n tE ls → ∃ t : T, ls = t.toL.cells ∧ t.Ok := by
 intro n
 induction n using Nat.strongRecOn with
 | _ n ih =>
  intro ls h
  cases n with
  | zero => exact h.elim
  | succ n =>
   have hall := ty_struct_s h huE htl hts
   obtain ⟨x0, y0, rfl, e0, hall⟩ := tyAll_cons hall
   obtain ⟨x1, y1, rfl, e1, hall⟩ := tyAll_cons hall
   obtain ⟨x2, y2, rfl, e2, hall⟩ := tyAll_cons hall
   obtain ⟨x3, y3, rfl, e3, hall⟩ := tyAll_cons hall
   obtain rfl : y3 = [] := hall
   obtain ⟨z0, rfl, h0⟩ := ty_int e0 huI
   obtain ⟨z1, rfl, h1⟩ := ty_int e1 huI
   obtain ⟨z2, rfl, h2⟩ := ty_int e2 huI
   cases n with
   | zero => exact e3.elim
   | succ m =>
    obtain ⟨xs, rfl, h3, h4⟩ := ty_slice_s e3 huL (by rw [hc, hg]; rfl)
    obtain ⟨ys, rfl, h5⟩ := list_open (g := fun t : T => t.toL.cells) (p := T.Ok) h3 (fun x hx => ih m (by omega) x hx)
    rw [hb] at h4
    refine ⟨.mk z0 z1 z2 ys, ?_, .mk h0 h1 h2 (by simp at h4; omega) h5⟩
    rw [hc, hg]
    have e : ys.map (mkL true ∘ fun t => t.toL.cells) = ys.map T.toL := List.map_congr_left fun t _ => by
     cases t with
     | mk a b c d => simp [mkL, T.toL, L.cells]
    simp only [List.singleton_append, List.map_map, e]
    simp only [T.toL, L.cells, toLs_map]
theorem open_exprs {P : Program} {tE tL tI : TypeId} {fs : Array Field} (huE : P.underlying tE = some (.struct fs)) (htl : tiled 0 (fs.toList.map fun f => (f.offset, P.cellsOf f.type)) (P.cellsOf tE) = true) (hts : fs.toList.map (·.type) = [tI, tI, tI, tL])
  (huI : P.underlying tI = some (.int .i64)) (huL : P.underlying tL = some (.slice tE)) (hc : P.cellsOf tE = 4) (hb : P.bytesOf tE = 48) (hg : isAggB P tE = true) {n : Nat} {ls : List L} (h : Ty P n tL ls) :
  ∃ l : List T, ls = [.sl 4 false (l.map T.toL)] ∧ (∀ t ∈ l, t.Ok) ∧ l.length * 48 ≤ 140737488351232 := by
 obtain ⟨m, xs, rfl, h2, h3⟩ := ty_slice h huL (by rw [hc, hg]; rfl)
 obtain ⟨ys, rfl, h4⟩ := list_open (g := fun t : T => t.toL.cells) (p := T.Ok) h2 (fun x hx => open_expr huE htl hts huI huL hc hb hg m x hx)
 rw [hb] at h3
 refine ⟨ys, ?_, h4, by simpa using h3⟩
 rw [hc, hg]
 have e : ys.map (mkL true ∘ fun t => t.toL.cells) = ys.map T.toL := List.map_congr_left fun t _ => by
  cases t with
  | mk a b c d => simp [mkL, T.toL, L.cells]
 simp only [List.map_map, e]
end Lg

