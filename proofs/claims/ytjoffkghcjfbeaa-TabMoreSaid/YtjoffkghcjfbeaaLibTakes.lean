/- Which words an automaton takes: what the document's answer computes. -/
import Derived.Test.YtjoffkghcjfbeaaLibAut
import Derived.Test.YtjoffkghcjfbeaaLibAcc
namespace Lg
open Go
def edgeRow (n j : Nat) (r : List Int) : List Int := r.map fun s => ((j * n : Nat) : Int) + s
theorem lk_frz {H : Heap} {fz : List Nat} {t : Nat} : ∀ {E : Env}, lk (List.map (fun p => (p.1, frz H fz p.2)) E) t = frz H fz (lk E t)
 | [] => by simp [lk]
 | (k, l) :: E => by
  simp only [List.map_cons, lk]
  split
  ·rfl
  ·exact lk_frz
attribute [simp] lk_frz
def cellR (r : List Int) : L := if r = [] then .v (.slice none 0 0) else .sl 1 false (r.map intL)
theorem cells_cellR (r : List Int) : (cellR r).cells = [cellR r] := by unfold cellR; split <;> rfl
theorem solid_cellR (r : List Int) : solid (cellR r) = true := by unfold cellR; split <;> rfl
theorem closed_cellR (r : List Int) : closed (cellR r) = true := by unfold cellR; split <;> rfl
theorem below_cellR (n : Nat) (r : List Int) : below n (cellR r) = true := by unfold cellR; split <;> simp
theorem ren_cellR (f : Nat → Nat) (r : List Int) : ren f (cellR r) = cellR r := by unfold cellR; split <;> simp
theorem frz_cellR (H : Heap) (fz : List Nat) (r : List Int) : frz H fz (cellR r) = cellR r := by unfold cellR; split <;> simp
attribute [simp] cells_cellR solid_cellR closed_cellR below_cellR ren_cellR frz_cellR
def nodeRow (a : Aut) (w : Word) (x : Nat) : List Int := edgeRow a.lits.length (w.nxt (x / a.lits.length)) (a.next.getD (x % a.lits.length) [])
def nodeOn (a : Aut) (w : Word) (x : Nat) : Bool := a.fits (x % a.lits.length) (w.v.getD (x / a.lits.length) [])
def nodeRows (a : Aut) (w : Word) (m : Nat) : List (List Int) := (List.range m).map (nodeRow a w)
def nodeOns (a : Aut) (w : Word) (m : Nat) : List Bool := (List.range m).map (nodeOn a w)
theorem nodeRows_length {a : Aut} {w : Word} {m : Nat} : (nodeRows a w m).length = m := by simp [nodeRows]
theorem nodeOns_length {a : Aut} {w : Word} {m : Nat} : (nodeOns a w m).length = m := by simp [nodeOns]
attribute [simp] nodeRows_length nodeOns_length
structure TakesOk (a : Aut) (w : Word) : Prop where
 ok : a.Ok
 wok : w.Ok
 right : a.right = true
 wright : w.right = true
 few : a.lits.length ≤ 1000000
 short : w.v.length ≤ 500
 rows : ∀ r ∈ a.next, r.length < 4000
 ends : a.init.length + a.acc.length < 5000
theorem TakesOk.next {a : Aut} {w : Word} (h : TakesOk a w) : a.next.length = a.lits.length := by
 have := h.right
 simp only [Aut.right, Bool.and_eq_true, decide_eq_true_eq] at this
 exact this.1.1.2
theorem TakesOk.loop {a : Aut} {w : Word} (h : TakesOk a w) : 0 ≤ w.loop ∧ w.loop < w.v.length := by
 have := h.wright
 simp only [Word.right, Bool.and_eq_true, decide_eq_true_eq] at this
 exact ⟨this.1.2, this.2⟩
def setRow (a : Aut) (N k : Nat) : List Bool := (List.range N).map fun x => decide (((x % a.lits.length : Nat) : Int) ∈ a.acc.getD k [])
def cellB (r : List Bool) : L := if r = [] then .v (.slice none 0 0) else .sl 1 false (r.map boolL)
theorem cells_cellB (r : List Bool) : (cellB r).cells = [cellB r] := by unfold cellB; split <;> rfl
theorem solid_cellB (r : List Bool) : solid (cellB r) = true := by unfold cellB; split <;> rfl
theorem closed_cellB (r : List Bool) : closed (cellB r) = true := by unfold cellB; split <;> rfl
theorem below_cellB (n : Nat) (r : List Bool) : below n (cellB r) = true := by unfold cellB; split <;> simp
theorem ren_cellB (f : Nat → Nat) (r : List Bool) : ren f (cellB r) = cellB r := by unfold cellB; split <;> simp
theorem frz_cellB (H : Heap) (fz : List Nat) (r : List Bool) : frz H fz (cellB r) = cellB r := by unfold cellB; split <;> simp
attribute [simp] cells_cellB solid_cellB closed_cellB below_cellB ren_cellB frz_cellB
def accRows (a : Aut) (N k : Nat) : List (List Bool) := (List.range k).map (setRow a N)
theorem accRows_length {a : Aut} {N k : Nat} : (accRows a N k).length = k := by simp [accRows]
attribute [simp] accRows_length
def takesG (a : Aut) (w : Word) : FG :=
 let N := w.v.length * a.lits.length
 ⟨false, false, (nodeRows a w N).map (·.map Int.toNat), if a.acc = [] then [List.replicate N true] else accRows a N a.acc.length⟩
def Takes (a : Aut) (w : Word) : Prop := ∃ q ∈ a.init, FairN (takesG a w) (nodeOns a w (w.v.length * a.lits.length)) q.toNat
open Classical in
noncomputable def Aut.takes (a : Aut) (w : Word) : Bool := decide (Takes a w)
open Classical in
theorem takes_iff {a : Aut} {w : Word} : a.takes w = true ↔ Takes a w := by unfold Aut.takes; exact decide_eq_true_iff
end Lg

