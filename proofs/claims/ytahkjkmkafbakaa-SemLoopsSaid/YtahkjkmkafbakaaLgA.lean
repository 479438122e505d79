/- Logical values, and what it means that a real value in a world reads as one. -/
import Derived.WalkKit
import Derived.ChangeKeysEq
namespace Lg
open Go

/-- Keys of maps. -/
inductive MK where
  | s (bs : List UInt8)
  | i (k : IntKind) (n : Int)
  | p (k : IntKind) (a b : Int)
deriving DecidableEq

inductive KK where
  | s
  | i (k : IntKind)
  | p (k : IntKind)
deriving DecidableEq

def MK.val : MK → Value
  | .s bs => .string ⟨bs.toArray⟩
  | .i k n => .int k n
  | .p k a b => .agg #[.int k a, .int k b]

def MK.kind : MK → KK
  | .s _ => .s
  | .i k _ => .i k
  | .p k _ _ => .p k

/-- Logical values. -/
inductive L where
  | any
  | no
  | v (x : Value)
  | sl (esz : Nat) (clip : Bool) (xs : List L)
  | agg (cs : List L)
  | tup (vs : List L)
  | view (esz h off n : Nat) (clip : Bool)
  | ptr (h off : Nat)
  | pp (cs : List L)
  | fn (f : Fn) (first cap : List L)
  | mref (h : Nat)
  | mp (k : KK) (es : List (MK × Value))

instance : Inhabited L := ⟨.any⟩

def L.cells : L → List L
  | .agg cs => cs
  | l => [l]

/-- The cells of a row of elements. -/
def flat (esz : Nat) (xs : List L) : List L := if esz = 1 then xs else xs.flatMap L.cells

abbrev Heap := List (Option (List L))
abbrev Env := List (Nat × L)

def lk : Env → Nat → L
  | [], _ => .any
  | (k, l) :: E, t => if t = k then l else lk E t

inductive Rel (S : Nat → Prop) (w : World) : List Nat → Value → L → Prop
  | any {η} (v) : Rel S w η v .any
  | no {η} : Rel S w η undef .no
  | v {η} (x) : Rel S w η x (.v x)
  | sl0 {η} {a : Option Addr} {cap esz clip} (h1 : clip = true → cap = 0) (h2 : cap ≤ maxLen) : Rel S w η (.slice a 0 cap) (.sl esz clip [])
  | sl {η} {b o cap esz clip xs} (cs : Nat → Value) (h2 : xs.length ≤ cap) (h3 : cap ≤ maxLen) (h4 : clip = true → cap = xs.length)
      (h5 : ∀ x ∈ xs, x.cells.length = esz ∧ (esz = 1 → x.cells = [x])) (hS : 0 < xs.length * esz → S b)
      (hc : ∀ j, j < xs.length * esz → w.cell? ⟨b, o + j, none⟩ = some (cs j))
      (hr : ∀ j, Rel S w [] (cs j) ((flat esz xs).getD j .any)) : Rel S w η (.slice (some ⟨b, o, none⟩) xs.length cap) (.sl esz clip xs)
  | agg {η} {cs : Array Value} {ls} (h : cs.size = ls.length) (hr : ∀ j, Rel S w η (cs.getD j undef) (ls.getD j .any)) : Rel S w η (.agg cs) (.agg ls)
  | tup {η} {cs : Array Value} {ls} (h : cs.size = ls.length) (hr : ∀ j, Rel S w η (cs.getD j undef) (ls.getD j .any)) : Rel S w η (.tuple cs) (.tup ls)
  | view0 {η} {a : Option Addr} {esz h off clip} : Rel S w η (.slice a 0 0) (.view esz h off 0 clip)
  | view {η} {b off n cap esz h clip c t fr} (hη : η[h]? = some b) (hb : w.heap[b]? = some (.cells c t fr)) (hsz : off + cap * esz ≤ c.size)
      (hn : n ≤ cap) (hm : cap ≤ maxLen) (hcl : clip = true → cap = n) : Rel S w η (.slice (some ⟨b, off, none⟩) n cap) (.view esz h off n clip)
  | ptr {η} {b off h c t fr} (hη : η[h]? = some b) (hb : w.heap[b]? = some (.cells c t fr)) : Rel S w η (.pointer (some ⟨b, off, none⟩)) (.ptr h off)
  | mref {η} {b h} (hη : η[h]? = some b) : Rel S w η (.map (some b)) (.mref h)
  | pp {η} {b o ls} (cs : Nat → Value) (hS : 0 < ls.length → S b) (hc : ∀ j, j < ls.length → w.cell? ⟨b, o + j, none⟩ = some (cs j))
      (hr : ∀ j, Rel S w [] (cs j) (ls.getD j .any)) : Rel S w η (.pointer (some ⟨b, o, none⟩)) (.pp ls)
  | fn {η} {f first cap ff cc} (h1 : first.size = ff.length) (h2 : cap.size = cc.length) (r1 : ∀ j, Rel S w η (first.getD j undef) (ff.getD j .any))
      (r2 : ∀ j, Rel S w η (cap.getD j undef) (cc.getD j .any)) : Rel S w η (.func f first cap) (.fn f ff cc)

/-- From one moment of a call to a later one: `η`: the own rows' blocks; `S`: the blocks that nobody writes any more. -/
structure Le (η : List Nat) (S : Nat → Prop) (w : World) (η' : List Nat) (S' : Nat → Prop) (w' : World) : Prop where
  pre : ∃ ζ, η' = η ++ ζ ∧ ∀ b ∈ ζ, b ∈ η ∨ w.heap.size ≤ b
  sub : ∀ b, S b → S' b
  keep : ∀ b : Nat, S b → w'.heap[b]? = w.heap[b]?
  shape : ∀ (b : Nat) (c : Array Value) (t : TypeId) (fr : Nat × Nat), w.heap[b]? = some (.cells c t fr) → ∃ (c' : Array Value) (fr' : Nat × Nat), w'.heap[b]? = some (.cells c' t fr') ∧ c'.size = c.size
  size : w.heap.size ≤ w'.heap.size
  frame : ∀ b : Nat, b < w.heap.size → b ∉ η → w'.heap[b]? = w.heap[b]?
  new : ∀ b, S' b → S b ∨ b ∈ η ∨ w.heap.size ≤ b
  os : w'.os = w.os
  tape : w'.tape = w.tape
  output : w'.output = w.output

theorem Le.refl (η S w) : Le η S w η S w :=
  ⟨⟨[], by simp, by simp⟩, fun _ h => h, fun _ _ => rfl, fun _ c _ fr h => ⟨c, fr, h, rfl⟩, Nat.le_refl _, fun _ _ _ => rfl, fun _ h => .inl h, rfl, rfl, rfl⟩

theorem Le.trans {η S w η' S' w' η'' S'' w''} (h : Le η S w η' S' w') (k : Le η' S' w' η'' S'' w'') : Le η S w η'' S'' w'' := by
  obtain ⟨ζ, e1, n1⟩ := h.pre
  obtain ⟨ξ, e2, n2⟩ := k.pre
  subst e1
  have hs := h.size
  have hmem : ∀ b, b ∈ η ++ ζ → b ∈ η ∨ w.heap.size ≤ b := fun b hb => by
    rcases List.mem_append.1 hb with h | h
    · exact .inl h
    · exact n1 b h
  refine ⟨⟨ζ ++ ξ, by rw [e2, List.append_assoc], ?_⟩, fun b hb => k.sub b (h.sub b hb), fun b hb => (k.keep b (h.sub b hb)).trans (h.keep b hb), ?_,
    Nat.le_trans h.size k.size, ?_, ?_, k.os.trans h.os, k.tape.trans h.tape, k.output.trans h.output⟩
  · intro b hb
    rcases List.mem_append.1 hb with hb | hb
    · exact n1 b hb
    · rcases n2 b hb with h' | h'
      · exact hmem b h'
      · exact .inr (Nat.le_trans hs h')
  · intro b c t fr hb
    obtain ⟨c1, f1, h1, s1⟩ := h.shape b c t fr hb
    obtain ⟨c2, f2, h2, s2⟩ := k.shape b c1 t f1 h1
    exact ⟨c2, f2, h2, s2.trans s1⟩
  · intro b hb hn
    rw [k.frame b (by omega) (fun hm => by rcases hmem b hm with h' | h'; exact hn h'; omega)]
    exact h.frame b hb hn
  · intro b hb
    rcases k.new b hb with h' | h' | h'
    · exact h.new b h'
    · exact .inr (hmem b h')
    · exact .inr (.inr (Nat.le_trans hs h'))

theorem cell?_of_block {w w' : World} {b : Nat} (h : w'.heap[b]? = w.heap[b]?) (o : Nat) : w'.cell? ⟨b, o, none⟩ = w.cell? ⟨b, o, none⟩ := by
  unfold World.cell?; simp [h]

theorem prefix_get {η ζ : List Nat} {h b : Nat} (e : η[h]? = some b) : (η ++ ζ)[h]? = some b := by
  obtain ⟨hlt, -⟩ := List.getElem?_eq_some_iff.1 e
  rw [List.getElem?_append_left hlt]; exact e

/-- What reads so, reads so later. The list of own rows may grow. -/
theorem Rel.mono {S S' : Nat → Prop} {w w' : World} (sub : ∀ b, S b → S' b) (keep : ∀ b : Nat, S b → w'.heap[b]? = w.heap[b]?)
    (shape : ∀ (b : Nat) (c : Array Value) (t : TypeId) (fr : Nat × Nat), w.heap[b]? = some (.cells c t fr) → ∃ (c' : Array Value) (fr' : Nat × Nat), w'.heap[b]? = some (.cells c' t fr') ∧ c'.size = c.size)
    {η : List Nat} {v : Value} {l : L} (h : Rel S w η v l) : ∀ {η' : List Nat}, (∀ k b : Nat, η[k]? = some b → η'[k]? = some b) → Rel S' w' η' v l := by
  induction h with
  | any v => intro η' _; exact .any v
  | no => intro η' _; exact .no
  | v x => intro η' _; exact .v x
  | sl0 h1 h2 => intro η' _; exact .sl0 h1 h2
  | sl cs h2 h3 h4 h5 hS hc hr ih =>
    intro η' _
    refine .sl cs h2 h3 h4 h5 (fun h => sub _ (hS h)) (fun j hj => ?_) (fun j => ih j (fun _ _ h => by simp at h))
    rw [cell?_of_block (keep _ (hS (by omega)))]; exact hc j hj
  | agg h hr ih => intro η' hp; exact .agg h fun j => ih j hp
  | tup h hr ih => intro η' hp; exact .tup h fun j => ih j hp
  | view0 => intro η' _; exact .view0
  | view hη hb hsz hn hm hcl =>
    intro η' hp
    obtain ⟨c', fr', h1, h2⟩ := shape _ _ _ _ hb
    exact .view (hp _ _ hη) h1 (by omega) hn hm hcl
  | ptr hη hb =>
    intro η' hp
    obtain ⟨c', fr', h1, h2⟩ := shape _ _ _ _ hb
    exact .ptr (hp _ _ hη) h1
  | mref hη => intro η' hp; exact .mref (hp _ _ hη)
  | pp cs hS hc hr ih =>
    intro η' _
    refine .pp cs (fun h => sub _ (hS h)) (fun j hj => ?_) (fun j => ih j (fun _ _ h => by simp at h))
    rw [cell?_of_block (keep _ (hS (by omega)))]; exact hc j hj
  | fn h1 h2 r1 r2 i1 i2 => intro η' hp; exact .fn h1 h2 (fun j => i1 j hp) (fun j => i2 j hp)

theorem Le.get {η S w η' S' w'} (h : Le η S w η' S' w') : ∀ k b : Nat, η[k]? = some b → η'[k]? = some b := by
  obtain ⟨ζ, e, -⟩ := h.pre
  intro k b hk; rw [e]; exact prefix_get hk

theorem Rel.le {η S w η' S' w'} (k : Le η S w η' S' w') {v l} (h : Rel S w η v l) : Rel S' w' η' v l := h.mono k.sub k.keep k.shape k.get

/-- A value without own rows in it: for any list of own rows. -/
theorem Rel.nil {S w η v l} (h : Rel S w [] v l) : Rel S w η v l := h.mono (fun _ h => h) (fun _ _ => rfl) (fun _ c _ fr h => ⟨c, fr, h, rfl⟩) (fun _ _ h => by simp at h)

/-- A map's block. -/
def MapAt (w : World) (b : Nat) (k : KK) (es : List (MK × Value)) : Prop :=
  ∃ ms clock, w.heap[b]? = some (.map ms clock) ∧ ms.toList.map (fun e => (e.key, e.val)) = es.map (fun e => (e.1.val, e.2)) ∧ ∀ e ∈ es, e.1.kind = k

/-- What an own row's block holds. -/
def LiveAt (η : List Nat) (S : Nat → Prop) (w : World) (b : Nat) (ls : List L) : Prop :=
  (∃ c t fr, w.heap[b]? = some (.cells c t fr) ∧ ls.length ≤ c.size ∧
    (fr.1 = fr.2 ∨ c.size ≤ fr.1) ∧ ∀ j, j < ls.length → Rel S w η (c.getD j undef) (ls.getD j .any)) ∨ ∃ k es, ls = [.mp k es] ∧ MapAt w b k es

/-- The logical heap. -/
structure Conc (η : List Nat) (S : Nat → Prop) (w : World) (H : Heap) : Prop where
  len : η.length = H.length
  lt : ∀ b ∈ η, b < w.heap.size
  Slt : ∀ b, S b → b < w.heap.size
  apart : ∀ (h : Nat) b ls, η[h]? = some b → H[h]? = some (some ls) → ¬ S b ∧ ∀ (h' : Nat) ls', η[h']? = some b → H[h']? = some (some ls') → h' = h
  liveAt : ∀ (h : Nat) b ls, η[h]? = some b → H[h]? = some (some ls) → LiveAt η S w b ls

/-- A row of cells. -/
theorem Conc.live {η S w H} (hC : Conc η S w H) {h b : Nat} {ls c0 t0 fr0} (hb : w.heap[b]? = some (.cells c0 t0 fr0)) (hη : η[h]? = some b) (hH : H[h]? = some (some ls)) :
    ∃ c t fr, w.heap[b]? = some (.cells c t fr) ∧ ls.length ≤ c.size ∧
    (fr.1 = fr.2 ∨ c.size ≤ fr.1) ∧ ∀ j, j < ls.length → Rel S w η (c.getD j undef) (ls.getD j .any) := by
  rcases hC.liveAt h b ls hη hH with h | ⟨k, es, -, ms, clock, h, -⟩
  · exact h
  · rw [h] at hb; cases hb

/-- What a block holds, when a later world has the block. -/
theorem LiveAt.mono {η S w b ls η' S' w'} (h : LiveAt η S w b ls) (hb : w'.heap[b]? = w.heap[b]?) (hr : ∀ x l, Rel S w η x l → Rel S' w' η' x l) : LiveAt η' S' w' b ls := by
  rcases h with ⟨c, t, fr, q1, q2, q3, q4⟩ | ⟨k, es, e, ms, clock, q1, q2⟩
  · exact .inl ⟨c, t, fr, hb.trans q1, q2, q3, fun j hj => hr _ _ (q4 j hj)⟩
  · exact .inr ⟨k, es, e, ms, clock, hb.trans q1, q2⟩

theorem LiveAt.some {η S w b ls} (h : LiveAt η S w b ls) : ∃ o, w.heap[b]? = some o := by
  rcases h with ⟨c, t, fr, q1, _⟩ | ⟨k, es, e, ms, clock, q1, q2⟩
  · exact ⟨_, q1⟩
  · exact ⟨_, q1⟩

def REnv (η : List Nat) (S : Nat → Prop) (w : World) (tmps : Array Value) (E : Env) : Prop := ∀ t, Rel S w η (tmps.getD t undef) (lk E t)

theorem REnv.le {η S w η' S' w'} (k : Le η S w η' S' w') {tmps E} (h : REnv η S w tmps E) : REnv η' S' w' tmps E := fun t => (h t).le k

theorem REnv.put {η S w tmps E} (h : REnv η S w tmps E) {t : Nat} (ht : t < tmps.size) {x : Value} {l : L} (hx : Rel S w η x l) :
    REnv η S w (tmps.setIfInBounds t x) ((t, l) :: E) := by
  intro u
  by_cases e : u = t
  · subst e; simp [lk, Array.getD_eq_getD_getElem?, Array.getElem?_setIfInBounds, ht]; exact hx
  · have := h u
    simp only [lk, e, if_false]
    simpa [Array.getD_eq_getD_getElem?, Array.getElem?_setIfInBounds, Ne.symm e] using this

end Lg
