import Derived.WalkKit
import Derived.ChangeKeysEq
import Derived.RangeFuncLeaves
import Derived.RangeFuncRecord
import Derived.OrdersIn
import Derived.TacticsIn
import Derived.Sort.LoopGhostIn
import Derived.Laws.IdiomCopy
/- Logical values, and what it means that a real value in a world reads as one. -/
namespace Lg
open Go
inductive MK where
 | s (bs : List UInt8)
 | i (k : IntKind) (n : Int)
 | p (k : IntKind) (a b : Int)
deriving DecidableEq
inductive KK where
 | s
 | i (k : IntKind)
 | p (k : IntKind)
deriving DecidableEq
def MK.val : MK → Value
 | .s bs => .string ⟨bs.toArray⟩
 | .i k n => .int k n
 | .p k a b => .agg #[.int k a, .int k b]
def MK.kind : MK → KK
 | .s _ => .s
 | .i k _ => .i k
 | .p k _ _ => .p k
structure RC where
 params : Array Tmp
 assign : Code
 body : Code
 n : Nat
inductive L where
 | any
 | no
 | v (x : Value)
 | sl (esz : Nat) (clip : Bool) (xs : List L)
 | agg (cs : List L)
 | tup (vs : List L)
 | view (esz h off n : Nat) (clip : Bool)
 | ptr (h off : Nat)
 | pp (cs : List L)
 | fn (f : Fn) (first cap : List L)
 | mref (h : Nat)
 | mp (k : KK) (es : List (MK × Value))
 | yl (h : Nat)
 | lp (rc : RC) (st : LoopState) (pd : Option Code) (ks : List Nat) (ts : List L)
 | cm (k : KK) (es : List (MK × Value))
 | it (k : KK) (es : List (MK × Value)) (seen : List Nat)
 | itp (h : Nat)
instance : Inhabited L := ⟨.any⟩
def L.cells : L → List L
 | .agg cs => cs
 | l => [l]
def flat (esz : Nat) (xs : List L) : List L := if esz = 1 then xs else xs.flatMap L.cells
abbrev Heap := List (Option (List L))
abbrev Env := List (Nat × L)
def lk : Env → Nat → L
 | [], _ => .any
 | (k, l) :: E, t => if t = k then l else lk E t
def Stamped (ms : Array MapEntry) (clock : Nat) : Prop := clock = ms.size ∧ ∀ (i : Nat) e, ms[i]? = some e → e.born = i
def MapAt (w : World) (b : Nat) (k : KK) (es : List (MK × Value)) : Prop :=
 ∃ ms clock, w.heap[b]? = some (.map ms clock) ∧ ms.toList.map (fun e => (e.key, e.val)) = es.map (fun e => (e.1.val, e.2)) ∧ (∀ e ∈ es, e.1.kind = k) ∧ Stamped ms clock
inductive Rel (S : Nat → Prop) (w : World) : List Nat → Value → L → Prop
 | any {η} (v) : Rel S w η v .any
 | no {η} : Rel S w η undef .no
 | v {η} (x) : Rel S w η x (.v x)
 | sl0 {η} {a : Option Addr} {cap esz clip} (h1 : clip = true → cap = 0) (h2 : cap ≤ maxLen) : Rel S w η (.slice a 0 cap) (.sl esz clip [])
 | sl {η} {b o cap esz clip xs} (cs : Nat → Value) (h2 : xs.length ≤ cap) (h3 : cap ≤ maxLen) (h4 : clip = true → cap = xs.length)
   (h5 : ∀ x ∈ xs, x.cells.length = esz ∧ (esz = 1 → x.cells = [x])) (hS : 0 < xs.length * esz → S b)
   (hc : ∀ j, j < xs.length * esz → w.cell? ⟨b, o + j, none⟩ = some (cs j))
   (hr : ∀ j, Rel S w [] (cs j) ((flat esz xs).getD j .any)) : Rel S w η (.slice (some ⟨b, o, none⟩) xs.length cap) (.sl esz clip xs)
 | agg {η} {cs : Array Value} {ls} (h : cs.size = ls.length) (hr : ∀ j, Rel S w η (cs.getD j undef) (ls.getD j .any)) : Rel S w η (.agg cs) (.agg ls)
 | tup {η} {cs : Array Value} {ls} (h : cs.size = ls.length) (hr : ∀ j, Rel S w η (cs.getD j undef) (ls.getD j .any)) : Rel S w η (.tuple cs) (.tup ls)
 | view0 {η} {a : Option Addr} {esz h off clip} : Rel S w η (.slice a 0 0) (.view esz h off 0 clip)
 | view {η} {b off n cap esz h clip c t fr} (hη : η[h]? = some b) (hb : w.heap[b]? = some (.cells c t fr)) (hsz : off + cap * esz ≤ c.size)
   (hn : n ≤ cap) (hm : cap ≤ maxLen) (hcl : clip = true → cap = n) : Rel S w η (.slice (some ⟨b, off, none⟩) n cap) (.view esz h off n clip)
 | ptr {η} {b off h c t fr} (hη : η[h]? = some b) (hb : w.heap[b]? = some (.cells c t fr)) : Rel S w η (.pointer (some ⟨b, off, none⟩)) (.ptr h off)
 | mref {η} {b h} (hη : η[h]? = some b) : Rel S w η (.map (some b)) (.mref h)
 | yl {η} {b h} (hη : η[h]? = some b) : Rel S w η (.func (.yield b) #[] #[]) (.yl h)
 | itp {η} {b h} (hη : η[h]? = some b) : Rel S w η (.pointer (some ⟨b, 0, none⟩)) (.itp h)
 | cm {η} {m k es} (hS : S m) (hm : MapAt w m k es) : Rel S w η (.map (some m)) (.cm k es)
 | pp {η} {b o ls} (cs : Nat → Value) (hS : 0 < ls.length → S b) (hc : ∀ j, j < ls.length → w.cell? ⟨b, o + j, none⟩ = some (cs j))
   (hr : ∀ j, Rel S w [] (cs j) (ls.getD j .any)) : Rel S w η (.pointer (some ⟨b, o, none⟩)) (.pp ls)
 | fn {η} {f first cap ff cc} (h1 : first.size = ff.length) (h2 : cap.size = cc.length) (r1 : ∀ j, Rel S w η (first.getD j undef) (ff.getD j .any))
   (r2 : ∀ j, Rel S w η (cap.getD j undef) (cc.getD j .any)) : Rel S w η (.func f first cap) (.fn f ff cc)
structure Le (η : List Nat) (S : Nat → Prop) (w : World) (η' : List Nat) (S' : Nat → Prop) (w' : World) : Prop where
 pre : ∃ ζ, η' = η ++ ζ ∧ ∀ b ∈ ζ, b ∈ η ∨ w.heap.size ≤ b
 sub : ∀ b, S b → S' b
 keep : ∀ b : Nat, S b → w'.heap[b]? = w.heap[b]?
 shape : ∀ (b : Nat) (c : Array Value) (t : TypeId) (fr : Nat × Nat), w.heap[b]? = some (.cells c t fr) → ∃ (c' : Array Value) (fr' : Nat × Nat), w'.heap[b]? = some (.cells c' t fr') ∧ c'.size = c.size
 size : w.heap.size ≤ w'.heap.size
 frame : ∀ b : Nat, b < w.heap.size → b ∉ η → w'.heap[b]? = w.heap[b]?
 new : ∀ b, S' b → S b ∨ b ∈ η ∨ w.heap.size ≤ b
 os : w'.os = w.os
 tape : w'.tape = w.tape
 output : w'.output = w.output
theorem Le.refl (η S w) : Le η S w η S w :=
 ⟨⟨[], by simp, by simp⟩, fun _ h => h, fun _ _ => rfl, fun _ c _ fr h => ⟨c, fr, h, rfl⟩, Nat.le_refl _, fun _ _ _ => rfl, fun _ h => .inl h, rfl, rfl, rfl⟩
theorem Le.trans {η S w η' S' w' η'' S'' w''} (h : Le η S w η' S' w') (k : Le η' S' w' η'' S'' w'') : Le η S w η'' S'' w'' := by
 obtain ⟨ζ, e1, n1⟩ := h.pre
 obtain ⟨ξ, e2, n2⟩ := k.pre
 subst e1
 have hs := h.size
 have hmem : ∀ b, b ∈ η ++ ζ → b ∈ η ∨ w.heap.size ≤ b := fun b hb => by
  rcases List.mem_append.1 hb with h | h
  ·exact .inl h
  ·exact n1 b h
 refine ⟨⟨ζ ++ ξ, by rw [e2, List.append_assoc], ?_⟩, fun b hb => k.sub b (h.sub b hb), fun b hb => (k.keep b (h.sub b hb)).trans (h.keep b hb), ?_,
  Nat.le_trans h.size k.size, ?_, ?_, k.os.trans h.os, k.tape.trans h.tape, k.output.trans h.output⟩
 ·intro b hb
  rcases List.mem_append.1 hb with hb | hb
  ·exact n1 b hb
  ·rcases n2 b hb with h' | h'
   ·exact hmem b h'
   ·exact .inr (Nat.le_trans hs h')
 ·intro b c t fr hb
  obtain ⟨c1, f1, h1, s1⟩ := h.shape b c t fr hb
  obtain ⟨c2, f2, h2, s2⟩ := k.shape b c1 t f1 h1
  exact ⟨c2, f2, h2, s2.trans s1⟩
 ·intro b hb hn
  rw [k.frame b (by omega) (fun hm => by rcases hmem b hm with h' | h'; exact hn h'; omega)]
  exact h.frame b hb hn
 ·intro b hb
  rcases k.new b hb with h' | h' | h'
  ·exact h.new b h'
  ·exact .inr (hmem b h')
  ·exact .inr (.inr (Nat.le_trans hs h'))
theorem cell?_of_block {w w' : World} {b : Nat} (h : w'.heap[b]? = w.heap[b]?) (o : Nat) : w'.cell? ⟨b, o, none⟩ = w.cell? ⟨b, o, none⟩ := by
 unfold World.cell?; simp [h]
theorem prefix_get {η ζ : List Nat} {h b : Nat} (e : η[h]? = some b) : (η ++ ζ)[h]? = some b := by
 obtain ⟨hlt, -⟩ := List.getElem?_eq_some_iff.1 e
 rw [List.getElem?_append_left hlt]; exact e
theorem Rel.mono {S S' : Nat → Prop} {w w' : World} (sub : ∀ b, S b → S' b) (keep : ∀ b : Nat, S b → w'.heap[b]? = w.heap[b]?)
  (shape : ∀ (b : Nat) (c : Array Value) (t : TypeId) (fr : Nat × Nat), w.heap[b]? = some (.cells c t fr) → ∃ (c' : Array Value) (fr' : Nat × Nat), w'.heap[b]? = some (.cells c' t fr') ∧ c'.size = c.size)
  {η : List Nat} {v : Value} {l : L} (h : Rel S w η v l) : ∀ {η' : List Nat}, (∀ k b : Nat, η[k]? = some b → η'[k]? = some b) → Rel S' w' η' v l := by
 induction h with
 | any v => intro η' _; exact .any v
 | no => intro η' _; exact .no
 | v x => intro η' _; exact .v x
 | sl0 h1 h2 => intro η' _; exact .sl0 h1 h2
 | sl cs h2 h3 h4 h5 hS hc hr ih =>
  intro η' _
  refine .sl cs h2 h3 h4 h5 (fun h => sub _ (hS h)) (fun j hj => ?_) (fun j => ih j (fun _ _ h => by simp at h))
  rw [cell?_of_block (keep _ (hS (by omega)))]; exact hc j hj
 | agg h hr ih => intro η' hp; exact .agg h fun j => ih j hp
 | tup h hr ih => intro η' hp; exact .tup h fun j => ih j hp
 | view0 => intro η' _; exact .view0
 | view hη hb hsz hn hm hcl =>
  intro η' hp
  obtain ⟨c', fr', h1, h2⟩ := shape _ _ _ _ hb
  exact .view (hp _ _ hη) h1 (by omega) hn hm hcl
 | ptr hη hb =>
  intro η' hp
  obtain ⟨c', fr', h1, h2⟩ := shape _ _ _ _ hb
  exact .ptr (hp _ _ hη) h1
 | mref hη => intro η' hp; exact .mref (hp _ _ hη)
 | yl hη => intro η' hp; exact .yl (hp _ _ hη)
 | itp hη => intro η' hp; exact .itp (hp _ _ hη)
 | cm hS hm =>
  intro η' _
  obtain ⟨ms, clock, h1, h2⟩ := hm
  exact .cm (sub _ hS) ⟨ms, clock, (keep _ hS).trans h1, h2⟩
 | pp cs hS hc hr ih =>
  intro η' _
  refine .pp cs (fun h => sub _ (hS h)) (fun j hj => ?_) (fun j => ih j (fun _ _ h => by simp at h))
  rw [cell?_of_block (keep _ (hS (by omega)))]; exact hc j hj
 | fn h1 h2 r1 r2 i1 i2 => intro η' hp; exact .fn h1 h2 (fun j => i1 j hp) (fun j => i2 j hp)
theorem Le.get {η S w η' S' w'} (h : Le η S w η' S' w') : ∀ k b : Nat, η[k]? = some b → η'[k]? = some b := by
 obtain ⟨ζ, e, -⟩ := h.pre
 intro k b hk; rw [e]; exact prefix_get hk
theorem Rel.le {η S w η' S' w'} (k : Le η S w η' S' w') {v l} (h : Rel S w η v l) : Rel S' w' η' v l := h.mono k.sub k.keep k.shape k.get
theorem Rel.nil {S w η v l} (h : Rel S w [] v l) : Rel S w η v l := h.mono (fun _ h => h) (fun _ _ => rfl) (fun _ c _ fr h => ⟨c, fr, h, rfl⟩) (fun _ _ h => by simp at h)
def LoopAt (η : List Nat) (S : Nat → Prop) (w : World) (b : Nat) (rc : RC) (st : LoopState) (pd : Option Code) (ks : List Nat) (ts : List L) : Prop :=
 ∃ r : Loop, w.heap[b]? = some (.loop r) ∧ r.state = st ∧ r.pending = pd ∧ r.params = rc.params ∧ r.assign = rc.assign ∧ r.body = rc.body ∧ r.tmps.size = rc.n ∧
  ∀ j, Rel S w η (r.tmps.getD (ks.getD j 0) undef) (ts.getD j .any)
theorem LoopAt.mono {η S w b rc st pd ks ts η' S' w'} (h : LoopAt η S w b rc st pd ks ts) (hb : w'.heap[b]? = w.heap[b]?) (hr : ∀ x l, Rel S w η x l → Rel S' w' η' x l) : LoopAt η' S' w' b rc st pd ks ts := by
 obtain ⟨r, q1, q2, q3, q4, q5, q6, q7, q8⟩ := h
 exact ⟨r, hb.trans q1, q2, q3, q4, q5, q6, q7, fun j => hr _ _ (q8 j)⟩
def IterAt (η : List Nat) (S : Nat → Prop) (w : World) (b : Nat) (k : KK) (es : List (MK × Value)) (seen : List Nat) : Prop :=
 ∃ m, w.heap[b]? = some (.mapIter (some m) es.length seen.toArray es.length) ∧ Rel S w η (.map (some m)) (.cm k es) ∧ ∀ i ∈ seen, i < es.length
def LiveAt (η : List Nat) (S : Nat → Prop) (w : World) (b : Nat) (ls : List L) : Prop :=
 (∃ c t fr, w.heap[b]? = some (.cells c t fr) ∧ ls.length ≤ c.size ∧
  (fr.1 = fr.2 ∨ c.size ≤ fr.1) ∧ ∀ j, j < ls.length → Rel S w η (c.getD j undef) (ls.getD j .any)) ∨ (∃ k es, ls = [.mp k es] ∧ MapAt w b k es) ∨ (∃ rc st pd ks ts, ls = [.lp rc st pd ks ts] ∧ LoopAt η S w b rc st pd ks ts) ∨
  ∃ k es seen, ls = [.it k es seen] ∧ IterAt η S w b k es seen
structure Conc (η : List Nat) (S : Nat → Prop) (w : World) (H : Heap) : Prop where
 len : η.length = H.length
 lt : ∀ b ∈ η, b < w.heap.size
 Slt : ∀ b, S b → b < w.heap.size
 apart : ∀ (h : Nat) b ls, η[h]? = some b → H[h]? = some (some ls) → ¬ S b ∧ ∀ (h' : Nat) ls', η[h']? = some b → H[h']? = some (some ls') → h' = h
 liveAt : ∀ (h : Nat) b ls, η[h]? = some b → H[h]? = some (some ls) → LiveAt η S w b ls
theorem Conc.live {η S w H} (hC : Conc η S w H) {h b : Nat} {ls c0 t0 fr0} (hb : w.heap[b]? = some (.cells c0 t0 fr0)) (hη : η[h]? = some b) (hH : H[h]? = some (some ls)) :
  ∃ c t fr, w.heap[b]? = some (.cells c t fr) ∧ ls.length ≤ c.size ∧
  (fr.1 = fr.2 ∨ c.size ≤ fr.1) ∧ ∀ j, j < ls.length → Rel S w η (c.getD j undef) (ls.getD j .any) := by
 rcases hC.liveAt h b ls hη hH with h | ⟨k, es, -, ms, clock, h, -⟩ | ⟨_, _, _, _, _, -, r, h, -⟩ | ⟨_, _, _, -, m, h, -⟩
 ·exact h
 ·rw [h] at hb; cases hb
 ·rw [h] at hb; cases hb
 ·rw [h] at hb; cases hb
theorem LiveAt.mono {η S w b ls η' S' w'} (h : LiveAt η S w b ls) (hb : w'.heap[b]? = w.heap[b]?) (hr : ∀ x l, Rel S w η x l → Rel S' w' η' x l) : LiveAt η' S' w' b ls := by
 rcases h with ⟨c, t, fr, q1, q2, q3, q4⟩ | ⟨k, es, e, ms, clock, q1, q2⟩ | ⟨rc, st, pd, ks, ts, e, r, q1, q2, q3, q4, q5, q6, q7, q8⟩ | ⟨k, es, seen, e, m, q1, q2, q3⟩
 ·exact .inl ⟨c, t, fr, hb.trans q1, q2, q3, fun j hj => hr _ _ (q4 j hj)⟩
 ·exact .inr (.inl ⟨k, es, e, ms, clock, hb.trans q1, q2⟩)
 ·exact .inr (.inr (.inl ⟨rc, st, pd, ks, ts, e, r, hb.trans q1, q2, q3, q4, q5, q6, q7, fun j => hr _ _ (q8 j)⟩))
 ·exact .inr (.inr (.inr ⟨k, es, seen, e, m, hb.trans q1, hr _ _ q2, q3⟩))
theorem LiveAt.some {η S w b ls} (h : LiveAt η S w b ls) : ∃ o, w.heap[b]? = some o := by
 rcases h with ⟨c, t, fr, q1, _⟩ | ⟨k, es, e, ms, clock, q1, q2⟩ | ⟨_, _, _, _, _, -, r, q1, _⟩ | ⟨_, _, _, -, m, q1, _⟩
 ·exact ⟨_, q1⟩
 ·exact ⟨_, q1⟩
 ·exact ⟨_, q1⟩
 ·exact ⟨_, q1⟩
def REnv (η : List Nat) (S : Nat → Prop) (w : World) (tmps : Array Value) (E : Env) : Prop := ∀ t, Rel S w η (tmps.getD t undef) (lk E t)
theorem REnv.le {η S w η' S' w'} (k : Le η S w η' S' w') {tmps E} (h : REnv η S w tmps E) : REnv η' S' w' tmps E := fun t => (h t).le k
theorem REnv.put {η S w tmps E} (h : REnv η S w tmps E) {t : Nat} (ht : t < tmps.size) {x : Value} {l : L} (hx : Rel S w η x l) :
  REnv η S w (tmps.setIfInBounds t x) ((t, l) :: E) := by
 intro u
 by_cases e : u = t
 ·subst e; simp [lk, Array.getD_eq_getD_getElem?, ht]; exact hx
 ·have := h u
  simp only [lk, e, if_false]
  simpa [Array.getD_eq_getD_getElem?, Array.getElem?_setIfInBounds, Ne.symm e] using this
end Lg


/- A small language with sizes resolved, and what must hold ahead of it, on logical states. -/
namespace Lg
open Go
inductive A where
 | t (n : Nat)
 | c (l : L)
def arg (E : Env) : A → L
 | .t n => lk E n
 | .c l => l
inductive I where
 | mov (x : A)
 | pick (c a b : A)
 | alloc (z : L)
 | box (x : A)
 | build (z : List L) (parts : List (Nat × Nat × A))
 | bslice (esz : Nat) (z : List L) (n : Nat) (parts : List (Nat × Nat × A))
 | load (sz : Nat) (ag : Bool) (x : A)
 | store (sz : Nat) (x y : A)
 | nilchk (x : A)
 | bin (op : BinOp) (isb : Bool) (x y : A)
 | un (op : UnOp) (x : A)
 | conv (k : IntKind) (x : A)
 | sames (x : A)
 | field (off sz : Nat) (ag : Bool) (x : A)
 | faddr (off : Nat) (x : A)
 | iaddr (esz : Nat) (x i : A)
 | iaddrA (n esz : Nat) (x i : A)
 | idx (n esz : Nat) (ag : Bool) (x i : A)
 | slice (esz : Nat) (x : A) (lo hi mx : Option A)
 | sliceA (n esz : Nat) (x : A) (lo hi mx : Option A)
 | mksl (esz bytes : Nat) (z : List L) (n c : A)
 | mkfn (f : Fn) (first cap : List A)
 | extract (x : A) (i : Nat)
 | len (str : Bool) (x : A)
 | append (esz bytes : Nat) (z : List L) (x y : A)
 | copy (esz : Nat) (x y : A)
 | mm (mx : Bool) (x : A) (xs : List A)
 | call (f : Nat) (xs : List A)
 | calld (x : A) (xs : List A)
 | b2s (x : A)
 | sidx (x i : A)
 | isnil (neg : Bool) (x : A)
 | s2ap (n : Nat) (x : A)
 | eq2 (k : IntKind) (x y : A)
 | mkmap (k : KK)
 | mset (k : KK) (x y z : A)
 | mget (k : KK) (comma : Bool) (z : Value) (x y : A)
 | mlen (x : A)
 | r2s (x : A)
 | cap (x : A)
 | appz (esz bytes : Nat) (x n : A)
 | rng (x : A)
 | nxt (x : A)
 | ent (x : A)
structure O where
 dst : Option Nat
 op : I
 guard : Option (Nat × Bool)
inductive OT where
 | done
 | none
 | alt (o : O) (t more : OT)
inductive IR where
 | skip
 | pan
 | drawN (pure : List O) (t : OT)
 | drawS (pure : List O) (t : OT)
 | ops (l : List O)
 | draw (bs : List (List O))
 | range (g : A) (ks : List Nat) (rc : RC)
 | drawF (bs : List (List Nat × List O))
 | seq (a b : IR)
 | cond (c : A) (a b : IR)
 | block (id : Nat) (b : IR)
 | loop (b : IR)
 | exit (id : Nat)
 | ret
 | scope (l : Nat) (b rest : IR)
 | label (l : Nat)
 | goto (l : Nat)
def optK {α : Type} (o : Option α) (K : α → Prop) : Prop := ∃ a, o = some a ∧ K a
@[simp] theorem optK_some {α : Type} (a : α) (K : α → Prop) : optK (some a) K = K a := by simp [optK]
@[simp] theorem optK_none {α : Type} (K : α → Prop) : optK none K = False := by simp [optK]
@[simp] theorem optK_none_ite {α : Type} (c : Prop) [Decidable c] (x : Option α) (K : α → Prop) : optK (if c then none else x) K = (¬ c ∧ optK x K) := by
 by_cases h : c <;> simp [h]
@[simp] theorem optK_ite_none {α : Type} (c : Prop) [Decidable c] (x : Option α) (K : α → Prop) : optK (if c then x else none) K = (c ∧ optK x K) := by
 by_cases h : c <;> simp [h]
theorem optK_ite {α : Type} (c : Prop) [Decidable c] (x y : Option α) (K : α → Prop) : optK (if c then x else y) K = ((c → optK x K) ∧ (¬ c → optK y K)) := by
 by_cases h : c <;> simp [h]
def bitsI (op : BinOp) (k : IntKind) (x y : Int) : Int :=
 let a := BitVec.ofInt k.bits x
 let b := BitVec.ofInt k.bits y
 k.wrap ((match op with | .and => a &&& b | .or => a ||| b | .xor => a ^^^ b | _ => a &&& ~~~b) : BitVec k.bits).toNat
def shlI (k : IntKind) (x y : Int) : Int := k.wrap (x * 2 ^ (min y.toNat k.bits))
def shrI (k : IntKind) (x y : Int) : Int := x.fdiv (2 ^ (min y.toNat k.bits))
def binInt (op : BinOp) (k : IntKind) (a : Int) (k' : IntKind) (b : Int) : Option L :=
 match op with
 | .shl => if b < 0 then none else some (.v (.int k (shlI k a b)))
 | .shr => if b < 0 then none else some (.v (.int k (shrI k a b)))
 | .add => if k = k' then some (.v (.int k (k.wrap (a + b)))) else none
 | .sub => if k = k' then some (.v (.int k (k.wrap (a - b)))) else none
 | .mul => if k = k' then some (.v (.int k (k.wrap (a * b)))) else none
 | .quo => if k = k' then (if b = 0 then none else some (.v (.int k (k.wrap (a.tdiv b))))) else none
 | .rem => if k = k' then (if b = 0 then none else some (.v (.int k (a.tmod b)))) else none
 | .and => if k = k' then some (.v (.int k (bitsI .and k a b))) else none
 | .or => if k = k' then some (.v (.int k (bitsI .or k a b))) else none
 | .xor => if k = k' then some (.v (.int k (bitsI .xor k a b))) else none
 | .andNot => if k = k' then some (.v (.int k (bitsI .andNot k a b))) else none
 | .eql => if k = k' then some (.v (.bool (decide (a = b)))) else none
 | .neq => if k = k' then some (.v (.bool (decide (a ≠ b)))) else none
 | .lss => if k = k' then some (.v (.bool (decide (a < b)))) else none
 | .leq => if k = k' then some (.v (.bool (decide (a ≤ b)))) else none
 | .gtr => if k = k' then some (.v (.bool (decide (b < a)))) else none
 | .geq => if k = k' then some (.v (.bool (decide (b ≤ a)))) else none
def binBool (op : BinOp) (a b : Bool) : Option L :=
 match op with
 | .eql => some (.v (.bool (a == b)))
 | .neq => some (.v (.bool (a != b)))
 | _ => none
def binStr (op : BinOp) (a b : ByteArray) : Option L :=
 match op with
 | .eql => some (.v (.bool (decide (a.toList = b.toList))))
 | .neq => some (.v (.bool (decide (a.toList ≠ b.toList))))
 | .lss => some (.v (.bool (Op.bytesLess a.toList b.toList)))
 | .add => if a.size + b.size ≤ 9223372036854775807 then some (.v (.string ⟨(a.data.toList ++ b.data.toList).toArray⟩)) else none
 | _ => none
def binL (op : BinOp) (isb : Bool) : L → L → Option L
 | .v (.int k a), .v (.int k' b) => binInt op k a k' b
 | .v (.bool a), .v (.bool b) => if isb = true then binBool op a b else none
 | .v (.string a), .v (.string b) => binStr op a b
 | _, _ => none
def unL (op : UnOp) : L → Option L
 | .v (.bool b) => match op with | .not => some (.v (.bool !b)) | _ => none
 | .v (.int k n) => match op with
  | .neg => some (.v (.int k (k.wrap (0 - n))))
  | .xor => some (.v (.int k (bitsI .xor k (if k.signed then -1 else k.max) n)))
  | _ => none
 | _ => none
def solid : L → Bool
 | .any | .no | .agg _ | .tup _ | .mp .. | .yl _ | .lp .. | .it .. | .itp _ => false
 | .v x => x.oneCell'
 | _ => true
def topOK : L → Bool
 | .agg cs => cs.all solid
 | l => solid l
def closed : L → Bool
 | .view .. | .ptr .. | .agg _ | .tup _ | .fn .. | .mref _ | .mp .. | .yl _ | .lp .. | .it .. | .itp _ => false
 | _ => true
def setCells (ls : List L) (o : Nat) : List L → List L
 | [] => ls
 | x :: xs => setCells (ls.set o x) (o + 1) xs
def lfill (cells : List L) : List (Nat × Nat × L) → Option (List L)
 | [] => some cells
 | (off, size, l) :: rest => if topOK l = true ∧ l.cells.length = size ∧ off + size ≤ cells.length then lfill (setCells cells off l.cells) rest else none
def chunk (n esz : Nat) (cs : List L) : List L := if esz = 1 then cs.take n else (List.range n).map fun i => .agg ((cs.drop (i * esz)).take esz)
def live (H : Heap) (h : Nat) : Option (List L) := (H[h]?).join
def lcells (esz : Nat) (H : Heap) : L → Option (List L)
 | .sl e _ xs => if e = esz then some (flat esz xs) else none
 | .v (.slice none 0 0) => some []
 | .view e h off n _ => if e = esz then (match live H h with | some cs => if off + n * esz ≤ cs.length then some ((cs.drop off).take (n * esz)) else none | none => none) else none
 | _ => none
def loadL (sz : Nat) (ag : Bool) (H : Heap) : L → Option L
 | .pp cs => if ag = true then (if sz ≤ cs.length then some (.agg (cs.take sz)) else none) else cs[0]?
 | .ptr h off => match live H h with
  | some cs => if ag = true then (if off + sz ≤ cs.length then some (.agg ((cs.drop off).take sz)) else none) else cs[off]?
  | none => none
 | _ => none
def storeL (sz : Nat) (H : Heap) (x y : L) : Option Heap :=
 match x with
 | .ptr h off => match live H h with
  | some cs => if topOK y = true ∧ y.cells.length = sz ∧ off + sz ≤ cs.length then some (H.set h (some (setCells cs off y.cells))) else none
  | none => none
 | _ => none
def fieldL (off sz : Nat) (ag : Bool) : L → Option L
 | .agg cs => if ag = true then (if off + sz ≤ cs.length then some (.agg ((cs.drop off).take sz)) else none) else cs[off]?
 | _ => none
def faddrL (off : Nat) : L → Option L
 | .pp cs => some (.pp (cs.drop off))
 | .ptr h o => some (.ptr h (o + off))
 | _ => none
def iaddrL (esz : Nat) (i : L) : L → Option L
 | .sl e _ xs => match i with
  | .v (.int _ n) => if e = esz ∧ 0 ≤ n then (xs[n.toNat]?).map fun x => .pp x.cells else none
  | _ => none
 | .view e h off n _ => match i with
  | .v (.int _ m) => if e = esz ∧ 0 ≤ m ∧ m < (n : Int) then some (.ptr h (off + m.toNat * esz)) else none
  | _ => none
 | _ => none
def iaddrAL (len esz : Nat) (i : L) : L → Option L
 | .ptr h off => match i with
  | .v (.int _ m) => if 0 ≤ m ∧ m < (len : Int) then some (.ptr h (off + m.toNat * esz)) else none
  | _ => none
 | .pp cs => match i with
  | .v (.int _ m) => if 0 ≤ m ∧ m < (len : Int) then some (.pp (cs.drop (m.toNat * esz))) else none
  | _ => none
 | _ => none
def idxL (len esz : Nat) (ag : Bool) (i : L) : L → Option L
 | .agg cs => match i with
  | .v (.int _ m) => if 0 ≤ m ∧ m < (len : Int) then (if ag = true then (if m.toNat * esz + esz ≤ cs.length then some (.agg ((cs.drop (m.toNat * esz)).take esz)) else none) else cs[m.toNat * esz]?) else none
  | _ => none
 | _ => none
def bnds (len : Nat) (clip : Bool) (lo hi mx : Option L) : Option (Nat × Nat × Bool) :=
 let h : Option Nat := match hi with
  | none => some len
  | some (.v (.int _ n)) => if 0 ≤ n ∧ n ≤ (len : Int) then some n.toNat else none
  | _ => none
 let l : Option Nat := match lo with
  | none => some 0
  | some (.v (.int _ n)) => if 0 ≤ n then some n.toNat else none
  | _ => none
 let m : Option (Option Nat) := match mx with
  | none => some none
  | some (.v (.int _ n)) => if 0 ≤ n ∧ n ≤ (len : Int) then some (some n.toNat) else none
  | _ => none
 match l, h, m with
 | some l, some h, some none => if l ≤ h then some (l, h, if h = len then clip else false) else none
 | some l, some h, some (some m) => if l ≤ h ∧ h ≤ m then some (l, h, if m = h then true else false) else none
 | _, _, _ => none
def sliceL (esz : Nat) (lo hi mx : Option L) : L → Option L
 | .sl e clip xs => if e = esz then (bnds xs.length clip lo hi mx).map fun r => .sl esz r.2.2 ((xs.take r.2.1).drop r.1) else none
 | .view e h off n clip => if e = esz then (bnds n clip lo hi mx).map fun r => .view esz h (off + r.1 * esz) (r.2.1 - r.1) r.2.2 else none
 | .v (.slice none 0 0) => (bnds 0 true lo hi mx).map fun r => .sl esz r.2.2 []
 | _ => none
def sliceAL (n esz : Nat) (lo hi mx : Option L) (H : Heap) : L → Option L
 | .ptr h off => match live H h with
  | some cs => if off + n * esz ≤ cs.length ∧ n ≤ 9223372036854775807 then (bnds n true lo hi mx).map fun r => .view esz h (off + r.1 * esz) (r.2.1 - r.1) r.2.2 else none
  | none => none
 | _ => none
def lenL (str : Bool) : L → Option L
 | .sl _ _ xs => if str = false then some (.v (.int .i64 xs.length)) else none
 | .view _ _ _ n _ => if str = false then some (.v (.int .i64 n)) else none
 | .v (.slice none 0 0) => if str = false then some (.v (.int .i64 0)) else none
 | .v (.string s) => if str = true then some (.v (.int .i64 s.size)) else none
 | _ => none
def zeros (n : Nat) (z : List L) : List L := (List.replicate n z).flatten
def mkslL (esz bytes : Nat) (z : List L) (n c : L) (H : Heap) : Option (L × Heap) :=
 match n, c with
 | .v (.int .i64 n), .v (.int .i64 c) =>
  if 0 ≤ n ∧ n ≤ c ∧ c * bytes ≤ 281474976710656 ∧ c ≤ 9223372036854775807 then some (.view esz H.length 0 n.toNat (decide (n = c)), H ++ [some (zeros c.toNat z)]) else none
 | _, _ => none
def appendL (esz bytes : Nat) (x y : L) (H : Heap) : Option (L × Heap) :=
  match lcells esz H y with
  | none => none
  | some ys =>
    if esz ∣ ys.length ∧ ys.all solid = true then
      match x with
      | .v (.slice none 0 0) =>
        if ys.length = 0 then some (x, H)
        else if ys.length * bytes ≤ 70368744177664 then some (.view esz H.length 0 (ys.length / esz) false, H ++ [some ys]) else none
      | .sl e true xs =>
        if e = esz then
          (if ys.length = 0 then some (x, H)
           else if ((flat esz xs).length + ys.length) * bytes ≤ 70368744177664 then some (.view esz H.length 0 (xs.length + ys.length / esz) false, H ++ [some (flat esz xs ++ ys)]) else none)
        else none
      | .view e h 0 n _ =>
        if e = esz then
          (match live H h with
           | some cs => if cs.length = n * esz ∧ (cs.length + ys.length) * bytes ≤ 70368744177664 then some (.view esz H.length 0 (n + ys.length / esz) false, H.set h none ++ [some (cs ++ ys)]) else none
           | none => none)
        else none
      | _ => none
    else none
def copyL (esz : Nat) (x y : L) (H : Heap) : Option (L × Heap) :=
  match lcells esz H y, x with
  | some ys, .view e h off n _ =>
    if e = esz then
      (match live H h with
       | some cs => if off + n * esz ≤ cs.length ∧ ys.all solid = true then some (.v (.int .i64 ((min (ys.length / esz) n : Nat) : Int)), H.set h (some (setCells cs off (ys.take (min (ys.length / esz) n * esz))))) else none
       | none => none)
    else none
  | _, _ => none
def mmL (mx : Bool) : L → List L → Option L
 | .v (.int k x), [] => some (.v (.int k x))
 | .v (.int k x), .v (.int _ y) :: rest => mmL mx (.v (.int k (if mx = true then (if y > x then y else x) else (if y < x then y else x)))) rest
 | _, _ => none
def toBytes : List L → Option (List UInt8)
 | [] => some []
 | .v (.int .u8 n) :: ls => (toBytes ls).map (UInt8.ofNat n.toNat :: ·)
 | _ => none
def keyOf : L → Option MK
 | .v (.string s) => some (.s s.data.toList)
 | .v (.int k n) => some (.i k n)
 | .agg [.v (.int k a), .v (.int k' b)] => if k = k' then some (.p k a b) else none
 | _ => none
def mlook : List (MK × Value) → MK → Option Value
 | [], _ => none
 | (k, v) :: es, x => if k = x then some v else mlook es x
def mput : List (MK × Value) → MK → Value → List (MK × Value)
 | [], x, v => [(x, v)]
 | (k, u) :: es, x, v => if k = x then (x, v) :: es else (k, u) :: mput es x v
def mrow (k : KK) (H : Heap) : L → Option (Nat × List (MK × Value))
 | .mref h => match live H h with
  | some [.mp k' es] => if k' = k then some (h, es) else none
  | _ => none
 | _ => none
def anyMrow (H : Heap) : L → Option (List (MK × Value))
 | .mref h => match live H h with
  | some [.mp _ es] => some es
  | _ => none
 | .cm _ es => some es
 | _ => none
def mesL (k : KK) (H : Heap) : L → Option (List (MK × Value))
 | .cm k' es => if k' = k then some es else none
 | x => (mrow k H x).map (·.2)
def scalar : L → Option Value
 | .v (.bool b) => some (.bool b)
 | .v (.int k n) => some (.int k n)
 | _ => none
def msetL (k : KK) (H : Heap) (x y z : L) : Option (L × Heap) :=
 (mrow k H x).bind fun r => (keyOf y).bind fun key => (scalar z).bind fun v => if key.kind = k then some (.no, H.set r.1 (some [.mp k (mput r.2 key v)])) else none
def mgetR (comma : Bool) (z : Value) : Option Value → L
 | some v => if comma = true then .tup [.v v, .v (.bool true)] else .v v
 | none => if comma = true then .tup [.v z, .v (.bool false)] else .v z
def mgetL (k : KK) (comma : Bool) (z : Value) (H : Heap) (x y : L) : Option L :=
 (mesL k H x).bind fun es => (keyOf y).bind fun key => if key.kind = k then some (mgetR comma z (mlook es key)) else none
def keyL : MK → L
 | .s bs => .v (.string ⟨bs.toArray⟩)
 | .i k n => .v (.int k n)
 | .p k a b => .agg [.v (.int k a), .v (.int k b)]
def entL (H : Heap) : L → Option L
 | .itp h => match live H h with
  | some [.it _ es seen] => seen.getLast?.bind fun i => (es[i]?).map fun e => .tup [keyL e.1, .v e.2]
  | _ => none
 | _ => none
def r2sL : L → Option L
 | .v (.int _ n) => if 0 ≤ n ∧ n < 128 then some (.v (.string ⟨#[UInt8.ofNat n.toNat]⟩)) else none
 | _ => none
def lopO (op : I) (E : Env) (H : Heap) : Option (L × Heap) :=
 match op with
 | .mov x => some (arg E x, H)
 | .pick c a b => match arg E c with
  | .v (.bool t) => some (if t = true then arg E a else arg E b, H)
  | _ => none
 | .alloc z => some (.ptr H.length 0, H ++ [some z.cells])
 | .box x => if topOK (arg E x) = true then some (.ptr H.length 0, H ++ [some (arg E x).cells]) else none
 | .build z parts => (lfill z (parts.map fun p => (p.1, p.2.1, arg E p.2.2))).map fun cs => (.agg cs, H)
 | .bslice esz z n parts => (lfill (zeros n z) (parts.map fun p => (p.1, p.2.1, arg E p.2.2))).map fun cs => (.view esz H.length 0 n true, H ++ [some cs])
 | .load sz ag x => (loadL sz ag H (arg E x)).map fun l => (l, H)
 | .store sz x y => (storeL sz H (arg E x) (arg E y)).map fun H' => (.no, H')
 | .nilchk x => match arg E x with
  | .ptr h o => some (.ptr h o, H)
  | .pp cs => some (.pp cs, H)
  | _ => none
 | .bin op isb x y => (binL op isb (arg E x) (arg E y)).map fun l => (l, H)
 | .un op x => (unL op (arg E x)).map fun l => (l, H)
 | .conv k x => match arg E x with
  | .v (.int _ n) => some (.v (.int k (k.wrap n)), H)
  | _ => none
 | .sames x => match arg E x with
  | .view e h off n cl => if 0 < n ∧ (live H h).isSome = true then some (.view e h off n cl, H) else none
  | _ => none
 | .field off sz ag x => (fieldL off sz ag (arg E x)).map fun l => (l, H)
 | .faddr off x => (faddrL off (arg E x)).map fun l => (l, H)
 | .iaddr esz x i => (iaddrL esz (arg E i) (arg E x)).map fun l => (l, H)
 | .iaddrA n esz x i => (iaddrAL n esz (arg E i) (arg E x)).map fun l => (l, H)
 | .idx n esz ag x i => (idxL n esz ag (arg E i) (arg E x)).map fun l => (l, H)
 | .slice esz x lo hi mx => (sliceL esz (lo.map (arg E)) (hi.map (arg E)) (mx.map (arg E)) (arg E x)).map fun l => (l, H)
 | .sliceA n esz x lo hi mx => (sliceAL n esz (lo.map (arg E)) (hi.map (arg E)) (mx.map (arg E)) H (arg E x)).map fun l => (l, H)
 | .mksl esz bytes z n c => mkslL esz bytes z (arg E n) (arg E c) H
 | .mkfn f first cap => some (.fn f (first.map (arg E)) (cap.map (arg E)), H)
 | .extract x i => match arg E x with
  | .tup vs => (vs[i]?).map fun l => (l, H)
  | _ => none
 | .len str x => (lenL str (arg E x)).map fun l => (l, H)
 | .append esz bytes _ x y => appendL esz bytes (arg E x) (arg E y) H
 | .copy esz x y => copyL esz (arg E x) (arg E y) H
 | .mm mx x xs => (mmL mx (arg E x) (xs.map (arg E))).map fun l => (l, H)
 | .eq2 k x y => match arg E x, arg E y with
  | .agg [.v (.int k1 a), .v (.int k2 b)], .agg [.v (.int k3 c), .v (.int k4 d)] => if k1 = k ∧ k2 = k ∧ k3 = k ∧ k4 = k then some (.v (.bool (decide (a = c ∧ b = d))), H) else none
  | _, _ => none
 | .s2ap n x => match arg E x with
  | .view _ h off len _ => if 0 < n ∧ n ≤ len then some (.ptr h off, H) else none
  | .sl e _ xs => if 0 < n ∧ n ≤ xs.length then some (.pp (flat e xs), H) else none
  | _ => none
 | .mkmap k => some (.mref H.length, H ++ [some [.mp k []]])
 | .mset k x y z => msetL k H (arg E x) (arg E y) (arg E z)
 | .mget k comma z x y => (mgetL k comma z H (arg E x) (arg E y)).map fun l => (l, H)
 | .mlen x => (anyMrow H (arg E x)).map fun es => (.v (.int .i64 es.length), H)
 | .r2s x => (r2sL (arg E x)).map fun l => (l, H)
 | .cap x => match arg E x with
  | .v (.slice none 0 0) => some (.v (.int .i64 0), H)
  | _ => none
 | .appz esz bytes x n => match arg E x, arg E n with
  | .v (.slice none 0 0), .v (.int .i64 k) => if 0 < k ∧ k * bytes ≤ 70368744177664 then some (.view esz H.length 0 k.toNat false, H ++ [some []]) else none
  | .sl _ true [], .v (.int .i64 k) => if 0 < k ∧ k * bytes ≤ 70368744177664 then some (.view esz H.length 0 k.toNat false, H ++ [some []]) else none
  | _, _ => none
 | .rng x => match arg E x with
  | .cm k es => some (.itp H.length, H ++ [some [.it k es []]])
  | _ => none
 | .ent x => (entL H (arg E x)).map fun l => (l, H)
 | .b2s x => ((lcells 1 H (arg E x)).bind toBytes).map fun bs => (.v (.string ⟨bs.toArray⟩), H)
 | _ => none
end Lg


/- From the program's code to the small language; what must hold ahead of a piece of code, on logical states. -/
namespace Lg
open Go
def szOf (P : Program) (t : TypeId) : Option Nat := (P.info? t).map (·.size)
def isAggT (P : Program) (t : TypeId) : Option Bool :=
 match P.underlying t with
 | some (.struct _) | some (.array _ _) => some true
 | some _ => some false
 | none => none
def ofV : Value → L
 | .agg cs => .agg (cs.toList.map .v)
 | x => .v x
def zeroOf (P : Program) (t : TypeId) : Option L := ((P.info? t).bind (·.zero)).map ofV
def compA : Operand → Option A
 | .tmp t => some (.t t)
 | .const v => some (.c (ofV v))
 | .func f => some (.c (.fn (.func f) [] []))
 | .global _ => none
def okF (P : Program) (f : FuncId) : Bool :=
 match P.funcs[f]? with
 | some fn => fn.body.isSome && fn.name != "runtime.NumGoroutine"
 | none => false
def compAs : List Operand → Option (List A)
 | [] => some []
 | x :: xs => (compA x).bind fun a => (compAs xs).map (a :: ·)
def compOA : Option Operand → Option (Option A)
 | none => some none
 | some x => (compA x).map some
def compParts (place : Nat → Option (Nat × Nat)) : List (Nat × Operand) → Option (List (Nat × Nat × A))
 | [] => some []
 | (i, x) :: rest => (place i).bind fun p => (compA x).bind fun a => (compParts place rest).map ((p.1, p.2, a) :: ·)
def fieldPl (P : Program) (fs : Array Field) (i : Nat) : Option (Nat × Nat) := (fs[i]?).bind fun f => (szOf P f.type).map fun s => (f.offset, s)
def compCall (P : Program) (c : Call) : Option I :=
 match c.callee with
 | .value (.func f) => if okF P f then (compAs c.args.toList).map (.call f) else none
 | .value (.tmp t) => (compAs c.args.toList).map (.calld (.t t))
 | .builtin .len => match c.argTypes.toList, c.args.toList with
  | [t], [x] => match P.underlying t with
   | some (.slice _) => (compA x).map (.len false)
   | some .string => (compA x).map (.len true)
   | some (.array n _) => some (.mov (.c (.v (.int .i64 n))))
   | some (.map _ _) => (compA x).map .mlen
   | _ => none
  | _, _ => none
 | .builtin .append => match c.argTypes.toList, c.args.toList with
  | [t, u], [x, y] => match P.underlying t, P.underlying u with
   | some (.slice e), some (.slice _) => (P.info? e).bind fun i => i.zero.bind fun z => if i.size = 0 ∨ i.bytes = 0 ∨ z.cells.size ≠ i.size then none else (compA x).bind fun a => (compA y).map fun b => .append i.size i.bytes (ofV z).cells a b
   | some (.slice e), some (.int .i64) => (P.info? e).bind fun i => i.zero.bind fun z => if i.size = 0 ∨ i.bytes = 0 ∨ z.cells.size ≠ i.size then none else (compA x).bind fun a => (compA y).map fun b => .appz i.size i.bytes a b
   | _, _ => none
  | _, _ => none
 | .builtin .cap => match c.argTypes.toList, c.args.toList with
  | [t], [x] => match P.underlying t with
   | some (.slice _) => (compA x).map .cap
   | _ => none
  | _, _ => none
 | .builtin .copy => match c.argTypes.toList, c.args.toList with
  | [t, u], [x, y] => match P.underlying t, P.underlying u with
   | some (.slice e), some (.slice _) => (szOf P e).bind fun s => if s = 0 then none else (compA x).bind fun a => (compA y).map fun b => .copy s a b
   | _, _ => none
  | _, _ => none
 | .builtin .max => match c.args.toList with
  | x :: xs => (compA x).bind fun a => (compAs xs).map fun as => .mm true a as
  | _ => none
 | .builtin .min => match c.args.toList with
  | x :: xs => (compA x).bind fun a => (compAs xs).map fun as => .mm false a as
  | _ => none
 | _ => none
def nilCmp (P : Program) (op : BinOp) (t : TypeId) : Operand → Bool
 | .const (.slice none 0 0) => (match P.underlying t with | some (.slice _) => true | _ => false) && (op == .eql || op == .neq)
 | _ => false
def eq2K (P : Program) (op : BinOp) (t : TypeId) : Option IntKind :=
 if op == .eql then
  match P.underlying t with
  | some (.array 2 e) => match P.underlying e with
   | some (.int k) => if (P.info? e).isSome && P.cellsOf e == 1 && P.plainKey e && !P.eqGuardType P.depth t then some k else none
   | _ => none
  | _ => none
 else none
def pairK (P : Program) (t : TypeId) : Option IntKind :=
 match P.underlying t with
 | some (.array 2 e) => match P.underlying e with
  | some (.int k) => if (P.info? e).isSome && P.cellsOf e == 1 && P.plainKey e then some k else none
  | _ => none
 | some (.struct fs) => match fs.toList with
  | [f, g] => match P.underlying f.type, P.underlying g.type with
   | some (.int k), some (.int k') => if k == k' && f.name != "_" && g.name != "_" && f.offset == 0 && g.offset == 1 && P.plainKey f.type && P.plainKey g.type && !P.stoodInHeld t then some k else none
   | _, _ => none
  | _ => none
 | _ => none
def mapK (P : Program) (t : TypeId) : Option KK :=
 match P.underlying t with
 | some (.map kt _) => match P.underlying kt with
  | some .string => some .s
  | some (.int k) => some (.i k)
  | some (.array _ _) => (pairK P kt).map .p
  | some (.struct _) => (pairK P kt).map .p
  | _ => none
 | _ => none
def mapZ (P : Program) (t : TypeId) : Option Value :=
 match P.underlying t with
 | some (.map _ et) => (P.info? et).bind fun i => i.zero.bind fun z => match z with
  | .bool b => some (.bool b)
  | .int k n => some (.int k n)
  | _ => none
 | _ => none
def compOp (P : Program) (op : Op) : Option I :=
 match op with
 | .move x => (compA x).map .mov
 | .assign x => (compA x).map .mov
 | .pick c a b => (compA c).bind fun c => (compA a).bind fun a => (compA b).map fun b => .pick c a b
 | .alloc t => (zeroOf P t).map .alloc
 | .box _ x => (compA x).map .box
 | .build t parts => (P.info? t).bind fun i => i.zero.bind fun z =>
  match P.underlying t with
  | some (.struct fs) => if fs.all (fun f => (szOf P f.type).isSome) then (compParts (fieldPl P fs) parts.toList).map fun ps => .build (ofV z).cells ps else none
  | some (.array _ e) => (szOf P e).bind fun s => (compParts (fun i => some (i * s, s)) parts.toList).map fun ps => .build (ofV z).cells ps
  | _ => none
 | .buildSlice t n parts =>
  match P.underlying t with
  | some (.slice e) => (P.info? e).bind fun i => i.zero.bind fun z =>
   if i.size = 0 ∨ n * i.size > 2 ^ 24 ∨ z.cells.size ≠ i.size then none else (compParts (fun j => some (j * i.size, i.size)) parts.toList).map fun ps => .bslice i.size (ofV z).cells n ps
  | _ => none
 | .load t x => (szOf P t).bind fun s => (isAggT P t).bind fun ag => (compA x).map fun a => .load s ag a
 | .store t x y => (szOf P t).bind fun s => (compA x).bind fun a => (compA y).map fun b => .store s a b
 | .nilCheck x => (compA x).map .nilchk
 | .binOp op t x y _ => if nilCmp P op t y = true then (compA x).map (.isnil (op == .neq)) else match eq2K P op t with
  | some k => (compA x).bind fun a => (compA y).map fun b => .eq2 k a b
  | none => (compA x).bind fun a => (compA y).map fun b => .bin op (match P.underlying t with | some .bool => true | _ => false) a b
 | .unOp op _ x => (compA x).map (.un op)
 | .convert src dst x =>
  match P.underlying src, P.underlying dst with
  | some (.int _), some (.int k) => (compA x).map (.conv k)
  | some (.slice _), some (.slice e) => match P.underlying e with
   | some (.int .u8) => if src == dst then (compA x).map .sames else none
   | _ => none
  | some (.slice e), some .string => match P.underlying e with
   | some (.int .u8) => (compA x).map .b2s
   | _ => none
  | some (.int _), some .string => (compA x).map .r2s
  | _, _ => none
 | .makeFunc f first cap => (compAs first.toList).bind fun a => (compAs cap.toList).map fun b => .mkfn f a b
 | .makeSlice t l c =>
  match P.underlying t with
  | some (.slice e) => (P.info? e).bind fun i => i.zero.bind fun z => if i.size = 0 ∨ z.cells.size ≠ i.size then none else (compA l).bind fun a => (compA c).map fun b => .mksl i.size i.bytes (ofV z).cells a b
  | _ => none
 | .slice t x lo hi mx =>
  match P.underlying t with
  | some (.slice e) => (szOf P e).bind fun s => if s = 0 then none else (compA x).bind fun a => (compOA lo).bind fun l => (compOA hi).bind fun h => (compOA mx).bind fun m => if m.isSome && h.isNone then none else some (.slice s a l h m)
  | some (.array n e) => (szOf P e).bind fun s => if s = 0 then none else (compA x).bind fun a => (compOA lo).bind fun l => (compOA hi).bind fun h => (compOA mx).bind fun m => if m.isSome && h.isNone then none else some (.sliceA n s a l h m)
  | _ => none
 | .fieldAddr t x f =>
  match P.underlying t with
  | some (.struct fs) => (fs[f]?).bind fun fl => (szOf P fl.type).bind fun s => if s = 0 then none else (compA x).map (.faddr fl.offset)
  | _ => none
 | .field t x f =>
  match P.underlying t with
  | some (.struct fs) => (fs[f]?).bind fun fl => (szOf P fl.type).bind fun s => (isAggT P fl.type).bind fun ag => (compA x).map (.field fl.offset s ag)
  | _ => none
 | .indexAddr t x i =>
  match P.underlying t with
  | some (.slice e) => (szOf P e).bind fun s => if s = 0 then none else (compA x).bind fun a => (compA i).map fun b => .iaddr s a b
  | some (.array n e) => (szOf P e).bind fun s => if s = 0 then none else (compA x).bind fun a => (compA i).map fun b => .iaddrA n s a b
  | _ => none
 | .index t x i =>
  match P.underlying t with
  | some (.array n e) => (szOf P e).bind fun s => (isAggT P e).bind fun ag => (compA x).bind fun a => (compA i).map fun b => .idx n s ag a b
  | some .string => (compA x).bind fun a => (compA i).map fun b => .sidx a b
  | _ => none
 | .makeMap t r => if r.isNone then (mapK P t).map .mkmap else none
 | .mapUpdate t m k v => (mapK P t).bind fun kk => (compA m).bind fun a => (compA k).bind fun b => (compA v).map fun c => .mset kk a b c
 | .lookup t m k comma => (mapK P t).bind fun kk => (mapZ P t).bind fun z => (compA m).bind fun a => (compA k).map fun b => .mget kk comma z a b
 | .sliceToArrayPointer t x =>
  match P.underlying t with
  | some (.array n _) => (compA x).map (.s2ap n)
  | _ => none
 | .range t x => match P.underlying t with
  | some (.map _ _) => (compA x).map .rng
  | _ => none
 | .next x s => if s = true then none else (compA x).map .nxt
 | .entry x => (compA x).map .ent
 | .extract x i => (compA x).map fun a => .extract a i
 | .call c => compCall P c
 | _ => none
def dstOk (n : Nat) : Option Nat → Bool
 | some d => decide (d < n)
 | none => true
def compO (P : Program) (n : Nat) (ops : Array Oper) (o : Oper) : Option O :=
 (compOp P o.op).bind fun i =>
  if dstOk n o.dst = true then
   match o.guard with
   | none => some ⟨o.dst, i, none⟩
   | some (j, b) => ((ops[j]?).bind (·.dst)).map fun s => ⟨o.dst, i, some (s, b)⟩
  else none
def compOps (P : Program) (n : Nat) (ops : Array Oper) : List Oper → Option (List O)
 | [] => some []
 | o :: rest => (compO P n ops o).bind fun x => (compOps P n ops rest).map (x :: ·)
def A.tmps : A → List Nat
 | .t n => [n]
 | .c _ => []
def oaTmps : Option A → List Nat
 | some a => a.tmps
 | none => []
def I.tmps : I → List Nat
 | .isnil _ x | .mov x | .box x | .load _ _ x | .nilchk x | .un _ x | .conv _ x | .sames x | .field _ _ _ x | .faddr _ x | .extract x _ | .len _ x | .b2s x | .s2ap _ x | .mlen x | .r2s x | .cap x | .rng x | .nxt x | .ent x => x.tmps
 | .pick c a b => c.tmps ++ (a.tmps ++ b.tmps)
 | .alloc _ | .mkmap _ => []
 | .mset _ x y z => x.tmps ++ (y.tmps ++ z.tmps)
 | .mget _ _ _ x y => x.tmps ++ y.tmps
 | .build _ ps | .bslice _ _ _ ps => ps.flatMap fun p => p.2.2.tmps
 | .store _ x y | .bin _ _ x y | .iaddr _ x y | .iaddrA _ _ x y | .idx _ _ _ x y | .mksl _ _ _ x y | .append _ _ _ x y | .copy _ x y | .sidx x y | .eq2 _ x y | .appz _ _ x y => x.tmps ++ y.tmps
 | .slice _ x l h m | .sliceA _ _ x l h m => x.tmps ++ (oaTmps l ++ (oaTmps h ++ oaTmps m))
 | .mkfn _ a b => a.flatMap A.tmps ++ b.flatMap A.tmps
 | .mm _ x xs | .calld x xs => x.tmps ++ xs.flatMap A.tmps
 | .call _ xs => xs.flatMap A.tmps
def O.names (o : O) : List Nat :=
 match o.guard with
 | some (s, _) => s :: o.op.tmps
 | none => o.op.tmps
def edges (o : Oper) : List Nat := (o.after.toList.filter (Region.binds .any)).map (·.on)
def addAll (xs : List Nat) : List Nat → List Nat
 | [] => xs
 | y :: ys => addAll (if xs.contains y then xs else y :: xs) ys
def ancs : List Oper → List (List Nat) → List (List Nat)
 | [], acc => acc
 | o :: rest, acc => ancs rest (acc ++ [(edges o).foldl (fun s e => addAll (addAll s [e]) (acc.getD e [])) []])
def tempsOK (anc : List (List Nat)) (ol : List O) : Bool :=
 (List.range ol.length).all fun j => (List.range j).all fun i =>
  match ol[i]?, ol[j]? with
  | some x, some y =>
   (match x.dst with
    | some d => !((y.names.contains d) || y.dst == some d) || (anc.getD j []).contains i
    | none => true) &&
   (match y.dst with
    | some d => !(x.names.contains d) || (anc.getD j []).contains i
    | none => true)
  | _, _ => true
def edgesOK (ops : List Oper) : Bool := (List.range ops.length).all fun i => match ops[i]? with
 | some o => (edges o).all fun e => decide (e < i)
 | none => true
def cutAt (anc : List (List Nat)) (n p : Nat) : Bool := (List.range n).all fun k => decide (k < p) || (List.range p).all fun j => (anc.getD k []).contains j
def newsOK (ol : List O) : Bool :=
 (List.range ol.length).all fun i => (List.range ol.length).all fun j =>
  match ol[i]?, ol[j]? with
  | some x, some y => i == j || !(match x.op with | .alloc _ | .box _ | .bslice .. | .append .. => true | _ => false) || x.dst.isNone || x.dst != y.dst
  | _, _ => true
def pieces (anc : List (List Nat)) (n : Nat) : Nat → List O → List O → List (List O)
 | _, cur, [] => [cur]
 | p, cur, o :: rest => if cutAt anc n p && !cur.isEmpty then cur :: pieces anc n (p + 1) [o] rest else pieces anc n (p + 1) (cur ++ [o]) rest
def piecesOK (anc : List (List Nat)) (n : Nat) : Nat → List (List O) → Bool
 | _, [] => true
 | p, b :: bs => !b.isEmpty && cutAt anc n (p + b.length) && piecesOK anc n (p + b.length) bs
def compDraw (P : Program) (n : Nat) (ops : Array Oper) : Option (List (List O)) :=
 (compOps P n ops ops.toList).bind fun ol =>
  let anc := ancs ops.toList []
  let bs := pieces anc ol.length 0 [] ol
  if P.follows .mixedOrders && edgesOK ops.toList && tempsOK anc ol && newsOK ol && piecesOK anc ol.length 0 bs && bs.flatten.length == ol.length then some bs else none
def heavyL : List Nat → List O → Bool
 | _, [] => false
 | news, [o] => match o.op with
  | .append .. | .copy .. | .mksl .. => true
  | .store _ (.t d) _ => !news.contains d
  | .call _ xs => xs.any fun x => match x with | .t d => news.contains d | _ => false
  | _ => false
 | news, o :: o' :: rest => heavyL ((match o.op with | .alloc _ | .box _ | .bslice .. => o.dst.toList | _ => []) ++ news) (o' :: rest)
def heavyP : List O → Bool
 | o :: o' :: rest => heavyL [] (o :: o' :: rest)
 | _ => false
def floatsOf (anc : List (List Nat)) (p : Nat) (blk : List O) : List Nat :=
 if heavyP blk then (List.range (blk.length - 1)).filter fun i => !((anc.getD (p + (blk.length - 1)) []).contains (p + i)) else []
def isReadC : I → Bool
 | .mov _ | .pick .. | .build .. | .load .. | .nilchk _ | .bin .. | .un .. | .conv .. | .field .. | .faddr .. | .iaddr .. | .iaddrA .. | .idx .. | .slice .. | .sliceA .. | .mkfn .. | .extract .. | .len .. | .mm .. | .b2s .. | .s2ap .. => true
 | _ => false
def floatOK (blk : List O) (i : Nat) : Bool :=
 match blk[i]? with
 | some o => isReadC o.op && o.guard.isNone && o.dst.isSome && (List.range blk.length).all fun j => match blk[j]? with
   | some y => (j == i || y.dst != o.dst) && (decide (j < i) || (match y.dst with | some d => !(o.names.contains d) | none => true))
   | none => true
 | none => false
def lastOK (blk : List O) : Bool := match blk[blk.length - 1]? with
 | some o => o.guard.isNone
 | none => false
def withFloats (anc : List (List Nat)) : Nat → List (List O) → List (List Nat × List O)
 | _, [] => []
 | p, b :: bs => (floatsOf anc p b, b) :: withFloats anc (p + b.length) bs
def floatsOK (bs : List (List Nat × List O)) : Bool := bs.all fun b => !(heavyP b.2) || (lastOK b.2 && b.1.all (floatOK b.2))
def compDrawF (P : Program) (n : Nat) (ops : Array Oper) : Option (List (List Nat × List O)) :=
 (compDraw P n ops).bind fun bs =>
  let fs := withFloats (ancs ops.toList []) 0 bs
  if floatsOK fs then some fs else none
def firstLabel : IR → Option Nat
 | .seq a b => match firstLabel a with
  | some l => some l
  | none => firstLabel b
 | .label l => some l
 | _ => none
def findLab : IR → Nat → Option IR
 | .seq a b, l => match findLab a l with
  | some rest => some (.seq rest b)
  | none => findLab b l
 | .label l', l => if l' == l then some .skip else none
 | _, _ => none
def pureOf (ex : Nat → Bool) (ol : List O) : List Nat := (List.range ol.length).foldl (fun pu i => match ol[i]? with
 | some o => if !ex i && isReadC o.op && o.guard.isNone && o.dst.isSome && (List.range i).all fun j => match ol[j]? with
   | some x => (match x.dst with | some d => !(o.names.contains d) || pu.contains j | none => true)
   | none => true
  then pu ++ [i] else pu
 | none => pu) []
def pureOK (ol : List O) (pu : List Nat) : Bool := pu.all fun p => match ol[p]? with
 | some o => isReadC o.op && o.guard.isNone && o.dst.isSome && (List.range ol.length).all fun j => match ol[j]? with
  | some x => (j == p || x.dst != o.dst) && ((match x.dst with | some d => !(o.names.contains d) || (pu.contains j && decide (j < p)) | none => true) &&
    (decide (p < j) || (match o.dst with | some d => !(x.names.contains d) | none => true)))
  | none => true
 | none => false
def mkTree (ol : List O) (anc : List (List Nat)) : Nat → List Nat → OT
 | 0, _ => .done
 | f + 1, rem => rem.foldr (fun i more => if (anc.getD i []).all fun j => !rem.contains j then (match ol[i]? with
  | some o => .alt o (mkTree ol anc f (rem.erase i)) more
  | none => more) else more) .none
def nOf (ex : Nat → Bool) (ops : Array Oper) (bs : List (List O)) : Option (List O × OT) :=
 let ol := bs.flatten
 let pu := pureOf ex ol
 let re := (List.range ol.length).filter fun i => !pu.contains i
 if pureOK ol pu then some (pu.filterMap (ol[·]?), mkTree ol (ancs ops.toList []) re.length re) else none
def isMakeC : I → Bool
 | .bslice .. | .append .. => true
 | _ => false
def pureOfM (mk : Nat → Bool) (ol : List O) : List Nat := (List.range ol.length).foldl (fun pu i => match ol[i]? with
 | some o => if (isReadC o.op || (isMakeC o.op && mk i)) && o.guard.isNone && o.dst.isSome && (List.range i).all fun j => match ol[j]? with
   | some x => (match x.dst with | some d => !(o.names.contains d) || pu.contains j | none => true)
   | none => true
  then pu ++ [i] else pu
 | none => pu) []
def pureOKM (ol : List O) (pu : List Nat) : Bool := pu.all fun p => match ol[p]? with
 | some o => (isReadC o.op || isMakeC o.op) && o.guard.isNone && o.dst.isSome && (List.range ol.length).all fun j => match ol[j]? with
  | some x => (j == p || x.dst != o.dst) && ((match x.dst with | some d => !(o.names.contains d) || (pu.contains j && decide (j < p)) | none => true) &&
    (decide (p < j) || (match o.dst with | some d => !(x.names.contains d) | none => true)))
  | none => true
 | none => false
def nOfM (mk : Nat → Bool) (ops : Array Oper) (bs : List (List O)) : Option (List O × OT) :=
 let ol := bs.flatten
 let pu := pureOfM mk ol
 let re := (List.range ol.length).filter fun i => !pu.contains i
 if pureOKM ol pu then some (pu.filterMap (ol[·]?), mkTree ol (ancs ops.toList []) re.length re) else none
def readsC : Code → List Nat
 | .region _ ops _ => ops.toList.flatMap fun o => o.op.operands.toList.filterMap fun x => match x with | .tmp t => some t | _ => none
 | .seq a b => readsC a ++ readsC b
 | .cond c a b => (match c with | .tmp t => [t] | _ => []) ++ readsC a ++ readsC b
 | .block _ b | .loop b | .scope b => readsC b
 | _ => []
def writesC : Code → List Nat
 | .region _ ops _ => ops.toList.filterMap (·.dst)
 | .seq a b | .cond _ a b => writesC a ++ writesC b
 | .block _ b | .loop b | .scope b => writesC b
 | _ => []
def freeC (ps : Array Tmp) (x y : Code) : List Nat := ((readsC x ++ readsC y).filter fun t => !(ps.toList ++ writesC x ++ writesC y).contains t).eraseDups
def panR (P : Program) (n : Nat) : List Oper → Bool
 | [m, i, p] => match m.op, m.dst, m.guard, i.op, i.dst, i.guard, p.op, p.guard with
  | .move _, some _, none, .makeInterface t _, some b, none, .panic (.tmp b'), none => b == b' && decide (b < n) && (match P.underlying t with | some (.int _) => true | _ => false)
  | _, _, _, _, _, _, _, _ => false
 | [i, p] => match i.op, i.dst, i.guard, p.op, p.guard with
  | .makeInterface t (.const (.string _)), some b, none, .panic (.tmp b'), none => b == b' && decide (b < n) && (match P.underlying t with | some .string => true | _ => false)
  | _, _, _, _, _ => false
 | _ => false
def compS (sel : Nat → Bool) (P : Program) (n : Nat) : Code → Option IR
 | .skip => some .skip
 | .region _ ops false => if panR P n ops.toList = true then some .pan else (compOps P n ops ops.toList).map .ops
 | .region id ops true => (compDraw P n ops).bind fun bs => if sel (500000 + id) = true then (nOfM (fun k => sel (1000000 + 1000 * id + k)) ops bs).map fun r => .drawS r.1 r.2 else if sel id = true then (nOf (fun k => sel (2000000 + 1000 * id + k)) ops bs).map fun r => .drawN r.1 r.2 else if bs.any heavyP then (compDrawF P n ops).map .drawF else some (.draw bs)
 | .seq a b => (compS sel P n a).bind fun x => (compS sel P n b).map (.seq x)
 | .cond c a b => (compA c).bind fun y => (compS sel P n a).bind fun x => (compS sel P n b).map (.cond y x)
 | .block id b => (compS sel P n b).map (.block id)
 | .loop b => (compS sel P n b).map .loop
 | .exit id => some (.exit id)
 | .ret => some .ret
 | .label l => some (.label l)
 | .goto l => some (.goto l)
 | .scope c => (compS sel P n c).bind fun b => match firstLabel b with
  | none => none
  | some l => (findLab b l).map (.scope l b)
 | .rangeFunc g ps x y => (compA g).map fun a => .range a (freeC ps x y) ⟨ps, x, y, n⟩
 | _ => none
def noRange : IR → Bool
 | .range .. => false
 | .seq a b | .cond _ a b | .scope _ a b => noRange a && noRange b
 | .block _ b | .loop b => noRange b
 | _ => true
inductive RV where
 | t (n : Nat)
 | c (n sz : Nat) (ag : Bool)
structure FnIR where
 n : Nat
 res : List RV
 body : IR
def resSlots (P : Program) : List ResultVar → Option (List RV)
 | [] => some []
 | .tmp t :: rest => (resSlots P rest).map (.t t :: ·)
 | .cell a t :: rest => (szOf P t).bind fun s => (isAggT P t).bind fun ag => (resSlots P rest).map (.c a s ag :: ·)
def compFS (sel : Nat → Bool) (P : Program) (f : FuncId) : Option FnIR :=
 (P.funcs[f]?).bind fun fn => fn.body.bind fun c => if okF P f then (compS sel P fn.ntmps c).bind fun b => (resSlots P fn.results.toList).map fun r => ⟨fn.ntmps, r, b⟩ else none
def compF (P : Program) (f : FuncId) : Option FnIR := compFS (fun _ => false) P f
def RelAll (η : List Nat) (S : Nat → Prop) (w : World) (vs : Array Value) (ls : List L) : Prop := vs.size = ls.length ∧ ∀ j, Rel S w η (vs.getD j undef) (ls.getD j .any)
def callAt (P : Program) (f : FuncId) (ls : List L) (H : Heap) (K : L → Heap → Prop) : Prop :=
 okF P f = true ∧ ∀ η S w vs, Conc η S w H → RelAll η S w vs ls →
  Calls P f vs w fun e w' => ∃ v l H' η' S', e = .returned v ∧ K l H' ∧ Rel S' w' η' v l ∧ Conc η' S' w' H' ∧ Le η S w η' S' w'
def callY (P : Program) (h : Nat) (ls : List L) (H : Heap) (K : L → Heap → Prop) : Prop :=
 ∀ η S w vs, Conc η S w H → RelAll η S w vs ls → ∃ b, η[h]? = some b ∧ ∃ f tmps assign body, (Instr.yield b vs).run P w = .ok (.round b f tmps assign body) w ∧
  RoundIn Fence.wide 0 P b f tmps assign body w fun e w' => ∃ v l H' η' S', e = .returned v ∧ K l H' ∧ Rel S' w' η' v l ∧ Conc η' S' w' H' ∧ Le η S w η' S' w'
def callD (P : Program) (x : L) (ls : List L) (H : Heap) (K : L → Heap → Prop) : Prop :=
 match x with
 | .fn (.func f) first cap => callAt P f (first ++ ls ++ cap) H K
 | .yl h => callY P h ls H K
 | _ => False
def lop (P : Program) (op : I) (E : Env) (H : Heap) (K : L → Heap → Prop) : Prop :=
 match op with
 | .call f xs => callAt P f (xs.map (arg E)) H K
 | .calld x xs => callD P (arg E x) (xs.map (arg E)) H K
 | .isnil neg x => match arg E x with
  | .v (.slice none 0 0) => K (.v (.bool (!neg))) H
  | .sl _ _ xs => K (.v (.bool neg)) H ∧ (xs = [] → K (.v (.bool (!neg))) H)
  | .view _ _ _ n _ => K (.v (.bool neg)) H ∧ (n = 0 → K (.v (.bool (!neg))) H)
  | _ => False
 | .nxt x => match arg E x with
  | .itp h => match live H h with
   | some [.it k es seen] => (∀ i, i < es.length → i ∉ seen → K (.tup [.v (.bool true), .any, .any]) (H.set h (some [.it k es (seen ++ [i])]))) ∧
     ((∀ i, i < es.length → i ∈ seen) → K (.tup [.v (.bool false)]) H)
   | _ => False
  | _ => False
 | op => optK (lopO op E H) fun r => K r.1 r.2
def callV (P : Program) (f : FuncId) (ls : List L) (H : Heap) (r : L) : Prop := callAt P f ls H fun l H' => l = r ∧ H' = H
def appNew (esz bytes : Nat) (x y : L) : Option (List L × (Nat → L)) :=
 match lcells esz [] y with
 | none => none
 | some ys =>
  if esz ∣ ys.length ∧ ys.all solid = true ∧ ys.length ≠ 0 then
   match x with
   | .v (.slice none 0 0) => if ys.length * bytes ≤ 70368744177664 then some (ys, fun h => .view esz h 0 (ys.length / esz) false) else none
   | .sl e true xs =>
    if e = esz then
     (if ((flat esz xs).length + ys.length) * bytes ≤ 70368744177664 then some (flat esz xs ++ ys, fun h => .view esz h 0 (xs.length + ys.length / esz) false) else none)
    else none
   | _ => none
  else none
def lnew (op : I) (E : Env) : Option (List L × (Nat → L)) :=
 match op with
 | .alloc z => some (z.cells, fun h => .ptr h 0)
 | .box x => if topOK (arg E x) = true then some ((arg E x).cells, fun h => .ptr h 0) else none
 | .bslice esz z n parts => (lfill (zeros n z) (parts.map fun p => (p.1, p.2.1, arg E p.2.2))).map fun cs => (cs, fun h => .view esz h 0 n true)
 | .append esz bytes _ x y => appNew esz bytes (arg E x) (arg E y)
 | _ => none
def isNew : I → Bool
 | .alloc _ | .box _ | .bslice .. | .append .. => true
 | _ => false
def isRead : I → Bool
 | .mov _ | .pick .. | .build .. | .load .. | .nilchk _ | .bin .. | .un .. | .conv .. | .field .. | .faddr .. | .iaddr .. | .iaddrA .. | .idx .. | .slice .. | .sliceA .. | .mkfn .. | .extract .. | .len .. | .mm .. | .b2s .. | .s2ap .. | .eq2 .. | .mget .. | .mlen .. | .r2s .. => true
 | _ => false
def putE (E : Env) (d : Option Nat) (l : L) : Env :=
 match d with
 | some t => (t, l) :: E
 | none => E
def lguard (g : Option (Nat × Bool)) (E : Env) (run skip : Env → Prop) : Prop :=
 match g with
 | none => run E
 | some (s, b) => match lk E s with
  | .v (.bool x) => (x = b → run ((s, .v (.bool b)) :: E)) ∧ (x = (!b) → skip ((s, .v (.bool (!b))) :: E))
  | .no => skip E
  | _ => False
def frz1 (H : Heap) (fz : List Nat) : L → L
 | .view e h off n c => if fz.contains h = true then (match live H h with
  | some cs => if off + n * e ≤ cs.length ∧ e ≠ 0 ∧ ((cs.drop off).take (n * e)).all closed = true then .sl e c (chunk n e ((cs.drop off).take (n * e))) else .any
  | none => .any) else .view e h off n c
 | .mref h => if fz.contains h = true then (match live H h with
  | some [.mp k es] => .cm k es
  | _ => .any) else .mref h
 | l => l
def frzP (H : Heap) (fz : List Nat) : L → L
 | .ptr h off => if fz.contains h = true then (match live H h with
  | some cs => if cs.all closed = true then .pp (cs.drop off) else .any
  | none => .any) else .ptr h off
 | l => frz1 H fz l
def frz (H : Heap) (fz : List Nat) : L → L
 | .agg cs => .agg (cs.map (frz1 H fz))
 | .fn f a b => .fn f (a.map (frzP H fz)) (b.map (frzP H fz))
 | l => frz1 H fz l
def frzRow (H : Heap) (fz : List Nat) (h : Nat) : Option (List L) → Option (List L)
 | some ls => if fz.contains h = true then none else some (ls.map (frz H fz))
 | none => none
def frzH (H : Heap) (fz : List Nat) : Nat → Heap → Heap
 | _, [] => []
 | i, r :: rs => frzRow H fz i r :: frzH H fz (i + 1) rs
def frzE (H : Heap) (fz : List Nat) (E : Env) : Env := E.map fun p => (p.1, frz H fz p.2)
def lopE (P : Program) (op : I) (E : Env) (H : Heap) (K : Env → L → Heap → Prop) : Prop :=
 match op with
 | .call f xs => callAt P f (xs.map (arg E)) H (K E) ∨ ∃ fz, callAt P f ((xs.map (arg E)).map (frz H fz)) (frzH H fz 0 H) (K (frzE H fz E))
 | op => lop P op E H (K E)
def lops (P : Program) : List O → (Env → Heap → Prop) → Env → Heap → Prop
 | [], K, E, H => K E H
 | o :: rest, K, E, H => lguard o.guard E (fun E => lopE P o.op E H fun E' l H' => lops P rest K (putE E' o.dst l) H') (fun E => lops P rest K (putE E o.dst .no) H)
def mkShared (esz bytes : Nat) (z : List L) (k k' : Int) : Prop := k = k' ∧ 0 ≤ k ∧ k * bytes ≤ 281474976710656 ∧ k ≤ 9223372036854775807 ∧ esz ≠ 0 ∧ z.length = esz ∧ z.all closed = true
def lopD (P : Program) (op : I) (E : Env) (H : Heap) (K : L → Prop) (N : List L → (Nat → L) → Prop) : Prop :=
 match op with
 | .call f xs => ∃ r, callV P f (xs.map (arg E)) H r ∧ K r
 | .calld x xs => match arg E x with
  | .fn (.func f) first cap => ∃ r, callV P f (first ++ xs.map (arg E) ++ cap) H r ∧ K r
  | _ => False
 | .mksl esz bytes z n c => match arg E n, arg E c with
  | .v (.int .i64 k), .v (.int .i64 k') => mkShared esz bytes z k k' ∧ K (.sl esz true (chunk k.toNat esz (zeros k.toNat z)))
  | _, _ => False
 | op => if isNew op = true then optK (lnew op E) fun r => N r.1 r.2 else (isRead op = true ∧ optK (lopO op E H) fun r => K r.1)
mutual
def below (n : Nat) : L → Bool
 | .view _ h _ _ _ => decide (h < n)
 | .ptr h _ => decide (h < n)
 | .mref h => decide (h < n)
 | .itp h => decide (h < n)
 | .yl h => decide (h < n)
 | .lp _ _ _ _ ts => belowL n ts
 | .agg cs => belowL n cs
 | .tup cs => belowL n cs
 | .fn _ a b => belowL n a && belowL n b
 | _ => true
def belowL (n : Nat) : List L → Bool
 | [] => true
 | c :: cs => below n c && belowL n cs
end
def storesTo (o : O) : Option Nat :=
 match o.op with
 | .store _ (.t d) _ => some d
 | _ => none
def isP0 : L → Bool
 | .ptr 0 0 => true
 | _ => false
def putOK (d sz : Nat) (news : List (Option Nat × List L × (Nat → L))) : Bool := news.any fun e => e.1 == some d && isP0 (e.2.2 0) && decide (sz ≤ e.2.1.length)
def restOK (d : Nat) (rest : List O) : Bool := rest.all fun o => o.dst != some d && storesTo o != some d
def updNews (d : Nat) (l : L) (news : List (Option Nat × List L × (Nat → L))) : List (Option Nat × List L × (Nat → L)) := news.map fun e => if e.1 = some d then (e.1, setCells e.2.1 0 l.cells, e.2.2) else e
def emptyB : I → Bool
 | .bslice _ _ 0 [] => true
 | _ => false
def eszB : I → Nat
 | .bslice e _ _ _ => e
 | _ => 0
def appTo (d : Option Nat) (o : O) : Bool :=
 match o.op with
 | .append _ _ _ (.t t) _ => d == some t
 | _ => false
def frzS (cs : List L) (l : L) : Option L := match frz [some cs] [0] l with
 | .sl e c xs => some (.sl e c xs)
 | _ => none
def usesB (d : Option Nat) (o : O) : Bool :=
 match o.op with
 | .build _ ps => ps.any fun p => match p.2.2 with | .t t => d == some t | .c _ => false
 | _ => false
def bslV (esz : Nat) (z : List L) (n : Nat) (parts : List (Nat × Nat × A)) (E : Env) : Option L :=
 (lfill (zeros n z) (parts.map fun p => (p.1, p.2.1, arg E p.2.2))).bind fun cs => frzS cs (.view esz 0 0 n true)
def madeB (op : I) (d : Option Nat) (rest : List O) (E : Env) : Option L :=
 match op with
 | .bslice esz z n parts => if (emptyB (.bslice esz z n parts) && rest.any (appTo d)) = true then some (.sl esz true []) else if rest.any (usesB d) = true then bslV esz z n parts E else none
 | _ => none
def lblk (P : Program) (H : Heap) : List O → (Env → List (Option Nat × List L × (Nat → L)) → Prop) → Env → List (Option Nat × List L × (Nat → L)) → Prop
 | [], K, E, news => K E news
 | o :: rest, K, E, news => lguard o.guard E
   (fun E => match o.op with
    | .store s (.t d) y => (o.dst = none ∧ y ≠ .t d ∧ topOK (arg E y) = true ∧ (arg E y).cells.length = s ∧ putOK d s news = true ∧ restOK d rest = true) ∧ lblk P H rest K E (updNews d (arg E y) news)
    | op => match madeB op o.dst rest E with
     | some l => lblk P H rest K (putE E o.dst l) news
     | none => lopD P op E H (fun l => lblk P H rest K (putE E o.dst l) news) (fun cs mk => lblk P H rest K (putE E o.dst .any) (news ++ [(o.dst, cs, mk)])))
   (fun E => lblk P H rest K (putE E o.dst .no) news)
def addNews : List (Option Nat × List L × (Nat → L)) → Env → Heap → (Env → Heap → Prop) → Prop
 | [], E, H, K => K E H
 | (d, cs, mk) :: rest, E, H, K => addNews rest (putE E d (mk H.length)) (H ++ [some cs]) K
def ldraw (P : Program) : List (List O) → (Env → Heap → Prop) → Env → Heap → Prop
 | [], K, E, H => K E H
 | [o] :: bs, K, E, H => lops P [o] (ldraw P bs K) E H
 | blk :: bs, K, E, H => lblk P H blk (fun E news => addNews news E H (ldraw P bs K)) E []
def stable (blk : List O) (E : Env) (H : Heap) (i : Nat) : Prop :=
 match blk[i]? with
 | some o => match o.dst with
  | some d => lopO o.op E H = some (lk E d, H)
  | none => False
 | none => False
def ldrawF (P : Program) : List (List Nat × List O) → (Env → Heap → Prop) → Env → Heap → Prop
 | [], K, E, H => K E H
 | (fl, blk) :: bs, K, E, H =>
  if heavyP blk = true then lblk P H blk.dropLast (fun E news => addNews news E H fun E1 H1 => lops P (blk.drop (blk.length - 1)) (fun E2 H2 => (∀ i ∈ fl, stable blk E2 H2 i) ∧ ldrawF P bs K E2 H2) E1 H1) E []
  else ldraw P [blk] (ldrawF P bs K) E H
def stableO (o : O) (E : Env) (H : Heap) : Prop :=
 match o.dst with
 | some d => lopO o.op E H = some (lk E d, H)
 | none => False
def lopS (op : I) (E : Env) : Option L :=
 match op with
 | .bslice esz z n parts => bslV esz z n parts E
 | .append esz bytes _ x y => (appendL esz bytes (arg E x) (arg E y) []).bind fun r => match r.2 with
  | [] => some r.1
  | [some cs] => frzS cs r.1
  | _ => none
 | _ => none
def stableP (o : O) (E : Env) (H : Heap) : Prop :=
 match o.dst with
 | some d => if isMakeC o.op = true then lopS o.op E = some (lk E d) else lopO o.op E H = some (lk E d, H)
 | none => False
def lopPV (op : I) (E : Env) (H : Heap) : Option L := if isMakeC op = true then lopS op E else (lopO op E H).map (·.1)
def lopsP : List O → (Env → Prop) → Env → Heap → Prop
 | [], K, E, _ => K E
 | o :: rest, K, E, H => optK (lopPV o.op E H) fun l => lopsP rest K (putE E o.dst l) H
def lops1 (P : Program) (o : O) (K : Env → Heap → Prop) (E : Env) (H : Heap) : Prop := lguard o.guard E (fun E => lop P o.op E H fun l H' => K (putE E o.dst l) H') (fun E => K (putE E o.dst .no) H)
def lot (P : Program) (st : Env → Heap → Prop) : OT → (Env → Heap → Prop) → Env → Heap → Prop
 | .done, K, E, H => K E H
 | .none, _, _, _ => True
 | .alt o t more, K, E, H => lops1 P o (fun E' H' => st E' H' ∧ lot P st t K E' H') E H ∧ lot P st more K E H
inductive X where
 | normal
 | exit (id : Nat)
 | goto (l : Nat)
 | ret
def X.then (next : Env → Heap → Prop) (Q : X → Env → Heap → Prop) : X → Env → Heap → Prop
 | .normal => next
 | e => Q e
def X.jump (l : Nat) (J : Env → Heap → Prop) (Q : X → Env → Heap → Prop) : X → Env → Heap → Prop
 | .goto l' => fun E H => l' = l ∧ J E H
 | e => Q e
def X.inBlock (id : Nat) (Q : X → Env → Heap → Prop) : X → Env → Heap → Prop
 | .exit id' => fun E H => if id' = id then Q .normal E H else Q (.exit id') E H
 | e => Q e
mutual
def ren (f : Nat → Nat) : L → L
 | .view e h off n c => .view e (f h) off n c
 | .ptr h off => .ptr (f h) off
 | .mref h => .mref (f h)
 | .itp h => .itp (f h)
 | .yl h => .yl (f h)
 | .lp rc st pd ks ts => .lp rc st pd ks (renL f ts)
 | .agg cs => .agg (renL f cs)
 | .tup cs => .tup (renL f cs)
 | .fn g a b => .fn g (renL f a) (renL f b)
 | l => l
def renL (f : Nat → Nat) : List L → List L
 | [] => []
 | c :: cs => ren f c :: renL f cs
end
def rowsOK (H : Heap) (f : Nat → Nat) (n : Nat) : List Nat → Heap → Prop
 | [], [] => True
 | s :: ss, c :: cs => (s < H.length ∧ match c with
  | none => True
  | some ls => H[s]? = some (some (renL f ls)) ∧ belowL n ls = true) ∧ rowsOK H f n ss cs
 | _, _ => False
def weakBy (m : Nat) (σ : List Nat) (E : Env) (H : Heap) (E' : Env) (H' : Heap) : Prop :=
 σ.take m = List.range m ∧ σ.Nodup ∧ rowsOK H (fun i => σ.getD i 0) H'.length σ H' ∧
 ∀ p ∈ E', below H'.length p.2 = true ∧ (p.2 = .any ∨ lk E p.1 = ren (fun i => σ.getD i 0) p.2)
def weak (m : Nat) (E : Env) (H : Heap) (E' : Env) (H' : Heap) : Prop := ∃ σ, weakBy m σ E H E' H'
def weakZ (m : Nat) (E : Env) (H : Heap) (E' : Env) (H' : Heap) : Prop := weak m E H E' H' ∨ (∃ fz, weak m (frzE H fz E) (frzH H fz 0 H) E' H') ∨
 ∃ fz fz', weak m (frzE (frzH H fz 0 H) fz' (frzE H fz E)) (frzH (frzH H fz 0 H) fz' 0 (frzH H fz 0 H)) E' H'
def belowH (H : Heap) : Bool := H.all fun r => match r with
 | none => true
 | some ls => belowL H.length ls
def stP (pu : List O) (E : Env) (H : Heap) : Prop := (∀ o ∈ pu, stableP o E H) ∧ belowH H = true
def pendQ (Q : X → Env → Heap → Prop) : Option Code → Env → Heap → Prop
 | none => Q .normal
 | some .ret => Q .ret
 | some (.exit id) => Q (.exit id)
 | some (.goto l) => Q (.goto l)
 | _ => fun _ _ => False
def rangeW (h : Nat) (Q : X → Env → Heap → Prop) (E : Env) (H : Heap) : Option (Option (List L)) → Prop
 | some (some [.lp _ st pd _ _]) => st ≠ .busy ∧ pendQ Q pd E (H.set h none)
 | _ => False
def rangeK (h : Nat) (Q : X → Env → Heap → Prop) (E : Env) (H : Heap) : Prop := rangeW h Q E H H[h]?
def lwp (P : Program) (k : Nat) : IR → (X → Env → Heap → Prop) → Env → Heap → Prop
 | .skip, Q, E, H => Q .normal E H
 | .pan, _, _, _ => False
 | .ops l, Q, E, H => lops P l (Q .normal) E H
 | .draw bs, Q, E, H => ldraw P bs (Q .normal) E H
 | .drawF bs, Q, E, H => ldrawF P bs (Q .normal) E H
 | .drawN pu t, Q, E, H => lops P pu (fun E' H' => H' = H ∧ (∀ o ∈ pu, stableO o E' H') ∧ ∃ I : Env → Heap → Prop,
   lot P (fun E2 H2 => ∀ o ∈ pu, stableO o E2 H2) t (fun E1 H1 => I E1 H1 ∨ ∃ E2 H2, weakZ k E1 H1 E2 H2 ∧ I E2 H2) E' H' ∧ ∀ E2 H2, I E2 H2 → Q .normal E2 H2) E H
 | .drawS pu t, Q, E, H => lopsP pu (fun E' => stP pu E' H ∧ ∃ I : Env → Heap → Prop,
   lot P (stP pu) t (fun E1 H1 => I E1 H1 ∨ ∃ E2 H2, weakZ k E1 H1 E2 H2 ∧ I E2 H2) E' H ∧ ∀ E2 H2, I E2 H2 → Q .normal E2 H2) E H
 | .seq a b, Q, E, H => lwp P k a (X.then (lwp P k b Q) Q) E H
 | .cond c a b, Q, E, H => match arg E c with
  | .v (.bool t) => (t = true → lwp P k a Q E H) ∧ (t = false → lwp P k b Q E H)
  | _ => False
 | .block id b, Q, E, H => lwp P k b (X.inBlock id Q) E H
 | .loop b, Q, E, H => ∃ (I : Env → Heap → Nat → Prop) (m : Nat), (∃ E₁ H₁, weakZ k E H E₁ H₁ ∧ I E₁ H₁ m) ∧
   ∀ E H m, I E H m → lwp P k b (X.then (fun E' H' => ∃ E'' H'' m', weakZ k E' H' E'' H'' ∧ m' < m ∧ I E'' H'' m') Q) E H
 | .range g ks rc, Q, E, H => match arg E g with
  | .fn (.func f) first cap => callAt P f (first ++ [.yl H.length] ++ cap) (H ++ [some [.lp rc .ready none ks (ks.map (lk E))]]) fun _ H' => rangeK H.length Q E H'
  | _ => False
 | .exit id, Q, E, H => Q (.exit id) E H
 | .ret, Q, E, H => Q .ret E H
 | .label _, Q, E, H => Q .normal E H
 | .goto l, Q, E, H => Q (.goto l) E H
 | .scope l b rest, Q, E, H => ∃ (I : Env → Heap → Nat → Prop), lwp P k b (X.jump l (fun E' H' => ∃ E'' H'' m', weakZ k E' H' E'' H'' ∧ I E'' H'' m') Q) E H ∧
   ∀ E H m, I E H m → lwp P k rest (X.jump l (fun E' H' => ∃ E'' H'' m', weakZ k E' H' E'' H'' ∧ m' < m ∧ I E'' H'' m') Q) E H
def roundW (h : Nat) (K : L → Heap → Prop) (x : X) (H : Heap) : Option (Option (List L)) → Prop
 | some (some [.lp rc .busy none ks ts]) => match x with
  | .normal => K (.v (.bool true)) (H.set h (some [.lp rc .ready none ks ts]))
  | .ret => K (.v (.bool false)) (H.set h (some [.lp rc .done (some .ret) ks ts]))
  | .exit id => K (.v (.bool false)) (H.set h (some [.lp rc .done (some (.exit id)) ks ts]))
  | .goto l => K (.v (.bool false)) (H.set h (some [.lp rc .done (some (.goto l)) ks ts]))
 | _ => False
def roundK (h : Nat) (K : L → Heap → Prop) (x : X) (_ : Env) (H : Heap) : Prop := roundW h K x H H[h]?
def beginW (P : Program) (k : Nat) (bd : IR) (h : Nat) (K : L → Heap → Prop) (E : Env) (H : Heap) : Option (Option (List L)) → Prop
 | some (some [.lp rc .ready none ks ts]) => lwp P k bd (roundK h K) E (H.set h (some [.lp rc .busy none ks ts]))
 | _ => False
def beginK (P : Program) (k : Nat) (bd : IR) (h : Nat) (K : L → Heap → Prop) (E : Env) (H : Heap) : Prop := beginW P k bd h K E H H[h]?
def roundE : List Nat → List L → Env → Env
 | p :: ps, l :: ls, E => roundE ps ls ((p, l) :: E)
 | _, _, E => E
def resL (E : Env) (H : Heap) : List RV → Option (List L)
 | [] => some []
 | .t n :: rest => (resL E H rest).map (lk E n :: ·)
 | .c n sz ag :: rest => (loadL sz ag H (lk E n)).bind fun l => (resL E H rest).map (l :: ·)
def res1 : List L → L
 | [l] => l
 | ls => .tup ls
def fnPost (res : List RV) (K : L → Heap → Prop) : X → Env → Heap → Prop
 | .normal => fun E H => optK (resL E H res) fun ls => K (res1 ls) H
 | .ret => fun E H => optK (resL E H res) fun ls => K (res1 ls) H
 | _ => fun _ _ => False
def params : Nat → List L → Env
 | _, [] => []
 | i, l :: ls => (i, l) :: params (i + 1) ls
end Lg


/- Base laws: inversions, a new block, a store. -/
namespace Lg
open Go
section inv
variable {S : Nat → Prop} {w : World} {η : List Nat} {x : Value}
theorem Rel.inv_v {y : Value} (h : Rel S w η x (.v y)) : x = y := by cases h; rfl
theorem Rel.inv_no (h : Rel S w η x .no) : x = undef := by cases h; rfl
theorem Rel.inv_agg {ls} (h : Rel S w η x (.agg ls)) : ∃ cs, x = .agg cs ∧ cs.size = ls.length ∧ ∀ j, Rel S w η (cs.getD j undef) (ls.getD j .any) := by
 cases h with | agg h hr => exact ⟨_, rfl, h, hr⟩
theorem Rel.inv_tup {ls} (h : Rel S w η x (.tup ls)) : ∃ cs, x = .tuple cs ∧ cs.size = ls.length ∧ ∀ j, Rel S w η (cs.getD j undef) (ls.getD j .any) := by
 cases h with | tup h hr => exact ⟨_, rfl, h, hr⟩
theorem Rel.inv_ptr {k off} (h : Rel S w η x (.ptr k off)) : ∃ b, x = .pointer (some ⟨b, off, none⟩) ∧ η[k]? = some b ∧ ∃ c t fr, w.heap[b]? = some (.cells c t fr) := by
 cases h with | ptr hη hb => exact ⟨_, rfl, hη, _, _, _, hb⟩
theorem Rel.inv_cm {k es} (h : Rel S w η x (.cm k es)) : ∃ b, x = .map (some b) ∧ S b ∧ MapAt w b k es := by
 cases h with | cm hS hm => exact ⟨_, rfl, hS, hm⟩
theorem Rel.inv_itp {k} (h : Rel S w η x (.itp k)) : ∃ b, x = .pointer (some ⟨b, 0, none⟩) ∧ η[k]? = some b := by
 cases h with | itp hη => exact ⟨_, rfl, hη⟩
theorem Rel.inv_mref {k} (h : Rel S w η x (.mref k)) : ∃ b, x = .map (some b) ∧ η[k]? = some b := by
 cases h with | mref hη => exact ⟨_, rfl, hη⟩
theorem Rel.inv_yl {k} (h : Rel S w η x (.yl k)) : ∃ b, x = .func (.yield b) #[] #[] ∧ η[k]? = some b := by
 cases h with | yl hη => exact ⟨_, rfl, hη⟩
theorem Rel.inv_pp {ls} (h : Rel S w η x (.pp ls)) : ∃ b o, ∃ cs : Nat → Value, x = .pointer (some ⟨b, o, none⟩) ∧ (0 < ls.length → S b) ∧ (∀ j, j < ls.length → w.cell? ⟨b, o + j, none⟩ = some (cs j)) ∧
  ∀ j, Rel S w [] (cs j) (ls.getD j .any) := by
 cases h with | pp cs hS hc hr => exact ⟨_, _, cs, rfl, hS, hc, hr⟩
theorem Rel.inv_fn {f ff cc} (h : Rel S w η x (.fn f ff cc)) : ∃ first cap, x = .func f first cap ∧ first.size = ff.length ∧ cap.size = cc.length ∧
  (∀ j, Rel S w η (first.getD j undef) (ff.getD j .any)) ∧ ∀ j, Rel S w η (cap.getD j undef) (cc.getD j .any) := by
 cases h with | fn h1 h2 r1 r2 => exact ⟨_, _, rfl, h1, h2, r1, r2⟩
theorem Rel.inv_sl {esz clip xs} (h : Rel S w η x (.sl esz clip xs)) : ∃ a cap, x = .slice a xs.length cap ∧ xs.length ≤ cap ∧ cap ≤ maxLen ∧ (clip = true → cap = xs.length) ∧
  (∀ y ∈ xs, y.cells.length = esz ∧ (esz = 1 → y.cells = [y])) ∧
  (0 < xs.length → ∃ b o, ∃ cs : Nat → Value, a = some ⟨b, o, none⟩ ∧ (0 < xs.length * esz → S b) ∧ (∀ j, j < xs.length * esz → w.cell? ⟨b, o + j, none⟩ = some (cs j)) ∧
   ∀ j, Rel S w [] (cs j) ((flat esz xs).getD j .any)) := by
 cases h with
 | sl0 h1 h2 => exact ⟨_, _, rfl, by simp, h2, h1, by simp, by simp⟩
 | sl cs h2 h3 h4 h5 hS hc hr => exact ⟨_, _, rfl, h2, h3, h4, h5, fun _ => ⟨_, _, cs, rfl, hS, hc, hr⟩⟩
theorem Rel.inv_view {esz k off n clip} (h : Rel S w η x (.view esz k off n clip)) : (∃ a, x = .slice a 0 0 ∧ n = 0) ∨
  ∃ b cap c t fr, x = .slice (some ⟨b, off, none⟩) n cap ∧ η[k]? = some b ∧ w.heap[b]? = some (.cells c t fr) ∧ off + cap * esz ≤ c.size ∧ n ≤ cap ∧ cap ≤ maxLen ∧ (clip = true → cap = n) := by
 cases h with
 | view0 => exact .inl ⟨_, rfl, rfl⟩
 | view hη hb hsz hn hm hcl => exact .inr ⟨_, _, _, _, _, rfl, hη, hb, hsz, hn, hm, hcl⟩
end inv
theorem getD_of_lt {α : Type} (l : List α) (d : α) {j : Nat} (h : j < l.length) : l.getD j d = l[j] := by simp [List.getD, List.getElem?_eq_getElem h]
theorem getD_of_ge {α : Type} (l : List α) (d : α) {j : Nat} (h : l.length ≤ j) : l.getD j d = d := by simp [List.getD, List.getElem?_eq_none h]
theorem agetD_of_lt {α : Type} (l : Array α) (d : α) {j : Nat} (h : j < l.size) : l.getD j d = l[j] := by simp [Array.getD, h]
theorem agetD_of_ge {α : Type} (l : Array α) (d : α) {j : Nat} (h : l.size ≤ j) : l.getD j d = d := by simp [Array.getD, Nat.not_lt.2 h]
theorem Rel.one {S : Nat → Prop} {w : World} {η : List Nat} {x : Value} {l : L} (h : Rel S w η x l) (hs : solid l = true) : x.oneCell' = true := by
 cases h <;> simp_all [solid, Value.oneCell']
theorem cells_of_one {x : Value} (h : x.oneCell' = true) : x.cells = #[x] := by cases x <;> simp_all [Value.oneCell', Value.cells]
theorem lcells_of_solid {l : L} (h : solid l = true) : l.cells = [l] := by cases l <;> simp_all [solid, L.cells]
theorem Rel.cells {S : Nat → Prop} {w : World} {η : List Nat} {x : Value} {l : L} (h : Rel S w η x l) (ht : topOK l = true) :
  x.cells.size = l.cells.length ∧ ∀ j, Rel S w η (x.cells.getD j undef) (l.cells.getD j .any) := by
 by_cases hs : solid l = true
 ·rw [cells_of_one (h.one hs), lcells_of_solid hs]
  refine ⟨rfl, fun j => ?_⟩
  cases j with
  | zero => exact h
  | succ j => exact .any _
 ·cases l <;> simp_all [topOK, solid]
  obtain ⟨cs, rfl, hz, hr⟩ := h.inv_agg
  exact ⟨hz, by simpa [Value.cells, L.cells] using hr⟩
theorem all_solid_cells {l : L} (ht : topOK l = true) : l.cells.all solid = true := by
 by_cases hs : solid l = true
 ·rw [lcells_of_solid hs]; simp [hs]
 ·cases l <;> simp_all [topOK, solid, L.cells]
theorem Rel.cells_one {S : Nat → Prop} {w : World} {η : List Nat} {x : Value} {l : L} (h : Rel S w η x l) (ht : topOK l = true) : ∀ y ∈ x.cells.toList, y.oneCell' = true := by
 obtain ⟨hz, hr⟩ := h.cells ht
 have ha := all_solid_cells ht
 intro y hy
 obtain ⟨j, hj, rfl⟩ := List.getElem_of_mem hy
 have hj' : j < x.cells.size := by simpa using hj
 have := hr j
 rw [agetD_of_lt _ _ hj', getD_of_lt _ _ (by omega)] at this
 simpa using this.one (List.all_eq_true.1 ha _ (List.getElem_mem _))
theorem rel_ofV {S : Nat → Prop} {w : World} {η : List Nat} (x : Value) : Rel S w η x (ofV x) := by
 cases x <;> first | exact .v _ | skip
 rename_i cs
 refine .agg (by simp) fun j => ?_
 by_cases hj : j < cs.size
 ·rw [agetD_of_lt _ _ hj, getD_of_lt _ _ (by simpa using hj)]; simp; exact .v _
 ·rw [getD_of_ge _ _ (by simpa using hj)]; exact .any _
theorem Le.heap {η : List Nat} {S : Nat → Prop} {w w' : World} (h : w'.heap = w.heap) (h1 : w'.os = w.os) (h2 : w'.tape = w.tape) (h3 : w'.output = w.output) : Le η S w η S w' :=
 ⟨⟨[], by simp, by simp⟩, fun _ h => h, fun _ _ => by rw [h], fun _ c _ fr hb => ⟨c, fr, by rw [h]; exact hb, rfl⟩, by rw [h]; exact Nat.le_refl _, fun _ _ _ => by rw [h], fun _ h => .inl h, h1, h2, h3⟩
theorem Conc.heap {η : List Nat} {S : Nat → Prop} {w w' : World} {H : Heap} (hC : Conc η S w H) (h : w'.heap = w.heap) : Conc η S w' H := by
 have hm : ∀ {x l}, Rel S w η x l → Rel S w' η x l := fun hr => hr.mono (fun _ h => h) (fun _ _ => by rw [h]) (fun _ c _ fr hb => ⟨c, fr, by rw [h]; exact hb, rfl⟩) (fun _ _ h => h)
 refine ⟨hC.len, fun b hb => by rw [h]; exact hC.lt b hb, fun b hb => by rw [h]; exact hC.Slt b hb, hC.apart, fun k b ls h1 h2 => ?_⟩
 exact (hC.liveAt k b ls h1 h2).mono (by rw [h]) (fun _ _ h => hm h)
theorem Conc.pushO {η : List Nat} {S : Nat → Prop} {w : World} {H : Heap} (hC : Conc η S w H) (o : Obj) (ls : List L) {w' : World}
  (hl : Le η S w (η ++ [w.heap.size]) S w' → LiveAt (η ++ [w.heap.size]) S w' w.heap.size ls) (hh : w'.heap = w.heap.push o) (h1 : w'.os = w.os) (h2 : w'.tape = w.tape) (h3 : w'.output = w.output) :
  Conc (η ++ [w.heap.size]) S w' (H ++ [some ls]) ∧ Le η S w (η ++ [w.heap.size]) S w' := by
 have old : ∀ b, b < w.heap.size → w'.heap[b]? = w.heap[b]? := fun b hb => by rw [hh, Array.getElem?_push]; simp [Nat.ne_of_lt hb]
 have lt_of : ∀ b o, w.heap[b]? = some o → b < w.heap.size := fun b o ho => by
  rcases Nat.lt_or_ge b w.heap.size with h | h
  ·exact h
  ·simp [Array.getElem?_eq_none h] at ho
 have hle : Le η S w (η ++ [w.heap.size]) S w' :=
  ⟨⟨[w.heap.size], rfl, by simp⟩, fun _ h => h, fun b hb => old b (hC.Slt b hb), fun b c _ fr hb => ⟨c, fr, by rw [old b (lt_of b _ hb)]; exact hb, rfl⟩, by rw [hh]; simp, fun b hb _ => old b hb, fun _ h => .inl h, h1, h2, h3⟩
 refine ⟨⟨by simp [hC.len], ?_, fun b hb => by have := hC.Slt b hb; rw [hh]; simp; omega, ?_, ?_⟩, hle⟩
 ·intro b hb
  rw [hh]; simp
  rcases List.mem_append.1 hb with h | h
  ·have := hC.lt b h; omega
  ·simp at h; omega
 ·intro h b ls' e1 e2
  by_cases hk : h < η.length
  ·rw [List.getElem?_append_left hk] at e1
   rw [List.getElem?_append_left (by rw [← hC.len]; exact hk)] at e2
   obtain ⟨p1, p2⟩ := hC.apart h b ls' e1 e2
   refine ⟨p1, fun h' ls'' f1 f2 => ?_⟩
   by_cases hk' : h' < η.length
   ·rw [List.getElem?_append_left hk'] at f1
    rw [List.getElem?_append_left (by rw [← hC.len]; exact hk')] at f2
    exact p2 h' ls'' f1 f2
   ·rw [List.getElem?_append_right (by omega)] at f1
    have hb := hC.lt b (List.mem_of_getElem? e1)
    rcases h'' : h' - η.length with _ | m
    ·simp [h''] at f1; omega
    ·simp [h''] at f1
  ·rw [List.getElem?_append_right (by omega)] at e1
   have hh0 : h = η.length ∧ b = w.heap.size := by
    rcases h'' : h - η.length with _ | m
    ·simp [h''] at e1; omega
    ·simp [h''] at e1
   obtain ⟨rfl, rfl⟩ := hh0
   refine ⟨fun hS => by have := hC.Slt _ hS; omega, fun h' ls'' f1 f2 => ?_⟩
   by_cases hk' : h' < η.length
   ·rw [List.getElem?_append_left hk'] at f1
    have := hC.lt _ (List.mem_of_getElem? f1); omega
   ·rw [List.getElem?_append_right (by omega)] at f1
    rcases h'' : h' - η.length with _ | m
    ·omega
    ·simp [h''] at f1
 ·intro h b ls' e1 e2
  by_cases hk : h < η.length
  ·rw [List.getElem?_append_left hk] at e1
   rw [List.getElem?_append_left (by rw [← hC.len]; exact hk)] at e2
   obtain ⟨o', q1⟩ := (hC.liveAt h b ls' e1 e2).some
   exact (hC.liveAt h b ls' e1 e2).mono (old b (lt_of b _ q1)) (fun _ _ h => h.le hle)
  ·rw [List.getElem?_append_right (by omega)] at e1
   have hh0 : h = η.length ∧ b = w.heap.size := by
    rcases h'' : h - η.length with _ | m
    ·simp [h''] at e1; omega
    ·simp [h''] at e1
   obtain ⟨rfl, rfl⟩ := hh0
   rw [List.getElem?_append_right (by rw [hC.len]; omega), hC.len] at e2
   simp at e2; subst e2
   exact hl hle
theorem Conc.push {η : List Nat} {S : Nat → Prop} {w : World} {H : Heap} (hC : Conc η S w H) (cells : Array Value) (t : TypeId) (ls : List L) (hz : ls.length ≤ cells.size)
  (hr : ∀ j, j < ls.length → Rel S w η (cells.getD j undef) (ls.getD j .any)) {w' : World} (hh : w'.heap = w.heap.push (.cells cells t)) (h1 : w'.os = w.os) (h2 : w'.tape = w.tape) (h3 : w'.output = w.output) :
  Conc (η ++ [w.heap.size]) S w' (H ++ [some ls]) ∧ Le η S w (η ++ [w.heap.size]) S w' :=
 hC.pushO (.cells cells t) ls (fun hle => .inl ⟨cells, t, (0, 0), by rw [hh]; simp, hz, .inl rfl, fun j hj => (hr j hj).le hle⟩) hh h1 h2 h3
theorem Rel.new {η : List Nat} {S : Nat → Prop} {w : World} {n : Nat} {c t fr} (hb : w.heap[n]? = some (.cells c t fr)) : Rel S w (η ++ [n]) (.pointer (some ⟨n, 0, none⟩)) (.ptr η.length 0) := .ptr (by simp) hb
def putArr (c : Array Value) (o : Nat) : List Value → Array Value
 | [] => c
 | x :: xs => putArr (c.setIfInBounds o x) (o + 1) xs
theorem putArr_size (vs : List Value) : ∀ (c : Array Value) (o : Nat), (putArr c o vs).size = c.size := by
 induction vs with
 | nil => intros; rfl
 | cons x xs ih => intro c o; rw [putArr, ih]; simp
theorem putArr_get (vs : List Value) : ∀ (c : Array Value) (o j : Nat), o + vs.length ≤ c.size → (putArr c o vs).getD j undef = if o ≤ j ∧ j < o + vs.length then vs.getD (j - o) undef else c.getD j undef := by
 induction vs with
 | nil => intro c o j _; simp [putArr]; intro h1 h2; omega
 | cons x xs ih =>
  intro c o j h
  simp at h
  rw [putArr, ih _ _ _ (by simp; omega)]
  by_cases h1 : o + 1 ≤ j ∧ j < o + 1 + xs.length
  ·rw [if_pos h1, if_pos ⟨by omega, by simp; omega⟩, show j - o = (j - (o + 1)) + 1 by omega]
   simp
  ·rw [if_neg h1]
   by_cases h2 : j = o
   ·subst h2
    rw [if_pos ⟨by omega, by simp⟩]
    simp [Array.getD_eq_getD_getElem?, show j < c.size by omega]
   ·rw [if_neg (by simp; omega)]
    simp [Array.getD_eq_getD_getElem?, Ne.symm h2]
theorem setCells_length (xs : List L) : ∀ (ls : List L) (o : Nat), (setCells ls o xs).length = ls.length := by
 induction xs with
 | nil => intros; rfl
 | cons x xs ih => intro ls o; rw [setCells, ih]; simp
theorem setCells_get (xs : List L) : ∀ (ls : List L) (o j : Nat), o + xs.length ≤ ls.length → (setCells ls o xs).getD j .any = if o ≤ j ∧ j < o + xs.length then xs.getD (j - o) .any else ls.getD j .any := by
 induction xs with
 | nil => intro c o j _; simp [setCells]; intro h1 h2; omega
 | cons x xs ih =>
  intro ls o j h
  simp at h
  rw [setCells, ih _ _ _ (by simp; omega)]
  by_cases h1 : o + 1 ≤ j ∧ j < o + 1 + xs.length
  ·rw [if_pos h1, if_pos ⟨by omega, by simp; omega⟩, show j - o = (j - (o + 1)) + 1 by omega]
   simp
  ·rw [if_neg h1]
   by_cases h2 : j = o
   ·subst h2
    rw [if_pos ⟨by omega, by simp⟩]
    simp [List.getD, show j < ls.length by omega]
   ·rw [if_neg (by simp; omega)]
    simp [List.getD, Ne.symm h2]
theorem setCells_heap (b : Nat) (vs : List Value) : ∀ (w : World) (o : Nat) (c : Array Value) (t : TypeId) (fr : Nat × Nat), w.heap[b]? = some (.cells c t fr) →
  (w.setCells b o vs).heap[b]? = some (.cells (putArr c o vs) t fr) ∧ (∀ b', b' ≠ b → (w.setCells b o vs).heap[b']? = w.heap[b']?) ∧ (w.setCells b o vs).heap.size = w.heap.size ∧
   (w.setCells b o vs).os = w.os ∧ (w.setCells b o vs).tape = w.tape ∧ (w.setCells b o vs).output = w.output := by
 induction vs with
 | nil => intro w o c t fr h; exact ⟨h, fun _ _ => rfl, rfl, rfl, rfl, rfl⟩
 | cons x xs ih =>
  intro w o c t fr h
  have h0 : (w.setCell ⟨b, o, none⟩ x).heap[b]? = some (.cells (c.setIfInBounds o x) t fr) := by
   simp [World.setCell, Array.getElem?_modify, h]
  have h1 : ∀ b', b' ≠ b → (w.setCell ⟨b, o, none⟩ x).heap[b']? = w.heap[b']? := fun b' hb => by
   simp [World.setCell, Array.getElem?_modify, Ne.symm hb]
  obtain ⟨e1, e2, e3, e4, e5, e6⟩ := ih (w.setCell ⟨b, o, none⟩ x) (o + 1) _ t fr h0
  refine ⟨by simpa [World.setCells, putArr] using e1, fun b' hb => ?_, ?_, ?_, ?_, ?_⟩
  ·rw [World.setCells, e2 b' hb, h1 b' hb]
  ·rw [World.setCells, e3]; simp [World.setCell]
  ·rw [World.setCells, e4]; rfl
  ·rw [World.setCells, e5]; rfl
  ·rw [World.setCells, e6]; rfl
theorem live_iff {H : Heap} {h : Nat} {cs : List L} : live H h = some cs ↔ H[h]? = some (some cs) := by
 unfold live
 cases e : H[h]? with
 | none => simp
 | some o => cases o <;> simp
theorem Conc.store {η : List Nat} {S : Nat → Prop} {w : World} {H : Heap} (hC : Conc η S w H) {h b off : Nat} {cs : List L} {c0 t0 fr0} (hb0 : w.heap[b]? = some (.cells c0 t0 fr0)) (hη : η[h]? = some b) (hH : H[h]? = some (some cs))
  (vs : List Value) (ys : List L) (hz : vs.length = ys.length) (hb : off + ys.length ≤ cs.length) (hr : ∀ j, j < ys.length → Rel S w η (vs.getD j undef) (ys.getD j .any)) :
  Conc η S (w.setCells b off vs) (H.set h (some (setCells cs off ys))) ∧ Le η S w η S (w.setCells b off vs) := by
 obtain ⟨c, t, fr, q1, q2, q3, q4⟩ := hC.live hb0 hη hH
 obtain ⟨e1, e2, e3, e4, e5, e6⟩ := setCells_heap b vs w off c t fr q1
 obtain ⟨p1, p2⟩ := hC.apart h b cs hη hH
 have hle : Le η S w η S (w.setCells b off vs) := by
  refine ⟨⟨[], by simp, by simp⟩, fun _ h => h, fun b' hb' => e2 b' (fun e => p1 (e ▸ hb')), ?_, by omega, fun b' _ hn => e2 b' (fun e => hn (e ▸ List.mem_of_getElem? hη)), fun _ h => .inl h, e4, e5, e6⟩
  intro b' c' t' fr' hb'
  by_cases hbb : b' = b
  ·subst hbb
   rw [q1] at hb'; cases hb'
   exact ⟨_, _, e1, putArr_size _ _ _⟩
  ·exact ⟨c', fr', by rw [e2 b' hbb]; exact hb', rfl⟩
 have hlt : h < H.length := (List.getElem?_eq_some_iff.1 hH).1
 refine ⟨⟨by simp [hC.len], fun b' hb' => by rw [e3]; exact hC.lt b' hb', fun b' hb' => by rw [e3]; exact hC.Slt b' hb', ?_, ?_⟩, hle⟩
 ·intro k b' ls f1 f2
  have f2' : ∃ ls', H[k]? = some (some ls') := by
   by_cases hk : k = h
   ·subst hk; exact ⟨cs, hH⟩
   ·rw [List.getElem?_set_ne (Ne.symm hk)] at f2; exact ⟨ls, f2⟩
  obtain ⟨ls', f3⟩ := f2'
  obtain ⟨r1, r2⟩ := hC.apart k b' ls' f1 f3
  refine ⟨r1, fun k' ls'' g1 g2 => ?_⟩
  by_cases hk : k' = h
  ·subst hk; exact r2 k' cs g1 hH
  ·rw [List.getElem?_set_ne (Ne.symm hk)] at g2; exact r2 k' ls'' g1 g2
 ·intro k b' ls f1 f2
  by_cases hk : k = h
  ·subst hk
   rw [hη] at f1; cases f1
   rw [List.getElem?_set_self hlt] at f2
   simp at f2; subst f2
   refine .inl ⟨_, t, fr, e1, by rw [setCells_length, putArr_size]; exact q2, by rw [putArr_size]; exact q3, fun j hj => ?_⟩
   rw [setCells_length] at hj
   rw [putArr_get _ _ _ _ (by omega), setCells_get _ _ _ _ hb]
   by_cases hj2 : off ≤ j ∧ j < off + ys.length
   ·rw [if_pos (by omega), if_pos hj2]; exact (hr _ (by omega)).le hle
   ·rw [if_neg (by omega), if_neg hj2]; exact (q4 j hj).le hle
  ·rw [List.getElem?_set_ne (Ne.symm hk)] at f2
   have hbb : b' ≠ b := fun e => by subst e; exact hk (p2 k ls f1 f2)
   exact (hC.liveAt k b' ls f1 f2).mono (e2 b' hbb) (fun _ _ h => h.le hle)
theorem frozen_of {w : World} {b : Nat} {c : Array Value} {t : TypeId} {fr : Nat × Nat} (h : w.heap[b]? = some (.cells c t fr)) {o : Nat} (hn : ¬ (fr.1 ≤ o ∧ o < fr.2)) : w.frozen? ⟨b, o, none⟩ = false := by
 unfold World.frozen?
 simp [h]
 intro h1; exact Nat.le_of_not_lt fun h2 => hn ⟨h1, h2⟩
theorem cell_of {w : World} {b : Nat} {c : Array Value} {t : TypeId} {fr : Nat × Nat} (h : w.heap[b]? = some (.cells c t fr)) {o : Nat} (ho : o < c.size) : w.cell? ⟨b, o, none⟩ = some (c.getD o undef) := by
 unfold World.cell?
 simp [h, ho, Array.getD]
theorem run_storeCells_own {P : Program} {η : List Nat} {S : Nat → Prop} {w : World} {H : Heap} (hC : Conc η S w H) {h b off : Nat} {cs : List L} {c0 t0 fr0} (hb0 : w.heap[b]? = some (.cells c0 t0 fr0)) (hη : η[h]? = some b) (hH : H[h]? = some (some cs))
  (vs : List Value) (hb : off + vs.length ≤ cs.length) (h1 : ∀ v ∈ vs, v.oneCell' = true) : (storeCells ⟨b, off, none⟩ vs 0).run P w = .ok () (w.setCells b off vs) := by
 obtain ⟨c, t, fr, q1, q2, q3, q4⟩ := hC.live hb0 hη hH
 have := run_storeCells_cells (P := P) b off vs 0 w (fun j hj => by rw [cell_of q1 (by omega)]; rfl) (fun j hj => frozen_of q1 (by omega)) h1
 simpa using this
end Lg


/- Soundness of the operations. -/
namespace Lg
open Go
section
variable {P : Program} {η : List Nat} {S : Nat → Prop} {w : World} {H : Heap} {a : Act} {E : Env}
theorem compA_sound {x : Operand} {y : A} (h : compA x = some y) (hE : REnv η S w a.tmps E) : Rel S w η (a.eval x) (arg E y) := by
 cases x with
 | tmp t => simp [compA] at h; subst h; exact hE t
 | const v => simp [compA] at h; subst h; exact rel_ofV v
 | func f => simp [compA] at h; subst h; exact .fn rfl rfl (fun j => by simp; exact .any _) (fun j => by simp; exact .any _)
 | global g => simp [compA] at h
theorem compAs_sound (hE : REnv η S w a.tmps E) : ∀ {xs : List Operand} {ys : List A}, compAs xs = some ys →
  xs.length = ys.length ∧ ∀ j, Rel S w η ((xs.map a.eval).getD j undef) ((ys.map (arg E)).getD j .any)
 | [], ys, h => by simp [compAs] at h; subst h; exact ⟨rfl, fun j => by simp; exact .any _⟩
 | x :: xs, ys, h => by
  simp only [compAs, Option.bind_eq_some_iff, Option.map_eq_some_iff] at h
  obtain ⟨y, h1, ys', h2, rfl⟩ := h
  obtain ⟨e1, e2⟩ := compAs_sound hE h2
  refine ⟨by simp [e1], fun j => ?_⟩
  cases j with
  | zero => exact compA_sound h1 hE
  | succ j => simpa using e2 j
def Fine (P : Program) (s : Sem Next) (η : List Nat) (S : Nat → Prop) (w : World) (l : L) (H' : Heap) : Prop :=
 ∃ v w' η' S', (s.run P w = .ok (.value v) w' ∨ (s.run P w = .ok .skip w' ∧ v = undef)) ∧ Rel S' w' η' v l ∧ Conc η' S' w' H' ∧ Le η S w η' S' w'
theorem Fine.same {s : Sem Next} {v : Value} {l : L} (hC : Conc η S w H) (h : s.run P w = .ok (.value v) w) (hr : Rel S w η v l) : Fine P s η S w l H :=
 ⟨v, w, η, S, .inl h, hr, hC, Le.refl _ _ _⟩
theorem run_val {s : Sem Value} {v : Value} {w' : World} (h : s.run P w = .ok v w') : (do pure (Next.value (← s)) : Sem Next).run P w = .ok (.value v) w' := by simp [h]
theorem bitsI_run {op : BinOp} {k : IntKind} {x y : Int} (h : op = .and ∨ op = .or ∨ op = .xor ∨ op = .andNot) : (Op.intBits op k x y).run P w = .ok (.int k (bitsI op k x y)) w := by
 rcases h with rfl | rfl | rfl | rfl <;> simp [Op.intBits, bitsI]
theorem run_binInt {op : BinOp} {t : TypeId} {k k' : IntKind} {a b : Int} {l : L} (h : binInt op k a k' b = some l) : ∃ v, (binOp op t (.int k a) (.int k' b)).run P w = .ok v w ∧ l = .v v := by
 cases op
 case shl => simp [binInt] at h; obtain ⟨h1, rfl⟩ := h; exact ⟨_, by simp [binOp, Op.shift, shlI, Int.not_lt.2 h1], rfl⟩
 case shr => simp [binInt] at h; obtain ⟨h1, rfl⟩ := h; exact ⟨_, by simp [binOp, Op.shift, shrI, Int.not_lt.2 h1], rfl⟩
 case add => simp [binInt] at h; obtain ⟨rfl, rfl⟩ := h; exact ⟨_, by simp [binOp, Op.intArith], rfl⟩
 case sub => simp [binInt] at h; obtain ⟨rfl, rfl⟩ := h; exact ⟨_, by simp [binOp, Op.intArith], rfl⟩
 case mul => simp [binInt] at h; obtain ⟨rfl, rfl⟩ := h; exact ⟨_, by simp [binOp, Op.intArith], rfl⟩
 case quo => simp [binInt] at h; obtain ⟨rfl, h1, rfl⟩ := h; exact ⟨_, by simp [binOp, Op.intDiv, h1], rfl⟩
 case rem => simp [binInt] at h; obtain ⟨rfl, h1, rfl⟩ := h; exact ⟨_, by simp [binOp, Op.intDiv, h1], rfl⟩
 case and => simp [binInt] at h; obtain ⟨rfl, rfl⟩ := h; exact ⟨_, by simp [binOp, bitsI_run], rfl⟩
 case or => simp [binInt] at h; obtain ⟨rfl, rfl⟩ := h; exact ⟨_, by simp [binOp, bitsI_run], rfl⟩
 case xor => simp [binInt] at h; obtain ⟨rfl, rfl⟩ := h; exact ⟨_, by simp [binOp, bitsI_run], rfl⟩
 case andNot => simp [binInt] at h; obtain ⟨rfl, rfl⟩ := h; exact ⟨_, by simp [binOp, bitsI_run], rfl⟩
 case eql => simp [binInt] at h; obtain ⟨rfl, rfl⟩ := h; exact ⟨.bool (decide (a = b)), by simp [binOp, Op.intCmp]; by_cases e : a = b <;> simp [e], rfl⟩
 case neq => simp [binInt] at h; obtain ⟨rfl, rfl⟩ := h; exact ⟨.bool (!decide (a = b)), by simp [binOp, Op.intCmp, bne]; by_cases e : a = b <;> simp [e], rfl⟩
 case lss => simp [binInt] at h; obtain ⟨rfl, rfl⟩ := h; exact ⟨_, by simp [binOp, Op.intCmp], rfl⟩
 case leq => simp [binInt] at h; obtain ⟨rfl, rfl⟩ := h; exact ⟨_, by simp [binOp, Op.intCmp], rfl⟩
 case gtr => simp [binInt] at h; obtain ⟨rfl, rfl⟩ := h; exact ⟨_, by simp [binOp, Op.intCmp], rfl⟩
 case geq => simp [binInt] at h; obtain ⟨rfl, rfl⟩ := h; exact ⟨_, by simp [binOp, Op.intCmp], rfl⟩
theorem run_equalIn_bool (d : Nat) {t : TypeId} (ht : P.underlying t = some .bool) (a b : Bool) : (Op.equalIn (d + 1) t (.bool a) (.bool b)).run P w = .ok (a == b) w := by
 simp only [Op.equalIn, Sem.run_bind, run_underlying ht, Result.andThen_ok, Sem.run_pure]
theorem run_equal_bool {t : TypeId} (ht : P.underlying t = some .bool) (a b : Bool) : (Op.equal t (.bool a) (.bool b)).run P w = .ok (a == b) w := run_equalIn_bool 9999 ht a b
theorem run_bin {op : BinOp} {isb : Bool} {t : TypeId} {o1 o2 : Operand} {x y : Value} {lx ly l : L} (hb : isb = true → P.underlying t = some .bool) (h : binL op isb lx ly = some l) (hx : Rel S w η x lx) (hy : Rel S w η y ly) :
  ∃ v, (do eqGuard op t o1 o2 x y; binOp op t x y : Sem Value).run P w = .ok v w ∧ Rel S w η v l := by
 unfold binL at h
 split at h
 ·rename_i k a k' b
  have := hx.inv_v; subst this
  have := hy.inv_v; subst this
  obtain ⟨v, hv, rfl⟩ := run_binInt (P := P) (w := w) (t := t) h
  exact ⟨v, by simp only [eqGuard_at_int, pure_bind]; exact hv, .v _⟩
 ·rename_i a b
  have := hx.inv_v; subst this
  have := hy.inv_v; subst this
  split at h
  ·rename_i hi
   have ht := hb hi
   cases op <;> simp only [binBool] at h <;> first | (simp at h; done) | skip
   ·cases h
    exact ⟨_, by simp only [eqGuard_at_bool, pure_bind, binOp, Sem.run_bind, run_equal_bool ht, Result.andThen_ok, Sem.run_pure], .v _⟩
   ·cases h
    exact ⟨_, by simp only [eqGuard_at_bool, pure_bind, binOp, Sem.run_bind, run_equal_bool ht, Result.andThen_ok, Sem.run_pure]; rfl, .v _⟩
  ·simp at h
 ·rename_i a b
  have := hx.inv_v; subst this
  have := hy.inv_v; subst this
  simp only [eqGuard_at_string, pure_bind]
  cases op <;> simp only [binStr] at h <;> first | (simp at h; done) | skip
  ·simp at h
   obtain ⟨h1, rfl⟩ := h
   have h2 : ¬ (((a.size + b.size : Nat) : Int) > IntKind.i64.max) := by
    rw [show IntKind.i64.max = 9223372036854775807 from rfl]; omega
   have h3 : a ++ b = ⟨(a.data.toList ++ b.data.toList).toArray⟩ := by
    apply ByteArray.ext; simp [ByteArray.data_append]
   exact ⟨.string (a ++ b), by simp only [binOp, Op.stringOp, if_neg h2]; rfl, by rw [h3]; exact .v _⟩
  ·cases h; exact ⟨_, by simp [binOp, Op.stringOp]; by_cases hab : a.toList = b.toList <;> simp [hab], .v _⟩
  ·cases h; exact ⟨_, by simp [binOp, Op.stringOp]; by_cases hab : a.toList = b.toList <;> simp [hab], .v _⟩
  ·cases h; exact ⟨_, by simp [binOp, Op.stringOp], .v _⟩
 ·simp at h
theorem run_un {op : UnOp} {x : Value} {lx l : L} (h : unL op lx = some l) (hx : Rel S w η x lx) : ∃ v, (Op.unary op x).run P w = .ok v w ∧ Rel S w η v l := by
 unfold unL at h
 split at h
 ·have := hx.inv_v; subst this
  cases op <;> simp at h
  subst h; exact ⟨_, by simp [Op.unary], .v _⟩
 ·have := hx.inv_v; subst this
  cases op <;> simp at h
  ·subst h; exact ⟨.int _ _, by simp only [Op.unary, Op.intArith, Sem.run_pure]; rfl, by simp; exact .v _⟩
  ·subst h; exact ⟨_, by simp [Op.unary, bitsI_run], .v _⟩
 ·simp at h
theorem run_equalIn_int (d : Nat) {e : TypeId} {k : IntKind} (he : P.underlying e = some (.int k)) (a b : Int) : (Op.equalIn (d + 1) e (.int k a) (.int k b)).run P w = .ok (a == b) w := by
 simp only [Op.equalIn, Sem.run_bind, run_underlying he, Result.andThen_ok, if_true, Sem.run_pure]
theorem run_equal2 {t e : TypeId} {k : IntKind} {i : TypeInfo} (hu : P.underlying t = some (.array 2 e)) (he : P.underlying e = some (.int k)) (hi : P.info? e = some i) (hc : P.cellsOf e = 1) (hp : P.plainKey e = true) (a b c d : Int) :
  (Op.equal t (.agg #[.int k a, .int k b]) (.agg #[.int k c, .int k d])).run P w = .ok (decide (a = c ∧ b = d)) w := by
 have h0 : (part e #[Value.int k a, .int k b] 0).run P w = .ok (.int k a) w := run_part_plain w hp rfl
 have h1 : (part e #[Value.int k a, .int k b] 1).run P w = .ok (.int k b) w := run_part_plain w hp rfl
 have h2 : (part e #[Value.int k c, .int k d] 0).run P w = .ok (.int k c) w := run_part_plain w hp rfl
 have h3 : (part e #[Value.int k c, .int k d] 1).run P w = .ok (.int k d) w := run_part_plain w hp rfl
 unfold Op.equal
 rw [show Op.maxDepth = 9998 + 1 + 1 from rfl, run_equalIn_array w _ _ _ hu hi]
 have hr : List.range 2 = [0, 1] := rfl
 have hi2 : ∀ x y : Int, (Op.equalIn 9999 e (.int k x) (.int k y)).run P w = .ok (x == y) w := fun x y => run_equalIn_int 9998 he x y
 simp only [hr, Op.eqItems, Sem.run_bind, hc, h0, h2, Result.andThen_ok, Nat.zero_mul, Nat.one_mul, run_equalIn_int _ he]
 by_cases e1 : a = c
 ·subst e1
  by_cases e2 : b = d
  ·subst e2; simp [h1, hi2]
  ·simp [e2, h1, h3, hi2]
 ·simp [e1]
theorem run_eq2 {t e : TypeId} {k : IntKind} {i : TypeInfo} {o1 o2 : Operand} (hu : P.underlying t = some (.array 2 e)) (he : P.underlying e = some (.int k)) (hi : P.info? e = some i) (hc : P.cellsOf e = 1) (hp : P.plainKey e = true) (hg : P.eqGuardType P.depth t = false) (a b c d : Int) :
  (do eqGuard .eql t o1 o2 (.agg #[.int k a, .int k b]) (.agg #[.int k c, .int k d]); binOp .eql t (.agg #[.int k a, .int k b]) (.agg #[.int k c, .int k d]) : Sem Value).run P w = .ok (.bool (decide (a = c ∧ b = d))) w := by
 have h0 : (part e #[Value.int k a, .int k b] 0).run P w = .ok (.int k a) w := run_part_plain w hp rfl
 have h1 : (part e #[Value.int k a, .int k b] 1).run P w = .ok (.int k b) w := run_part_plain w hp rfl
 have h2 : (part e #[Value.int k c, .int k d] 0).run P w = .ok (.int k c) w := run_part_plain w hp rfl
 have h3 : (part e #[Value.int k c, .int k d] 1).run P w = .ok (.int k d) w := run_part_plain w hp rfl
 have hpr : (program : Sem Program).run P w = .ok P w := rfl
 have heq : (Op.equal t (.agg #[.int k a, .int k b]) (.agg #[.int k c, .int k d])).run P w = .ok (decide (a = c ∧ b = d)) w := by
  unfold Op.equal
  rw [show Op.maxDepth = 9998 + 1 + 1 from rfl, run_equalIn_array w _ _ _ hu hi]
  have hr : List.range 2 = [0, 1] := rfl
  have hi2 : ∀ x y : Int, (Op.equalIn 9999 e (.int k x) (.int k y)).run P w = .ok (x == y) w := fun x y => run_equalIn_int 9998 he x y
  simp only [hr, Op.eqItems, Sem.run_bind, hc, h0, h2, Result.andThen_ok, Nat.zero_mul, Nat.one_mul, run_equalIn_int _ he]
  by_cases e1 : a = c
  ·subst e1
   by_cases e2 : b = d
   ·subst e2; simp [h1, hi2]
   ·simp [e2, h1, h3, hi2]
  ·simp [e1]
 simp only [eqGuard, binOp, Sem.run_bind]
 simp [heq, hg]
end
end Lg


/- Soundness of the operations that touch memory. -/
namespace Lg
open Go
section
variable {P : Program} {η : List Nat} {S : Nat → Prop} {w : World} {H : Heap} {a : Act} {E : Env}
theorem run_info {t : TypeId} {i : TypeInfo} (h : P.info? t = some i) : (typeInfo t).run P w = .ok i w := by simp [typeInfo, h]
theorem run_sz {t : TypeId} {s : Nat} (h : szOf P t = some s) : (Go.sizeOf t).run P w = .ok s w := by
 simp only [szOf, Option.map_eq_some_iff] at h
 obtain ⟨i, hi, rfl⟩ := h
 simp [Go.sizeOf, run_info hi]
theorem run_zero {t : TypeId} {i : TypeInfo} {z : Value} (h : P.info? t = some i) (hz : i.zero = some z) : (zeroValue t).run P w = .ok z w := by
 simp [zeroValue, run_info h, hz]
theorem run_agg {t : TypeId} {b : Bool} (h : isAggT P t = some b) : (isAgg t).run P w = .ok b w := by
 unfold isAggT at h
 cases hu : P.underlying t with
 | none => simp [hu] at h
 | some d =>
  simp only [hu] at h
  unfold isAgg
  simp only [Sem.run_bind, run_underlying hu, Result.andThen_ok]
  cases d <;> simp_all
theorem run_loadVar_agg {t : TypeId} {s b o : Nat} {f : Nat → Value} (hs : szOf P t = some s) (hg : isAggT P t = some true) (h : ∀ j, j < s → w.cell? ⟨b, o + j, none⟩ = some (f j)) :
  (loadVar t ⟨b, o, none⟩).run P w = .ok (.agg ((List.range s).map f).toArray) w := by
 have := run_loadCells (P := P) w ⟨b, o, none⟩ s f (fun j hj => by rw [Addr.add_lit]; exact h j hj)
 simp only [loadVar, Sem.run_bind, run_agg hg, Result.andThen_ok, if_true, run_sz hs, this, Sem.run_pure]
theorem run_loadVar_one {t : TypeId} {b o : Nat} {x : Value} (hg : isAggT P t = some false) (h : w.cell? ⟨b, o, none⟩ = some x) :
  (loadVar t ⟨b, o, none⟩).run P w = .ok x w := by
 simp only [loadVar, Sem.run_bind, run_agg hg, Result.andThen_ok, Bool.false_eq_true, if_false, run_load, h]
theorem rel_agg_range {n : Nat} {f : Nat → Value} {ls : List L} (hl : ls.length = n) (h : ∀ j, j < n → Rel S w η (f j) (ls.getD j .any)) : Rel S w η (.agg ((List.range n).map f).toArray) (.agg ls) := by
 refine .agg (by simp [hl]) fun j => ?_
 by_cases hj : j < n
 ·rw [agetD_of_lt _ _ (by simp; exact hj)]; simpa using h j hj
 ·rw [getD_of_ge _ _ (by omega)]; exact .any _
theorem getD_dropTake (ls : List L) (o n j : Nat) (hj : j < n) : ((ls.drop o).take n).getD j .any = ls.getD (o + j) .any := by
 simp [List.getD, hj]
theorem load_fine {t : TypeId} {x : Value} {s : Nat} {ag : Bool} {lx l : L} (hC : Conc η S w H) (hs : szOf P t = some s) (hg : isAggT P t = some ag) (hx : Rel S w η x lx) (h : loadL s ag H lx = some l) :
  ∃ v, (Instr.loadAt t x).run P w = .ok v w ∧ Rel S w η v l := by
 unfold loadL at h
 split at h
 ·obtain ⟨b, o, cs, rfl, hS, hc, hr⟩ := hx.inv_pp
  rename_i ls
  cases ag with
  | true =>
   simp at h
   obtain ⟨h1, rfl⟩ := h
   refine ⟨_, by simp only [Instr.loadAt, Instr.sureAddr, pure_bind]; exact run_loadVar_agg hs hg (f := cs) (fun j hj => hc j (by omega)), rel_agg_range (by simp; omega) fun j hj => ?_⟩
   have := hr j
   rw [← show (ls.take s).getD j .any = ls.getD j .any from by simp [List.getD, hj]] at this
   exact this.nil
  | false =>
   simp at h
   have hlt : 0 < ls.length := by
    cases ls with
    | nil => simp at h
    | cons y ys => simp
   refine ⟨cs 0, by simp only [Instr.loadAt, Instr.sureAddr, pure_bind]; exact run_loadVar_one hg (by simpa using hc 0 hlt), ?_⟩
   have := hr 0
   rw [getD_of_lt _ _ hlt] at this
   rw [List.getElem?_eq_getElem hlt] at h
   cases h; exact this.nil
 ·obtain ⟨b, rfl, hη, c0, t0, fr0, hb0⟩ := hx.inv_ptr
  rename_i k off
  split at h
  ·rename_i ls hl
   obtain ⟨c, ty, fr, q1, q2, q3, q4⟩ := hC.live hb0 hη (live_iff.1 hl)
   cases ag with
   | true =>
    simp at h
    obtain ⟨h1, rfl⟩ := h
    refine ⟨_, by simp only [Instr.loadAt, Instr.sureAddr, pure_bind]; exact run_loadVar_agg hs hg (f := fun j => c.getD (off + j) undef) (fun j hj => cell_of q1 (by omega)), rel_agg_range (by simp; omega) fun j hj => ?_⟩
    rw [getD_dropTake _ _ _ _ hj]
    exact q4 _ (by omega)
   | false =>
    simp at h
    obtain ⟨hlt, h⟩ := List.getElem?_eq_some_iff.1 h
    refine ⟨_, by simp only [Instr.loadAt, Instr.sureAddr, pure_bind]; exact run_loadVar_one hg (cell_of q1 (by omega)), ?_⟩
    have := q4 off hlt
    rw [getD_of_lt _ _ hlt, h] at this
    exact this
  ·simp at h
 ·simp at h
theorem store_fine {t : TypeId} {x y : Value} {s : Nat} {lx ly : L} {H' : Heap} (hC : Conc η S w H) (hs : szOf P t = some s) (hx : Rel S w η x lx) (hy : Rel S w η y ly) (h : storeL s H lx ly = some H') :
  ∃ w', (Instr.storeAt t x y).run P w = .ok () w' ∧ Conc η S w' H' ∧ Le η S w η S w' := by
 unfold storeL at h
 split at h
 ·rename_i k off
  obtain ⟨b, rfl, hη, c0, t0, fr0, hb0⟩ := hx.inv_ptr
  split at h
  ·rename_i ls hl
   split at h
   ·rename_i hcond
    obtain ⟨h1, h2, h3⟩ := hcond
    cases h
    obtain ⟨z1, z2⟩ := hy.cells h1
    have hst := hC.store hb0 hη (live_iff.1 hl) y.cells.toList ly.cells (by simp [z1]) (by omega) (off := off) (fun j hj => by
     have := z2 j
     simpa [Array.getD_eq_getD_getElem?, List.getD] using this)
    refine ⟨_, ?_, hst.1, hst.2⟩
    have hr := run_storeCells_own (P := P) hC hb0 hη (live_iff.1 hl) y.cells.toList (off := off) (by simp [z1]; omega) (hy.cells_one h1)
    simp only [Instr.storeAt, Instr.sureAddr, pure_bind, storeVar, Sem.run_bind, run_sz hs, Result.andThen_ok]
    rw [if_neg (by omega)]
    simpa using hr
   ·simp at h
  ·simp at h
 ·simp at h
theorem fieldAt_fine {t : TypeId} {x : Value} {fs : Array Field} {f : Nat} {fl : Field} {s : Nat} {lx l : L} (hu : P.underlying t = some (.struct fs)) (hf : fs[f]? = some fl) (hs : szOf P fl.type = some s) (h0 : s ≠ 0)
  (hx : Rel S w η x lx) (h : faddrL fl.offset lx = some l) : ∃ v, (Instr.fieldAt t x f).run P w = .ok v w ∧ Rel S w η v l := by
 have hp : ∀ b o, (Instr.fieldAt t (.pointer (some ⟨b, o, none⟩)) f).run P w = .ok (.pointer (some ⟨b, o + fl.offset, none⟩)) w := fun b o => by
  simp only [Instr.fieldAt, Sem.run_bind, run_underlying hu, Result.andThen_ok, hf, Instr.sureAddr, Sem.run_pure, fieldPlace, run_sz hs, h0, if_false, Addr.add_lit]
 unfold faddrL at h
 split at h
 ·obtain ⟨b, o, cs, rfl, hS, hc, hr⟩ := hx.inv_pp
  rename_i ls
  cases h
  refine ⟨_, hp b o, .pp (fun j => cs (fl.offset + j)) (fun h => hS (by simp at h; omega)) (fun j hj => ?_) (fun j => ?_)⟩
  ·rw [show o + fl.offset + j = o + (fl.offset + j) by omega]; exact hc _ (by simp at hj; omega)
  ·have := hr (fl.offset + j)
   rwa [show ls.getD (fl.offset + j) .any = (ls.drop fl.offset).getD j .any from by simp [List.getD]] at this
 ·obtain ⟨b, rfl, hη, c0, t0, fr0, hb0⟩ := hx.inv_ptr
  cases h
  exact ⟨_, hp b _, .ptr hη hb0⟩
 ·simp at h
theorem field_fine {t : TypeId} {x : Value} {fs : Array Field} {f : Nat} {fl : Field} {s : Nat} {ag : Bool} {lx l : L} (hu : P.underlying t = some (.struct fs)) (hf : fs[f]? = some fl) (hs : szOf P fl.type = some s)
  (hg : isAggT P fl.type = some ag) (hx : Rel S w η x lx) (h : fieldL fl.offset s ag lx = some l) : ∃ v, (Instr.field t x f).run P w = .ok v w ∧ Rel S w η v l := by
 unfold fieldL at h
 split at h
 ·rename_i ls
  obtain ⟨cs, rfl, hz, hr⟩ := hx.inv_agg
  cases ag with
  | true =>
   simp at h
   obtain ⟨h1, rfl⟩ := h
   refine ⟨.agg (cs.extract fl.offset (fl.offset + s)), by simp only [Instr.field, Sem.run_bind, run_underlying hu, Result.andThen_ok, hf, asAgg, Sem.run_pure, part, run_agg hg, if_true, run_sz hs], .agg (by simp; omega) fun j => ?_⟩
   by_cases hj : j < s
   ·rw [getD_dropTake _ _ _ _ hj]
    have := hr (fl.offset + j)
    simpa [Array.getD_eq_getD_getElem?, Array.getElem?_extract, show j < min (fl.offset + s) cs.size - fl.offset by omega, show fl.offset + j < cs.size by omega] using this
   ·rw [getD_of_ge _ _ (by simp; omega)]; exact .any _
  | false =>
   simp at h
   obtain ⟨hlt, h⟩ := List.getElem?_eq_some_iff.1 h
   have hc : cs[fl.offset]? = some (cs.getD fl.offset undef) := by simp [Array.getD, show fl.offset < cs.size by omega]
   refine ⟨cs.getD fl.offset undef, by simp only [Instr.field, Sem.run_bind, run_underlying hu, Result.andThen_ok, hf, asAgg, Sem.run_pure, part, run_agg hg, Bool.false_eq_true, if_false, hc], ?_⟩
   have := hr fl.offset
   rw [getD_of_lt _ _ hlt, h] at this
   exact this
 ·simp at h
end
end Lg

