/- A small language with sizes resolved, and what must hold ahead of it, on logical states. -/
import Derived.Test.YtahkjkmkafbakaaLgA
namespace Lg
open Go

/-- An operand. -/
inductive A where
  | t (n : Nat)
  | c (l : L)

def arg (E : Env) : A → L
  | .t n => lk E n
  | .c l => l

/-- An operation, sizes and offsets in cells. -/
inductive I where
  | mov (x : A)
  | pick (c a b : A)
  | alloc (z : L)
  | box (x : A)
  | build (z : List L) (parts : List (Nat × Nat × A))
  | bslice (esz : Nat) (z : List L) (n : Nat) (parts : List (Nat × Nat × A))
  | load (sz : Nat) (ag : Bool) (x : A)
  | store (sz : Nat) (x y : A)
  | nilchk (x : A)
  | bin (op : BinOp) (isb : Bool) (x y : A)
  | un (op : UnOp) (x : A)
  | conv (k : IntKind) (x : A)
  | sames (x : A)
  | field (off sz : Nat) (ag : Bool) (x : A)
  | faddr (off : Nat) (x : A)
  | iaddr (esz : Nat) (x i : A)
  | iaddrA (n esz : Nat) (x i : A)
  | idx (n esz : Nat) (ag : Bool) (x i : A)
  | slice (esz : Nat) (x : A) (lo hi mx : Option A)
  | sliceA (n esz : Nat) (x : A) (lo hi mx : Option A)
  | mksl (esz bytes : Nat) (z : List L) (n c : A)
  | mkfn (f : Fn) (first cap : List A)
  | extract (x : A) (i : Nat)
  | len (str : Bool) (x : A)
  | append (esz bytes : Nat) (z : List L) (x y : A)
  | copy (esz : Nat) (x y : A)
  | mm (mx : Bool) (x : A) (xs : List A)
  | call (f : Nat) (xs : List A)
  | calld (x : A) (xs : List A)
  | b2s (x : A)
  | sidx (x i : A)
  | isnil (neg : Bool) (x : A)
  | s2ap (n : Nat) (x : A)
  | eq2 (k : IntKind) (x y : A)
  | mkmap (k : KK)
  | mset (k : KK) (x y z : A)
  | mget (k : KK) (comma : Bool) (z : Value) (x y : A)
  | mlen (x : A)
  | r2s (x : A)

structure O where
  dst : Option Nat
  op : I
  guard : Option (Nat × Bool)

inductive IR where
  | skip
  | ops (l : List O)
  | draw (bs : List (List O))
  | drawF (bs : List (List Nat × List O))
  | seq (a b : IR)
  | cond (c : A) (a b : IR)
  | block (id : Nat) (b : IR)
  | loop (b : IR)
  | exit (id : Nat)
  | ret
  | scope (l : Nat) (b rest : IR)
  | label (l : Nat)
  | goto (l : Nat)

def optK {α : Type} (o : Option α) (K : α → Prop) : Prop := ∃ a, o = some a ∧ K a
@[simp] theorem optK_some {α : Type} (a : α) (K : α → Prop) : optK (some a) K = K a := by simp [optK]
@[simp] theorem optK_none {α : Type} (K : α → Prop) : optK none K = False := by simp [optK]
@[simp] theorem optK_none_ite {α : Type} (c : Prop) [Decidable c] (x : Option α) (K : α → Prop) : optK (if c then none else x) K = (¬ c ∧ optK x K) := by
  by_cases h : c <;> simp [h]
@[simp] theorem optK_ite_none {α : Type} (c : Prop) [Decidable c] (x : Option α) (K : α → Prop) : optK (if c then x else none) K = (c ∧ optK x K) := by
  by_cases h : c <;> simp [h]
theorem optK_ite {α : Type} (c : Prop) [Decidable c] (x y : Option α) (K : α → Prop) : optK (if c then x else y) K = ((c → optK x K) ∧ (¬ c → optK y K)) := by
  by_cases h : c <;> simp [h]

/-- Bits of two numbers. -/
def bitsI (op : BinOp) (k : IntKind) (x y : Int) : Int :=
  let a := BitVec.ofInt k.bits x
  let b := BitVec.ofInt k.bits y
  k.wrap ((match op with | .and => a &&& b | .or => a ||| b | .xor => a ^^^ b | _ => a &&& ~~~b) : BitVec k.bits).toNat

def shlI (k : IntKind) (x y : Int) : Int := k.wrap (x * 2 ^ (min y.toNat k.bits))
def shrI (k : IntKind) (x y : Int) : Int := x.fdiv (2 ^ (min y.toNat k.bits))

def binInt (op : BinOp) (k : IntKind) (a : Int) (k' : IntKind) (b : Int) : Option L :=
  match op with
  | .shl => if b < 0 then none else some (.v (.int k (shlI k a b)))
  | .shr => if b < 0 then none else some (.v (.int k (shrI k a b)))
  | .add => if k = k' then some (.v (.int k (k.wrap (a + b)))) else none
  | .sub => if k = k' then some (.v (.int k (k.wrap (a - b)))) else none
  | .mul => if k = k' then some (.v (.int k (k.wrap (a * b)))) else none
  | .quo => if k = k' then (if b = 0 then none else some (.v (.int k (k.wrap (a.tdiv b))))) else none
  | .rem => if k = k' then (if b = 0 then none else some (.v (.int k (a.tmod b)))) else none
  | .and => if k = k' then some (.v (.int k (bitsI .and k a b))) else none
  | .or => if k = k' then some (.v (.int k (bitsI .or k a b))) else none
  | .xor => if k = k' then some (.v (.int k (bitsI .xor k a b))) else none
  | .andNot => if k = k' then some (.v (.int k (bitsI .andNot k a b))) else none
  | .eql => if k = k' then some (.v (.bool (decide (a = b)))) else none
  | .neq => if k = k' then some (.v (.bool (decide (a ≠ b)))) else none
  | .lss => if k = k' then some (.v (.bool (decide (a < b)))) else none
  | .leq => if k = k' then some (.v (.bool (decide (a ≤ b)))) else none
  | .gtr => if k = k' then some (.v (.bool (decide (b < a)))) else none
  | .geq => if k = k' then some (.v (.bool (decide (b ≤ a)))) else none

def binBool (op : BinOp) (a b : Bool) : Option L :=
  match op with
  | .eql => some (.v (.bool (a == b)))
  | .neq => some (.v (.bool (a != b)))
  | _ => none

def binStr (op : BinOp) (a b : ByteArray) : Option L :=
  match op with
  | .eql => some (.v (.bool (decide (a.toList = b.toList))))
  | .neq => some (.v (.bool (decide (a.toList ≠ b.toList))))
  | .lss => some (.v (.bool (Op.bytesLess a.toList b.toList)))
  | .add => if a.size + b.size ≤ 9223372036854775807 then some (.v (.string ⟨(a.data.toList ++ b.data.toList).toArray⟩)) else none
  | _ => none

def binL (op : BinOp) (isb : Bool) : L → L → Option L
  | .v (.int k a), .v (.int k' b) => binInt op k a k' b
  | .v (.bool a), .v (.bool b) => if isb = true then binBool op a b else none
  | .v (.string a), .v (.string b) => binStr op a b
  | _, _ => none

def unL (op : UnOp) : L → Option L
  | .v (.bool b) => match op with | .not => some (.v (.bool !b)) | _ => none
  | .v (.int k n) => match op with
    | .neg => some (.v (.int k (k.wrap (0 - n))))
    | .xor => some (.v (.int k (bitsI .xor k (if k.signed then -1 else k.max) n)))
    | _ => none
  | _ => none

/-- Is it a value of one cell, and what may be stored? -/
def solid : L → Bool
  | .any | .no | .agg _ | .tup _ | .mref _ | .mp .. => false
  | .v x => x.oneCell'
  | _ => true

/-- Is it known how many cells it has? -/
def topOK : L → Bool
  | .agg cs => cs.all solid
  | l => solid l

/-- No own row in it. -/
def closed : L → Bool
  | .view .. | .ptr .. | .agg _ | .tup _ | .fn .. | .mref _ | .mp .. => false
  | _ => true

def setCells (ls : List L) (o : Nat) : List L → List L
  | [] => ls
  | x :: xs => setCells (ls.set o x) (o + 1) xs

def lfill (cells : List L) : List (Nat × Nat × L) → Option (List L)
  | [] => some cells
  | (off, size, l) :: rest => if topOK l = true ∧ l.cells.length = size ∧ off + size ≤ cells.length then lfill (setCells cells off l.cells) rest else none

/-- The elements of `n` times `esz` cells. -/
def chunk (n esz : Nat) (cs : List L) : List L := if esz = 1 then cs.take n else (List.range n).map fun i => .agg ((cs.drop (i * esz)).take esz)

def live (H : Heap) (h : Nat) : Option (List L) := (H[h]?).join

/-- A list's cells. -/
def lcells (esz : Nat) (H : Heap) : L → Option (List L)
  | .sl e _ xs => if e = esz then some (flat esz xs) else none
  | .v (.slice none 0 0) => some []
  | .view e h off n _ => if e = esz then (match live H h with | some cs => if off + n * esz ≤ cs.length then some ((cs.drop off).take (n * esz)) else none | none => none) else none
  | _ => none

def loadL (sz : Nat) (ag : Bool) (H : Heap) : L → Option L
  | .pp cs => if ag = true then (if sz ≤ cs.length then some (.agg (cs.take sz)) else none) else cs[0]?
  | .ptr h off => match live H h with
    | some cs => if ag = true then (if off + sz ≤ cs.length then some (.agg ((cs.drop off).take sz)) else none) else cs[off]?
    | none => none
  | _ => none

def storeL (sz : Nat) (H : Heap) (x y : L) : Option Heap :=
  match x with
  | .ptr h off => match live H h with
    | some cs => if topOK y = true ∧ y.cells.length = sz ∧ off + sz ≤ cs.length then some (H.set h (some (setCells cs off y.cells))) else none
    | none => none
  | _ => none

def fieldL (off sz : Nat) (ag : Bool) : L → Option L
  | .agg cs => if ag = true then (if off + sz ≤ cs.length then some (.agg ((cs.drop off).take sz)) else none) else cs[off]?
  | _ => none

def faddrL (off : Nat) : L → Option L
  | .pp cs => some (.pp (cs.drop off))
  | .ptr h o => some (.ptr h (o + off))
  | _ => none

def iaddrL (esz : Nat) (i : L) : L → Option L
  | .sl e _ xs => match i with
    | .v (.int _ n) => if e = esz ∧ 0 ≤ n then (xs[n.toNat]?).map fun x => .pp x.cells else none
    | _ => none
  | .view e h off n _ => match i with
    | .v (.int _ m) => if e = esz ∧ 0 ≤ m ∧ m < (n : Int) then some (.ptr h (off + m.toNat * esz)) else none
    | _ => none
  | _ => none

def iaddrAL (len esz : Nat) (i : L) : L → Option L
  | .ptr h off => match i with
    | .v (.int _ m) => if 0 ≤ m ∧ m < (len : Int) then some (.ptr h (off + m.toNat * esz)) else none
    | _ => none
  | .pp cs => match i with
    | .v (.int _ m) => if 0 ≤ m ∧ m < (len : Int) then some (.pp (cs.drop (m.toNat * esz))) else none
    | _ => none
  | _ => none

def idxL (len esz : Nat) (ag : Bool) (i : L) : L → Option L
  | .agg cs => match i with
    | .v (.int _ m) => if 0 ≤ m ∧ m < (len : Int) then (if ag = true then (if m.toNat * esz + esz ≤ cs.length then some (.agg ((cs.drop (m.toNat * esz)).take esz)) else none) else cs[m.toNat * esz]?) else none
    | _ => none
  | _ => none

/-- A slice's bounds: low, high, and whether the capacity ends at high. -/
def bnds (len : Nat) (clip : Bool) (lo hi mx : Option L) : Option (Nat × Nat × Bool) :=
  let h : Option Nat := match hi with
    | none => some len
    | some (.v (.int _ n)) => if 0 ≤ n ∧ n ≤ (len : Int) then some n.toNat else none
    | _ => none
  let l : Option Nat := match lo with
    | none => some 0
    | some (.v (.int _ n)) => if 0 ≤ n then some n.toNat else none
    | _ => none
  let m : Option (Option Nat) := match mx with
    | none => some none
    | some (.v (.int _ n)) => if 0 ≤ n ∧ n ≤ (len : Int) then some (some n.toNat) else none
    | _ => none
  match l, h, m with
  | some l, some h, some none => if l ≤ h then some (l, h, if h = len then clip else false) else none
  | some l, some h, some (some m) => if l ≤ h ∧ h ≤ m then some (l, h, if m = h then true else false) else none
  | _, _, _ => none

def sliceL (esz : Nat) (lo hi mx : Option L) : L → Option L
  | .sl e clip xs => if e = esz then (bnds xs.length clip lo hi mx).map fun r => .sl esz r.2.2 ((xs.take r.2.1).drop r.1) else none
  | .view e h off n clip => if e = esz then (bnds n clip lo hi mx).map fun r => .view esz h (off + r.1 * esz) (r.2.1 - r.1) r.2.2 else none
  | .v (.slice none 0 0) => (bnds 0 true lo hi mx).map fun r => .sl esz r.2.2 []
  | _ => none

def sliceAL (n esz : Nat) (lo hi mx : Option L) (H : Heap) : L → Option L
  | .ptr h off => match live H h with
    | some cs => if off + n * esz ≤ cs.length ∧ n ≤ 9223372036854775807 then (bnds n true lo hi mx).map fun r => .view esz h (off + r.1 * esz) (r.2.1 - r.1) r.2.2 else none
    | none => none
  | _ => none

def lenL (str : Bool) : L → Option L
  | .sl _ _ xs => if str = false then some (.v (.int .i64 xs.length)) else none
  | .view _ _ _ n _ => if str = false then some (.v (.int .i64 n)) else none
  | .v (.slice none 0 0) => if str = false then some (.v (.int .i64 0)) else none
  | .v (.string s) => if str = true then some (.v (.int .i64 s.size)) else none
  | _ => none

/-- n elements of zeros. -/
def zeros (n : Nat) (z : List L) : List L := (List.replicate n z).flatten

def mkslL (esz bytes : Nat) (z : List L) (n c : L) (H : Heap) : Option (L × Heap) :=
  match n, c with
  | .v (.int .i64 n), .v (.int .i64 c) =>
    if 0 ≤ n ∧ n ≤ c ∧ c * bytes ≤ 281474976710656 ∧ c ≤ 9223372036854775807 then some (.view esz H.length 0 n.toNat (decide (n = c)), H ++ [some (zeros c.toNat z)]) else none
  | _, _ => none

/-- An append: to nothing, to a list whose capacity is at its end, or to a whole own row. -/
def appendL (esz bytes : Nat) (x y : L) (H : Heap) : Option (L × Heap) :=
  match lcells esz H y with
  | none => none
  | some ys =>
    if esz ∣ ys.length ∧ ys.all solid = true then
      match x with
      | .v (.slice none 0 0) =>
        if ys.length = 0 then some (x, H)
        else if ys.length * bytes ≤ 70368744177664 then some (.view esz H.length 0 (ys.length / esz) false, H ++ [some ys]) else none
      | .sl e true xs =>
        if e = esz then
          (if ys.length = 0 then some (x, H)
           else if ((flat esz xs).length + ys.length) * bytes ≤ 70368744177664 then some (.view esz H.length 0 (xs.length + ys.length / esz) false, H ++ [some (flat esz xs ++ ys)]) else none)
        else none
      | .view e h 0 n _ =>
        if e = esz then
          (match live H h with
           | some cs => if cs.length = n * esz ∧ (cs.length + ys.length) * bytes ≤ 70368744177664 then some (.view esz H.length 0 (n + ys.length / esz) false, H.set h none ++ [some (cs ++ ys)]) else none
           | none => none)
        else none
      | _ => none
    else none

def copyL (esz : Nat) (x y : L) (H : Heap) : Option (L × Heap) :=
  match lcells esz H y, x with
  | some ys, .view e h off n _ =>
    if e = esz then
      (match live H h with
       | some cs => if off + n * esz ≤ cs.length ∧ ys.all solid = true then some (.v (.int .i64 ((min (ys.length / esz) n : Nat) : Int)), H.set h (some (setCells cs off (ys.take (min (ys.length / esz) n * esz))))) else none
       | none => none)
    else none
  | _, _ => none

def mmL (mx : Bool) : L → List L → Option L
  | .v (.int k x), [] => some (.v (.int k x))
  | .v (.int k x), .v (.int _ y) :: rest => mmL mx (.v (.int k (if mx = true then (if y > x then y else x) else (if y < x then y else x)))) rest
  | _, _ => none

/-- The bytes of a string that is made of cells. -/
def toBytes : List L → Option (List UInt8)
  | [] => some []
  | .v (.int .u8 n) :: ls => (toBytes ls).map (UInt8.ofNat n.toNat :: ·)
  | _ => none

/-- A key as it is. -/
def keyOf : L → Option MK
  | .v (.string s) => some (.s s.data.toList)
  | .v (.int k n) => some (.i k n)
  | .agg [.v (.int k a), .v (.int k' b)] => if k = k' then some (.p k a b) else none
  | _ => none

/-- What a map has under a key. -/
def mlook : List (MK × Value) → MK → Option Value
  | [], _ => none
  | (k, v) :: es, x => if k = x then some v else mlook es x

/-- A map with a key more. -/
def mput : List (MK × Value) → MK → Value → List (MK × Value)
  | [], x, v => [(x, v)]
  | (k, u) :: es, x, v => if k = x then (x, v) :: es else (k, u) :: mput es x v

/-- The entries of a map. -/
def mrow (k : KK) (H : Heap) : L → Option (Nat × List (MK × Value))
  | .mref h => match live H h with
    | some [.mp k' es] => if k' = k then some (h, es) else none
    | _ => none
  | _ => none

def anyMrow (H : Heap) : L → Option (List (MK × Value))
  | .mref h => match live H h with
    | some [.mp _ es] => some es
    | _ => none
  | _ => none

def scalar : L → Option Value
  | .v (.bool b) => some (.bool b)
  | .v (.int k n) => some (.int k n)
  | _ => none

def msetL (k : KK) (H : Heap) (x y z : L) : Option (L × Heap) :=
  (mrow k H x).bind fun r => (keyOf y).bind fun key => (scalar z).bind fun v => if key.kind = k then some (.no, H.set r.1 (some [.mp k (mput r.2 key v)])) else none

def mgetR (comma : Bool) (z : Value) : Option Value → L
  | some v => if comma = true then .tup [.v v, .v (.bool true)] else .v v
  | none => if comma = true then .tup [.v z, .v (.bool false)] else .v z

def mgetL (k : KK) (comma : Bool) (z : Value) (H : Heap) (x y : L) : Option L :=
  (mrow k H x).bind fun r => (keyOf y).bind fun key => if key.kind = k then some (mgetR comma z (mlook r.2 key)) else none

def r2sL : L → Option L
  | .v (.int _ n) => if 0 ≤ n ∧ n < 128 then some (.v (.string ⟨#[UInt8.ofNat n.toNat]⟩)) else none
  | _ => none

def lopO (op : I) (E : Env) (H : Heap) : Option (L × Heap) :=
  match op with
  | .mov x => some (arg E x, H)
  | .pick c a b => match arg E c with
    | .v (.bool t) => some (if t = true then arg E a else arg E b, H)
    | _ => none
  | .alloc z => some (.ptr H.length 0, H ++ [some z.cells])
  | .box x => if topOK (arg E x) = true then some (.ptr H.length 0, H ++ [some (arg E x).cells]) else none
  | .build z parts => (lfill z (parts.map fun p => (p.1, p.2.1, arg E p.2.2))).map fun cs => (.agg cs, H)
  | .bslice esz z n parts => (lfill (zeros n z) (parts.map fun p => (p.1, p.2.1, arg E p.2.2))).map fun cs => (.view esz H.length 0 n true, H ++ [some cs])
  | .load sz ag x => (loadL sz ag H (arg E x)).map fun l => (l, H)
  | .store sz x y => (storeL sz H (arg E x) (arg E y)).map fun H' => (.no, H')
  | .nilchk x => match arg E x with
    | .ptr h o => some (.ptr h o, H)
    | .pp cs => some (.pp cs, H)
    | _ => none
  | .bin op isb x y => (binL op isb (arg E x) (arg E y)).map fun l => (l, H)
  | .un op x => (unL op (arg E x)).map fun l => (l, H)
  | .conv k x => match arg E x with
    | .v (.int _ n) => some (.v (.int k (k.wrap n)), H)
    | _ => none
  | .sames x => match arg E x with
    | .view e h off n cl => if 0 < n ∧ (live H h).isSome = true then some (.view e h off n cl, H) else none
    | _ => none
  | .field off sz ag x => (fieldL off sz ag (arg E x)).map fun l => (l, H)
  | .faddr off x => (faddrL off (arg E x)).map fun l => (l, H)
  | .iaddr esz x i => (iaddrL esz (arg E i) (arg E x)).map fun l => (l, H)
  | .iaddrA n esz x i => (iaddrAL n esz (arg E i) (arg E x)).map fun l => (l, H)
  | .idx n esz ag x i => (idxL n esz ag (arg E i) (arg E x)).map fun l => (l, H)
  | .slice esz x lo hi mx => (sliceL esz (lo.map (arg E)) (hi.map (arg E)) (mx.map (arg E)) (arg E x)).map fun l => (l, H)
  | .sliceA n esz x lo hi mx => (sliceAL n esz (lo.map (arg E)) (hi.map (arg E)) (mx.map (arg E)) H (arg E x)).map fun l => (l, H)
  | .mksl esz bytes z n c => mkslL esz bytes z (arg E n) (arg E c) H
  | .mkfn f first cap => some (.fn f (first.map (arg E)) (cap.map (arg E)), H)
  | .extract x i => match arg E x with
    | .tup vs => (vs[i]?).map fun l => (l, H)
    | _ => none
  | .len str x => (lenL str (arg E x)).map fun l => (l, H)
  | .append esz bytes _ x y => appendL esz bytes (arg E x) (arg E y) H
  | .copy esz x y => copyL esz (arg E x) (arg E y) H
  | .mm mx x xs => (mmL mx (arg E x) (xs.map (arg E))).map fun l => (l, H)
  | .eq2 k x y => match arg E x, arg E y with
    | .agg [.v (.int k1 a), .v (.int k2 b)], .agg [.v (.int k3 c), .v (.int k4 d)] => if k1 = k ∧ k2 = k ∧ k3 = k ∧ k4 = k then some (.v (.bool (decide (a = c ∧ b = d))), H) else none
    | _, _ => none
  | .s2ap n x => match arg E x with
    | .view _ h off len _ => if 0 < n ∧ n ≤ len then some (.ptr h off, H) else none
    | .sl e _ xs => if 0 < n ∧ n ≤ xs.length then some (.pp (flat e xs), H) else none
    | _ => none
  | .mkmap k => some (.mref H.length, H ++ [some [.mp k []]])
  | .mset k x y z => msetL k H (arg E x) (arg E y) (arg E z)
  | .mget k comma z x y => (mgetL k comma z H (arg E x) (arg E y)).map fun l => (l, H)
  | .mlen x => (anyMrow H (arg E x)).map fun es => (.v (.int .i64 es.length), H)
  | .r2s x => (r2sL (arg E x)).map fun l => (l, H)
  | .b2s x => ((lcells 1 H (arg E x)).bind toBytes).map fun bs => (.v (.string ⟨bs.toArray⟩), H)
  | _ => none

end Lg
