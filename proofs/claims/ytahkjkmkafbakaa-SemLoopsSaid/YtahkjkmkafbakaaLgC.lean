/- From the program's code to the small language; what must hold ahead of a piece of code, on logical states. -/
import Derived.Test.YtahkjkmkafbakaaLgB
namespace Lg
open Go

def szOf (P : Program) (t : TypeId) : Option Nat := (P.info? t).map (·.size)

def isAggT (P : Program) (t : TypeId) : Option Bool :=
  match P.underlying t with
  | some (.struct _) | some (.array _ _) => some true
  | some _ => some false
  | none => none

def ofV : Value → L
  | .agg cs => .agg (cs.toList.map .v)
  | x => .v x

def zeroOf (P : Program) (t : TypeId) : Option L := ((P.info? t).bind (·.zero)).map ofV

def compA : Operand → Option A
  | .tmp t => some (.t t)
  | .const v => some (.c (ofV v))
  | .func f => some (.c (.fn (.func f) [] []))
  | .global _ => none

def okF (P : Program) (f : FuncId) : Bool :=
  match P.funcs[f]? with
  | some fn => fn.body.isSome && fn.name != "runtime.NumGoroutine"
  | none => false

def compAs : List Operand → Option (List A)
  | [] => some []
  | x :: xs => (compA x).bind fun a => (compAs xs).map (a :: ·)

def compOA : Option Operand → Option (Option A)
  | none => some none
  | some x => (compA x).map some

/-- The parts of a struct or an array that is built: place, size, operand. -/
def compParts (place : Nat → Option (Nat × Nat)) : List (Nat × Operand) → Option (List (Nat × Nat × A))
  | [] => some []
  | (i, x) :: rest => (place i).bind fun p => (compA x).bind fun a => (compParts place rest).map ((p.1, p.2, a) :: ·)

def fieldPl (P : Program) (fs : Array Field) (i : Nat) : Option (Nat × Nat) := (fs[i]?).bind fun f => (szOf P f.type).map fun s => (f.offset, s)

def compCall (P : Program) (c : Call) : Option I :=
  match c.callee with
  | .value (.func f) => if okF P f then (compAs c.args.toList).map (.call f) else none
  | .value (.tmp t) => (compAs c.args.toList).map (.calld (.t t))
  | .builtin .len => match c.argTypes.toList, c.args.toList with
    | [t], [x] => match P.underlying t with
      | some (.slice _) => (compA x).map (.len false)
      | some .string => (compA x).map (.len true)
      | some (.array n _) => some (.mov (.c (.v (.int .i64 n))))
      | some (.map _ _) => (compA x).map .mlen
      | _ => none
    | _, _ => none
  | .builtin .append => match c.argTypes.toList, c.args.toList with
    | [t, u], [x, y] => match P.underlying t, P.underlying u with
      | some (.slice e), some (.slice _) => (P.info? e).bind fun i => i.zero.bind fun z => if i.size = 0 ∨ i.bytes = 0 ∨ z.cells.size ≠ i.size then none else (compA x).bind fun a => (compA y).map fun b => .append i.size i.bytes (ofV z).cells a b
      | _, _ => none
    | _, _ => none
  | .builtin .copy => match c.argTypes.toList, c.args.toList with
    | [t, u], [x, y] => match P.underlying t, P.underlying u with
      | some (.slice e), some (.slice _) => (szOf P e).bind fun s => if s = 0 then none else (compA x).bind fun a => (compA y).map fun b => .copy s a b
      | _, _ => none
    | _, _ => none
  | .builtin .max => match c.args.toList with
    | x :: xs => (compA x).bind fun a => (compAs xs).map fun as => .mm true a as
    | _ => none
  | .builtin .min => match c.args.toList with
    | x :: xs => (compA x).bind fun a => (compAs xs).map fun as => .mm false a as
    | _ => none
  | _ => none

/-- Is a slice compared to nil? -/
def nilCmp (P : Program) (op : BinOp) (t : TypeId) : Operand → Bool
  | .const (.slice none 0 0) => (match P.underlying t with | some (.slice _) => true | _ => false) && (op == .eql || op == .neq)
  | _ => false

/-- Are two arrays of two numbers compared? -/
def eq2K (P : Program) (op : BinOp) (t : TypeId) : Option IntKind :=
  if op == .eql then
    match P.underlying t with
    | some (.array 2 e) => match P.underlying e with
      | some (.int k) => if (P.info? e).isSome && P.cellsOf e == 1 && P.plainKey e && !P.eqGuardType P.depth t then some k else none
      | _ => none
    | _ => none
  else none

/-- Arrays of two numbers as keys. -/
def pairK (P : Program) (t : TypeId) : Option IntKind :=
  match P.underlying t with
  | some (.array 2 e) => match P.underlying e with
    | some (.int k) => if (P.info? e).isSome && P.cellsOf e == 1 && P.plainKey e then some k else none
    | _ => none
  | _ => none

/-- The kind of a map's keys. -/
def mapK (P : Program) (t : TypeId) : Option KK :=
  match P.underlying t with
  | some (.map kt _) => match P.underlying kt with
    | some .string => some .s
    | some (.int k) => some (.i k)
    | some (.array _ _) => (pairK P kt).map .p
    | _ => none
  | _ => none

/-- What a map has under no key. -/
def mapZ (P : Program) (t : TypeId) : Option Value :=
  match P.underlying t with
  | some (.map _ et) => (P.info? et).bind fun i => i.zero.bind fun z => match z with
    | .bool b => some (.bool b)
    | .int k n => some (.int k n)
    | _ => none
  | _ => none

def compOp (P : Program) (op : Op) : Option I :=
  match op with
  | .move x => (compA x).map .mov
  | .assign x => (compA x).map .mov
  | .pick c a b => (compA c).bind fun c => (compA a).bind fun a => (compA b).map fun b => .pick c a b
  | .alloc t => (zeroOf P t).map .alloc
  | .box _ x => (compA x).map .box
  | .build t parts => (P.info? t).bind fun i => i.zero.bind fun z =>
    match P.underlying t with
    | some (.struct fs) => if fs.all (fun f => (szOf P f.type).isSome) then (compParts (fieldPl P fs) parts.toList).map fun ps => .build (ofV z).cells ps else none
    | some (.array _ e) => (szOf P e).bind fun s => (compParts (fun i => some (i * s, s)) parts.toList).map fun ps => .build (ofV z).cells ps
    | _ => none
  | .buildSlice t n parts =>
    match P.underlying t with
    | some (.slice e) => (P.info? e).bind fun i => i.zero.bind fun z =>
      if i.size = 0 ∨ n * i.size > 2 ^ 24 ∨ z.cells.size ≠ i.size then none else (compParts (fun j => some (j * i.size, i.size)) parts.toList).map fun ps => .bslice i.size (ofV z).cells n ps
    | _ => none
  | .load t x => (szOf P t).bind fun s => (isAggT P t).bind fun ag => (compA x).map fun a => .load s ag a
  | .store t x y => (szOf P t).bind fun s => (compA x).bind fun a => (compA y).map fun b => .store s a b
  | .nilCheck x => (compA x).map .nilchk
  | .binOp op t x y _ => if nilCmp P op t y = true then (compA x).map (.isnil (op == .neq)) else match eq2K P op t with
    | some k => (compA x).bind fun a => (compA y).map fun b => .eq2 k a b
    | none => (compA x).bind fun a => (compA y).map fun b => .bin op (match P.underlying t with | some .bool => true | _ => false) a b
  | .unOp op _ x => (compA x).map (.un op)
  | .convert src dst x =>
    match P.underlying src, P.underlying dst with
    | some (.int _), some (.int k) => (compA x).map (.conv k)
    | some (.slice _), some (.slice e) => match P.underlying e with
      | some (.int .u8) => if src == dst then (compA x).map .sames else none
      | _ => none
    | some (.slice e), some .string => match P.underlying e with
      | some (.int .u8) => (compA x).map .b2s
      | _ => none
    | some (.int _), some .string => (compA x).map .r2s
    | _, _ => none
  | .makeFunc f first cap => (compAs first.toList).bind fun a => (compAs cap.toList).map fun b => .mkfn f a b
  | .makeSlice t l c =>
    match P.underlying t with
    | some (.slice e) => (P.info? e).bind fun i => i.zero.bind fun z => if i.size = 0 ∨ z.cells.size ≠ i.size then none else (compA l).bind fun a => (compA c).map fun b => .mksl i.size i.bytes (ofV z).cells a b
    | _ => none
  | .slice t x lo hi mx =>
    match P.underlying t with
    | some (.slice e) => (szOf P e).bind fun s => if s = 0 then none else (compA x).bind fun a => (compOA lo).bind fun l => (compOA hi).bind fun h => (compOA mx).bind fun m => if m.isSome && h.isNone then none else some (.slice s a l h m)
    | some (.array n e) => (szOf P e).bind fun s => if s = 0 then none else (compA x).bind fun a => (compOA lo).bind fun l => (compOA hi).bind fun h => (compOA mx).bind fun m => if m.isSome && h.isNone then none else some (.sliceA n s a l h m)
    | _ => none
  | .fieldAddr t x f =>
    match P.underlying t with
    | some (.struct fs) => (fs[f]?).bind fun fl => (szOf P fl.type).bind fun s => if s = 0 then none else (compA x).map (.faddr fl.offset)
    | _ => none
  | .field t x f =>
    match P.underlying t with
    | some (.struct fs) => (fs[f]?).bind fun fl => (szOf P fl.type).bind fun s => (isAggT P fl.type).bind fun ag => (compA x).map (.field fl.offset s ag)
    | _ => none
  | .indexAddr t x i =>
    match P.underlying t with
    | some (.slice e) => (szOf P e).bind fun s => if s = 0 then none else (compA x).bind fun a => (compA i).map fun b => .iaddr s a b
    | some (.array n e) => (szOf P e).bind fun s => if s = 0 then none else (compA x).bind fun a => (compA i).map fun b => .iaddrA n s a b
    | _ => none
  | .index t x i =>
    match P.underlying t with
    | some (.array n e) => (szOf P e).bind fun s => (isAggT P e).bind fun ag => (compA x).bind fun a => (compA i).map fun b => .idx n s ag a b
    | some .string => (compA x).bind fun a => (compA i).map fun b => .sidx a b
    | _ => none
  | .makeMap t r => if r.isNone then (mapK P t).map .mkmap else none
  | .mapUpdate t m k v => (mapK P t).bind fun kk => (compA m).bind fun a => (compA k).bind fun b => (compA v).map fun c => .mset kk a b c
  | .lookup t m k comma => (mapK P t).bind fun kk => (mapZ P t).bind fun z => (compA m).bind fun a => (compA k).map fun b => .mget kk comma z a b
  | .sliceToArrayPointer t x =>
    match P.underlying t with
    | some (.array n _) => (compA x).map (.s2ap n)
    | _ => none
  | .extract x i => (compA x).map fun a => .extract a i
  | .call c => compCall P c
  | _ => none

def dstOk (n : Nat) : Option Nat → Bool
  | some d => decide (d < n)
  | none => true

def compO (P : Program) (n : Nat) (ops : Array Oper) (o : Oper) : Option O :=
  (compOp P o.op).bind fun i =>
    if dstOk n o.dst = true then
      match o.guard with
      | none => some ⟨o.dst, i, none⟩
      | some (j, b) => ((ops[j]?).bind (·.dst)).map fun s => ⟨o.dst, i, some (s, b)⟩
    else none

def compOps (P : Program) (n : Nat) (ops : Array Oper) : List Oper → Option (List O)
  | [] => some []
  | o :: rest => (compO P n ops o).bind fun x => (compOps P n ops rest).map (x :: ·)

/-- The slots that an operation reads. -/
def A.tmps : A → List Nat
  | .t n => [n]
  | .c _ => []

def oaTmps : Option A → List Nat
  | some a => a.tmps
  | none => []

def I.tmps : I → List Nat
  | .isnil _ x | .mov x | .box x | .load _ _ x | .nilchk x | .un _ x | .conv _ x | .sames x | .field _ _ _ x | .faddr _ x | .extract x _ | .len _ x | .b2s x | .s2ap _ x | .mlen x | .r2s x => x.tmps
  | .pick c a b => c.tmps ++ (a.tmps ++ b.tmps)
  | .alloc _ | .mkmap _ => []
  | .mset _ x y z => x.tmps ++ (y.tmps ++ z.tmps)
  | .mget _ _ _ x y => x.tmps ++ y.tmps
  | .build _ ps | .bslice _ _ _ ps => ps.flatMap fun p => p.2.2.tmps
  | .store _ x y | .bin _ _ x y | .iaddr _ x y | .iaddrA _ _ x y | .idx _ _ _ x y | .mksl _ _ _ x y | .append _ _ _ x y | .copy _ x y | .sidx x y | .eq2 _ x y => x.tmps ++ y.tmps
  | .slice _ x l h m | .sliceA _ _ x l h m => x.tmps ++ (oaTmps l ++ (oaTmps h ++ oaTmps m))
  | .mkfn _ a b => a.flatMap A.tmps ++ b.flatMap A.tmps
  | .mm _ x xs | .calld x xs => x.tmps ++ xs.flatMap A.tmps
  | .call _ xs => xs.flatMap A.tmps

def O.names (o : O) : List Nat :=
  match o.guard with
  | some (s, _) => s :: o.op.tmps
  | none => o.op.tmps

/-- The operations that an operation waits for, by the edges that bind. -/
def edges (o : Oper) : List Nat := (o.after.toList.filter (Region.binds .any)).map (·.on)

def addAll (xs : List Nat) : List Nat → List Nat
  | [] => xs
  | y :: ys => addAll (if xs.contains y then xs else y :: xs) ys

/-- For each operation all that come ahead of it. -/
def ancs : List Oper → List (List Nat) → List (List Nat)
  | [], acc => acc
  | o :: rest, acc => ancs rest (acc ++ [(edges o).foldl (fun s e => addAll (addAll s [e]) (acc.getD e [])) []])

/-- Two operations that touch one slot come in the order of the text. -/
def tempsOK (anc : List (List Nat)) (ol : List O) : Bool :=
  (List.range ol.length).all fun j => (List.range j).all fun i =>
    match ol[i]?, ol[j]? with
    | some x, some y =>
      (match x.dst with
        | some d => !((y.names.contains d) || y.dst == some d) || (anc.getD j []).contains i
        | none => true) &&
      (match y.dst with
        | some d => !(x.names.contains d) || (anc.getD j []).contains i
        | none => true)
    | _, _ => true

def edgesOK (ops : List Oper) : Bool := (List.range ops.length).all fun i => match ops[i]? with
  | some o => (edges o).all fun e => decide (e < i)
  | none => true

/-- Every operation from place p on waits for every one ahead of it. -/
def cutAt (anc : List (List Nat)) (n p : Nat) : Bool := (List.range n).all fun k => decide (k < p) || (List.range p).all fun j => (anc.getD k []).contains j

/-- The slot of a row that is made is written by nobody else. -/
def newsOK (ol : List O) : Bool :=
  (List.range ol.length).all fun i => (List.range ol.length).all fun j =>
    match ol[i]?, ol[j]? with
    | some x, some y => i == j || !(match x.op with | .alloc _ | .box _ | .bslice .. | .append .. => true | _ => false) || x.dst.isNone || x.dst != y.dst
    | _, _ => true

/-- The pieces between cuts. -/
def pieces (anc : List (List Nat)) (n : Nat) : Nat → List O → List O → List (List O)
  | _, cur, [] => [cur]
  | p, cur, o :: rest => if cutAt anc n p && !cur.isEmpty then cur :: pieces anc n (p + 1) [o] rest else pieces anc n (p + 1) (cur ++ [o]) rest

/-- Are the pieces whole, and cut apart? -/
def piecesOK (anc : List (List Nat)) (n : Nat) : Nat → List (List O) → Bool
  | _, [] => true
  | p, b :: bs => !b.isEmpty && cutAt anc n (p + b.length) && piecesOK anc n (p + b.length) bs

def compDraw (P : Program) (n : Nat) (ops : Array Oper) : Option (List (List O)) :=
  (compOps P n ops ops.toList).bind fun ol =>
    let anc := ancs ops.toList []
    let bs := pieces anc ol.length 0 [] ol
    if P.follows .mixedOrders && edgesOK ops.toList && tempsOK anc ol && newsOK ol && piecesOK anc ol.length 0 bs && bs.flatten.length == ol.length then some bs else none

/-- Does a piece end with an operation that turns the own rows (and is no store to a row that was made in the piece)? -/
def heavyL : List Nat → List O → Bool
  | _, [] => false
  | news, [o] => match o.op with
    | .append .. | .copy .. | .mksl .. => true
    | .store _ (.t d) _ => !news.contains d
    | _ => false
  | news, o :: o' :: rest => heavyL ((match o.op with | .alloc _ | .box _ | .bslice .. => o.dst.toList | _ => []) ++ news) (o' :: rest)

def heavyP : List O → Bool
  | o :: o' :: rest => heavyL [] (o :: o' :: rest)
  | _ => false

/-- The operations of such a piece that its last one does not wait for. -/
def floatsOf (anc : List (List Nat)) (p : Nat) (blk : List O) : List Nat :=
  if heavyP blk then (List.range (blk.length - 1)).filter fun i => !((anc.getD (p + (blk.length - 1)) []).contains (p + i)) else []

def isReadC : I → Bool
  | .mov _ | .pick .. | .build .. | .load .. | .nilchk _ | .bin .. | .un .. | .conv .. | .field .. | .faddr .. | .iaddr .. | .iaddrA .. | .idx .. | .slice .. | .sliceA .. | .mkfn .. | .extract .. | .len .. | .mm .. | .b2s .. | .s2ap .. => true
  | _ => false

def floatOK (blk : List O) (i : Nat) : Bool :=
  match blk[i]? with
  | some o => isReadC o.op && o.guard.isNone && o.dst.isSome && (List.range blk.length).all fun j => match blk[j]? with
      | some y => (j == i || y.dst != o.dst) && (decide (j < i) || (match y.dst with | some d => !(o.names.contains d) | none => true))
      | none => true
  | none => false

def lastOK (blk : List O) : Bool := match blk[blk.length - 1]? with
  | some o => o.guard.isNone
  | none => false

def withFloats (anc : List (List Nat)) : Nat → List (List O) → List (List Nat × List O)
  | _, [] => []
  | p, b :: bs => (floatsOf anc p b, b) :: withFloats anc (p + b.length) bs

def floatsOK (bs : List (List Nat × List O)) : Bool := bs.all fun b => !(heavyP b.2) || (lastOK b.2 && b.1.all (floatOK b.2))

def compDrawF (P : Program) (n : Nat) (ops : Array Oper) : Option (List (List Nat × List O)) :=
  (compDraw P n ops).bind fun bs =>
    let fs := withFloats (ancs ops.toList []) 0 bs
    if floatsOK fs then some fs else none

/-- The first label of a scope, and what stands behind a label. -/
def firstLabel : IR → Option Nat
  | .seq a b => match firstLabel a with
    | some l => some l
    | none => firstLabel b
  | .label l => some l
  | _ => none

def findLab : IR → Nat → Option IR
  | .seq a b, l => match findLab a l with
    | some rest => some (.seq rest b)
    | none => findLab b l
  | .label l', l => if l' == l then some .skip else none
  | _, _ => none

def comp (P : Program) (n : Nat) : Code → Option IR
  | .skip => some .skip
  | .region _ ops false => (compOps P n ops ops.toList).map .ops
  | .region _ ops true => (compDraw P n ops).bind fun bs => if bs.any heavyP then (compDrawF P n ops).map .drawF else some (.draw bs)
  | .seq a b => (comp P n a).bind fun x => (comp P n b).map (.seq x)
  | .cond c a b => (compA c).bind fun y => (comp P n a).bind fun x => (comp P n b).map (.cond y x)
  | .block id b => (comp P n b).map (.block id)
  | .loop b => (comp P n b).map .loop
  | .exit id => some (.exit id)
  | .ret => some .ret
  | .label l => some (.label l)
  | .goto l => some (.goto l)
  | .scope c => (comp P n c).bind fun b => match firstLabel b with
    | none => none
    | some l => (findLab b l).map (.scope l b)
  | _ => none

/-- Where a result lies. -/
inductive RV where
  | t (n : Nat)
  | c (n sz : Nat) (ag : Bool)

structure FnIR where
  n : Nat
  res : List RV
  body : IR

def resSlots (P : Program) : List ResultVar → Option (List RV)
  | [] => some []
  | .tmp t :: rest => (resSlots P rest).map (.t t :: ·)
  | .cell a t :: rest => (szOf P t).bind fun s => (isAggT P t).bind fun ag => (resSlots P rest).map (.c a s ag :: ·)

def compF (P : Program) (f : FuncId) : Option FnIR :=
  (P.funcs[f]?).bind fun fn => fn.body.bind fun c => if okF P f then (comp P fn.ntmps c).bind fun b => (resSlots P fn.results.toList).map fun r => ⟨fn.ntmps, r, b⟩ else none

/-- All arguments read as the logical ones. -/
def RelAll (η : List Nat) (S : Nat → Prop) (w : World) (vs : Array Value) (ls : List L) : Prop := vs.size = ls.length ∧ ∀ j, Rel S w η (vs.getD j undef) (ls.getD j .any)

/-- A call, on logical states: it returns, and then `K` holds of its result and the own rows. -/
def callAt (P : Program) (f : FuncId) (ls : List L) (H : Heap) (K : L → Heap → Prop) : Prop :=
  okF P f = true ∧ ∀ η S w vs, Conc η S w H → RelAll η S w vs ls →
    Calls P f vs w fun e w' => ∃ v l H' η' S', e = .returned v ∧ K l H' ∧ Rel S' w' η' v l ∧ Conc η' S' w' H' ∧ Le η S w η' S' w'

def callD (P : Program) (x : L) (ls : List L) (H : Heap) (K : L → Heap → Prop) : Prop :=
  match x with
  | .fn (.func f) first cap => callAt P f (first ++ ls ++ cap) H K
  | _ => False

def lop (P : Program) (op : I) (E : Env) (H : Heap) (K : L → Heap → Prop) : Prop :=
  match op with
  | .call f xs => callAt P f (xs.map (arg E)) H K
  | .calld x xs => callD P (arg E x) (xs.map (arg E)) H K
  | .isnil neg x => match arg E x with
    | .v (.slice none 0 0) => K (.v (.bool (!neg))) H
    | .sl _ _ xs => K (.v (.bool neg)) H ∧ (xs = [] → K (.v (.bool (!neg))) H)
    | .view _ _ _ n _ => K (.v (.bool neg)) H ∧ (n = 0 → K (.v (.bool (!neg))) H)
    | _ => False
  | op => optK (lopO op E H) fun r => K r.1 r.2

/-- A call that gives a value and leaves the own rows as they are. -/
def callV (P : Program) (f : FuncId) (ls : List L) (H : Heap) (r : L) : Prop := callAt P f ls H fun l H' => l = r ∧ H' = H

/-- An append of a closed list to nothing, or to a list whose capacity is at its end: the row that it makes. -/
def appNew (esz bytes : Nat) (x y : L) : Option (List L × (Nat → L)) :=
  match lcells esz [] y with
  | none => none
  | some ys =>
    if esz ∣ ys.length ∧ ys.all solid = true ∧ ys.length ≠ 0 then
      match x with
      | .v (.slice none 0 0) => if ys.length * bytes ≤ 70368744177664 then some (ys, fun h => .view esz h 0 (ys.length / esz) false) else none
      | .sl e true xs =>
        if e = esz then
          (if ((flat esz xs).length + ys.length) * bytes ≤ 70368744177664 then some (flat esz xs ++ ys, fun h => .view esz h 0 (xs.length + ys.length / esz) false) else none)
        else none
      | _ => none
    else none

/-- What makes a row: its cells, and what it gives by the row's number. -/
def lnew (op : I) (E : Env) : Option (List L × (Nat → L)) :=
  match op with
  | .alloc z => some (z.cells, fun h => .ptr h 0)
  | .box x => if topOK (arg E x) = true then some ((arg E x).cells, fun h => .ptr h 0) else none
  | .bslice esz z n parts => (lfill (zeros n z) (parts.map fun p => (p.1, p.2.1, arg E p.2.2))).map fun cs => (cs, fun h => .view esz h 0 n true)
  | .append esz bytes _ x y => appNew esz bytes (arg E x) (arg E y)
  | _ => none

def isNew : I → Bool
  | .alloc _ | .box _ | .bslice .. | .append .. => true
  | _ => false

def isRead : I → Bool
  | .mov _ | .pick .. | .build .. | .load .. | .nilchk _ | .bin .. | .un .. | .conv .. | .field .. | .faddr .. | .iaddr .. | .iaddrA .. | .idx .. | .slice .. | .sliceA .. | .mkfn .. | .extract .. | .len .. | .mm .. | .b2s .. | .s2ap .. | .eq2 .. | .mget .. | .mlen .. | .r2s .. => true
  | _ => false

def putE (E : Env) (d : Option Nat) (l : L) : Env :=
  match d with
  | some t => (t, l) :: E
  | none => E

/-- Does a guarded operation run? -/
def lguard (g : Option (Nat × Bool)) (E : Env) (run skip : Env → Prop) : Prop :=
  match g with
  | none => run E
  | some (s, b) => match lk E s with
    | .v (.bool x) => (x = b → run ((s, .v (.bool b)) :: E)) ∧ (x = (!b) → skip ((s, .v (.bool (!b))) :: E))
    | .no => skip E
    | _ => False

def lops (P : Program) : List O → (Env → Heap → Prop) → Env → Heap → Prop
  | [], K, E, H => K E H
  | o :: rest, K, E, H => lguard o.guard E (fun E => lop P o.op E H fun l H' => lops P rest K (putE E o.dst l) H') (fun E => lops P rest K (putE E o.dst .no) H)

/-- A row that is made, of which nobody will write any more. -/
def mkShared (esz bytes : Nat) (z : List L) (k k' : Int) : Prop := k = k' ∧ 0 ≤ k ∧ k * bytes ≤ 281474976710656 ∧ k ≤ 9223372036854775807 ∧ esz ≠ 0 ∧ z.length = esz ∧ z.all closed = true

/-- One operation among others whose order is open: it reads, or makes a row (whose number is told behind them all), or is a call that gives a value. -/
def lopD (P : Program) (op : I) (E : Env) (H : Heap) (K : L → Prop) (N : List L → (Nat → L) → Prop) : Prop :=
  match op with
  | .call f xs => ∃ r, callV P f (xs.map (arg E)) H r ∧ K r
  | .calld x xs => match arg E x with
    | .fn (.func f) first cap => ∃ r, callV P f (first ++ xs.map (arg E) ++ cap) H r ∧ K r
    | _ => False
  | .mksl esz bytes z n c => match arg E n, arg E c with
    | .v (.int .i64 k), .v (.int .i64 k') => mkShared esz bytes z k k' ∧ K (.sl esz true (chunk k.toNat esz (zeros k.toNat z)))
    | _, _ => False
  | op => if isNew op = true then optK (lnew op E) fun r => N r.1 r.2 else (isRead op = true ∧ optK (lopO op E H) fun r => K r.1)

mutual
/-- No own row from number n on. -/
def below (n : Nat) : L → Bool
  | .view _ h _ _ _ => decide (h < n)
  | .ptr h _ => decide (h < n)
  | .mref h => decide (h < n)
  | .agg cs => belowL n cs
  | .tup cs => belowL n cs
  | .fn _ a b => belowL n a && belowL n b
  | _ => true
def belowL (n : Nat) : List L → Bool
  | [] => true
  | c :: cs => below n c && belowL n cs
end

/-- Is a row's slot what is stored through? -/
def storesTo (o : O) : Option Nat :=
  match o.op with
  | .store _ (.t d) _ => some d
  | _ => none

def isP0 : L → Bool
  | .ptr 0 0 => true
  | _ => false

/-- A row that was made in this piece, of so many cells at least. -/
def putOK (d sz : Nat) (news : List (Option Nat × List L × (Nat → L))) : Bool := news.any fun e => e.1 == some d && isP0 (e.2.2 0) && decide (sz ≤ e.2.1.length)
def restOK (d : Nat) (rest : List O) : Bool := rest.all fun o => o.dst != some d && storesTo o != some d
def updNews (d : Nat) (l : L) (news : List (Option Nat × List L × (Nat → L))) : List (Option Nat × List L × (Nat → L)) := news.map fun e => if e.1 = some d then (e.1, setCells e.2.1 0 l.cells, e.2.2) else e

/-- A row of no elements. -/
def emptyB : I → Bool
  | .bslice _ _ 0 [] => true
  | _ => false
def eszB : I → Nat
  | .bslice e _ _ _ => e
  | _ => 0
def appTo (d : Option Nat) (o : O) : Bool :=
  match o.op with
  | .append _ _ _ (.t t) _ => d == some t
  | _ => false

/-- Operations whose order is open. `news`: the rows made so far: slot, cells, what the slot holds by the row's number. -/
def lblk (P : Program) (H : Heap) : List O → (Env → List (Option Nat × List L × (Nat → L)) → Prop) → Env → List (Option Nat × List L × (Nat → L)) → Prop
  | [], K, E, news => K E news
  | o :: rest, K, E, news => lguard o.guard E
      (fun E => match o.op with
        | .store s (.t d) y => (o.dst = none ∧ y ≠ .t d ∧ topOK (arg E y) = true ∧ (arg E y).cells.length = s ∧ putOK d s news = true ∧ restOK d rest = true) ∧ lblk P H rest K E (updNews d (arg E y) news)
        | op => if (emptyB op && rest.any (appTo o.dst)) = true then lblk P H rest K (putE E o.dst (.sl (eszB op) true [])) news else lopD P op E H (fun l => lblk P H rest K (putE E o.dst l) news) (fun cs mk => lblk P H rest K (putE E o.dst .any) (news ++ [(o.dst, cs, mk)])))
      (fun E => lblk P H rest K (putE E o.dst .no) news)

/-- The rows that were made, at the end of the own rows. -/
def addNews : List (Option Nat × List L × (Nat → L)) → Env → Heap → (Env → Heap → Prop) → Prop
  | [], E, H, K => K E H
  | (d, cs, mk) :: rest, E, H, K => addNews rest (putE E d (mk H.length)) (H ++ [some cs]) K

def ldraw (P : Program) : List (List O) → (Env → Heap → Prop) → Env → Heap → Prop
  | [], K, E, H => K E H
  | [o] :: bs, K, E, H => lops P [o] (ldraw P bs K) E H
  | blk :: bs, K, E, H => lblk P H blk (fun E news => addNews news E H (ldraw P bs K)) E []

/-- An operation that the piece's last one does not wait for gives behind it what it gave ahead of it. -/
def stable (blk : List O) (E : Env) (H : Heap) (i : Nat) : Prop :=
  match blk[i]? with
  | some o => match o.dst with
    | some d => lopO o.op E H = some (lk E d, H)
    | none => False
  | none => False

def ldrawF (P : Program) : List (List Nat × List O) → (Env → Heap → Prop) → Env → Heap → Prop
  | [], K, E, H => K E H
  | (fl, blk) :: bs, K, E, H =>
    if heavyP blk = true then lblk P H blk.dropLast (fun E news => addNews news E H fun E1 H1 => lops P (blk.drop (blk.length - 1)) (fun E2 H2 => (∀ i ∈ fl, stable blk E2 H2 i) ∧ ldrawF P bs K E2 H2) E1 H1) E []
    else ldraw P [blk] (ldrawF P bs K) E H

inductive X where
  | normal
  | exit (id : Nat)
  | goto (l : Nat)
  | ret

def X.then (next : Env → Heap → Prop) (Q : X → Env → Heap → Prop) : X → Env → Heap → Prop
  | .normal => next
  | e => Q e

def X.jump (l : Nat) (J : Env → Heap → Prop) (Q : X → Env → Heap → Prop) : X → Env → Heap → Prop
  | .goto l' => fun E H => l' = l ∧ J E H
  | e => Q e

def X.inBlock (id : Nat) (Q : X → Env → Heap → Prop) : X → Env → Heap → Prop
  | .exit id' => fun E H => if id' = id then Q .normal E H else Q (.exit id') E H
  | e => Q e

mutual
/-- The own rows numbered otherwise. -/
def ren (f : Nat → Nat) : L → L
  | .view e h off n c => .view e (f h) off n c
  | .ptr h off => .ptr (f h) off
  | .mref h => .mref (f h)
  | .agg cs => .agg (renL f cs)
  | .tup cs => .tup (renL f cs)
  | .fn g a b => .fn g (renL f a) (renL f b)
  | l => l
def renL (f : Nat → Nat) : List L → List L
  | [] => []
  | c :: cs => ren f c :: renL f cs
end

/-- The rows that are kept: row i was row number σ i. -/
def rowsOK (H : Heap) (f : Nat → Nat) (n : Nat) : List Nat → Heap → Prop
  | [], [] => True
  | s :: ss, c :: cs => (s < H.length ∧ match c with
    | none => True
    | some ls => H[s]? = some (some (renL f ls)) ∧ belowL n ls = true) ∧ rowsOK H f n ss cs
  | _, _ => False

def weakBy (m : Nat) (σ : List Nat) (E : Env) (H : Heap) (E' : Env) (H' : Heap) : Prop :=
  σ.take m = List.range m ∧ σ.Nodup ∧ rowsOK H (fun i => σ.getD i 0) H'.length σ H' ∧
  ∀ p ∈ E', below H'.length p.2 = true ∧ (p.2 = .any ∨ lk E p.1 = ren (fun i => σ.getD i 0) p.2)

/-- A state that says less: some slots forgotten, some own rows forgotten, the own rows numbered otherwise. -/
def weak (m : Nat) (E : Env) (H : Heap) (E' : Env) (H' : Heap) : Prop := ∃ σ, weakBy m σ E H E' H'

/-- Own rows that nobody writes any more: what reads them is a list. -/
def frz (H : Heap) (fz : List Nat) : L → L
  | .view e h off n c => if fz.contains h = true then (match live H h with
    | some cs => if off + n * e ≤ cs.length ∧ e ≠ 0 ∧ ((cs.drop off).take (n * e)).all closed = true then .sl e c (chunk n e ((cs.drop off).take (n * e))) else .any
    | none => .any) else .view e h off n c
  | l => l

def frzRow (H : Heap) (fz : List Nat) (h : Nat) : Option (List L) → Option (List L)
  | some ls => if fz.contains h = true then none else some (ls.map (frz H fz))
  | none => none

def frzH (H : Heap) (fz : List Nat) : Nat → Heap → Heap
  | _, [] => []
  | i, r :: rs => frzRow H fz i r :: frzH H fz (i + 1) rs

def frzE (H : Heap) (fz : List Nat) (E : Env) : Env := E.map fun p => (p.1, frz H fz p.2)

/-- A state that says less, or less behind some rows that are written no more. -/
def weakZ (m : Nat) (E : Env) (H : Heap) (E' : Env) (H' : Heap) : Prop := weak m E H E' H' ∨ (∃ fz, weak m (frzE H fz E) (frzH H fz 0 H) E' H') ∨
  ∃ fz fz', weak m (frzE (frzH H fz 0 H) fz' (frzE H fz E)) (frzH (frzH H fz 0 H) fz' 0 (frzH H fz 0 H)) E' H'

def lwp (P : Program) (k : Nat) : IR → (X → Env → Heap → Prop) → Env → Heap → Prop
  | .skip, Q, E, H => Q .normal E H
  | .ops l, Q, E, H => lops P l (Q .normal) E H
  | .draw bs, Q, E, H => ldraw P bs (Q .normal) E H
  | .drawF bs, Q, E, H => ldrawF P bs (Q .normal) E H
  | .seq a b, Q, E, H => lwp P k a (X.then (lwp P k b Q) Q) E H
  | .cond c a b, Q, E, H => match arg E c with
    | .v (.bool t) => (t = true → lwp P k a Q E H) ∧ (t = false → lwp P k b Q E H)
    | _ => False
  | .block id b, Q, E, H => lwp P k b (X.inBlock id Q) E H
  | .loop b, Q, E, H => ∃ (I : Env → Heap → Nat → Prop) (m : Nat), (∃ E₁ H₁, weakZ k E H E₁ H₁ ∧ I E₁ H₁ m) ∧
      ∀ E H m, I E H m → lwp P k b (X.then (fun E' H' => ∃ E'' H'' m', weakZ k E' H' E'' H'' ∧ m' < m ∧ I E'' H'' m') Q) E H
  | .exit id, Q, E, H => Q (.exit id) E H
  | .ret, Q, E, H => Q .ret E H
  | .label _, Q, E, H => Q .normal E H
  | .goto l, Q, E, H => Q (.goto l) E H
  | .scope l b rest, Q, E, H => ∃ (I : Env → Heap → Nat → Prop), lwp P k b (X.jump l (fun E' H' => ∃ E'' H'' m', weakZ k E' H' E'' H'' ∧ I E'' H'' m') Q) E H ∧
      ∀ E H m, I E H m → lwp P k rest (X.jump l (fun E' H' => ∃ E'' H'' m', weakZ k E' H' E'' H'' ∧ m' < m ∧ I E'' H'' m') Q) E H

/-- What a function's end gives. -/
def resL (E : Env) (H : Heap) : List RV → Option (List L)
  | [] => some []
  | .t n :: rest => (resL E H rest).map (lk E n :: ·)
  | .c n sz ag :: rest => (loadL sz ag H (lk E n)).bind fun l => (resL E H rest).map (l :: ·)

def res1 : List L → L
  | [l] => l
  | ls => .tup ls

def fnPost (res : List RV) (K : L → Heap → Prop) : X → Env → Heap → Prop
  | .normal => fun E H => optK (resL E H res) fun ls => K (res1 ls) H
  | .ret => fun E H => optK (resL E H res) fun ls => K (res1 ls) H
  | _ => fun _ _ => False

/-- The slots as a call begins. -/
def params : Nat → List L → Env
  | _, [] => []
  | i, l :: ls => (i, l) :: params (i + 1) ls

end Lg
