import Derived.Test.YtjoffkghcjfbeaaLibAtPT
import Derived.Test.YtjoffkghcjfbeaaLibNnfS
import Derived.Test.YtjoffkghcjfbeaaLibOwn
import Derived.Test.YtjoffkghcjfbeaaLibAtD1
/- A formula's tableau, as the program makes it, in plain terms. -/
namespace Lg
open Go
abbrev BV := BitVec 64
abbrev Nd := BV × BV
def bvI (b : BV) : Int := (b.toNat : Int)
abbrev ndI (n : Nd) : Int × Int := (bvI n.1, bvI n.2)
abbrev u64B (b : BV) : L := .v (.int .u64 (bvI b))
def oneB (i : Nat) : BV := 1#64 <<< i
theorem bvI_inj {a b : BV} (h : bvI a = bvI b) : a = b := by apply BitVec.eq_of_toNat_eq; unfold bvI at h; omega
theorem ndI_inj {a b : Nd} (h : ndI a = ndI b) : a = b := by
 simp only [ndI, Prod.mk.injEq] at h
 exact Prod.ext (bvI_inj h.1) (bvI_inj h.2)
theorem ndI_mem {n : Nd} {l : List Nd} : ndI n ∈ l.map ndI ↔ n ∈ l := by
 rw [List.mem_map]
 exact ⟨fun ⟨m, hm, e⟩ => ndI_inj e ▸ hm, fun h => ⟨n, h, rfl⟩⟩
theorem wrapU {n : Nat} (h : n < 2 ^ 64) : IntKind.u64.wrap (n : Int) = n := by
 have : IntKind.u64.wrap (n : Int) = ((n : Int) % 2 ^ 64) := by rfl
 rw [this]; omega
theorem wrapB {b : BV} : IntKind.u64.wrap (b.toNat : Int) = b.toNat := wrapU b.isLt
theorem ofIntB {b : BV} : BitVec.ofInt 64 (b.toNat : Int) = b := by
 apply BitVec.eq_of_toNat_eq
 rw [BitVec.toNat_ofInt]
 have := b.isLt
 omega
theorem andB {a b : BV} : bitsI .and .u64 (bvI a) (bvI b) = bvI (a &&& b) := by
 show IntKind.u64.wrap (((BitVec.ofInt 64 (a.toNat : Int) &&& BitVec.ofInt 64 (b.toNat : Int)) : BitVec 64).toNat : Int) = _
 rw [ofIntB, ofIntB, wrapB]; rfl
theorem orB {a b : BV} : bitsI .or .u64 (bvI a) (bvI b) = bvI (a ||| b) := by
 show IntKind.u64.wrap (((BitVec.ofInt 64 (a.toNat : Int) ||| BitVec.ofInt 64 (b.toNat : Int)) : BitVec 64).toNat : Int) = _
 rw [ofIntB, ofIntB, wrapB]; rfl
theorem andNotB {a b : BV} : bitsI .andNot .u64 (bvI a) (bvI b) = bvI (a &&& ~~~b) := by
 show IntKind.u64.wrap (((BitVec.ofInt 64 (a.toNat : Int) &&& ~~~BitVec.ofInt 64 (b.toNat : Int)) : BitVec 64).toNat : Int) = _
 rw [ofIntB, ofIntB, wrapB]; rfl
theorem shlB {i : Nat} : shlI .u64 1 (i : Int) = bvI (oneB i) := by
 unfold shlI oneB bvI
 show IntKind.u64.wrap (1 * 2 ^ (min (i : Int).toNat 64)) = _
 rw [BitVec.toNat_shiftLeft]
 simp only [Int.toNat_natCast, Int.one_mul, BitVec.toNat_ofNat, Nat.shiftLeft_eq, Nat.one_mod]
 have e : (2 : Int) ^ (min i 64) = ((2 ^ (min i 64) : Nat) : Int) := by simp
 rw [e]
 have : ∀ n : Nat, IntKind.u64.wrap (n : Int) = ((n % 2 ^ 64 : Nat) : Int) := fun n => by
  have : IntKind.u64.wrap (n : Int) = ((n : Int) % 2 ^ 64) := by rfl
  rw [this]; omega
 rw [this]
 rcases Nat.lt_or_ge i 64 with h | h
 ·rw [Nat.min_eq_left (by omega)]; simp
 ·rw [Nat.min_eq_right h]
  obtain ⟨d, rfl⟩ := Nat.exists_eq_add_of_le h
  rw [Nat.pow_add]
  simp
theorem oneB_get {i j : Nat} (hi : i < 64) : (oneB i).getLsbD j = decide (j = i) := by
 unfold oneB
 rw [BitVec.getLsbD_shiftLeft]
 rcases Nat.lt_trichotomy j i with h | h | h
 ·simp [h]; omega
 ·subst h; simp [hi]
 ·have h1 : ¬ j < i := by omega
  have h2 : ¬ (j - i = 0) := by omega
  have h3 : ¬ (j = i) := by omega
  rw [BitVec.getLsbD_one]
  simp [h1, h2, h3]
theorem and_oneB {b : BV} {i : Nat} (hi : i < 64) : b &&& oneB i = 0#64 ↔ b.getLsbD i = false := by
 constructor
 ·intro h
  have := congrArg (fun x => x.getLsbD i) h
  simpa [oneB_get hi] using this
 ·intro h
  apply BitVec.eq_of_getLsbD_eq
  intro j hj
  rw [BitVec.getLsbD_and, oneB_get hi]
  by_cases e : j = i
  ·subst e; simp [h]
  ·simp [e]
theorem toNat_zero {b : BV} : (bvI b = 0) ↔ b = 0#64 := by
 unfold bvI
 constructor
 ·intro h; apply BitVec.eq_of_toNat_eq; simp; omega
 ·intro h; subst h; rfl
def lowB (b : BV) : Nat := (List.range 64).findIdx fun i => b.getLsbD i
theorem lowB_spec {b : BV} (h : b ≠ 0#64) : lowB b < 64 ∧ b.getLsbD (lowB b) = true ∧ ∀ j, j < lowB b → b.getLsbD j = false := by
 have hex : ∃ i, i ∈ List.range 64 ∧ b.getLsbD i = true := by
  apply Classical.byContradiction
  intro hn
  apply h
  apply BitVec.eq_of_getLsbD_eq
  intro i hi
  cases hb : b.getLsbD i
  ·simp
  ·exact absurd ⟨i, by simpa using hi, hb⟩ hn
 obtain ⟨i, hi, hb⟩ := hex
 have hlt : lowB b < (List.range 64).length := List.findIdx_lt_length_of_exists ⟨i, hi, hb⟩
 refine ⟨by simpa using hlt, ?_, fun j hj => ?_⟩
 ·have hlt' : (List.range 64).findIdx (fun i => b.getLsbD i) < (List.range 64).length := hlt
  have := List.findIdx_getElem (w := hlt')
  rw [List.getElem_range] at this
  exact this
 ·have := List.not_of_lt_findIdx (p := fun i => b.getLsbD i) (xs := List.range 64) hj
  simpa using this
def bitF (l : List T) (e : T) : Nat × List T := if (l.findIdx fun x => x.same e) < l.length then (l.findIdx fun x => x.same e, l) else (l.length, l ++ [e])
def splitF : Nat → BV → Nd → List T → List Nd → List T × List Nd
 | 0, _, _, l, out => (l, out)
 | k + 1, todo, n, l, out =>
  if todo &&& ~~~n.1 = 0#64 then (l, if n ∈ out then out else out ++ [n])
  else
   let i := lowB (todo &&& ~~~n.1)
   let e := l.getD i T.none0
   let b := oneB i
   let todo := (todo &&& ~~~n.1) &&& ~~~b
   let n1 : Nd := (n.1 ||| b, n.2)
   if e.lit = true then splitF k todo n1 l out
   else
    let x := bitF l (e.l.getD 0 T.none0)
    if e.op = 20 then splitF k todo (n1.1, n1.2 ||| oneB x.1) x.2 out
    else
     let y := bitF x.2 (e.l.getD 1 T.none0)
     let kept : Nd := (n1.1, n1.2 ||| b)
     if e.op = 16 then splitF k (todo ||| oneB x.1 ||| oneB y.1) n1 y.2 out
     else if e.op = 17 then
      let r := splitF k (todo ||| oneB x.1) n1 y.2 out
      splitF k (todo ||| oneB y.1) n1 r.1 r.2
     else if e.op = 23 then
      let r := splitF k (todo ||| oneB y.1) n1 y.2 out
      splitF k (todo ||| oneB x.1) kept r.1 r.2
     else
      let r := splitF k (todo ||| oneB x.1 ||| oneB y.1) n1 y.2 out
      splitF k (todo ||| oneB y.1) kept r.1 r.2
end Lg


/- The parts of a formula, and how what is to be is split. -/
namespace Lg
open Go
structure Parts (S : List T) : Prop where
 len : S.length ≤ 9
 ok : ∀ e ∈ S, e.Ok
 kids : ∀ e ∈ S, e.lit = false → (e.op = 20 ∧ ∃ x ∈ S, e.l = [x]) ∨ ((e.op = 16 ∨ e.op = 17 ∨ e.op = 23 ∨ e.op = 24) ∧ ∃ x ∈ S, ∃ y ∈ S, e.l = [x, y])
structure TabOk (S l : List T) : Prop where
 mem : ∀ e ∈ l, e ∈ S
 dist : l.Pairwise fun x y => x.same y = false
section
variable {S l : List T}
theorem TabOk.len (h : TabOk S l) : l.length ≤ S.length :=
 nodup_length (h.dist.imp fun {x y} e he => by subst he; rw [same_self] at e; simp at e) h.mem
theorem TabOk.get (h : TabOk S l) {i : Nat} (hi : i < l.length) : l[i] ∈ S := h.mem _ (List.getElem_mem hi)
structure BitOk (S l : List T) (e : T) : Prop where
 tab : TabOk S (bitF l e).2
 lt : (bitF l e).1 < (bitF l e).2.length
 pre : l <+: (bitF l e).2
 same : ((bitF l e).2.getD (bitF l e).1 T.none0).same e = true
theorem bitF_ok (h : TabOk S l) {e : T} (he : e ∈ S) : BitOk S l e := by
 by_cases hf : (l.findIdx fun x => x.same e) < l.length
 ·refine ⟨?_, ?_, ?_, ?_⟩ <;> simp only [bitF, if_pos hf]
  ·exact h
  ·exact hf
  ·exact List.prefix_refl _
  ·rw [List.getD, List.getElem?_eq_getElem hf]
   exact List.findIdx_getElem (w := hf)
 ·have hall : ∀ x ∈ l, x.same e = false := by
   have : l.findIdx (fun x => x.same e) = l.length := by
    have := List.findIdx_le_length (p := fun x => x.same e) (xs := l)
    omega
   intro x hx
   cases hs : x.same e
   ·rfl
   ·have := List.findIdx_lt_length_of_exists (p := fun x => x.same e) ⟨x, hx, hs⟩
    omega
  refine ⟨?_, ?_, ?_, ?_⟩ <;> simp only [bitF, if_neg hf]
  ·refine ⟨fun x hx => ?_, ?_⟩
   ·rcases List.mem_append.1 hx with hx | hx
    ·exact h.mem x hx
    ·rw [List.mem_singleton.1 hx]; exact he
   ·rw [List.pairwise_append]
    exact ⟨h.dist, by simp, fun x hx y hy => by rw [List.mem_singleton.1 hy]; exact hall x hx⟩
  ·simp
  ·exact List.prefix_append _ _
  ·simp [List.getD, same_self]
def bitsIn (b : BV) (m : Nat) : Prop := ∀ i, b.getLsbD i = true → i < m
theorem bitsIn.mono {b : BV} {m m' : Nat} (h : bitsIn b m) (hm : m ≤ m') : bitsIn b m' := fun i hi => Nat.lt_of_lt_of_le (h i hi) hm
theorem bitsIn.or {a b : BV} {m : Nat} (h : bitsIn a m) (k : bitsIn b m) : bitsIn (a ||| b) m := fun i hi => by
 rw [BitVec.getLsbD_or, Bool.or_eq_true] at hi
 exact hi.elim (h i) (k i)
theorem bitsIn.and {a b : BV} {m : Nat} (h : bitsIn a m) : bitsIn (a &&& b) m := fun i hi => by
 rw [BitVec.getLsbD_and, Bool.and_eq_true] at hi
 exact h i hi.1
theorem bitsIn.one {i m : Nat} (hi : i < m) (h64 : i < 64) : bitsIn (oneB i) m := fun j hj => by
 rw [oneB_get h64] at hj
 have := of_decide_eq_true hj
 omega
structure SplOk (S : List T) (k : Nat) (todo : BV) (n : Nd) (l : List T) (used : List Nat) : Prop where
 tab : TabOk S l
 nd : used.Nodup
 old : ∀ i, n.1.getLsbD i = true ↔ i ∈ used
 oldIn : ∀ i ∈ used, i < l.length
 todoIn : bitsIn todo l.length
 nextIn : bitsIn n.2 l.length
 fuel : S.length < k + used.length
theorem SplOk.zero {todo : BV} {n : Nd} {used : List Nat} (h : SplOk S 0 todo n l used) : False := by
 have h1 := nodup_lt h.nd h.oldIn
 have h2 := h.tab.len
 have h3 := h.fuel
 omega
structure PickOk (S : List T) (todo : BV) (n : Nd) (l : List T) (i : Nat) : Prop where
 lt : i < l.length
 l64 : i < 64
 todo : todo.getLsbD i = true
 new : n.1.getLsbD i = false
 mem : l.getD i T.none0 ∈ S
theorem SplOk.pick (hS : Parts S) {k : Nat} {todo : BV} {n : Nd} {used : List Nat} (h : SplOk S (k + 1) todo n l used) (hne : todo &&& ~~~n.1 ≠ 0#64) : PickOk S todo n l (lowB (todo &&& ~~~n.1)) := by
 obtain ⟨h1, h2, -⟩ := lowB_spec hne
 rw [BitVec.getLsbD_and, Bool.and_eq_true, BitVec.getLsbD_not] at h2
 simp [h1] at h2
 have hlt := h.todoIn _ h2.1
 refine ⟨hlt, h1, h2.1, h2.2, ?_⟩
 rw [List.getD, List.getElem?_eq_getElem hlt]
 exact h.tab.get hlt
theorem SplOk.next {k : Nat} {todo todo' : BV} {n : Nd} {n2 : BV} {l' : List T} {used : List Nat} (h : SplOk S (k + 1) todo n l used) {i : Nat} (hp : PickOk S todo n l i) (ht : TabOk S l') (hl : l <+: l') (h1 : bitsIn todo' l'.length) (h2 : bitsIn n2 l'.length) :
  SplOk S k todo' (n.1 ||| oneB i, n2) l' (i :: used) := by
 have hle := hl.length_le
 refine ⟨ht, ?_, fun j => ?_, fun j hj => ?_, h1, h2, ?_⟩
 ·rw [List.nodup_cons]
  refine ⟨fun hm => ?_, h.nd⟩
  have := (h.old i).2 hm
  rw [hp.new] at this; simp at this
 ·show (n.1 ||| oneB i).getLsbD j = true ↔ _
  rw [BitVec.getLsbD_or, Bool.or_eq_true, h.old, oneB_get hp.l64, List.mem_cons, decide_eq_true_eq]
  exact or_comm
 ·rcases List.mem_cons.1 hj with rfl | hj
  ·have := hp.lt; omega
  ·have := h.oldIn j hj; omega
 ·have := h.fuel; simp; omega
abbrev restB (todo : BV) (n : Nd) : BV := (todo &&& ~~~n.1) &&& ~~~oneB (lowB (todo &&& ~~~n.1))
abbrev pickT (todo : BV) (n : Nd) (l : List T) : T := l.getD (lowB (todo &&& ~~~n.1)) T.none0
abbrev pickB (todo : BV) (n : Nd) : BV := oneB (lowB (todo &&& ~~~n.1))
abbrev pickN (todo : BV) (n : Nd) : Nd := (n.1 ||| pickB todo n, n.2)
abbrev kid1 (e : T) : T := e.l.getD 1 T.none0
theorem split_ind (hS : Parts S) (M : Nat → BV → Nd → List T → List Nd → List T × List Nd → Prop)
  (done : ∀ k todo n l out used, SplOk S (k + 1) todo n l used → todo &&& ~~~n.1 = 0#64 → M (k + 1) todo n l out (l, if n ∈ out then out else out ++ [n]))
  (lit : ∀ k todo n l out used r, SplOk S (k + 1) todo n l used → todo &&& ~~~n.1 ≠ 0#64 → PickOk S todo n l (lowB (todo &&& ~~~n.1)) → (pickT todo n l).lit = true →
   SplOk S k (restB todo n) (pickN todo n) l (lowB (todo &&& ~~~n.1) :: used) → r = splitF k (restB todo n) (pickN todo n) l out → M k (restB todo n) (pickN todo n) l out r → M (k + 1) todo n l out r)
  (next : ∀ k todo n l out used r l1 jx x, SplOk S (k + 1) todo n l used → todo &&& ~~~n.1 ≠ 0#64 → PickOk S todo n l (lowB (todo &&& ~~~n.1)) → (pickT todo n l).lit = false → (pickT todo n l).op = 20 → (pickT todo n l).l = [x] → x ∈ S →
   bitF l x = (jx, l1) → BitOk S l x → SplOk S k (restB todo n) ((pickN todo n).1, (pickN todo n).2 ||| oneB jx) l1 (lowB (todo &&& ~~~n.1) :: used) → r = splitF k (restB todo n) ((pickN todo n).1, (pickN todo n).2 ||| oneB jx) l1 out →
   M k (restB todo n) ((pickN todo n).1, (pickN todo n).2 ||| oneB jx) l1 out r → M (k + 1) todo n l out r)
  (and : ∀ k todo n l out used r l1 jx x l2 jy y, SplOk S (k + 1) todo n l used → todo &&& ~~~n.1 ≠ 0#64 → PickOk S todo n l (lowB (todo &&& ~~~n.1)) → (pickT todo n l).lit = false → (pickT todo n l).op = 16 → (pickT todo n l).l = [x, y] → x ∈ S → y ∈ S →
   bitF l x = (jx, l1) → BitOk S l x → bitF l1 y = (jy, l2) → BitOk S l1 y → SplOk S k (restB todo n ||| oneB jx ||| oneB jy) (pickN todo n) l2 (lowB (todo &&& ~~~n.1) :: used) → r = splitF k (restB todo n ||| oneB jx ||| oneB jy) (pickN todo n) l2 out →
   M k (restB todo n ||| oneB jx ||| oneB jy) (pickN todo n) l2 out r → M (k + 1) todo n l out r)
  (two : ∀ k todo n l out used r r1 l1 jx x l2 jy y t1 t2 n2, SplOk S (k + 1) todo n l used → todo &&& ~~~n.1 ≠ 0#64 → PickOk S todo n l (lowB (todo &&& ~~~n.1)) → (pickT todo n l).lit = false → (pickT todo n l).l = [x, y] → x ∈ S → y ∈ S →
   (((pickT todo n l).op = 17 ∧ t1 = restB todo n ||| oneB jx ∧ t2 = restB todo n ||| oneB jy ∧ n2 = n.2) ∨ ((pickT todo n l).op = 23 ∧ t1 = restB todo n ||| oneB jy ∧ t2 = restB todo n ||| oneB jx ∧ n2 = n.2 ||| pickB todo n) ∨
    ((pickT todo n l).op = 24 ∧ t1 = restB todo n ||| oneB jx ||| oneB jy ∧ t2 = restB todo n ||| oneB jy ∧ n2 = n.2 ||| pickB todo n)) →
   bitF l x = (jx, l1) → BitOk S l x → bitF l1 y = (jy, l2) → BitOk S l1 y → SplOk S k t1 (pickN todo n) l2 (lowB (todo &&& ~~~n.1) :: used) → r1 = splitF k t1 (pickN todo n) l2 out → M k t1 (pickN todo n) l2 out r1 → l2 <+: r1.1 →
   SplOk S k t2 ((pickN todo n).1, n2) r1.1 (lowB (todo &&& ~~~n.1) :: used) → r = splitF k t2 ((pickN todo n).1, n2) r1.1 r1.2 → M k t2 ((pickN todo n).1, n2) r1.1 r1.2 r → M (k + 1) todo n l out r) :
  ∀ k todo n l out used, SplOk S k todo n l used → M k todo n l out (splitF k todo n l out) ∧ TabOk S (splitF k todo n l out).1 ∧ l <+: (splitF k todo n l out).1 := by
 intro k
 induction k with
 | zero => intro todo n l out used h; exact h.zero.elim
 | succ k ih =>
  intro todo n l out used h
  have hl64 : S.length < 64 := by have := hS.len; omega
  by_cases hz : todo &&& ~~~n.1 = 0#64
  ·have e : splitF (k + 1) todo n l out = (l, if n ∈ out then out else out ++ [n]) := by rw [splitF, if_pos hz]
   rw [e]
   exact ⟨done k todo n l out used h hz, h.tab, List.prefix_refl _⟩
  ·have hp := h.pick hS hz
   have hrest : bitsIn (restB todo n) l.length := (h.todoIn.and).and
   cases hlit : (pickT todo n l).lit
   ·rcases hS.kids _ hp.mem hlit with ⟨ho, x, hx, hk⟩ | ⟨ho, x, hx, y, hy, hk⟩
    ·obtain ⟨jx, l1, hb⟩ : ∃ jx l1, bitF l x = (jx, l1) := ⟨_, _, rfl⟩
     have hbo := bitF_ok h.tab hx
     have hbo' := hbo
     obtain ⟨b1, b2, b3, -⟩ := hbo
     rw [hb] at b1 b2 b3
     simp only at b1 b2 b3
     have hjx : jx < 64 := by have := b1.len; omega
     have hn := h.next (todo' := restB todo n) (n2 := n.2 ||| oneB jx) hp b1 b3 (hrest.mono b3.length_le) ((h.nextIn.mono b3.length_le).or (.one b2 hjx))
     have e : splitF (k + 1) todo n l out = splitF k (restB todo n) ((pickN todo n).1, (pickN todo n).2 ||| oneB jx) l1 out := by
      rw [splitF, if_neg hz]
      simp only
      rw [if_neg (by rw [hlit]; simp), if_pos ho, show (l.getD (lowB (todo &&& ~~~n.1)) T.none0).l = [x] from hk]
      simp [hb]
     rw [e]
     obtain ⟨m1, m2, m3⟩ := ih _ _ _ out _ hn
     exact ⟨next k todo n l out used _ l1 jx x h hz hp hlit ho hk hx hb hbo' hn rfl m1, m2, b3.trans m3⟩
    ·obtain ⟨jx, l1, hb⟩ : ∃ jx l1, bitF l x = (jx, l1) := ⟨_, _, rfl⟩
     have hbo := bitF_ok h.tab hx
     have hbo' := hbo
     obtain ⟨b1, b2, b3, -⟩ := hbo
     rw [hb] at b1 b2 b3
     simp only at b1 b2 b3
     obtain ⟨jy, l2, hc⟩ : ∃ jy l2, bitF l1 y = (jy, l2) := ⟨_, _, rfl⟩
     have hco := bitF_ok b1 hy
     have hco' := hco
     obtain ⟨c1, c2, c3, -⟩ := hco
     rw [hc] at c1 c2 c3
     simp only at c1 c2 c3
     have hjx : jx < 64 := by have := b1.len; omega
     have hjy : jy < 64 := by have := c1.len; omega
     have hpre : l <+: l2 := b3.trans c3
     have hrest2 := hrest.mono hpre.length_le
     have ox : bitsIn (oneB jx) l2.length := .one (Nat.lt_of_lt_of_le b2 c3.length_le) hjx
     have oy : bitsIn (oneB jy) l2.length := .one c2 hjy
     have ob : bitsIn (pickB todo n) l2.length := .one (Nat.lt_of_lt_of_le hp.lt hpre.length_le) hp.l64
     have nx := h.nextIn.mono hpre.length_le
     have hnop : ¬ ((pickT todo n l).op = 20) := by rcases ho with ho | ho | ho | ho <;> rw [ho] <;> decide
     have twoCase : ∀ t1 t2 n2, bitsIn t1 l2.length → bitsIn t2 l2.length → bitsIn n2 l2.length → splitF (k + 1) todo n l out = splitF k t2 ((pickN todo n).1, n2) (splitF k t1 (pickN todo n) l2 out).1 (splitF k t1 (pickN todo n) l2 out).2 →
       (((pickT todo n l).op = 17 ∧ t1 = restB todo n ||| oneB jx ∧ t2 = restB todo n ||| oneB jy ∧ n2 = n.2) ∨ ((pickT todo n l).op = 23 ∧ t1 = restB todo n ||| oneB jy ∧ t2 = restB todo n ||| oneB jx ∧ n2 = n.2 ||| pickB todo n) ∨
        ((pickT todo n l).op = 24 ∧ t1 = restB todo n ||| oneB jx ||| oneB jy ∧ t2 = restB todo n ||| oneB jy ∧ n2 = n.2 ||| pickB todo n)) →
       M (k + 1) todo n l out (splitF (k + 1) todo n l out) ∧ TabOk S (splitF (k + 1) todo n l out).1 ∧ l <+: (splitF (k + 1) todo n l out).1 := by
      intro t1 t2 n2 h1 h2 h3 e hor
      rw [e]
      have hn1 := h.next (todo' := t1) (n2 := n.2) hp c1 hpre h1 nx
      obtain ⟨m1, m2, m3⟩ := ih _ _ _ out _ hn1
      have hn2 := h.next (todo' := t2) (n2 := n2) hp m2 (hpre.trans m3) (h2.mono m3.length_le) (h3.mono m3.length_le)
      obtain ⟨q1, q2, q3⟩ := ih _ _ _ (splitF k t1 (pickN todo n) l2 out).2 _ hn2
      exact ⟨two k todo n l out used _ _ l1 jx x l2 jy y t1 t2 n2 h hz hp hlit hk hx hy hor hb hbo' hc hco' hn1 rfl m1 m3 hn2 rfl q1, q2, (hpre.trans m3).trans q3⟩
     have eq0 : splitF (k + 1) todo n l out = (if (pickT todo n l).op = 16 then splitF k (restB todo n ||| oneB jx ||| oneB jy) (pickN todo n) l2 out
       else if (pickT todo n l).op = 17 then splitF k (restB todo n ||| oneB jy) (pickN todo n) (splitF k (restB todo n ||| oneB jx) (pickN todo n) l2 out).1 (splitF k (restB todo n ||| oneB jx) (pickN todo n) l2 out).2
       else if (pickT todo n l).op = 23 then splitF k (restB todo n ||| oneB jx) ((pickN todo n).1, n.2 ||| pickB todo n) (splitF k (restB todo n ||| oneB jy) (pickN todo n) l2 out).1 (splitF k (restB todo n ||| oneB jy) (pickN todo n) l2 out).2
       else splitF k (restB todo n ||| oneB jy) ((pickN todo n).1, n.2 ||| pickB todo n) (splitF k (restB todo n ||| oneB jx ||| oneB jy) (pickN todo n) l2 out).1 (splitF k (restB todo n ||| oneB jx ||| oneB jy) (pickN todo n) l2 out).2) := by
      rw [splitF, if_neg hz]
      simp only
      rw [if_neg (by rw [hlit]; simp), if_neg hnop, show (l.getD (lowB (todo &&& ~~~n.1)) T.none0).l = [x, y] from hk]
      simp [hb, hc]
     rcases ho with ho | ho | ho | ho
     ·have e : splitF (k + 1) todo n l out = splitF k (restB todo n ||| oneB jx ||| oneB jy) (pickN todo n) l2 out := by rw [eq0, if_pos ho]
      rw [e]
      have hn := h.next (todo' := restB todo n ||| oneB jx ||| oneB jy) (n2 := n.2) hp c1 hpre ((hrest2.or ox).or oy) nx
      obtain ⟨m1, m2, m3⟩ := ih _ _ _ out _ hn
      exact ⟨and k todo n l out used _ l1 jx x l2 jy y h hz hp hlit ho hk hx hy hb hbo' hc hco' hn rfl m1, m2, hpre.trans m3⟩
     ·exact twoCase _ _ n.2 (hrest2.or ox) (hrest2.or oy) nx (by rw [eq0, if_neg (by rw [ho]; decide), if_pos ho]) (.inl ⟨ho, rfl, rfl, rfl⟩)
     ·exact twoCase _ _ _ (hrest2.or oy) (hrest2.or ox) (nx.or ob) (by rw [eq0, if_neg (by rw [ho]; decide), if_neg (by rw [ho]; decide), if_pos ho]) (.inr (.inl ⟨ho, rfl, rfl, rfl⟩))
     ·exact twoCase _ _ _ ((hrest2.or ox).or oy) (hrest2.or oy) (nx.or ob) (by rw [eq0, if_neg (by rw [ho]; decide), if_neg (by rw [ho]; decide), if_neg (by rw [ho]; decide)]) (.inr (.inr ⟨ho, rfl, rfl, rfl⟩))
   ·have e : splitF (k + 1) todo n l out = splitF k (restB todo n) (pickN todo n) l out := by
     rw [splitF, if_neg hz]
     simp only
     rw [if_pos hlit]
    rw [e]
    have hn := h.next (todo' := restB todo n) (n2 := n.2) hp h.tab (List.prefix_refl _) hrest h.nextIn
    obtain ⟨m1, m2, m3⟩ := ih _ _ _ out _ hn
    exact ⟨lit k todo n l out used _ h hz hp hlit hn rfl m1, m2, m3⟩
theorem split_len (hS : Parts S) : ∀ k todo n l out used, SplOk S k todo n l used → out <+: (splitF k todo n l out).2 ∧ (splitF k todo n l out).2 ≠ [] ∧ (splitF k todo n l out).2.length ≤ out.length + 2 ^ k ∧ (out.Nodup → (splitF k todo n l out).2.Nodup) := by
 intro k todo n l out used h
 refine (split_ind hS (fun k todo n l out r => out <+: r.2 ∧ r.2 ≠ [] ∧ r.2.length ≤ out.length + 2 ^ k ∧ (out.Nodup → r.2.Nodup)) ?_ ?_ ?_ ?_ ?_ k todo n l out used h).1
 ·intro k todo n l out used _ _
  have := Nat.one_le_two_pow (n := k + 1)
  by_cases hm : n ∈ out
  ·simp only [if_pos hm]
   exact ⟨List.prefix_refl _, List.ne_nil_of_mem hm, by omega, id⟩
  ·simp only [if_neg hm]
   refine ⟨List.prefix_append _ _, by simp, by simp; omega, fun hn => ?_⟩
   rw [List.nodup_append]
   exact ⟨hn, by simp, fun a ha b hb e => by rw [List.mem_singleton.1 hb] at e; subst e; exact hm ha⟩
 ·intro k todo n l out used r _ _ _ _ _ _ ⟨h1, h2, h3, h4⟩
  exact ⟨h1, h2, by rw [Nat.pow_succ]; omega, h4⟩
 ·intro k todo n l out used r l1 jx x _ _ _ _ _ _ _ _ _ _ _ ⟨h1, h2, h3, h4⟩
  exact ⟨h1, h2, by rw [Nat.pow_succ]; omega, h4⟩
 ·intro k todo n l out used r l1 jx x l2 jy y _ _ _ _ _ _ _ _ _ _ _ _ _ _ ⟨h1, h2, h3, h4⟩
  exact ⟨h1, h2, by rw [Nat.pow_succ]; omega, h4⟩
 ·intro k todo n l out used r r1 l1 jx x l2 jy y t1 t2 n2 _ _ _ _ _ _ _ _ _ _ _ _ _ _ ⟨h1, h2, h3, h4⟩ _ _ _ ⟨g1, g2, g3, g4⟩
  exact ⟨h1.trans g1, g2, by rw [Nat.pow_succ]; omega, fun h => g4 (h4 h)⟩
end
end Lg


/- A part's bit: what the program does. -/
namespace Lg
open Go
def trC (l : List T) : List L := l.flatMap fun t => t.toL.cells
section
variable {l m : List T}
@[simp] theorem trC_length : (trC l).length = l.length * 4 := by
 induction l with
 | nil => rfl
 | cons p l ih => simp only [trC, List.flatMap_cons, List.length_append, List.length_cons, toL_cells_length] at ih ⊢; rw [ih]; omega
theorem trC_append : trC (l ++ m) = trC l ++ trC m := by simp [trC]
theorem trC_one {t : T} : trC [t] = t.toL.cells := by simp [trC]
theorem trC_cons {t : T} : trC (t :: l) = t.toL.cells ++ trC l := by simp [trC]
theorem trC_closedM : ∀ x ∈ trC l, closed x = true := by
 intro x hx; simp only [trC, List.mem_flatMap] at hx; obtain ⟨t, -, hx⟩ := hx; exact List.all_eq_true.1 (all_closed_toL t) x hx
@[simp] theorem trC_closed : (trC l).all closed = true := List.all_eq_true.2 trC_closedM
theorem solid_toL {t : T} : ∀ x ∈ t.toL.cells, solid x = true := by
 cases t; simp [toL_mk]
theorem trC_solidM : ∀ x ∈ trC l, solid x = true := by
 intro x hx; simp only [trC, List.mem_flatMap] at hx; obtain ⟨t, -, hx⟩ := hx; exact solid_toL x hx
@[simp] theorem trC_solid : (trC l).all solid = true := List.all_eq_true.2 trC_solidM
@[simp] theorem below_cells {n : Nat} {t : T} : belowL n t.toL.cells = true := by cases t; simp [toL_mk, belowL]
@[simp] theorem ren_cells {f : Nat → Nat} {t : T} : renL f t.toL.cells = t.toL.cells := by cases t; simp [toL_mk, renL]
@[simp] theorem trC_below {n : Nat} : belowL n (trC l) = true := by
 induction l with
 | nil => rfl
 | cons p l ih => rw [trC_cons, belowL_append]; simp [ih]
@[simp] theorem trC_ren {f : Nat → Nat} : renL f (trC l) = trC l := by
 induction l with
 | nil => rfl
 | cons p l ih => rw [trC_cons, renL_append]; simp [ih]
@[simp] theorem frz_cells {H : Heap} {fz : List Nat} {t : T} : t.toL.cells.map (frz H fz) = t.toL.cells := by cases t; simp [toL_mk]
@[simp] theorem trC_frz {H : Heap} {fz : List Nat} : (trC l).map (frz H fz) = trC l := by
 induction l with
 | nil => rfl
 | cons p l ih => rw [trC_cons, List.map_append]; simp [ih]
theorem trC_at {i : Nat} (h : i < l.length) : ((trC l).drop (i * 4)).take 4 = l[i].toL.cells := by
 induction l generalizing i with
 | nil => simp at h
 | cons t l ih =>
  rw [trC_cons]
  cases i with
  | zero => simp [List.take_append, toL_cells_length, toL_take]
  | succ i =>
   rw [show (i + 1) * 4 = t.toL.cells.length + i * 4 by rw [toL_cells_length]; omega, List.drop_append]
   rw [List.drop_eq_nil_of_le (by omega), List.nil_append, Nat.add_sub_cancel_left]
   simpa using ih (by simpa using h)
theorem set_app {A B : List L} {k : Nat} {x : L} : (A ++ B).set (A.length + k) x = A ++ B.set k x := by rw [List.set_append_right _ _ (by omega), Nat.add_sub_cancel_left]
theorem trC_set {a b c d : L} {u : T} : setCells (trC l ++ [a, b, c, d]) (l.length * 4) u.toL.cells = trC l ++ u.toL.cells := by
 have e : ∀ (A : List L) (a b c d a' b' c' d' : L), setCells (A ++ [a, b, c, d]) A.length [a', b', c', d'] = A ++ [a', b', c', d'] := fun A a b c d a' b' c' d' => by
  have h0 : (A ++ [a, b, c, d]).set A.length a' = A ++ [a', b, c, d] := by simp [List.set_append_right]
  simp only [setCells, h0, Nat.add_assoc, set_app]
  simp
 cases u
 rw [← trC_length]
 simp only [toL_mk]
 exact e _ _ _ _ _ _ _ _ _
end
theorem bit_nil {P : Program} {f same : Nat} (ir : compFS selBit P f = some (irBitT same)) {e : T} :
  callAt P f [.ptr 0 0, e.toL] [some [.v (.slice none 0 0)]] (fun r R => r = u64B (oneB 0) ∧ R = [some [.view 4 1 0 1 false], some (trC [e])]) := by
 refine callAt_exitK (callAt_enterS ir (by simp [irBitT]) ?_)
 have h1 : shlI .u64 1 0 = bvI (oneB 0) := by have := shlB (i := 0); simpa using this
 have h2 : IntKind.i64.wrap 0 = 0 := by decide
 simp [irBitT]
 refine lwp_loop (fun _ : Unit => [(0, .ptr 0 0), (3, .ptr 1 0), (12, intL 0), (11, intL 0)]) (fun _ => [some [.v (.slice none 0 0)], some e.toL.cells]) (fun _ => 0) (fun _ => True) () trivial ⟨[0, 1], by simp⟩ fun _ _ => ?_
 simp
 refine lwp_drawN (fun _ : Unit => [(0, .ptr 0 0)]) (fun _ => [some [.view 4 1 0 1 false], some (trC [e])]) (fun _ => True) ?_ (fun _ _ => ?_)
 ·simp [lot_done, lot_none, lot_alts, stableO, -List.all_eq_true]
  refine ⟨⟨?_, ?_⟩, ?_⟩ <;> exact ⟨(), trivial, [0, 3], by simp [trC_one, setCells_toL]⟩
 ·simp [h2, h1]
  exact exitK_of [0, 1] _ _ ⟨rfl, rfl⟩ (by simp) (by simp) (by simp) (by simp) (.inr (by simp))
theorem bit_own {P : Program} {f same : Nat} (ir : compFS selBit P f = some (irBitT same)) {l : List T} {e : T} (hl : l.length ≤ 1000) (hne : l ≠ []) (isame : ∀ x ∈ l, PC P same [x.toL, e.toL] (boolL (x.same e))) :
  callAt P f [.ptr 0 0, e.toL] [some [.view 4 1 0 l.length false], some (trC l)] (fun r R => r = u64B (oneB (bitF l e).1) ∧ R = [some [.view 4 2 0 (bitF l e).2.length false], none, some (trC (bitF l e).2)]) := by
 have hpos : 0 < l.length := List.length_pos_iff.2 hne
 refine callAt_exitK (callAt_enterS ir (by simp [irBitT]) ?_)
 simp [irBitT]
 refine lwp_loop (fun i : Nat => [(0, .ptr 0 0), (3, .ptr 2 0), (10, .view 4 1 0 l.length false), (11, intL l.length), (12, intL i)]) (fun _ => [some [.view 4 1 0 l.length false], some (trC l), some e.toL.cells]) (fun i => l.length - i)
  (fun i => i ≤ l.length ∧ ∀ x ∈ l.take i, x.same e = false) 0 ⟨by simp, by simp⟩ ⟨[0, 1, 2], by simp⟩ ?_
 rintro i ⟨hi, hno⟩
 by_cases h : i < l.length
 ·have hw : IntKind.i64.wrap ((i : Int) + 1) = ((i + 1 : Nat) : Int) := wrap_id (by omega) (by omega)
  have hat := trC_at h
  have hle : i * 4 + 4 ≤ l.length * 4 := by omega
  simp [h, hat, hle, setCells_toL, toL_agg]
  refine callT_closed (isame l[i] (List.getElem_mem h)) (by simp [reso_toL, mapO]) ?_
  cases hs : l[i].same e
  ·simp [hw]
   refine ⟨i + 1, ⟨by omega, fun x hx => ?_⟩, by simp only; omega, [0, 1, 2], by simp⟩
   rw [List.take_succ_eq_append_getElem h] at hx
   rcases List.mem_append.1 hx with hx | hx
   ·exact hno x hx
   ·rw [List.mem_singleton.1 hx]; exact hs
  ·have hidx : l.findIdx (fun x => x.same e) = i := by
    rw [List.findIdx_eq h]
    refine ⟨hs, fun j hj => ?_⟩
    have hj' : j < (l.take i).length := by simp; omega
    have := hno _ (List.getElem_mem hj')
    simpa using this
   have hb : bitF l e = (i, l) := by unfold bitF; rw [hidx, if_pos h]
   simp [shlB]
   refine exitK_of [0, 1, 1] _ _ ⟨rfl, rfl⟩ ?_ ?_ ?_ ?_ ?_ <;> simp [hb]
 ·obtain rfl : i = l.length := by omega
  rw [List.take_length] at hno
  have hidx : ¬ (l.findIdx (fun x => x.same e) < l.length) := fun hlt => by
   have := List.findIdx_getElem (w := hlt)
   rw [hno _ (List.getElem_mem hlt)] at this
   simp at this
  have hb : bitF l e = (l.length, l ++ [e]) := by unfold bitF; rw [if_neg hidx]
  have hsz : (l.length * 4 + 4) * 48 ≤ 70368744177664 := by omega
  have hw : IntKind.i64.wrap (l.length : Int) = ((l.length : Nat) : Int) := wrap_id (by omega) (by omega)
  simp
  refine lwp_drawN (fun _ : Unit => [(0, .ptr 0 0)]) (fun _ => [some [.view 4 2 0 (l.length + 1) false], none, some (trC (l ++ [e]))]) (fun _ => True) ?_ (fun _ _ => ?_)
  ·simp [lot_done, lot_none, lot_alts, stableO, -List.all_eq_true, hsz, toL_agg, trC_set]
   refine ⟨⟨⟨by omega, ?_⟩, by omega, ?_⟩, by omega, ?_⟩ <;> exact ⟨(), trivial, [0, 1, 4], by simp [trC_append, trC_one]⟩
  ·simp [hw, shlB]
   refine exitK_of [0, 1, 2] _ _ ⟨rfl, rfl⟩ ?_ ?_ ?_ ?_ ?_ <;> simp [hb]
end Lg


/- What is to be is split: what the program does. -/
namespace Lg
open Go
def irSpH : IR := (.block 2 (.seq (.ops [⟨some 94,.bin .eql false (.t 92) (.c (.v (.int .i64 16))),none⟩,⟨some 93,.mov (.t 94),none⟩]) (.cond (.t 93) (.ops [⟨some 95,.load 1 false (.t 5),none⟩,⟨some 96,.mov (.t 0),none⟩,⟨some 97,.mov (.t 11),none⟩,⟨some 98,.bin .or false (.t 96) (.t 97),none⟩,⟨some 99,.mov (.t 12),none⟩,⟨some 100,.bin .or false (.t 98) (.t 99),none⟩,⟨some 101,.load 2 true (.t 7),none⟩,⟨some 102,.calld (.t 95) [(.t 100),(.t 101)],none⟩]) (.seq (.ops [⟨some 104,.bin .eql false (.t 92) (.c (.v (.int .i64 17))),none⟩,⟨some 103,.mov (.t 104),none⟩]) (.cond (.t 103) (.seq (.ops [⟨some 105,.load 1 false (.t 5),none⟩,⟨some 106,.mov (.t 0),none⟩,⟨some 107,.mov (.t 11),none⟩,⟨some 108,.bin .or false (.t 106) (.t 107),none⟩,⟨some 109,.load 2 true (.t 7),none⟩,⟨some 110,.calld (.t 105) [(.t 108),(.t 109)],none⟩]) (.ops [⟨some 111,.load 1 false (.t 5),none⟩,⟨some 112,.mov (.t 0),none⟩,⟨some 113,.mov (.t 12),none⟩,⟨some 114,.bin .or false (.t 112) (.t 113),none⟩,⟨some 115,.load 2 true (.t 7),none⟩,⟨some 116,.calld (.t 111) [(.t 114),(.t 115)],none⟩])) (.seq (.ops [⟨some 118,.bin .eql false (.t 92) (.c (.v (.int .i64 23))),none⟩,⟨some 117,.mov (.t 118),none⟩]) (.cond (.t 117) (.seq (.ops [⟨some 119,.load 1 false (.t 5),none⟩,⟨some 120,.mov (.t 0),none⟩,⟨some 121,.mov (.t 12),none⟩,⟨some 122,.bin .or false (.t 120) (.t 121),none⟩,⟨some 123,.load 2 true (.t 7),none⟩,⟨some 124,.calld (.t 119) [(.t 122),(.t 123)],none⟩]) (.ops [⟨some 125,.load 1 false (.t 5),none⟩,⟨some 126,.mov (.t 0),none⟩,⟨some 127,.mov (.t 11),none⟩,⟨some 128,.bin .or false (.t 126) (.t 127),none⟩,⟨some 129,.load 2 true (.t 13),none⟩,⟨some 130,.calld (.t 125) [(.t 128),(.t 129)],none⟩])) (.seq (.ops [⟨some 132,.bin .eql false (.t 92) (.c (.v (.int .i64 24))),none⟩,⟨some 131,.mov (.t 132),none⟩]) (.cond (.t 131) (.seq (.ops [⟨some 133,.load 1 false (.t 5),none⟩,⟨some 134,.mov (.t 0),none⟩,⟨some 135,.mov (.t 11),none⟩,⟨some 136,.bin .or false (.t 134) (.t 135),none⟩,⟨some 137,.mov (.t 12),none⟩,⟨some 138,.bin .or false (.t 136) (.t 137),none⟩,⟨some 139,.load 2 true (.t 7),none⟩,⟨some 140,.calld (.t 133) [(.t 138),(.t 139)],none⟩]) (.ops [⟨some 141,.load 1 false (.t 5),none⟩,⟨some 142,.mov (.t 0),none⟩,⟨some 143,.mov (.t 12),none⟩,⟨some 144,.bin .or false (.t 142) (.t 143),none⟩,⟨some 145,.load 2 true (.t 13),none⟩,⟨some 146,.calld (.t 141) [(.t 144),(.t 145)],none⟩])) .skip)))))))))
def irSpG : IR := (.seq (.ops [⟨some 84,.faddr 0 (.t 7),none⟩,⟨some 85,.load 1 false (.t 84),none⟩,⟨some 86,.faddr 1 (.t 7),none⟩,⟨some 87,.load 1 false (.t 86),none⟩,⟨some 88,.mov (.t 10),none⟩,⟨some 89,.bin .or false (.t 87) (.t 88),none⟩,⟨some 90,.build [(.v (.int .u64 0)),(.v (.int .u64 0))] [(0,1,(.t 85)),(1,1,(.t 89))],none⟩,⟨some 13,.alloc (.agg [(.v (.int .u64 0)),(.v (.int .u64 0))]),none⟩,⟨none,.store 2 (.t 13) (.t 90),none⟩]) (.seq (.ops [⟨some 91,.faddr 0 (.t 9),none⟩,⟨some 92,.load 1 false (.t 91),none⟩]) irSpH))
def irSpF (bit : Nat) : IR := (.seq (.drawN [⟨some 78, .load 1 false (.t 4), none⟩,
  ⟨some 79, .faddr 3 (.t 9), none⟩,
  ⟨some 80, .load 1 false (.t 79), none⟩,
  ⟨some 81, .iaddr 4 (.t 80) (.c (.v (.int .i64 1))), none⟩,
  ⟨some 82, .load 4 true (.t 81), none⟩]
  (.alt ⟨some 83, .call bit [(.t 78), (.t 82)], none⟩ (.alt ⟨some 12, .mov (.t 83), none⟩ .done
  .none)
  .none))
 irSpG)
def irSpD (bit : Nat) : IR := (.seq (.drawN [⟨some 60,.load 1 false (.t 4),none⟩,⟨some 61,.faddr 3 (.t 9),none⟩,⟨some 62,.load 1 false (.t 61),none⟩,⟨some 63,.iaddr 4 (.t 62) (.c (.v (.int .i64 0))),none⟩,⟨some 64,.load 4 true (.t 63),none⟩] (.alt ⟨some 65,.call bit [(.t 60),(.t 64)],none⟩ (.alt ⟨some 11,.mov (.t 65),none⟩ .done .none) .none)) (.seq (.seq (.ops [⟨some 66,.faddr 0 (.t 9),none⟩,⟨some 67,.load 1 false (.t 66),none⟩,⟨some 68,.bin .eql false (.t 67) (.c (.v (.int .i64 20))),none⟩]) (.cond (.t 68) (.seq (.ops [⟨some 69,.faddr 1 (.t 7),none⟩,⟨some 70,.load 1 false (.t 69),none⟩,⟨some 71,.mov (.t 11),none⟩,⟨some 72,.bin .or false (.t 70) (.t 71),none⟩,⟨some 73,.faddr 1 (.t 7),none⟩,⟨none,.store 1 (.t 73) (.t 72),none⟩]) (.seq (.ops [⟨some 74,.load 1 false (.t 5),none⟩,⟨some 75,.mov (.t 0),none⟩,⟨some 76,.load 2 true (.t 7),none⟩,⟨some 77,.calld (.t 74) [(.t 75),(.t 76)],none⟩]) .ret)) .skip)) (irSpF bit)))
def irSpC (lit bit : Nat) : IR := (.seq (.seq (.ops [⟨some 54,.load 4 true (.t 9),none⟩,⟨some 55,.call lit [(.t 54)],none⟩]) (.cond (.t 55) (.seq (.ops [⟨some 56,.load 1 false (.t 5),none⟩,⟨some 57,.mov (.t 0),none⟩,⟨some 58,.load 2 true (.t 7),none⟩,⟨some 59,.calld (.t 56) [(.t 57),(.t 58)],none⟩]) .ret) .skip)) (irSpD bit))
def irSpB (lit bit : Nat) : IR := (.seq (.ops [⟨some 8,.mov (.c (.v (.int .i64 0))),none⟩]) (.seq (.block 0 (.loop (.seq (.seq (.ops [⟨some 30,.mov (.t 0),none⟩,⟨some 31,.mov (.t 8),none⟩,⟨some 32,.bin .shl false (.c (.v (.int .u64 1))) (.t 31),none⟩,⟨some 33,.bin .and false (.t 30) (.t 32),none⟩,⟨some 34,.bin .eql false (.t 33) (.c (.v (.int .u64 0))),none⟩]) (.cond (.t 34) .skip (.exit 0))) (.block 1 (.ops [⟨some 35,.mov (.t 8),none⟩,⟨some 36,.bin .add false (.t 35) (.c (.v (.int .i64 1))),none⟩,⟨some 8,.mov (.t 36),none⟩]))))) (.seq (.draw [[⟨some 37,.load 1 false (.t 4),none⟩,⟨some 38,.nilchk (.t 37),none⟩,⟨some 39,.faddr 0 (.t 38),none⟩,⟨some 40,.load 1 false (.t 39),none⟩,⟨some 41,.mov (.t 8),none⟩,⟨some 42,.iaddr 4 (.t 40) (.t 41),none⟩,⟨some 43,.load 4 true (.t 42),none⟩,⟨some 44,.mov (.t 8),none⟩,⟨some 45,.bin .shl false (.c (.v (.int .u64 1))) (.t 44),none⟩,⟨some 9,.alloc (.agg [(.v (.int .i64 0)),(.v (.int .i64 0)),(.v (.int .i64 0)),(.v (.slice none 0 0))]),none⟩,⟨none,.store 4 (.t 9) (.t 43),none⟩],[⟨some 10,.mov (.t 45),none⟩]]) (.seq (.ops [⟨some 46,.mov (.t 0),none⟩,⟨some 47,.mov (.t 10),none⟩,⟨some 48,.bin .andNot false (.t 46) (.t 47),none⟩,⟨some 0,.mov (.t 48),none⟩]) (.seq (.ops [⟨some 49,.faddr 0 (.t 7),none⟩,⟨some 50,.load 1 false (.t 49),none⟩,⟨some 51,.mov (.t 10),none⟩,⟨some 52,.bin .or false (.t 50) (.t 51),none⟩,⟨some 53,.faddr 0 (.t 7),none⟩,⟨none,.store 1 (.t 53) (.t 52),none⟩]) (irSpC lit bit))))))
def irSpA (lit bit : Nat) : IR := (.seq (.ops [⟨some 7,.box (.t 1),none⟩]) (.seq (.ops [⟨some 14,.mov (.t 0),none⟩,⟨some 15,.faddr 0 (.t 7),none⟩,⟨some 16,.load 1 false (.t 15),none⟩,⟨some 17,.bin .andNot false (.t 14) (.t 16),none⟩,⟨some 0,.mov (.t 17),none⟩]) (.seq (.seq (.ops [⟨some 18,.mov (.t 0),none⟩,⟨some 19,.bin .eql false (.t 18) (.c (.v (.int .u64 0))),none⟩]) (.cond (.t 19) (.seq (.seq (.ops [⟨some 20,.load 1 false (.t 2),none⟩,⟨some 21,.load 2 true (.t 7),none⟩,⟨some 22,.mget (.p .u64) false (.bool false) (.t 20) (.t 21),none⟩,⟨some 23,.un .not (.t 22),none⟩]) (.cond (.t 23) (.seq (.ops [⟨some 24,.load 1 false (.t 2),none⟩,⟨some 25,.load 2 true (.t 7),none⟩,⟨none,.mset (.p .u64) (.t 24) (.t 25) (.c (.v (.bool true))),none⟩]) (.ops [⟨some 26,.load 1 false (.t 3),none⟩,⟨some 27,.load 2 true (.t 7),none⟩,⟨some 28,.bslice 2 [(.v (.int .u64 0)),(.v (.int .u64 0))] 1 [(0,2,(.t 27))],none⟩,⟨some 29,.append 2 16 [(.v (.int .u64 0)),(.v (.int .u64 0))] (.t 26) (.t 28),none⟩,⟨none,.store 1 (.t 3) (.t 29),none⟩])) .skip)) .ret) .skip)) (irSpB lit bit))))
theorem irSplit_eq (lit bit : Nat) : irSplit lit bit = ⟨147, [], irSpA lit bit⟩ := rfl
def splB (split : Nat) (l : List T) (out : List Nd) : Heap := [some [.mref 4], some [prE 7 (out.map ndI)], some [.ptr 5 0], some [.fn (.func split) [] [.ptr 0 0, .ptr 1 0, .ptr 2 0, .ptr 3 0]], some [.mp (.p .u64) (onM .u64 (out.map ndI))], some [.view 4 6 0 l.length false], some (trC l)]
def splH (split : Nat) (l : List T) (out : List Nd) : Heap := splB split l out ++ prH .u64 (out.map ndI)
def splR (split m : Nat) (l : List T) (out : List Nd) : Heap := [some [.mref 4], some [prE (m + 1) (out.map ndI)], some [.ptr 5 0], some [.fn (.func split) [] [.ptr 0 0, .ptr 1 0, .ptr 2 0, .ptr 3 0]], some [.mp (.p .u64) (onM .u64 (out.map ndI))], some [.view 4 m 0 l.length false]] ++ List.replicate (m - 6) none ++ [some (trC l)] ++ prH .u64 (out.map ndI)
def splM (out : List Nd) : Nat := if out = [] then 7 else 8
theorem sp_head {P : Program} {lit bit split : Nat} {S l : List T} {out : List Nd} {todo : BV} {n : Nd} {k : Nat} {used : List Nat} (hS : Parts S) (h : SplOk S (k + 1) todo n l used) (hz : todo &&& ~~~n.1 ≠ 0#64) (hp : PickOk S todo n l (lowB (todo &&& ~~~n.1)))
  {Q : X → Env → Heap → Prop} {E : Env} (e0 : lk E 0 = u64B (todo &&& ~~~n.1)) (e2 : lk E 2 = .ptr 0 0) (e3 : lk E 3 = .ptr 1 0) (e4 : lk E 4 = .ptr 2 0) (e5 : lk E 5 = .ptr 3 0) (e7 : lk E 7 = .ptr (splM out) 0)
  (hQ : ∀ E', lk E' 0 = u64B (restB todo n) → lk E' 2 = .ptr 0 0 → lk E' 3 = .ptr 1 0 → lk E' 4 = .ptr 2 0 → lk E' 5 = .ptr 3 0 → lk E' 7 = .ptr (splM out) 0 → lk E' 9 = .ptr (splM out + 1) 0 → lk E' 10 = u64B (pickB todo n) →
   lwp P (splM out) (irSpC lit bit) Q E' (splH split l out ++ [some [u64B (n.1 ||| pickB todo n), u64B n.2], some (pickT todo n l).toL.cells])) :
  lwp P (splM out) (irSpB lit bit) Q E (splH split l out ++ [some [u64B n.1, u64B n.2]]) := by
 obtain ⟨i, hi⟩ : ∃ i, i = lowB (todo &&& ~~~n.1) := ⟨_, rfl⟩
 obtain ⟨l1, l2, l3⟩ := lowB_spec hz
 rw [← hi] at hp l1 l2 l3
 have hlt := hp.lt
 have hat := trC_at hlt
 have hle : i * 4 + 4 ≤ l.length * 4 := by omega
 have hll : l.length ≤ 9 := Nat.le_trans h.tab.len hS.len
 have hpick : pickT todo n l = l[i] := by unfold pickT; rw [← hi]; simp [List.getD, hlt]
 simp only [pickB, ← hi] at hQ
 rw [hpick] at hQ
 have hrest : restB todo n = (todo &&& ~~~n.1) &&& ~~~oneB i := by unfold restB; rw [← hi]
 rw [hrest] at hQ
 obtain ⟨td, htd⟩ : ∃ td, td = todo &&& ~~~n.1 := ⟨_, rfl⟩
 rw [← htd] at e0 l2 l3 hQ
 by_cases ho : out = []
 ·subst ho
  have hpe : prE 7 (([] : List Nd).map ndI) = .v (.slice none 0 0) := rfl
  have hph : prH .u64 (([] : List Nd).map ndI) = [] := rfl
  have hm : splM ([] : List Nd) = 7 := by simp [splM]
  rw [hm] at hQ e7 ⊢
  simp [irSpB, splH, splB]
  refine lwp_loop (fun j : Nat => [(0, u64B td), (2, .ptr 0 0), (3, .ptr 1 0), (4, .ptr 2 0), (5, .ptr 3 0), (7, .ptr 7 0), (8, intL j)]) (fun _ => splH split l ([] : List Nd) ++ [some [u64B n.1, u64B n.2]]) (fun j => i - j) (fun j => j ≤ i) 0 (by simp) ⟨[0, 1, 2, 3, 4, 5, 6, 7], ?_⟩ ?_
  ·simp [e0, e2, e3, e4, e5, e7, splH, splB]
  ·intro j hj
   simp only [splH, splB, hph, hpe]
   have hw : IntKind.i64.wrap ((j : Int) + 1) = ((j + 1 : Nat) : Int) := wrap_id (by omega) (by omega)
   have hb : bitsI .and .u64 (bvI td) (bvI (oneB j)) = 0 ↔ td.getLsbD j = false := by rw [andB, toNat_zero, and_oneB (by omega)]
   by_cases hji : j < i
   ·have hz0 := hb.2 (l3 j hji)
    simp [shlB, hz0, hw]
    refine ⟨j + 1, by omega, by simp only; omega, [0, 1, 2, 3, 4, 5, 6, 7], ?_⟩
    simp []
   ·obtain rfl : j = i := by omega
    have hz0 : ¬ bitsI .and .u64 (bvI td) (bvI (oneB j)) = 0 := fun e => by rw [hb.1 e] at l2; simp at l2
    simp [shlB, hz0, hlt, hat, hle, toL_agg, setCells_toL, andNotB, orB]
    simp [splH, splB] at hQ
    refine hQ _ ?_ ?_ ?_ ?_ ?_ ?_ ?_ ?_ <;> simp
 ·have hpe : prE 7 (out.map ndI) = .view 2 7 0 out.length false := by rw [prE_ne (by simpa using ho)]; simp
  have hph : prH .u64 (out.map ndI) = [some (prC .u64 (out.map ndI))] := prH_ne (by simpa using ho)
  have hpo : out.length ≠ 0 := by simpa using ho
  have hm : splM out = 8 := by simp [splM, ho]
  rw [hm] at hQ e7 ⊢
  simp [irSpB, splH, splB, hpe, hph]
  refine lwp_loop (fun j : Nat => [(0, u64B td), (2, .ptr 0 0), (3, .ptr 1 0), (4, .ptr 2 0), (5, .ptr 3 0), (7, .ptr 8 0), (8, intL j)]) (fun _ => splH split l out ++ [some [u64B n.1, u64B n.2]]) (fun j => i - j) (fun j => j ≤ i) 0 (by simp) ⟨[0, 1, 2, 3, 4, 5, 6, 7, 8], ?_⟩ ?_
  ·simp [e0, e2, e3, e4, e5, e7, splH, splB, hpe, hph]
  ·intro j hj
   simp only [splH, splB, hph, hpe]
   have hw : IntKind.i64.wrap ((j : Int) + 1) = ((j + 1 : Nat) : Int) := wrap_id (by omega) (by omega)
   have hb : bitsI .and .u64 (bvI td) (bvI (oneB j)) = 0 ↔ td.getLsbD j = false := by rw [andB, toNat_zero, and_oneB (by omega)]
   by_cases hji : j < i
   ·have hz0 := hb.2 (l3 j hji)
    simp [shlB, hz0, hw]
    refine ⟨j + 1, by omega, by simp only; omega, [0, 1, 2, 3, 4, 5, 6, 7, 8], ?_⟩
    simp []
   ·obtain rfl : j = i := by omega
    have hz0 : ¬ bitsI .and .u64 (bvI td) (bvI (oneB j)) = 0 := fun e => by rw [hb.1 e] at l2; simp at l2
    simp [shlB, hz0, hlt, hat, hle, toL_agg, setCells_toL, andNotB, orB]
    simp [splH, splB, hpe, hph] at hQ
    refine hQ _ ?_ ?_ ?_ ?_ ?_ ?_ ?_ ?_ <;> simp
theorem split_enter {P : Program} {lit bit split : Nat} (ir : compFS selSplit P split = some (irSplit lit bit)) {S l : List T} {out : List Nd} {todo : BV} {n : Nd} {k : Nat} {used : List Nat} (hS : Parts S) (h : SplOk S (k + 1) todo n l used) (hz : todo &&& ~~~n.1 ≠ 0#64) (hp : PickOk S todo n l (lowB (todo &&& ~~~n.1)))
  {K : L → Heap → Prop} (hQ : ∀ E', lk E' 0 = u64B (restB todo n) → lk E' 2 = .ptr 0 0 → lk E' 3 = .ptr 1 0 → lk E' 4 = .ptr 2 0 → lk E' 5 = .ptr 3 0 → lk E' 7 = .ptr (splM out) 0 → lk E' 9 = .ptr (splM out + 1) 0 → lk E' 10 = u64B (pickB todo n) →
   lwp P (splM out) (irSpC lit bit) (fnPost [] (exitK (splM out) K)) E' (splH split l out ++ [some [u64B (n.1 ||| pickB todo n), u64B n.2], some (pickT todo n l).toL.cells])) :
  callAt P split [u64B todo, prL .u64 (ndI n), .ptr 0 0, .ptr 1 0, .ptr 2 0, .ptr 3 0] (splH split l out) K := by
 have hlen : (splH split l out).length = splM out := by
  unfold splH splM prH splB
  by_cases ho : out = [] <;> simp [ho]
 have hz0 : ¬ bvI (todo &&& ~~~n.1) = 0 := fun e => hz (toNat_zero.1 e)
 refine callAt_exitK (callAt_enterS ir (by rw [irSplit_eq]; simp) ?_)
 rw [hlen]
 rw [irSplit_eq]
 simp only [irSpA]
 by_cases ho : out = []
 ·subst ho
  have hpe : prE 7 (([] : List Nd).map ndI) = .v (.slice none 0 0) := rfl
  have hph : prH .u64 (([] : List Nd).map ndI) = [] := rfl
  have hm : splM ([] : List Nd) = 7 := by simp [splM]
  have hd := fun E : Env => sp_head (P := P) (lit := lit) (bit := bit) (split := split) (out := ([] : List Nd)) hS h hz hp (Q := fnPost [] (exitK (splM ([] : List Nd)) K)) (E := E)
  rw [hm] at hQ hd ⊢
  simp [splH, splB] at hd hQ
  simp [splH, splB, andNotB, hz0]
  refine hd _ ?_ ?_ ?_ ?_ ?_ ?_ hQ <;> simp
 ·have hpe : prE 7 (out.map ndI) = .view 2 7 0 out.length false := by rw [prE_ne (by simpa using ho)]; simp
  have hph : prH .u64 (out.map ndI) = [some (prC .u64 (out.map ndI))] := prH_ne (by simpa using ho)
  have hpo : out.length ≠ 0 := by simpa using ho
  have hm : splM out = 8 := by simp [splM, ho]
  have hd := fun E : Env => sp_head (P := P) (lit := lit) (bit := bit) (split := split) (out := out) hS h hz hp (Q := fnPost [] (exitK (splM out) K)) (E := E)
  rw [hm] at hQ hd ⊢
  simp [splH, splB, hpe, hph] at hd hQ
  simp [splH, splB, hpe, hph, andNotB, hz0]
  refine hd _ ?_ ?_ ?_ ?_ ?_ ?_ hQ <;> simp
def splK (split m : Nat) (r : List T × List Nd) (_ : L) (R : Heap) : Prop := R = splR split m r.1 r.2
def splX (split m : Nat) (l : List T) (out : List Nd) (rest : Heap) : Heap := [some [.mref 4], some [.view 2 (m + 1) 0 out.length false], some [.ptr 5 0], some [.fn (.func split) [] [.ptr 0 0, .ptr 1 0, .ptr 2 0, .ptr 3 0]], some [.mp (.p .u64) (onM .u64 (out.map ndI))], some [.view 4 m 0 l.length false]] ++ (rest ++ [some (trC l), some (prC .u64 (out.map ndI))])
theorem splR7 {split : Nat} {l : List T} {out : List Nd} (ho : out ≠ []) : splR split 7 l out = splX split 7 l out [none] := by
 have h : out.map ndI ≠ [] := by simpa using ho
 unfold splR splX
 rw [prE_ne h, prH_ne h]; simp
theorem splR8 {split : Nat} {l : List T} {out : List Nd} (ho : out ≠ []) : splR split 8 l out = splX split 8 l out [none, none] := by
 have h : out.map ndI ≠ [] := by simpa using ho
 unfold splR splX
 rw [prE_ne h, prH_ne h]; simp [List.replicate_succ]
theorem splK7 {split : Nat} {r : List T × List Nd} {x : L} (h : r.2 ≠ []) : splK split 7 r x (splX split 7 r.1 r.2 [none]) := (splR7 h).symm
theorem splK8 {split : Nat} {r : List T × List Nd} {x : L} (h : r.2 ≠ []) : splK split 8 r x (splX split 8 r.1 r.2 [none, none]) := (splR8 h).symm
abbrev splA (todo : BV) (n : Nd) : List L := [u64B todo, prL .u64 (ndI n), .ptr 0 0, .ptr 1 0, .ptr 2 0, .ptr 3 0]
theorem split_done {P : Program} {lit bit split : Nat} (ir : compFS selSplit P split = some (irSplit lit bit)) {l : List T} {out : List Nd} {todo : BV} {n : Nd} (hz : todo &&& ~~~n.1 = 0#64) (hlen : out.length ≤ 100000) :
  callAt P split (splA todo n) (splH split l out) (splK split (splM out) (l, if n ∈ out then out else out ++ [n])) := by
 have hlen2 : (splH split l out).length = splM out := by
  unfold splH splM prH splB
  by_cases ho : out = [] <;> simp [ho]
 have hz0 : bvI (todo &&& ~~~n.1) = 0 := toNat_zero.2 hz
 have look := look_onM (k := .u64) (p := ndI n) (D := out.map ndI)
 have hput := put_onM (k := .u64) (p := ndI n) (D := out.map ndI)
 simp only [ndI_mem] at look hput
 refine callAt_exitK (callAt_enterS ir (by rw [irSplit_eq]; simp) ?_)
 rw [hlen2]
 rw [irSplit_eq]
 simp only [irSpA]
 by_cases ho : out = []
 ·subst ho
  have hpe : prE 7 (([] : List Nd).map ndI) = .v (.slice none 0 0) := rfl
  have hph : prH .u64 (([] : List Nd).map ndI) = [] := rfl
  have hm : splM ([] : List Nd) = 7 := by simp [splM]
  rw [hm]
  simp only [List.map_nil, List.nil_append] at look hput
  by_cases hin : n ∈ ([] : List Nd)
  ·rw [if_pos hin] at look
   rw [if_pos hin]
   simp [splH, splB, andNotB, hz0, look]
   first
   | (simp at hin; done)
   | (refine exitK_of [0, 1, 2, 3, 4, 5, 6, 6] .any _ (splK7 (r := (l, ([] : List Nd))) (List.ne_nil_of_mem hin)) ?_ ?_ ?_ ?_ (.inl rfl) <;> simp [splX])
  ·rw [if_neg hin] at look hput
   rw [if_neg hin]
   simp [splH, splB, andNotB, hz0, look, hput]
   refine exitK_of [0, 1, 2, 3, 4, 5, 6, 6, 9] .any _ (splK7 (r := (l, ([] : List Nd) ++ [n])) (by simp)) ?_ ?_ ?_ ?_ (.inl rfl) <;> simp [splX, prC_one]
 ·have hpe : prE 7 (out.map ndI) = .view 2 7 0 out.length false := by rw [prE_ne (by simpa using ho)]; simp
  have hph : prH .u64 (out.map ndI) = [some (prC .u64 (out.map ndI))] := prH_ne (by simpa using ho)
  have hpo : out.length ≠ 0 := by simpa using ho
  have hm : splM out = 8 := by simp [splM, ho]
  rw [hm]
  by_cases hin : n ∈ out
  ·rw [if_pos hin] at look
   rw [if_pos hin]
   simp [splH, splB, hpe, hph, andNotB, hz0, look]
   first
   | (simp at hin; done)
   | (refine exitK_of [0, 1, 2, 3, 4, 5, 6, 7, 6, 7] .any _ (splK8 (r := (l, out)) (List.ne_nil_of_mem hin)) ?_ ?_ ?_ ?_ (.inl rfl) <;> simp [splX])
  ·rw [if_neg hin] at look hput
   rw [if_neg hin]
   simp [splH, splB, hpe, hph, andNotB, hz0, look, hput]
   refine ⟨by omega, ?_⟩
   refine exitK_of [0, 1, 2, 3, 4, 5, 6, 7, 6, 10] .any _ (splK8 (r := (l, out ++ [n])) (by simp)) ?_ ?_ ?_ ?_ (.inl rfl) <;> simp [splX, prC_append, prC_one]
theorem split_lit {P : Program} {lit bit split : Nat} (ir : compFS selSplit P split = some (irSplit lit bit)) {S l : List T} {out : List Nd} {todo : BV} {n : Nd} {k : Nat} {used : List Nat} (hS : Parts S) (h : SplOk S (k + 1) todo n l used) (hz : todo &&& ~~~n.1 ≠ 0#64) (hp : PickOk S todo n l (lowB (todo &&& ~~~n.1)))
  (hlit : PC P lit [(pickT todo n l).toL] (boolL true)) {r : List T × List Nd} (hr : r.2 ≠ []) (ih : callAt P split (splA (restB todo n) (pickN todo n)) (splH split l out) (splK split (splM out) r)) :
  callAt P split (splA todo n) (splH split l out) (splK split (splM out) r) := by
 refine split_enter ir hS h hz hp fun E e0 e2 e3 e4 e5 e7 e9 e10 => ?_
 by_cases ho : out = []
 ·subst ho
  have hpe : prE 7 (([] : List Nd).map ndI) = .v (.slice none 0 0) := rfl
  have hph : prH .u64 (([] : List Nd).map ndI) = [] := rfl
  have hm : splM ([] : List Nd) = 7 := by simp [splM]
  rw [hm] at ih e7 e9 ⊢
  simp [irSpC, splH, splB, e9, toL_agg]
  refine callT_plain hlit rfl (by simp [mapO, reso_toL]) ?_
  simp [e0, e5, e7]
  refine callT_frame [0, 1, 2, 3, 4, 5, 6] ih (by simp) (by simp [splH, splB]) (by simp [splH, splB]) (by simp) (by simp [splH, splB]) ?_
  intro _ R hR
  obtain rfl : R = splX split 7 r.1 r.2 [none] := hR.trans (splR7 hr)
  simp [mergeH, setRows, upN, splX]
  refine exitK_of [0, 1, 2, 3, 4, 5, 6, 9, 10] .any _ (splK7 hr) ?_ ?_ ?_ ?_ (.inl rfl) <;> simp [splX]
 ·have hpe : prE 7 (out.map ndI) = .view 2 7 0 out.length false := by rw [prE_ne (by simpa using ho)]; simp
  have hph : prH .u64 (out.map ndI) = [some (prC .u64 (out.map ndI))] := prH_ne (by simpa using ho)
  have hpo : out.length ≠ 0 := by simpa using ho
  have hm : splM out = 8 := by simp [splM, ho]
  rw [hm] at ih e7 e9 ⊢
  simp [irSpC, splH, splB, hpe, hph, e9, toL_agg]
  refine callT_plain hlit rfl (by simp [mapO, reso_toL]) ?_
  simp [e0, e5, e7]
  refine callT_frame [0, 1, 2, 3, 4, 5, 6, 7] ih (by simp) (by simp [splH, splB, hpe, hph]) (by simp [splH, splB, hpe, hph]) (by simp) (by simp [splH, splB, hpe, hph]) ?_
  intro _ R hR
  obtain rfl : R = splX split 8 r.1 r.2 [none, none] := hR.trans (splR8 hr)
  simp [mergeH, setRows, upN, splX]
  refine exitK_of [0, 1, 2, 3, 4, 5, 6, 7, 10, 11] .any _ (splK8 hr) ?_ ?_ ?_ ?_ (.inl rfl) <;> simp [splX]
def bitK (l1 : List T) (j : Nat) (r : L) (R : Heap) : Prop := r = u64B (oneB j) ∧ R = [some [.view 4 2 0 l1.length false], none, some (trC l1)]
theorem split_next {P : Program} {lit bit split : Nat} (ir : compFS selSplit P split = some (irSplit lit bit)) {S l : List T} {out : List Nd} {todo : BV} {n : Nd} {k : Nat} {used : List Nat} (hS : Parts S) (h : SplOk S (k + 1) todo n l used) (hz : todo &&& ~~~n.1 ≠ 0#64) (hp : PickOk S todo n l (lowB (todo &&& ~~~n.1)))
  (hlit : PC P lit [(pickT todo n l).toL] (boolL false)) {x : T} (hop : (pickT todo n l).op = 20) (hk : (pickT todo n l).l = [x]) {l1 : List T} {jx : Nat} (hx : callAt P bit [.ptr 0 0, x.toL] [some [.view 4 1 0 l.length false], some (trC l)] (bitK l1 jx))
  {r : List T × List Nd} (hr : r.2 ≠ []) (ih : callAt P split (splA (restB todo n) ((pickN todo n).1, (pickN todo n).2 ||| oneB jx)) (splH split l1 out) (splK split (splM out) r)) :
  callAt P split (splA todo n) (splH split l out) (splK split (splM out) r) := by
 obtain ⟨e, he⟩ : ∃ e, e = pickT todo n l := ⟨_, rfl⟩
 obtain ⟨b, c, hcells⟩ : ∃ b c, e.toL.cells = [intL 20, intL b, intL c, .sl 4 false [x.toL]] := by
  rw [← he] at hop hk
  obtain ⟨o, b, c, ks⟩ := e
  simp only [T.op] at hop
  simp only [T.l] at hk
  exact ⟨b, c, by rw [toL_mk, hop, hk]; rfl⟩
 refine split_enter ir hS h hz hp fun E e0 e2 e3 e4 e5 e7 e9 e10 => ?_
 rw [← he] at hlit ⊢
 by_cases ho : out = []
 ·subst ho
  have hpe : prE 7 (([] : List Nd).map ndI) = .v (.slice none 0 0) := rfl
  have hph : prH .u64 (([] : List Nd).map ndI) = [] := rfl
  have hm : splM ([] : List Nd) = 7 := by simp [splM]
  rw [hm] at ih e7 e9 ⊢
  simp [irSpC, splH, splB, e9, toL_agg]
  refine callT_plain hlit rfl (by simp [mapO, reso_toL]) ?_
  simp [irSpD]
  refine lwp_drawN1' ?_
  simp [e4, e9, hcells, toL_agg]
  refine callT_frame [5, 6] hx (by simp) (by simp) (by simp) (by simp) (by simp) ?_
  rintro _ _ ⟨rfl, rfl⟩
  simp [mergeH, setRows, upN, e0, e4, e5, e7, e9, toL_agg, orB]
  refine callT_frame [0, 1, 2, 3, 4, 5, 9] ih (by simp) (by simp [splH, splB]) (by simp [splH, splB]) (by simp) (by simp [splH, splB]) ?_
  intro _ R hR
  obtain rfl : R = splX split 7 r.1 r.2 [none] := hR.trans (splR7 hr)
  simp [mergeH, setRows, upN, splX]
  refine exitK_of [0, 1, 2, 3, 4, 5, 6, 10, 11] .any _ (splK7 hr) ?_ ?_ ?_ ?_ (.inl rfl) <;> simp [splX]
 ·have hpe : prE 7 (out.map ndI) = .view 2 7 0 out.length false := by rw [prE_ne (by simpa using ho)]; simp
  have hph : prH .u64 (out.map ndI) = [some (prC .u64 (out.map ndI))] := prH_ne (by simpa using ho)
  have hpo : out.length ≠ 0 := by simpa using ho
  have hm : splM out = 8 := by simp [splM, ho]
  rw [hm] at ih e7 e9 ⊢
  simp [irSpC, splH, splB, hpe, hph, e9, toL_agg]
  refine callT_plain hlit rfl (by simp [mapO, reso_toL]) ?_
  simp [irSpD]
  refine lwp_drawN1' ?_
  simp [e4, e9, hcells, toL_agg]
  refine callT_frame [5, 6] hx (by simp) (by simp) (by simp) (by simp) (by simp) ?_
  rintro _ _ ⟨rfl, rfl⟩
  simp [mergeH, setRows, upN, e0, e4, e5, e7, e9, toL_agg, orB]
  refine callT_frame [0, 1, 2, 3, 4, 5, 10, 7] ih (by simp) (by simp [splH, splB, hpe, hph]) (by simp [splH, splB, hpe, hph]) (by simp) (by simp [splH, splB, hpe, hph]) ?_
  intro _ R hR
  obtain rfl : R = splX split 8 r.1 r.2 [none, none] := hR.trans (splR8 hr)
  simp [mergeH, setRows, upN, splX]
  refine exitK_of [0, 1, 2, 3, 4, 5, 6, 7, 11, 12] .any _ (splK8 hr) ?_ ?_ ?_ ?_ (.inl rfl) <;> simp [splX]
def splT (split m : Nat) (l2 : List T) (out : List Nd) (n1 kept : Nd) (ec : List L) (rest : Heap) : Heap := [some [.mref 4], some [prE 7 (out.map ndI)], some [.ptr 5 0], some [.fn (.func split) [] [.ptr 0 0, .ptr 1 0, .ptr 2 0, .ptr 3 0]], some [.mp (.p .u64) (onM .u64 (out.map ndI))], some [.view 4 (m + 3) 0 l2.length false], none] ++ (rest ++ [some [u64B n1.1, u64B n1.2], some ec, none, some (trC l2), some [u64B kept.1, u64B kept.2]])
theorem split_bin {P : Program} {lit bit split : Nat} (ir : compFS selSplit P split = some (irSplit lit bit)) {S l : List T} {out : List Nd} {todo : BV} {n : Nd} {k : Nat} {used : List Nat} (hS : Parts S) (h : SplOk S (k + 1) todo n l used) (hz : todo &&& ~~~n.1 ≠ 0#64) (hp : PickOk S todo n l (lowB (todo &&& ~~~n.1)))
  (hlit : PC P lit [(pickT todo n l).toL] (boolL false)) {x y : T} (hop : (pickT todo n l).op ≠ 20) (hk : (pickT todo n l).l = [x, y]) {l1 l2 : List T} {jx jy : Nat} (hx : callAt P bit [.ptr 0 0, x.toL] [some [.view 4 1 0 l.length false], some (trC l)] (bitK l1 jx))
  (hy : callAt P bit [.ptr 0 0, y.toL] [some [.view 4 1 0 l1.length false], some (trC l1)] (bitK l2 jy)) {K : L → Heap → Prop}
  (hQ : ∀ E ec, lk E 0 = u64B (restB todo n) → lk E 5 = .ptr 3 0 → lk E 7 = .ptr (splM out) 0 → lk E 11 = u64B (oneB jx) → lk E 12 = u64B (oneB jy) → lk E 13 = .ptr (splM out + 4) 0 → lk E 92 = intL (pickT todo n l).op →
   lwp P (splM out) irSpH (fnPost [] (exitK (splM out) K)) E (splT split (splM out) l2 out (pickN todo n) ((pickN todo n).1, n.2 ||| pickB todo n) ec (prH .u64 (out.map ndI)))) :
  callAt P split (splA todo n) (splH split l out) K := by
 obtain ⟨e, he⟩ : ∃ e, e = pickT todo n l := ⟨_, rfl⟩
 rw [← he] at hQ
 obtain ⟨b, c, hcells⟩ : ∃ b c, e.toL.cells = [intL e.op, intL b, intL c, .sl 4 false [x.toL, y.toL]] := by
  rw [← he] at hk
  obtain ⟨o, b, c, ks⟩ := e
  simp only [T.l] at hk
  exact ⟨b, c, by rw [toL_mk, hk]; rfl⟩
 refine split_enter ir hS h hz hp fun E e0 e2 e3 e4 e5 e7 e9 e10 => ?_
 rw [← he] at hlit hop ⊢
 by_cases ho : out = []
 ·subst ho
  have hpe : prE 7 (([] : List Nd).map ndI) = .v (.slice none 0 0) := rfl
  have hph : prH .u64 (([] : List Nd).map ndI) = [] := rfl
  have hm : splM ([] : List Nd) = 7 := by simp [splM]
  rw [hm] at hQ e7 e9 ⊢
  simp [irSpC, splH, splB, e9, toL_agg]
  refine callT_plain hlit rfl (by simp [mapO, reso_toL]) ?_
  simp [irSpD]
  refine lwp_drawN1' ?_
  simp [e4, e9, hcells, toL_agg]
  refine callT_frame [5, 6] hx (by simp) (by simp) (by simp) (by simp) (by simp) ?_
  rintro _ _ ⟨rfl, rfl⟩
  simp [mergeH, setRows, upN, e4, e9, toL_agg, hop, irSpF]
  refine lwp_drawN1' ?_
  simp [e4, e9, toL_agg]
  refine callT_frame [5, 9] hy (by simp) (by simp) (by simp) (by simp) (by simp) ?_
  rintro _ _ ⟨rfl, rfl⟩
  simp [mergeH, setRows, upN, e4, e7, e9, e10, toL_agg, orB, irSpG]
  simp [splT] at hQ
  refine hQ _ _ ?_ ?_ ?_ ?_ ?_ ?_ ?_ <;> simp [e0, e5, e7]
 ·have hpe : prE 7 (out.map ndI) = .view 2 7 0 out.length false := by rw [prE_ne (by simpa using ho)]; simp
  have hph : prH .u64 (out.map ndI) = [some (prC .u64 (out.map ndI))] := prH_ne (by simpa using ho)
  have hpo : out.length ≠ 0 := by simpa using ho
  have hm : splM out = 8 := by simp [splM, ho]
  rw [hm] at hQ e7 e9 ⊢
  simp [irSpC, splH, splB, hpe, hph, e9, toL_agg]
  refine callT_plain hlit rfl (by simp [mapO, reso_toL]) ?_
  simp [irSpD]
  refine lwp_drawN1' ?_
  simp [e4, e9, hcells, toL_agg]
  refine callT_frame [5, 6] hx (by simp) (by simp) (by simp) (by simp) (by simp) ?_
  rintro _ _ ⟨rfl, rfl⟩
  simp [mergeH, setRows, upN, e4, e9, toL_agg, hop, irSpF]
  refine lwp_drawN1' ?_
  simp [e4, e9, toL_agg]
  refine callT_frame [5, 10] hy (by simp) (by simp) (by simp) (by simp) (by simp) ?_
  rintro _ _ ⟨rfl, rfl⟩
  simp [mergeH, setRows, upN, e4, e7, e9, e10, toL_agg, orB, irSpG]
  simp [splT, hpe, hph] at hQ
  refine hQ _ _ ?_ ?_ ?_ ?_ ?_ ?_ ?_ <;> simp [e0, e5, e7]
theorem split_and {P : Program} {lit bit split : Nat} (ir : compFS selSplit P split = some (irSplit lit bit)) {S l : List T} {out : List Nd} {todo : BV} {n : Nd} {k : Nat} {used : List Nat} (hS : Parts S) (h : SplOk S (k + 1) todo n l used) (hz : todo &&& ~~~n.1 ≠ 0#64) (hp : PickOk S todo n l (lowB (todo &&& ~~~n.1)))
  (hlit : PC P lit [(pickT todo n l).toL] (boolL false)) {x y : T} (hop : (pickT todo n l).op = 16) (hk : (pickT todo n l).l = [x, y]) {l1 l2 : List T} {jx jy : Nat} (hx : callAt P bit [.ptr 0 0, x.toL] [some [.view 4 1 0 l.length false], some (trC l)] (bitK l1 jx))
  (hy : callAt P bit [.ptr 0 0, y.toL] [some [.view 4 1 0 l1.length false], some (trC l1)] (bitK l2 jy))
  {r : List T × List Nd} (hr : r.2 ≠ []) (ih : callAt P split (splA (restB todo n ||| oneB jx ||| oneB jy) (pickN todo n)) (splH split l2 out) (splK split (splM out) r)) :
  callAt P split (splA todo n) (splH split l out) (splK split (splM out) r) := by
 refine split_bin ir hS h hz hp hlit (by rw [hop]; decide) hk hx hy fun E ec e0 e5 e7 e11 e12 e13 e92 => ?_
 rw [hop] at e92
 by_cases ho : out = []
 ·subst ho
  have hpe : prE 7 (([] : List Nd).map ndI) = .v (.slice none 0 0) := rfl
  have hph : prH .u64 (([] : List Nd).map ndI) = [] := rfl
  have hm : splM ([] : List Nd) = 7 := by simp [splM]
  rw [hm] at ih e7 e13 ⊢
  simp [irSpH, splT, e0, e5, e7, e11, e12, e92, orB]
  refine callT_frame [0, 1, 2, 3, 4, 5, 10] ih (by simp) (by simp [splH, splB]) (by simp [splH, splB]) (by simp) (by simp [splH, splB]) ?_
  intro _ R hR
  obtain rfl : R = splX split 7 r.1 r.2 [none] := hR.trans (splR7 hr)
  simp [mergeH, setRows, upN, splX]
  refine exitK_of [0, 1, 2, 3, 4, 5, 6, 12, 13] .any _ (splK7 hr) ?_ ?_ ?_ ?_ (.inl rfl) <;> simp [splX]
 ·have hpe : prE 7 (out.map ndI) = .view 2 7 0 out.length false := by rw [prE_ne (by simpa using ho)]; simp
  have hph : prH .u64 (out.map ndI) = [some (prC .u64 (out.map ndI))] := prH_ne (by simpa using ho)
  have hpo : out.length ≠ 0 := by simpa using ho
  have hm : splM out = 8 := by simp [splM, ho]
  rw [hm] at ih e7 e13 ⊢
  simp [irSpH, splT, hpe, hph, e0, e5, e7, e11, e12, e92, orB]
  refine callT_frame [0, 1, 2, 3, 4, 5, 11, 7] ih (by simp) (by simp [splH, splB, hpe, hph]) (by simp [splH, splB, hpe, hph]) (by simp) (by simp [splH, splB, hpe, hph]) ?_
  intro _ R hR
  obtain rfl : R = splX split 8 r.1 r.2 [none, none] := hR.trans (splR8 hr)
  simp [mergeH, setRows, upN, splX]
  refine exitK_of [0, 1, 2, 3, 4, 5, 6, 7, 13, 14] .any _ (splK8 hr) ?_ ?_ ?_ ?_ (.inl rfl) <;> simp [splX]
theorem split_or {P : Program} {lit bit split : Nat} (ir : compFS selSplit P split = some (irSplit lit bit)) {S l : List T} {out : List Nd} {todo : BV} {n : Nd} {k : Nat} {used : List Nat} (hS : Parts S) (h : SplOk S (k + 1) todo n l used) (hz : todo &&& ~~~n.1 ≠ 0#64) (hp : PickOk S todo n l (lowB (todo &&& ~~~n.1)))
  (hlit : PC P lit [(pickT todo n l).toL] (boolL false)) {x y : T} (hop : (pickT todo n l).op = 17) (hk : (pickT todo n l).l = [x, y]) {l1 l2 : List T} {jx jy : Nat} (hx : callAt P bit [.ptr 0 0, x.toL] [some [.view 4 1 0 l.length false], some (trC l)] (bitK l1 jx))
  (hy : callAt P bit [.ptr 0 0, y.toL] [some [.view 4 1 0 l1.length false], some (trC l1)] (bitK l2 jy))
  {r1 r : List T × List Nd} (hr1 : r1.2 ≠ []) (hr : r.2 ≠ []) (ih1 : callAt P split (splA (restB todo n ||| oneB jx) (pickN todo n)) (splH split l2 out) (splK split (splM out) r1))
  (ih2 : callAt P split (splA (restB todo n ||| oneB jy) ((pickN todo n).1, n.2)) (splH split r1.1 r1.2) (splK split (splM r1.2) r)) :
  callAt P split (splA todo n) (splH split l out) (splK split (splM out) r) := by
 have hm1 : splM r1.2 = 8 := by simp [splM, hr1]
 rw [hm1] at ih2
 have hpe1 : prE 7 (r1.2.map ndI) = .view 2 7 0 r1.2.length false := by rw [prE_ne (by simpa using hr1)]; simp
 have hph1 : prH .u64 (r1.2.map ndI) = [some (prC .u64 (r1.2.map ndI))] := prH_ne (by simpa using hr1)
 refine split_bin ir hS h hz hp hlit (by rw [hop]; decide) hk hx hy fun E ec e0 e5 e7 e11 e12 e13 e92 => ?_
 rw [hop] at e92
 by_cases ho : out = []
 ·subst ho
  have hpe : prE 7 (([] : List Nd).map ndI) = .v (.slice none 0 0) := rfl
  have hph : prH .u64 (([] : List Nd).map ndI) = [] := rfl
  have hm : splM ([] : List Nd) = 7 := by simp [splM]
  rw [hm] at ih1 e7 e13 ⊢
  simp [irSpH, splT, e0, e5, e7, e11, e92, orB]
  refine callT_frame [0, 1, 2, 3, 4, 5, 10] ih1 (by simp) (by simp [splH, splB]) (by simp [splH, splB]) (by simp) (by simp [splH, splB]) ?_
  intro _ R hR
  obtain rfl : R = splX split 7 r1.1 r1.2 [none] := hR.trans (splR7 hr1)
  simp [mergeH, setRows, upN, splX, e0, e5, e7, e12, orB]
  refine callT_frame [0, 1, 2, 3, 4, 5, 12, 13] ih2 (by simp) (by simp [splH, splB, hpe1, hph1]) (by simp [splH, splB, hpe1, hph1]) (by simp) (by simp [splH, splB, hpe1, hph1]) ?_
  intro _ R hR
  obtain rfl : R = splX split 8 r.1 r.2 [none, none] := hR.trans (splR8 hr)
  simp [mergeH, setRows, upN, splX]
  refine exitK_of [0, 1, 2, 3, 4, 5, 6, 14, 15] .any _ (splK7 hr) ?_ ?_ ?_ ?_ (.inl rfl) <;> simp [splX]
 ·have hpe : prE 7 (out.map ndI) = .view 2 7 0 out.length false := by rw [prE_ne (by simpa using ho)]; simp
  have hph : prH .u64 (out.map ndI) = [some (prC .u64 (out.map ndI))] := prH_ne (by simpa using ho)
  have hpo : out.length ≠ 0 := by simpa using ho
  have hm : splM out = 8 := by simp [splM, ho]
  rw [hm] at ih1 e7 e13 ⊢
  simp [irSpH, splT, hpe, hph, e0, e5, e7, e11, e92, orB]
  refine callT_frame [0, 1, 2, 3, 4, 5, 11, 7] ih1 (by simp) (by simp [splH, splB, hpe, hph]) (by simp [splH, splB, hpe, hph]) (by simp) (by simp [splH, splB, hpe, hph]) ?_
  intro _ R hR
  obtain rfl : R = splX split 8 r1.1 r1.2 [none, none] := hR.trans (splR8 hr1)
  simp [mergeH, setRows, upN, splX, e0, e5, e7, e12, orB]
  refine callT_frame [0, 1, 2, 3, 4, 5, 13, 14] ih2 (by simp) (by simp [splH, splB, hpe1, hph1]) (by simp [splH, splB, hpe1, hph1]) (by simp) (by simp [splH, splB, hpe1, hph1]) ?_
  intro _ R hR
  obtain rfl : R = splX split 8 r.1 r.2 [none, none] := hR.trans (splR8 hr)
  simp [mergeH, setRows, upN, splX]
  refine exitK_of [0, 1, 2, 3, 4, 5, 6, 7, 15, 16] .any _ (splK8 hr) ?_ ?_ ?_ ?_ (.inl rfl) <;> simp [splX]
theorem split_until {P : Program} {lit bit split : Nat} (ir : compFS selSplit P split = some (irSplit lit bit)) {S l : List T} {out : List Nd} {todo : BV} {n : Nd} {k : Nat} {used : List Nat} (hS : Parts S) (h : SplOk S (k + 1) todo n l used) (hz : todo &&& ~~~n.1 ≠ 0#64) (hp : PickOk S todo n l (lowB (todo &&& ~~~n.1)))
  (hlit : PC P lit [(pickT todo n l).toL] (boolL false)) {x y : T} (hop : (pickT todo n l).op = 23) (hk : (pickT todo n l).l = [x, y]) {l1 l2 : List T} {jx jy : Nat} (hx : callAt P bit [.ptr 0 0, x.toL] [some [.view 4 1 0 l.length false], some (trC l)] (bitK l1 jx))
  (hy : callAt P bit [.ptr 0 0, y.toL] [some [.view 4 1 0 l1.length false], some (trC l1)] (bitK l2 jy))
  {r1 r : List T × List Nd} (hr1 : r1.2 ≠ []) (hr : r.2 ≠ []) (ih1 : callAt P split (splA (restB todo n ||| oneB jy) (pickN todo n)) (splH split l2 out) (splK split (splM out) r1))
  (ih2 : callAt P split (splA (restB todo n ||| oneB jx) ((pickN todo n).1, n.2 ||| pickB todo n)) (splH split r1.1 r1.2) (splK split (splM r1.2) r)) :
  callAt P split (splA todo n) (splH split l out) (splK split (splM out) r) := by
 have hm1 : splM r1.2 = 8 := by simp [splM, hr1]
 rw [hm1] at ih2
 have hpe1 : prE 7 (r1.2.map ndI) = .view 2 7 0 r1.2.length false := by rw [prE_ne (by simpa using hr1)]; simp
 have hph1 : prH .u64 (r1.2.map ndI) = [some (prC .u64 (r1.2.map ndI))] := prH_ne (by simpa using hr1)
 refine split_bin ir hS h hz hp hlit (by rw [hop]; decide) hk hx hy fun E ec e0 e5 e7 e11 e12 e13 e92 => ?_
 rw [hop] at e92
 by_cases ho : out = []
 ·subst ho
  have hpe : prE 7 (([] : List Nd).map ndI) = .v (.slice none 0 0) := rfl
  have hph : prH .u64 (([] : List Nd).map ndI) = [] := rfl
  have hm : splM ([] : List Nd) = 7 := by simp [splM]
  rw [hm] at ih1 e7 e13 ⊢
  simp [irSpH, splT, e0, e5, e7, e12, e92, orB]
  refine callT_frame [0, 1, 2, 3, 4, 5, 10] ih1 (by simp) (by simp [splH, splB]) (by simp [splH, splB]) (by simp) (by simp [splH, splB]) ?_
  intro _ R hR
  obtain rfl : R = splX split 7 r1.1 r1.2 [none] := hR.trans (splR7 hr1)
  simp [mergeH, setRows, upN, splX, e0, e5, e11, e13, orB]
  refine callT_frame [0, 1, 2, 3, 4, 5, 12, 13] ih2 (by simp) (by simp [splH, splB, hpe1, hph1]) (by simp [splH, splB, hpe1, hph1]) (by simp) (by simp [splH, splB, hpe1, hph1]) ?_
  intro _ R hR
  obtain rfl : R = splX split 8 r.1 r.2 [none, none] := hR.trans (splR8 hr)
  simp [mergeH, setRows, upN, splX]
  refine exitK_of [0, 1, 2, 3, 4, 5, 6, 14, 15] .any _ (splK7 hr) ?_ ?_ ?_ ?_ (.inl rfl) <;> simp [splX]
 ·have hpe : prE 7 (out.map ndI) = .view 2 7 0 out.length false := by rw [prE_ne (by simpa using ho)]; simp
  have hph : prH .u64 (out.map ndI) = [some (prC .u64 (out.map ndI))] := prH_ne (by simpa using ho)
  have hpo : out.length ≠ 0 := by simpa using ho
  have hm : splM out = 8 := by simp [splM, ho]
  rw [hm] at ih1 e7 e13 ⊢
  simp [irSpH, splT, hpe, hph, e0, e5, e7, e12, e92, orB]
  refine callT_frame [0, 1, 2, 3, 4, 5, 11, 7] ih1 (by simp) (by simp [splH, splB, hpe, hph]) (by simp [splH, splB, hpe, hph]) (by simp) (by simp [splH, splB, hpe, hph]) ?_
  intro _ R hR
  obtain rfl : R = splX split 8 r1.1 r1.2 [none, none] := hR.trans (splR8 hr1)
  simp [mergeH, setRows, upN, splX, e0, e5, e11, e13, orB]
  refine callT_frame [0, 1, 2, 3, 4, 5, 13, 14] ih2 (by simp) (by simp [splH, splB, hpe1, hph1]) (by simp [splH, splB, hpe1, hph1]) (by simp) (by simp [splH, splB, hpe1, hph1]) ?_
  intro _ R hR
  obtain rfl : R = splX split 8 r.1 r.2 [none, none] := hR.trans (splR8 hr)
  simp [mergeH, setRows, upN, splX]
  refine exitK_of [0, 1, 2, 3, 4, 5, 6, 7, 15, 16] .any _ (splK8 hr) ?_ ?_ ?_ ?_ (.inl rfl) <;> simp [splX]
theorem split_rel {P : Program} {lit bit split : Nat} (ir : compFS selSplit P split = some (irSplit lit bit)) {S l : List T} {out : List Nd} {todo : BV} {n : Nd} {k : Nat} {used : List Nat} (hS : Parts S) (h : SplOk S (k + 1) todo n l used) (hz : todo &&& ~~~n.1 ≠ 0#64) (hp : PickOk S todo n l (lowB (todo &&& ~~~n.1)))
  (hlit : PC P lit [(pickT todo n l).toL] (boolL false)) {x y : T} (hop : (pickT todo n l).op = 24) (hk : (pickT todo n l).l = [x, y]) {l1 l2 : List T} {jx jy : Nat} (hx : callAt P bit [.ptr 0 0, x.toL] [some [.view 4 1 0 l.length false], some (trC l)] (bitK l1 jx))
  (hy : callAt P bit [.ptr 0 0, y.toL] [some [.view 4 1 0 l1.length false], some (trC l1)] (bitK l2 jy))
  {r1 r : List T × List Nd} (hr1 : r1.2 ≠ []) (hr : r.2 ≠ []) (ih1 : callAt P split (splA (restB todo n ||| oneB jx ||| oneB jy) (pickN todo n)) (splH split l2 out) (splK split (splM out) r1))
  (ih2 : callAt P split (splA (restB todo n ||| oneB jy) ((pickN todo n).1, n.2 ||| pickB todo n)) (splH split r1.1 r1.2) (splK split (splM r1.2) r)) :
  callAt P split (splA todo n) (splH split l out) (splK split (splM out) r) := by
 have hm1 : splM r1.2 = 8 := by simp [splM, hr1]
 rw [hm1] at ih2
 have hpe1 : prE 7 (r1.2.map ndI) = .view 2 7 0 r1.2.length false := by rw [prE_ne (by simpa using hr1)]; simp
 have hph1 : prH .u64 (r1.2.map ndI) = [some (prC .u64 (r1.2.map ndI))] := prH_ne (by simpa using hr1)
 refine split_bin ir hS h hz hp hlit (by rw [hop]; decide) hk hx hy fun E ec e0 e5 e7 e11 e12 e13 e92 => ?_
 rw [hop] at e92
 by_cases ho : out = []
 ·subst ho
  have hpe : prE 7 (([] : List Nd).map ndI) = .v (.slice none 0 0) := rfl
  have hph : prH .u64 (([] : List Nd).map ndI) = [] := rfl
  have hm : splM ([] : List Nd) = 7 := by simp [splM]
  rw [hm] at ih1 e7 e13 ⊢
  simp [irSpH, splT, e0, e5, e7, e11, e12, e92, orB]
  refine callT_frame [0, 1, 2, 3, 4, 5, 10] ih1 (by simp) (by simp [splH, splB]) (by simp [splH, splB]) (by simp) (by simp [splH, splB]) ?_
  intro _ R hR
  obtain rfl : R = splX split 7 r1.1 r1.2 [none] := hR.trans (splR7 hr1)
  simp [mergeH, setRows, upN, splX, e0, e5, e12, e13, orB]
  refine callT_frame [0, 1, 2, 3, 4, 5, 12, 13] ih2 (by simp) (by simp [splH, splB, hpe1, hph1]) (by simp [splH, splB, hpe1, hph1]) (by simp) (by simp [splH, splB, hpe1, hph1]) ?_
  intro _ R hR
  obtain rfl : R = splX split 8 r.1 r.2 [none, none] := hR.trans (splR8 hr)
  simp [mergeH, setRows, upN, splX]
  refine exitK_of [0, 1, 2, 3, 4, 5, 6, 14, 15] .any _ (splK7 hr) ?_ ?_ ?_ ?_ (.inl rfl) <;> simp [splX]
 ·have hpe : prE 7 (out.map ndI) = .view 2 7 0 out.length false := by rw [prE_ne (by simpa using ho)]; simp
  have hph : prH .u64 (out.map ndI) = [some (prC .u64 (out.map ndI))] := prH_ne (by simpa using ho)
  have hpo : out.length ≠ 0 := by simpa using ho
  have hm : splM out = 8 := by simp [splM, ho]
  rw [hm] at ih1 e7 e13 ⊢
  simp [irSpH, splT, hpe, hph, e0, e5, e7, e11, e12, e92, orB]
  refine callT_frame [0, 1, 2, 3, 4, 5, 11, 7] ih1 (by simp) (by simp [splH, splB, hpe, hph]) (by simp [splH, splB, hpe, hph]) (by simp) (by simp [splH, splB, hpe, hph]) ?_
  intro _ R hR
  obtain rfl : R = splX split 8 r1.1 r1.2 [none, none] := hR.trans (splR8 hr1)
  simp [mergeH, setRows, upN, splX, e0, e5, e12, e13, orB]
  refine callT_frame [0, 1, 2, 3, 4, 5, 13, 14] ih2 (by simp) (by simp [splH, splB, hpe1, hph1]) (by simp [splH, splB, hpe1, hph1]) (by simp) (by simp [splH, splB, hpe1, hph1]) ?_
  intro _ R hR
  obtain rfl : R = splX split 8 r.1 r.2 [none, none] := hR.trans (splR8 hr)
  simp [mergeH, setRows, upN, splX]
  refine exitK_of [0, 1, 2, 3, 4, 5, 6, 7, 15, 16] .any _ (splK8 hr) ?_ ?_ ?_ ?_ (.inl rfl) <;> simp [splX]
theorem split_gen {P : Program} {lit bit split same : Nat} (ir : compFS selSplit P split = some (irSplit lit bit)) (ib : compFS selBit P bit = some (irBitT same)) {S : List T} (hS : Parts S) (isame : ∀ x ∈ S, ∀ y ∈ S, PC P same [x.toL, y.toL] (boolL (x.same y))) (ilit : ∀ e ∈ S, PC P lit [e.toL] (boolL e.lit)) :
  ∀ k todo n l out used, SplOk S k todo n l used → out.length + 2 ^ k ≤ 100000 → callAt P split (splA todo n) (splH split l out) (splK split (splM out) (splitF k todo n l out)) := by
 intro k todo n l out used h
 have hbit : ∀ {l l1 : List T} {x : T} {jx : Nat}, TabOk S l → l ≠ [] → x ∈ S → bitF l x = (jx, l1) → callAt P bit [.ptr 0 0, x.toL] [some [.view 4 1 0 l.length false], some (trC l)] (bitK l1 jx) := by
  intro l l1 x jx ht hne hx hb
  have := bit_own ib (l := l) (e := x) (by have := ht.len; have := hS.len; omega) hne fun y hy => isame y (ht.mem y hy) x hx
  rw [hb] at this
  exact this
 have hlne : ∀ {l : List T} {i : Nat}, i < l.length → l ≠ [] := fun h e => by subst e; simp at h
 refine (split_ind hS (fun k todo n l out r => out.length + 2 ^ k ≤ 100000 → callAt P split (splA todo n) (splH split l out) (splK split (splM out) r)) ?_ ?_ ?_ ?_ ?_ k todo n l out used h).1
 ·intro k todo n l out used h hz hlen
  exact split_done ir hz (Nat.le_trans (Nat.le_add_right _ _) hlen)
 ·intro k todo n l out used r h hz hp hlit hn hr ih hlen
  have hsl := split_len hS _ _ _ _ out _ hn
  rw [← hr] at hsl
  rw [Nat.pow_succ] at hlen
  exact split_lit ir hS h hz hp (by have := ilit _ hp.mem; rw [hlit] at this; exact this) hsl.2.1 (ih (by omega))
 ·intro k todo n l out used r l1 jx x h hz hp hlit hop hk hx hb hbo hn hr ih hlen
  have hsl := split_len hS _ _ _ _ out _ hn
  rw [← hr] at hsl
  rw [Nat.pow_succ] at hlen
  exact split_next ir hS h hz hp (by have := ilit _ hp.mem; rw [hlit] at this; exact this) hop hk (hbit h.tab (hlne hp.lt) hx hb) hsl.2.1 (ih (by omega))
 ·intro k todo n l out used r l1 jx x l2 jy y h hz hp hlit hop hk hx hy hb hbo hc hco hn hr ih hlen
  have hsl := split_len hS _ _ _ _ out _ hn
  rw [← hr] at hsl
  rw [Nat.pow_succ] at hlen
  have hb1 := hbo.lt
  have hb2 := hbo.tab
  rw [hb] at hb1 hb2
  exact split_and ir hS h hz hp (by have := ilit _ hp.mem; rw [hlit] at this; exact this) hop hk (hbit h.tab (hlne hp.lt) hx hb) (hbit hb2 (hlne hb1) hy hc) hsl.2.1 (ih (by omega))
 ·intro k todo n l out used r r1 l1 jx x l2 jy y t1 t2 n2 h hz hp hlit hk hx hy hor hb hbo hc hco hn1 hr1 ih1 hpre hn2 hr ih2 hlen
  have hsl1 := split_len hS _ _ _ _ out _ hn1
  rw [← hr1] at hsl1
  have hsl := split_len hS _ _ _ _ r1.2 _ hn2
  rw [← hr] at hsl
  rw [Nat.pow_succ] at hlen
  have hb1 := hbo.lt
  have hb2 := hbo.tab
  rw [hb] at hb1 hb2
  have hl := ilit _ hp.mem
  rw [hlit] at hl
  have q1 := ih1 (by omega)
  have q2 := ih2 (by omega)
  have bx := hbit h.tab (hlne hp.lt) hx hb
  have by' := hbit hb2 (hlne hb1) hy hc
  rcases hor with ⟨hop, rfl, rfl, rfl⟩ | ⟨hop, rfl, rfl, rfl⟩ | ⟨hop, rfl, rfl, rfl⟩
  ·exact split_or ir hS h hz hp hl hop hk bx by' hsl1.2.1 hsl.2.1 q1 q2
  ·exact split_until ir hS h hz hp hl hop hk bx by' hsl1.2.1 hsl.2.1 q1 q2
  ·exact split_rel ir hS h hz hp hl hop hk bx by' hsl1.2.1 hsl.2.1 q1 q2
end Lg


/- All ways to split, and numbers of nodes: what the program does. -/
namespace Lg
open Go
def coverF (l : List T) (todo : BV) : List T × List Nd := splitF 10 todo (0#64, 0#64) l []
theorem cover_spl {S l : List T} (hS : Parts S) (ht : TabOk S l) {todo : BV} (h : bitsIn todo l.length) : SplOk S 10 todo (0#64, 0#64) l [] :=
 ⟨ht, .nil, fun i => by simp, fun i hi => by simp at hi, h, fun i hi => by simp at hi, by have := hS.len; simp; omega⟩
theorem cover_own {P : Program} {f lit bit split same : Nat} (icv : compF P f = some (irCoverT split)) (ir : compFS selSplit P split = some (irSplit lit bit)) (ib : compFS selBit P bit = some (irBitT same)) {S : List T} (hS : Parts S) (isame : ∀ x ∈ S, ∀ y ∈ S, PC P same [x.toL, y.toL] (boolL (x.same y))) (ilit : ∀ e ∈ S, PC P lit [e.toL] (boolL e.lit))
  {l : List T} (ht : TabOk S l) {todo : BV} (h : bitsIn todo l.length) :
  callAt P f [.ptr 0 0, u64B todo] [some [.view 4 1 0 l.length false], some (trC l)] (fun r R => r = prsL .u64 ((coverF l todo).2.map ndI) ∧ R = [some [.view 4 2 0 (coverF l todo).1.length false], none, some (trC (coverF l todo).1)]) := by
 have hspl := cover_spl hS ht h
 have hcall := split_gen ir ib hS isame ilit 10 todo (0#64, 0#64) l [] [] hspl (by simp)
 have hlen := split_len hS 10 todo (0#64, 0#64) l [] [] hspl
 have hne := hlen.2.1
 obtain ⟨r, hr⟩ : ∃ r, r = coverF l todo := ⟨_, rfl⟩
 rw [show splitF 10 todo (0#64, 0#64) l [] = r from hr.symm] at hcall hne
 rw [← hr]
 have hb0 : bvI (0#64) = 0 := rfl
 refine callAt_exitK (callAt_enter icv (by simp [irCoverT]) ?_)
 simp [irCoverT]
 refine callT_frame [5, 3, 2, 6, 4, 0, 1] hcall (by simp) (by simp [splH, splB, onM]) (by simp [splH, splB]) (by simp [hb0]) (by simp [splH, splB]) ?_
 intro _ R hR
 obtain rfl : R = splX split 7 r.1 r.2 [none] := hR.trans (splR7 hne)
 simp [mergeH, setRows, upN, splX]
 refine exitK_fz [8] [0, 1, 7] (prsL .u64 (r.2.map ndI)) _ ⟨rfl, rfl⟩ ?_ ?_ ?_ ?_ (.inr ?_)
 ·simp
 ·simp
 ·simp
 ·simp
 ·have hcl := prC_closedM (k := .u64) (l := r.2.map ndI)
  have hch := prC_chunk (k := .u64) (l := r.2.map ndI)
  simp only [List.length_map] at hch
  simp [hch]
def addN (N : List Nd) (c : List Nd) : List Nd := c.foldl (fun N n => if n ∈ N then N else N ++ [n]) N
def numIx (N c : List Nd) : List Int := c.map fun n => ((N.idxOf n : Nat) : Int)
theorem addN_pre {c : List Nd} : ∀ {N : List Nd}, N <+: addN N c := by
 induction c with
 | nil => intro N; exact List.prefix_refl _
 | cons n c ih =>
  intro N
  show N <+: addN (if n ∈ N then N else N ++ [n]) c
  refine List.IsPrefix.trans ?_ ih
  split
  ·exact List.prefix_refl _
  ·exact List.prefix_append _ _
theorem addN_mem {c : List Nd} : ∀ {N : List Nd} {n : Nd}, n ∈ addN N c ↔ n ∈ N ∨ n ∈ c := by
 induction c with
 | nil => intro N n; simp [addN]
 | cons m c ih =>
  intro N n
  show n ∈ addN (if m ∈ N then N else N ++ [m]) c ↔ _
  rw [ih, List.mem_cons]
  by_cases h : m ∈ N
  ·rw [if_pos h]
   exact ⟨fun h' => h'.elim .inl (fun h => .inr (.inr h)), fun h' => h'.elim .inl (fun h' => h'.elim (fun e => .inl (e ▸ h)) .inr)⟩
  ·rw [if_neg h, List.mem_append, List.mem_singleton]
   exact ⟨fun h' => h'.elim (fun h => h.elim .inl (fun h => .inr (.inl h))) (fun h => .inr (.inr h)), fun h' => h'.elim (fun h => .inl (.inl h)) (fun h' => h'.elim (fun h => .inl (.inr h)) .inr)⟩
theorem addN_nodup {c : List Nd} : ∀ {N : List Nd}, N.Nodup → (addN N c).Nodup := by
 induction c with
 | nil => intro N h; exact h
 | cons m c ih =>
  intro N h
  refine ih ?_
  show (if m ∈ N then N else N ++ [m]).Nodup
  split
  ·exact h
  ·rename_i hm
   rw [List.nodup_append]
   exact ⟨h, by simp, fun a ha b hb e => by rw [List.mem_singleton.1 hb] at e; subst e; exact hm ha⟩
theorem addN_append {N c : List Nd} {n : Nd} : addN N (c ++ [n]) = if n ∈ addN N c then addN N c else addN N c ++ [n] := by
 unfold addN; rw [List.foldl_append]; rfl
theorem idx_pre {N M : List Nd} (h : N <+: M) {n : Nd} (hn : n ∈ N) : M.idxOf n = N.idxOf n := by
 obtain ⟨t, rfl⟩ := h
 rw [List.idxOf_append, if_pos hn]
theorem idx_map {N : List Nd} {n : Nd} : (N.map ndI).idxOf (ndI n) = N.idxOf n := by
 induction N with
 | nil => rfl
 | cons m N ih =>
  rw [List.map_cons, List.idxOf_cons, List.idxOf_cons, ih]
  by_cases h : m = n
  ·subst h; simp
  ·have h1 : (m == n) = false := by simpa using h
   have h2 : (ndI m == ndI n) = false := by
    rw [beq_eq_false_iff_ne]; exact fun e => h (ndI_inj e)
   rw [h1, h2]
theorem numIx_length {N c : List Nd} : (numIx N c).length = c.length := by simp [numIx]
theorem numIx_succ {N c : List Nd} {j : Nat} (h : j < c.length) : numIx N (c.take (j + 1)) = numIx N (c.take j) ++ [((N.idxOf c[j] : Nat) : Int)] := by
 unfold numIx; rw [List.take_succ_eq_append_getElem h, List.map_append]; rfl
structure NumR (N c : List Nd) (j : Nat) (n : Nd) : Prop where
 succ : addN N (c.take (j + 1)) = if n ∈ addN N (c.take j) then addN N (c.take j) else addN N (c.take j) ++ [n]
 idx : (addN N c).idxOf n = if n ∈ addN N (c.take j) then (addN N (c.take j)).idxOf n else (addN N (c.take j)).length
 le : (addN N (c.take j)).length ≤ N.length + j
theorem addN_le {c : List Nd} : ∀ {N : List Nd}, (addN N c).length ≤ N.length + c.length := by
 induction c with
 | nil => intro N; simp [addN]
 | cons m c ih =>
  intro N
  have := ih (N := if m ∈ N then N else N ++ [m])
  show (addN (if m ∈ N then N else N ++ [m]) c).length ≤ _
  split at this <;> rename_i h <;> simp [h] at this ⊢ <;> omega
theorem numR {N c : List Nd} {j : Nat} (h : j < c.length) : NumR N c j c[j] := by
 have e : addN N (c.take (j + 1)) = if c[j] ∈ addN N (c.take j) then addN N (c.take j) else addN N (c.take j) ++ [c[j]] := by
  rw [List.take_succ_eq_append_getElem h, addN_append]
 have hp : addN N (c.take (j + 1)) <+: addN N c := by
  have : addN N c = addN (addN N (c.take (j + 1))) (c.drop (j + 1)) := by
   unfold addN; rw [← List.foldl_append, List.take_append_drop]
  rw [this]; exact addN_pre
 refine ⟨e, ?_, ?_⟩
 ·have hm : c[j] ∈ addN N (c.take (j + 1)) := by rw [e]; split <;> simp_all
  rw [idx_pre hp hm, e]
  by_cases hi : c[j] ∈ addN N (c.take j)
  ·rw [if_pos hi, if_pos hi]
  ·rw [if_neg hi, if_neg hi, List.idxOf_append, if_neg hi]; simp
 ·have := addN_le (N := N) (c := c.take j)
  simp at this; omega
end Lg


/- Nodes are numbered: what the program does. -/
namespace Lg
open Go
abbrev ndC (N : List Nd) : List L := prC .u64 (N.map ndI)
abbrev ndA (N : List Nd) : List (MK × Value) := atM .u64 (N.map ndI) 0
theorem num_nil {P : Program} {f : Nat} (ir : compF P f = some irNumber) {c : List Nd} (hne : c ≠ []) (hc : c.length ≤ 100000) :
  callAt P f [prsL .u64 (c.map ndI), .ptr 0 0, .ptr 1 0] [some [.mref 2], some [.v (.slice none 0 0)], some [.mp (.p .u64) []]] (fun r R => r = .sl 1 false ((numIx (addN [] c) c).map intL) ∧ R = [some [.mref 2], some [.view 2 3 0 (addN [] c).length false], some [.mp (.p .u64) (ndA (addN [] c))], some (ndC (addN [] c))]) := by
 refine callAt_exitK (callAt_enter ir (by simp [irNumber]) ?_)
 have hpos : 0 < c.length := List.length_pos_iff.2 hne
 simp [irNumber]
 refine lwp_loop (fun j : Nat => [(1, .ptr 0 0), (2, .ptr 1 0), (5, if j = 0 then .v (.slice none 0 0) else .view 1 4 0 j false), (10, prsL .u64 (c.map ndI)), (11, intL c.length), (12, intL j)])
  (fun j => if j = 0 then [some [.mref 2], some [.v (.slice none 0 0)], some [.mp (.p .u64) []]] else [some [.mref 2], some [.view 2 3 0 (addN [] (c.take j)).length false], some [.mp (.p .u64) (ndA (addN [] (c.take j)))], some (ndC (addN [] (c.take j))), some ((numIx (addN [] c) (c.take j)).map intL)])
  (fun j => c.length - j) (fun j => j ≤ c.length) 0 (by simp) ⟨[0, 1, 2], by simp⟩ ?_
 intro j hj
 by_cases h : j < c.length
 ·have hw : IntKind.i64.wrap ((j : Int) + 1) = ((j + 1 : Nat) : Int) := wrap_id (by omega) (by omega)
  obtain ⟨r1, r2, r3⟩ := numR (N := []) h
  have look := look_atM (k := .u64) (p := ndI c[j]) (D := (addN [] (c.take j)).map ndI) (n := 0)
  simp only [ndI_mem, idx_map, Nat.zero_add] at look
  have hx := numIx_succ (N := addN [] c) h
  rw [r2] at hx
  have hput := put_atM (k := .u64) (p := ndI c[j]) (D := (addN [] (c.take j)).map ndI) (n := 0)
  simp only [ndI_mem, Nat.zero_add, List.length_map] at hput
  have hxl := numIx_length (N := addN [] c) (c := c.take j)
  simp only [List.length_take] at hxl
  obtain ⟨N, hN⟩ : ∃ N, N = addN [] (c.take j) := ⟨_, rfl⟩
  obtain ⟨I, hI⟩ : ∃ I, I = numIx (addN [] c) (c.take j) := ⟨_, rfl⟩
  rw [← hN] at r1 r3 look hput hx
  rw [← hI] at hx hxl
  simp only [← hN, ← hI]
  simp at r3
  by_cases h0 : j = 0
  ·subst h0
   have hN0 : N = [] := hN
   have hI0 : I = [] := hI
   subst hN0
   subst hI0
   simp at look r1 hx hput
   have hw1 : IntKind.i64.wrap 1 = 1 := by decide
   simp [h, hw1, mlook, mput]
   refine ⟨1, by omega, by simp only; omega, [0, 1, 2, 5, 7], ?_⟩
   simp only [if_false, Nat.one_ne_zero]
   simp [r1, hx, prC_one, atM, ndA]
  ·have hIl : I.length = j := by omega
   by_cases hin : c[j] ∈ N
   ·rw [if_pos hin] at look r1 hx
    have hsz : (I.length + 1) * 8 ≤ 70368744177664 := by omega
    simp [h0, h, hw, look, hIl]
    refine ⟨by omega, j + 1, by omega, by simp only; omega, [0, 1, 2, 3, 7], ?_⟩
    simp only [Nat.add_eq_zero_iff, Nat.one_ne_zero, and_false, if_false]
    rw [hx, r1]
    simp
   ·rw [if_neg hin] at look r1 hx
    have hput := hput hin
    simp [h0, h, hw, look, hIl, hput]
    refine ⟨by omega, by omega, j + 1, by omega, by simp only; omega, [0, 1, 2, 7, 9], ?_⟩
    simp only [Nat.add_eq_zero_iff, Nat.one_ne_zero, and_false, if_false]
    rw [hx, r1]
    simp [prC_append, prC_one, ndA]
 ·obtain rfl : j = c.length := by omega
  have h0 : ¬ c.length = 0 := by omega
  have hxl := numIx_length (N := addN [] c) (c := c)
  simp [h0]
  refine exitK_fz [4] [0, 1, 2, 3] (.sl 1 false ((numIx (addN [] c) c).map intL)) _ ⟨rfl, rfl⟩ ?_ ?_ ?_ ?_ (.inr ?_) <;> simp [hxl]
def numS (N0 N : List Nd) (I : List Int) : Nat → Heap
 | 0 => [some [.mref 2], some [.view 2 3 0 N0.length false], some [.mp (.p .u64) (ndA N0)], some (ndC N0)]
 | 1 => [some [.mref 2], some [.view 2 3 0 N0.length false], some [.mp (.p .u64) (ndA N0)], some (ndC N0), some (I.map intL)]
 | _ => [some [.mref 2], some [.view 2 5 0 N.length false], some [.mp (.p .u64) (ndA N)], none, some (I.map intL), some (ndC N)]
def numOk (N0 N : List Nd) (j : Nat) : Nat → Prop
 | 0 => j = 0 ∧ N = N0
 | 1 => j ≠ 0 ∧ N = N0
 | 2 => j ≠ 0
 | _ => False
theorem num_own {P : Program} {f : Nat} (ir : compF P f = some irNumber) {N0 c : List Nd} (hN0 : N0 ≠ []) (hne : c ≠ []) (hc : c.length ≤ 100000) (hn : N0.length ≤ 100000000) :
  callAt P f [prsL .u64 (c.map ndI), .ptr 0 0, .ptr 1 0] [some [.mref 2], some [.view 2 3 0 N0.length false], some [.mp (.p .u64) (ndA N0)], some (ndC N0)] (fun r R => r = .sl 1 false ((numIx (addN N0 c) c).map intL) ∧ R = [some [.mref 2], some [.view 2 4 0 (addN N0 c).length false], some [.mp (.p .u64) (ndA (addN N0 c))], none, some (ndC (addN N0 c))]) := by
 refine callAt_exitK (callAt_enter ir (by simp [irNumber]) ?_)
 have hpos : 0 < c.length := List.length_pos_iff.2 hne
 simp [irNumber]
 refine lwp_loop (fun x : Nat × Nat => [(1, .ptr 0 0), (2, .ptr 1 0), (5, if x.1 = 0 then .v (.slice none 0 0) else .view 1 4 0 x.1 false), (10, prsL .u64 (c.map ndI)), (11, intL c.length), (12, intL x.1)])
  (fun x => numS N0 (addN N0 (c.take x.1)) (numIx (addN N0 c) (c.take x.1)) x.2)
  (fun x => c.length - x.1) (fun x => x.1 ≤ c.length ∧ numOk N0 (addN N0 (c.take x.1)) x.1 x.2) (0, 0) ⟨by simp, rfl, rfl⟩ ⟨[0, 1, 2, 3], by simp [numS]⟩ ?_
 rintro ⟨j, st⟩ ⟨hj, hst⟩
 simp only at hj hst
 by_cases h : j < c.length
 ·have hw : IntKind.i64.wrap ((j : Int) + 1) = ((j + 1 : Nat) : Int) := wrap_id (by omega) (by omega)
  obtain ⟨r1, r2, r3⟩ := numR (N := N0) h
  have look := look_atM (k := .u64) (p := ndI c[j]) (D := (addN N0 (c.take j)).map ndI) (n := 0)
  simp only [ndI_mem, idx_map, Nat.zero_add] at look
  have hx := numIx_succ (N := addN N0 c) h
  rw [r2] at hx
  have hput := put_atM (k := .u64) (p := ndI c[j]) (D := (addN N0 (c.take j)).map ndI) (n := 0)
  simp only [ndI_mem, Nat.zero_add, List.length_map] at hput
  have hxl := numIx_length (N := addN N0 c) (c := c.take j)
  simp only [List.length_take] at hxl
  obtain ⟨N, hN⟩ : ∃ N, N = addN N0 (c.take j) := ⟨_, rfl⟩
  obtain ⟨I, hI⟩ : ∃ I, I = numIx (addN N0 c) (c.take j) := ⟨_, rfl⟩
  rw [← hN] at r1 r3 look hput hx hst
  rw [← hI] at hx hxl
  simp only [← hN, ← hI]
  have hIl : I.length = j := by omega
  have hj1 : ¬ (j + 1 = 0) := by omega
  match st, hst with
  | 0, hst =>
   obtain ⟨rfl, hNN⟩ := hst
   subst hNN
   have hI0 : I = [] := hI
   subst hI0
   have hw1 : IntKind.i64.wrap 1 = 1 := by decide
   simp only [numS]
   by_cases hin : c[0] ∈ N
   ·rw [if_pos hin] at look r1 hx
    simp [h, look]
    refine ⟨(0 + 1, 1), ⟨by omega, ?_⟩, by simp only; omega, [0, 1, 2, 3, 6], ?_⟩
    ·show 0 + 1 ≠ 0 ∧ addN N (c.take (0 + 1)) = N
     exact ⟨hj1, r1⟩
    ·simp only [if_neg hj1]
     rw [hx]
     simp [ndA, hw1]
   ·rw [if_neg hin] at look r1 hx
    have hput := hput hin
    simp [h, look, hput]
    refine ⟨by omega, (0 + 1, 2), ⟨by omega, ?_⟩, by simp only; omega, [0, 1, 2, 3, 8, 6], ?_⟩
    ·exact hj1
    ·simp only [if_neg hj1]
     rw [hx, r1]
     simp [prC_append, prC_one, ndA, hw1]
  | 1, hst =>
   obtain ⟨h0, hNN⟩ := hst
   subst hNN
   simp only [numS]
   by_cases hin : c[j] ∈ N
   ·rw [if_pos hin] at look r1 hx
    simp [h0, h, hw, look, hIl]
    refine ⟨by omega, (j + 1, 1), ⟨by omega, ?_⟩, by simp only; omega, [0, 1, 2, 3, 7], ?_⟩
    ·show j + 1 ≠ 0 ∧ addN N (c.take (j + 1)) = N
     exact ⟨hj1, r1⟩
    ·simp only [if_neg hj1]
     rw [hx]
     simp [ndA]
   ·rw [if_neg hin] at look r1 hx
    have hput := hput hin
    simp [h0, h, hw, look, hIl, hput]
    refine ⟨by omega, by omega, (j + 1, 2), ⟨by omega, ?_⟩, by simp only; omega, [0, 1, 2, 3, 9, 7], ?_⟩
    ·exact hj1
    ·simp only [if_neg hj1]
     rw [hx, r1]
     simp [prC_append, prC_one, ndA]
  | 2, hst =>
   have h0 : j ≠ 0 := hst
   simp only [numS]
   by_cases hin : c[j] ∈ N
   ·rw [if_pos hin] at look r1 hx
    simp [h0, h, hw, look, hIl]
    refine ⟨by omega, (j + 1, 2), ⟨by omega, ?_⟩, by simp only; omega, [0, 1, 2, 3, 8, 5], ?_⟩
    ·exact hj1
    ·simp only [if_neg hj1]
     rw [hx, r1]
     simp [ndA]
   ·rw [if_neg hin] at look r1 hx
    have hput := hput hin
    simp [h0, h, hw, look, hIl, hput]
    refine ⟨by omega, by omega, (j + 1, 2), ⟨by omega, ?_⟩, by simp only; omega, [0, 1, 2, 3, 10, 8], ?_⟩
    ·exact hj1
    ·simp only [if_neg hj1]
     rw [hx, r1]
     simp [prC_append, prC_one, ndA]
 ·obtain rfl : j = c.length := by omega
  have h0 : ¬ c.length = 0 := by omega
  have hxl := numIx_length (N := addN N0 c) (c := c)
  rw [List.take_length] at hst
  match st, hst with
  | 0, hst => exact absurd hst.1 h0
  | 1, hst =>
   obtain ⟨-, hNN⟩ := hst
   have hxl2 : (numIx N0 c).length = c.length := by rw [← hNN]; simpa only [hNN] using hxl
   simp [h0, numS]
   refine exitK_fz [4] [0, 1, 2, 3, 3] (.sl 1 false ((numIx (addN N0 c) c).map intL)) _ ⟨rfl, rfl⟩ ?_ ?_ ?_ ?_ (.inr ?_) <;> simp [hxl2, hNN]
  | 2, hst =>
   simp [h0, numS]
   refine exitK_fz [4] [0, 1, 2, 3, 5] (.sl 1 false ((numIx (addN N0 c) c).map intL)) _ ⟨rfl, rfl⟩ ?_ ?_ ?_ ?_ (.inr ?_) <;> simp [hxl]
end Lg


/- A formula's automaton, as the program makes it, in plain terms. -/
namespace Lg
open Go
structure OfSt where
 l : List T
 N : List Nd
 nx : List (List Int)
def ofStep (s : OfSt) : OfSt :=
 let c := coverF s.l (s.N.getD s.nx.length (0#64, 0#64)).2
 ⟨c.1, addN s.N c.2, s.nx ++ [numIx (addN s.N c.2) c.2]⟩
def ofLoop : Nat → OfSt → OfSt
 | 0, s => s
 | k + 1, s => if s.nx.length < s.N.length then ofLoop k (ofStep s) else s
def ofC0 (e : T) : List T × List Nd := coverF [e] (oneB 0)
def ofStart (e : T) : OfSt := ⟨(ofC0 e).1, addN [] (ofC0 e).2, []⟩
def ofInit (e : T) : List Int := numIx (addN [] (ofC0 e).2) (ofC0 e).2
def ofEnd (e : T) : OfSt := ofLoop 300000 (ofStart e)
def litsTo (l : List T) (n : Nd) (i : Nat) : List T := ((List.range i).filter fun j => n.1.getLsbD j && (l.getD j T.none0).lit).map fun j => l.getD j T.none0
def metTo (N : List Nd) (i d q : Nat) : List Int := ((List.range q).filter fun j => !((N.getD j (0#64, 0#64)).1.getLsbD i) || (N.getD j (0#64, 0#64)).1.getLsbD d).map fun (j : Nat) => (j : Int)
def isUnt (x : T) : Bool := !x.lit && decide (x.op = 23)
def accTo (l : List T) (N : List Nd) (i : Nat) : List (List Int) := ((List.range i).filter fun j => isUnt (l.getD j T.none0)).map fun j => metTo N j (bitF l (kid1 (l.getD j T.none0))).1 N.length
def ofF (e : T) : Aut := ⟨(ofEnd e).N.map fun n => litsTo (ofEnd e).l n (ofEnd e).l.length, (ofEnd e).nx, ofInit e, accTo (ofEnd e).l (ofEnd e).N (ofEnd e).l.length⟩
theorem split_pre {S : List T} (hS : Parts S) {k : Nat} {todo : BV} {n : Nd} {l : List T} {out : List Nd} {used : List Nat} (h : SplOk S k todo n l used) : TabOk S (splitF k todo n l out).1 ∧ l <+: (splitF k todo n l out).1 :=
 (split_ind hS (fun _ _ _ _ _ _ => True) (by intros; trivial) (by intros; trivial) (by intros; trivial) (by intros; trivial) (by intros; trivial) k todo n l out used h).2
theorem split_bits {S : List T} (hS : Parts S) : ∀ k todo n l out used, SplOk S k todo n l used → ∀ m ∈ (splitF k todo n l out).2, m ∈ out ∨ (bitsIn m.1 (splitF k todo n l out).1.length ∧ bitsIn m.2 (splitF k todo n l out).1.length) := by
 intro k todo n l out used h
 refine (split_ind hS (fun k todo n l out r => ∀ m ∈ r.2, m ∈ out ∨ (bitsIn m.1 r.1.length ∧ bitsIn m.2 r.1.length)) ?_ ?_ ?_ ?_ ?_ k todo n l out used h).1
 ·intro k todo n l out used h _ m hm
  by_cases hin : n ∈ out
  ·simp only [if_pos hin] at hm; exact .inl hm
  ·simp only [if_neg hin] at hm
   rcases List.mem_append.1 hm with hm | hm
   ·exact .inl hm
   ·rw [List.mem_singleton.1 hm]
    exact .inr ⟨fun i hi => h.oldIn i ((h.old i).1 hi), h.nextIn⟩
 ·intro k todo n l out used r _ _ _ _ _ _ ih; exact ih
 ·intro k todo n l out used r l1 jx x _ _ _ _ _ _ _ _ _ _ _ ih; exact ih
 ·intro k todo n l out used r l1 jx x l2 jy y _ _ _ _ _ _ _ _ _ _ _ _ _ _ ih; exact ih
 ·intro k todo n l out used r r1 l1 jx x l2 jy y t1 t2 n2 _ _ _ _ _ _ _ _ _ _ _ _ _ _ ih1 _ hn2 hr ih2 m hm
  rcases ih2 m hm with hm | hm
  ·rcases ih1 m hm with hm | ⟨h1, h2⟩
   ·exact .inl hm
   ·have := (split_pre hS hn2 (out := r1.2)).2.length_le
    rw [← hr] at this
    exact .inr ⟨h1.mono this, h2.mono this⟩
  ·exact .inr hm
theorem nodup_map_on {α β : Type} {f : α → β} : ∀ {l : List α}, l.Nodup → (∀ a ∈ l, ∀ b ∈ l, f a = f b → a = b) → (l.map f).Nodup
 | [], _, _ => .nil
 | a :: l, hn, hi => by
  rw [List.nodup_cons] at hn
  rw [List.map_cons, List.nodup_cons]
  refine ⟨fun hm => ?_, nodup_map_on hn.2 fun x hx y hy => hi x (by simp [hx]) y (by simp [hy])⟩
  obtain ⟨b, hb, e⟩ := List.mem_map.1 hm
  exact hn.1 (hi b (by simp [hb]) a (by simp) e ▸ hb)
structure StOk (S : List T) (s : OfSt) : Prop where
 tab : TabOk S s.l
 ne : s.N ≠ []
 nd : s.N.Nodup
 bits : ∀ n ∈ s.N, bitsIn n.1 s.l.length ∧ bitsIn n.2 s.l.length
theorem bits_lt {b : BV} {m : Nat} (h : bitsIn b m) (hm : m ≤ 9) : b.toNat < 512 := by
 apply Classical.byContradiction
 intro hn
 have hb : b.toNat ≥ 2 ^ 9 := by omega
 obtain ⟨i, hi1, hi2⟩ := Nat.exists_ge_and_testBit_of_ge_two_pow hb
 have := h i hi2
 omega
theorem StOk.len {S : List T} (hS : Parts S) {s : OfSt} (h : StOk S s) : s.N.length ≤ 262144 := by
 have hl : s.l.length ≤ 9 := Nat.le_trans h.tab.len hS.len
 have hinj : ∀ a ∈ s.N, ∀ b ∈ s.N, a.1.toNat + 512 * a.2.toNat = b.1.toNat + 512 * b.2.toNat → a = b := by
  intro a ha b hb e
  have a1 := bits_lt (h.bits a ha).1 hl
  have b1 := bits_lt (h.bits b hb).1 hl
  exact Prod.ext (BitVec.eq_of_toNat_eq (by omega)) (BitVec.eq_of_toNat_eq (by omega))
 have hnd : (s.N.map fun a => a.1.toNat + 512 * a.2.toNat).Nodup := nodup_map_on h.nd hinj
 have := nodup_lt hnd (n := 262144) (fun x hx => by
  obtain ⟨a, ha, rfl⟩ := List.mem_map.1 hx
  have a1 := bits_lt (h.bits a ha).1 hl
  have a2 := bits_lt (h.bits a ha).2 hl
  omega)
 simpa using this
structure CovOk (S l : List T) (todo : BV) : Prop where
 tab : TabOk S (coverF l todo).1
 pre : l <+: (coverF l todo).1
 ne : (coverF l todo).2 ≠ []
 nd : (coverF l todo).2.Nodup
 len : (coverF l todo).2.length ≤ 1024
 bits : ∀ m ∈ (coverF l todo).2, bitsIn m.1 (coverF l todo).1.length ∧ bitsIn m.2 (coverF l todo).1.length
theorem covOk {S l : List T} (hS : Parts S) (ht : TabOk S l) {todo : BV} (h : bitsIn todo l.length) : CovOk S l todo := by
 have hspl := cover_spl hS ht h
 obtain ⟨a1, a2⟩ := split_pre hS hspl (out := [])
 obtain ⟨b1, b2, b3, b4⟩ := split_len hS _ _ _ _ [] _ hspl
 refine ⟨a1, a2, b2, b4 .nil, Nat.le_trans b3 (by decide), fun m hm => ?_⟩
 rcases split_bits hS _ _ _ _ [] _ hspl m hm with h | h
 ·simp at h
 ·exact h
theorem stOk_start {S : List T} (hS : Parts S) {e : T} (he : e ∈ S) : StOk S (ofStart e) ∧ CovOk S [e] (oneB 0) := by
 have ht : TabOk S [e] := ⟨fun x hx => by rw [List.mem_singleton.1 hx]; exact he, by simp⟩
 have hc := covOk hS ht (todo := oneB 0) (.one (by simp) (by omega))
 refine ⟨⟨hc.tab, ?_, addN_nodup .nil, fun n hn => ?_⟩, hc⟩
 ·intro e'
  obtain ⟨x, hx⟩ := List.exists_mem_of_ne_nil _ hc.ne
  have : x ∈ addN [] (ofC0 e).2 := addN_mem.2 (.inr hx)
  rw [show addN [] (ofC0 e).2 = [] from e'] at this
  simp at this
 ·rcases addN_mem.1 hn with h | h
  ·simp at h
  ·exact hc.bits n h
theorem StOk.step {S : List T} (hS : Parts S) {s : OfSt} (h : StOk S s) (hlt : s.nx.length < s.N.length) : StOk S (ofStep s) ∧ CovOk S s.l (s.N.getD s.nx.length (0#64, 0#64)).2 := by
 have hm : s.N.getD s.nx.length (0#64, 0#64) ∈ s.N := by
  rw [List.getD, List.getElem?_eq_getElem hlt]; exact List.getElem_mem hlt
 have hc := covOk hS h.tab (h.bits _ hm).2
 refine ⟨⟨hc.tab, ?_, addN_nodup h.nd, fun n hn => ?_⟩, hc⟩
 ·intro e'
  obtain ⟨x, hx⟩ := List.exists_mem_of_ne_nil _ h.ne
  have : x ∈ (ofStep s).N := addN_mem.2 (.inl hx)
  rw [e'] at this
  simp at this
 ·rcases addN_mem.1 hn with h' | h'
  ·have := h.bits n h'
   exact ⟨this.1.mono hc.pre.length_le, this.2.mono hc.pre.length_le⟩
  ·exact hc.bits n h'
end Lg

