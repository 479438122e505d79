import Derived.Test.YtjoffkghcjfbeaaLibAtSX
/- A formula's automaton: what the program does. -/
namespace Lg
open Go
def irOf9 : IR := (.seq (.ops [⟨some 148,.load 4 true (.t 5),none⟩,⟨none,.store 4 (.t 2) (.t 148),none⟩]) .ret)
def irOf6 (lit bit : Nat) : IR := (.seq (.seq (.ops [⟨some 92,.mov (.t 3),none⟩,⟨some 93,.nilchk (.t 92),none⟩,⟨some 94,.faddr 0 (.t 93),none⟩,⟨some 95,.load 1 false (.t 94),none⟩,⟨some 96,.len false (.t 95),none⟩,⟨some 97,.mov (.c (.v (.int .i64 0))),none⟩]) (.block 6 (.loop (.seq (.ops [⟨some 98,.bin .lss false (.t 97) (.t 96),none⟩]) (.seq (.cond (.t 98) .skip (.exit 6)) (.seq (.block 7 (.seq (.ops [⟨some 99,.mov (.t 97),none⟩,⟨some 100,.iaddr 4 (.t 95) (.t 97),none⟩,⟨some 101,.load 4 true (.t 100),none⟩,⟨some 16,.alloc (.agg [(.v (.int .i64 0)),(.v (.int .i64 0)),(.v (.int .i64 0)),(.v (.slice none 0 0))]),none⟩,⟨some 15,.mov (.t 99),none⟩,⟨none,.store 4 (.t 16) (.t 101),none⟩]) (.seq (.seq (.ops [⟨some 102,.load 4 true (.t 16),none⟩,⟨some 103,.call lit [(.t 102)],none⟩,⟨some 104,.mov (.t 103),none⟩,⟨some 105,.faddr 0 (.t 16),some (104,false)⟩,⟨some 106,.load 1 false (.t 105),some (104,false)⟩,⟨some 107,.bin .neq false (.t 106) (.c (.v (.int .i64 23))),some (104,false)⟩,⟨some 108,.pick (.t 104) (.c (.v (.bool true))) (.t 107),none⟩]) (.cond (.t 108) (.exit 7) .skip)) (.seq (.ops [⟨some 109,.mov (.t 3),none⟩,⟨some 110,.faddr 3 (.t 16),none⟩,⟨some 111,.load 1 false (.t 110),none⟩,⟨some 112,.iaddr 4 (.t 111) (.c (.v (.int .i64 1))),none⟩,⟨some 113,.load 4 true (.t 112),none⟩,⟨some 114,.call bit [(.t 109),(.t 113)],none⟩,⟨some 17,.mov (.t 114),none⟩]) (.seq (.ops [⟨some 115,.bslice 1 [(.v (.int .i64 0))] 0 [],none⟩,⟨some 18,.mov (.t 115),none⟩]) (.seq (.seq (.ops [⟨some 116,.load 1 false (.t 6),none⟩,⟨some 117,.len false (.t 116),none⟩,⟨some 118,.mov (.c (.v (.int .i64 0))),none⟩]) (.block 8 (.loop (.seq (.ops [⟨some 119,.bin .lss false (.t 118) (.t 117),none⟩]) (.seq (.cond (.t 119) .skip (.exit 8)) (.seq (.block 9 (.seq (.ops [⟨some 120,.mov (.t 118),none⟩,⟨some 121,.iaddr 2 (.t 116) (.t 118),none⟩,⟨some 122,.load 2 true (.t 121),none⟩,⟨some 20,.alloc (.agg [(.v (.int .u64 0)),(.v (.int .u64 0))]),none⟩,⟨some 19,.mov (.t 120),none⟩,⟨none,.store 2 (.t 20) (.t 122),none⟩]) (.seq (.draw [[⟨some 123,.faddr 0 (.t 20),none⟩,⟨some 124,.load 1 false (.t 123),none⟩,⟨some 125,.mov (.t 15),none⟩,⟨some 126,.bin .shl false (.c (.v (.int .u64 1))) (.t 125),none⟩],[⟨some 127,.bin .and false (.t 124) (.t 126),none⟩],[⟨some 128,.bin .eql false (.t 127) (.c (.v (.int .u64 0))),none⟩],[⟨some 129,.mov (.t 128),none⟩],[⟨some 130,.faddr 0 (.t 20),some (129,false)⟩,⟨some 131,.load 1 false (.t 130),some (129,false)⟩,⟨some 132,.mov (.t 17),some (129,false)⟩],[⟨some 133,.bin .and false (.t 131) (.t 132),some (129,false)⟩],[⟨some 134,.bin .neq false (.t 133) (.c (.v (.int .u64 0))),some (129,false)⟩],[⟨some 135,.pick (.t 129) (.c (.v (.bool true))) (.t 134),none⟩]]) (.cond (.t 135) (.ops [⟨some 136,.mov (.t 18),none⟩,⟨some 137,.mov (.t 19),none⟩,⟨some 138,.bslice 1 [(.v (.int .i64 0))] 1 [(0,1,(.t 137))],none⟩,⟨some 139,.append 1 8 [(.v (.int .i64 0))] (.t 136) (.t 138),none⟩,⟨some 18,.mov (.t 139),none⟩]) .skip)))) (.ops [⟨some 140,.bin .add false (.t 118) (.c (.v (.int .i64 1))),none⟩,⟨some 118,.mov (.t 140),none⟩]))))))) (.ops [⟨some 141,.faddr 3 (.t 5),none⟩,⟨some 142,.load 1 false (.t 141),none⟩,⟨some 143,.mov (.t 18),none⟩,⟨some 144,.bslice 1 [(.v (.slice none 0 0))] 1 [(0,1,(.t 143))],none⟩,⟨some 145,.append 1 24 [(.v (.slice none 0 0))] (.t 142) (.t 144),none⟩,⟨some 146,.faddr 3 (.t 5),none⟩,⟨none,.store 1 (.t 146) (.t 145),none⟩]))))))) (.ops [⟨some 147,.bin .add false (.t 97) (.c (.v (.int .i64 1))),none⟩,⟨some 97,.mov (.t 147),none⟩]))))))) irOf9)
def irOf2 (lit bit : Nat) : IR := (.seq (.seq (.ops [⟨some 54,.load 1 false (.t 6),none⟩,⟨some 55,.len false (.t 54),none⟩,⟨some 56,.mov (.c (.v (.int .i64 0))),none⟩]) (.block 2 (.loop (.seq (.ops [⟨some 57,.bin .lss false (.t 56) (.t 55),none⟩]) (.seq (.cond (.t 57) .skip (.exit 2)) (.seq (.block 3 (.seq (.ops [⟨some 58,.iaddr 2 (.t 54) (.t 56),none⟩,⟨some 59,.load 2 true (.t 58),none⟩,⟨some 11,.alloc (.agg [(.v (.int .u64 0)),(.v (.int .u64 0))]),none⟩,⟨none,.store 2 (.t 11) (.t 59),none⟩]) (.seq (.ops [⟨some 12,.mov (.c (.v (.slice none 0 0))),none⟩]) (.seq (.seq (.ops [⟨some 60,.mov (.t 3),none⟩,⟨some 61,.nilchk (.t 60),none⟩,⟨some 62,.faddr 0 (.t 61),none⟩,⟨some 63,.load 1 false (.t 62),none⟩,⟨some 64,.len false (.t 63),none⟩,⟨some 65,.mov (.c (.v (.int .i64 0))),none⟩]) (.block 4 (.loop (.seq (.ops [⟨some 66,.bin .lss false (.t 65) (.t 64),none⟩]) (.seq (.cond (.t 66) .skip (.exit 4)) (.seq (.block 5 (.seq (.ops [⟨some 67,.mov (.t 65),none⟩,⟨some 68,.iaddr 4 (.t 63) (.t 65),none⟩,⟨some 69,.load 4 true (.t 68),none⟩,⟨some 14,.alloc (.agg [(.v (.int .i64 0)),(.v (.int .i64 0)),(.v (.int .i64 0)),(.v (.slice none 0 0))]),none⟩,⟨some 13,.mov (.t 67),none⟩,⟨none,.store 4 (.t 14) (.t 69),none⟩]) (.seq (.draw [[⟨some 70,.faddr 0 (.t 11),none⟩,⟨some 71,.load 1 false (.t 70),none⟩,⟨some 72,.mov (.t 13),none⟩,⟨some 73,.bin .shl false (.c (.v (.int .u64 1))) (.t 72),none⟩],[⟨some 74,.bin .and false (.t 71) (.t 73),none⟩],[⟨some 75,.bin .neq false (.t 74) (.c (.v (.int .u64 0))),none⟩],[⟨some 76,.mov (.t 75),none⟩],[⟨some 77,.load 4 true (.t 14),some (76,true)⟩],[⟨some 78,.call lit [(.t 77)],some (76,true)⟩],[⟨some 79,.pick (.t 76) (.t 78) (.c (.v (.bool false))),none⟩]]) (.cond (.t 79) (.ops [⟨some 80,.mov (.t 12),none⟩,⟨some 81,.load 4 true (.t 14),none⟩,⟨some 82,.bslice 4 [(.v (.int .i64 0)),(.v (.int .i64 0)),(.v (.int .i64 0)),(.v (.slice none 0 0))] 1 [(0,4,(.t 81))],none⟩,⟨some 83,.append 4 48 [(.v (.int .i64 0)),(.v (.int .i64 0)),(.v (.int .i64 0)),(.v (.slice none 0 0))] (.t 80) (.t 82),none⟩,⟨some 12,.mov (.t 83),none⟩]) .skip)))) (.ops [⟨some 84,.bin .add false (.t 65) (.c (.v (.int .i64 1))),none⟩,⟨some 65,.mov (.t 84),none⟩]))))))) (.ops [⟨some 85,.faddr 0 (.t 5),none⟩,⟨some 86,.load 1 false (.t 85),none⟩,⟨some 87,.mov (.t 12),none⟩,⟨some 88,.bslice 1 [(.v (.slice none 0 0))] 1 [(0,1,(.t 87))],none⟩,⟨some 89,.append 1 24 [(.v (.slice none 0 0))] (.t 86) (.t 88),none⟩,⟨some 90,.faddr 0 (.t 5),none⟩,⟨none,.store 1 (.t 90) (.t 89),none⟩]))))) (.ops [⟨some 91,.bin .add false (.t 56) (.c (.v (.int .i64 1))),none⟩,⟨some 56,.mov (.t 91),none⟩]))))))) (irOf6 lit bit))
def irOf0 (lit bit num cover : Nat) : IR := (.seq (.seq (.ops [⟨some 9,.mov (.c (.v (.int .i64 0))),none⟩]) (.block 0 (.loop (.seq (.seq (.ops [⟨some 34,.mov (.t 9),none⟩,⟨some 35,.load 1 false (.t 6),none⟩,⟨some 36,.len false (.t 35),none⟩,⟨some 37,.bin .lss false (.t 34) (.t 36),none⟩]) (.cond (.t 37) .skip (.exit 0))) (.seq (.block 1 (.drawN [⟨some 40,.faddr 1 (.t 5),none⟩,⟨some 42,.mov (.t 8),none⟩,⟨some 43,.mov (.t 3),none⟩,⟨some 45,.mov (.t 9),none⟩,⟨some 53,.faddr 1 (.t 5),none⟩] (.alt ⟨some 41,.load 1 false (.t 40),none⟩ (.alt ⟨some 44,.load 1 false (.t 6),none⟩ (.alt ⟨some 46,.iaddr 2 (.t 44) (.t 45),none⟩ (.alt ⟨some 47,.faddr 1 (.t 46),none⟩ (.alt ⟨some 48,.load 1 false (.t 47),none⟩ (.alt ⟨some 49,.call cover [(.t 43),(.t 48)],none⟩ (.alt ⟨some 50,.calld (.t 42) [(.t 49)],none⟩ (.alt ⟨some 51,.bslice 1 [(.v (.slice none 0 0))] 1 [(0,1,(.t 50))],none⟩ (.alt ⟨some 52,.append 1 24 [(.v (.slice none 0 0))] (.t 41) (.t 51),none⟩ (.alt ⟨none,.store 1 (.t 53) (.t 52),none⟩ .done .none) .none) .none) .none) .none) .none) .none) .none) .none) (.alt ⟨some 44,.load 1 false (.t 6),none⟩ (.alt ⟨some 41,.load 1 false (.t 40),none⟩ (.alt ⟨some 46,.iaddr 2 (.t 44) (.t 45),none⟩ (.alt ⟨some 47,.faddr 1 (.t 46),none⟩ (.alt ⟨some 48,.load 1 false (.t 47),none⟩ (.alt ⟨some 49,.call cover [(.t 43),(.t 48)],none⟩ (.alt ⟨some 50,.calld (.t 42) [(.t 49)],none⟩ (.alt ⟨some 51,.bslice 1 [(.v (.slice none 0 0))] 1 [(0,1,(.t 50))],none⟩ (.alt ⟨some 52,.append 1 24 [(.v (.slice none 0 0))] (.t 41) (.t 51),none⟩ (.alt ⟨none,.store 1 (.t 53) (.t 52),none⟩ .done .none) .none) .none) .none) .none) .none) .none) .none) (.alt ⟨some 46,.iaddr 2 (.t 44) (.t 45),none⟩ (.alt ⟨some 41,.load 1 false (.t 40),none⟩ (.alt ⟨some 47,.faddr 1 (.t 46),none⟩ (.alt ⟨some 48,.load 1 false (.t 47),none⟩ (.alt ⟨some 49,.call cover [(.t 43),(.t 48)],none⟩ (.alt ⟨some 50,.calld (.t 42) [(.t 49)],none⟩ (.alt ⟨some 51,.bslice 1 [(.v (.slice none 0 0))] 1 [(0,1,(.t 50))],none⟩ (.alt ⟨some 52,.append 1 24 [(.v (.slice none 0 0))] (.t 41) (.t 51),none⟩ (.alt ⟨none,.store 1 (.t 53) (.t 52),none⟩ .done .none) .none) .none) .none) .none) .none) .none) (.alt ⟨some 47,.faddr 1 (.t 46),none⟩ (.alt ⟨some 41,.load 1 false (.t 40),none⟩ (.alt ⟨some 48,.load 1 false (.t 47),none⟩ (.alt ⟨some 49,.call cover [(.t 43),(.t 48)],none⟩ (.alt ⟨some 50,.calld (.t 42) [(.t 49)],none⟩ (.alt ⟨some 51,.bslice 1 [(.v (.slice none 0 0))] 1 [(0,1,(.t 50))],none⟩ (.alt ⟨some 52,.append 1 24 [(.v (.slice none 0 0))] (.t 41) (.t 51),none⟩ (.alt ⟨none,.store 1 (.t 53) (.t 52),none⟩ .done .none) .none) .none) .none) .none) .none) (.alt ⟨some 48,.load 1 false (.t 47),none⟩ (.alt ⟨some 41,.load 1 false (.t 40),none⟩ (.alt ⟨some 49,.call cover [(.t 43),(.t 48)],none⟩ (.alt ⟨some 50,.calld (.t 42) [(.t 49)],none⟩ (.alt ⟨some 51,.bslice 1 [(.v (.slice none 0 0))] 1 [(0,1,(.t 50))],none⟩ (.alt ⟨some 52,.append 1 24 [(.v (.slice none 0 0))] (.t 41) (.t 51),none⟩ (.alt ⟨none,.store 1 (.t 53) (.t 52),none⟩ .done .none) .none) .none) .none) .none) (.alt ⟨some 49,.call cover [(.t 43),(.t 48)],none⟩ (.alt ⟨some 41,.load 1 false (.t 40),none⟩ (.alt ⟨some 50,.calld (.t 42) [(.t 49)],none⟩ (.alt ⟨some 51,.bslice 1 [(.v (.slice none 0 0))] 1 [(0,1,(.t 50))],none⟩ (.alt ⟨some 52,.append 1 24 [(.v (.slice none 0 0))] (.t 41) (.t 51),none⟩ (.alt ⟨none,.store 1 (.t 53) (.t 52),none⟩ .done .none) .none) .none) .none) (.alt ⟨some 50,.calld (.t 42) [(.t 49)],none⟩ (.alt ⟨some 41,.load 1 false (.t 40),none⟩ (.alt ⟨some 51,.bslice 1 [(.v (.slice none 0 0))] 1 [(0,1,(.t 50))],none⟩ (.alt ⟨some 52,.append 1 24 [(.v (.slice none 0 0))] (.t 41) (.t 51),none⟩ (.alt ⟨none,.store 1 (.t 53) (.t 52),none⟩ .done .none) .none) .none) (.alt ⟨some 51,.bslice 1 [(.v (.slice none 0 0))] 1 [(0,1,(.t 50))],none⟩ (.alt ⟨some 41,.load 1 false (.t 40),none⟩ (.alt ⟨some 52,.append 1 24 [(.v (.slice none 0 0))] (.t 41) (.t 51),none⟩ (.alt ⟨none,.store 1 (.t 53) (.t 52),none⟩ .done .none) .none) .none) .none)) .none)) .none)) .none)) .none)) .none)) .none)))) (.ops [⟨some 38,.mov (.t 9),none⟩,⟨some 39,.bin .add false (.t 38) (.c (.v (.int .i64 1))),none⟩,⟨some 9,.mov (.t 39),none⟩])))))) (irOf2 lit bit))
def irOfA (lit bit num cover : Nat) : IR := (.seq (.ops [⟨some 1,.box (.t 0),none⟩,⟨some 2,.alloc (.agg [(.v (.slice none 0 0)),(.v (.slice none 0 0)),(.v (.slice none 0 0)),(.v (.slice none 0 0))]),none⟩]) (.seq (.ops [⟨some 21,.build [(.v (.slice none 0 0))] [],none⟩,⟨some 22,.box (.t 21),none⟩,⟨some 3,.mov (.t 22),none⟩]) (.seq (.ops [⟨some 23,.mov (.t 3),none⟩,⟨some 24,.load 4 true (.t 1),none⟩,⟨some 25,.call bit [(.t 23),(.t 24)],none⟩,⟨some 4,.mov (.t 25),none⟩]) (.seq (.ops [⟨some 5,.alloc (.agg [(.v (.slice none 0 0)),(.v (.slice none 0 0)),(.v (.slice none 0 0)),(.v (.slice none 0 0))]),none⟩]) (.seq (.ops [⟨some 6,.alloc (.v (.slice none 0 0)),none⟩]) (.seq (.ops [⟨some 26,.mkmap (.p .u64),none⟩,⟨some 7,.alloc (.v (.map none)),none⟩,⟨none,.store 1 (.t 7) (.t 26),none⟩]) (.seq (.ops [⟨some 27,.mkfn (.func num) [] [(.t 7),(.t 6)],none⟩,⟨some 8,.mov (.t 27),none⟩]) (.seq (.ops [⟨some 28,.mov (.t 8),none⟩,⟨some 29,.mov (.t 3),none⟩,⟨some 30,.mov (.t 4),none⟩,⟨some 31,.call cover [(.t 29),(.t 30)],none⟩,⟨some 32,.calld (.t 28) [(.t 31)],none⟩,⟨some 33,.faddr 2 (.t 5),none⟩,⟨none,.store 1 (.t 33) (.t 32),none⟩]) (irOf0 lit bit num cover)))))))))
theorem irOfT_eq (lit bit num cover : Nat) : irOfT lit bit num cover = ⟨149, [.c 2 4 true], irOfA lit bit num cover⟩ := rfl
structure TabF (P : Program) (S : List T) where
 lit : Nat
 bit : Nat
 split : Nat
 same : Nat
 cover : Nat
 num : Nat
 icv : compF P cover = some (irCoverT split)
 isp : compFS selSplit P split = some (irSplit lit bit)
 ib : compFS selBit P bit = some (irBitT same)
 inum : compF P num = some irNumber
 hS : Parts S
 isame : ∀ x ∈ S, ∀ y ∈ S, PC P same [x.toL, y.toL] (boolL (x.same y))
 ilit : ∀ e ∈ S, PC P lit [e.toL] (boolL e.lit)
def ofB (init : List Int) (s : OfSt) (nxE : L) : Heap := [some [.v (.slice none 0 0), .v (.slice none 0 0), .v (.slice none 0 0), .v (.slice none 0 0)], some [.view 4 6 0 s.l.length false], some [.v (.slice none 0 0), nxE, .sl 1 false (init.map intL), .v (.slice none 0 0)], some [.view 2 7 0 s.N.length false], some [.mp (.p .u64) (ndA s.N)], some [.mref 4], some (trC s.l), some (ndC s.N)]
def ofH (init : List Int) (s : OfSt) : Heap := if s.nx = [] then ofB init s (.v (.slice none 0 0)) else ofB init s (.view 1 8 0 s.nx.length false) ++ [some (s.nx.map intsL)]
def ofE (num : Nat) (s : OfSt) : Env := [(2, .ptr 0 0), (3, .ptr 1 0), (5, .ptr 2 0), (6, .ptr 3 0), (8, .fn (.func num) [] [.ptr 5 0, .ptr 3 0]), (9, intL s.nx.length)]
theorem of_head {P : Program} {S : List T} (F : TabF P S) {e : T} (he : e ∈ S) {Q : X → Env → Heap → Prop}
  (hQ : ∀ E H, weak 0 ((9, .v (.int .i64 0)) :: E) H (ofE F.num (ofStart e)) (ofH (ofInit e) (ofStart e)) → lwp P 0 (irOf0 F.lit F.bit F.num F.cover) Q E H) :
  lwp P 0 (irOfA F.lit F.bit F.num F.cover) Q (params 0 [e.toL]) [] := by
 obtain ⟨hst, hc⟩ := stOk_start F.hS he
 have hcov := cover_own F.icv F.isp F.ib F.hS F.isame F.ilit (l := [e]) (todo := oneB 0) ⟨fun x hx => by rw [List.mem_singleton.1 hx]; exact he, by simp⟩ (.one (by simp) (by omega))
 have hnum := num_nil F.inum hc.ne (Nat.le_trans hc.len (by omega))
 simp [irOfA]
 refine callT_frame [2] (bit_nil F.ib (e := e)) (by simp) (by simp) (by simp) (by simp) (by simp) ?_
 rintro _ _ ⟨rfl, rfl⟩
 simp [mergeH, setRows, upN]
 refine callT_frame [2, 3] hcov (by simp) (by simp) (by simp) (by simp) (by simp) ?_
 rintro _ _ ⟨rfl, rfl⟩
 simp [mergeH, setRows, upN]
 refine callT_frame [7, 5, 6] hnum (by simp) (by simp) (by simp) (by simp) (by simp) ?_
 rintro _ _ ⟨rfl, rfl⟩
 simp [mergeH, setRows, upN]
 refine hQ _ _ ⟨[1, 2, 4, 5, 6, 7, 8, 9], ?_⟩
 simp [ofE, ofH, ofB, ofStart, ofInit, ofC0]
theorem prC_at1 {N : List Nd} {i : Nat} (h : i < N.length) : (ndC N)[i * 2 + 1]? = some (u64B N[i].2) := by
 induction N generalizing i with
 | nil => simp at h
 | cons n N ih =>
  rw [ndC, List.map_cons, prC_cons]
  cases i with
  | zero => rfl
  | succ i =>
   rw [show (i + 1) * 2 + 1 = i * 2 + 1 + 1 + 1 by omega, List.getElem?_cons_succ, List.getElem?_cons_succ]
   simpa using ih (by simpa using h)
def OfInv (S : List T) (e : T) (x : OfSt × Nat) : Prop := StOk S x.1 ∧ ofLoop x.2 x.1 = ofEnd e ∧ x.2 + x.1.nx.length = 300000 ∧ x.1.nx.length ≤ x.1.N.length
theorem of_loop0 {P : Program} {S : List T} (F : TabF P S) {e : T} {Q : X → Env → Heap → Prop} {init : List Int}
  (hQ : ∀ E s, StOk S s → s = ofEnd e → s.nx.length = s.N.length → lk E 2 = .ptr 0 0 → lk E 3 = .ptr 1 0 → lk E 5 = .ptr 2 0 → lk E 6 = .ptr 3 0 → lwp P 0 (irOf2 F.lit F.bit) Q E (ofH init s)) {s0 : OfSt} (h0 : OfInv S e (s0, 300000)) {E : Env} {H : Heap} (hw : weak 0 ((9, .v (.int .i64 0)) :: E) H (ofE F.num s0) (ofH init s0)) :
  lwp P 0 (irOf0 F.lit F.bit F.num F.cover) Q E H := by
 simp [irOf0]
 refine lwp_loop (fun x : OfSt × Nat => ofE F.num x.1) (fun x => ofH init x.1) (fun x => x.2) (OfInv S e) (s0, 300000) h0 hw ?_
 rintro ⟨s, f⟩ ⟨hs, he, hf, hle⟩
 simp only at hs he hf hle
 have hN := hs.len F.hS
 by_cases hlt : s.nx.length < s.N.length
 ·obtain ⟨f, rfl⟩ : ∃ f', f = f' + 1 := ⟨f - 1, by omega⟩
  rw [ofLoop, if_pos hlt] at he
  obtain ⟨hst, hc⟩ := hs.step F.hS hlt
  have hm : s.N.getD s.nx.length (0#64, 0#64) = s.N[s.nx.length] := by rw [List.getD, List.getElem?_eq_getElem hlt]; rfl
  have hcov := cover_own F.icv F.isp F.ib F.hS F.isame F.ilit hs.tab (todo := (s.N.getD s.nx.length (0#64, 0#64)).2) (hs.bits _ (by rw [hm]; exact List.getElem_mem hlt)).2
  have hnum := num_own F.inum hs.ne hc.ne (Nat.le_trans hc.len (by omega)) (Nat.le_trans hN (by omega))
  have hw1 : IntKind.i64.wrap ((s.nx.length : Int) + 1) = ((s.nx.length + 1 : Nat) : Int) := wrap_id (by omega) (by omega)
  have hinv : OfInv S e (ofStep s, f) := ⟨hst, he, by simp [ofStep]; omega, by
   have h1 := addN_pre (N := s.N) (c := (coverF s.l (s.N.getD s.nx.length (0#64, 0#64)).2).2)
   have h2 := h1.length_le
   simp [ofStep]
   simp [List.getD] at h2
   omega⟩
  have hstep : ofStep s = ⟨(coverF s.l (s.N.getD s.nx.length (0#64, 0#64)).2).1, addN s.N (coverF s.l (s.N.getD s.nx.length (0#64, 0#64)).2).2, s.nx ++ [numIx (addN s.N (coverF s.l (s.N.getD s.nx.length (0#64, 0#64)).2).2) (coverF s.l (s.N.getD s.nx.length (0#64, 0#64)).2).2]⟩ := rfl
  obtain ⟨c, hcc⟩ : ∃ c, c = coverF s.l (s.N.getD s.nx.length (0#64, 0#64)).2 := ⟨_, rfl⟩
  rw [← hcc] at hcov hnum hstep
  rw [hm] at hcov
  obtain ⟨i, hi⟩ : ∃ i, i = s.nx.length := ⟨_, rfl⟩
  have hiN : i < s.N.length := by omega
  have hgi : s.N[s.nx.length] = s.N[i] := by simp [hi]
  rw [hgi] at hcov
  have hat : (ndC s.N)[i * 2 + 1]? = some (u64B s.N[i].2) := prC_at1 hiN
  have hge : ofE F.num s = [(2, .ptr 0 0), (3, .ptr 1 0), (5, .ptr 2 0), (6, .ptr 3 0), (8, .fn (.func F.num) [] [.ptr 5 0, .ptr 3 0]), (9, intL i)] := by rw [hi]; rfl
  have hge2 : ofE F.num (ofStep s) = [(2, .ptr 0 0), (3, .ptr 1 0), (5, .ptr 2 0), (6, .ptr 3 0), (8, .fn (.func F.num) [] [.ptr 5 0, .ptr 3 0]), (9, intL ((i + 1 : Nat) : Int))] := by
   rw [hstep]; simp [ofE, hi]
  have hH2 : ofH init (ofStep s) = ofB init (ofStep s) (.view 1 8 0 (i + 1) false) ++ [some ((s.nx ++ [numIx (addN s.N c.2) c.2]).map intsL)] := by
   unfold ofH
   rw [if_neg (by rw [hstep]; simp), hstep]; simp [hi]
  have hw2 : IntKind.i64.wrap ((i : Int) + 1) = ((i + 1 : Nat) : Int) := by rw [hi]; exact hw1
  have hil : s.nx.length = i := hi.symm
  dsimp only
  rw [hge]
  by_cases hnx : s.nx = []
  ·have hH : ofH init s = ofB init s (.v (.slice none 0 0)) := by unfold ofH; rw [if_pos hnx]
   have hi0 : i = 0 := by rw [hi, hnx]; rfl
   rw [hH]
   simp [ofB, hiN]
   refine lwp_drawN1' ?_
   simp [hiN, hat]
   repeat' (with_reducible apply And.intro)
   all_goals
    refine callT_frame [1, 6] hcov (by simp) (by simp) (by simp) (by simp) (by simp) ?_
    rintro _ _ ⟨rfl, rfl⟩
    simp [mergeH, setRows, upN]
   all_goals (repeat' (with_reducible apply And.intro))
   all_goals
    refine callT_frame [5, 3, 4, 7] hnum (by simp) (by simp) (by simp) (by simp) (by simp) ?_
    rintro _ _ ⟨rfl, rfl⟩
    simp [mergeH, setRows, upN, hw2]
   all_goals (repeat' (with_reducible apply And.intro))
   all_goals
    refine ⟨(ofStep s, f), hinv, by simp only; omega, [0, 1, 2, 3, 4, 5, 8, 9, 11], ?_⟩
    dsimp only
    rw [hge2, hH2]
    simp [ofB, hstep, hnx, hi0]
  ·have hH : ofH init s = ofB init s (.view 1 8 0 i false) ++ [some (s.nx.map intsL)] := by unfold ofH; rw [if_neg hnx, hi]
   have hsz : (i + 1) * 24 ≤ 70368744177664 := by omega
   rw [hH]
   simp [ofB, hiN]
   refine lwp_drawN1' ?_
   simp [hiN, hat]
   repeat' (with_reducible apply And.intro)
   all_goals
    refine callT_frame [1, 6] hcov (by simp) (by simp) (by simp) (by simp) (by simp) ?_
    rintro _ _ ⟨rfl, rfl⟩
    simp [mergeH, setRows, upN]
   all_goals (repeat' (with_reducible apply And.intro))
   all_goals
    refine callT_frame [5, 3, 4, 7] hnum (by simp) (by simp) (by simp) (by simp) (by simp) ?_
    rintro _ _ ⟨rfl, rfl⟩
    simp [mergeH, setRows, upN, hw2, hil, hsz]
   all_goals (repeat' (with_reducible apply And.intro))
   all_goals
    refine ⟨(ofStep s, f), hinv, by simp only; omega, [0, 1, 2, 3, 4, 5, 9, 10, 12], ?_⟩
    dsimp only
    rw [hge2, hH2]
    simp [ofB, hstep]
 ·have hge : s.nx.length = s.N.length := by omega
  have hse : s = ofEnd e := by
   rw [← he]
   cases f with
   | zero => rfl
   | succ f => rw [ofLoop, if_neg hlt]
  by_cases hnx : s.nx = []
  ·exact absurd (List.length_eq_zero_iff.1 (by rw [← hge, hnx]; rfl)) hs.ne
  ·have h2 := fun E : Env => hQ E s hs hse hge
   simp [ofH, hnx, ofB] at h2
   simp [ofH, hnx, ofE, ofB, hlt]
   refine h2 _ ?_ ?_ ?_ ?_ <;> simp
theorem litsTo_succ {l : List T} {n : Nd} {i : Nat} : litsTo l n (i + 1) = if (n.1.getLsbD i && (l.getD i T.none0).lit) = true then litsTo l n i ++ [l.getD i T.none0] else litsTo l n i := by
 unfold litsTo
 rw [List.range_succ, List.filter_append, List.map_append, List.filter_cons, List.filter_nil]
 by_cases h : (n.1.getLsbD i && (l.getD i T.none0).lit) = true
 ·rw [if_pos h, if_pos h]; rfl
 ·rw [if_neg h, if_neg h]; simp
theorem litsTo_len {l : List T} {n : Nd} {i : Nat} : (litsTo l n i).length ≤ i := by
 unfold litsTo
 rw [List.length_map]
 exact Nat.le_trans (List.length_filter_le _ _) (by simp)
def cellT (l : List T) : L := if l = [] then .v (.slice none 0 0) else .sl 4 false (l.map T.toL)
theorem cellT_nil : cellT [] = .v (.slice none 0 0) := rfl
theorem cellT_ne {l : List T} (h : l ≠ []) : cellT l = .sl 4 false (l.map T.toL) := if_neg h
theorem cells_cellT (l : List T) : (cellT l).cells = [cellT l] := by unfold cellT; split <;> rfl
theorem solid_cellT (l : List T) : solid (cellT l) = true := by unfold cellT; split <;> rfl
theorem closed_cellT (l : List T) : closed (cellT l) = true := by unfold cellT; split <;> rfl
theorem below_cellT (n : Nat) (l : List T) : below n (cellT l) = true := by unfold cellT; split <;> simp
theorem ren_cellT (f : Nat → Nat) (l : List T) : ren f (cellT l) = cellT l := by unfold cellT; split <;> simp
theorem frz_cellT (H : Heap) (fz : List Nat) (l : List T) : frz H fz (cellT l) = cellT l := by unfold cellT; split <;> simp
attribute [simp] cells_cellT solid_cellT closed_cellT below_cellT ren_cellT frz_cellT
theorem trC_chunk {l : List T} : (List.range l.length).map (fun i => L.agg (((trC l).drop (i * 4)).take 4)) = l.map T.toL := by
 refine List.ext_getElem (by simp) fun i h1 h2 => ?_
 simp at h1 h2
 simp only [List.getElem_map, List.getElem_range]
 rw [trC_at h1, toL_agg]
def of2B (init : List Int) (s : OfSt) (liE : L) : Heap := [some [.v (.slice none 0 0), .v (.slice none 0 0), .v (.slice none 0 0), .v (.slice none 0 0)], some [.sl 4 false (s.l.map T.toL)], some [liE, .sl 1 false (s.nx.map intsL), .sl 1 false (init.map intL), .v (.slice none 0 0)], some [prsL .u64 (s.N.map ndI)]]
def liRow (s : OfSt) (q : Nat) : List L := (s.N.take q).map fun n => cellT (litsTo s.l n s.l.length)
def of2H (init : List Int) (s : OfSt) (q : Nat) : Heap := if q = 0 then of2B init s (.v (.slice none 0 0)) else of2B init s (.view 1 4 0 q false) ++ [some (liRow s q)]
theorem of_loop2 {P : Program} {S : List T} (F : TabF P S) {Q : X → Env → Heap → Prop} {init : List Int} {s : OfSt} (hs : StOk S s) (hnx : s.nx ≠ [])
  (hQ : ∀ E, lk E 2 = .ptr 0 0 → lk E 3 = .ptr 1 0 → lk E 5 = .ptr 2 0 → lk E 6 = .ptr 3 0 → lwp P 0 (irOf6 F.lit F.bit) Q E (of2H init s s.N.length))
  {E : Env} (e2 : lk E 2 = .ptr 0 0) (e3 : lk E 3 = .ptr 1 0) (e5 : lk E 5 = .ptr 2 0) (e6 : lk E 6 = .ptr 3 0) : lwp P 0 (irOf2 F.lit F.bit) Q E (ofH init s) := by
 have hN := hs.len F.hS
 have hll : s.l.length ≤ 9 := Nat.le_trans hs.tab.len F.hS.len
 have hch := prC_chunk (k := .u64) (l := s.N.map ndI)
 simp only [List.length_map] at hch
 have htc := trC_chunk (l := s.l)
 have hNpos : 0 < s.N.length := List.length_pos_iff.2 hs.ne
 unfold ofH
 rw [if_neg hnx]
 simp [irOf2, ofB, e6]
 refine lwp_loopF (fun q : Nat => [(2, .ptr 0 0), (3, .ptr 1 0), (5, .ptr 2 0), (6, .ptr 3 0), (54, prsL .u64 (s.N.map ndI)), (55, intL s.N.length), (56, intL q)]) (fun q => of2H init s q) (fun q => s.N.length - q) (fun q => q ≤ s.N.length) 0 (by simp) [6, 7, 8] ⟨[0, 1, 2, 3], ?_⟩ ?_
 ·simp [of2H, of2B, e2, e3, e5, e6, hch, htc]
 ·intro q hq
  by_cases hlt : q < s.N.length
  ·have hw : IntKind.i64.wrap ((q : Int) + 1) = ((q + 1 : Nat) : Int) := wrap_id (by omega) (by omega)
   obtain ⟨n, hn⟩ : ∃ n, n = s.N[q] := ⟨_, rfl⟩
   have hrow : liRow s (q + 1) = liRow s q ++ [cellT (litsTo s.l n s.l.length)] := by
    unfold liRow; rw [List.take_succ_eq_append_getElem hlt, List.map_append, hn]; rfl
   have hrl : (liRow s q).length = q := by simp [liRow]; omega
   have hrc : ∀ x ∈ liRow s q, closed x = true ∧ solid x = true := fun x hx => by
    simp only [liRow, List.mem_map] at hx; obtain ⟨n, -, rfl⟩ := hx; exact ⟨closed_cellT _, solid_cellT _⟩
   have hrb : ∀ m, belowL m (liRow s q) = true := fun m => by unfold liRow; rw [belowL_map]; intro x _; simp
   have hrr : ∀ f, renL f (liRow s q) = liRow s q := fun f => by unfold liRow; rw [renL_map]; simp only [ren_cellT]
   have hrf : ∀ H fz, (liRow s q).map (frz H fz) = liRow s q := fun H fz => by unfold liRow; rw [List.map_map]; exact List.map_congr_left fun x _ => frz_cellT _ _ _
   have hrcS : ∀ x ∈ liRow s q, solid x = true := fun x hx => (hrc x hx).2
   by_cases h0 : q = 0
   ·subst h0
    have hr0 : liRow s 0 = [] := rfl
    have hw : IntKind.i64.wrap 1 = 1 := by decide
    simp [of2H, of2B, hlt, ← hn]
    refine lwp_loop (fun i : Nat => [(2, .ptr 0 0), (3, .ptr 1 0), (5, .ptr 2 0), (6, .ptr 3 0), (11, .ptr 4 0), (12, if litsTo s.l n i = [] then .v (.slice none 0 0) else .view 4 5 0 (litsTo s.l n i).length false), (54, prsL .u64 (s.N.map ndI)), (55, intL s.N.length), (56, intL 0), (63, .sl 4 false (s.l.map T.toL)), (64, intL s.l.length), (65, intL i)])
     (fun i => (of2B init s (.v (.slice none 0 0))) ++ (some [u64B n.1, u64B n.2] :: (if litsTo s.l n i = [] then [] else [some (trC (litsTo s.l n i))]))) (fun i => s.l.length - i) (fun i => i ≤ s.l.length) 0 (by simp) ⟨[0, 1, 2, 3, 4], ?_⟩ ?_
    ·simp [litsTo, of2B]
    ·intro i hi
     have hcl := litsTo_len (l := s.l) (n := n) (i := i)
     have hsucc := litsTo_succ (l := s.l) (n := n) (i := i)
     obtain ⟨A, hA⟩ : ∃ A, A = litsTo s.l n i := ⟨_, rfl⟩
     rw [← hA] at hcl hsucc
     by_cases hil : i < s.l.length
     ·have hwi : IntKind.i64.wrap ((i : Int) + 1) = ((i + 1 : Nat) : Int) := wrap_id (by omega) (by omega)
      have hgi : s.l.getD i T.none0 = s.l[i] := by simp [List.getD, hil]
      have hlit := F.ilit s.l[i] (hs.tab.get hil)
      rw [hgi] at hsucc
      have hb : bitsI .and .u64 (bvI n.1) (bvI (oneB i)) = 0 ↔ n.1.getLsbD i = false := by rw [andB, toNat_zero, and_oneB (by omega)]
      simp only [← hA]
      cases hbit : n.1.getLsbD i
      ·have hz := hb.2 hbit
       rw [hbit, Bool.false_and, if_neg (by decide)] at hsucc
       by_cases hAn : A = []
       ·simp [hAn, of2B, hil, setCells_toL, toL_agg, shlB, hz, hwi]
        refine ⟨i + 1, by omega, by simp only; omega, [0, 1, 2, 3, 4], ?_⟩
        dsimp only
        rw [hsucc, hAn]
        simp []
       ·simp [hAn, of2B, hil, setCells_toL, toL_agg, shlB, hz, hwi]
        refine ⟨i + 1, by omega, by simp only; omega, [0, 1, 2, 3, 4, 5], ?_⟩
        dsimp only
        rw [hsucc, if_neg hAn, if_neg hAn]
        simp []
      ·have hz : ¬ bitsI .and .u64 (bvI n.1) (bvI (oneB i)) = 0 := fun e => by rw [hb.1 e] at hbit; simp at hbit
       rw [hbit, Bool.true_and] at hsucc
       cases hl : s.l[i].lit
       ·rw [hl] at hlit
        rw [hl, if_neg (by decide)] at hsucc
        by_cases hAn : A = []
        ·simp [hAn, of2B, hil, setCells_toL, toL_agg, shlB, hz]
         refine callT_plain hlit rfl (by simp [mapO, reso_toL]) ?_
         simp [hwi]
         refine ⟨i + 1, by omega, by simp only; omega, [0, 1, 2, 3, 4], ?_⟩
         dsimp only
         rw [hsucc, hAn]
         simp []
        ·simp [hAn, of2B, hil, setCells_toL, toL_agg, shlB, hz]
         refine callT_plain hlit rfl (by simp [mapO, reso_toL]) ?_
         simp [hwi]
         refine ⟨i + 1, by omega, by simp only; omega, [0, 1, 2, 3, 4, 5], ?_⟩
         dsimp only
         rw [hsucc, if_neg hAn, if_neg hAn]
         simp []
       ·rw [hl] at hlit
        rw [hl, if_pos rfl] at hsucc
        have hne : A ++ [s.l[i]] ≠ [] := by simp
        by_cases hAn : A = []
        ·simp [hAn, of2B, hil, setCells_toL, toL_agg, shlB, hz]
         refine callT_plain hlit rfl (by simp [mapO, reso_toL]) ?_
         simp [hwi, toL_agg, setCells_toL, toL_cells_length, topOK_toL]
         refine ⟨fun x hx => solid_toL x hx, i + 1, by omega, by simp only; omega, [0, 1, 2, 3, 4, 7], ?_⟩
         dsimp only
         rw [hsucc, if_neg hne, if_neg hne, hAn]
         simp [trC_one]
        ·simp [hAn, of2B, hil, setCells_toL, toL_agg, shlB, hz]
         refine callT_plain hlit rfl (by simp [mapO, reso_toL]) ?_
         simp [hwi, toL_agg, setCells_toL, toL_cells_length, topOK_toL]
         refine ⟨fun x hx => solid_toL x hx, by omega, i + 1, by omega, by simp only; omega, [0, 1, 2, 3, 4, 8], ?_⟩
         dsimp only
         rw [hsucc, if_neg hne, if_neg hne]
         simp [trC_append, trC_one]
     ·obtain rfl : i = s.l.length := by omega
      have htcA := trC_chunk (l := A)
      have hend : liRow s 1 = [cellT A] := by have := hrow; rw [hr0, List.nil_append, ← hA] at this; exact this
      simp only [← hA]
      by_cases hAn : A = []
      ·simp [hAn, of2B, hw]
       refine ⟨0 + 1, by omega, by simp only; omega, [], [0, 1, 2, 3, 6], ?_⟩
       rw [hAn, cellT_nil] at hend
       simp [hend, frz_none]
      ·have hcA := cellT_ne hAn
       simp [hAn, of2B, hw]
       refine ⟨0 + 1, by omega, by simp only; omega, [5], [0, 1, 2, 3, 7], ?_⟩
       rw [hcA] at hend
       simp [hend, htcA]
   ·have hsz : (q + 1) * 24 ≤ 70368744177664 := by omega
    simp [of2H, h0, of2B, hlt, ← hn]
    refine lwp_loop (fun i : Nat => [(2, .ptr 0 0), (3, .ptr 1 0), (5, .ptr 2 0), (6, .ptr 3 0), (11, .ptr 5 0), (12, if litsTo s.l n i = [] then .v (.slice none 0 0) else .view 4 6 0 (litsTo s.l n i).length false), (54, prsL .u64 (s.N.map ndI)), (55, intL s.N.length), (56, intL q), (63, .sl 4 false (s.l.map T.toL)), (64, intL s.l.length), (65, intL i)])
     (fun i => (of2B init s (.view 1 4 0 q false) ++ [some (liRow s q)]) ++ (some [u64B n.1, u64B n.2] :: (if litsTo s.l n i = [] then [] else [some (trC (litsTo s.l n i))]))) (fun i => s.l.length - i) (fun i => i ≤ s.l.length) 0 (by simp) ⟨[0, 1, 2, 3, 4, 5], ?_⟩ ?_
    ·simp [litsTo, of2B, hrb, hrr]
    ·intro i hi
     have hcl := litsTo_len (l := s.l) (n := n) (i := i)
     have hsucc := litsTo_succ (l := s.l) (n := n) (i := i)
     obtain ⟨A, hA⟩ : ∃ A, A = litsTo s.l n i := ⟨_, rfl⟩
     rw [← hA] at hcl hsucc
     by_cases hil : i < s.l.length
     ·have hwi : IntKind.i64.wrap ((i : Int) + 1) = ((i + 1 : Nat) : Int) := wrap_id (by omega) (by omega)
      have hgi : s.l.getD i T.none0 = s.l[i] := by simp [List.getD, hil]
      have hlit := F.ilit s.l[i] (hs.tab.get hil)
      rw [hgi] at hsucc
      have hb : bitsI .and .u64 (bvI n.1) (bvI (oneB i)) = 0 ↔ n.1.getLsbD i = false := by rw [andB, toNat_zero, and_oneB (by omega)]
      simp only [← hA]
      cases hbit : n.1.getLsbD i
      ·have hz := hb.2 hbit
       rw [hbit, Bool.false_and, if_neg (by decide)] at hsucc
       by_cases hAn : A = []
       ·simp [hAn, of2B, hil, setCells_toL, toL_agg, shlB, hz, hwi]
        refine ⟨i + 1, by omega, by simp only; omega, [0, 1, 2, 3, 4, 5], ?_⟩
        dsimp only
        rw [hsucc, hAn]
        simp [hrb, hrr]
       ·simp [hAn, of2B, hil, setCells_toL, toL_agg, shlB, hz, hwi]
        refine ⟨i + 1, by omega, by simp only; omega, [0, 1, 2, 3, 4, 5, 6], ?_⟩
        dsimp only
        rw [hsucc, if_neg hAn, if_neg hAn]
        simp [hrb, hrr]
      ·have hz : ¬ bitsI .and .u64 (bvI n.1) (bvI (oneB i)) = 0 := fun e => by rw [hb.1 e] at hbit; simp at hbit
       rw [hbit, Bool.true_and] at hsucc
       cases hl : s.l[i].lit
       ·rw [hl] at hlit
        rw [hl, if_neg (by decide)] at hsucc
        by_cases hAn : A = []
        ·simp [hAn, of2B, hil, setCells_toL, toL_agg, shlB, hz]
         refine callT_plain hlit rfl (by simp [mapO, reso_toL]) ?_
         simp [hwi]
         refine ⟨i + 1, by omega, by simp only; omega, [0, 1, 2, 3, 4, 5], ?_⟩
         dsimp only
         rw [hsucc, hAn]
         simp [hrb, hrr]
        ·simp [hAn, of2B, hil, setCells_toL, toL_agg, shlB, hz]
         refine callT_plain hlit rfl (by simp [mapO, reso_toL]) ?_
         simp [hwi]
         refine ⟨i + 1, by omega, by simp only; omega, [0, 1, 2, 3, 4, 5, 6], ?_⟩
         dsimp only
         rw [hsucc, if_neg hAn, if_neg hAn]
         simp [hrb, hrr]
       ·rw [hl] at hlit
        rw [hl, if_pos rfl] at hsucc
        have hne : A ++ [s.l[i]] ≠ [] := by simp
        by_cases hAn : A = []
        ·simp [hAn, of2B, hil, setCells_toL, toL_agg, shlB, hz]
         refine callT_plain hlit rfl (by simp [mapO, reso_toL]) ?_
         simp [hwi, toL_agg, setCells_toL, toL_cells_length, topOK_toL]
         refine ⟨fun x hx => solid_toL x hx, i + 1, by omega, by simp only; omega, [0, 1, 2, 3, 4, 5, 8], ?_⟩
         dsimp only
         rw [hsucc, if_neg hne, if_neg hne, hAn]
         simp [trC_one, hrb, hrr]
        ·simp [hAn, of2B, hil, setCells_toL, toL_agg, shlB, hz]
         refine callT_plain hlit rfl (by simp [mapO, reso_toL]) ?_
         simp [hwi, toL_agg, setCells_toL, toL_cells_length, topOK_toL]
         refine ⟨fun x hx => solid_toL x hx, by omega, i + 1, by omega, by simp only; omega, [0, 1, 2, 3, 4, 5, 9], ?_⟩
         dsimp only
         rw [hsucc, if_neg hne, if_neg hne]
         simp [trC_append, trC_one, hrb, hrr]
     ·obtain rfl : i = s.l.length := by omega
      have htcA := trC_chunk (l := A)
      have hend : liRow s (q + 1) = liRow s q ++ [cellT A] := by rw [hrow, hA]
      simp only [← hA]
      by_cases hAn : A = []
      ·simp [hAn, of2B, hw, hrl, hsz]
       refine ⟨q + 1, by omega, by simp only; omega, [], [0, 1, 2, 3, 7], ?_⟩
       rw [hAn, cellT_nil] at hend
       simp [hend, frz_none, hrf, hrb, hrr]
      ·have hcA := cellT_ne hAn
       simp [hAn, of2B, hw, hrl, hsz]
       refine ⟨q + 1, by omega, by simp only; omega, [6], [0, 1, 2, 3, 8], ?_⟩
       rw [hcA] at hend
       simp [hend, htcA, hrf, hrb, hrr]
  ·obtain rfl : q = s.N.length := by omega
   have h0 : s.N.length ≠ 0 := by omega
   have h2 := hQ
   simp [of2H, h0, of2B] at h2 ⊢
   refine h2 _ ?_ ?_ ?_ ?_ <;> simp
end Lg


/- The sets that are met; the end of Of: what the program does. -/
namespace Lg
open Go
theorem bit_found {P : Program} {f same : Nat} (ir : compFS selBit P f = some (irBitT same)) {l : List T} {e : T} (hl : l.length ≤ 1000) (hreg : (l.findIdx fun x => x.same e) < l.length) (isame : ∀ x ∈ l, PC P same [x.toL, e.toL] (boolL (x.same e))) :
  PC P f [.pp [.sl 4 false (l.map T.toL)], e.toL] (u64B (oneB (bitF l e).1)) := by
 have hb : bitF l e = (l.findIdx fun x => x.same e, l) := by unfold bitF; rw [if_pos hreg]
 refine pc_of_call (callAt_enterS ir (by simp [irBitT]) ?_)
 simp [irBitT]
 refine lwp_loop (fun i : Nat => [(0, .pp [.sl 4 false (l.map T.toL)]), (3, .ptr 0 0), (10, .sl 4 false (l.map T.toL)), (11, intL l.length), (12, intL i)]) (fun _ => [some e.toL.cells]) (fun i => l.length - i)
  (fun i => i ≤ l.length ∧ ∀ x ∈ l.take i, x.same e = false) 0 ⟨by simp, by simp⟩ ⟨[0], by simp⟩ ?_
 rintro i ⟨hi, hno⟩
 by_cases h : i < l.length
 ·have hw : IntKind.i64.wrap ((i : Int) + 1) = ((i + 1 : Nat) : Int) := wrap_id (by omega) (by omega)
  simp [h, setCells_toL, toL_agg]
  refine callT_closed (isame l[i] (List.getElem_mem h)) (by simp [reso_toL, mapO]) ?_
  cases hs : l[i].same e
  ·simp [hw]
   refine ⟨i + 1, ⟨by omega, fun x hx => ?_⟩, by simp only; omega, [0], by simp⟩
   rw [List.take_succ_eq_append_getElem h] at hx
   rcases List.mem_append.1 hx with hx | hx
   ·exact hno x hx
   ·rw [List.mem_singleton.1 hx]; exact hs
  ·have hidx : l.findIdx (fun x => x.same e) = i := by
    rw [List.findIdx_eq h]
    refine ⟨hs, fun j hj => ?_⟩
    have hj' : j < (l.take i).length := by simp; omega
    have := hno _ (List.getElem_mem hj')
    simpa using this
   simp [shlB, hb, hidx]
 ·obtain rfl : i = l.length := by omega
  rw [List.take_length] at hno
  have := List.findIdx_getElem (w := hreg)
  rw [hno _ (List.getElem_mem hreg)] at this
  simp at this
def cellS (l : List Int) : L := if l = [] then .sl 1 true [] else .sl 1 false (l.map intL)
theorem cells_cellS (l : List Int) : (cellS l).cells = [cellS l] := by unfold cellS; split <;> rfl
theorem solid_cellS (l : List Int) : solid (cellS l) = true := by unfold cellS; split <;> rfl
theorem closed_cellS (l : List Int) : closed (cellS l) = true := by unfold cellS; split <;> rfl
theorem below_cellS (n : Nat) (l : List Int) : below n (cellS l) = true := by unfold cellS; split <;> simp
theorem ren_cellS (f : Nat → Nat) (l : List Int) : ren f (cellS l) = cellS l := by unfold cellS; split <;> simp
theorem frz_cellS (H : Heap) (fz : List Nat) (l : List Int) : frz H fz (cellS l) = cellS l := by unfold cellS; split <;> simp
attribute [simp] cells_cellS solid_cellS closed_cellS below_cellS ren_cellS frz_cellS
theorem metTo_succ {N : List Nd} {i d q : Nat} : metTo N i d (q + 1) = if (!((N.getD q (0#64, 0#64)).1.getLsbD i) || (N.getD q (0#64, 0#64)).1.getLsbD d) = true then metTo N i d q ++ [(q : Int)] else metTo N i d q := by
 unfold metTo
 rw [List.range_succ, List.filter_append, List.map_append, List.filter_cons, List.filter_nil]
 by_cases h : (!((N.getD q (0#64, 0#64)).1.getLsbD i) || (N.getD q (0#64, 0#64)).1.getLsbD d) = true
 ·rw [if_pos h, if_pos h]; rfl
 ·rw [if_neg h, if_neg h]; simp
theorem metTo_len {N : List Nd} {i d q : Nat} : (metTo N i d q).length ≤ q := by
 unfold metTo
 rw [List.length_map]
 exact Nat.le_trans (List.length_filter_le _ _) (by simp)
theorem accTo_succ {l : List T} {N : List Nd} {i : Nat} : accTo l N (i + 1) = if isUnt (l.getD i T.none0) = true then accTo l N i ++ [metTo N i (bitF l (kid1 (l.getD i T.none0))).1 N.length] else accTo l N i := by
 unfold accTo
 rw [List.range_succ, List.filter_append, List.map_append, List.filter_cons, List.filter_nil]
 by_cases h : isUnt (l.getD i T.none0) = true
 ·rw [if_pos h, if_pos h]; rfl
 ·rw [if_neg h, if_neg h]; simp
theorem accTo_len {l : List T} {N : List Nd} {i : Nat} : (accTo l N i).length ≤ i := by
 unfold accTo
 rw [List.length_map]
 exact Nat.le_trans (List.length_filter_le _ _) (by simp)
def of6B (init : List Int) (s : OfSt) (acE : L) : Heap := [some [.v (.slice none 0 0), .v (.slice none 0 0), .v (.slice none 0 0), .v (.slice none 0 0)], some [.sl 4 false (s.l.map T.toL)], some [.sl 1 false (liRow s s.N.length), .sl 1 false (s.nx.map intsL), .sl 1 false (init.map intL), acE], some [prsL .u64 (s.N.map ndI)]]
def acRow (s : OfSt) (p : Nat) : List L := (accTo s.l s.N p).map cellS
def of6H (init : List Int) (s : OfSt) (p : Nat) : Heap := if accTo s.l s.N p = [] then of6B init s (.v (.slice none 0 0)) else of6B init s (.view 1 4 0 (accTo s.l s.N p).length false) ++ [some (acRow s p)]
theorem of_loop6 {P : Program} {S : List T} (F : TabF P S) {Q : X → Env → Heap → Prop} {init : List Int} {s : OfSt} (hs : StOk S s) (hreg : ∀ i, i < s.l.length → isUnt (s.l.getD i T.none0) = true → (s.l.findIdx fun x => x.same (kid1 (s.l.getD i T.none0))) < s.l.length)
  (hQ : ∀ E, lk E 2 = .ptr 0 0 → lk E 5 = .ptr 2 0 → lwp P 0 irOf9 Q E (of6H init s s.l.length))
  {E : Env} (e2 : lk E 2 = .ptr 0 0) (e3 : lk E 3 = .ptr 1 0) (e5 : lk E 5 = .ptr 2 0) (e6 : lk E 6 = .ptr 3 0) : lwp P 0 (irOf6 F.lit F.bit) Q E (of2H init s s.N.length) := by
 have hN := hs.len F.hS
 have hll : s.l.length ≤ 9 := Nat.le_trans hs.tab.len F.hS.len
 have hNpos : 0 < s.N.length := List.length_pos_iff.2 hs.ne
 have hlc : (liRow s s.N.length).all closed = true := List.all_eq_true.2 fun x hx => by
  simp only [liRow, List.mem_map] at hx; obtain ⟨n, -, rfl⟩ := hx; exact closed_cellT _
 have hlcM : ∀ x ∈ liRow s s.N.length, closed x = true := List.all_eq_true.1 hlc
 have hll2 : (liRow s s.N.length).length = s.N.length := by simp [liRow]
 unfold of2H
 rw [if_neg (by omega)]
 simp [irOf6, of2B, e3]
 refine lwp_loopF (fun p : Nat => [(2, .ptr 0 0), (3, .ptr 1 0), (5, .ptr 2 0), (6, .ptr 3 0), (95, .sl 4 false (s.l.map T.toL)), (96, intL s.l.length), (97, intL p)]) (fun p => of6H init s p) (fun p => s.l.length - p) (fun p => p ≤ s.l.length) 0 (by simp) [4] ⟨[0, 1, 2, 3], ?_⟩ ?_
 ·simp [of6H, of6B, accTo, e2, e3, e5, e6, hll2]
  exact hlcM
 ·intro p hp
  by_cases hlt : p < s.l.length
  ·have hw : IntKind.i64.wrap ((p : Int) + 1) = ((p + 1 : Nat) : Int) := wrap_id (by omega) (by omega)
   have hgp : s.l.getD p T.none0 = s.l[p] := by simp [List.getD, hlt]
   have hlit := F.ilit s.l[p] (hs.tab.get hlt)
   have hsucc := accTo_succ (l := s.l) (N := s.N) (i := p)
   have hac : ∀ x ∈ acRow s p, closed x = true := fun x hx => by simp only [acRow, List.mem_map] at hx; obtain ⟨n, -, rfl⟩ := hx; exact closed_cellS _
   have hacS : ∀ x ∈ acRow s p, solid x = true := fun x hx => by simp only [acRow, List.mem_map] at hx; obtain ⟨n, -, rfl⟩ := hx; exact solid_cellS _
   have hacl : (acRow s p).length = (accTo s.l s.N p).length := by simp [acRow]
   have hab : ∀ m, belowL m (acRow s p) = true := fun m => by unfold acRow; rw [belowL_map]; intro x _; simp
   have har : ∀ f, renL f (acRow s p) = acRow s p := fun f => by unfold acRow; rw [renL_map]; simp only [ren_cellS]
   have haf : ∀ H fz, (acRow s p).map (frz H fz) = acRow s p := fun H fz => by unfold acRow; rw [List.map_map]; exact List.map_congr_left fun x _ => frz_cellS _ _ _
   by_cases hA : accTo s.l s.N p = []
   ·have hA0 : acRow s p = [] := by unfold acRow; rw [hA]; rfl
    cases hl : s.l[p].lit
    ·rw [hl] at hlit
     by_cases hop : s.l[p].op = 23
     ·have hu : isUnt s.l[p] = true := by simp [isUnt, hl, hop]
      have hr := hreg p hlt (by rw [hgp]; exact hu)
      rw [hgp] at hr hsucc
      rw [if_pos hu] at hsucc
      obtain ⟨x, y, hk, hxS, hyS⟩ : ∃ x y, s.l[p].l = [x, y] ∧ x ∈ S ∧ y ∈ S := by
       rcases F.hS.kids _ (hs.tab.get hlt) hl with ⟨h20, -⟩ | ⟨-, x, hx, y, hy, e⟩
       ·rw [hop] at h20; simp at h20
       ·exact ⟨x, y, e, hx, hy⟩
      have hky : kid1 s.l[p] = y := by simp [kid1, hk]
      rw [hky] at hr hsucc
      have hbit := bit_found F.ib (l := s.l) (e := y) (by omega) hr fun x hx => F.isame x (hs.tab.mem x hx) y hyS
      obtain ⟨d, hd⟩ : ∃ d, d = (bitF s.l y).1 := ⟨_, rfl⟩
      have hdl : d < s.l.length := by rw [hd]; unfold bitF; rw [if_pos hr]; exact hr
      rw [← hd] at hbit hsucc
      obtain ⟨b1, c1, hcells⟩ : ∃ b1 c1, s.l[p].toL.cells = [intL 23, intL b1, intL c1, .sl 4 false [x.toL, y.toL]] := by
       generalize s.l[p] = e at hop hk
       obtain ⟨o, b, c, ks⟩ := e
       simp only [T.op] at hop
       simp only [T.l] at hk
       exact ⟨b, c, by rw [toL_mk, hop, hk]; rfl⟩
      simp [of6H, hA, of6B, hlt, setCells_toL, toL_agg]
      refine callT_plain hlit rfl (by simp [mapO, reso_toL]) ?_
      simp [hcells, toL_agg]
      refine callT_plain hbit rfl (by simp [mapO, reso, reso_toL]) ?_
      simp
      refine lwp_loop (fun q : Nat => [(2, .ptr 0 0), (3, .ptr 1 0), (5, .ptr 2 0), (6, .ptr 3 0), (15, intL p), (17, u64B (oneB d)), (18, .view 1 5 0 (metTo s.N p d q).length (decide ((metTo s.N p d q).length = 0))), (95, .sl 4 false (s.l.map T.toL)), (96, intL s.l.length), (97, intL p), (116, prsL .u64 (s.N.map ndI)), (117, intL s.N.length), (118, intL q)])
       (fun q => of6B init s (.v (.slice none 0 0)) ++ [some [intL 23, intL b1, intL c1, .sl 4 false [x.toL, y.toL]], some ((metTo s.N p d q).map intL)]) (fun q => s.N.length - q) (fun q => q ≤ s.N.length) 0 (by simp) ⟨[0, 1, 2, 3, 4, 5], ?_⟩ ?_
      ·simp [metTo, of6B]
      ·intro q hq
       have hml := metTo_len (N := s.N) (i := p) (d := d) (q := q)
       have hms := metTo_succ (N := s.N) (i := p) (d := d) (q := q)
       obtain ⟨M, hM⟩ : ∃ M, M = metTo s.N p d q := ⟨_, rfl⟩
       rw [← hM] at hml hms
       by_cases hql : q < s.N.length
       ·have hwq : IntKind.i64.wrap ((q : Int) + 1) = ((q + 1 : Nat) : Int) := wrap_id (by omega) (by omega)
        have hgq : s.N.getD q (0#64, 0#64) = s.N[q] := by simp [List.getD, hql]
        rw [hgq] at hms
        have hbp : bitsI .and .u64 (bvI s.N[q].1) (bvI (oneB p)) = 0 ↔ s.N[q].1.getLsbD p = false := by rw [andB, toNat_zero, and_oneB (by omega)]
        have hbd : bitsI .and .u64 (bvI s.N[q].1) (bvI (oneB d)) = 0 ↔ s.N[q].1.getLsbD d = false := by rw [andB, toNat_zero, and_oneB (by omega)]
        have hsz : (M.length + 1) * 8 ≤ 70368744177664 := by omega
        have hM1 : ¬ (M.length + 1 = 0) := by omega
        simp only [← hM]
        have yes : (!(s.N[q].1.getLsbD p) || s.N[q].1.getLsbD d) = true → metTo s.N p d (q + 1) = M ++ [(q : Int)] := fun h => by rw [hms, if_pos h]
        have no : (!(s.N[q].1.getLsbD p) || s.N[q].1.getLsbD d) = false → metTo s.N p d (q + 1) = M := fun h => by rw [hms, if_neg (by rw [h]; decide)]
        cases hp1 : s.N[q].1.getLsbD p
        ·have hz := hbp.2 hp1
         have hm := yes (by rw [hp1]; rfl)
         simp [hql, shlB, hz, hwq, of6B, hsz]
         refine ⟨q + 1, by omega, by simp only; omega, [0, 1, 2, 3, 4, 8], ?_⟩
         dsimp only
         rw [hm]
         simp []
        ·have hz : ¬ bitsI .and .u64 (bvI s.N[q].1) (bvI (oneB p)) = 0 := fun e => by rw [hbp.1 e] at hp1; simp at hp1
         cases hd1 : s.N[q].1.getLsbD d
         ·have hz2 := hbd.2 hd1
          have hm := no (by rw [hp1, hd1]; rfl)
          simp [hql, shlB, hz, hz2, hwq, of6B]
          refine ⟨q + 1, by omega, by simp only; omega, [0, 1, 2, 3, 4, 5], ?_⟩
          dsimp only
          rw [hm]
          simp []
         ·have hz2 : ¬ bitsI .and .u64 (bvI s.N[q].1) (bvI (oneB d)) = 0 := fun e => by rw [hbd.1 e] at hd1; simp at hd1
          have hm := yes (by rw [hp1, hd1]; rfl)
          simp [hql, shlB, hz, hz2, hwq, of6B, hsz]
          refine ⟨q + 1, by omega, by simp only; omega, [0, 1, 2, 3, 4, 8], ?_⟩
          dsimp only
          rw [hm]
          simp []
       ·obtain rfl : q = s.N.length := by omega
        have hacn : acRow s (p + 1) = acRow s p ++ [cellS M] := by unfold acRow; rw [hsucc, ← hM, List.map_append]; rfl
        have hcM : cellS M = .sl 1 (decide (M.length = 0)) (M.map intL) := by
         unfold cellS
         by_cases hM0 : M = []
         ·simp [hM0]
         ·rw [if_neg hM0]; simp [hM0]
        have hpn : ¬ accTo s.l s.N (p + 1) = [] := by rw [hsucc]; simp
        have hpl : (accTo s.l s.N (p + 1)).length = (accTo s.l s.N p).length + 1 := by rw [hsucc]; simp
        have hal := accTo_len (l := s.l) (N := s.N) (i := p)
        have hsz : ((accTo s.l s.N p).length + 1) * 24 ≤ 70368744177664 := by omega
        simp only [← hM]
        simp [of6B, hw]
        refine ⟨p + 1, by omega, by simp only; omega, [5], [0, 1, 2, 3, 7], ?_⟩
        rw [hA0, hcM] at hacn
        have hal0 : (accTo s.l s.N p).length = 0 := by rw [hA]; rfl
        simp [hpn, hpl, hal0, hacn]
     ·have hu : isUnt s.l[p] = false := by simp [isUnt, hop]
      rw [hgp, if_neg (by rw [hu]; decide)] at hsucc
      obtain ⟨b1, c1, ks, hcells⟩ : ∃ b1 c1 ks, s.l[p].toL.cells = [intL s.l[p].op, intL b1, intL c1, .sl 4 false ks] := by
       generalize s.l[p] = e
       obtain ⟨o, b, c, ks⟩ := e
       exact ⟨b, c, _, by rw [toL_mk]; rfl⟩
      simp [of6H, hA, of6B, hlt, setCells_toL, toL_agg]
      refine callT_plain hlit rfl (by simp [mapO, reso_toL]) ?_
      simp [hcells, hop, hw]
      refine ⟨p + 1, by omega, by simp only; omega, [], [0, 1, 2, 3], ?_⟩
      simp [hsucc, hA, frz_none]
    ·rw [hl] at hlit
     have hu : isUnt s.l[p] = false := by simp [isUnt, hl]
     rw [hgp, if_neg (by rw [hu]; decide)] at hsucc
     simp [of6H, hA, of6B, hlt, setCells_toL, toL_agg]
     refine callT_plain hlit rfl (by simp [mapO, reso_toL]) ?_
     simp [hw]
     refine ⟨p + 1, by omega, by simp only; omega, [], [0, 1, 2, 3], ?_⟩
     simp [hsucc, hA, frz_none]
   ·have hA0 : (accTo s.l s.N p).length ≠ 0 := by simpa using hA
    have hacE : isUnt s.l[p] = false → acRow s (p + 1) = acRow s p := fun hu => by unfold acRow; rw [hsucc, hgp, if_neg (by rw [hu]; decide)]
    cases hl : s.l[p].lit
    ·rw [hl] at hlit
     by_cases hop : s.l[p].op = 23
     ·have hu : isUnt s.l[p] = true := by simp [isUnt, hl, hop]
      have hr := hreg p hlt (by rw [hgp]; exact hu)
      rw [hgp] at hr hsucc
      rw [if_pos hu] at hsucc
      obtain ⟨x, y, hk, hxS, hyS⟩ : ∃ x y, s.l[p].l = [x, y] ∧ x ∈ S ∧ y ∈ S := by
       rcases F.hS.kids _ (hs.tab.get hlt) hl with ⟨h20, -⟩ | ⟨-, x, hx, y, hy, e⟩
       ·rw [hop] at h20; simp at h20
       ·exact ⟨x, y, e, hx, hy⟩
      have hky : kid1 s.l[p] = y := by simp [kid1, hk]
      rw [hky] at hr hsucc
      have hbit := bit_found F.ib (l := s.l) (e := y) (by omega) hr fun x hx => F.isame x (hs.tab.mem x hx) y hyS
      obtain ⟨d, hd⟩ : ∃ d, d = (bitF s.l y).1 := ⟨_, rfl⟩
      have hdl : d < s.l.length := by rw [hd]; unfold bitF; rw [if_pos hr]; exact hr
      rw [← hd] at hbit hsucc
      obtain ⟨b1, c1, hcells⟩ : ∃ b1 c1, s.l[p].toL.cells = [intL 23, intL b1, intL c1, .sl 4 false [x.toL, y.toL]] := by
       generalize s.l[p] = e at hop hk
       obtain ⟨o, b, c, ks⟩ := e
       simp only [T.op] at hop
       simp only [T.l] at hk
       exact ⟨b, c, by rw [toL_mk, hop, hk]; rfl⟩
      simp [of6H, hA, of6B, hlt, setCells_toL, toL_agg]
      refine callT_plain hlit rfl (by simp [mapO, reso_toL]) ?_
      simp [hcells, toL_agg]
      refine callT_plain hbit rfl (by simp [mapO, reso, reso_toL]) ?_
      simp
      refine lwp_loop (fun q : Nat => [(2, .ptr 0 0), (3, .ptr 1 0), (5, .ptr 2 0), (6, .ptr 3 0), (15, intL p), (17, u64B (oneB d)), (18, .view 1 6 0 (metTo s.N p d q).length (decide ((metTo s.N p d q).length = 0))), (95, .sl 4 false (s.l.map T.toL)), (96, intL s.l.length), (97, intL p), (116, prsL .u64 (s.N.map ndI)), (117, intL s.N.length), (118, intL q)])
       (fun q => (of6B init s (.view 1 4 0 (accTo s.l s.N p).length false) ++ [some (acRow s p)]) ++ [some [intL 23, intL b1, intL c1, .sl 4 false [x.toL, y.toL]], some ((metTo s.N p d q).map intL)]) (fun q => s.N.length - q) (fun q => q ≤ s.N.length) 0 (by simp) ⟨[0, 1, 2, 3, 4, 5, 6], ?_⟩ ?_
      ·simp [metTo, of6B, hab, har]
      ·intro q hq
       have hml := metTo_len (N := s.N) (i := p) (d := d) (q := q)
       have hms := metTo_succ (N := s.N) (i := p) (d := d) (q := q)
       obtain ⟨M, hM⟩ : ∃ M, M = metTo s.N p d q := ⟨_, rfl⟩
       rw [← hM] at hml hms
       by_cases hql : q < s.N.length
       ·have hwq : IntKind.i64.wrap ((q : Int) + 1) = ((q + 1 : Nat) : Int) := wrap_id (by omega) (by omega)
        have hgq : s.N.getD q (0#64, 0#64) = s.N[q] := by simp [List.getD, hql]
        rw [hgq] at hms
        have hbp : bitsI .and .u64 (bvI s.N[q].1) (bvI (oneB p)) = 0 ↔ s.N[q].1.getLsbD p = false := by rw [andB, toNat_zero, and_oneB (by omega)]
        have hbd : bitsI .and .u64 (bvI s.N[q].1) (bvI (oneB d)) = 0 ↔ s.N[q].1.getLsbD d = false := by rw [andB, toNat_zero, and_oneB (by omega)]
        have hsz : (M.length + 1) * 8 ≤ 70368744177664 := by omega
        have hM1 : ¬ (M.length + 1 = 0) := by omega
        simp only [← hM]
        have yes : (!(s.N[q].1.getLsbD p) || s.N[q].1.getLsbD d) = true → metTo s.N p d (q + 1) = M ++ [(q : Int)] := fun h => by rw [hms, if_pos h]
        have no : (!(s.N[q].1.getLsbD p) || s.N[q].1.getLsbD d) = false → metTo s.N p d (q + 1) = M := fun h => by rw [hms, if_neg (by rw [h]; decide)]
        cases hp1 : s.N[q].1.getLsbD p
        ·have hz := hbp.2 hp1
         have hm := yes (by rw [hp1]; rfl)
         simp [hql, shlB, hz, hwq, of6B, hsz]
         refine ⟨q + 1, by omega, by simp only; omega, [0, 1, 2, 3, 4, 5, 9], ?_⟩
         dsimp only
         rw [hm]
         simp [hab, har]
        ·have hz : ¬ bitsI .and .u64 (bvI s.N[q].1) (bvI (oneB p)) = 0 := fun e => by rw [hbp.1 e] at hp1; simp at hp1
         cases hd1 : s.N[q].1.getLsbD d
         ·have hz2 := hbd.2 hd1
          have hm := no (by rw [hp1, hd1]; rfl)
          simp [hql, shlB, hz, hz2, hwq, of6B]
          refine ⟨q + 1, by omega, by simp only; omega, [0, 1, 2, 3, 4, 5, 6], ?_⟩
          dsimp only
          rw [hm]
          simp [hab, har]
         ·have hz2 : ¬ bitsI .and .u64 (bvI s.N[q].1) (bvI (oneB d)) = 0 := fun e => by rw [hbd.1 e] at hd1; simp at hd1
          have hm := yes (by rw [hp1, hd1]; rfl)
          simp [hql, shlB, hz, hz2, hwq, of6B, hsz]
          refine ⟨q + 1, by omega, by simp only; omega, [0, 1, 2, 3, 4, 5, 9], ?_⟩
          dsimp only
          rw [hm]
          simp [hab, har]
       ·obtain rfl : q = s.N.length := by omega
        have hacn : acRow s (p + 1) = acRow s p ++ [cellS M] := by unfold acRow; rw [hsucc, ← hM, List.map_append]; rfl
        have hcM : cellS M = .sl 1 (decide (M.length = 0)) (M.map intL) := by
         unfold cellS
         by_cases hM0 : M = []
         ·simp [hM0]
         ·rw [if_neg hM0]; simp [hM0]
        have hpn : ¬ accTo s.l s.N (p + 1) = [] := by rw [hsucc]; simp
        have hpl : (accTo s.l s.N (p + 1)).length = (accTo s.l s.N p).length + 1 := by rw [hsucc]; simp
        have hal := accTo_len (l := s.l) (N := s.N) (i := p)
        have hsz : ((accTo s.l s.N p).length + 1) * 24 ≤ 70368744177664 := by omega
        simp only [← hM]
        simp [of6B, hw, hsz, hacl]
        refine ⟨p + 1, by omega, by simp only; omega, [6], [0, 1, 2, 3, 8], ?_⟩
        rw [hcM] at hacn
        simp [hpn, hpl, hacn, hab, har, haf]
     ·have hu : isUnt s.l[p] = false := by simp [isUnt, hop]
      rw [hgp, if_neg (by rw [hu]; decide)] at hsucc
      obtain ⟨b1, c1, ks, hcells⟩ : ∃ b1 c1 ks, s.l[p].toL.cells = [intL s.l[p].op, intL b1, intL c1, .sl 4 false ks] := by
       generalize s.l[p] = e
       obtain ⟨o, b, c, ks⟩ := e
       exact ⟨b, c, _, by rw [toL_mk]; rfl⟩
      simp [of6H, hA, of6B, hlt, setCells_toL, toL_agg]
      refine callT_plain hlit rfl (by simp [mapO, reso_toL]) ?_
      simp [hcells, hop, hw]
      refine ⟨p + 1, by omega, by simp only; omega, [], [0, 1, 2, 3, 4], ?_⟩
      simp [hsucc, hA, frz_none, hacE hu, hab, har, haf]
    ·rw [hl] at hlit
     have hu : isUnt s.l[p] = false := by simp [isUnt, hl]
     rw [hgp, if_neg (by rw [hu]; decide)] at hsucc
     simp [of6H, hA, of6B, hlt, setCells_toL, toL_agg]
     refine callT_plain hlit rfl (by simp [mapO, reso_toL]) ?_
     simp [hw]
     refine ⟨p + 1, by omega, by simp only; omega, [], [0, 1, 2, 3, 4], ?_⟩
     simp [hsucc, hA, frz_none, hacE hu, hab, har, haf]
  ·obtain rfl : p = s.l.length := by omega
   have h2 := hQ
   by_cases ha : accTo s.l s.N s.l.length = []
   ·simp [of6H, ha, of6B] at h2 ⊢
    refine h2 _ ?_ ?_ <;> simp
   ·simp [of6H, ha, of6B] at h2 ⊢
    refine h2 _ ?_ ?_ <;> simp
end Lg


/- A formula's automaton: the contract of the program's function. -/
namespace Lg
open Go
theorem sub_cellT (l : List T) : Sub (cellT l) (treesL l) := by
 by_cases h : l = []
 ·subst h; exact .nil _ _
 ·rw [cellT_ne h]; exact .refl _
theorem sub_cellS (l : List Int) : Sub (cellS l) (intsL l) := by
 unfold cellS
 by_cases h : l = []
 ·subst h; exact .clip _ _
 ·rw [if_neg h]; exact .refl _
def Reg (l : List T) : Prop := ∀ i, i < l.length → isUnt (l.getD i T.none0) = true → (l.findIdx fun x => x.same (kid1 (l.getD i T.none0))) < l.length
theorem ofInv_start {S : List T} (hS : Parts S) {e : T} (he : e ∈ S) : OfInv S e (ofStart e, 300000) := ⟨(stOk_start hS he).1, rfl, by simp [ofStart], by simp [ofStart]⟩
theorem tabOf_gen {P : Program} {S : List T} (F : TabF P S) {e : T} (he : e ∈ S) {f : Nat} (ir : compFS selOf P f = some (irOfT F.lit F.bit F.num F.cover)) (hreg : Reg (ofEnd e).l) : PC P f [e.toL] (ofF e).L := by
 refine pc_of_call' (callAt_enterS ir (by rw [irOfT_eq]; simp) ?_)
 rw [irOfT_eq]
 refine of_head F he fun E H hw => ?_
 refine of_loop0 F (init := ofInit e) (fun E s hs hse hlen e2 e3 e5 e6 => ?_) (ofInv_start F.hS he) hw
 subst hse
 have hnx : (ofEnd e).nx ≠ [] := fun h => by
  rw [h] at hlen
  have := List.length_pos_iff.2 hs.ne
  simp at hlen
  omega
 refine of_loop2 F hs hnx (fun E e2 e3 e5 e6 => ?_) e2 e3 e5 e6
 refine of_loop6 F hs hreg (fun E e2 e5 => ?_) e2 e3 e5 e6
 obtain ⟨s, hse⟩ : ∃ s, s = ofEnd e := ⟨_, rfl⟩
 rw [← hse] at hs ⊢
 have hof : (ofF e).L = .agg [.sl 1 false ((s.N.map fun n => litsTo s.l n s.l.length).map treesL), .sl 1 false (s.nx.map intsL), intsL (ofInit e), .sl 1 false ((accTo s.l s.N s.l.length).map intsL)] := by
  rw [hse]; rfl
 have hli : liRow s s.N.length = (s.N.map fun n => litsTo s.l n s.l.length).map cellT := by
  unfold liRow; rw [List.take_length, List.map_map]; rfl
 obtain ⟨Z, hZ⟩ : ∃ Z, Z = s.N.map fun n => litsTo s.l n s.l.length := ⟨_, rfl⟩
 rw [← hZ] at hof hli
 have s1 : Sub (.sl 1 false (Z.map cellT)) (.sl 1 false (Z.map treesL)) := Sub.map (fun x _ => sub_cellT x) (fun x _ => rfl)
 have s2 : Sub (.sl 1 false ((accTo s.l s.N s.l.length).map cellS)) (.sl 1 false ((accTo s.l s.N s.l.length).map intsL)) := Sub.map (fun x _ => sub_cellS x) (fun x _ => rfl)
 have hcl : ∀ x ∈ acRow s s.l.length, closed x = true := fun x hx => by simp only [acRow, List.mem_map] at hx; obtain ⟨n, -, rfl⟩ := hx; exact closed_cellS _
 rw [hof]
 by_cases ha : accTo s.l s.N s.l.length = []
 ·simp [of6H, ha, of6B, irOf9, e2, e5, reso, mapO]
  rw [hli]
  rw [ha] at s2
  exact .aggL (.cons s1 (.cons (.refl _) (.cons (.refl _) (.cons (.nil _ _) .nil))))
 ·have hal : (acRow s s.l.length).length = (accTo s.l s.N s.l.length).length := by simp [acRow]
  simp [of6H, ha, of6B, irOf9, e2, e5, reso, mapO, hal]
  rw [if_pos hcl]
  refine ⟨_, rfl, ?_⟩
  rw [hli]
  exact .aggL (.cons s1 (.cons (.refl _) (.cons (.refl _) (.cons s2 .nil))))
end Lg

