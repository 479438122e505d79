/- Which words an automaton takes: what the document's answer computes. -/
import Derived.Test.YtjoffkghcjfbeaaLibAut
import Derived.Test.YtjoffkghcjfbeaaLibAcc
namespace Lg
open Go
def irTakesb4 (nx fi is fa : Nat) : IR := (.loop (.seq (.seq (.ops [⟨some 41,.mov (.t 12),none⟩,⟨some 42,.faddr 1 (.t 2),none⟩,⟨some 43,.load 1 false (.t 42),none⟩,⟨some 44,.mov (.t 9),none⟩,⟨some 45,.iaddr 1 (.t 43) (.t 44),none⟩,⟨some 46,.load 1 false (.t 45),none⟩,⟨some 47,.len false (.t 46),none⟩,⟨some 48,.bin .lss false (.t 41) (.t 47),none⟩]) (.cond (.t 48) .skip (.exit 4))) (.seq (.block 5 (.ops [⟨some 51,.mov (.t 11),none⟩,⟨some 52,.mov (.t 10),none⟩,⟨some 53,.mov (.t 5),none⟩,⟨some 54,.bin .mul false (.t 52) (.t 53),none⟩,⟨some 55,.faddr 1 (.t 2),none⟩,⟨some 56,.load 1 false (.t 55),none⟩,⟨some 57,.mov (.t 9),none⟩,⟨some 58,.iaddr 1 (.t 56) (.t 57),none⟩,⟨some 59,.load 1 false (.t 58),none⟩,⟨some 60,.mov (.t 12),none⟩,⟨some 61,.iaddr 1 (.t 59) (.t 60),none⟩,⟨some 62,.load 1 false (.t 61),none⟩,⟨some 63,.bin .add false (.t 54) (.t 62),none⟩,⟨some 64,.bslice 1 [(.v (.int .i64 0))] 1 [(0,1,(.t 63))],none⟩,⟨some 65,.append 1 8 [(.v (.int .i64 0))] (.t 51) (.t 64),none⟩,⟨some 11,.mov (.t 65),none⟩])) (.ops [⟨some 49,.mov (.t 12),none⟩,⟨some 50,.bin .add false (.t 49) (.c (.v (.int .i64 1))),none⟩,⟨some 12,.mov (.t 50),none⟩]))))
def irTakesb3 (nx fi is fa : Nat) : IR := (.seq (.ops [⟨some 38,.load 2 true (.t 3),none⟩,⟨some 39,.mov (.t 8),none⟩,⟨some 40,.call nx [(.t 38),(.t 39)],none⟩,⟨some 10,.mov (.t 40),none⟩]) (.seq (.ops [⟨some 11,.mov (.c (.v (.slice none 0 0))),none⟩]) (.seq (.seq (.ops [⟨some 12,.mov (.c (.v (.int .i64 0))),none⟩]) (.block 4 (irTakesb4 nx fi is fa))) (.seq (.ops [⟨some 66,.mov (.t 6),none⟩,⟨some 67,.mov (.t 11),none⟩,⟨some 68,.bslice 1 [(.v (.slice none 0 0))] 1 [(0,1,(.t 67))],none⟩,⟨some 69,.append 1 24 [(.v (.slice none 0 0))] (.t 66) (.t 68),none⟩,⟨some 6,.mov (.t 69),none⟩]) (.seq (.draw [[⟨some 70,.load 4 true (.t 2),none⟩,⟨some 71,.mov (.t 9),none⟩,⟨some 72,.faddr 0 (.t 3),none⟩,⟨some 73,.load 1 false (.t 72),none⟩,⟨some 74,.mov (.t 8),none⟩,⟨some 75,.iaddr 1 (.t 73) (.t 74),none⟩,⟨some 76,.load 1 false (.t 75),none⟩],[⟨some 77,.call fi [(.t 70),(.t 71),(.t 76)],none⟩],[⟨some 13,.mov (.t 77),none⟩]]) (.ops [⟨some 78,.mov (.t 7),none⟩,⟨some 79,.mov (.t 13),none⟩,⟨some 80,.bslice 1 [(.v (.bool false))] 1 [(0,1,(.t 79))],none⟩,⟨some 81,.append 1 1 [(.v (.bool false))] (.t 78) (.t 80),none⟩,⟨some 7,.mov (.t 81),none⟩]))))))
def irTakesb1 (nx fi is fa : Nat) : IR := (.seq (.ops [⟨some 9,.mov (.c (.v (.int .i64 0))),none⟩]) (.block 2 (.loop (.seq (.seq (.ops [⟨some 33,.mov (.t 9),none⟩,⟨some 34,.mov (.t 5),none⟩,⟨some 35,.bin .lss false (.t 33) (.t 34),none⟩]) (.cond (.t 35) .skip (.exit 2))) (.seq (.block 3 (irTakesb3 nx fi is fa)) (.ops [⟨some 36,.mov (.t 9),none⟩,⟨some 37,.bin .add false (.t 36) (.c (.v (.int .i64 1))),none⟩,⟨some 9,.mov (.t 37),none⟩]))))))
def irTakesb0 (nx fi is fa : Nat) : IR := (.loop (.seq (.seq (.ops [⟨some 26,.mov (.t 8),none⟩,⟨some 27,.faddr 0 (.t 3),none⟩,⟨some 28,.load 1 false (.t 27),none⟩,⟨some 29,.len false (.t 28),none⟩,⟨some 30,.bin .lss false (.t 26) (.t 29),none⟩]) (.cond (.t 30) .skip (.exit 0))) (.seq (.block 1 (irTakesb1 nx fi is fa)) (.ops [⟨some 31,.mov (.t 8),none⟩,⟨some 32,.bin .add false (.t 31) (.c (.v (.int .i64 1))),none⟩,⟨some 8,.mov (.t 32),none⟩]))))
def irTakesb8 (nx fi is fa : Nat) : IR := (.loop (.seq (.seq (.ops [⟨some 89,.mov (.t 17),none⟩,⟨some 90,.mov (.t 6),none⟩,⟨some 91,.len false (.t 90),none⟩,⟨some 92,.bin .lss false (.t 89) (.t 91),none⟩]) (.cond (.t 92) .skip (.exit 8))) (.seq (.block 9 (.seq (.draw [[⟨some 95,.faddr 3 (.t 2),none⟩,⟨some 96,.load 1 false (.t 95),none⟩,⟨some 97,.mov (.t 15),none⟩,⟨some 98,.iaddr 1 (.t 96) (.t 97),none⟩,⟨some 99,.load 1 false (.t 98),none⟩,⟨some 100,.mov (.t 17),none⟩,⟨some 101,.mov (.t 5),none⟩,⟨some 102,.bin .rem false (.t 100) (.t 101),none⟩],[⟨some 103,.call is [(.t 99),(.t 102)],none⟩],[⟨some 18,.mov (.t 103),none⟩]]) (.ops [⟨some 104,.mov (.t 16),none⟩,⟨some 105,.mov (.t 18),none⟩,⟨some 106,.bslice 1 [(.v (.bool false))] 1 [(0,1,(.t 105))],none⟩,⟨some 107,.append 1 1 [(.v (.bool false))] (.t 104) (.t 106),none⟩,⟨some 16,.mov (.t 107),none⟩]))) (.ops [⟨some 93,.mov (.t 17),none⟩,⟨some 94,.bin .add false (.t 93) (.c (.v (.int .i64 1))),none⟩,⟨some 17,.mov (.t 94),none⟩]))))
def irTakesb7 (nx fi is fa : Nat) : IR := (.seq (.ops [⟨some 16,.mov (.c (.v (.slice none 0 0))),none⟩]) (.seq (.seq (.ops [⟨some 17,.mov (.c (.v (.int .i64 0))),none⟩]) (.block 8 (irTakesb8 nx fi is fa))) (.ops [⟨some 108,.mov (.t 14),none⟩,⟨some 109,.mov (.t 16),none⟩,⟨some 110,.bslice 1 [(.v (.slice none 0 0))] 1 [(0,1,(.t 109))],none⟩,⟨some 111,.append 1 24 [(.v (.slice none 0 0))] (.t 108) (.t 110),none⟩,⟨some 14,.mov (.t 111),none⟩])))
def irTakesb6 (nx fi is fa : Nat) : IR := (.loop (.seq (.seq (.ops [⟨some 82,.mov (.t 15),none⟩,⟨some 83,.faddr 3 (.t 2),none⟩,⟨some 84,.load 1 false (.t 83),none⟩,⟨some 85,.len false (.t 84),none⟩,⟨some 86,.bin .lss false (.t 82) (.t 85),none⟩]) (.cond (.t 86) .skip (.exit 6))) (.seq (.block 7 (irTakesb7 nx fi is fa)) (.ops [⟨some 87,.mov (.t 15),none⟩,⟨some 88,.bin .add false (.t 87) (.c (.v (.int .i64 1))),none⟩,⟨some 15,.mov (.t 88),none⟩]))))
def irTakesb10 (nx fi is fa : Nat) : IR := (.loop (.seq (.seq (.ops [⟨some 118,.mov (.t 20),none⟩,⟨some 119,.mov (.t 19),none⟩,⟨some 120,.len false (.t 119),none⟩,⟨some 121,.bin .lss false (.t 118) (.t 120),none⟩]) (.cond (.t 121) .skip (.exit 10))) (.seq (.block 11 (.ops [⟨some 124,.mov (.t 19),none⟩,⟨some 125,.mov (.t 20),none⟩,⟨some 126,.iaddr 1 (.t 124) (.t 125),none⟩,⟨none,.store 1 (.t 126) (.c (.v (.bool true))),none⟩])) (.ops [⟨some 122,.mov (.t 20),none⟩,⟨some 123,.bin .add false (.t 122) (.c (.v (.int .i64 1))),none⟩,⟨some 20,.mov (.t 123),none⟩]))))
def irTakesb12 (nx fi is fa : Nat) : IR := (.loop (.seq (.seq (.ops [⟨some 135,.mov (.t 22),none⟩,⟨some 136,.faddr 2 (.t 2),none⟩,⟨some 137,.load 1 false (.t 136),none⟩,⟨some 138,.len false (.t 137),none⟩,⟨some 139,.bin .lss false (.t 135) (.t 138),none⟩]) (.cond (.t 139) .skip (.exit 12))) (.seq (.block 13 (.seq (.ops [⟨some 142,.mov (.t 21),none⟩,⟨some 143,.faddr 2 (.t 2),none⟩,⟨some 144,.load 1 false (.t 143),none⟩,⟨some 145,.mov (.t 22),none⟩,⟨some 146,.iaddr 1 (.t 144) (.t 145),none⟩,⟨some 147,.load 1 false (.t 146),none⟩,⟨some 148,.iaddr 1 (.t 142) (.t 147),none⟩,⟨some 149,.load 1 false (.t 148),none⟩]) (.cond (.t 149) (.seq (.ops [⟨some 4,.mov (.c (.v (.bool true))),none⟩]) .ret) .skip))) (.ops [⟨some 140,.mov (.t 22),none⟩,⟨some 141,.bin .add false (.t 140) (.c (.v (.int .i64 1))),none⟩,⟨some 22,.mov (.t 141),none⟩]))))
def irTakes (nx fi is fa : Nat) : FnIR := ⟨150,[.t 4],(.seq (.ops [⟨some 2,.box (.t 0),none⟩,⟨some 3,.box (.t 1),none⟩,⟨some 4,.mov (.c (.v (.bool false))),none⟩]) (.seq (.ops [⟨some 23,.faddr 0 (.t 2),none⟩,⟨some 24,.load 1 false (.t 23),none⟩,⟨some 25,.len false (.t 24),none⟩,⟨some 5,.mov (.t 25),none⟩]) (.seq (.ops [⟨some 6,.mov (.c (.v (.slice none 0 0))),none⟩]) (.seq (.ops [⟨some 7,.mov (.c (.v (.slice none 0 0))),none⟩]) (.seq (.seq (.ops [⟨some 8,.mov (.c (.v (.int .i64 0))),none⟩]) (.block 0 (irTakesb0 nx fi is fa))) (.seq (.ops [⟨some 14,.mov (.c (.v (.slice none 0 0))),none⟩]) (.seq (.seq (.ops [⟨some 15,.mov (.c (.v (.int .i64 0))),none⟩]) (.block 6 (irTakesb6 nx fi is fa))) (.seq (.seq (.ops [⟨some 112,.mov (.t 14),none⟩,⟨some 113,.len false (.t 112),none⟩,⟨some 114,.bin .eql false (.t 113) (.c (.v (.int .i64 0))),none⟩]) (.cond (.t 114) (.seq (.ops [⟨some 115,.mov (.t 6),none⟩,⟨some 116,.len false (.t 115),none⟩,⟨some 117,.mksl 1 1 [(.v (.bool false))] (.t 116) (.t 116),none⟩,⟨some 19,.mov (.t 117),none⟩]) (.seq (.seq (.ops [⟨some 20,.mov (.c (.v (.int .i64 0))),none⟩]) (.block 10 (irTakesb10 nx fi is fa))) (.ops [⟨some 127,.mov (.t 14),none⟩,⟨some 128,.mov (.t 19),none⟩,⟨some 129,.bslice 1 [(.v (.slice none 0 0))] 1 [(0,1,(.t 128))],none⟩,⟨some 130,.append 1 24 [(.v (.slice none 0 0))] (.t 127) (.t 129),none⟩,⟨some 14,.mov (.t 130),none⟩]))) .skip)) (.seq (.ops [⟨some 131,.mov (.t 6),none⟩,⟨some 132,.mov (.t 7),none⟩,⟨some 133,.mov (.t 14),none⟩,⟨some 134,.call fa [(.t 131),(.t 132),(.t 133)],none⟩,⟨some 21,.mov (.t 134),none⟩]) (.seq (.seq (.ops [⟨some 22,.mov (.c (.v (.int .i64 0))),none⟩]) (.block 12 (irTakesb12 nx fi is fa))) (.seq (.ops [⟨some 4,.mov (.c (.v (.bool false))),none⟩]) .ret)))))))))))⟩
def edgeRow (n j : Nat) (r : List Int) : List Int := r.map fun s => ((j * n : Nat) : Int) + s
theorem takes_l {P : Program} {nx fi is fa : Nat} {a : Aut} (ha : a.Ok) {q : Nat} (hq : q < a.next.length) {n j i : Nat} (hjn : j * n ≤ 1000000000) (hrow : a.next[q].length < 4000) (hst : ∀ s ∈ a.next[q], 0 ≤ s ∧ s ≤ 1000000)
  {H0 : Heap} (hH : H0[0]? = some (some a.cells)) (hlen : 2 ≤ H0.length) (hs : shut H0.length H0) {Q : X → Env → Heap → Prop} {E : Env} {e6 e7 : L} (b6 : below H0.length e6 = true) (b7 : below H0.length e7 = true)
  (h2 : lk E 2 = .ptr 0 0) (h3 : lk E 3 = .ptr 1 0) (h5 : lk E 5 = intL n) (h6 : lk E 6 = e6) (h7 : lk E 7 = e7) (h8 : lk E 8 = intL i) (h9 : lk E 9 = intL q) (h10 : lk E 10 = intL j) (h11 : lk E 11 = .v (.slice none 0 0)) (h12 : lk E 12 = intL 0)
  (hQ : ∀ E', lk E' 2 = .ptr 0 0 → lk E' 3 = .ptr 1 0 → lk E' 5 = intL n → lk E' 6 = e6 → lk E' 7 = e7 → lk E' 8 = intL i → lk E' 9 = intL q →
   lk E' 11 = accE 1 H0.length ((edgeRow n j a.next[q]).map intL) → Q .normal E' (H0 ++ accH ((edgeRow n j a.next[q]).map intL))) :
  lwp P 0 (irTakesb4 nx fi is fa) (X.inBlock 4 Q) E H0 := by
 have hget : ∀ X : Heap, (H0 ++ X)[0]? = some (some a.cells) := fun X => by rw [List.getElem?_append_left (by omega)]; exact hH
 have hgetE : ∀ (X : Heap) (h : 0 < (H0 ++ X).length), (H0 ++ X)[0]'h = some a.cells := fun X h => by
  have := hget X
  rw [List.getElem?_eq_getElem h] at this
  simpa using this
 obtain ⟨ls, hls⟩ : ∃ ls, ls = (edgeRow n j a.next[q]).map intL := ⟨_, rfl⟩
 rw [← hls] at hQ
 have hel : ls.length = a.next[q].length := by simp [hls, edgeRow]
 have hbel : ∀ m : Nat, ∀ k, belowL m (ls.take k) = true := fun m k => by rw [hls, ← List.map_take, belowL_map]; simp
 have hren : ∀ (f : Nat → Nat) k, renL f (ls.take k) = ls.take k := fun f k => by rw [hls, ← List.map_take, renL_map]; simp
 have hb1 : 0 < H0.length := by omega
 have hb2 : 1 < H0.length := by omega
 simp only [irTakesb4]
 refine lwp_loop (fun k : Nat => [(2, .ptr 0 0), (3, .ptr 1 0), (5, intL n), (6, e6), (7, e7), (8, intL i), (9, intL q), (10, intL j), (11, accE 1 H0.length (ls.take k)), (12, intL k)])
  (fun k => H0 ++ accH (ls.take k)) (fun k => a.next[q].length - k) (fun k => k ≤ a.next[q].length) 0 (by simp) ?_ ?_
 ·have := weak_env (k := 0) (E := E) (H := H0) (E' := [(2, .ptr 0 0), (3, .ptr 1 0), (5, intL n), (6, e6), (7, e7), (8, intL i), (9, intL q), (10, intL j), (11, .v (.slice none 0 0)), (12, intL 0)]) (by omega) hs (by simp [h2, h3, h5, h6, h7, h8, h9, h10, h11, h12, b6, b7, hb1, hb2])
  simpa using this
 ·intro k hk
  by_cases hlt : k < a.next[q].length
  ·have hek : k < ls.length := by omega
   have hv : ls[k] = .v (.int .i64 (((j * n : Nat) : Int) + a.next[q][k])) := by simp [hls, edgeRow]
   have hsk := hst _ (List.getElem_mem hlt)
   have e0 : (j : Int) * (n : Int) = ((j * n : Nat) : Int) := by simp
   have hw1 : IntKind.i64.wrap ((j : Int) * (n : Int)) = (j : Int) * (n : Int) := wrap_id (by omega) (by omega)
   have hw2 : IntKind.i64.wrap ((j : Int) * (n : Int) + a.next[q][k]) = (j : Int) * (n : Int) + a.next[q][k] := wrap_id (by omega) (by omega)
   have hw3 : IntKind.i64.wrap ((k : Int) + 1) = ((k + 1 : Nat) : Int) := wrap_id (by omega) (by omega)
   have hsucc : ls.take (k + 1) = ls.take k ++ [.v (.int .i64 ((j : Int) * (n : Int) + a.next[q][k]))] := by
    rw [List.take_succ_eq_append_getElem hek, hv, ← e0]
   have hne : ls.take (k + 1) ≠ [] := by rw [hsucc]; simp
   by_cases hk0 : k = 0
   ·subst hk0
    simp [hH, Aut.cells, hq, hlt, hw1, hw2]
    refine ⟨1, by omega, by simp <;> omega, ?_⟩
    show weak 0 _ _ _ (H0 ++ accH (ls.take (0 + 1)))
    simp only [hsucc]
    refine weak_app [H0.length + 1] (by omega) hs (by simp) (by simp) fun f hf ht => ?_
    have t0 := ht 0 (by simp)
    simp at t0
    have c6 := below_mono (show H0.length ≤ H0.length + 1 by omega) _ b6
    have c7 := below_mono (show H0.length ≤ H0.length + 1 by omega) _ b7
    have hf0 := hf 0 hb1
    have hf1 := hf 1 hb2
    have hfe6 := ren_id hf _ b6
    have hfe7 := ren_id hf _ b7
    have hww : IntKind.i64.wrap 1 = 1 := by decide
    simp [accE, accH, hf0, hf1, t0, hfe6, hfe7, c6, c7, hww, hb1]
   ·have hlen0 : (ls.take k).length = k := by rw [List.length_take]; omega
    have hne0 : ls.take k ≠ [] := by
     intro h
     rw [h] at hlen0
     simp only [List.length_nil] at hlen0
     exact hk0 hlen0.symm
    have hmin : min k ls.length = k := by omega
    simp only [accE_ne hne0, accH_ne hne0, hlen0]
    simp [hgetE, Aut.cells, hq, hlt, hw1, hw2, hmin]
    refine ⟨by omega, k + 1, by omega, by simp <;> omega, ?_⟩
    show weak 0 _ _ _ (H0 ++ accH (ls.take (k + 1)))
    simp only [hsucc]
    refine weak_app [H0.length + 2] (by omega) hs (by simp) (by simp) fun f hf ht => ?_
    have t0 := ht 0 (by simp)
    simp at t0
    have c6 := below_mono (show H0.length ≤ H0.length + 1 by omega) _ b6
    have c7 := below_mono (show H0.length ≤ H0.length + 1 by omega) _ b7
    have hf0 := hf 0 hb1
    have hf1 := hf 1 hb2
    have hfe6 := ren_id hf _ b6
    have hfe7 := ren_id hf _ b7
    simp [accE, accH, hf0, hf1, t0, hfe6, hfe7, c6, c7, hw3, hb1, hmin, hbel, hren]
  ·have hge : a.next[q].length ≤ k := by omega
   have htake : ls.take k = ls := List.take_of_length_le (by omega)
   rw [htake]
   simp [hget, Aut.cells, hq, hlt]
   refine hQ _ ?_ ?_ ?_ ?_ ?_ ?_ ?_ ?_ <;> simp
theorem lk_frz {H : Heap} {fz : List Nat} {t : Nat} : ∀ {E : Env}, lk (List.map (fun p => (p.1, frz H fz p.2)) E) t = frz H fz (lk E t)
 | [] => by simp [lk]
 | (k, l) :: E => by
  simp only [List.map_cons, lk]
  split
  ·rfl
  ·exact lk_frz
attribute [simp] lk_frz
def cellR (r : List Int) : L := if r = [] then .v (.slice none 0 0) else .sl 1 false (r.map intL)
theorem cellR_nil : cellR [] = .v (.slice none 0 0) := rfl
theorem cellR_ne {r : List Int} (h : r ≠ []) : cellR r = .sl 1 false (r.map intL) := if_neg h
theorem cells_cellR (r : List Int) : (cellR r).cells = [cellR r] := by unfold cellR; split <;> rfl
theorem solid_cellR (r : List Int) : solid (cellR r) = true := by unfold cellR; split <;> rfl
theorem closed_cellR (r : List Int) : closed (cellR r) = true := by unfold cellR; split <;> rfl
theorem below_cellR (n : Nat) (r : List Int) : below n (cellR r) = true := by unfold cellR; split <;> simp
theorem ren_cellR (f : Nat → Nat) (r : List Int) : ren f (cellR r) = cellR r := by unfold cellR; split <;> simp
theorem frz_cellR (H : Heap) (fz : List Nat) (r : List Int) : frz H fz (cellR r) = cellR r := by unfold cellR; split <;> simp
attribute [simp] cells_cellR solid_cellR closed_cellR below_cellR ren_cellR frz_cellR
def nodeRow (a : Aut) (w : Word) (x : Nat) : List Int := edgeRow a.lits.length (w.nxt (x / a.lits.length)) (a.next.getD (x % a.lits.length) [])
def nodeOn (a : Aut) (w : Word) (x : Nat) : Bool := a.fits (x % a.lits.length) (w.v.getD (x / a.lits.length) [])
def nodeRows (a : Aut) (w : Word) (m : Nat) : List (List Int) := (List.range m).map (nodeRow a w)
def nodeOns (a : Aut) (w : Word) (m : Nat) : List Bool := (List.range m).map (nodeOn a w)
theorem nodeRows_succ {a : Aut} {w : Word} {m : Nat} : nodeRows a w (m + 1) = nodeRows a w m ++ [nodeRow a w m] := by simp [nodeRows, List.range_succ]
theorem nodeOns_succ {a : Aut} {w : Word} {m : Nat} : nodeOns a w (m + 1) = nodeOns a w m ++ [nodeOn a w m] := by simp [nodeOns, List.range_succ]
theorem nodeRows_length {a : Aut} {w : Word} {m : Nat} : (nodeRows a w m).length = m := by simp [nodeRows]
theorem nodeOns_length {a : Aut} {w : Word} {m : Nat} : (nodeOns a w m).length = m := by simp [nodeOns]
attribute [simp] nodeRows_length nodeOns_length
structure TakesOk (a : Aut) (w : Word) : Prop where
 ok : a.Ok
 wok : w.Ok
 right : a.right = true
 wright : w.right = true
 few : a.lits.length ≤ 1000000
 short : w.v.length ≤ 500
 rows : ∀ r ∈ a.next, r.length < 4000
 ends : a.init.length + a.acc.length < 5000
theorem TakesOk.next {a : Aut} {w : Word} (h : TakesOk a w) : a.next.length = a.lits.length := by
 have := h.right
 simp only [Aut.right, Bool.and_eq_true, decide_eq_true_eq] at this
 exact this.1.1.2
theorem TakesOk.row {a : Aut} {w : Word} (h : TakesOk a w) {q : Nat} (hq : q < a.next.length) : ∀ s ∈ a.next[q], 0 ≤ s ∧ s < (a.lits.length : Int) := by
 have hr := h.right
 have hn := h.next
 simp only [Aut.right, Bool.and_eq_true, decide_eq_true_eq] at hr
 have := List.all_eq_true.1 hr.1.2 q (by simp; omega)
 simp only [rowOk, Bool.and_eq_true] at this
 have h1 := this.1
 rw [show a.next.getD q [] = a.next[q] by simp [List.getD, hq]] at h1
 intro s hs
 have := List.all_eq_true.1 h1 s hs
 simpa using this
theorem TakesOk.loop {a : Aut} {w : Word} (h : TakesOk a w) : 0 ≤ w.loop ∧ w.loop < w.v.length := by
 have := h.wright
 simp only [Word.right, Bool.and_eq_true, decide_eq_true_eq] at this
 exact ⟨this.1.2, this.2⟩
theorem TakesOk.nxt {a : Aut} {w : Word} (h : TakesOk a w) {i : Nat} (hi : i < w.v.length) : w.nxt i < w.v.length := by
 have := h.loop
 unfold Word.nxt
 split <;> omega
def e6L (a : Aut) (w : Word) (m : Nat) : L := accE 1 2 ((nodeRows a w m).map cellR)
def e7L (a : Aut) (w : Word) (m : Nat) : L := accE 1 3 ((nodeOns a w m).map boolL)
def hpL (a : Aut) (w : Word) (m : Nat) : Heap := [some a.cells, some w.cells] ++ (if m = 0 then [] else [some ((nodeRows a w m).map cellR), some ((nodeOns a w m).map boolL)])
theorem takes_q {P : Program} {nx fi is fa ev tr : Nat} (inx : compF P nx = some irNext17) (ifi : compF P fi = some (irFits ev)) (iev : compF P ev = some (irEvalR ev tr)) (itr : compF P tr = some irTruth)
  {a : Aut} {w : Word} (h : TakesOk a w) {i : Nat} (hi : i < w.v.length) {Q : X → Env → Heap → Prop} {E : Env}
  (h2 : lk E 2 = .ptr 0 0) (h3 : lk E 3 = .ptr 1 0) (h5 : lk E 5 = intL a.lits.length) (h6 : lk E 6 = e6L a w (i * a.lits.length)) (h7 : lk E 7 = e7L a w (i * a.lits.length)) (h8 : lk E 8 = intL i)
  (hQ : ∀ E', lk E' 2 = .ptr 0 0 → lk E' 3 = .ptr 1 0 → lk E' 5 = intL a.lits.length → lk E' 6 = e6L a w ((i + 1) * a.lits.length) → lk E' 7 = e7L a w ((i + 1) * a.lits.length) → lk E' 8 = intL i → Q .normal E' (hpL a w ((i + 1) * a.lits.length))) :
  lwp P 0 (irTakesb1 nx fi is fa) Q E (hpL a w (i * a.lits.length)) := by
 obtain ⟨n, hn⟩ : ∃ n, n = a.lits.length := ⟨_, rfl⟩
 rw [← hn] at h5 h6 h7 hQ ⊢
 have hnx := h.next
 have hfew := h.few
 have hsh := h.short
 have hin : i * n ≤ 500000000 := by have := Nat.mul_le_mul (show i ≤ 500 by omega) (show n ≤ 1000000 by omega); omega
 simp only [irTakesb1]
 simp
 refine lwp_loopF (fun q : Nat => [(2, .ptr 0 0), (3, .ptr 1 0), (5, intL n), (6, e6L a w (i * n + q)), (7, e7L a w (i * n + q)), (8, intL i), (9, intL q)])
  (fun q => hpL a w (i * n + q)) (fun q => n - q) (fun q => q ≤ n) 0 (by simp) [] ?_ ?_
 ·have h6' : lk E 6 = e6L a w (i * n + 0) := h6
  have h7' : lk E 7 = e7L a w (i * n + 0) := h7
  show weak 0 _ _ [(2, .ptr 0 0), (3, .ptr 1 0), (5, intL n), (6, e6L a w (i * n + 0)), (7, e7L a w (i * n + 0)), (8, intL i), (9, intL ((0 : Nat) : Int))] (hpL a w (i * n + 0))
  rw [show i * n = i * n + 0 from rfl] at h6 h7
  by_cases hm : i * n = 0
  ·have hp0 : hpL a w (i * n + 0) = [some a.cells, some w.cells] := by simp [hpL, hm]
   have h60 : e6L a w (i * n + 0) = .v (.slice none 0 0) := by simp [e6L, hm, nodeRows]
   have h70 : e7L a w (i * n + 0) = .v (.slice none 0 0) := by simp [e7L, hm, nodeOns]
   rw [h60] at h6
   rw [h70] at h7
   have hp0' : hpL a w (i * n) = [some a.cells, some w.cells] := hp0
   rw [hp0, h60, h70, hp0']
   refine ⟨[0, 1], ?_⟩
   simp [h2, h3, h5, h6, h7, h8, Aut.cells, Word.cells]
  ·have hp0 : hpL a w (i * n + 0) = [some a.cells, some w.cells, some ((nodeRows a w (i * n)).map cellR), some ((nodeOns a w (i * n)).map boolL)] := by unfold hpL; rw [if_neg (by omega)]; rfl
   have h60 : e6L a w (i * n + 0) = .view 1 2 0 (i * n) false := by unfold e6L; rw [accE_ne (by simp [nodeRows]; omega)]; simp
   have h70 : e7L a w (i * n + 0) = .view 1 3 0 (i * n) false := by unfold e7L; rw [accE_ne (by simp [nodeOns]; omega)]; simp
   rw [h60] at h6
   rw [h70] at h7
   have hp0' : hpL a w (i * n) = _ := hp0
   rw [hp0, h60, h70, hp0']
   refine ⟨[0, 1, 2, 3], ?_⟩
   simp [h2, h3, h5, h6, h7, h8, Aut.cells, Word.cells]
 ·intro q hq
  by_cases hlt : q < n
  ·have hqn : q < a.next.length := by omega
   have hdiv : (i * n + q) / n = i := by rw [Nat.mul_comm, Nat.mul_add_div (by omega), Nat.div_eq_of_lt hlt]; rfl
   have hmod : (i * n + q) % n = q := by rw [Nat.mul_comm, Nat.mul_add_mod, Nat.mod_eq_of_lt hlt]
   have hnode : nodeRow a w (i * n + q) = edgeRow n (w.nxt i) a.next[q] := by
    unfold nodeRow; rw [← hn, hdiv, hmod]; simp [List.getD, hqn]
   have hnodeOn : nodeOn a w (i * n + q) = a.fits q w.v[i] := by
    unfold nodeOn; rw [← hn, hdiv, hmod]; simp [List.getD, hi]
   have hw1 : IntKind.i64.wrap ((q : Int) + 1) = ((q + 1 : Nat) : Int) := wrap_id (by omega) (by omega)
   have hnxt := nxt17_gen inx h.wok h.loop.1 hi
   have hfits := fits_gen ifi iev itr h.ok (show q < a.lits.length by omega) (c := false) w.v[i] (h.wok.row _ (List.getElem_mem hi))
   have hj := h.nxt hi
   have hjn : w.nxt i * n ≤ 1000000000 := by have := Nat.mul_le_mul (show w.nxt i ≤ 500 by omega) (show n ≤ 1000000 by omega); omega
   have hst : ∀ s ∈ a.next[q], 0 ≤ s ∧ s ≤ 1000000 := fun s hs => by have := h.row hqn s hs; omega
   have hadd : i * n + (q + 1) = i * n + q + 1 := rfl
   have hs1 := nodeRows_succ (a := a) (w := w) (m := i * n + q)
   have hs2 := nodeOns_succ (a := a) (w := w) (m := i * n + q)
   have hm1 : i * n + q + 1 ≠ 0 := by omega
   have hp1 : hpL a w (i * n + q + 1) = [some a.cells, some w.cells, some ((nodeRows a w (i * n + q + 1)).map cellR), some ((nodeOns a w (i * n + q + 1)).map boolL)] := by simp [hpL]
   have h61 : e6L a w (i * n + q + 1) = .view 1 2 0 (i * n + q + 1) false := by unfold e6L; rw [accE_ne (by simp [nodeRows])]; simp
   have h71 : e7L a w (i * n + q + 1) = .view 1 3 0 (i * n + q + 1) false := by unfold e7L; rw [accE_ne (by simp [nodeOns])]; simp
   by_cases hm : i * n + q = 0
   ·have hp0 : hpL a w (i * n + q) = [some a.cells, some w.cells] := by simp [hpL, hm]
    have h60 : e6L a w (i * n + q) = .v (.slice none 0 0) := by simp [e6L, hm, nodeRows]
    have h70 : e7L a w (i * n + q) = .v (.slice none 0 0) := by simp [e7L, hm, nodeOns]
    rw [show nodeRows a w (i * n + q) = [] by simp [nodeRows, hm]] at hs1
    rw [show nodeOns a w (i * n + q) = [] by simp [nodeOns, hm]] at hs2
    rw [hp0, h60, h70]
    simp [Word.cells, Aut.cells, hlt, irTakesb3]
    refine callT_plain hnxt rfl (by simp [Word.L, Word.cells]) ?_
    simp
    refine takes_l (n := n) (j := w.nxt i) (i := i) h.ok hqn hjn (h.rows _ (List.getElem_mem hqn)) hst rfl (by simp) (by simp) (e6 := .v (.slice none 0 0)) (e7 := .v (.slice none 0 0)) (by simp) (by simp)
     (by simp) (by simp) (by simp) (by simp) (by simp) (by simp) (by simp) (by simp) (by simp) (by simp) fun E1 a2 a3 a5 a6 a7 a8 a9 a11 => ?_
    rw [← hnode] at a11 ⊢
    by_cases hr : nodeRow a w (i * n + q) = []
    ·simp [hr] at a11 ⊢
     simp [a2, a3, a6, a8, a9, a11, hi]
     refine callT_plain hfits rfl (by simp [Aut.L, Aut.cells]) ?_
     simp [a7, a9]
     refine ⟨q + 1, by omega, by simp <;> omega, [], ?_⟩
     show weak 0 _ _ [(2, .ptr 0 0), (3, .ptr 1 0), (5, intL n), (6, e6L a w (i * n + q + 1)), (7, e7L a w (i * n + q + 1)), (8, intL i), (9, intL ((q + 1 : Nat) : Int))] (hpL a w (i * n + q + 1))
     rw [hp1, h61, h71, hs1, hs2, hr, hnodeOn, hm]
     refine ⟨[0, 1, 3, 5], ?_⟩
     simp [a2, a3, a5, a8, hw1, Aut.cells, Word.cells, cellR]
    ·have hr' : (nodeRow a w (i * n + q)).map intL ≠ [] := by simpa using hr
     have hc : cellR (nodeRow a w (i * n + q)) = .sl 1 false ((nodeRow a w (i * n + q)).map intL) := cellR_ne hr
     rw [accE_ne hr'] at a11
     rw [accH_ne hr']
     simp at a11 ⊢
     simp [a2, a3, a6, a8, a9, a11, hi]
     refine callT_plain hfits rfl (by simp [Aut.L, Aut.cells]) ?_
     simp [a7, a9]
     refine ⟨q + 1, by omega, by simp <;> omega, [2], ?_⟩
     show weak 0 _ _ [(2, .ptr 0 0), (3, .ptr 1 0), (5, intL n), (6, e6L a w (i * n + q + 1)), (7, e7L a w (i * n + q + 1)), (8, intL i), (9, intL ((q + 1 : Nat) : Int))] (hpL a w (i * n + q + 1))
     rw [hp1, h61, h71, hs1, hs2, hnodeOn, hm]
     rw [hm] at hc
     refine ⟨[0, 1, 4, 6], ?_⟩
     simp [a2, a3, a5, a8, hw1, Aut.cells, Word.cells, hc]
   ·have hp0 : hpL a w (i * n + q) = [some a.cells, some w.cells, some ((nodeRows a w (i * n + q)).map cellR), some ((nodeOns a w (i * n + q)).map boolL)] := by unfold hpL; rw [if_neg hm]; rfl
    have h60 : e6L a w (i * n + q) = .view 1 2 0 (i * n + q) false := by unfold e6L; rw [accE_ne (by simp [nodeRows]; omega)]; simp
    have h70 : e7L a w (i * n + q) = .view 1 3 0 (i * n + q) false := by unfold e7L; rw [accE_ne (by simp [nodeOns]; omega)]; simp
    rw [hp0, h60, h70]
    simp [Word.cells, Aut.cells, hlt, irTakesb3]
    refine callT_plain hnxt rfl (by simp [Word.L, Word.cells]) ?_
    simp
    refine takes_l (n := n) (j := w.nxt i) (i := i) h.ok hqn hjn (h.rows _ (List.getElem_mem hqn)) hst rfl (by simp) (by simp) (e6 := .view 1 2 0 (i * n + q) false) (e7 := .view 1 3 0 (i * n + q) false) (by simp) (by simp)
     (by simp) (by simp) (by simp) (by simp) (by simp) (by simp) (by simp) (by simp) (by simp) (by simp) fun E1 a2 a3 a5 a6 a7 a8 a9 a11 => ?_
    rw [← hnode] at a11 ⊢
    by_cases hr : nodeRow a w (i * n + q) = []
    ·simp [hr] at a11 ⊢
     simp [a2, a3, a6, a8, a9, a11, hi]
     refine ⟨by omega, callT_plain hfits rfl (by simp [Aut.L, Aut.cells]) ?_⟩
     simp [a7, a9]
     refine ⟨by omega, q + 1, by omega, by simp <;> omega, [], ?_⟩
     show weak 0 _ _ [(2, .ptr 0 0), (3, .ptr 1 0), (5, intL n), (6, e6L a w (i * n + q + 1)), (7, e7L a w (i * n + q + 1)), (8, intL i), (9, intL ((q + 1 : Nat) : Int))] (hpL a w (i * n + q + 1))
     rw [hp1, h61, h71, hs1, hs2, hr, hnodeOn]
     refine ⟨[0, 1, 5, 7], ?_⟩
     simp [a2, a3, a5, a8, hw1, Aut.cells, Word.cells, cellR_nil]
    ·have hr' : (nodeRow a w (i * n + q)).map intL ≠ [] := by simpa using hr
     have hc : cellR (nodeRow a w (i * n + q)) = .sl 1 false ((nodeRow a w (i * n + q)).map intL) := cellR_ne hr
     rw [accE_ne hr'] at a11
     rw [accH_ne hr']
     simp at a11 ⊢
     simp [a2, a3, a6, a8, a9, a11, hi]
     refine ⟨by omega, callT_plain hfits rfl (by simp [Aut.L, Aut.cells]) ?_⟩
     simp [a7, a9]
     refine ⟨by omega, q + 1, by omega, by simp <;> omega, [4], ?_⟩
     show weak 0 _ _ [(2, .ptr 0 0), (3, .ptr 1 0), (5, intL n), (6, e6L a w (i * n + q + 1)), (7, e7L a w (i * n + q + 1)), (8, intL i), (9, intL ((q + 1 : Nat) : Int))] (hpL a w (i * n + q + 1))
     rw [hp1, h61, h71, hs1, hs2, hnodeOn]
     refine ⟨[0, 1, 6, 8], ?_⟩
     simp [a2, a3, a5, a8, hw1, Aut.cells, Word.cells, hc]
  ·have hqn : q = n := by omega
   subst hqn
   have e : i * q + q = (i + 1) * q := by rw [Nat.succ_mul]
   rw [e]
   simp []
   refine hQ _ ?_ ?_ ?_ ?_ ?_ ?_ <;> simp
theorem takes_i {P : Program} {nx fi is fa ev tr : Nat} (inx : compF P nx = some irNext17) (ifi : compF P fi = some (irFits ev)) (iev : compF P ev = some (irEvalR ev tr)) (itr : compF P tr = some irTruth)
  {a : Aut} {w : Word} (h : TakesOk a w) {Q : X → Env → Heap → Prop} {E : Env}
  (h2 : lk E 2 = .ptr 0 0) (h3 : lk E 3 = .ptr 1 0) (h5 : lk E 5 = intL a.lits.length) (h6 : lk E 6 = .v (.slice none 0 0)) (h7 : lk E 7 = .v (.slice none 0 0)) (h8 : lk E 8 = intL 0)
  (hQ : ∀ E', lk E' 2 = .ptr 0 0 → lk E' 3 = .ptr 1 0 → lk E' 5 = intL a.lits.length → lk E' 6 = e6L a w (w.v.length * a.lits.length) → lk E' 7 = e7L a w (w.v.length * a.lits.length) → Q .normal E' (hpL a w (w.v.length * a.lits.length))) :
  lwp P 0 (irTakesb0 nx fi is fa) (X.inBlock 0 Q) E [some a.cells, some w.cells] := by
 have hsh := h.short
 simp only [irTakesb0]
 refine lwp_loop (fun i : Nat => [(2, .ptr 0 0), (3, .ptr 1 0), (5, intL a.lits.length), (6, e6L a w (i * a.lits.length)), (7, e7L a w (i * a.lits.length)), (8, intL i)])
  (fun i => hpL a w (i * a.lits.length)) (fun i => w.v.length - i) (fun i => i ≤ w.v.length) 0 (by simp) ⟨[0, 1], ?_⟩ ?_
 ·simp [h2, h3, h5, h6, h7, h8, e6L, e7L, hpL, nodeRows, nodeOns, Aut.cells, Word.cells]
 ·intro i hi
  have hw1 : IntKind.i64.wrap ((i : Int) + 1) = ((i + 1 : Nat) : Int) := wrap_id (by omega) (by omega)
  have hH1 : (hpL a w (i * a.lits.length))[1]? = some (some w.cells) := by unfold hpL; split <;> rfl
  have hHl : 1 < (hpL a w (i * a.lits.length)).length := by unfold hpL; split <;> simp
  have hH1' : (hpL a w (i * a.lits.length))[1] = some w.cells := by
   rw [List.getElem?_eq_getElem hHl] at hH1; simpa using hH1
  by_cases hlt : i < w.v.length
  ·simp [hH1', hHl, Word.cells, hlt]
   refine takes_q inx ifi iev itr h hlt (by simp) (by simp) (by simp) (by simp) (by simp) (by simp) fun E1 a2 a3 a5 a6 a7 a8 => ?_
   simp [a8, hw1]
   refine ⟨i + 1, by omega, by simp <;> omega, ?_⟩
   show weak 0 _ _ _ (hpL a w ((i + 1) * a.lits.length))
   refine weak_env (by omega) ?_ ?_
   ·unfold hpL
    split <;> simp [Aut.cells, Word.cells]
   ·have b6 : below (hpL a w ((i + 1) * a.lits.length)).length (e6L a w ((i + 1) * a.lits.length)) = true := by
     unfold hpL e6L accE
     by_cases hm : (i + 1) * a.lits.length = 0
     ·simp [hm, nodeRows]
     ·rw [if_neg hm, if_neg (by simp [nodeRows]; simpa using hm)]; simp
    have b7 : below (hpL a w ((i + 1) * a.lits.length)).length (e7L a w ((i + 1) * a.lits.length)) = true := by
     unfold hpL e7L accE
     by_cases hm : (i + 1) * a.lits.length = 0
     ·simp [hm, nodeOns]
     ·rw [if_neg hm, if_neg (by simp [nodeOns]; simpa using hm)]; simp
    have hl2 : 1 < (hpL a w ((i + 1) * a.lits.length)).length := by unfold hpL; split <;> simp
    have hl1 : 0 < (hpL a w ((i + 1) * a.lits.length)).length := by omega
    simp [a2, a3, a5, a6, a7, b6, b7, hl1, hl2]
  ·have hin : i = w.v.length := by omega
   subst hin
   simp [hH1', hHl, Word.cells]
   refine hQ _ ?_ ?_ ?_ ?_ ?_ <;> simp
def setRow (a : Aut) (N k : Nat) : List Bool := (List.range N).map fun x => decide (((x % a.lits.length : Nat) : Int) ∈ a.acc.getD k [])
theorem takes_x {P : Program} {nx fi is fa : Nat} (iis : compF P is = some irIn) {a : Aut} (ha : a.Ok) {k : Nat} (hk : k < a.acc.length) {N : Nat} (hN : N ≤ 1000000000) (hn0 : a.lits.length ≠ 0)
  {H0 : Heap} (hH : H0[0]? = some (some a.cells)) (hlen : 4 ≤ H0.length) (hs : shut H0.length H0) {Q : X → Env → Heap → Prop} {E : Env} {e14 : L} (b14 : below H0.length e14 = true)
  (h2 : lk E 2 = .ptr 0 0) (h5 : lk E 5 = intL a.lits.length) (h6 : lk E 6 = .view 1 2 0 N false) (h7 : lk E 7 = .view 1 3 0 N false) (h14 : lk E 14 = e14) (h15 : lk E 15 = intL k) (h16 : lk E 16 = .v (.slice none 0 0)) (h17 : lk E 17 = intL 0)
  (hQ : ∀ E', lk E' 2 = .ptr 0 0 → lk E' 5 = intL a.lits.length → lk E' 6 = .view 1 2 0 N false → lk E' 7 = .view 1 3 0 N false → lk E' 14 = e14 → lk E' 15 = intL k →
   lk E' 16 = accE 1 H0.length ((setRow a N k).map boolL) → Q .normal E' (H0 ++ accH ((setRow a N k).map boolL))) :
  lwp P 0 (irTakesb8 nx fi is fa) (X.inBlock 8 Q) E H0 := by
 have hget : ∀ X : Heap, (H0 ++ X)[0]? = some (some a.cells) := fun X => by rw [List.getElem?_append_left (by omega)]; exact hH
 have hgetE : ∀ (X : Heap) (h : 0 < (H0 ++ X).length), (H0 ++ X)[0]'h = some a.cells := fun X h => by
  have := hget X
  rw [List.getElem?_eq_getElem h] at this
  simpa using this
 obtain ⟨ls, hls⟩ : ∃ ls, ls = (setRow a N k).map boolL := ⟨_, rfl⟩
 rw [← hls] at hQ
 have hel : ls.length = N := by simp [hls, setRow]
 have hbel : ∀ m : Nat, ∀ k, belowL m (ls.take k) = true := fun m k => by rw [hls, ← List.map_take, belowL_map]; simp
 have hren : ∀ (f : Nat → Nat) k, renL f (ls.take k) = ls.take k := fun f k => by rw [hls, ← List.map_take, renL_map]; simp
 have hb1 : 0 < H0.length := by omega
 have hb2 : 2 < H0.length := by omega
 have hb3 : 3 < H0.length := by omega
 have hlit := ha.lits
 simp only [irTakesb8]
 refine lwp_loop (fun x : Nat => [(2, .ptr 0 0), (5, intL a.lits.length), (6, .view 1 2 0 N false), (7, .view 1 3 0 N false), (14, e14), (15, intL k), (16, accE 1 H0.length (ls.take x)), (17, intL x)])
  (fun x => H0 ++ accH (ls.take x)) (fun x => N - x) (fun x => x ≤ N) 0 (by simp) ?_ ?_
 ·have := weak_env (k := 0) (E := E) (H := H0) (E' := [(2, .ptr 0 0), (5, intL a.lits.length), (6, .view 1 2 0 N false), (7, .view 1 3 0 N false), (14, e14), (15, intL k), (16, .v (.slice none 0 0)), (17, intL 0)]) (by omega) hs (by simp [h2, h5, h6, h7, h14, h15, h16, h17, b14, hb1, hb2, hb3])
  simpa using this
 ·intro x hx
  by_cases hlt : x < N
  ·have hek : x < ls.length := by omega
   have hv : ls[x] = boolL (decide (((x % a.lits.length : Nat) : Int) ∈ a.acc[k])) := by simp [hls, setRow, List.getD, hk]
   have hw3 : IntKind.i64.wrap ((x : Int) + 1) = ((x + 1 : Nat) : Int) := wrap_id (by omega) (by omega)
   have hmod : (x : Int).tmod (a.lits.length : Int) = ((x % a.lits.length : Nat) : Int) := by rw [Int.tmod_eq_emod_of_nonneg (by omega)]; simp
   have hsucc : ls.take (x + 1) = ls.take x ++ [boolL (decide (((x % a.lits.length : Nat) : Int) ∈ a.acc[k]))] := by
    rw [List.take_succ_eq_append_getElem hek, hv]
   have hne : ls.take (x + 1) ≠ [] := by rw [hsucc]; simp
   have hcall := in_gen iis (c := false) a.acc[k] (ha.set _ (List.getElem_mem hk)) ((x % a.lits.length : Nat) : Int)
   have hn0' : ¬ (a.lits.length : Int) = 0 := by omega
   have c14 := below_mono (show H0.length ≤ H0.length + 1 by omega) _ b14
   generalize decide (((x % a.lits.length : Nat) : Int) ∈ a.acc[k]) = bb at hcall hsucc
   have hmod' : (x : Int).tmod (a.lits.length : Int) = (x : Int) % (a.lits.length : Int) := Int.tmod_eq_emod_of_nonneg (by omega)
   have hcall' : PC P is [.sl 1 false (a.acc[k].map intL), intL ((x : Int) % (a.lits.length : Int))] (boolL bb) := by simpa using hcall
   by_cases hk0 : x = 0
   ·subst hk0
    have hcall0 : PC P is [.sl 1 false (a.acc[k].map intL), intL 0] (boolL bb) := by simpa using hcall
    have hww : IntKind.i64.wrap 1 = 1 := by decide
    simp [hH, Aut.cells, hk, hlt, hn0]
    refine callT_plain hcall0 rfl (by simp) ?_
    simp
    refine ⟨1, by omega, by simp <;> omega, ?_⟩
    show weak 0 _ _ _ (H0 ++ accH (ls.take (0 + 1)))
    simp only [hsucc]
    refine weak_app [H0.length + 1] (by omega) hs (by simp) (by simp) fun f hf ht => ?_
    have t0 := ht 0 (by simp)
    simp at t0
    have hf0 := hf 0 hb1
    have hf2 := hf 2 hb2
    have hf3 := hf 3 hb3
    have hf14 := ren_id hf _ b14
    simp [accE, accH, hf0, hf2, hf3, hf14, t0, c14, hww]
    omega
   ·have hlen0 : (ls.take x).length = x := by rw [List.length_take]; omega
    have hne0 : ls.take x ≠ [] := by
     intro h
     rw [h] at hlen0
     simp only [List.length_nil] at hlen0
     exact hk0 hlen0.symm
    have hmin : min x ls.length = x := by omega
    simp only [accE_ne hne0, accH_ne hne0, hlen0]
    simp [hgetE, Aut.cells, hk, hlt, hmod', hn0]
    refine callT_plain hcall' rfl (by simp) ?_
    simp [hmin]
    refine ⟨by omega, x + 1, by omega, by simp <;> omega, ?_⟩
    show weak 0 _ _ _ (H0 ++ accH (ls.take (x + 1)))
    simp only [hsucc]
    refine weak_app [H0.length + 2] (by omega) hs (by simp) (by simp) fun f hf ht => ?_
    have t0 := ht 0 (by simp)
    simp at t0
    have hf0 := hf 0 hb1
    have hf2 := hf 2 hb2
    have hf3 := hf 3 hb3
    have hf14 := ren_id hf _ b14
    simp [accE, accH, hf0, hf2, hf3, hf14, t0, c14, hw3, hmin, hbel, hren]
    omega
  ·have hge : N ≤ x := by omega
   have htake : ls.take x = ls := List.take_of_length_le (by omega)
   rw [htake]
   simp [hlt]
   refine hQ _ ?_ ?_ ?_ ?_ ?_ ?_ ?_ <;> simp
def cellB (r : List Bool) : L := if r = [] then .v (.slice none 0 0) else .sl 1 false (r.map boolL)
theorem cellB_nil : cellB [] = .v (.slice none 0 0) := rfl
theorem cellB_ne {r : List Bool} (h : r ≠ []) : cellB r = .sl 1 false (r.map boolL) := if_neg h
theorem cells_cellB (r : List Bool) : (cellB r).cells = [cellB r] := by unfold cellB; split <;> rfl
theorem solid_cellB (r : List Bool) : solid (cellB r) = true := by unfold cellB; split <;> rfl
theorem closed_cellB (r : List Bool) : closed (cellB r) = true := by unfold cellB; split <;> rfl
theorem below_cellB (n : Nat) (r : List Bool) : below n (cellB r) = true := by unfold cellB; split <;> simp
theorem ren_cellB (f : Nat → Nat) (r : List Bool) : ren f (cellB r) = cellB r := by unfold cellB; split <;> simp
theorem frz_cellB (H : Heap) (fz : List Nat) (r : List Bool) : frz H fz (cellB r) = cellB r := by unfold cellB; split <;> simp
attribute [simp] cells_cellB solid_cellB closed_cellB below_cellB ren_cellB frz_cellB
def accRows (a : Aut) (N k : Nat) : List (List Bool) := (List.range k).map (setRow a N)
theorem accRows_succ {a : Aut} {N k : Nat} : accRows a N (k + 1) = accRows a N k ++ [setRow a N k] := by simp [accRows, List.range_succ]
theorem accRows_length {a : Aut} {N k : Nat} : (accRows a N k).length = k := by simp [accRows]
attribute [simp] accRows_length
theorem takes_sets {P : Program} {nx fi is fa : Nat} (iis : compF P is = some irIn) {a : Aut} {w : Word} (h : TakesOk a w) {N : Nat} (hN : N ≤ 1000000000) (hNe : N = w.v.length * a.lits.length) (hN0 : N ≠ 0) {Q : X → Env → Heap → Prop} {E : Env}
  (h2 : lk E 2 = .ptr 0 0) (h5 : lk E 5 = intL a.lits.length) (h6 : lk E 6 = .view 1 2 0 N false) (h7 : lk E 7 = .view 1 3 0 N false) (h14 : lk E 14 = .v (.slice none 0 0)) (h15 : lk E 15 = intL 0)
  (hQ : ∀ E', lk E' 2 = .ptr 0 0 → lk E' 5 = intL a.lits.length → lk E' 6 = .view 1 2 0 N false → lk E' 7 = .view 1 3 0 N false → lk E' 14 = accE 1 4 ((accRows a N a.acc.length).map cellB) →
   Q .normal E' ([some a.cells, some w.cells, some ((nodeRows a w N).map cellR), some ((nodeOns a w N).map boolL)] ++ accH ((accRows a N a.acc.length).map cellB))) :
  lwp P 0 (irTakesb6 nx fi is fa) (X.inBlock 6 Q) E [some a.cells, some w.cells, some ((nodeRows a w N).map cellR), some ((nodeOns a w N).map boolL)] := by
 have hn0 : a.lits.length ≠ 0 := fun e => hN0 (by rw [hNe, e]; rfl)
 have hac := h.ends
 simp only [irTakesb6]
 refine lwp_loopF (fun k : Nat => [(2, .ptr 0 0), (5, intL a.lits.length), (6, .view 1 2 0 N false), (7, .view 1 3 0 N false), (14, accE 1 4 ((accRows a N k).map cellB)), (15, intL k)])
  (fun k => [some a.cells, some w.cells, some ((nodeRows a w N).map cellR), some ((nodeOns a w N).map boolL)] ++ accH ((accRows a N k).map cellB)) (fun k => a.acc.length - k) (fun k => k ≤ a.acc.length) 0 (by simp) [] ⟨[0, 1, 2, 3], ?_⟩ ?_
 ·simp [h2, h5, h6, h7, h14, h15, accRows, Aut.cells, Word.cells]
 ·intro k hk
  have hw1 : IntKind.i64.wrap ((k : Int) + 1) = ((k + 1 : Nat) : Int) := wrap_id (by omega) (by omega)
  by_cases hlt : k < a.acc.length
  ·have hsucc := accRows_succ (a := a) (N := N) (k := k)
   have hne : (accRows a N (k + 1)).map cellB ≠ [] := by simp [accRows]
   have hrow : setRow a N k ≠ [] := by simp [setRow]; exact hN0
   have hrow' : (setRow a N k).map boolL ≠ [] := by simpa using hrow
   have hc : cellB (setRow a N k) = .sl 1 false ((setRow a N k).map boolL) := cellB_ne hrow
   have hrl : (setRow a N k).length = N := by simp [setRow]
   by_cases hk0 : k = 0
   ·subst hk0
    have e0 : accRows a N 0 = [] := rfl
    simp only [e0] at hsucc ⊢
    simp [Aut.cells, Word.cells, hlt, irTakesb7]
    refine takes_x iis h.ok hlt hN hn0 rfl (by simp) (by simp) (e14 := .v (.slice none 0 0)) (by simp) (by simp) (by simp) (by simp) (by simp) (by simp) (by simp) (by simp) (by simp) fun E1 a2 a5 a6 a7 a14 a15 a16 => ?_
    rw [accE_ne hrow'] at a16
    rw [accH_ne hrow']
    simp at a16 ⊢
    simp [a14, a15, a16, hrl]
    refine ⟨1, by omega, by simp <;> omega, [4], ?_⟩
    show weak 0 _ _ [(2, .ptr 0 0), (5, intL a.lits.length), (6, .view 1 2 0 N false), (7, .view 1 3 0 N false), (14, accE 1 4 ((accRows a N (0 + 1)).map cellB)), (15, intL ((0 + 1 : Nat) : Int))] (some a.cells :: some w.cells :: some ((nodeRows a w N).map cellR) :: some ((nodeOns a w N).map boolL) :: accH ((accRows a N (0 + 1)).map cellB))
    rw [accE_ne hne, accH_ne hne, hsucc]
    refine ⟨[0, 1, 2, 3, 6], ?_⟩
    have hww : IntKind.i64.wrap 1 = 1 := by decide
    simp [a2, a5, a6, a7, hww, Aut.cells, Word.cells, hc, hrl]
   ·have hne0 : (accRows a N k).map cellB ≠ [] := by simp [accRows]; exact hk0
    simp only [accE_ne hne0, accH_ne hne0]
    simp [Aut.cells, Word.cells, hlt, irTakesb7]
    refine takes_x iis h.ok hlt hN hn0 rfl (by simp) (by simp) (e14 := .view 1 4 0 k false) (by simp) (by simp) (by simp) (by simp) (by simp) (by simp) (by simp) (by simp) (by simp) fun E1 a2 a5 a6 a7 a14 a15 a16 => ?_
    rw [accE_ne hrow'] at a16
    rw [accH_ne hrow']
    simp at a16 ⊢
    simp [a14, a15, a16, hrl]
    refine ⟨by omega, k + 1, by omega, by simp <;> omega, [5], ?_⟩
    show weak 0 _ _ [(2, .ptr 0 0), (5, intL a.lits.length), (6, .view 1 2 0 N false), (7, .view 1 3 0 N false), (14, accE 1 4 ((accRows a N (k + 1)).map cellB)), (15, intL ((k + 1 : Nat) : Int))] (some a.cells :: some w.cells :: some ((nodeRows a w N).map cellR) :: some ((nodeOns a w N).map boolL) :: accH ((accRows a N (k + 1)).map cellB))
    rw [accE_ne hne, accH_ne hne, hsucc]
    refine ⟨[0, 1, 2, 3, 7], ?_⟩
    simp [a2, a5, a6, a7, hw1, Aut.cells, Word.cells, hc, hrl]
  ·have hkn : k = a.acc.length := by omega
   subst hkn
   simp [Aut.cells, Word.cells]
   refine hQ _ ?_ ?_ ?_ ?_ ?_ <;> simp
theorem setRow_zero {a : Aut} {k : Nat} : setRow a 0 k = [] := rfl
theorem takes_sets0 {P : Program} {nx fi is fa : Nat} {a : Aut} {w : Word} (h : TakesOk a w) {Q : X → Env → Heap → Prop} {E : Env}
  (h2 : lk E 2 = .ptr 0 0) (h5 : lk E 5 = intL a.lits.length) (h6 : lk E 6 = .v (.slice none 0 0)) (h7 : lk E 7 = .v (.slice none 0 0)) (h14 : lk E 14 = .v (.slice none 0 0)) (h15 : lk E 15 = intL 0)
  (hQ : ∀ E', lk E' 2 = .ptr 0 0 → lk E' 5 = intL a.lits.length → lk E' 6 = .v (.slice none 0 0) → lk E' 7 = .v (.slice none 0 0) → lk E' 14 = accE 1 2 ((accRows a 0 a.acc.length).map cellB) →
   Q .normal E' ([some a.cells, some w.cells] ++ accH ((accRows a 0 a.acc.length).map cellB))) :
  lwp P 0 (irTakesb6 nx fi is fa) (X.inBlock 6 Q) E [some a.cells, some w.cells] := by
 have hac := h.ends
 simp only [irTakesb6]
 refine lwp_loop (fun k : Nat => [(2, .ptr 0 0), (5, intL a.lits.length), (6, .v (.slice none 0 0)), (7, .v (.slice none 0 0)), (14, accE 1 2 ((accRows a 0 k).map cellB)), (15, intL k)])
  (fun k => [some a.cells, some w.cells] ++ accH ((accRows a 0 k).map cellB)) (fun k => a.acc.length - k) (fun k => k ≤ a.acc.length) 0 (by simp) ⟨[0, 1], ?_⟩ ?_
 ·simp [h2, h5, h6, h7, h14, h15, accRows, Aut.cells, Word.cells]
 ·intro k hk
  have hw1 : IntKind.i64.wrap ((k : Int) + 1) = ((k + 1 : Nat) : Int) := wrap_id (by omega) (by omega)
  by_cases hlt : k < a.acc.length
  ·have hsucc := accRows_succ (a := a) (N := 0) (k := k)
   have hne : (accRows a 0 (k + 1)).map cellB ≠ [] := by simp [accRows]
   rw [setRow_zero] at hsucc
   by_cases hk0 : k = 0
   ·subst hk0
    have e0 : accRows a 0 0 = [] := rfl
    simp only [e0] at hsucc ⊢
    simp [Aut.cells, Word.cells, hlt, irTakesb7]
    simp only [irTakesb8]
    refine lwp_loop (fun _ : Unit => [(2, .ptr 0 0), (5, intL a.lits.length), (6, .v (.slice none 0 0)), (7, .v (.slice none 0 0)), (14, .v (.slice none 0 0)), (15, intL 0), (16, .v (.slice none 0 0)), (17, intL 0)]) (fun _ => [some a.cells, some w.cells]) (fun _ => 0) (fun _ => True) () trivial ⟨[0, 1], ?_⟩ ?_
    ·simp [Aut.cells, Word.cells]
    ·intro _ _
     simp
     refine ⟨1, by omega, by simp <;> omega, ?_⟩
     show weak 0 _ _ [(2, .ptr 0 0), (5, intL a.lits.length), (6, .v (.slice none 0 0)), (7, .v (.slice none 0 0)), (14, accE 1 2 ((accRows a 0 (0 + 1)).map cellB)), (15, intL ((0 + 1 : Nat) : Int))] (some a.cells :: some w.cells :: accH ((accRows a 0 (0 + 1)).map cellB))
     rw [accE_ne hne, accH_ne hne, hsucc]
     refine ⟨[0, 1, 3], ?_⟩
     have hww : IntKind.i64.wrap 1 = 1 := by decide
     simp [hww, Aut.cells, Word.cells, cellB_nil]
   ·have hne0 : (accRows a 0 k).map cellB ≠ [] := by simp [accRows]; exact hk0
    simp only [accE_ne hne0, accH_ne hne0]
    simp [Aut.cells, Word.cells, hlt, irTakesb7]
    simp only [irTakesb8]
    refine lwp_loop (fun _ : Unit => [(2, .ptr 0 0), (5, intL a.lits.length), (6, .v (.slice none 0 0)), (7, .v (.slice none 0 0)), (14, .view 1 2 0 k false), (15, intL k), (16, .v (.slice none 0 0)), (17, intL 0)]) (fun _ => [some a.cells, some w.cells, some ((accRows a 0 k).map cellB)]) (fun _ => 0) (fun _ => True) () trivial ⟨[0, 1, 2], ?_⟩ ?_
    ·simp [Aut.cells, Word.cells]
    ·intro _ _
     simp
     refine ⟨by omega, k + 1, by omega, by simp <;> omega, ?_⟩
     show weak 0 _ _ [(2, .ptr 0 0), (5, intL a.lits.length), (6, .v (.slice none 0 0)), (7, .v (.slice none 0 0)), (14, accE 1 2 ((accRows a 0 (k + 1)).map cellB)), (15, intL ((k + 1 : Nat) : Int))] (some a.cells :: some w.cells :: accH ((accRows a 0 (k + 1)).map cellB))
     rw [accE_ne hne, accH_ne hne, hsucc]
     refine ⟨[0, 1, 4], ?_⟩
     simp [hw1, Aut.cells, Word.cells, cellB_nil]
  ·have hkn : k = a.acc.length := by omega
   subst hkn
   simp [Aut.cells, Word.cells]
   refine hQ _ ?_ ?_ ?_ ?_ ?_ <;> simp
def takesG (a : Aut) (w : Word) : FG :=
 let N := w.v.length * a.lits.length
 ⟨false, false, (nodeRows a w N).map (·.map Int.toNat), if a.acc = [] then [List.replicate N true] else accRows a N a.acc.length⟩
def Takes (a : Aut) (w : Word) : Prop := ∃ q ∈ a.init, FairN (takesG a w) (nodeOns a w (w.v.length * a.lits.length)) q.toNat
open Classical in
noncomputable def Aut.takes (a : Aut) (w : Word) : Bool := decide (Takes a w)
open Classical in
theorem takes_iff {a : Aut} {w : Word} : a.takes w = true ↔ Takes a w := by unfold Aut.takes; exact decide_eq_true_iff
def Unmet (z : List Bool) (l : List Int) : Prop := ∀ s ∈ l, ¬ on z s.toNat
theorem edgeRow_toNat {n j : Nat} {r : List Int} (h : ∀ s ∈ r, 0 ≤ s) : ((edgeRow n j r).map Int.toNat).map (fun x : Nat => intL x) = (edgeRow n j r).map intL := by
 rw [List.map_map]
 refine List.map_congr_left fun x hx => ?_
 obtain ⟨s, hs, rfl⟩ := List.mem_map.1 hx
 have := h s hs
 simp only [Function.comp]
 rw [Int.toNat_of_nonneg (by omega)]
theorem TakesOk.rowD {a : Aut} {w : Word} (h : TakesOk a w) (q : Nat) : (a.next.getD q []).length < 4000 ∧ ∀ s ∈ a.next.getD q [], 0 ≤ s ∧ s < (a.lits.length : Int) := by
 by_cases hq : q < a.next.length
 ·have e : a.next.getD q [] = a.next[q] := by simp [List.getD, hq]
  rw [e]
  exact ⟨h.rows _ (List.getElem_mem hq), h.row hq⟩
 ·have e : a.next.getD q [] = [] := by simp [List.getD, List.getElem?_eq_none (Nat.le_of_not_lt hq)]
  rw [e]; simp
theorem takesG_ok {a : Aut} {w : Word} (h : TakesOk a w) : (takesG a w).Ok (w.v.length * a.lits.length) := by
 have hN : w.v.length * a.lits.length ≤ 500000000 := by have := Nat.mul_le_mul h.short h.few; omega
 have hac := h.ends
 refine ⟨by simp [takesG], by omega, ?_, ?_, ?_⟩
 ·intro r hr
  simp only [takesG, List.mem_map] at hr
  obtain ⟨r', hr', rfl⟩ := hr
  simp only [nodeRows, List.mem_map, List.mem_range] at hr'
  obtain ⟨x, hx, rfl⟩ := hr'
  obtain ⟨h1, h2⟩ := h.rowD (x % a.lits.length)
  refine ⟨by simp [nodeRow, edgeRow]; simp only [List.getD] at h1; omega, fun y hy => ?_⟩
  simp only [nodeRow, edgeRow, List.map_map, List.mem_map] at hy
  obtain ⟨s, hs, rfl⟩ := hy
  have hs' := h2 s hs
  have hn0 : 0 < a.lits.length := by omega
  have hxv : x / a.lits.length < w.v.length := by rw [Nat.div_lt_iff_lt_mul hn0]; exact hx
  have hnx := h.nxt hxv
  simp only [Function.comp]
  have : w.nxt (x / a.lits.length) * a.lits.length + a.lits.length ≤ w.v.length * a.lits.length := by
   rw [← Nat.succ_mul]; exact Nat.mul_le_mul_right _ hnx
  omega
 ·intro s hs
  simp only [takesG] at hs
  split at hs
  ·simp at hs; subst hs; simp
  ·simp only [accRows, List.mem_map] at hs
   obtain ⟨k, -, rfl⟩ := hs
   simp [setRow]
 ·simp only [takesG]
  split <;> simp <;> omega
theorem takes_end {P : Program} {nx fi is fa : Nat} {a : Aut} {w : Word} (h : TakesOk a w) {z : List Bool} (hz : z.length = w.v.length * a.lits.length) (hzo : ∀ i, on z i ↔ FairN (takesG a w) (nodeOns a w (w.v.length * a.lits.length)) i)
  {T : Heap} (hs : shut (T.length + 1) (some a.cells :: T)) {E : Env} (h2 : lk E 2 = .ptr 0 0) (h21 : lk E 21 = .sl 1 false (z.map boolL)) (h22 : lk E 22 = intL 0) :
  lwp P 0 (irTakesb12 nx fi is fa) (X.inBlock 12 (X.then (lwp P 0 (.seq (.ops [⟨some 4, .mov (.c (.v (.bool false))), none⟩]) .ret) (fnPost [RV.t 4] fun r H' => reso H' 4 r = some (boolL (a.takes w)))) (fnPost [RV.t 4] fun r H' => reso H' 4 r = some (boolL (a.takes w))))) E (some a.cells :: T) := by
 have hac := h.ends
 have hr := h.right
 have hlp := h.loop
 simp only [Aut.right, Bool.and_eq_true, decide_eq_true_eq] at hr
 have hinit : ∀ s ∈ a.init, 0 ≤ s ∧ s < (a.lits.length : Int) := fun s hs => by
  have := List.all_eq_true.1 hr.1.1.1 s hs; simpa using this
 simp only [irTakesb12]
 refine lwp_loop (fun k : Nat => [(2, .ptr 0 0), (21, .sl 1 false (z.map boolL)), (22, intL k)]) (fun _ => some a.cells :: T) (fun k => a.init.length - k) (fun k => k ≤ a.init.length ∧ Unmet z (a.init.take k)) 0 (by simp [Unmet]) ?_ ?_
 ·exact weak_env (by omega) hs (by simp [h2, h21, h22])
 ·rintro k ⟨hk, hall⟩
  have hw1 : IntKind.i64.wrap ((k : Int) + 1) = ((k + 1 : Nat) : Int) := wrap_id (by omega) (by omega)
  by_cases hlt : k < a.init.length
  ·obtain ⟨i1, i2⟩ := hinit _ (List.getElem_mem hlt)
   have hn : 0 < w.v.length := by omega
   have hiz : a.init[k].toNat < z.length := by
    rw [hz]
    have : a.lits.length ≤ w.v.length * a.lits.length := Nat.le_mul_of_pos_left _ hn
    omega
   cases hzk : z[a.init[k].toNat]
   ·simp [Aut.cells, hlt, i1, hiz, hzk]
    refine ⟨k + 1, ⟨by omega, fun s hs' => ?_⟩, by simp <;> omega, ?_⟩
    ·rw [List.take_succ_eq_append_getElem hlt] at hs'
     rcases List.mem_append.1 hs' with h' | h'
     ·exact hall s h'
     ·simp only [List.mem_singleton] at h'
      subst h'
      rw [on_iff hiz, hzk]; simp
    ·refine weak_env (by omega) hs (by simp [hw1])
   ·have e : a.takes w = true := takes_iff.2 ⟨a.init[k], List.getElem_mem hlt, (hzo _).1 ((on_iff hiz).2 hzk)⟩
    simp [Aut.cells, hlt, i1, hiz, hzk, e]
  ·have hge : a.init.length ≤ k := by omega
   rw [List.take_of_length_le hge] at hall
   have e : a.takes w = false := by
    rw [Bool.eq_false_iff, Ne, takes_iff]
    rintro ⟨s, hs', hf⟩
    exact hall s hs' ((hzo _).2 hf)
   simp [Aut.cells, hlt, e]
theorem sub_rows {a : Aut} {w : Word} (h : TakesOk a w) (m : Nat) : Sub (.sl 1 false ((nodeRows a w m).map cellR)) (.sl 1 false (((nodeRows a w m).map (·.map Int.toNat)).map rowN)) := by
 rw [List.map_map]
 refine Sub.map (fun r hr => ?_) (fun r hr => rfl)
 simp only [nodeRows, List.mem_map, List.mem_range] at hr
 obtain ⟨x, -, rfl⟩ := hr
 have e : rowN ((nodeRow a w x).map Int.toNat) = .sl 1 false ((nodeRow a w x).map intL) := by
  unfold rowN nodeRow; rw [edgeRow_toNat fun s hs => (((h.rowD _).2 s hs).1)]
 simp only [Function.comp]
 rw [e]
 unfold cellR
 split
 ·rename_i h0; rw [h0]; exact .nil _ _
 ·exact .refl _
theorem sub_sets {a : Aut} {N m : Nat} : Sub (.sl 1 false ((accRows a N m).map cellB)) (.sl 1 false ((accRows a N m).map boolsL)) := by
 refine Sub.map (fun r _ => ?_) (fun r _ => rfl)
 unfold cellB boolsL
 split
 ·rename_i h0; rw [h0]; exact .nil _ _
 ·exact .refl _
theorem sub_all {N : Nat} : Sub (.sl 1 false [.sl 1 true ((List.replicate N true).map boolL)]) (.sl 1 false ([List.replicate N true].map boolsL)) := by
 refine .els (by simp) (fun j => ?_) (by simp [boolsL])
 cases j with
 | zero => exact .clip _ _
 | succ j => exact .refl _
theorem takes18_gen {P : Program} {f nx fi is fa ev tr : Nat} (ir : compF P f = some (irTakes nx fi is fa)) (inx : compF P nx = some irNext17) (ifi : compF P fi = some (irFits ev)) (iev : compF P ev = some (irEvalR ev tr)) (itr : compF P tr = some irTruth)
  (iis : compF P is = some irIn) (ifa : compF P fa = some irFair) {a : Aut} {w : Word} (h : TakesOk a w) : PC P f [a.L, w.L] (boolL (a.takes w)) := by
 have hN : w.v.length * a.lits.length ≤ 500000000 := by have := Nat.mul_le_mul h.short h.few; omega
 have hac := h.ends
 obtain ⟨z, hpc, hz, hzo⟩ := fair_gen ifa (takesG_ok h) (c := false) (o := nodeOns a w (w.v.length * a.lits.length)) (by simp)
 refine pc_of_call (callAt_enter ir (by simp [irTakes]) ?_)
 simp [irTakes, Aut.L, Word.L, Aut.cells, Word.cells]
 refine takes_i inx ifi iev itr h (by simp) (by simp) (by simp) (by simp) (by simp) (by simp) (fun E1 a2 a3 a5 a6 a7 => ?_)
 by_cases hN0 : w.v.length * a.lits.length = 0
 ·have hp0 : hpL a w (w.v.length * a.lits.length) = [some a.cells, some w.cells] := by unfold hpL; rw [if_pos hN0]; rfl
  have h60 : e6L a w (w.v.length * a.lits.length) = .v (.slice none 0 0) := by simp only [e6L, hN0]; rfl
  have h70 : e7L a w (w.v.length * a.lits.length) = .v (.slice none 0 0) := by simp only [e7L, hN0]; rfl
  rw [hp0]
  rw [h60] at a6
  rw [h70] at a7
  have r0 : (takesG a w).nxL = .sl 1 false [] := by simp only [FG.nxL, takesG, hN0]; rfl
  have o0 : (nodeOns a w (w.v.length * a.lits.length)).map boolL = [] := by simp only [hN0]; rfl
  rw [r0, o0] at hpc
  simp
  refine takes_sets0 h (by simp [a2]) (by simp [a5]) (by simp [a6]) (by simp [a7]) (by simp) (by simp) fun E2 b2 b5 b6 b7 b14 => ?_
  by_cases hacc : a.acc = []
  ·have e0 : accRows a 0 a.acc.length = [] := by rw [hacc]; rfl
   rw [e0] at b14 ⊢
   simp at b14 ⊢
   simp [b14, b6]
   simp only [irTakesb10]
   refine lwp_loop (fun _ : Unit => [(2, .ptr 0 0), (6, .v (.slice none 0 0)), (7, .v (.slice none 0 0)), (14, .v (.slice none 0 0)), (19, .view 1 2 0 0 true), (20, intL 0)])
    (fun _ => [some a.cells, some w.cells, some []]) (fun _ => 0) (fun _ => True) () trivial ⟨[0, 1, 2], ?_⟩ ?_
   ·simp [b2, b6, b7, b14, Aut.cells, Word.cells]
   ·intro _ _
    simp
    have hpc2 := hpc.sub (ls' := [.v (.slice none 0 0), .v (.slice none 0 0), .sl 1 false [.sl 1 true ((List.replicate 0 true).map boolL)]])
     (.cons (.nil _ _) (.cons (.nil _ _) (.cons (by have := sub_all (N := 0); simpa only [FG.setsL, takesG, hN0, hacc, if_true] using this) .nil))) (.refl _)
    refine callT_freeze [2, 4] hpc2 ?_ ?_
    ·simp
    ·simp
     exact takes_end h hz hzo (by simp [Aut.cells, Word.cells]) (by simp) (by simp) (by simp)
  ·have hne : (accRows a 0 a.acc.length).map cellB ≠ [] := by simp [accRows]; simpa using hacc
   rw [accE_ne hne] at b14
   rw [accH_ne hne]
   simp at b14 ⊢
   have hl0 : ¬ a.acc.length = 0 := by simpa using hacc
   simp [b14, hl0, b6, b7]
   have hpc2 := hpc.sub (ls' := [.v (.slice none 0 0), .v (.slice none 0 0), .sl 1 false ((accRows a 0 a.acc.length).map cellB)])
    (.cons (.nil _ _) (.cons (.nil _ _) (.cons (by have := sub_sets (a := a) (N := 0) (m := a.acc.length); simpa only [FG.setsL, takesG, hN0, if_neg hacc] using this) .nil))) (.refl _)
   refine callT_freeze [2] hpc2 ?_ ?_
   ·simp
   ·simp
    exact takes_end h hz hzo (by simp [Aut.cells, Word.cells]) (by simp [b2]) (by simp) (by simp)
 ·have hp0 : hpL a w (w.v.length * a.lits.length) = [some a.cells, some w.cells, some ((nodeRows a w (w.v.length * a.lits.length)).map cellR), some ((nodeOns a w (w.v.length * a.lits.length)).map boolL)] := by unfold hpL; rw [if_neg hN0]; rfl
  have h60 : e6L a w (w.v.length * a.lits.length) = .view 1 2 0 (w.v.length * a.lits.length) false := by unfold e6L; rw [accE_ne (by simp [nodeRows]; simpa using hN0)]; simp
  have h70 : e7L a w (w.v.length * a.lits.length) = .view 1 3 0 (w.v.length * a.lits.length) false := by unfold e7L; rw [accE_ne (by simp [nodeOns]; simpa using hN0)]; simp
  rw [hp0]
  rw [h60] at a6
  rw [h70] at a7
  obtain ⟨N, hNe⟩ : ∃ N, N = w.v.length * a.lits.length := ⟨_, rfl⟩
  rw [← hNe] at a6 a7 hN hN0 hzo hpc hz ⊢
  simp
  refine takes_sets iis h (show N ≤ 1000000000 by omega) hNe hN0 (by simp [a2]) (by simp [a5]) (by simp [a6]) (by simp [a7]) (by simp) (by simp) fun E2 b2 b5 b6 b7 b14 => ?_
  by_cases hacc : a.acc = []
  ·have e0 : accRows a N a.acc.length = [] := by rw [hacc]; rfl
   rw [e0] at b14 ⊢
   simp at b14 ⊢
   simp [b14, b6]
   refine ⟨by omega, ?_⟩
   simp only [irTakesb10]
   refine lwp_loop (fun x : Nat => [(2, .ptr 0 0), (6, .view 1 2 0 N false), (7, .view 1 3 0 N false), (14, .v (.slice none 0 0)), (19, .view 1 4 0 N true), (20, intL x)])
    (fun x => [some a.cells, some w.cells, some ((nodeRows a w N).map cellR), some ((nodeOns a w N).map boolL), some ((List.replicate x true ++ List.replicate (N - x) false).map boolL)]) (fun x => N - x) (fun x => x ≤ N) 0 (by simp) ⟨[0, 1, 2, 3, 4], ?_⟩ ?_
   ·simp [b2, b6, b7, b14, Aut.cells, Word.cells]
    exact belowL_repl (by simp)
   ·intro x hx
    by_cases hlt : x < N
    ·have hset : (List.replicate (N - x) (boolL false)).set 0 (L.v (.bool true)) = boolL true :: List.replicate (N - (x + 1)) (boolL false) := by
      rw [show N - x = N - (x + 1) + 1 by omega, List.replicate_succ, List.set_cons_zero]
     have hrep : List.replicate x (boolL true) ++ boolL true :: List.replicate (N - (x + 1)) (boolL false) = List.replicate (x + 1) (boolL true) ++ List.replicate (N - (x + 1)) (boolL false) := by
      rw [List.replicate_succ' (n := x)]; simp
     have hw1 : IntKind.i64.wrap ((x : Int) + 1) = ((x + 1 : Nat) : Int) := wrap_id (by omega) (by omega)
     have hb : ∀ n, belowL 5 (List.replicate n (boolL true)) = true := fun n => belowL_repl (by simp)
     have hb' : ∀ n, belowL 5 (List.replicate n (boolL false)) = true := fun n => belowL_repl (by simp)
     simp [hlt]
     refine ⟨by omega, x + 1, by omega, by simp <;> omega, [0, 1, 2, 3, 4], ?_⟩
     rw [hset, hrep]
     simp [hw1, Aut.cells, Word.cells, hb, hb']
    ·have hxN : x = N := by omega
     subst hxN
     simp
     have hpc2 := hpc.sub (ls' := [.sl 1 false ((nodeRows a w x).map cellR), .sl 1 false ((nodeOns a w x).map boolL), .sl 1 false [.sl 1 true ((List.replicate x true).map boolL)]])
      (.cons (by have := sub_rows h x; simpa [FG.nxL, takesG, ← hNe] using this) (.cons (.refl _) (.cons (by have := sub_all (N := x); simpa [FG.setsL, takesG, ← hNe, hacc] using this) .nil))) (.refl _)
     have hnc : ∀ n, (List.replicate n (boolL true)).all closed = true := fun n => by rw [List.all_eq_true]; intro y hy; rw [List.eq_of_mem_replicate hy]; rfl
     refine callT_freeze [2, 3, 4, 6] hpc2 ?_ ?_
     ·simp [hnc]
     ·simp
      exact takes_end h (hz.trans hNe) (by rw [← hNe]; exact hzo) (by simp [Aut.cells, Word.cells]) (by simp) (by simp) (by simp)
  ·have hne : (accRows a N a.acc.length).map cellB ≠ [] := by simp [accRows]; simpa using hacc
   rw [accE_ne hne] at b14
   rw [accH_ne hne]
   simp at b14 ⊢
   have hl0 : ¬ a.acc.length = 0 := by simpa using hacc
   simp [b14, hl0, b6, b7]
   have hpc2 := hpc.sub (ls' := [.sl 1 false ((nodeRows a w N).map cellR), .sl 1 false ((nodeOns a w N).map boolL), .sl 1 false ((accRows a N a.acc.length).map cellB)])
    (.cons (by have := sub_rows h N; simpa [FG.nxL, takesG, ← hNe] using this) (.cons (.refl _) (.cons (by have := sub_sets (a := a) (N := N) (m := a.acc.length); simpa [FG.setsL, takesG, ← hNe, hacc] using this) .nil))) (.refl _)
   refine callT_freeze [2, 3, 4] hpc2 ?_ ?_
   ·simp
   ·simp
    exact takes_end h (hz.trans hNe) (by rw [← hNe]; exact hzo) (by simp [Aut.cells, Word.cells]) (by simp [b2]) (by simp) (by simp)
end Lg

