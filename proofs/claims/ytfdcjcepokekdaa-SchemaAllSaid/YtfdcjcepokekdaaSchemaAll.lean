/- Of small ranges just so many byte strings are vectors as there are vectors. -/
import Derived.Test.YtfdcjcepokekdaaSchemaTells
import Derived.Test.YtfdcjcepokekdaaLibSchN
namespace Go.Proofs.Ytfdcjcepokekdaa
open Go Lg

/-- A range of a bound and a span. -/
def fldOf (p : Int × Int) : Int × Int := (p.1, p.1 + (p.2 % 6))
theorem pairs_of : ∀ {a b : List Int}, a.length = b.length → ∃ q : List (Int × Int), a = q.map (·.1) ∧ b = q.map (·.2)
  | [], [], _ => ⟨[], rfl, rfl⟩
  | x :: a, y :: b, h => by
    obtain ⟨q, rfl, rfl⟩ := pairs_of (a := a) (b := b) (by simpa using h)
    exact ⟨(x, y) :: q, rfl, rfl⟩
  | [], _ :: _, h => by simp at h
  | _ :: _, [], h => by simp at h
theorem cellsF_ren {f : Nat → Nat} : ∀ {s : List (Int × Int)}, renL f (cellsF s) = cellsF s
  | [] => rfl
  | z :: s => by
    have e : cellsF (z :: s) = [intL z.1, intL z.2] ++ cellsF s := rfl
    rw [e, renL_append, cellsF_ren]
    simp
theorem cellsF_below {n : Nat} : ∀ {s : List (Int × Int)}, belowL n (cellsF s) = true
  | [] => rfl
  | z :: s => by
    have e : cellsF (z :: s) = [intL z.1, intL z.2] ++ cellsF s := rfl
    rw [e, belowL_append, cellsF_below]
    simp
def allH (S : List (Int × Int)) (i : Nat) : Heap := if i = 0 then [] else [some (cellsF (S.take i))]
def allE (i : Nat) : L := if i = 0 then nilL else .view 2 0 0 i false

theorem schemaAll_any (y0 : List (Int)) (h0 : (∀ z ∈ y0, (Lit.int .i8 z).wf = true) ∧ y0.length * 1 ≤ 140737488351232) (y1 : List (Int)) (h1 : (∀ z ∈ y1, (Lit.int .u8 z).wf = true) ∧ y1.length * 1 ≤ 140737488351232) : PC Try.prog 6 [L.sl 1 false (y0.map fun (z : Int) => L.v (.int .i8 z)), L.sl 1 false (y1.map fun (z : Int) => L.v (.int .u8 z))] (.v (.bool true)) := by
  have hlo : ∀ z ∈ y0, -128 ≤ z ∧ z ≤ 127 := fun z hz => i8_wf (h0.1 z hz)
  have hsp : ∀ z ∈ y1, 0 ≤ z ∧ z ≤ 255 := fun z hz => u8_wf (h1.1 z hz)
  refine pc_of_call (callAt_enter ir6 (by simp) ?_)
  simp
  refine callT_closed shown_any (by simp) ?_
  by_cases l1 : 1 ≤ y0.length
  rotate_left
  · simp [show (y0.length : Int) < 1 by omega]
  by_cases l5 : y0.length ≤ 5
  rotate_left
  · simp [show ¬ (y0.length : Int) < 1 by omega, show (5 : Int) < y0.length by omega]
  by_cases heq : y0.length = y1.length
  rotate_left
  · simp [show ¬ (y0.length : Int) < 1 by omega, show ¬ (5 : Int) < y0.length by omega, show ¬ (y1.length : Int) = y0.length by omega]
  obtain ⟨q, rfl, rfl⟩ := pairs_of heq
  simp only [List.length_map] at l1 l5
  obtain ⟨S, hS⟩ : ∃ S, S = q.map fldOf := ⟨_, rfl⟩
  have hSl : S.length = q.length := by rw [hS]; simp
  have hfl : ∀ p ∈ q, (-128 ≤ p.1 ∧ p.1 ≤ 127) ∧ (0 ≤ p.2 ∧ p.2 ≤ 255) := fun p hp => ⟨hlo _ (List.mem_map.2 ⟨p, hp, rfl⟩), hsp _ (List.mem_map.2 ⟨p, hp, rfl⟩)⟩
  have hmp : ∀ p ∈ q, mayP (fldOf p) := fun p hp => by
    obtain ⟨⟨a1, a2⟩, b1, b2⟩ := hfl p hp
    exact ⟨by simp only [fldOf]; omega, by simp only [fldOf]; omega, by simp only [fldOf]; omega, by simp only [fldOf]; omega⟩
  have hm : ∀ z ∈ S, mayP z := fun z hz => by
    rw [hS] at hz
    obtain ⟨p, hp, rfl⟩ := List.mem_map.1 hz
    exact hmp p hp
  have hval : ∀ z ∈ S, valN z ≤ 6 := fun z hz => by
    rw [hS] at hz
    obtain ⟨p, hp, rfl⟩ := List.mem_map.1 hz
    simp only [valN, fldOf]
    have := hfl p hp
    omega
  have hS0 : S ≠ [] := fun e => by rw [e] at hSl; simp at hSl; omega
  simp [show ¬ (q.length : Int) < 1 by omega, show ¬ (5 : Int) < q.length by omega]
  refine lwp_loop (fun i : Nat => [(0, .sl 1 false (q.map fun p => L.v (.int .i8 p.1))), (1, .sl 1 false (q.map fun p => L.v (.int .u8 p.2))), (4, boolL false), (5, boolL true), (6, intL q.length), (7, allE i), (8, intL (prodN (S.take i))), (9, intL (bitsS (S.take i))), (10, intL i)]) (fun i => allH S i) (fun i => q.length - i) (fun i => i ≤ q.length) 0 (by simp) ⟨[], by simp [allH, allE, prodN, bitsS, Function.comp_def]⟩ ?_
  intro i hi
  by_cases h : i < q.length
  · obtain ⟨p, hp⟩ : ∃ p, q[i]? = some p := ⟨_, List.getElem?_eq_getElem h⟩
    have hg : q[i] = p := by simpa [h] using hp
    have hmem := List.mem_of_getElem? hp
    obtain ⟨⟨a1, a2⟩, b1, b2⟩ := hfl p hmem
    have hSi : S[i]? = some (fldOf p) := by rw [hS, List.getElem?_map, hp]; rfl
    obtain ⟨k, hk⟩ : ∃ k, k = p.2 % 6 := ⟨_, rfl⟩
    have ck : (IntKind.i64.wrap p.2).tmod 6 = k := by rw [show IntKind.i64.wrap p.2 = p.2 from wrap_id (by omega) (by omega), Int.tmod_eq_emod_of_nonneg b1, hk]
    have clo : IntKind.i64.wrap p.1 = p.1 := IntWalk.i64_in _ ⟨by omega, by omega⟩
    have chi : IntKind.i64.wrap (p.1 + k) = p.1 + k := IntWalk.i64_in _ ⟨by omega, by omega⟩
    have ck1 : IntKind.i64.wrap (k + 1) = k + 1 := IntWalk.i64_in _ ⟨by omega, by omega⟩
    have hf : fldOf p = (p.1, p.1 + k) := by rw [fldOf, ← hk]
    have hw := wide_any (hmp p hmem)
    rw [hf] at hw
    have hpr := prodN_snoc hSi
    have hbs := bitsS_snoc hSi
    have hb := bitsS_le (s := S.take i) (fun y hy => hm y (List.mem_of_mem_take hy))
    have hple := prodN_le (m := 6) (s := S.take i) (fun y hy => hval y (List.mem_of_mem_take hy))
    have hwN : valN (fldOf p) = (k + 1).toNat := by rw [hf]; simp only [valN]; omega
    have hw16 : widF (p.1, p.1 + k) ≤ 16 := by
      have := bitsS_le (s := [fldOf p]) (fun y hy => by simp at hy; rw [hy]; exact hmp p hmem)
      rw [hf] at this
      simpa [bitsS] using this
    have hil : (S.take i).length = i := by simp; omega
    rw [hil] at hb hple
    have hple2 : prodN (S.take i) ≤ 6 ^ 5 := Nat.le_trans hple (Nat.pow_le_pow_right (by omega) (by omega))
    obtain ⟨pr, hpr0⟩ : ∃ pr, pr = prodN (S.take i) := ⟨_, rfl⟩
    obtain ⟨bs, hbs0⟩ : ∃ bs, bs = bitsS (S.take i) := ⟨_, rfl⟩
    obtain ⟨wf, hwf0⟩ : ∃ wf, wf = widF (p.1, p.1 + k) := ⟨_, rfl⟩
    obtain ⟨kn, hkn⟩ : ∃ kn : Nat, k = kn := ⟨k.toNat, by omega⟩
    have hk1 : (k + 1).toNat = kn + 1 := by omega
    rw [← hpr0, hwN, hk1] at hpr
    rw [← hpr0] at hple2
    rw [← hbs0, hf, ← hwf0] at hbs
    rw [← hbs0] at hb
    rw [← hwf0] at hw hw16
    have hmul : pr * (kn + 1) ≤ 46656 := Nat.le_trans (Nat.mul_le_mul hple2 (show kn + 1 ≤ 6 by omega)) (by decide)
    have e1 : IntKind.i64.wrap ((pr : Int) * (k + 1)) = ((pr * (kn + 1) : Nat) : Int) := by
      have : (pr : Int) * (k + 1) = ((pr * (kn + 1) : Nat) : Int) := by rw [hkn]; simp
      rw [this, wrap_id (by omega) (by omega)]
    have e2 : IntKind.i64.wrap ((bs : Int) + (wf : Int)) = ((bs + wf : Nat) : Int) := by rw [wrap_id (by omega) (by omega)]; simp
    have hcs : cellsF (S.take (i + 1)) = cellsF (S.take i) ++ [L.v (Value.int IntKind.i64 p.1), L.v (Value.int IntKind.i64 (p.1 + k))] := by
      rw [List.take_add_one, hSi, ← cellsF_append, hf]; rfl
    by_cases h0 : i = 0
    · subst h0
      simp [h, hg, allH, allE, ck, clo, chi, ck1, i64w1]
      refine callT_closed hw (by simp) ?_
      have hcs0 : cellsF (S.take 1) = [L.v (Value.int IntKind.i64 p.1), L.v (Value.int IntKind.i64 (p.1 + k))] := hcs
      have hpr1 : prodN [] = pr := hpr0.symm
      have hbs1 : bitsS [] = bs := hbs0.symm
      simp [hpr1, hbs1, e1, e2, i64w1]
      refine ⟨1, by omega, by simp; omega, [1], ?_⟩
      simp at hpr hbs
      simp [allH, allE, hpr, hbs, hcs0]
    · have hcl : (cellsF (S.take i)).length = 2 * i := by rw [cellsF_length, hil]
      have hdr : ∀ x y : L, List.take 2 (List.drop (i * 2) (cellsF (S.take i) ++ [x, y])) = [x, y] := fun x y => by rw [List.drop_append_of_le_length (by omega), List.drop_of_length_le (by omega)]; rfl
      simp [h, h0, hg, allH, allE, ck, clo, chi, ck1, hcl, hdr]
      refine ⟨by omega, by omega, by omega, ?_⟩
      refine callT_closed hw (by simp) ?_
      simp [← hpr0, ← hbs0, e1, e2, suc64 (show i ≤ 281474976710656 by omega)]
      refine ⟨i + 1, by omega, by simp only; omega, [2], ?_⟩
      simp [allH, allE, hpr, hbs, hcs, cellsF_ren, cellsF_below]
  · have e : i = q.length := by omega
    subst e
    have hq0 : q.length ≠ 0 := by omega
    have htk : S.take q.length = S := by rw [← hSl, List.take_length]
    have hb := bitsS_le hm
    simp [allH, allE, hq0, htk]
    have hz : ∀ {H : Heap}, live H 0 = some (cellsF S) → frz H [0] (.view 2 0 0 q.length false) = fldsL S := fun e => frz_fld rfl e hSl.symm
    refine callT_let [0] (bytes_any (s := S) (by omega) hm) (by rw [List.map_cons, List.map_nil, hz rfl]) (by simp) ?_
    simp [frzE, frzH, frzRow, -frz_view, hz]
    have hbb : bytesS S = max 1 ((bitsS S + 7) / 8) := rfl
    by_cases h8 : bitsS S ≤ 8
    rotate_left
    · simp [show (1 : Int) < (bytesS S : Int) by rw [hbb]; omega, show (8 : Int) < (bitsS S : Int) by omega]
      intro c1
      rw [hbb] at c1
      omega
    have hb1 : bytesS S = 1 := by rw [hbb]; omega
    have hcnt := count_all hm h8
    simp [hb1, show ¬ (8 : Int) < (bitsS S : Int) by omega]
    intro _
    refine lwp_loop (fun i : Nat => [(4, boolL false), (5, boolL true), (7, fldsL S), (8, intL (prodN S)), (12, intL (cntB S i)), (13, intL i)]) (fun _ => []) (fun i => 256 - i) (fun i => i ≤ 256) 0 (by simp) ⟨[], by simp [cntB]⟩ ?_
    intro i hi
    have hc := cntB_le (s := S) (i := i)
    by_cases h' : i < 256
    · have h2 : (i : Int) < 256 := by omega
      have hw8 : IntKind.u8.wrap (i : Int) = (i : Int) := by simp [IntKind.wrap, IntKind.signed, IntKind.bits]; omega
      simp [h2, hw8]
      have hd := dec_any (s := S) [(i : Int)] (by1 ⟨by omega, by omega⟩) (by omega) (by omega) hm (by simp)
      refine callT_let [0] (arg2 (c := true) hd) (by simp [frz, live, chunk]) (by simp) ?_
      have hsucc := cntB_succ (s := S) (i := i)
      by_cases hok : (decV S [(i : Int)]).2 = 0
      · have h1 : okB S i = true := by simp [okB, hok]
        rw [h1, if_pos rfl] at hsucc
        have hin := (dec_ok hok).1
        have hcall := in_any (s := S) (decV S [(i : Int)]).1 (by omega) (by rw [(inV_zero.1 hin).1]; omega)
        rw [hin] at hcall
        simp [frzE, frzH, frzRow, frz, chunk, hok, suc64 (show cntB S i ≤ 281474976710656 by omega)]
        refine callT_closed hcall (by simp) ?_
        simp [suc64 (show i ≤ 281474976710656 by omega)]
        exact ⟨i + 1, by omega, by simp only; omega, [], by simp [hsucc]⟩
      · have h1 : okB S i = false := by simp [okB, hok]
        rw [h1] at hsucc
        simp at hsucc
        simp [frzE, frzH, frzRow, frz, chunk, hok, suc64 (show i ≤ 281474976710656 by omega)]
        exact ⟨i + 1, by omega, by simp only; omega, [], by simp [hsucc]⟩
    · have e : i = 256 := by omega
      subst e
      simp
      have hcc : cntB S 256 = prodN S := hcnt
      have bad : ∀ {B : List Int}, B.length ≠ 1 → decV S B = ([], 2) := fun {B} hB => by
        unfold decV
        rw [if_neg (by rw [hb1]; exact fun h => hB h.1)]
      have hd0 := dec_any (s := S) [] (by simp) (by omega) (by omega) hm (by simp)
      have hd2 := dec_any (s := S) [0, 0] (fun z hz => by simp at hz; rw [hz]; exact ⟨by omega, by omega⟩) (by omega) (by omega) hm (by simp)
      rw [bad (by simp)] at hd0 hd2
      refine callT_closed (PC.sub hd0 (.cons (.refl _) (.cons (.nil _ _) .nil)) (.refl _)) (by simp) ?_
      simp
      refine callT_let [0] (arg2 (c := true) hd2) (by simp [frz, live, chunk]) (by simp) ?_
      simp [frzE, frzH, frzRow, frz, chunk, hcc]

end Go.Proofs.Ytfdcjcepokekdaa
