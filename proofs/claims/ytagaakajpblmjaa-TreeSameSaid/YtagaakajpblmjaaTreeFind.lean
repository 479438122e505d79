/- A function that recovers: by its text. -/
import Derived.Test.YtagaakajpblmjaaTreeIr
import Derived.Test.YtagaakajpblmjaaLgNX
import Derived.Test.YtagaakajpblmjaaLibCmpF
import Derived.RecoverIn
import Derived.WalkKit
import Derived.Tactics
import Derived.Tactics2
import Derived.Laws.Pointers
namespace Go.Proofs.Ytagaakajpblmjaa
open Go Lg
theorem lops_append {P : Program} {K : Env → Heap → Prop} : ∀ {l1 l2 : List O} {E : Env} {H : Heap}, lops P (l1 ++ l2) K E H = lops P l1 (lops P l2 K) E H
  | [], _, _, _ => rfl
  | o :: l1, l2, E, H => by
    rw [List.cons_append]
    unfold lops
    have e : ∀ E H, lops P (l1 ++ l2) K E H = lops P l1 (lops P l2 K) E H := fun E H => lops_append
    simp only [e]
def fr0 : List O := [⟨some 3, .box (.t 0), none⟩, ⟨some 6, .alloc (.v (.int .i64 0)), none⟩, ⟨some 7, .alloc (.v (.bool false)), none⟩]
def fr2 : List O := [⟨some 10, .faddr 0 (.t 3), none⟩, ⟨some 11, .load 1 false (.t 10), none⟩, ⟨some 12, .build [(.v (.slice none 0 0)), (.v .nilFunc)] [(0, 1, (.t 11))], none⟩, ⟨some 13, .box (.t 12), none⟩, ⟨some 8, .mov (.t 13), none⟩]
def fr3 : List O := [⟨some 14, .mov (.t 8), none⟩, ⟨some 15, .mov (.t 8), none⟩, ⟨some 16, .mkfn (.func 56) [(.t 15)] [], none⟩, ⟨some 17, .nilchk (.t 14), none⟩, ⟨some 18, .faddr 1 (.t 17), none⟩, ⟨none, .store 1 (.t 18) (.t 16), none⟩]
def fr4 : List O := [⟨some 19, .mov (.t 8), none⟩, ⟨some 20, .mov (.t 1), none⟩, ⟨some 21, .mov (.t 2), none⟩, ⟨some 22, .call 37 [(.t 20), (.t 21)], none⟩, ⟨some 23, .call 36 [(.t 19), (.t 22)], none⟩, ⟨some 24, .conv .i64 (.t 23), none⟩, ⟨none, .store 1 (.t 6) (.t 24), none⟩, ⟨none, .store 1 (.t 7) (.c (.v (.bool true))), none⟩]
theorem catch_idle (p q : Value) (w : World) : CallsDIn Fence.wide 0 Try.prog 55 #[p, q] .returning w fun e u' w' => e = .returned (.tuple #[]) ∧ u' = .returning ∧ w' = w := by
  refine callsDIn_of_wpSIn Try.func55 rfl trivial fun c₀ cs hu => ?_
  apply wpSIn_seq
  apply wpSIn_region
  simp [wpOpsSIn, go_sem, recoverD, hu, Try.f55, Exit.thenS, Region.wanted, Oper.about, List.range, List.range.loop]
  refine wpSIn_cond (t := false) (by simp [Act.eval, Array.replicate]) ?_
  simp only [Bool.false_eq_true, if_false]
  refine wpSIn_of_wpIn rfl (wpIn_skip ?_)
  cases c₀
  simp_all [bodyPostS, results]
theorem catch_pan {η : List Nat} {S : Nat → Prop} {w : World} {H : Heap} {p q : Value} {hx hy : Nat} {lx ly : L} {ch : List PanicEntry} (hC : Conc η S w H) (hp : Rel S w η p (.ptr hx 0)) (hq : Rel S w η q (.ptr hy 0)) (h1 : H[hx]? = some (some [lx])) (h2 : H[hy]? = some (some [ly])) (hxy : hx ≠ hy) (hch : Chn ch) :
    CallsDIn Fence.wide 0 Try.prog 55 #[p, q] (.panicking ch) w fun e u' w' => e = .returned (.tuple #[]) ∧ settle u' = .returning ∧ ∃ η' S', Conc η' S' w' ((H.set hx (some [intL 0])).set hy (some [boolL false])) ∧ Le η S w η' S' w' := by
  obtain ⟨t, v, rfl⟩ := hch
  refine callsDIn_of_wpSIn Try.func55 rfl trivial fun c₀ cs hu => ?_
  apply wpSIn_seq
  apply wpSIn_region
  simp [wpOpsSIn, go_sem, recoverD, hu, Try.f55, Exit.thenS, Region.wanted, Oper.about, List.range, List.range.loop]
  refine wpSIn_cond (t := true) (by simp [Act.eval, Array.replicate]) ?_
  simp only [if_true]
  have hA : At 4 [] η S w { tmps := #[p, q] ++ ((Array.replicate 2 undef).setIfInBounds 0 (.iface t v)).setIfInBounds 1 (Value.bool true), defers := [] } [(0, .ptr hx 0), (1, .ptr hy 0)] H := by
    refine ⟨hC, fun i => ?_, by simp, rfl⟩
    by_cases h0 : i = 0
    · subst h0; simpa [lk, Array.replicate] using hp
    by_cases h1 : i = 1
    · subst h1; simpa [lk, Array.replicate] using hq
    · simp [lk, h0, h1]; exact .any _
  refine wpSIn_of_wpIn rfl (wpIn_region_list (lops_sound (n := 4) (ol := [⟨none, .store 1 (.t 0) (.c (.v (.int .i64 0))), none⟩, ⟨none, .store 1 (.t 1) (.c (.v (.bool false))), none⟩]) (K := fun _ H' => H' = (H.set hx (some [intL 0])).set hy (some [boolL false])) (by kernel_rfl) ?_ hA ?_))
  · simp [h1, h2, List.getElem?_set, hxy]
  · rintro E' H' η' S' w' a' rfl hA' hL'
    cases c₀
    simp [bodyPostS, results, hA'.defers]
    exact ⟨by simp [settle], η', S', hA'.conc, hL'⟩
theorem entry {η : List Nat} {S : Nat → Prop} {w : World} {H : Heap} {vs : Array Value} {ls : List L} (hC : Conc η S w H) (hv : RelAll η S w vs ls) (hl : ls.length ≤ 25) : At 25 [] η S w { tmps := vs ++ Array.replicate (25 - vs.size) undef, defers := [] } (params 0 ls) H := by
  obtain ⟨v1, v2⟩ := hv
  refine ⟨hC, fun t => ?_, by simp; omega, rfl⟩
  rw [lk_params]
  split
  · rename_i ht
    have := v2 t
    simp only [Nat.sub_zero]
    simpa [Array.getD_eq_getD_getElem?, Array.getElem?_append_left (show t < vs.size by omega)] using this
  · exact .any _
abbrev catchD (p q : Value) : Deferred := { target := .fn (.func 55) #[p, q], args := #[] }
theorem run55 (p q : Value) (w : World) : (invoke (.fn (.func 55) #[p, q]) #[]).run Try.prog w = .ok (.enter 55 #[p, q]) w := by
  simp only [invoke]
  exact run_callFunc (by kernel_rfl)
theorem out_idle {K : L → Heap → Prop} {η₀ : List Nat} {S₀ : Nat → Prop} {w₀ : World} {p q : Value} {η : List Nat} {S : Nat → Prop} {w : World} {a : Act} {E : Env} {H : Heap} (hA : At 25 [catchD p q] η S w a E H) (hL : Le η₀ S₀ w₀ η S w) (hp : fnPost [.c 6 1 false, .c 7 1 false] K .ret E H) :
    LeavesIn Fence.wide 0 Try.prog Try.f33 a.tmps (fun e w' => ∃ v l H' η' S', e = .returned v ∧ K l H' ∧ Rel S' w' η' v l ∧ Conc η' S' w' H' ∧ Le η₀ S₀ w₀ η' S' w') a.defers .returning w := by
  rw [hA.defers]
  refine leavesIn_cons (f := 55) (args := #[p, q]) (by simp) (fun h => by cases h) (run55 p q w) (fun _ _ => trivial) ((catch_idle p q w).mono ?_)
  rintro e u' w' ⟨rfl, rfl, rfl⟩
  obtain ⟨ls', h1, h2⟩ := hp
  obtain ⟨v, r1, r2⟩ := run_results (P := Try.prog) (fn := Try.f33) hA (by kernel_rfl) h1
  exact ⟨v, r1, v, _, H, η, S, rfl, h2, r2, hA.conc, hL⟩
def KP (K : L → Heap → Prop) (E : Env) (H : Heap) : Prop := ∃ lx ly, lk E 6 = .ptr 1 0 ∧ lk E 7 = .ptr 2 0 ∧ H[1]? = some (some [lx]) ∧ H[2]? = some (some [ly]) ∧ K (.tup [intL 0, boolL false]) ((H.set 1 (some [intL 0])).set 2 (some [boolL false]))
theorem out_pan {K : L → Heap → Prop} {η₀ : List Nat} {S₀ : Nat → Prop} {w₀ : World} {η : List Nat} {S : Nat → Prop} {w : World} {a : Act} {E : Env} {H : Heap} {ch : List PanicEntry} {p q : Value} (r6 : Rel S w η p (.ptr 1 0)) (r7 : Rel S w η q (.ptr 2 0)) (hA : At 25 [catchD p q] η S w a E H) (hL : Le η₀ S₀ w₀ η S w) (hp : KP K E H) (hch : Chn ch) :
    LeavesIn Fence.wide 0 Try.prog Try.f33 a.tmps (fun e w' => ∃ v l H' η' S', e = .returned v ∧ K l H' ∧ Rel S' w' η' v l ∧ Conc η' S' w' H' ∧ Le η₀ S₀ w₀ η' S' w') a.defers (.panicking ch) w := by
  rw [hA.defers]
  obtain ⟨lx, ly, e6, e7, h1, h2, hK⟩ := hp
  refine leavesIn_cons (f := 55) (args := #[p, q]) (by simp) (fun h => by cases h) (run55 _ _ w) (fun _ _ => trivial) ((catch_pan hA.conc r6 r7 h1 h2 (by decide) hch).mono ?_)
  rintro e u' w' ⟨rfl, hu, η', S', hC', hL'⟩
  show LeavesIn _ _ _ _ _ _ [] (settle u') w'
  rw [hu]
  have hA' : At 25 [catchD p q] η' S' w' a E ((H.set 1 (some [intL 0])).set 2 (some [boolL false])) := ⟨hC', hA.env.le hL', hA.size, hA.defers⟩
  have l1 : 1 < H.length := (List.getElem?_eq_some_iff.1 h1).1
  have l2 : 2 < H.length := (List.getElem?_eq_some_iff.1 h2).1
  obtain ⟨v, q1, q2⟩ := run_results (P := Try.prog) (fn := Try.f33) (vs := [.c 6 1 false, .c 7 1 false]) (ls := [intL 0, boolL false]) hA' (by kernel_rfl) (by
    simp [resL, e6, e7, loadL, live, List.getElem?_set, l1, l2])
  exact ⟨v, q1, v, _, _, η', S', rfl, hK, q2, hC', hL.trans hL'⟩
theorem defer_sound {η : List Nat} {S : Nat → Prop} {w : World} {a : Act} {E : Env} {H : Heap} {ops : Array Oper} {Q : Exit → Act → World → Prop} {t1 t2 : TypeId} {p1 p2 : String} {a1 a2 : Array Edge} {d : Option Tmp} (hA : At 25 [] η S w a E H) (h9 : lk E 9 = .any) (hd : d = none)
    (hQ : ∀ a', At 25 [catchD (a.tmps.getD 6 undef) (a.tmps.getD 7 undef)] η S w a' E H → a'.tmps.getD 6 undef = a.tmps.getD 6 undef → a'.tmps.getD 7 undef = a.tmps.getD 7 undef → Q .normal a' w) :
    wpListIn (FW none) 0 Try.prog ops Q [{ dst := some 9, op := Op.makeFunc (Fn.func 55) #[] #[Operand.tmp 6, Operand.tmp 7], type := t1, pos := p1, after := a1, guard := none }, { dst := d, op := Op.defer { callee := Callee.value (Operand.tmp 9), args := #[], argTypes := #[] }, type := t2, pos := p2, after := a2, guard := none }] a w := by
  subst hd
  unfold wpListIn
  rw [if_pos (by simp [Region.wanted])]
  refine wpI_run (fun c e => by cases e) (r := .ok (.value (.func (.func 55) #[] #[a.tmps.getD 6 undef, a.tmps.getD 7 undef])) w) (by
    simp [execOp, Instr.makeFunc, Act.eval]) ?_
  rw [Oper.uponIn_value]
  unfold wpListIn
  rw [if_pos (by simp [Region.wanted])]
  have hz := hA.size
  have hev : (a.put (some 9) (.func (.func 55) #[] #[a.tmps.getD 6 undef, a.tmps.getD 7 undef])).eval (.tmp 9) = .func (.func 55) #[] #[a.tmps.getD 6 undef, a.tmps.getD 7 undef] := by
    simp [Act.eval, Act.put, Array.getD_eq_getD_getElem?, hz]
  refine ⟨fun _ _ => trivial, ?_⟩
  have hrun : (Oper.semAt (FW none).round (a.put (some 9) (.func (.func 55) #[] #[a.tmps.getD 6 undef, a.tmps.getD 7 undef])).eval { dst := none, op := Op.defer { callee := Callee.value (Operand.tmp 9), args := #[], argTypes := #[] }, type := t2, pos := p2, after := a2, guard := none }).run Try.prog w = .ok (.defer (catchD (a.tmps.getD 6 undef) (a.tmps.getD 7 undef))) w := by
    have hro : (FW none).round = none := rfl
    rw [hro, Oper.semAt_none]
    simp only [execOp, resolve, hev, Deferred.ofValue]
    simp
  rw [hrun, Oper.uponIn_defer]
  have hput := hA.put (d := some 9) (fun t ht => by cases ht; omega) (v := .func (.func 55) #[] #[a.tmps.getD 6 undef, a.tmps.getD 7 undef]) (l := .any) hA.conc (Le.refl _ _ _) (.any _)
  refine hQ _ ⟨hput.conc, fun t => ?_, hput.size, ?_⟩ ?_ ?_
  · by_cases h : t = 9
    · subst h; rw [h9]; exact .any _
    · have := hput.env t
      simpa [putE, lk, h, Act.put] using this
  · simp [Act.put, hA.defers]
  · simp [Act.put, Array.getD_eq_getD_getElem?]
  · simp [Act.put, Array.getD_eq_getD_getElem?]
abbrev fE (a b c : L) : Env := [(7, .ptr 2 0), (6, .ptr 1 0), (3, .ptr 0 0), (0, a), (1, b), (2, c)]
abbrev fH (a : L) : Heap := [some a.cells, some [intL 0], some [boolL false]]
theorem find_start {a b c : L} (ha : topOK a = true) {K : Env → Heap → Prop} (h : K (fE a b c) (fH a)) : lops Try.prog fr0 K (params 0 [a, b, c]) [] := by
  simp [fr0, params, ha]
  exact h
theorem find_norm {a b c : L} (ha : topOK a = true) {K : L → Heap → Prop} (h : lops Try.prog (fr2 ++ (fr3 ++ fr4)) (fnPost [.c 6 1 false, .c 7 1 false] K .ret) (fE a b c) (fH a)) : callAt Try.prog 33 [a, b, c] [] K := by
  refine ⟨by kernel_rfl, fun η S w vs hC hv => callsIn_wide.1 (callsIn_of_wp_defers (F := Fence.wide) (n := 0) Try.func33 rfl trivial ?_ rfl)⟩
  have hA := entry hC hv (by simp)
  have h0 := find_start (b := b) (c := c) ha (K := fun E H => lk E 9 = .any ∧ lops Try.prog (fr2 ++ (fr3 ++ fr4)) (fnPost [.c 6 1 false, .c 7 1 false] K .ret) E H) ⟨by simp [lk], h⟩
  refine wpIn_seq (wpIn_region_list (lops_sound (n := 25) (ol := fr0) (by kernel_rfl) h0 hA fun E1 H1 η1 S1 w1 a1 h1 hA1 hL1 => ?_))
  obtain ⟨h9, h1⟩ := h1
  refine wpIn_seq (wpIn_region_list (defer_sound hA1 h9 rfl fun a2 hA2 e6 e7 => ?_))
  rw [lops_append] at h1
  refine wpIn_seq (wpIn_region_list (lops_sound (n := 25) (ol := fr2) (by kernel_rfl) h1 hA2 fun E3 H3 η3 S3 w3 a3 h3 hA3 hL3 => ?_))
  rw [lops_append] at h3
  refine wpIn_seq (wpIn_region_list (lops_sound (n := 25) (ol := fr3) (by kernel_rfl) h3 hA3 fun E4 H4 η4 S4 w4 a4 h4 hA4 hL4 => ?_))
  refine wpIn_seq (wpIn_region_list (lops_sound (n := 25) (ol := fr4) (by kernel_rfl) h4 hA4 fun E5 H5 η5 S5 w5 a5 h5 hA5 hL5 => ?_))
  exact wpIn_ret (out_idle hA5 (hL1.trans (hL3.trans (hL4.trans hL5))) h5)
theorem find_panics {a b c : L} (ha : topOK a = true) {K : L → Heap → Prop} (h : lops Try.prog (fr2 ++ (fr3 ++ fr4.take 4)) (panO Try.prog (KP K) ⟨some 23, .call 36 [(.t 19), (.t 22)], none⟩) (fE a b c) (fH a)) : callAt Try.prog 33 [a, b, c] [] K := by
  refine ⟨by kernel_rfl, fun η S w vs hC hv => callsIn_wide.1 (callsIn_of_wp_defers (F := Fence.wide) (n := 0) Try.func33 rfl trivial ?_ rfl)⟩
  have hA := entry hC hv (by simp)
  have h0 := find_start (b := b) (c := c) ha (K := fun E H => (lk E 9 = .any ∧ lk E 6 = .ptr 1 0 ∧ lk E 7 = .ptr 2 0) ∧ lops Try.prog (fr2 ++ (fr3 ++ fr4.take 4)) (panO Try.prog (KP K) ⟨some 23, .call 36 [(.t 19), (.t 22)], none⟩) E H) ⟨by simp [lk], h⟩
  refine wpIn_seq (wpIn_region_list (lops_sound (n := 25) (ol := fr0) (by kernel_rfl) h0 hA fun E1 H1 η1 S1 w1 a1 h1 hA1 hL1 => ?_))
  obtain ⟨⟨h9, h6, h7⟩, h1⟩ := h1
  have r6 : Rel S1 w1 η1 (a1.tmps.getD 6 undef) (.ptr 1 0) := by rw [← h6]; exact hA1.env 6
  have r7 : Rel S1 w1 η1 (a1.tmps.getD 7 undef) (.ptr 2 0) := by rw [← h7]; exact hA1.env 7
  refine wpIn_seq (wpIn_region_list (defer_sound hA1 h9 rfl fun a2 hA2 e6 e7 => ?_))
  rw [lops_append] at h1
  refine wpIn_seq (wpIn_region_list (lops_sound (n := 25) (ol := fr2) (by kernel_rfl) h1 hA2 fun E3 H3 η3 S3 w3 a3 h3 hA3 hL3 => ?_))
  rw [lops_append] at h3
  refine wpIn_seq (wpIn_region_list (lops_sound (n := 25) (ol := fr3) (by kernel_rfl) h3 hA3 fun E4 H4 η4 S4 w4 a4 h4 hA4 hL4 => ?_))
  refine wpIn_seq (wpIn_region_list (pan_ops (n := 25) (ol := fr4) (i := 4) (by kernel_rfl) rfl h4 hA4 fun ch E5 H5 η5 S5 w5 a5 hch h5 hA5 hL5 => ?_))
  have hL15 := hL3.trans (hL4.trans hL5)
  exact out_pan (r6.le hL15) (r7.le hL15) hA5 (hL1.trans hL15) h5 hch
end Go.Proofs.Ytagaakajpblmjaa
