/- The functions of comp, by the generic contracts. -/
import Derived.Test.YtblhaolmoekjhaaCompIr
import Derived.Test.YtblhaolmoekjhaaLibCmpF
import Derived.Test.YtblhaolmoekjhaaLibSchG
import Derived.Test.YtblhaolmoekjhaaLgNX
namespace Go.Proofs.Ytblhaolmoekjhaa
open Go Lg

def seekF : SeekFns Try.prog 47 := ⟨53, 54, 55, 60, 61, 62, ir47, ir53, ir54, ir60, ir61, ir62, ir55⟩
def insF : InsFns Try.prog 29 := ⟨40, 48, 43, 44, 45, 46, 47, ir29, ir40, ir48, ir43, ir44, ir45, ir46, seekF⟩

def selS (r : Nat) : Bool := [1].contains r
theorem ir57S : compFS selS Try.prog 57 = some (irBOf 44) := compFS_of (by kernel_rfl)
theorem putC : PutC Try.prog 51 := putC_of fun hb hR hN hn => putB_gen ir51 ir56 ir57S ir44 ir58 hb hR (by omega) hn
theorem in_any (s : List (Int × Int)) (v : List Int) (hs : s.length ≤ 1000000) (hv : v.length ≤ 1000000) : PC Try.prog 25 [fldsL s, vecL v] (intL (inV s v)) := in_gen ir25 ir39 s v hs hv
theorem enc_any : EncC Try.prog 42 := fun s v hs hm hv => enc_gen ir42 ir25 ir39 ir49 ir50 ir56 ir52 ir59 putC v hs hm hv
theorem cmpF : ∃ C : CmpFns Try.prog, C.new = 10 ∧ C.ins = 12 ∧ C.many = 20 ∧ C.parts = 22 ∧ C.member = 18 ∧ C.set = 14 ∧ C.get = 16 :=
  ⟨⟨10, 24, 12, 20, 37, 22, 18, 34, 14, 16, 35, ⟨25, 26, 20, 37, 27, 29, 31, rcAt Try.prog 12 0, ⟨28, 41, 42, 40, 48, 47, 30, rcAt Try.prog 26 0, ir26, ir28, ir41, enc_any, ir30, rc26, ir40, ir48, seekF⟩, ir12, in_any, ir20, ir37, ir27, insF, ir31, rc12⟩, ir10, ir24, ir20, ir37, ir22, ir18, ir34, ir14, ir16, ir35⟩, rfl, rfl, rfl, rfl, rfl, rfl, rfl⟩

section
variable {s : List (Int × Int)} {cap : Int}
theorem new_any (hs : s.length ≤ 1000000) (most : Int) (h0 : 0 ≤ most) (h1 : most ≤ 1048576) : PC Try.prog 10 [fldsL s, intL most] (.tup [(cst0 s).L s most, intL 0]) := by
  obtain ⟨C, e, -⟩ := cmpF; rw [← e]; exact st_new C hs most h0 h1
theorem new_bad_any (most : Int) (h : most < 0 ∨ 1048576 < most) : PC Try.prog 10 [fldsL s, intL most] (.tup [.agg [nilL, intL 0, nilL, nilL, nilL], intL 1]) := by
  obtain ⟨C, e, -⟩ := cmpF; rw [← e]; exact st_new_bad C most h
theorem many_any (x : CSt) : PC Try.prog 20 [x.L s cap] (intL x.V.length) := by
  obtain ⟨C, -, -, e, -⟩ := cmpF; rw [← e]; exact st_many C x
theorem parts_any {x : CSt} (hx : COk s x) : PC Try.prog 22 [x.L s cap] (vecL (sizesV s x.V)) := by
  obtain ⟨C, -, -, -, e, -⟩ := cmpF; rw [← e]; exact st_parts C hx
variable {x : CSt} (hx : COk s x) {v : List Int} (hvl : v.length ≤ 1000000)
include hx hvl
theorem ins_any (hfew : x.V.length < 100000) : ∃ y, COk s y ∧ y.V = insCV s cap x.V v ∧ y.F = (if insC s cap x.V v = true then x.F ++ [(false, false)] else x.F) ∧ PC Try.prog 12 [x.L s cap, fldsL s, vecL v] (.tup [y.L s cap, boolL (insC s cap x.V v), intL (insCE s cap x.V v)]) := by
  obtain ⟨C, -, e, -⟩ := cmpF; rw [← e]; exact st_ins C hx hvl hfew
theorem member_any : PC Try.prog 18 [x.L s cap, fldsL s, vecL v] (.tup [boolL (memB s x.V v), intL (inV s v)]) := by
  obtain ⟨C, -, -, -, -, e, -⟩ := cmpF; rw [← e]; exact st_member C hx hvl
theorem set_any (flag : Int) : COk s (x.setF s v flag) ∧ PC Try.prog 14 [x.L s cap, fldsL s, vecL v, intL flag] (.tup [(x.setF s v flag).L s cap, intL (atE s x.V v flag)]) := by
  obtain ⟨C, -, -, -, -, -, e, -⟩ := cmpF; rw [← e]; exact st_set C hx hvl flag
theorem get_any (flag : Int) : PC Try.prog 16 [x.L s cap, fldsL s, vecL v, intL flag] (.tup [boolL (getFl s x.V x.F v flag), intL (atE s x.V v flag)]) := by
  obtain ⟨C, -, -, -, -, -, -, e⟩ := cmpF; rw [← e]; exact st_get C hx hvl flag
end

theorem rightA_any (s : List (Int × Int)) : PC Try.prog 8 [fldsL s] (boolL (rightS s)) := by
  by_cases hs : s.length ≤ 1000000
  · exact tright_gen ir8 s hs
  · refine pc_of_call (callAt_enter ir8 (by simp) ?_)
    have h1 : ¬ (s.length : Int) < 1 := by omega
    have h2 : (17 : Int) < (s.length : Int) := by omega
    have h3 : rightS s = false := by
      unfold rightS
      rw [decide_eq_false_iff_not]
      omega
    simp [h1, h2, h3]
theorem right_iff {s : List (Int × Int)} : rightS s = true ↔ 1 ≤ s.length ∧ s.length ≤ 17 ∧ ∀ z ∈ s, mayP z := by
  unfold rightS
  exact decide_eq_true_iff
theorem fl_wf {z : Int} (h : (Lit.int .u8 z).wf = true) : 0 ≤ z ∧ z < 256 := by
  simp [Lit.wf, IntKind.min, IntKind.max, IntKind.signed, IntKind.bits] at h
  omega
theorem vecA_any (v w : List Int) (hv : v.length ≤ 1000000) : PC Try.prog 21 [vecL v, vecL w] (boolL (decide (v = w))) := tvec_gen ir21 v w hv

end Go.Proofs.Ytblhaolmoekjhaa
