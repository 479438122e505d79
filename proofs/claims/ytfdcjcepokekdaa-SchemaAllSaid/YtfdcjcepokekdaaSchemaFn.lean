/- The functions of schema, and of what they are compared with. -/
import Derived.Test.YtfdcjcepokekdaaSchemaIr
import Derived.Test.YtfdcjcepokekdaaLibSchG
import Derived.Test.YtfdcjcepokekdaaLgNX
namespace Go.Proofs.Ytfdcjcepokekdaa
open Go Lg

def selS (r : Nat) : Bool := [1].contains r
theorem ir39S : compFS selS Try.prog 39 = some (irBOf 45) := compFS_of (by kernel_rfl)

theorem putC : PutC Try.prog 31 := putC_of fun hb hR hN hn => putB_gen ir31 ir38 ir39S ir45 ir40 hb hR (by omega) hn
theorem putCA : PutC Try.prog 32 := putC_of fun hb hR hN hn => putR_gen ir32 ir41 ir42 ir43 ir25 hb hR (by have := hR.2.1; omega) hn
theorem takeC : TakeC Try.prog 33 := takeC_of fun hb hN hl ha => takeB_gen ir33 ir44 ir46 rc33 hb hN (by omega) ha
theorem takeCA : TakeC Try.prog 35 := takeC_of fun hb hN hl ha => takeR_gen ir35 ir25 hb hN (by omega) ha

theorem right_any (s : List (Int × Int)) (hs : s.length ≤ 1000000) : PC Try.prog 11 [fldsL s] (boolL (rightS s)) := right_gen ir11 ir27 ir28 ir26 ir37 s hs
theorem rightA_any (s : List (Int × Int)) (hs : s.length ≤ 1000000) : PC Try.prog 10 [fldsL s] (boolL (rightS s)) := tright_gen ir10 s hs
section
variable {s : List (Int × Int)}
theorem in_any (v : List Int) (hs : s.length ≤ 1000000) (hv : v.length ≤ 1000000) : PC Try.prog 22 [fldsL s, vecL v] (intL (inV s v)) := in_gen ir22 ir36 s v hs hv
theorem inA_any (v : List Int) (hs : s.length ≤ 1000000) (hv : v.length ≤ 1000000) : PC Try.prog 23 [fldsL s, vecL v] (intL (inV s v)) := tin_gen ir23 s v hs hv
theorem vecA_any (v w : List Int) (hv : v.length ≤ 1000000) : PC Try.prog 24 [vecL v, vecL w] (boolL (decide (v = w))) := tvec_gen ir24 v w hv
theorem wide_any {z : Int × Int} (h : mayP z) : PC Try.prog 16 [fldL z] (intL (widF z)) := fwide_gen ir16 ir30 ir38 h
theorem wideA_any {z : Int × Int} (h : mayP z) : PC Try.prog 17 [fldL z] (intL (widF z)) := twide_gen ir17 h
theorem bits_any (hs : s.length ≤ 1000) (hm : ∀ z ∈ s, mayP z) : PC Try.prog 18 [fldsL s] (intL (bitsS s)) := bits_gen ir18 ir29 ir30 ir38 hs hm
theorem bitsA_any (hs : s.length ≤ 1000) (hm : ∀ z ∈ s, mayP z) : PC Try.prog 19 [fldsL s] (intL (bitsS s)) := tbits_gen ir19 ir17 hs hm
theorem bytes_any (hs : s.length ≤ 1000) (hm : ∀ z ∈ s, mayP z) : PC Try.prog 20 [fldsL s] (intL (bytesS s)) := bytes_gen ir20 ir18 ir29 ir30 ir38 hs hm
theorem bytesA_any (hs : s.length ≤ 1000) (hm : ∀ z ∈ s, mayP z) : PC Try.prog 21 [fldsL s] (intL (bytesS s)) := tbytes_gen ir21 ir19 ir17 hs hm
theorem enc_any (v : List Int) (hs : s.length ≤ 1000) (hm : ∀ z ∈ s, mayP z) (hv : v.length ≤ 1000000) : PC Try.prog 12 [fldsL s, vecL v] (.tup [bytL (encV s v).1, intL (encV s v).2]) := enc_gen ir12 ir22 ir36 ir29 ir30 ir38 ir20 ir18 putC v hs hm hv
theorem encA_any (v : List Int) (hs : s.length ≤ 1000) (hm : ∀ z ∈ s, mayP z) (hv : v.length ≤ 1000000) : PC Try.prog 13 [fldsL s, vecL v] (.tup [bytL (encV s v).1, intL (encV s v).2]) := tenc_gen ir13 ir23 ir17 ir21 ir19 putCA v hs hm hv
theorem dec_any (B : List Int) (hb : ∀ z ∈ B, isByte z) (hs1 : 1 ≤ s.length) (hs : s.length ≤ 1000) (hm : ∀ z ∈ s, mayP z) (hB : B.length ≤ 1000000) : PC Try.prog 14 [fldsL s, bytL B] (.tup [vecL (decV s B).1, intL (decV s B).2]) := dec_gen ir14 ir20 ir18 ir29 ir30 ir38 takeC ir34 B hb hs1 hs hm hB (fun v hv => enc_any v hs hm (by omega))
theorem decA_any (B : List Int) (hb : ∀ z ∈ B, isByte z) (hs1 : 1 ≤ s.length) (hs : s.length ≤ 1000) (hm : ∀ z ∈ s, mayP z) (hB : B.length ≤ 1000000) : PC Try.prog 15 [fldsL s, bytL B] (.tup [vecL (decV s B).1, intL (decV s B).2]) := tdec_gen ir15 ir21 ir19 ir17 takeCA B hb hs1 hs hm hB (fun v hv => encA_any v hs hm (by omega))
end

theorem u8_wf {z : Int} (h : (Lit.int .u8 z).wf = true) : isByte z := by
  simp [Lit.wf, IntKind.min, IntKind.max, IntKind.signed, IntKind.bits] at h
  constructor <;> omega
theorem i8_wf {z : Int} (h : (Lit.int .i8 z).wf = true) : -128 ≤ z ∧ z ≤ 127 := by
  simp [Lit.wf, IntKind.min, IntKind.max, IntKind.signed, IntKind.bits] at h
  constructor <;> omega
theorem i32_wf {z : Int} (h : (Lit.int .i32 z).wf = true) : -2147483648 ≤ z ∧ z ≤ 2147483647 := by
  simp [Lit.wf, IntKind.min, IntKind.max, IntKind.signed, IntKind.bits] at h
  constructor <;> omega
theorem u32_wf {z : Int} (h : (Lit.int .u32 z).wf = true) : 0 ≤ z ∧ z ≤ 4294967295 := by
  simp [Lit.wf, IntKind.min, IntKind.max, IntKind.signed, IntKind.bits] at h
  constructor <;> omega

end Go.Proofs.Ytfdcjcepokekdaa
