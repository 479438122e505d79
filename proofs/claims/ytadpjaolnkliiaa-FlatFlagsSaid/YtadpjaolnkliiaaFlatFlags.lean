/- FLAGS: a flag that is set stays so. -/
import Derived.Test.YtadpjaolnkliiaaFlatShown
import Derived.Test.YtadpjaolnkliiaaLibMap
namespace Go.Proofs.Ytadpjaolnkliiaa
open Go Lg

/-- A key with a flag's digit behind it. -/
def fk (k : List Int) (F : Int) : List Int := k ++ [48 + F]
def isF (F : Int) : Prop := F = 0 ∨ F = 1

theorem fk_inj {a b : List Int} {F G : Int} : fk a F = fk b G ↔ a = b ∧ F = G := by
  unfold fk
  constructor
  · intro h
    obtain ⟨h1, h2⟩ := List.append_inj' h rfl
    simp at h2
    exact ⟨h1, by omega⟩
  · rintro ⟨rfl, rfl⟩; rfl

/-- Keys, flags, and the flags that were set, by name. -/
structure FS (K : List (List Int)) (fl : List Int) (Sx : List (List Int)) : Prop where
  len : fl.length = K.length
  low : ∀ v ∈ fl, v = 0 ∨ v = 1 ∨ v = 2 ∨ v = 3
  name : ∀ x ∈ Sx, ∃ k ∈ K, ∃ F, isF F ∧ x = fk k F
  agree : ∀ k ∈ K, ∀ F, isF F → (bitsI .and .u8 (fl.getD (idx K k) 0) (bitOf F) ≠ 0 ↔ fk k F ∈ Sx)

theorem fs_nil : FS [] [] [] := ⟨rfl, by simp, by simp, by simp⟩

theorem fs_same {cap : Int} {K : List (List Int)} {fl : List Int} {Sx : List (List Int)} (h : FS K fl Sx) {key : List Int} (hc : (K.length : Int) < cap) : FS (insK cap K key) (if insN cap K key then fl ++ [0] else fl) Sx := by
  by_cases hk : key ∈ K
  · have e1 : insK cap K key = K := by simp [insK, hk]
    have e2 : insN cap K key = false := by simp [insN, hk]
    rw [e1, e2]; simpa using h
  · have hc' : ¬ cap ≤ (K.length : Int) := by omega
    have e1 : insK cap K key = K ++ [key] := by simp [insK, hk, hc']
    have e2 : insN cap K key = true := by simp [insN, hk, hc]
    rw [e1, e2, if_pos rfl]
    refine ⟨by simp [h.len], fun v hv => ?_, fun x hx => ?_, fun k hk' F hF => ?_⟩
    · rcases List.mem_append.1 hv with hv | hv
      · exact h.low v hv
      · simp at hv; exact .inl hv
    · obtain ⟨k, h1, F, h2, h3⟩ := h.name x hx
      exact ⟨k, List.mem_append_left _ h1, F, h2, h3⟩
    · rcases List.mem_append.1 hk' with hk' | hk'
      · rw [idx_prefix ⟨[key], rfl⟩ hk']
        have hlt : idx K k < fl.length := by rw [h.len]; exact idx_lt hk'
        have : (fl ++ [0]).getD (idx K k) 0 = fl.getD (idx K k) 0 := by simp [List.getD, List.getElem?_append_left hlt]
        rw [this]; exact h.agree k hk' F hF
      · simp at hk'; subst hk'
        rw [idx_new hk]
        have : (fl ++ [0]).getD K.length 0 = 0 := by rw [← h.len]; simp [List.getD]
        rw [this]
        have h0 : bitsI .and .u8 0 (bitOf F) = 0 := by rcases hF with rfl | rfl <;> decide
        simp only [h0, ne_eq, not_true_eq_false, false_iff]
        intro hm
        obtain ⟨k', h1, F', -, h3⟩ := h.name _ hm
        exact hk ((fk_inj.1 h3).1 ▸ h1)

theorem bits_facts {v F G : Int} (hv : v = 0 ∨ v = 1 ∨ v = 2 ∨ v = 3) (hF : isF F) (hG : isF G) : (bitsI .or .u8 v (bitOf F) = 0 ∨ bitsI .or .u8 v (bitOf F) = 1 ∨ bitsI .or .u8 v (bitOf F) = 2 ∨ bitsI .or .u8 v (bitOf F) = 3) ∧
    (bitsI .and .u8 (bitsI .or .u8 v (bitOf F)) (bitOf G) ≠ 0 ↔ bitsI .and .u8 v (bitOf G) ≠ 0 ∨ G = F) := by
  rcases hF with rfl | rfl <;> rcases hG with rfl | rfl <;> rcases hv with rfl | rfl | rfl | rfl <;> decide

theorem fs_set {K : List (List Int)} {fl : List Int} {Sx : List (List Int)} (h : FS K fl Sx) {key : List Int} (hk : key ∈ K) {F : Int} (hF : isF F) :
    FS K (fl.set (idx K key) (bitsI .or .u8 (fl.getD (idx K key) 0) (bitOf F))) (if fk key F ∈ Sx then Sx else Sx ++ [fk key F]) := by
  have hlt : idx K key < fl.length := by rw [h.len]; exact idx_lt hk
  have hlow : fl.getD (idx K key) 0 = 0 ∨ fl.getD (idx K key) 0 = 1 ∨ fl.getD (idx K key) 0 = 2 ∨ fl.getD (idx K key) 0 = 3 := by
    rw [List.getD, List.getElem?_eq_getElem hlt]; exact h.low _ (List.getElem_mem hlt)
  have hmem : ∀ x, x ∈ (if fk key F ∈ Sx then Sx else Sx ++ [fk key F]) ↔ x ∈ Sx ∨ x = fk key F := fun x => by
    split
    · rename_i hm
      constructor
      · exact .inl
      · rintro (h | rfl); exact h; exact hm
    · simp
  refine ⟨by simp [h.len], fun v hv => ?_, fun x hx => ?_, fun k hk' G hG => ?_⟩
  · rcases List.mem_or_eq_of_mem_set hv with hv | rfl
    · exact h.low v hv
    · exact (bits_facts hlow hF hF).1
  · rcases (hmem x).1 hx with hx | rfl
    · exact h.name x hx
    · exact ⟨key, hk, F, hF, rfl⟩
  · rw [hmem]
    by_cases e : k = key
    · subst e
      have : (fl.set (idx K k) (bitsI .or .u8 (fl.getD (idx K k) 0) (bitOf F))).getD (idx K k) 0 = bitsI .or .u8 (fl.getD (idx K k) 0) (bitOf F) := by
        rw [List.getD, List.getElem?_set_self hlt]; rfl
      rw [this, (bits_facts hlow hF hG).2, h.agree k hk' G hG, fk_inj]
      simp
    · have hne : idx K key ≠ idx K k := fun e' => by
        have h1 := idx_get (idx_lt hk)
        have h2 := idx_get (idx_lt hk')
        simp only [e'] at h1
        exact e (h2.symm.trans h1)
      have : ∀ v, (fl.set (idx K key) v).getD (idx K k) 0 = fl.getD (idx K k) 0 := fun v => by
        rw [List.getD, List.getElem?_set_ne hne]; rfl
      rw [this, h.agree k hk' G hG, fk_inj]
      simp [e]

theorem skey_fk (k : List Int) (F : Int) : skey (fk k F) = .s (k.map (fun z => UInt8.ofNat z.toNat) ++ [UInt8.ofNat (48 + F).toNat]) := by
  simp [skey, fk]

theorem fk_byte {k : List Int} (h : ∀ z ∈ k, isByte z) {F : Int} (hF : isF F) : ∀ z ∈ fk k F, isByte z := by
  intro z hz
  unfold fk at hz
  rcases List.mem_append.1 hz with hz | hz
  · exact h z hz
  · simp at hz; subst hz; unfold isByte; rcases hF with rfl | rfl <;> omega

theorem bsize (l : List UInt8) : (⟨l.toArray⟩ : ByteArray).size = l.length := by show l.toArray.size = _; simp
theorem bsize1 (b : UInt8) : (⟨#[b]⟩ : ByteArray).size = 1 := rfl

set_option maxRecDepth 100000 in
theorem flatFlags_any (y0 : List ((Int) × (List (Int)) × (Int))) (h0 : (∀ z ∈ y0, ((Lit.int .u8 z.1).wf = true) ∧ ((∀ zz ∈ z.2.1, (Lit.int .u8 zz).wf = true) ∧ z.2.1.length * 1 ≤ 140737488351232) ∧ ((Lit.int .i64 z.2.2).wf = true)) ∧ y0.length * 40 ≤ 140737488351232) : PC Try.prog 3 [L.sl 3 false (y0.map fun (z : (Int) × (List (Int)) × (Int)) => .agg [L.v (.int .u8 z.1), L.sl 1 false (z.2.1.map fun (z : Int) => L.v (.int .u8 z)), L.v (.int .i64 z.2.2)])] (.v (.bool true)) := by
  obtain ⟨hz, hll⟩ := h0
  have hbs : ∀ z ∈ y0, ∀ x ∈ z.2.1, isByte x := fun z hzm => wf_byte (hz z hzm).2.1.1
  have hz1 : ∀ z ∈ y0, 0 ≤ z.1 ∧ z.1 ≤ 255 := fun z hzm => by
    have := (hz z hzm).1
    simp [Lit.wf, IntKind.min, IntKind.max, IntKind.signed, IntKind.bits] at this
    exact this
  clear hz
  refine pc_of_call (callAt_enter ir3 (by simp) ?_)
  simp
  refine callT_closed shown_any rfl ?_
  simp
  refine callT_plain (few_any y0 60 (by omega)) rfl rfl ?_
  by_cases hf : fewA y0 60 = true
  · obtain ⟨hn, hks⟩ := fewA_len hf
    obtain ⟨s0, t0, hnew⟩ := new_any 100 (by omega) (by omega)
    simp [hf]
    refine callT_closed hnew rfl ?_
    simp
    obtain ⟨ks, hksd⟩ : ∃ ks : List (List Int), ks = y0.map (·.2.1) := ⟨_, rfl⟩
    have hkl : ks.length = y0.length := by rw [hksd]; simp
    have hkb : ∀ i, ∀ x ∈ dd (ks.take i), ∀ z ∈ x, isByte z := fun i x hx => by
      have := List.mem_of_mem_take (dd_sub hx)
      rw [hksd] at this
      obtain ⟨z, hzm, rfl⟩ := List.mem_map.1 this
      exact hbs z hzm
    refine lwp_loop (fun x : Nat × List Int × List Int × List (List Int) => [(0, .sl 3 false (y0.map actL)), (3, boolL true), (4, .ptr 0 0), (5, intL 0), (6, .mref 1), (7, .mref 2), (8, intL x.1)])
      (fun x => [some [intL 100, .sl 1 false ((dd (ks.take x.1)).map bytesL), .sl 1 false (x.2.1.map intL), .sl 1 false (x.2.2.1.map u8L)], some [.mp .s (setM skey (dd (ks.take x.1)))], some [.mp .s (setM skey x.2.2.2)]]) (fun x => y0.length - x.1)
      (fun x => x.1 ≤ y0.length ∧ Tab (dd (ks.take x.1)) x.2.1 ∧ FS (dd (ks.take x.1)) x.2.2.1 x.2.2.2) (0, s0, [], []) ⟨by simp, by simpa using t0, by simpa using fs_nil⟩ ⟨[0, 1, 2], ?_⟩ ?_
    · simp [setM]
    · rintro ⟨i, s, fl, Sx⟩ ⟨hi, ht, hfs⟩
      have hi' : i ≤ y0.length := hi
      have hdl := dd_len ks i (by omega)
      simp only at ht hfs
      simp
      refine ⟨fun hlt => ?_, fun hge => ?_⟩
      · simp [hlt]
        obtain ⟨z, hzz⟩ : ∃ z, y0[i] = z := ⟨_, rfl⟩
        have hzm : z ∈ y0 := hzz ▸ List.getElem_mem hlt
        have hki : ks[i]'(by omega) = z.2.1 := by simp [hksd, hzz]
        have hc : ((dd (ks.take i)).length : Int) < 100 := by omega
        have hbz := hbs z hzm
        have hfll := hfs.len
        obtain ⟨s', t', hin⟩ := ins_any 100 ht fl (by omega) z.2.1 hbz (by have := hks z hzm; omega) (by omega)
        have hin := hin false
        have hdi := dd_ins (cap := 100) (show i < ks.length by omega) hc
        rw [hki] at hdi
        have hf1 := fs_same hfs (key := z.2.1) hc
        have hm1 : z.2.1 ∈ insK 100 (dd (ks.take i)) z.2.1 := (mem_insK hc).2 (.inr rfl)
        have hinj : ∀ x ∈ dd (ks.take i), skey x = skey z.2.1 → x = z.2.1 := fun x hx e => skey_inj (hkb i x hx) hbz e
        have hlook := look_setM hinj
        have hput := put_setM hinj
        have hins : (if z.2.1 ∈ dd (ks.take i) then dd (ks.take i) else dd (ks.take i) ++ [z.2.1]) = insK 100 (dd (ks.take i)) z.2.1 := by
          unfold insK
          by_cases hk : z.2.1 ∈ dd (ks.take i)
          · simp [hk]
          · have hc' : ¬ (100 : Int) ≤ ((dd (ks.take i)).length : Int) := by omega
            simp [hk, hc']
        rw [hins] at hput
        have hkey : skey z.2.1 = .s (z.2.1.map fun z => UInt8.ofNat z.toNat) := rfl
        rw [hkey] at hlook hput
        have hlen1 := insK_length (cap := 100) (keys := dd (ks.take i)) (key := z.2.1)
        rw [← hdi] at t' hin hf1 hm1 hput hlen1
        rw [insE_ok hc] at hin
        have hn0 := insN_old (key := z.2.1) hc
        have hN1 := (insN 100 (dd (ks.take i)) z.2.1).toNat_le
        generalize hfl1 : (if insN 100 (dd (ks.take i)) z.2.1 = true then fl ++ [0] else fl) = fl1 at hin hf1
        rw [hn0] at hin
        generalize hK1 : dd (ks.take (i + 1)) = K1 at *
        simp only [hzz]
        refine bcallT_closed hin rfl ?_
        have hfl1l := hf1.len
        have ⟨r1, r2⟩ := hz1 z hzm
        obtain ⟨F, hF, hF2⟩ : ∃ F : Int, (IntKind.i64.wrap z.1).tmod 2 = F ∧ isF F := by
          refine ⟨z.1 % 2, ?_, by unfold isF; omega⟩
          rw [wrap_id (by omega) (by omega), Int.tmod_eq_emod_of_nonneg (by omega)]
        have hidx1 : idx K1 z.2.1 < fl1.length := by rw [hfl1l]; exact idx_lt hm1
        have hset := set_any 100 t' fl1 z.2.1 (by omega) hbz (by have := hks z hzm; omega) false F hF2 hm1 hidx1
        have hf2 := fs_set hf1 hm1 hF2
        have hgd : fl1.getD (idx K1 z.2.1) 0 = fl1[idx K1 z.2.1] := by rw [List.getD, List.getElem?_eq_getElem hidx1]; rfl
        rw [hgd] at hf2
        generalize hfl2 : fl1.set (idx K1 z.2.1) (bitsI .or .u8 fl1[idx K1 z.2.1] (bitOf F)) = fl2 at *
        have hSb : ∀ x ∈ Sx, ∀ y ∈ x, isByte y := fun x hx => by
          obtain ⟨k, hk, G, hG, rfl⟩ := hfs.name x hx
          exact fk_byte (hkb i k hk) hG
        have hinj2 : ∀ x ∈ Sx, skey x = skey (fk z.2.1 F) → x = fk z.2.1 F := fun x hx e => skey_inj (hSb x hx) (fk_byte hbz hF2) e
        have hput2 := put_setM hinj2
        rw [skey_fk] at hput2
        have hl200 := hks z hzm
        have hw1 : IntKind.i32.wrap (IntKind.i64.wrap (48 + F)) = 48 + F := by rcases hF2 with rfl | rfl <;> decide
        have hw2 : (0 : Int) ≤ 48 + F ∧ 48 + F < 128 := by rcases hF2 with rfl | rfl <;> decide
        have hw3 : z.2.1.length + 1 ≤ 9223372036854775807 := by omega
        by_cases hodd : z.2.2.tmod 2 = 0
        · by_cases hk : z.2.1 ∈ dd (ks.take i)
          all_goals
            simp [hlt, hzz, hlook, hk, hput, hF, hodd]
            refine ⟨(i + 1, s', fl1, Sx), ⟨by simp; omega, by simpa [hK1] using t', by simpa [hK1] using hf1⟩, by simp <;> omega, [0, 1, 2], ?_⟩
            simp [hK1]
            exact wrap_id (by omega) (by omega)
        · by_cases hk : z.2.1 ∈ dd (ks.take i)
          all_goals
            simp [hlt, hzz, hlook, hk, hput, hF, hodd]
            refine bcallT_closed hset rfl ?_
            simp [hlt, hzz, hF, hw1, hw2, bsize, bsize1, hw3, hput2]
            refine ⟨(i + 1, s', fl2, if fk z.2.1 F ∈ Sx then Sx else Sx ++ [fk z.2.1 F]), ⟨by simp; omega, by simpa [hK1] using t', by simpa [hK1] using hf2⟩, by simp <;> omega, [0, 1, 2], ?_⟩
            simp [hK1]
            exact wrap_id (by omega) (by omega)
      · have hil : i = ks.length := by omega
        subst hil
        have hkb' := hkb ks.length
        rw [List.take_length] at ht hdl hfs hkb'
        simp only [List.take_length]
        have hmem : ∀ j (hj : j < y0.length), y0[j].2.1 ∈ dd ks := fun j hj => by
          have hj' : j < ks.length := by omega
          have hyj : ks[j] = y0[j].2.1 := by simp [hksd]
          rw [← hyj]
          exact (dd_pre (show j + 1 ≤ ks.length by omega)).subset (dd_mem hj')
        generalize hK : dd ks = K at *
        have hfll := hfs.len
        have hSb : ∀ x ∈ Sx, ∀ y ∈ x, isByte y := fun x hx => by
          obtain ⟨k, hk, G, hG, rfl⟩ := hfs.name x hx
          exact fk_byte (hkb' k hk) hG
        refine lwp_loop (fun j : Nat => [(0, .sl 3 false (y0.map actL)), (3, boolL true), (4, .ptr 0 0), (5, intL 0), (6, .mref 1), (7, .mref 2), (16, intL j)])
          (fun j => [some [intL 100, .sl 1 false (K.map bytesL), .sl 1 false (s.map intL), .sl 1 false (fl.map u8L)], some [.mp .s (setM skey K)], some [.mp .s (setM skey Sx)]]) (fun j => y0.length - j) (fun j => j ≤ y0.length) 0 (by omega) ⟨[0, 1, 2], ?_⟩ ?_
        · simp
        · intro j hj
          simp at hj ⊢
          refine ⟨fun hlt => ?_, fun hge => ?_⟩
          · refine lwp_loop (fun G : Nat => [(0, .sl 3 false (y0.map actL)), (3, boolL true), (4, .ptr 0 0), (5, intL 0), (6, .mref 1), (7, .mref 2), (16, intL j), (17, intL G)])
              (fun _ => [some [intL 100, .sl 1 false (K.map bytesL), .sl 1 false (s.map intL), .sl 1 false (fl.map u8L)], some [.mp .s (setM skey K)], some [.mp .s (setM skey Sx)]]) (fun G => 2 - G) (fun G => G ≤ 2) 0 (by omega) ⟨[0, 1, 2], ?_⟩ ?_
            · simp
            · intro G hG
              simp at hG ⊢
              refine ⟨fun hG2 => ?_, fun hG2 => ?_⟩
              · obtain ⟨z, hzz⟩ : ∃ z, y0[j] = z := ⟨_, rfl⟩
                have hzm : z ∈ y0 := hzz ▸ List.getElem_mem hlt
                have hbz := hbs z hzm
                have hkz := hmem j hlt
                rw [hzz] at hkz
                have hF2 : isF (G : Int) := by unfold isF; omega
                have hidx1 : idx K z.2.1 < fl.length := by rw [hfll]; exact idx_lt hkz
                have hget := get_any 100 ht fl z.2.1 hbz (by have := hks z hzm; omega) false (G : Int) hF2 hkz hidx1
                have hgd : fl.getD (idx K z.2.1) 0 = fl[idx K z.2.1] := by rw [List.getD, List.getElem?_eq_getElem hidx1]; rfl
                have hag := hfs.agree z.2.1 hkz (G : Int) hF2
                rw [hgd] at hag
                have hinj2 : ∀ x ∈ Sx, skey x = skey (fk z.2.1 (G : Int)) → x = fk z.2.1 (G : Int) := fun x hx e => skey_inj (hSb x hx) (fk_byte hbz hF2) e
                have hlook2 := look_setM hinj2
                rw [skey_fk] at hlook2
                have hl200 := hks z hzm
                have hw1 : IntKind.i32.wrap (IntKind.i64.wrap (48 + (G : Int))) = 48 + (G : Int) := by rcases hF2 with h | h <;> rw [h] <;> decide
                have hw2 : (0 : Int) ≤ 48 + (G : Int) ∧ 48 + (G : Int) < 128 := by omega
                have hw3 : z.2.1.length + 1 ≤ 9223372036854775807 := by omega
                simp [hlt, hzz]
                refine callT_plain hget rfl rfl ?_
                by_cases hs : fk z.2.1 (G : Int) ∈ Sx
                · rw [if_pos hs] at hlook2
                  have h1 := hag.2 hs
                  simp [hlt, hzz, hw1, hw2, bsize, bsize1, hw3, hlook2, h1]
                  refine ⟨G + 1, by omega, by simp <;> omega, [0, 1, 2], ?_⟩
                  simp
                  exact wrap_id (by omega) (by omega)
                · rw [if_neg hs] at hlook2
                  have h1 : bitsI .and .u8 fl[idx K z.2.1] (bitOf (G : Int)) = 0 := by
                    by_cases h : bitsI .and .u8 fl[idx K z.2.1] (bitOf (G : Int)) = 0
                    · exact h
                    · exact absurd (hag.1 h) hs
                  simp [hlt, hzz, hw1, hw2, bsize, bsize1, hw3, hlook2, h1]
                  refine ⟨G + 1, by omega, by simp <;> omega, [0, 1, 2], ?_⟩
                  simp
                  exact wrap_id (by omega) (by omega)
              · refine ⟨j + 1, by omega, by simp <;> omega, [0, 1, 2], ?_⟩
                simp
                exact wrap_id (by omega) (by omega)
          · refine callT_plain (many_any 100 K s fl) rfl rfl ?_
            simp [setM_length]
  · simp [hf]

end Go.Proofs.Ytadpjaolnkliiaa
