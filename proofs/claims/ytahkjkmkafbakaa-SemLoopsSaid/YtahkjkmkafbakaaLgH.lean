/- Soundness of slice expressions, of new rows, of appends. -/
import Derived.Test.YtahkjkmkafbakaaLgG
namespace Lg
open Go

section
variable {P : Program} {η : List Nat} {S : Nat → Prop} {w : World} {H : Heap} {a : Act} {E : Env}

def ORel (S : Nat → Prop) (w : World) (η : List Nat) : Option Value → Option L → Prop
  | none, none => True
  | some v, some l => Rel S w η v l
  | _, _ => False

theorem bound_run {k : IntKind} {i : Int} {y : Nat} {code : BoundsCode} (h0 : 0 ≤ i) (h1 : i ≤ (y : Int)) : (Instr.sliceBound (.int k i) y code).run P w = .ok i.toNat w := by
  simp [Instr.sliceBound, asIntOf, h0, h1]

/-- A bound that is given. -/
theorem ORel.int {o : Option Value} {k : IntKind} {n : Int} (h : ORel S w η o (some (.v (.int k n)))) : o = some (.int k n) := by
  cases o with
  | none => exact h.elim
  | some v => have : Rel S w η v _ := h; rw [this.inv_v]

theorem ORel.none {o : Option Value} (h : ORel S w η o none) : o = none := by
  cases o with
  | none => rfl
  | some v => exact h.elim

theorem bnds_run {isS clip : Bool} {len cap : Nat} {lo hi mx : Option Value} {llo lhi lmx : Option L} {l h : Nat} {cl : Bool} (hlo : ORel S w η lo llo) (hhi : ORel S w η hi lhi) (hmx : ORel S w η mx lmx)
    (hm : lmx.isSome = true → lhi.isSome = true) (hc : len ≤ cap) (hcl : clip = true → cap = len) (hb : bnds len clip llo lhi lmx = some (l, h, cl)) :
    ∃ m, (Instr.sliceBounds isS len cap lo hi mx).run P w = .ok (l, h, m) w ∧ l ≤ h ∧ h ≤ len ∧ h ≤ m ∧ m ≤ cap ∧ (cl = true → m = h) := by
  unfold bnds at hb
  simp only at hb
  split at hb
  · rename_i l' h' e1 e2 e3
    split at hb
    · rename_i hle
      simp only [Option.some.injEq, Prod.mk.injEq] at hb
      obtain ⟨rfl, rfl, rfl⟩ := hb
      have hmx' : lmx = none := by
        cases lmx with
        | none => rfl
        | some y =>
          cases y with
          | v x => cases x <;> simp at e3
          | _ => simp at e3
      subst hmx'
      have := hmx.none; subst this
      have hH : (h' ≤ len) ∧ (∀ code, (match hi with | some v => Instr.sliceBound v cap code | none => pure len : Sem Nat).run P w = .ok h' w) := by
        cases lhi with
        | none => have := hhi.none; subst this; simp at e2; subst e2; exact ⟨Nat.le_refl _, fun _ => by simp⟩
        | some y =>
          cases y with
          | v x =>
            cases x <;> simp at e2
            rename_i k n
            obtain ⟨⟨q1, q2⟩, rfl⟩ := e2
            have := hhi.int; subst this
            exact ⟨by omega, fun _ => bound_run q1 (by omega)⟩
          | _ => simp at e2
      have hL : ∀ code, (match lo with | some v => Instr.sliceBound v h' code | none => pure 0 : Sem Nat).run P w = .ok l' w := by
        cases llo with
        | none => have := hlo.none; subst this; simp at e1; subst e1; exact fun _ => by simp
        | some y =>
          cases y with
          | v x =>
            cases x <;> simp at e1
            rename_i k n
            obtain ⟨q1, rfl⟩ := e1
            have := hlo.int; subst this
            exact fun _ => bound_run q1 (by omega)
          | _ => simp at e1
      refine ⟨cap, ?_, hle, hH.1, by omega, Nat.le_refl _, fun e => ?_⟩
      · have h2 := hH.2 (if isS then .sliceAcap else .sliceAlen)
        have h3 := hL .sliceB
        unfold Instr.sliceBounds
        cases hi <;> cases lo <;> simp_all [Sem.run_bind]
      · split at e
        · rename_i e4; rw [hcl e, e4]
        · simp at e
    · simp at hb
  · rename_i l' h' m' e1 e2 e3
    split at hb
    · rename_i hle
      obtain ⟨hle, hle2⟩ := hle
      simp only [Option.some.injEq, Prod.mk.injEq] at hb
      obtain ⟨rfl, rfl, rfl⟩ := hb
      have hM : ∃ k n, lmx = some (.v (.int k n)) ∧ 0 ≤ n ∧ n ≤ (len : Int) ∧ n.toNat = m' := by
        cases lmx with
        | none => simp at e3
        | some y =>
          cases y with
          | v x =>
            cases x <;> simp at e3
            rename_i k n
            obtain ⟨⟨q1, q2⟩, rfl⟩ := e3
            exact ⟨k, n, rfl, q1, q2, rfl⟩
          | _ => simp at e3
      obtain ⟨k, n, rfl, q1, q2, rfl⟩ := hM
      have := hmx.int; subst this
      have hN : ∃ k' n', lhi = some (.v (.int k' n')) ∧ 0 ≤ n' ∧ n' ≤ (len : Int) ∧ n'.toNat = h' := by
        cases lhi with
        | none => simp at hm
        | some y =>
          cases y with
          | v x =>
            cases x <;> simp at e2
            rename_i k n
            obtain ⟨⟨q1, q2⟩, rfl⟩ := e2
            exact ⟨k, n, rfl, q1, q2, rfl⟩
          | _ => simp at e2
      obtain ⟨k', n', rfl, q3, q4, rfl⟩ := hN
      have := hhi.int; subst this
      have hL : ∀ code, (match lo with | some v => Instr.sliceBound v n'.toNat code | none => pure 0 : Sem Nat).run P w = .ok l' w := by
        cases llo with
        | none => have := hlo.none; subst this; simp at e1; subst e1; exact fun _ => by simp
        | some y =>
          cases y with
          | v x =>
            cases x <;> simp at e1
            rename_i k n
            obtain ⟨q1, rfl⟩ := e1
            have := hlo.int; subst this
            exact fun _ => bound_run q1 (by omega)
          | _ => simp at e1
      refine ⟨n.toNat, ?_, hle, by omega, hle2, by omega, fun e => ?_⟩
      · have h3 := hL .slice3C
        unfold Instr.sliceBounds
        simp only [Sem.run_bind, bound_run q1 (show n ≤ (cap : Int) by omega), Result.andThen_ok, bound_run q3 (show n' ≤ ((n.toNat : Nat) : Int) by omega)]
        cases lo <;> simp_all
      · split at e
        · assumption
        · simp at e
    · simp at hb
  · simp at hb

theorem flat_dropTake {esz : Nat} {xs : List L} (h : ∀ y ∈ xs, y.cells.length = esz ∧ (esz = 1 → y.cells = [y])) (l k j : Nat) (hk : k ≤ xs.length) (hj : j < (k - l) * esz) :
    (flat esz ((xs.take k).drop l)).getD j .any = (flat esz xs).getD (l * esz + j) .any := by
  have h0 : 0 < esz := Nat.pos_of_mul_pos_left (by omega : 0 < (k - l) * esz)
  have hi : j / esz < k - l := Nat.div_lt_of_lt_mul (by rw [Nat.mul_comm]; exact hj)
  have hmod := Nat.mod_lt j h0
  have hdiv : j / esz * esz + j % esz = j := by rw [Nat.mul_comm]; exact Nat.div_add_mod j esz
  generalize j / esz = i at hi hdiv
  generalize j % esz = q at hmod hdiv
  have hx : xs[l + i]? = some (xs[l + i]'(by omega)) := List.getElem?_eq_getElem _
  have hx2 : ((xs.take k).drop l)[i]? = some (xs[l + i]'(by omega)) := by
    rw [List.getElem?_drop, List.getElem?_take, if_pos (by omega)]; exact hx
  have e1 := flat_getD h hx hmod
  have e2 := flat_getD (xs := (xs.take k).drop l) (fun y hy => h y (List.mem_of_mem_take (List.mem_of_mem_drop hy))) hx2 hmod
  rw [hdiv] at e2
  rw [e2, ← e1, Nat.add_mul, Nat.add_assoc, hdiv]

theorem slice_fine {t e : TypeId} {s : Nat} {x : Value} {lo hi mx : Option Value} {lx : L} {llo lhi lmx : Option L} {r : L} (hu : P.underlying t = some (.slice e)) (hs : szOf P e = some s) (h0 : s ≠ 0) (hx : Rel S w η x lx)
    (hlo : ORel S w η lo llo) (hhi : ORel S w η hi lhi) (hmx : ORel S w η mx lmx) (hm : lmx.isSome = true → lhi.isSome = true) (h : sliceL s llo lhi lmx lx = some r) :
    ∃ v, (Instr.sliceAt t x lo hi mx).run P w = .ok v w ∧ Rel S w η v r := by
  have hrun : ∀ (ad : Option Addr) len cap l k m, (Instr.sliceBounds true len cap lo hi mx).run P w = .ok (l, k, m) w →
      (Instr.sliceAt t (.slice ad len cap) lo hi mx).run P w = .ok (.slice (if m = l then ad else ad.map (·.add (l * s))) (k - l) (m - l)) w := fun ad len cap l k m hb => by
    simp only [Instr.sliceAt, Sem.run_bind, run_underlying hu, Result.andThen_ok, Instr.slice, hb, run_sz hs, Sem.run_pure]
  unfold sliceL at h
  split at h
  · rename_i esz clip xs
    split at h
    · rename_i he; subst he
      simp only [Option.map_eq_some_iff] at h
      obtain ⟨⟨l, k, cl⟩, hb, rfl⟩ := h
      obtain ⟨ad, cap, rfl, h1, h2, h3, h4, h5⟩ := hx.inv_sl
      obtain ⟨m, hm1, hm2, hm3, hm4, hm5, hm6⟩ := bnds_run (P := P) (isS := true) hlo hhi hmx hm h1 h3 hb
      refine ⟨_, hrun ad _ _ l k m hm1, ?_⟩
      have hlen : ((xs.take k).drop l).length = k - l := by simp; omega
      by_cases hz : k - l = 0
      · have hnil : (xs.take k).drop l = [] := List.eq_nil_of_length_eq_zero (by omega)
        simp only [hnil, hz]
        exact .sl0 (fun e => by have := hm6 e; omega) (by omega)
      · obtain ⟨b, o, cs, rfl, hS, hc, hr⟩ := h5 (by omega)
        have hml : m ≠ l := by omega
        simp only [hml, if_false, Option.map_some, Addr.add_lit]
        rw [← hlen]
        have hmul : l * esz + (k - l) * esz ≤ xs.length * esz := by rw [← Nat.add_mul]; exact Nat.mul_le_mul_right _ (by omega)
        refine .sl (fun j => cs (l * esz + j)) (by omega) (by omega) (fun e => by have := hm6 e; omega) (fun y hy => h4 y (List.mem_of_mem_take (List.mem_of_mem_drop hy)))
          (fun hp => hS (by rw [hlen] at hp; omega)) (fun j hj => ?_) (fun j => ?_)
        · rw [hlen] at hj
          rw [show o + l * esz + j = o + (l * esz + j) by omega]; exact hc _ (by omega)
        · by_cases hj : j < (k - l) * esz
          · rw [flat_dropTake h4 l k j (by omega) hj]; exact hr _
          · rw [getD_of_ge _ _ (by rw [flat_length (fun y hy => h4 y (List.mem_of_mem_take (List.mem_of_mem_drop hy))), hlen]; omega)]; exact .any _
    · simp at h
  · rename_i esz kk off n clip
    split at h
    · rename_i he; subst he
      simp only [Option.map_eq_some_iff] at h
      obtain ⟨⟨l, k, cl⟩, hb, rfl⟩ := h
      rcases hx.inv_view with ⟨ad, rfl, rfl⟩ | ⟨b, cap, c, t', fr, rfl, hη, hb', hsz, hn, hmm, hcl⟩
      · obtain ⟨m, hm1, hm2, hm3, hm4, hm5, hm6⟩ := bnds_run (P := P) (isS := true) hlo hhi hmx hm (Nat.le_refl 0) (fun _ => rfl) hb
        refine ⟨_, hrun ad _ _ l k m hm1, ?_⟩
        have : k - l = 0 := by omega
        have e2 : m - l = 0 := by omega
        simp only [this, e2]
        exact .view0
      · obtain ⟨m, hm1, hm2, hm3, hm4, hm5, hm6⟩ := bnds_run (P := P) (isS := true) hlo hhi hmx hm hn hcl hb
        refine ⟨_, hrun _ _ _ l k m hm1, ?_⟩
        by_cases hml : m = l
        · have e1 : k - l = 0 := by omega
          have e2 : m - l = 0 := by omega
          simp only [e1, e2]
          exact .view0
        · simp only [hml, if_false, Option.map_some, Addr.add_lit]
          refine .view hη hb' ?_ (by omega) (by omega) (fun e => by have := hm6 e; omega)
          have : off + l * esz + (m - l) * esz = off + m * esz := by rw [Nat.add_assoc, ← Nat.add_mul]; congr 2; omega
          have h6 := Nat.mul_le_mul_right esz hm5
          omega
    · simp at h
  · simp only [Option.map_eq_some_iff] at h
    obtain ⟨⟨l, k, cl⟩, hb, rfl⟩ := h
    have := hx.inv_v; subst this
    obtain ⟨m, hm1, hm2, hm3, hm4, hm5, hm6⟩ := bnds_run (P := P) (isS := true) hlo hhi hmx hm (Nat.le_refl 0) (fun _ => rfl) hb
    refine ⟨_, hrun none _ _ l k m hm1, ?_⟩
    have e1 : k - l = 0 := by omega
    have e2 : m - l = 0 := by omega
    simp only [e1, e2]
    exact .sl0 (fun _ => rfl) (by simp [maxLen])
  · simp at h

end
end Lg
