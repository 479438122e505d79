/- Soundness of the operations. -/
import Derived.Test.YtahkjkmkafbakaaLgD
namespace Lg
open Go

section
variable {P : Program} {η : List Nat} {S : Nat → Prop} {w : World} {H : Heap} {a : Act} {E : Env}

theorem compA_sound {x : Operand} {y : A} (h : compA x = some y) (hE : REnv η S w a.tmps E) : Rel S w η (a.eval x) (arg E y) := by
  cases x with
  | tmp t => simp [compA] at h; subst h; exact hE t
  | const v => simp [compA] at h; subst h; exact rel_ofV v
  | func f => simp [compA] at h; subst h; exact .fn rfl rfl (fun j => by simp; exact .any _) (fun j => by simp; exact .any _)
  | global g => simp [compA] at h

theorem compAs_sound (hE : REnv η S w a.tmps E) : ∀ {xs : List Operand} {ys : List A}, compAs xs = some ys →
    xs.length = ys.length ∧ ∀ j, Rel S w η ((xs.map a.eval).getD j undef) ((ys.map (arg E)).getD j .any)
  | [], ys, h => by simp [compAs] at h; subst h; exact ⟨rfl, fun j => by simp; exact .any _⟩
  | x :: xs, ys, h => by
    simp only [compAs, Option.bind_eq_some_iff, Option.map_eq_some_iff] at h
    obtain ⟨y, h1, ys', h2, rfl⟩ := h
    obtain ⟨e1, e2⟩ := compAs_sound hE h2
    refine ⟨by simp [e1], fun j => ?_⟩
    cases j with
    | zero => exact compA_sound h1 hE
    | succ j => simpa using e2 j

/-- An operation runs, and gives the logical value. -/
def Fine (P : Program) (s : Sem Next) (η : List Nat) (S : Nat → Prop) (w : World) (l : L) (H' : Heap) : Prop :=
  ∃ v w' η' S', (s.run P w = .ok (.value v) w' ∨ (s.run P w = .ok .skip w' ∧ v = undef)) ∧ Rel S' w' η' v l ∧ Conc η' S' w' H' ∧ Le η S w η' S' w'

theorem Fine.same {s : Sem Next} {v : Value} {l : L} (hC : Conc η S w H) (h : s.run P w = .ok (.value v) w) (hr : Rel S w η v l) : Fine P s η S w l H :=
  ⟨v, w, η, S, .inl h, hr, hC, Le.refl _ _ _⟩

theorem run_val {s : Sem Value} {v : Value} {w' : World} (h : s.run P w = .ok v w') : (do pure (Next.value (← s)) : Sem Next).run P w = .ok (.value v) w' := by simp [h]

theorem bitsI_run {op : BinOp} {k : IntKind} {x y : Int} (h : op = .and ∨ op = .or ∨ op = .xor ∨ op = .andNot) : (Op.intBits op k x y).run P w = .ok (.int k (bitsI op k x y)) w := by
  rcases h with rfl | rfl | rfl | rfl <;> simp [Op.intBits, bitsI]

theorem run_binInt {op : BinOp} {t : TypeId} {k k' : IntKind} {a b : Int} {l : L} (h : binInt op k a k' b = some l) : ∃ v, (binOp op t (.int k a) (.int k' b)).run P w = .ok v w ∧ l = .v v := by
  cases op
  case shl => simp [binInt] at h; obtain ⟨h1, rfl⟩ := h; exact ⟨_, by simp [binOp, Op.shift, shlI, Int.not_lt.2 h1], rfl⟩
  case shr => simp [binInt] at h; obtain ⟨h1, rfl⟩ := h; exact ⟨_, by simp [binOp, Op.shift, shrI, Int.not_lt.2 h1], rfl⟩
  case add => simp [binInt] at h; obtain ⟨rfl, rfl⟩ := h; exact ⟨_, by simp [binOp, Op.intArith], rfl⟩
  case sub => simp [binInt] at h; obtain ⟨rfl, rfl⟩ := h; exact ⟨_, by simp [binOp, Op.intArith], rfl⟩
  case mul => simp [binInt] at h; obtain ⟨rfl, rfl⟩ := h; exact ⟨_, by simp [binOp, Op.intArith], rfl⟩
  case quo => simp [binInt] at h; obtain ⟨rfl, h1, rfl⟩ := h; exact ⟨_, by simp [binOp, Op.intDiv, h1], rfl⟩
  case rem => simp [binInt] at h; obtain ⟨rfl, h1, rfl⟩ := h; exact ⟨_, by simp [binOp, Op.intDiv, h1], rfl⟩
  case and => simp [binInt] at h; obtain ⟨rfl, rfl⟩ := h; exact ⟨_, by simp [binOp, bitsI_run], rfl⟩
  case or => simp [binInt] at h; obtain ⟨rfl, rfl⟩ := h; exact ⟨_, by simp [binOp, bitsI_run], rfl⟩
  case xor => simp [binInt] at h; obtain ⟨rfl, rfl⟩ := h; exact ⟨_, by simp [binOp, bitsI_run], rfl⟩
  case andNot => simp [binInt] at h; obtain ⟨rfl, rfl⟩ := h; exact ⟨_, by simp [binOp, bitsI_run], rfl⟩
  case eql => simp [binInt] at h; obtain ⟨rfl, rfl⟩ := h; exact ⟨.bool (decide (a = b)), by simp [binOp, Op.intCmp]; by_cases e : a = b <;> simp [e], rfl⟩
  case neq => simp [binInt] at h; obtain ⟨rfl, rfl⟩ := h; exact ⟨.bool (!decide (a = b)), by simp [binOp, Op.intCmp, bne]; by_cases e : a = b <;> simp [e], rfl⟩
  case lss => simp [binInt] at h; obtain ⟨rfl, rfl⟩ := h; exact ⟨_, by simp [binOp, Op.intCmp], rfl⟩
  case leq => simp [binInt] at h; obtain ⟨rfl, rfl⟩ := h; exact ⟨_, by simp [binOp, Op.intCmp], rfl⟩
  case gtr => simp [binInt] at h; obtain ⟨rfl, rfl⟩ := h; exact ⟨_, by simp [binOp, Op.intCmp], rfl⟩
  case geq => simp [binInt] at h; obtain ⟨rfl, rfl⟩ := h; exact ⟨_, by simp [binOp, Op.intCmp], rfl⟩

theorem run_equalIn_bool (d : Nat) {t : TypeId} (ht : P.underlying t = some .bool) (a b : Bool) : (Op.equalIn (d + 1) t (.bool a) (.bool b)).run P w = .ok (a == b) w := by
  simp only [Op.equalIn, Sem.run_bind, run_underlying ht, Result.andThen_ok, Sem.run_pure]

theorem run_equal_bool {t : TypeId} (ht : P.underlying t = some .bool) (a b : Bool) : (Op.equal t (.bool a) (.bool b)).run P w = .ok (a == b) w := run_equalIn_bool 9999 ht a b

theorem run_bin {op : BinOp} {isb : Bool} {t : TypeId} {o1 o2 : Operand} {x y : Value} {lx ly l : L} (hb : isb = true → P.underlying t = some .bool) (h : binL op isb lx ly = some l) (hx : Rel S w η x lx) (hy : Rel S w η y ly) :
    ∃ v, (do eqGuard op t o1 o2 x y; binOp op t x y : Sem Value).run P w = .ok v w ∧ Rel S w η v l := by
  unfold binL at h
  split at h
  · rename_i k a k' b
    have := hx.inv_v; subst this
    have := hy.inv_v; subst this
    obtain ⟨v, hv, rfl⟩ := run_binInt (P := P) (w := w) (t := t) h
    exact ⟨v, by simp only [eqGuard_at_int, pure_bind]; exact hv, .v _⟩
  · rename_i a b
    have := hx.inv_v; subst this
    have := hy.inv_v; subst this
    split at h
    · rename_i hi
      have ht := hb hi
      cases op <;> simp only [binBool] at h <;> first | (simp at h; done) | skip
      · cases h
        exact ⟨_, by simp only [eqGuard_at_bool, pure_bind, binOp, Sem.run_bind, run_equal_bool ht, Result.andThen_ok, Sem.run_pure], .v _⟩
      · cases h
        exact ⟨_, by simp only [eqGuard_at_bool, pure_bind, binOp, Sem.run_bind, run_equal_bool ht, Result.andThen_ok, Sem.run_pure]; rfl, .v _⟩
    · simp at h
  · rename_i a b
    have := hx.inv_v; subst this
    have := hy.inv_v; subst this
    simp only [eqGuard_at_string, pure_bind]
    cases op <;> simp only [binStr] at h <;> first | (simp at h; done) | skip
    · simp at h
      obtain ⟨h1, rfl⟩ := h
      have h2 : ¬ (((a.size + b.size : Nat) : Int) > IntKind.i64.max) := by
        rw [show IntKind.i64.max = 9223372036854775807 from rfl]; omega
      have h3 : a ++ b = ⟨(a.data.toList ++ b.data.toList).toArray⟩ := by
        apply ByteArray.ext; simp [ByteArray.data_append]
      exact ⟨.string (a ++ b), by simp only [binOp, Op.stringOp, if_neg h2]; rfl, by rw [h3]; exact .v _⟩
    · cases h; exact ⟨_, by simp [binOp, Op.stringOp]; by_cases hab : a.toList = b.toList <;> simp [hab], .v _⟩
    · cases h; exact ⟨_, by simp [binOp, Op.stringOp]; by_cases hab : a.toList = b.toList <;> simp [hab], .v _⟩
    · cases h; exact ⟨_, by simp [binOp, Op.stringOp], .v _⟩
  · simp at h

theorem run_un {op : UnOp} {x : Value} {lx l : L} (h : unL op lx = some l) (hx : Rel S w η x lx) : ∃ v, (Op.unary op x).run P w = .ok v w ∧ Rel S w η v l := by
  unfold unL at h
  split at h
  · have := hx.inv_v; subst this
    cases op <;> simp at h
    subst h; exact ⟨_, by simp [Op.unary], .v _⟩
  · have := hx.inv_v; subst this
    cases op <;> simp at h
    · subst h; exact ⟨.int _ _, by simp only [Op.unary, Op.intArith, Sem.run_pure]; rfl, by simp; exact .v _⟩
    · subst h; exact ⟨_, by simp [Op.unary, bitsI_run], .v _⟩
  · simp at h

theorem run_equalIn_int (d : Nat) {e : TypeId} {k : IntKind} (he : P.underlying e = some (.int k)) (a b : Int) : (Op.equalIn (d + 1) e (.int k a) (.int k b)).run P w = .ok (a == b) w := by
  simp only [Op.equalIn, Sem.run_bind, run_underlying he, Result.andThen_ok, if_true, Sem.run_pure]

theorem run_equal2 {t e : TypeId} {k : IntKind} {i : TypeInfo} (hu : P.underlying t = some (.array 2 e)) (he : P.underlying e = some (.int k)) (hi : P.info? e = some i) (hc : P.cellsOf e = 1) (hp : P.plainKey e = true) (a b c d : Int) :
    (Op.equal t (.agg #[.int k a, .int k b]) (.agg #[.int k c, .int k d])).run P w = .ok (decide (a = c ∧ b = d)) w := by
  have h0 : (part e #[Value.int k a, .int k b] 0).run P w = .ok (.int k a) w := run_part_plain w hp rfl
  have h1 : (part e #[Value.int k a, .int k b] 1).run P w = .ok (.int k b) w := run_part_plain w hp rfl
  have h2 : (part e #[Value.int k c, .int k d] 0).run P w = .ok (.int k c) w := run_part_plain w hp rfl
  have h3 : (part e #[Value.int k c, .int k d] 1).run P w = .ok (.int k d) w := run_part_plain w hp rfl
  unfold Op.equal
  rw [show Op.maxDepth = 9998 + 1 + 1 from rfl, run_equalIn_array w _ _ _ hu hi]
  have hr : List.range 2 = [0, 1] := rfl
  have hi2 : ∀ x y : Int, (Op.equalIn 9999 e (.int k x) (.int k y)).run P w = .ok (x == y) w := fun x y => run_equalIn_int 9998 he x y
  simp only [hr, Op.eqItems, Sem.run_bind, hc, h0, h1, h2, h3, Result.andThen_ok, Nat.zero_mul, Nat.one_mul, run_equalIn_int _ he]
  by_cases e1 : a = c
  · subst e1
    by_cases e2 : b = d
    · subst e2; simp [h1, hi2]
    · simp [e2, h1, h3, hi2]
  · simp [e1]

theorem run_eq2 {t e : TypeId} {k : IntKind} {i : TypeInfo} {o1 o2 : Operand} (hu : P.underlying t = some (.array 2 e)) (he : P.underlying e = some (.int k)) (hi : P.info? e = some i) (hc : P.cellsOf e = 1) (hp : P.plainKey e = true) (hg : P.eqGuardType P.depth t = false) (a b c d : Int) :
    (do eqGuard .eql t o1 o2 (.agg #[.int k a, .int k b]) (.agg #[.int k c, .int k d]); binOp .eql t (.agg #[.int k a, .int k b]) (.agg #[.int k c, .int k d]) : Sem Value).run P w = .ok (.bool (decide (a = c ∧ b = d))) w := by
  have h0 : (part e #[Value.int k a, .int k b] 0).run P w = .ok (.int k a) w := run_part_plain w hp rfl
  have h1 : (part e #[Value.int k a, .int k b] 1).run P w = .ok (.int k b) w := run_part_plain w hp rfl
  have h2 : (part e #[Value.int k c, .int k d] 0).run P w = .ok (.int k c) w := run_part_plain w hp rfl
  have h3 : (part e #[Value.int k c, .int k d] 1).run P w = .ok (.int k d) w := run_part_plain w hp rfl
  have hpr : (program : Sem Program).run P w = .ok P w := rfl
  have heq : (Op.equal t (.agg #[.int k a, .int k b]) (.agg #[.int k c, .int k d])).run P w = .ok (decide (a = c ∧ b = d)) w := by
    unfold Op.equal
    rw [show Op.maxDepth = 9998 + 1 + 1 from rfl, run_equalIn_array w _ _ _ hu hi]
    have hr : List.range 2 = [0, 1] := rfl
    have hi2 : ∀ x y : Int, (Op.equalIn 9999 e (.int k x) (.int k y)).run P w = .ok (x == y) w := fun x y => run_equalIn_int 9998 he x y
    simp only [hr, Op.eqItems, Sem.run_bind, hc, h0, h1, h2, h3, Result.andThen_ok, Nat.zero_mul, Nat.one_mul, run_equalIn_int _ he]
    by_cases e1 : a = c
    · subst e1
      by_cases e2 : b = d
      · subst e2; simp [h1, hi2]
      · simp [e2, h1, h3, hi2]
    · simp [e1]
  simp only [eqGuard, binOp, Sem.run_bind]
  simp [heq, hg]

end
end Lg
