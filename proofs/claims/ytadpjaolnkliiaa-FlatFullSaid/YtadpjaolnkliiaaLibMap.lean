/- Maps that follow a table: from a key to its place, and from a key to yes. -/
import Derived.Test.YtadpjaolnkliiaaLibOrd
namespace Lg
open Go

def idxFrom (f : List Int → MK) : List (List Int) → Nat → List (MK × Value)
  | [], _ => []
  | k :: ks, n => (f k, .int .i64 (n : Nat)) :: idxFrom f ks (n + 1)
/-- Keys, and their places. -/
def idxM (f : List Int → MK) (K : List (List Int)) : List (MK × Value) := idxFrom f K 0
/-- Keys. -/
def setM (f : List Int → MK) (K : List (List Int)) : List (MK × Value) := K.map fun k => (f k, .bool true)

theorem idxFrom_length {f : List Int → MK} : ∀ {K : List (List Int)} {n : Nat}, (idxFrom f K n).length = K.length
  | [], _ => rfl
  | _ :: K, n => by simp [idxFrom, idxFrom_length (K := K)]
theorem idxM_length {f : List Int → MK} {K : List (List Int)} : (idxM f K).length = K.length := idxFrom_length
theorem setM_length {f : List Int → MK} {K : List (List Int)} : (setM f K).length = K.length := by simp [setM]

theorem look_idxFrom {f : List Int → MK} {k : List Int} : ∀ {K : List (List Int)} {n : Nat}, (∀ x ∈ K, f x = f k → x = k) → mlook (idxFrom f K n) (f k) = if k ∈ K then some (.int .i64 ((n + idx K k : Nat) : Int)) else none
  | [], _, _ => by simp [idxFrom, mlook]
  | x :: K, n, h => by
    have ih := look_idxFrom (K := K) (n := n + 1) (fun y hy => h y (.tail _ hy))
    simp only [idxFrom, mlook]
    by_cases hx : x = k
    · subst hx; simp [idx, List.findIdx_cons]
    · have hf : ¬ f x = f k := fun e => hx (h x (.head _) e)
      rw [if_neg hf, ih]
      have : idx (x :: K) k = idx K k + 1 := by simp [idx, List.findIdx_cons, hx]
      rw [this]
      by_cases hk : k ∈ K
      · simp [hk]; omega
      · simp [hk, Ne.symm hx]

theorem look_idxM {f : List Int → MK} {k : List Int} {K : List (List Int)} (h : ∀ x ∈ K, f x = f k → x = k) : mlook (idxM f K) (f k) = if k ∈ K then some (.int .i64 (idx K k : Int)) else none := by
  rw [idxM, look_idxFrom h]; simp

theorem look_setM {f : List Int → MK} {k : List Int} : ∀ {K : List (List Int)}, (∀ x ∈ K, f x = f k → x = k) → mlook (setM f K) (f k) = if k ∈ K then some (.bool true) else none
  | [], _ => by simp [setM, mlook]
  | x :: K, h => by
    have ih := look_setM (K := K) (fun y hy => h y (.tail _ hy))
    simp only [setM, List.map_cons, mlook] at ih ⊢
    by_cases hx : x = k
    · subst hx; simp
    · have hf : ¬ f x = f k := fun e => hx (h x (.head _) e)
      rw [if_neg hf, ih]
      simp [Ne.symm hx]

theorem put_idxFrom {f : List Int → MK} {k : List Int} : ∀ {K : List (List Int)} {n : Nat}, (∀ x ∈ K, f x = f k → x = k) → k ∉ K → mput (idxFrom f K n) (f k) (.int .i64 ((n + K.length : Nat) : Int)) = idxFrom f (K ++ [k]) n
  | [], n, _, _ => by simp [idxFrom, mput]
  | x :: K, n, h, hk => by
    have hk' : k ∉ K := fun e => hk (.tail _ e)
    have ih := put_idxFrom (K := K) (n := n + 1) (fun y hy => h y (.tail _ hy)) hk'
    have hf : ¬ f x = f k := fun e => hk (by rw [← h x (.head _) e]; exact .head _)
    simp only [idxFrom, mput, List.cons_append, if_neg hf]
    rw [← ih]
    simp only [List.length_cons]
    congr 3
    omega

theorem put_idxM {f : List Int → MK} {k : List Int} {K : List (List Int)} (h : ∀ x ∈ K, f x = f k → x = k) (hk : k ∉ K) : mput (idxM f K) (f k) (.int .i64 (K.length : Int)) = idxM f (K ++ [k]) := by
  have := put_idxFrom (n := 0) h hk
  simpa [idxM] using this

theorem again_idxFrom {f : List Int → MK} {k : List Int} : ∀ {K : List (List Int)} {n : Nat}, (∀ x ∈ K, f x = f k → x = k) → k ∈ K → mput (idxFrom f K n) (f k) (.int .i64 ((n + idx K k : Nat) : Int)) = idxFrom f K n
  | [], n, _, hk => by simp at hk
  | x :: K, n, h, hk => by
    by_cases hx : x = k
    · subst hx; simp [idxFrom, mput, idx, List.findIdx_cons]
    · have hk' : k ∈ K := by
        rcases List.mem_cons.1 hk with e | e
        · exact absurd e.symm hx
        · exact e
      have ih := again_idxFrom (K := K) (n := n + 1) (fun y hy => h y (.tail _ hy)) hk'
      have hf : ¬ f x = f k := fun e => hx (h x (.head _) e)
      have : idx (x :: K) k = idx K k + 1 := by simp [idx, List.findIdx_cons, hx]
      simp only [idxFrom, mput, if_neg hf, this]
      rw [show n + (idx K k + 1) = n + 1 + idx K k by omega, ih]

theorem again_idxM {f : List Int → MK} {k : List Int} {K : List (List Int)} (h : ∀ x ∈ K, f x = f k → x = k) (hk : k ∈ K) : mput (idxM f K) (f k) (.int .i64 (idx K k : Int)) = idxM f K := by
  have := again_idxFrom (n := 0) h hk
  simpa [idxM] using this

theorem put_setM {f : List Int → MK} {k : List Int} : ∀ {K : List (List Int)}, (∀ x ∈ K, f x = f k → x = k) → mput (setM f K) (f k) (.bool true) = setM f (if k ∈ K then K else K ++ [k])
  | [], _ => by simp [setM, mput]
  | x :: K, h => by
    have ih := put_setM (K := K) (fun y hy => h y (.tail _ hy))
    simp only [setM, List.map_cons, mput] at ih ⊢
    by_cases hx : x = k
    · subst hx; simp
    · have hf : ¬ f x = f k := fun e => hx (h x (.head _) e)
      rw [if_neg hf, ih]
      by_cases hk : k ∈ K
      · simp [hk]
      · simp [hk, Ne.symm hx]

/-- A key of bytes. -/
def skey (k : List Int) : MK := .s (k.map fun z => UInt8.ofNat z.toNat)

theorem skey_inj {a b : List Int} (ha : ∀ z ∈ a, isByte z) (hb : ∀ z ∈ b, isByte z) (h : skey a = skey b) : a = b := by
  simp only [skey, MK.s.injEq] at h
  exact (bytes_inj ha hb).1 h

/-- What a table has behind some keys. -/
def kf (cap : Int) (l : List (List Int)) : List (List Int) := l.foldl (insK cap) []

@[simp] theorem kf_nil {cap : Int} : kf cap [] = [] := eqOf rfl
theorem kf_take {cap : Int} {l : List (List Int)} {i : Nat} (h : i < l.length) : kf cap (l.take (i + 1)) = insK cap (kf cap (l.take i)) l[i] := by
  unfold kf
  rw [List.take_add_one, List.getElem?_eq_getElem h, List.foldl_append]
  rfl

theorem kf_sub {cap : Int} {l : List (List Int)} {x : List Int} (h : x ∈ kf cap l) : x ∈ l := by
  suffices ∀ (l K : List (List Int)), x ∈ l.foldl (insK cap) K → x ∈ K ∨ x ∈ l by
    rcases this l [] h with h | h
    · simp at h
    · exact h
  intro l
  induction l with
  | nil => intro K h; exact .inl h
  | cons a l ih =>
    intro K h
    rcases ih _ h with h | h
    · unfold insK at h
      split at h
      · exact .inl h
      · rcases List.mem_append.1 h with h | h
        · exact .inl h
        · simp at h; subst h; exact .inr (.head _)
    · exact .inr (.tail _ h)

theorem dd_sub {l : List (List Int)} {x : List Int} (h : x ∈ dd l) : x ∈ l := by
  suffices ∀ (l K : List (List Int)), x ∈ l.foldl (fun ks k => if k ∈ ks then ks else ks ++ [k]) K → x ∈ K ∨ x ∈ l by
    rcases this l [] h with h | h
    · simp at h
    · exact h
  intro l
  induction l with
  | nil => intro K h; exact .inl h
  | cons a l ih =>
    intro K h
    rcases ih _ h with h | h
    · simp only at h
      split at h
      · exact .inl h
      · rcases List.mem_append.1 h with h | h
        · exact .inl h
        · simp at h; subst h; exact .inr (.head _)
    · exact .inr (.tail _ h)

theorem kf_len {cap : Int} (h0 : 0 ≤ cap) : ∀ (l : List (List Int)), ((kf cap l).length : Int) ≤ cap ∧ (kf cap l).length ≤ l.length := by
  suffices ∀ (l K : List (List Int)), (K.length : Int) ≤ cap → ((l.foldl (insK cap) K).length : Int) ≤ cap ∧ (l.foldl (insK cap) K).length ≤ K.length + l.length by
    intro l
    have := this l [] (by simpa using h0)
    simpa [kf] using this
  intro l
  induction l with
  | nil => intro K hK; simpa using hK
  | cons x l ih =>
    intro K hK
    have h1 : ((insK cap K x).length : Int) ≤ cap ∧ (insK cap K x).length ≤ K.length + 1 := by
      unfold insK
      split
      · exact ⟨hK, by omega⟩
      · rename_i h
        simp only [not_or] at h
        simp
        omega
    have := ih (insK cap K x) h1.1
    simp only [List.foldl_cons, List.length_cons]
    omega

end Lg
