/- One set to be met for ever instead of many: the same nodes are fair. -/
import Derived.Test.YtjdliinnbkfljaaLibFair
namespace Lg
open Go

section
variable {nxA nxB : Nat → List Nat} {oA oB : Nat → Prop} {SA : Nat → Nat → Prop} {SB : Nat → Prop} {K : Nat} {to : Nat → Nat → Nat}

/-- How the graph with one set hangs on the graph with many. -/
structure Deg (nxA nxB : Nat → List Nat) (oA oB : Nat → Prop) (SA : Nat → Nat → Prop) (SB : Nat → Prop) (K : Nat) (to : Nat → Nat → Nat) : Prop where
  pos : 0 < K
  yes : ∀ x c, SA c x → to x c = (c + 1) % K
  no : ∀ x c, ¬ SA c x → to x c = c
  next : ∀ x c y, c < K → (y ∈ nxB (x * K + c) ↔ ∃ z ∈ nxA x, y = z * K + to x c)
  on' : ∀ x c, c < K → (oB (x * K + c) ↔ oA x)
  set : ∀ x c, c < K → (SB (x * K + c) ↔ c = 0 ∧ SA 0 x)

theorem Deg.to_lt (h : Deg nxA nxB oA oB SA SB K to) {x c : Nat} (hc : c < K) : to x c < K := by
  by_cases hs : SA c x
  · rw [h.yes x c hs]; exact Nat.mod_lt _ h.pos
  · rw [h.no x c hs]; exact hc

theorem split_node (K : Nat) (hK : 0 < K) (y : Nat) : ∃ x c, c < K ∧ y = x * K + c := ⟨y / K, y % K, Nat.mod_lt _ hK, by rw [Nat.mul_comm]; exact (Nat.div_add_mod y K).symm⟩

/-- From a state that waits for set c, c not the first one, to the one set: each set from c on is met. -/
theorem Deg.passes (h : Deg nxA nxB oA oB SA SB K to) {Z : Nat → Prop} {y : Nat} (hr : Rch nxB Z SB y) : ∀ {x c k : Nat}, y = x * K + c → c < K → 1 ≤ c → c ≤ k → k < K →
    SA k x ∨ Rch nxA (fun x => ∃ c, c < K ∧ Z (x * K + c)) (SA k) x := by
  induction hr with
  | @one i j hj hz hs =>
    intro x c k hy hc h1 hck hk
    subst hy
    obtain ⟨z, hz', rfl⟩ := (h.next x c j hc).1 hj
    have ht := h.to_lt (x := x) hc
    obtain ⟨t0, -⟩ := (h.set z _ ht).1 hs
    by_cases hsx : SA c x
    · rw [h.yes x c hsx] at t0
      have : c + 1 = K := by
        by_cases e : c + 1 = K
        · exact e
        · rw [Nat.mod_eq_of_lt (by omega)] at t0; omega
      have : k = c := by omega
      subst this
      exact .inl hsx
    · rw [h.no x c hsx] at t0; omega
  | @more i j hj hz _ ih =>
    intro x c k hy hc h1 hck hk
    subst hy
    obtain ⟨z, hz', rfl⟩ := (h.next x c j hc).1 hj
    have ht := h.to_lt (x := x) hc
    have hZz : ∃ c, c < K ∧ Z (z * K + c) := ⟨_, ht, hz⟩
    by_cases hsx : SA c x
    · by_cases e : k = c
      · subst e; exact .inl hsx
      · have hto : to x c = c + 1 := by rw [h.yes x c hsx, Nat.mod_eq_of_lt (by omega)]
        rcases ih (k := k) rfl ht (by omega) (by omega) hk with h' | h'
        · exact .inr (.one hz' hZz h')
        · exact .inr (.more hz' hZz h')
    · have hto : to x c = c := h.no x c hsx
      rcases ih (k := k) rfl ht (by omega) (by omega) hk with h' | h'
      · exact .inr (.one hz' hZz h')
      · exact .inr (.more hz' hZz h')

/-- Fair nodes of the graph with one set come of fair ones. -/
theorem Deg.down (h : Deg nxA nxB oA oB SA SB K to) {Z : Nat → Prop} (hZ : ∀ i, Z i → oB i ∧ Rch nxB Z SB i) : ∀ x, (∃ c, c < K ∧ Z (x * K + c)) → oA x ∧ ∀ k, k < K → Rch nxA (fun x => ∃ c, c < K ∧ Z (x * K + c)) (SA k) x := by
  rintro x ⟨c, hc, hx⟩
  refine ⟨(h.on' x c hc).1 (hZ _ hx).1, fun k hk => ?_⟩
  -- from a node of the one set all sets are met
  have acc : ∀ x, SA 0 x → Z (x * K + 0) → 1 ≤ k → Rch nxA (fun x => ∃ c, c < K ∧ Z (x * K + c)) (SA k) x := by
    intro x hs hz hk1
    have hr := (hZ _ hz).2
    cases hr with
    | @one _ j hj hzj hsj =>
      obtain ⟨z, -, rfl⟩ := (h.next x 0 j h.pos).1 hj
      obtain ⟨t0, -⟩ := (h.set z _ (h.to_lt h.pos)).1 hsj
      rw [h.yes x 0 hs, Nat.mod_eq_of_lt (by omega)] at t0
      omega
    | @more _ j hj hzj hrj =>
      obtain ⟨z, hz', rfl⟩ := (h.next x 0 j h.pos).1 hj
      have hto : to x 0 = 1 := by rw [h.yes x 0 hs, Nat.mod_eq_of_lt (by omega)]
      have hlt : to x 0 < K := h.to_lt h.pos
      rcases h.passes hrj (x := z) (c := to x 0) (k := k) rfl hlt (by omega) (by omega) hk with h' | h'
      · exact .one hz' ⟨_, hlt, hzj⟩ h'
      · exact .more hz' ⟨_, hlt, hzj⟩ h'
  have hr := (hZ _ hx).2
  clear hx
  generalize hy : x * K + c = y at hr
  induction hr generalizing x c with
  | @one i j hj hz hs =>
    subst hy
    obtain ⟨z, hz', rfl⟩ := (h.next x c j hc).1 hj
    have ht := h.to_lt (x := x) hc
    obtain ⟨t0, hs0⟩ := (h.set z _ ht).1 hs
    by_cases hk0 : k = 0
    · subst hk0
      exact .one hz' ⟨_, ht, hz⟩ hs0
    · refine .more hz' ⟨_, ht, hz⟩ (acc z hs0 ?_ (by omega))
      rw [t0] at hz; exact hz
  | @more i j hj hz _ ih =>
    subst hy
    obtain ⟨z, hz', rfl⟩ := (h.next x c j hc).1 hj
    have ht := h.to_lt (x := x) hc
    exact .more hz' ⟨_, ht, hz⟩ (ih z _ ht rfl)

/-- Fair nodes are fair with whatever set is waited for. -/
theorem Deg.up (h : Deg nxA nxB oA oB SA SB K to) {Z : Nat → Prop} (hZ : ∀ i, Z i → oA i ∧ ∀ k, k < K → Rch nxA Z (SA k) i) : ∀ y, Z (y / K) → oB y ∧ Rch nxB (fun y => Z (y / K)) SB y := by
  have hdiv : ∀ x c, c < K → (x * K + c) / K = x := fun x c hc => by rw [Nat.mul_comm, Nat.mul_add_div h.pos, Nat.div_eq_of_lt hc]; rfl
  -- a step
  have step : ∀ x c z, c < K → z ∈ nxA x → z * K + to x c ∈ nxB (x * K + c) := fun x c z hc hz => (h.next x c _ hc).2 ⟨z, hz, rfl⟩
  have zz : ∀ z c, c < K → Z z → Z ((z * K + c) / K) := fun z c hc hz => by rw [hdiv z c hc]; exact hz
  -- whatever is fair leads somewhere fair
  have lead : ∀ x, Z x → ∃ z ∈ nxA x, Z z := fun x hx => by
    cases (hZ x hx).2 0 h.pos with
    | one hj hz _ => exact ⟨_, hj, hz⟩
    | more hj hz _ => exact ⟨_, hj, hz⟩
  -- waiting for the first set
  have a0 : ∀ x, Z x → SA 0 x ∨ Rch nxB (fun y => Z (y / K)) SB (x * K + 0) := by
    intro x hx
    have hr := (hZ x hx).2 0 h.pos
    clear hx
    induction hr with
    | @one i j hj hz hs =>
      by_cases hsi : SA 0 i
      · exact .inl hsi
      · refine .inr ?_
        have := step i 0 j h.pos hj
        rw [h.no i 0 hsi] at this
        exact .one this (zz j 0 h.pos hz) ((h.set j 0 h.pos).2 ⟨rfl, hs⟩)
    | @more i j hj hz _ ih =>
      by_cases hsi : SA 0 i
      · exact .inl hsi
      · refine .inr ?_
        have := step i 0 j h.pos hj
        rw [h.no i 0 hsi] at this
        rcases ih with h' | h'
        · exact .one this (zz j 0 h.pos hz) ((h.set j 0 h.pos).2 ⟨rfl, h'⟩)
        · exact .more this (zz j 0 h.pos hz) h'
  -- waiting for another one: by how many are still to come
  have ac : ∀ d c, c + d + 1 = K → 1 ≤ c → ∀ x, Z x → Rch nxB (fun y => Z (y / K)) SB (x * K + c) := by
    intro d
    induction d with
    | zero =>
      intro c hcK hc1
      have hc : c < K := by omega
      have mem : ∀ x, Z x → SA c x → Rch nxB (fun y => Z (y / K)) SB (x * K + c) := by
        intro x hx hs
        obtain ⟨z, hz, hZz⟩ := lead x hx
        have hst := step x c z hc hz
        have hto : to x c = 0 := by rw [h.yes x c hs, show c + 1 = K by omega, Nat.mod_self]
        rw [hto] at hst
        rcases a0 z hZz with h' | h'
        · exact .one hst (zz z 0 h.pos hZz) ((h.set z 0 h.pos).2 ⟨rfl, h'⟩)
        · exact .more hst (zz z 0 h.pos hZz) h'
      intro x hx
      have hr := (hZ x hx).2 c hc
      induction hr with
      | @one i j hj hz hs =>
        by_cases hsi : SA c i
        · exact mem i hx hsi
        · have := step i c j hc hj
          rw [h.no i c hsi] at this
          exact .more this (zz j c hc hz) (mem j hz hs)
      | @more i j hj hz _ ih =>
        by_cases hsi : SA c i
        · exact mem i hx hsi
        · have := step i c j hc hj
          rw [h.no i c hsi] at this
          exact .more this (zz j c hc hz) (ih hz)
    | succ d ihd =>
      intro c hcK hc1
      have hc : c < K := by omega
      have mem : ∀ x, Z x → SA c x → Rch nxB (fun y => Z (y / K)) SB (x * K + c) := by
        intro x hx hs
        obtain ⟨z, hz, hZz⟩ := lead x hx
        have hst := step x c z hc hz
        have hto : to x c = c + 1 := by rw [h.yes x c hs, Nat.mod_eq_of_lt (by omega)]
        rw [hto] at hst
        exact .more hst (zz z (c + 1) (by omega) hZz) (ihd (c + 1) (by omega) (by omega) z hZz)
      intro x hx
      have hr := (hZ x hx).2 c hc
      induction hr with
      | @one i j hj hz hs =>
        by_cases hsi : SA c i
        · exact mem i hx hsi
        · have := step i c j hc hj
          rw [h.no i c hsi] at this
          exact .more this (zz j c hc hz) (mem j hz hs)
      | @more i j hj hz _ ih =>
        by_cases hsi : SA c i
        · exact mem i hx hsi
        · have := step i c j hc hj
          rw [h.no i c hsi] at this
          exact .more this (zz j c hc hz) (ih hz)
  intro y hy
  obtain ⟨x, c, hc, rfl⟩ := split_node K h.pos y
  rw [hdiv x c hc] at hy
  refine ⟨(h.on' x c hc).2 (hZ x hy).1, ?_⟩
  by_cases hc0 : c = 0
  · subst hc0
    by_cases hs : SA 0 x
    · obtain ⟨z, hz, hZz⟩ := lead x hy
      have hst := step x 0 z h.pos hz
      by_cases hK1 : K = 1
      · have hto : to x 0 = 0 := by rw [h.yes x 0 hs, hK1]
        rw [hto] at hst
        rcases a0 z hZz with h' | h'
        · exact .one hst (zz z 0 h.pos hZz) ((h.set z 0 h.pos).2 ⟨rfl, h'⟩)
        · exact .more hst (zz z 0 h.pos hZz) h'
      · have hK := h.pos
        have hto : to x 0 = 1 := by rw [h.yes x 0 hs, Nat.mod_eq_of_lt (by omega)]
        rw [hto] at hst
        exact .more hst (zz z 1 (by omega) hZz) (ac (K - 2) 1 (by omega) (by omega) z hZz)
    · rcases a0 x hy with h' | h'
      · exact absurd h' hs
      · exact h'
  · exact ac (K - c - 1) c (by omega) (by omega) x hy

end
end Lg
