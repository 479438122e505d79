/- Rows of byte strings: are they few, are two the same? -/
import Derived.Test.YtadpjaolnkliiaaLibIns2
namespace Lg
open Go

def irFew : FnIR := ⟨22, [.t 4],
  (.seq (.ops [⟨some 4, .mov (.c (.v (.bool false))), none⟩])
  (.seq (.seq (.ops [⟨some 6, .mov (.t 0), none⟩,
    ⟨some 7, .len false (.t 6), none⟩,
    ⟨some 8, .mov (.t 1), none⟩,
    ⟨some 9, .bin .gtr false (.t 7) (.t 8), none⟩])
  (.cond (.t 9)
    (.seq (.ops [⟨some 4, .mov (.c (.v (.bool false))), none⟩])
    .ret)
    .skip))
  (.seq (.seq (.ops [⟨some 5, .mov (.c (.v (.int .i64 0))), none⟩])
  (.block 0 (.loop
    (.seq (.seq (.ops [⟨some 10, .mov (.t 5), none⟩,
      ⟨some 11, .mov (.t 0), none⟩,
      ⟨some 12, .len false (.t 11), none⟩,
      ⟨some 13, .bin .lss false (.t 10) (.t 12), none⟩])
    (.cond (.t 13)
      .skip
      (.exit 0)))
    (.seq (.block 1 (.seq (.ops [⟨some 16, .mov (.t 0), none⟩,
      ⟨some 17, .mov (.t 5), none⟩,
      ⟨some 18, .iaddr 1 (.t 16) (.t 17), none⟩,
      ⟨some 19, .load 1 false (.t 18), none⟩,
      ⟨some 20, .len false (.t 19), none⟩,
      ⟨some 21, .bin .gtr false (.t 20) (.c (.v (.int .i64 200))), none⟩])
    (.cond (.t 21)
      (.seq (.ops [⟨some 4, .mov (.c (.v (.bool false))), none⟩])
      .ret)
      .skip)))
    (.ops [⟨some 14, .mov (.t 5), none⟩,
      ⟨some 15, .bin .add false (.t 14) (.c (.v (.int .i64 1))), none⟩,
      ⟨some 5, .mov (.t 15), none⟩]))))))
  (.seq (.ops [⟨some 4, .mov (.c (.v (.bool true))), none⟩])
  .ret))))⟩

def irRows : FnIR := ⟨28, [.t 4],
  (.seq (.ops [⟨some 4, .mov (.c (.v (.bool false))), none⟩])
  (.seq (.seq (.ops [⟨some 6, .mov (.t 0), none⟩,
    ⟨some 7, .len false (.t 6), none⟩,
    ⟨some 8, .mov (.t 1), none⟩,
    ⟨some 9, .len false (.t 8), none⟩,
    ⟨some 10, .bin .neq false (.t 7) (.t 9), none⟩])
  (.cond (.t 10)
    (.seq (.ops [⟨some 4, .mov (.c (.v (.bool false))), none⟩])
    .ret)
    .skip))
  (.seq (.seq (.ops [⟨some 5, .mov (.c (.v (.int .i64 0))), none⟩])
  (.block 0 (.loop
    (.seq (.seq (.ops [⟨some 11, .mov (.t 5), none⟩,
      ⟨some 12, .mov (.t 0), none⟩,
      ⟨some 13, .len false (.t 12), none⟩,
      ⟨some 14, .bin .lss false (.t 11) (.t 13), none⟩])
    (.cond (.t 14)
      .skip
      (.exit 0)))
    (.seq (.block 1 (.seq (.draw [[⟨some 17, .mov (.t 0), none⟩,
        ⟨some 18, .mov (.t 5), none⟩,
        ⟨some 19, .iaddr 1 (.t 17) (.t 18), none⟩,
        ⟨some 20, .load 1 false (.t 19), none⟩,
        ⟨some 21, .b2s (.t 20), none⟩,
        ⟨some 22, .mov (.t 1), none⟩,
        ⟨some 23, .mov (.t 5), none⟩,
        ⟨some 24, .iaddr 1 (.t 22) (.t 23), none⟩,
        ⟨some 25, .load 1 false (.t 24), none⟩,
        ⟨some 26, .b2s (.t 25), none⟩],
      [⟨some 27, .bin .neq false (.t 21) (.t 26), none⟩]])
    (.cond (.t 27)
      (.seq (.ops [⟨some 4, .mov (.c (.v (.bool false))), none⟩])
      .ret)
      .skip)))
    (.ops [⟨some 15, .mov (.t 5), none⟩,
      ⟨some 16, .bin .add false (.t 15) (.c (.v (.int .i64 1))), none⟩,
      ⟨some 5, .mov (.t 16), none⟩]))))))
  (.seq (.ops [⟨some 4, .mov (.c (.v (.bool true))), none⟩])
  .ret))))⟩

/-- Few, and short. -/
def fewK (l : List (List Int)) (most : Int) : Bool := decide ((l.length : Int) ≤ most) && l.all fun k => decide (k.length ≤ 200)

theorem few_gen {P : Program} {f : Nat} (ir : compF P f = some irFew) (c : Bool) (l : List (List Int)) (most : Int) (hl : l.length ≤ 140737488351232) : PC P f [.sl 1 c (l.map bytesL), intL most] (boolL (fewK l most)) := by
  refine pc_of_call (callAt_enter ir (by simp [irFew]) ?_)
  by_cases h0 : (l.length : Int) ≤ most
  · have h0' : ¬ most < l.length := by omega
    simp [irFew, h0']
    refine lwp_loop (fun i : Nat => [(0, .sl 1 c (l.map bytesL)), (5, intL i)]) (fun _ => []) (fun i => l.length - i) (fun i => i ≤ l.length ∧ ∀ k ∈ l.take i, k.length ≤ 200) 0 (by simp) ⟨[], ?_⟩ ?_
    · simp
    · rintro i ⟨hi, hk⟩
      simp
      refine ⟨fun hlt => ?_, fun hge => ?_⟩
      · simp [hlt]
        refine ⟨fun hbig => ?_, fun hsm => ?_⟩
        · simp [fewK]
          intro _
          exact ⟨l[i], List.getElem_mem hlt, by omega⟩
        · refine ⟨i + 1, ⟨by omega, fun k hk' => ?_⟩, by simp <;> omega, [], ?_⟩
          · rw [List.take_succ_eq_append_getElem hlt] at hk'
            rcases List.mem_append.1 hk' with h | h
            · exact hk k h
            · simp at h; subst h; omega
          · simp
            exact wrap_id (by omega) (by omega)
      · have : i = l.length := by omega
        subst this
        rw [List.take_length] at hk
        simp [fewK, h0]
        exact hk
  · have h0' : most < l.length := by omega
    simp [irFew, h0', fewK]
    omega

theorem rows_gen {P : Program} {f : Nat} (ir : compF P f = some irRows) (c c' : Bool) (xs ys : List (List Int)) (hx : ∀ k ∈ xs, ∀ z ∈ k, isByte z) (hy : ∀ k ∈ ys, ∀ z ∈ k, isByte z) (hl : xs.length ≤ 1000000000) :
    PC P f [.sl 1 c (xs.map bytesL), .sl 1 c' (ys.map bytesL)] (boolL (decide (xs = ys))) := by
  refine pc_of_call (callAt_enter ir (by simp [irRows]) ?_)
  simp [irRows]
  refine ⟨fun hne e => hne (by rw [e]), fun hlen => ?_⟩
  refine lwp_loop (fun i : Nat => [(0, .sl 1 c (xs.map bytesL)), (1, .sl 1 c' (ys.map bytesL)), (5, intL i)]) (fun i => []) (fun i => xs.length - i) (fun i => i ≤ xs.length ∧ xs.take i = ys.take i) 0 (by simp) ⟨[], ?_⟩ ?_
  · simp
  · rintro i ⟨hi, he⟩
    simp
    refine ⟨fun hlt => ?_, fun hge => ?_⟩
    · have hlt' : i < ys.length := by omega
      simp [hlt, hlt', bytes_inj (hx _ (List.getElem_mem hlt)) (hy _ (List.getElem_mem hlt'))]
      refine ⟨fun hne e => hne (by simp [e]), fun heq => ⟨i + 1, ⟨by omega, ?_⟩, by simp <;> omega, [], ?_⟩⟩
      · rw [List.take_succ_eq_append_getElem hlt, List.take_succ_eq_append_getElem hlt', he, heq]
      · simp
        exact wrap_id (by omega) (by omega)
    · have h1 : i = xs.length := by omega
      have h2 : i = ys.length := by omega
      have : xs = ys := by
        rw [h1, List.take_length, ← h1, h2, List.take_length] at he
        exact he
      simp [this]

end Lg
