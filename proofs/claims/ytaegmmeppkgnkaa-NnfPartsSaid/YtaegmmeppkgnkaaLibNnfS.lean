/- Same trees; trees that are formulas. -/
import Derived.Test.YtaegmmeppkgnkaaLibNnfR
namespace Lg
open Go

def irSame (self : Nat) : FnIR := ⟨48, [.t 4],
  (.seq (.ops [⟨some 2, .box (.t 0), none⟩,
    ⟨some 3, .box (.t 1), none⟩,
    ⟨some 4, .mov (.c (.v (.bool false))), none⟩])
  (.seq (.seq (.ops [⟨some 7, .faddr 0 (.t 2), none⟩,
    ⟨some 8, .load 1 false (.t 7), none⟩,
    ⟨some 9, .faddr 0 (.t 3), none⟩,
    ⟨some 10, .load 1 false (.t 9), none⟩,
    ⟨some 11, .bin .neq false (.t 8) (.t 10), none⟩,
    ⟨some 12, .mov (.t 11), none⟩,
    ⟨some 13, .faddr 1 (.t 2), some (12, false)⟩,
    ⟨some 14, .load 1 false (.t 13), some (12, false)⟩,
    ⟨some 15, .faddr 1 (.t 3), some (12, false)⟩,
    ⟨some 16, .load 1 false (.t 15), some (12, false)⟩,
    ⟨some 17, .bin .neq false (.t 14) (.t 16), some (12, false)⟩,
    ⟨some 18, .pick (.t 12) (.c (.v (.bool true))) (.t 17), none⟩,
    ⟨some 19, .mov (.t 18), none⟩,
    ⟨some 20, .faddr 3 (.t 2), some (19, false)⟩,
    ⟨some 21, .load 1 false (.t 20), some (19, false)⟩,
    ⟨some 22, .len false (.t 21), some (19, false)⟩,
    ⟨some 23, .faddr 3 (.t 3), some (19, false)⟩,
    ⟨some 24, .load 1 false (.t 23), some (19, false)⟩,
    ⟨some 25, .len false (.t 24), some (19, false)⟩,
    ⟨some 26, .bin .neq false (.t 22) (.t 25), some (19, false)⟩,
    ⟨some 27, .pick (.t 19) (.c (.v (.bool true))) (.t 26), none⟩])
  (.cond (.t 27)
    (.seq (.ops [⟨some 4, .mov (.c (.v (.bool false))), none⟩])
    .ret)
    .skip))
  (.seq (.seq (.ops [⟨some 5, .mov (.c (.v (.int .i64 0))), none⟩])
  (.block 0 (.loop
    (.seq (.seq (.ops [⟨some 28, .mov (.t 5), none⟩,
      ⟨some 29, .faddr 3 (.t 2), none⟩,
      ⟨some 30, .load 1 false (.t 29), none⟩,
      ⟨some 31, .len false (.t 30), none⟩,
      ⟨some 32, .bin .lss false (.t 28) (.t 31), none⟩])
    (.cond (.t 32)
      .skip
      (.exit 0)))
    (.seq (.block 1 (.seq (.draw [[⟨some 35, .faddr 3 (.t 2), none⟩,
        ⟨some 36, .load 1 false (.t 35), none⟩,
        ⟨some 37, .mov (.t 5), none⟩,
        ⟨some 38, .iaddr 4 (.t 36) (.t 37), none⟩,
        ⟨some 39, .load 4 true (.t 38), none⟩,
        ⟨some 40, .faddr 3 (.t 3), none⟩,
        ⟨some 41, .load 1 false (.t 40), none⟩,
        ⟨some 42, .mov (.t 5), none⟩,
        ⟨some 43, .iaddr 4 (.t 41) (.t 42), none⟩,
        ⟨some 44, .load 4 true (.t 43), none⟩],
      [⟨some 45, .call self [(.t 39), (.t 44)], none⟩],
      [⟨some 6, .mov (.t 45), none⟩]])
    (.seq (.ops [⟨some 46, .mov (.t 6), none⟩,
      ⟨some 47, .un .not (.t 46), none⟩])
    (.cond (.t 47)
      (.seq (.ops [⟨some 4, .mov (.c (.v (.bool false))), none⟩])
      .ret)
      .skip))))
    (.ops [⟨some 33, .mov (.t 5), none⟩,
      ⟨some 34, .bin .add false (.t 33) (.c (.v (.int .i64 1))), none⟩,
      ⟨some 5, .mov (.t 34), none⟩]))))))
  (.seq (.ops [⟨some 4, .mov (.c (.v (.bool true))), none⟩])
  .ret))))⟩

def irTyped (ma ty : Nat) : FnIR := ⟨26, [.t 4],
  (.seq (.ops [⟨some 2, .box (.t 0), none⟩,
    ⟨some 4, .mov (.c (.v (.bool false))), none⟩])
  (.seq (.ops [⟨some 9, .load 4 true (.t 2), none⟩,
    ⟨some 10, .mov (.t 1), none⟩,
    ⟨some 11, .call ma [(.t 9), (.t 10)], none⟩,
    ⟨some 5, .mov (.t 11), none⟩])
  (.seq (.seq (.ops [⟨some 12, .mov (.t 5), none⟩,
    ⟨some 13, .un .not (.t 12), none⟩])
  (.cond (.t 13)
    (.seq (.ops [⟨some 4, .mov (.c (.v (.bool false))), none⟩])
    .ret)
    .skip))
  (.seq (.ops [⟨some 15, .load 4 true (.t 2), none⟩,
    ⟨some 16, .call ty [(.t 15)], none⟩,
    ⟨some 14, .mov (.t 16), none⟩,
    ⟨some 17, .extract (.t 14) 0, none⟩,
    ⟨some 18, .extract (.t 14) 1, none⟩,
    ⟨some 19, .extract (.t 14) 2, none⟩,
    ⟨some 6, .mov (.t 17), none⟩,
    ⟨some 7, .mov (.t 18), none⟩,
    ⟨some 8, .mov (.t 19), none⟩])
  (.seq (.ops [⟨some 20, .mov (.t 7), none⟩,
    ⟨some 21, .bin .eql false (.t 20) (.c (.v (.int .i64 0))), none⟩,
    ⟨some 22, .mov (.t 21), none⟩,
    ⟨some 23, .mov (.t 6), some (22, true)⟩,
    ⟨some 24, .bin .neq false (.t 23) (.c (.v (.int .i64 1))), some (22, true)⟩,
    ⟨some 25, .pick (.t 22) (.t 24) (.c (.v (.bool false))), none⟩,
    ⟨some 4, .mov (.t 25), none⟩])
  .ret)))))⟩

theorem same_gen {P : Program} {f : Nat} (ir : compF P f = some (irSame f)) : ∀ t : T, t.Ok → ∀ u : T, u.Ok → PC P f [t.toL, u.toL] (boolL (t.same u)) := by
  intro t
  refine T.ind (M := fun t => t.Ok → ∀ u : T, u.Ok → PC P f [t.toL, u.toL] (boolL (t.same u))) ?_ t
  intro op n pl l ih hok u huk
  have hlen := hok.len
  obtain ⟨op', n', pl', l'⟩ := u
  have hlen' := huk.len
  rw [T.same_mk, toL_mk, toL_mk]
  refine pc_of_call (callAt_enter ir (by simp [irSame]) ?_)
  simp only [T.op, T.num, T.l]
  by_cases e2 : op = op'
  · by_cases e3 : n = n'
    · by_cases e4 : l.length = l'.length
      · simp [irSame, e2, e3, e4]
        refine lwp_loop (fun i : Nat => [(2, .ptr 0 0), (3, .ptr 1 0), (5, intL i)])
          (fun _ => [some [intL op', intL n', intL pl, .sl 4 false (l.map T.toL)], some [intL op', intL n', intL pl', .sl 4 false (l'.map T.toL)]]) (fun i => l.length - i) (fun i => i ≤ l.length ∧ ∀ p ∈ (l.zip l').take i, p.1.same p.2 = true) 0 (by simp) ⟨[0, 1], ?_⟩ ?_
        · simp
        · rintro i ⟨hi, hall⟩
          simp
          refine ⟨fun hlt => ?_, fun hge => ?_⟩
          · have hlt' : i < l'.length := by omega
            have hz : i < (l.zip l').length := by simp; omega
            simp [hlt, hlt']
            refine callT_plain (ih l[i] (List.getElem_mem hlt) (hok.kid _ (List.getElem_mem hlt)) l'[i] (huk.kid _ (List.getElem_mem hlt'))) rfl (by simp) ?_
            simp
            cases hm : l[i].same l'[i]
            · simp
              exact ⟨l[i], l'[i], by have := List.getElem_mem hz; simpa using this, hm⟩
            · simp
              refine ⟨i + 1, ⟨by omega, fun p q hp => ?_⟩, by simp <;> omega, [0, 1], ?_⟩
              · rw [List.take_succ_eq_append_getElem hz] at hp
                rcases List.mem_append.1 hp with h | h
                · exact hall (p, q) h
                · simp at h; rw [h.1, h.2]; exact hm
              · simp
                exact wrap_id (by omega) (by omega)
          · have hil : i = l.length := by omega
            rw [List.take_of_length_le (by simp; omega)] at hall
            exact fun a b hab => hall (a, b) hab
      · have e5 : ¬ (l.length : Int) = l'.length := by omega
        simp [irSame, e2, e3, e4, e5]
    · simp [irSame, e2, e3]
  · simp [irSame, e2]


theorem same_self : ∀ t : T, t.same t = true := by
  intro t
  refine T.ind (M := fun t => t.same t = true) ?_ t
  intro op n pl l ih
  rw [T.same_mk]
  simp only [T.op, T.num, T.l, and_self, decide_true, Bool.true_and]
  refine List.all_eq_true.2 fun p hp => ?_
  have : ∀ (l : List T) (p : T × T), p ∈ l.zip l → p.1 = p.2 ∧ p.1 ∈ l := by
    intro l
    induction l with
    | nil => intro p hp; simp at hp
    | cons x l ihl =>
      intro p hp
      simp only [List.zip_cons_cons, List.mem_cons] at hp
      rcases hp with rfl | hp
      · exact ⟨rfl, by simp⟩
      · exact ⟨(ihl p hp).1, by simp [(ihl p hp).2]⟩
  obtain ⟨h1, h2⟩ := this l p hp
  rw [← h1]
  exact ih p.1 h2

theorem typed_gen {P : Program} {f ma ty : Nat} (ir : compF P f = some (irTyped ma ty)) (ima : compF P ma = some (irMay ma)) (ity : compF P ty = some (irType ty)) (t : T) (hok : t.Ok) (vars : Int) : PC P f [t.toL, intL vars] (boolL (t.may vars && decide (t.type.2.1 = 0) && decide (t.type.1 ≠ 1))) := by
  refine pc_of_call (callAt_enter ir (by simp [irTyped]) ?_)
  simp [irTyped, topOK_toL, toL_cells_length, toL_agg]
  refine callT_plain (may_gen ima t hok vars) rfl (by simp [mapO, reso_toL]) ?_
  cases hm : t.may vars
  · simp
  · simp [toL_cells_length, toL_agg]
    refine callT_plain (type_gen ity t hok) rfl (by simp [mapO, reso_toL]) ?_
    by_cases h1 : t.type.2.1 = 0
    · by_cases h2 : t.type.1 = 1
      · simp [h1, h2]
      · simp [h1, h2]
    · simp [h1]

end Lg
