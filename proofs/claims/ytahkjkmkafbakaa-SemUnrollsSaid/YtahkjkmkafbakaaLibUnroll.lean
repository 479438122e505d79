/- Words written longer: what a region whose order is open makes. -/
import Derived.Test.YtahkjkmkafbakaaLgX
import Derived.Test.YtahkjkmkafbakaaLibSemG
import Derived.Test.YtahkjkmkafbakaaLibSemP
namespace Lg
open Go

/-- Behind a region: some rows written no more. -/
def enterNF (k : Nat) {ι : Type} (mk : ι → Env) (hp : ι → Heap) (inv : ι → Prop) (E : Env) (H : Heap) : Prop := ∃ x, inv x ∧ ∃ fz, weak k (frzE H fz E) (frzH H fz 0 H) (mk x) (hp x)

theorem lwp_drawNF {P : Program} {k : Nat} {Q : X → Env → Heap → Prop} {E : Env} {H : Heap} {pu : List O} {t : OT} {ι : Type} (mk : ι → Env) (hp : ι → Heap) (inv : ι → Prop)
    (reads : lops P pu (fun E' H' => H' = H ∧ (∀ o ∈ pu, stableO o E' H') ∧ lot P (fun E2 H2 => ∀ o ∈ pu, stableO o E2 H2) t (enterNF k mk hp inv) E' H') E H)
    (next : ∀ x, inv x → Q .normal (mk x) (hp x)) : lwp P k (.drawN pu t) Q E H :=
  lops_mono (fun _ _ ⟨h1, h2, h3⟩ => ⟨h1, h2, fun E2 H2 => ∃ x, inv x ∧ E2 = mk x ∧ H2 = hp x,
    lot_mono (fun _ _ ⟨x, hx, fz, hw⟩ => ⟨_, _, .inr (.inl ⟨fz, hw⟩), x, hx, rfl, rfl⟩) h3, fun _ _ ⟨x, hx, e1, e2⟩ => by subst e1; subst e2; exact next x hx⟩) reads

def irU5 : IR := (.drawN [⟨some 39, .faddr 0 (.t 3), none⟩,
    ⟨some 40, .load 1 false (.t 39), none⟩,
    ⟨some 42, .faddr 0 (.t 3), none⟩,
    ⟨some 43, .load 1 false (.t 42), none⟩,
    ⟨some 44, .faddr 1 (.t 3), none⟩,
    ⟨some 45, .load 1 false (.t 44), none⟩,
    ⟨some 46, .slice 1 (.t 43) (some (.t 45)) none none, none⟩,
    ⟨some 48, .mov (.t 6), none⟩]
    (.alt ⟨some 38, .bslice 1 [(.v (.slice none 0 0))] 0 [], none⟩ (.alt ⟨some 41, .append 1 24 [(.v (.slice none 0 0))] (.t 38) (.t 40), none⟩ (.alt ⟨some 47, .append 1 24 [(.v (.slice none 0 0))] (.t 41) (.t 46), none⟩ (.alt ⟨some 49, .build [(.v (.slice none 0 0)), (.v (.int .i64 0))] [(0, 1, (.t 47)), (1, 1, (.t 48))], none⟩ (.alt ⟨some 7, .alloc (.agg [(.v (.slice none 0 0)), (.v (.int .i64 0))]), none⟩ (.alt ⟨none, .store 2 (.t 7) (.t 49), none⟩ .done
    .none)
    .none)
    (.alt ⟨some 7, .alloc (.agg [(.v (.slice none 0 0)), (.v (.int .i64 0))]), none⟩ (.alt ⟨some 49, .build [(.v (.slice none 0 0)), (.v (.int .i64 0))] [(0, 1, (.t 47)), (1, 1, (.t 48))], none⟩ (.alt ⟨none, .store 2 (.t 7) (.t 49), none⟩ .done
    .none)
    .none)
    .none))
    (.alt ⟨some 7, .alloc (.agg [(.v (.slice none 0 0)), (.v (.int .i64 0))]), none⟩ (.alt ⟨some 47, .append 1 24 [(.v (.slice none 0 0))] (.t 41) (.t 46), none⟩ (.alt ⟨some 49, .build [(.v (.slice none 0 0)), (.v (.int .i64 0))] [(0, 1, (.t 47)), (1, 1, (.t 48))], none⟩ (.alt ⟨none, .store 2 (.t 7) (.t 49), none⟩ .done
    .none)
    .none)
    .none)
    .none))
    (.alt ⟨some 7, .alloc (.agg [(.v (.slice none 0 0)), (.v (.int .i64 0))]), none⟩ (.alt ⟨some 41, .append 1 24 [(.v (.slice none 0 0))] (.t 38) (.t 40), none⟩ (.alt ⟨some 47, .append 1 24 [(.v (.slice none 0 0))] (.t 41) (.t 46), none⟩ (.alt ⟨some 49, .build [(.v (.slice none 0 0)), (.v (.int .i64 0))] [(0, 1, (.t 47)), (1, 1, (.t 48))], none⟩ (.alt ⟨none, .store 2 (.t 7) (.t 49), none⟩ .done
    .none)
    .none)
    .none)
    .none)
    .none))
    (.alt ⟨some 7, .alloc (.agg [(.v (.slice none 0 0)), (.v (.int .i64 0))]), none⟩ (.alt ⟨some 38, .bslice 1 [(.v (.slice none 0 0))] 0 [], none⟩ (.alt ⟨some 41, .append 1 24 [(.v (.slice none 0 0))] (.t 38) (.t 40), none⟩ (.alt ⟨some 47, .append 1 24 [(.v (.slice none 0 0))] (.t 41) (.t 46), none⟩ (.alt ⟨some 49, .build [(.v (.slice none 0 0)), (.v (.int .i64 0))] [(0, 1, (.t 47)), (1, 1, (.t 48))], none⟩ (.alt ⟨none, .store 2 (.t 7) (.t 49), none⟩ .done
    .none)
    .none)
    .none)
    .none)
    .none)
    .none)))

def irU6 : IR := (.drawN [⟨some 51, .faddr 0 (.t 3), none⟩,
    ⟨some 52, .load 1 false (.t 51), none⟩,
    ⟨some 54, .faddr 0 (.t 3), none⟩,
    ⟨some 55, .load 1 false (.t 54), none⟩,
    ⟨some 56, .faddr 1 (.t 3), none⟩,
    ⟨some 57, .load 1 false (.t 56), none⟩,
    ⟨some 58, .iaddr 1 (.t 55) (.t 57), none⟩,
    ⟨some 59, .load 1 false (.t 58), none⟩,
    ⟨some 62, .faddr 1 (.t 3), none⟩,
    ⟨some 63, .load 1 false (.t 62), none⟩,
    ⟨some 64, .bin .add false (.t 63) (.c (.v (.int .i64 1))), none⟩]
    (.alt ⟨some 50, .bslice 1 [(.v (.slice none 0 0))] 0 [], none⟩ (.alt ⟨some 53, .append 1 24 [(.v (.slice none 0 0))] (.t 50) (.t 52), none⟩ (.alt ⟨some 60, .bslice 1 [(.v (.slice none 0 0))] 1 [(0, 1, (.t 59))], none⟩ (.alt ⟨some 61, .append 1 24 [(.v (.slice none 0 0))] (.t 53) (.t 60), none⟩ (.alt ⟨some 65, .build [(.v (.slice none 0 0)), (.v (.int .i64 0))] [(0, 1, (.t 61)), (1, 1, (.t 64))], none⟩ (.alt ⟨some 8, .alloc (.agg [(.v (.slice none 0 0)), (.v (.int .i64 0))]), none⟩ (.alt ⟨none, .store 2 (.t 8) (.t 65), none⟩ .done
    .none)
    .none)
    (.alt ⟨some 8, .alloc (.agg [(.v (.slice none 0 0)), (.v (.int .i64 0))]), none⟩ (.alt ⟨some 65, .build [(.v (.slice none 0 0)), (.v (.int .i64 0))] [(0, 1, (.t 61)), (1, 1, (.t 64))], none⟩ (.alt ⟨none, .store 2 (.t 8) (.t 65), none⟩ .done
    .none)
    .none)
    .none))
    (.alt ⟨some 8, .alloc (.agg [(.v (.slice none 0 0)), (.v (.int .i64 0))]), none⟩ (.alt ⟨some 61, .append 1 24 [(.v (.slice none 0 0))] (.t 53) (.t 60), none⟩ (.alt ⟨some 65, .build [(.v (.slice none 0 0)), (.v (.int .i64 0))] [(0, 1, (.t 61)), (1, 1, (.t 64))], none⟩ (.alt ⟨none, .store 2 (.t 8) (.t 65), none⟩ .done
    .none)
    .none)
    .none)
    .none))
    (.alt ⟨some 8, .alloc (.agg [(.v (.slice none 0 0)), (.v (.int .i64 0))]), none⟩ (.alt ⟨some 60, .bslice 1 [(.v (.slice none 0 0))] 1 [(0, 1, (.t 59))], none⟩ (.alt ⟨some 61, .append 1 24 [(.v (.slice none 0 0))] (.t 53) (.t 60), none⟩ (.alt ⟨some 65, .build [(.v (.slice none 0 0)), (.v (.int .i64 0))] [(0, 1, (.t 61)), (1, 1, (.t 64))], none⟩ (.alt ⟨none, .store 2 (.t 8) (.t 65), none⟩ .done
    .none)
    .none)
    .none)
    .none)
    .none))
    (.alt ⟨some 60, .bslice 1 [(.v (.slice none 0 0))] 1 [(0, 1, (.t 59))], none⟩ (.alt ⟨some 53, .append 1 24 [(.v (.slice none 0 0))] (.t 50) (.t 52), none⟩ (.alt ⟨some 61, .append 1 24 [(.v (.slice none 0 0))] (.t 53) (.t 60), none⟩ (.alt ⟨some 65, .build [(.v (.slice none 0 0)), (.v (.int .i64 0))] [(0, 1, (.t 61)), (1, 1, (.t 64))], none⟩ (.alt ⟨some 8, .alloc (.agg [(.v (.slice none 0 0)), (.v (.int .i64 0))]), none⟩ (.alt ⟨none, .store 2 (.t 8) (.t 65), none⟩ .done
    .none)
    .none)
    (.alt ⟨some 8, .alloc (.agg [(.v (.slice none 0 0)), (.v (.int .i64 0))]), none⟩ (.alt ⟨some 65, .build [(.v (.slice none 0 0)), (.v (.int .i64 0))] [(0, 1, (.t 61)), (1, 1, (.t 64))], none⟩ (.alt ⟨none, .store 2 (.t 8) (.t 65), none⟩ .done
    .none)
    .none)
    .none))
    (.alt ⟨some 8, .alloc (.agg [(.v (.slice none 0 0)), (.v (.int .i64 0))]), none⟩ (.alt ⟨some 61, .append 1 24 [(.v (.slice none 0 0))] (.t 53) (.t 60), none⟩ (.alt ⟨some 65, .build [(.v (.slice none 0 0)), (.v (.int .i64 0))] [(0, 1, (.t 61)), (1, 1, (.t 64))], none⟩ (.alt ⟨none, .store 2 (.t 8) (.t 65), none⟩ .done
    .none)
    .none)
    .none)
    .none))
    (.alt ⟨some 8, .alloc (.agg [(.v (.slice none 0 0)), (.v (.int .i64 0))]), none⟩ (.alt ⟨some 53, .append 1 24 [(.v (.slice none 0 0))] (.t 50) (.t 52), none⟩ (.alt ⟨some 61, .append 1 24 [(.v (.slice none 0 0))] (.t 53) (.t 60), none⟩ (.alt ⟨some 65, .build [(.v (.slice none 0 0)), (.v (.int .i64 0))] [(0, 1, (.t 61)), (1, 1, (.t 64))], none⟩ (.alt ⟨none, .store 2 (.t 8) (.t 65), none⟩ .done
    .none)
    .none)
    .none)
    .none)
    .none))
    (.alt ⟨some 8, .alloc (.agg [(.v (.slice none 0 0)), (.v (.int .i64 0))]), none⟩ (.alt ⟨some 53, .append 1 24 [(.v (.slice none 0 0))] (.t 50) (.t 52), none⟩ (.alt ⟨some 60, .bslice 1 [(.v (.slice none 0 0))] 1 [(0, 1, (.t 59))], none⟩ (.alt ⟨some 61, .append 1 24 [(.v (.slice none 0 0))] (.t 53) (.t 60), none⟩ (.alt ⟨some 65, .build [(.v (.slice none 0 0)), (.v (.int .i64 0))] [(0, 1, (.t 61)), (1, 1, (.t 64))], none⟩ (.alt ⟨none, .store 2 (.t 8) (.t 65), none⟩ .done
    .none)
    .none)
    .none)
    .none)
    (.alt ⟨some 60, .bslice 1 [(.v (.slice none 0 0))] 1 [(0, 1, (.t 59))], none⟩ (.alt ⟨some 53, .append 1 24 [(.v (.slice none 0 0))] (.t 50) (.t 52), none⟩ (.alt ⟨some 61, .append 1 24 [(.v (.slice none 0 0))] (.t 53) (.t 60), none⟩ (.alt ⟨some 65, .build [(.v (.slice none 0 0)), (.v (.int .i64 0))] [(0, 1, (.t 61)), (1, 1, (.t 64))], none⟩ (.alt ⟨none, .store 2 (.t 8) (.t 65), none⟩ .done
    .none)
    .none)
    .none)
    .none)
    .none))
    .none)))
    (.alt ⟨some 60, .bslice 1 [(.v (.slice none 0 0))] 1 [(0, 1, (.t 59))], none⟩ (.alt ⟨some 50, .bslice 1 [(.v (.slice none 0 0))] 0 [], none⟩ (.alt ⟨some 53, .append 1 24 [(.v (.slice none 0 0))] (.t 50) (.t 52), none⟩ (.alt ⟨some 61, .append 1 24 [(.v (.slice none 0 0))] (.t 53) (.t 60), none⟩ (.alt ⟨some 65, .build [(.v (.slice none 0 0)), (.v (.int .i64 0))] [(0, 1, (.t 61)), (1, 1, (.t 64))], none⟩ (.alt ⟨some 8, .alloc (.agg [(.v (.slice none 0 0)), (.v (.int .i64 0))]), none⟩ (.alt ⟨none, .store 2 (.t 8) (.t 65), none⟩ .done
    .none)
    .none)
    (.alt ⟨some 8, .alloc (.agg [(.v (.slice none 0 0)), (.v (.int .i64 0))]), none⟩ (.alt ⟨some 65, .build [(.v (.slice none 0 0)), (.v (.int .i64 0))] [(0, 1, (.t 61)), (1, 1, (.t 64))], none⟩ (.alt ⟨none, .store 2 (.t 8) (.t 65), none⟩ .done
    .none)
    .none)
    .none))
    (.alt ⟨some 8, .alloc (.agg [(.v (.slice none 0 0)), (.v (.int .i64 0))]), none⟩ (.alt ⟨some 61, .append 1 24 [(.v (.slice none 0 0))] (.t 53) (.t 60), none⟩ (.alt ⟨some 65, .build [(.v (.slice none 0 0)), (.v (.int .i64 0))] [(0, 1, (.t 61)), (1, 1, (.t 64))], none⟩ (.alt ⟨none, .store 2 (.t 8) (.t 65), none⟩ .done
    .none)
    .none)
    .none)
    .none))
    (.alt ⟨some 8, .alloc (.agg [(.v (.slice none 0 0)), (.v (.int .i64 0))]), none⟩ (.alt ⟨some 53, .append 1 24 [(.v (.slice none 0 0))] (.t 50) (.t 52), none⟩ (.alt ⟨some 61, .append 1 24 [(.v (.slice none 0 0))] (.t 53) (.t 60), none⟩ (.alt ⟨some 65, .build [(.v (.slice none 0 0)), (.v (.int .i64 0))] [(0, 1, (.t 61)), (1, 1, (.t 64))], none⟩ (.alt ⟨none, .store 2 (.t 8) (.t 65), none⟩ .done
    .none)
    .none)
    .none)
    .none)
    .none))
    (.alt ⟨some 8, .alloc (.agg [(.v (.slice none 0 0)), (.v (.int .i64 0))]), none⟩ (.alt ⟨some 50, .bslice 1 [(.v (.slice none 0 0))] 0 [], none⟩ (.alt ⟨some 53, .append 1 24 [(.v (.slice none 0 0))] (.t 50) (.t 52), none⟩ (.alt ⟨some 61, .append 1 24 [(.v (.slice none 0 0))] (.t 53) (.t 60), none⟩ (.alt ⟨some 65, .build [(.v (.slice none 0 0)), (.v (.int .i64 0))] [(0, 1, (.t 61)), (1, 1, (.t 64))], none⟩ (.alt ⟨none, .store 2 (.t 8) (.t 65), none⟩ .done
    .none)
    .none)
    .none)
    .none)
    .none)
    .none))
    (.alt ⟨some 8, .alloc (.agg [(.v (.slice none 0 0)), (.v (.int .i64 0))]), none⟩ (.alt ⟨some 50, .bslice 1 [(.v (.slice none 0 0))] 0 [], none⟩ (.alt ⟨some 53, .append 1 24 [(.v (.slice none 0 0))] (.t 50) (.t 52), none⟩ (.alt ⟨some 60, .bslice 1 [(.v (.slice none 0 0))] 1 [(0, 1, (.t 59))], none⟩ (.alt ⟨some 61, .append 1 24 [(.v (.slice none 0 0))] (.t 53) (.t 60), none⟩ (.alt ⟨some 65, .build [(.v (.slice none 0 0)), (.v (.int .i64 0))] [(0, 1, (.t 61)), (1, 1, (.t 64))], none⟩ (.alt ⟨none, .store 2 (.t 8) (.t 65), none⟩ .done
    .none)
    .none)
    .none)
    .none)
    (.alt ⟨some 60, .bslice 1 [(.v (.slice none 0 0))] 1 [(0, 1, (.t 59))], none⟩ (.alt ⟨some 53, .append 1 24 [(.v (.slice none 0 0))] (.t 50) (.t 52), none⟩ (.alt ⟨some 61, .append 1 24 [(.v (.slice none 0 0))] (.t 53) (.t 60), none⟩ (.alt ⟨some 65, .build [(.v (.slice none 0 0)), (.v (.int .i64 0))] [(0, 1, (.t 61)), (1, 1, (.t 64))], none⟩ (.alt ⟨none, .store 2 (.t 8) (.t 65), none⟩ .done
    .none)
    .none)
    .none)
    .none)
    .none))
    (.alt ⟨some 60, .bslice 1 [(.v (.slice none 0 0))] 1 [(0, 1, (.t 59))], none⟩ (.alt ⟨some 50, .bslice 1 [(.v (.slice none 0 0))] 0 [], none⟩ (.alt ⟨some 53, .append 1 24 [(.v (.slice none 0 0))] (.t 50) (.t 52), none⟩ (.alt ⟨some 61, .append 1 24 [(.v (.slice none 0 0))] (.t 53) (.t 60), none⟩ (.alt ⟨some 65, .build [(.v (.slice none 0 0)), (.v (.int .i64 0))] [(0, 1, (.t 61)), (1, 1, (.t 64))], none⟩ (.alt ⟨none, .store 2 (.t 8) (.t 65), none⟩ .done
    .none)
    .none)
    .none)
    .none)
    .none)
    .none))
    .none))))


theorem unroll5 {P : Program} {Q : X → Env → Heap → Prop} {E : Env} {a : List L} {w : Word} (hw : w.Ok) (hn : w.v.length ≤ 1000) (hr : w.right = true) (h2 : lk E 2 = .ptr 0 0) (h3 : lk E 3 = .ptr 1 0) (h5 : lk E 5 = boolL true) (h6 : lk E 6 = intL w.v.length)
    (hab : belowL 3 a = true) (har : ∀ f, renL f a = a) (haf : ∀ H fz, a.map (frz H fz) = a)
    (next : Q .normal [(2, .ptr 0 0), (3, .ptr 1 0), (5, boolL true), (6, intL w.v.length), (7, .ptr 2 0)] [some a, some w.cells, some w.twice.cells]) :
    lwp P 0 irU5 Q E [some a, some w.cells] := by
  have hloop : 0 ≤ w.loop ∧ w.loop < w.v.length := by simp [Word.right] at hr; omega
  have hl := hw.v
  have hle : w.loop ≤ w.v.length := by omega
  have hsol : ∀ x : L, x ∈ List.drop w.loop.toNat (List.map intsL w.v) → solid x = true := fun x hx => by
    obtain ⟨r, -, rfl⟩ := List.mem_map.1 (List.mem_of_mem_drop hx); simp [intsL]
  have hsolA : (List.drop w.loop.toNat (List.map intsL w.v)).all solid = true := List.all_eq_true.2 hsol
  have hsolW : w.v.all (solid ∘ intsL) = true := List.all_eq_true.2 fun r _ => by simp [intsL]
  have hb1 : w.v.length * 24 ≤ 70368744177664 := by omega
  have hb2 : (w.v.length + (w.v.length - w.loop.toNat)) * 24 ≤ 70368744177664 := by omega
  have hclD : (List.drop w.loop.toNat (List.map intsL w.v)).all closed = true := List.all_eq_true.2 fun x hx => by
    obtain ⟨r, -, rfl⟩ := List.mem_map.1 (List.mem_of_mem_drop hx); simp [intsL]
  have hclW : w.v.all (closed ∘ intsL) = true := List.all_eq_true.2 fun r _ => by simp [intsL]
  refine lwp_drawNF (fun _ : Unit => _) (fun _ => _) (fun _ => True) ?_ (fun _ _ => next)
  simp [h3, h6, Word.cells, lot_done, lot_none, lot_alts, stableO, hloop, hle, hsolA, hsolW, hb1, hb2, -List.all_eq_true]
  refine ⟨⟨⟨⟨?_, ?_⟩, ?_⟩, ?_⟩, ?_⟩
  · refine ⟨(), trivial, [4], [0, 1, 5], ?_⟩
    simp [Word.twice, lk_frz_map, h2, h3, h5, h6, hab, har, haf, hclD, hclW, -List.all_eq_true]
  · refine ⟨(), trivial, [4], [0, 1, 5], ?_⟩
    simp [Word.twice, lk_frz_map, h2, h3, h5, h6, hab, har, haf, hclD, hclW, -List.all_eq_true]
  · refine ⟨(), trivial, [5], [0, 1, 4], ?_⟩
    simp [Word.twice, lk_frz_map, h2, h3, h5, h6, hab, har, haf, hclD, hclW, -List.all_eq_true]
  · refine ⟨(), trivial, [5], [0, 1, 3], ?_⟩
    simp [Word.twice, lk_frz_map, h2, h3, h5, h6, hab, har, haf, hclD, hclW, -List.all_eq_true]
  · refine ⟨(), trivial, [5], [0, 1, 2], ?_⟩
    simp [Word.twice, lk_frz_map, h2, h3, h5, h6, hab, har, haf, hclD, hclW, -List.all_eq_true]

set_option maxHeartbeats 4000000 in
theorem unroll6 {P : Program} {Q : X → Env → Heap → Prop} {E : Env} {a b : List L} {w : Word} (hw : w.Ok) (hn : w.v.length ≤ 1000) (hr : w.right = true) (h2 : lk E 2 = .ptr 0 0) (h3 : lk E 3 = .ptr 1 0) (h5 : lk E 5 = boolL true) (h6 : lk E 6 = intL w.v.length) (h7 : lk E 7 = .ptr 2 0)
    (hab : belowL 4 a = true) (har : ∀ f, renL f a = a) (haf : ∀ H fz, a.map (frz H fz) = a) (hbb : belowL 4 b = true) (hbr : ∀ f, renL f b = b) (hbf : ∀ H fz, b.map (frz H fz) = b)
    (next : Q .normal [(2, .ptr 0 0), (3, .ptr 1 0), (5, boolL true), (6, intL w.v.length), (7, .ptr 2 0), (8, .ptr 3 0)] [some a, some w.cells, some b, some w.turned.cells]) :
    lwp P 0 irU6 Q E [some a, some w.cells, some b] := by
  have hloop : 0 ≤ w.loop ∧ w.loop < w.v.length := by simp [Word.right] at hr; omega
  have hl := hw.v
  have hle : w.loop ≤ w.v.length := by omega
  have hlt : w.loop.toNat < w.v.length := by omega
  have hget : w.v[w.loop.toNat]?.getD [] = w.v[w.loop.toNat] := by simp [hlt]
  have hnw : IntKind.i64.wrap (w.loop + 1) = w.loop + 1 := wrap_id (by omega) (by omega)
  have hsolW : w.v.all (solid ∘ intsL) = true := List.all_eq_true.2 fun r _ => by simp [intsL]
  have hclW : w.v.all (closed ∘ intsL) = true := List.all_eq_true.2 fun r _ => by simp [intsL]
  have hb1 : w.v.length * 24 ≤ 70368744177664 := by omega
  have hb2 : (w.v.length + 1) * 24 ≤ 70368744177664 := by omega
  refine lwp_drawNF (fun _ : Unit => _) (fun _ => _) (fun _ => True) ?_ (fun _ _ => next)
  simp [h3, h6, Word.cells, lot_done, lot_none, lot_alts, stableO, hloop, hle, hlt, hsolW, hb1, hb2, hnw, -List.all_eq_true]
  simp only [and_assoc]
  refine ⟨?_, ?_, ?_, ?_, ?_, ?_, ?_, ?_, ?_, ?_, ?_, ?_, ?_, ?_, ?_, ?_, ?_, ?_⟩
  · refine ⟨(), trivial, [6], [0, 1, 2, 7], ?_⟩
    simp [Word.turned, lk_frz_map, h2, h3, h5, h6, h7, hget, hab, har, haf, hbb, hbr, hbf, hclW, -List.all_eq_true]
  · refine ⟨(), trivial, [6], [0, 1, 2, 7], ?_⟩
    simp [Word.turned, lk_frz_map, h2, h3, h5, h6, h7, hget, hab, har, haf, hbb, hbr, hbf, hclW, -List.all_eq_true]
  · refine ⟨(), trivial, [7], [0, 1, 2, 6], ?_⟩
    simp [Word.turned, lk_frz_map, h2, h3, h5, h6, h7, hget, hab, har, haf, hbb, hbr, hbf, hclW, -List.all_eq_true]
  · refine ⟨(), trivial, [7], [0, 1, 2, 5], ?_⟩
    simp [Word.turned, lk_frz_map, h2, h3, h5, h6, h7, hget, hab, har, haf, hbb, hbr, hbf, hclW, -List.all_eq_true]
  · refine ⟨(), trivial, [6], [0, 1, 2, 7], ?_⟩
    simp [Word.turned, lk_frz_map, h2, h3, h5, h6, h7, hget, hab, har, haf, hbb, hbr, hbf, hclW, -List.all_eq_true]
  · refine ⟨(), trivial, [6], [0, 1, 2, 7], ?_⟩
    simp [Word.turned, lk_frz_map, h2, h3, h5, h6, h7, hget, hab, har, haf, hbb, hbr, hbf, hclW, -List.all_eq_true]
  · refine ⟨(), trivial, [7], [0, 1, 2, 6], ?_⟩
    simp [Word.turned, lk_frz_map, h2, h3, h5, h6, h7, hget, hab, har, haf, hbb, hbr, hbf, hclW, -List.all_eq_true]
  · refine ⟨(), trivial, [7], [0, 1, 2, 5], ?_⟩
    simp [Word.turned, lk_frz_map, h2, h3, h5, h6, h7, hget, hab, har, haf, hbb, hbr, hbf, hclW, -List.all_eq_true]
  · refine ⟨(), trivial, [7], [0, 1, 2, 4], ?_⟩
    simp [Word.turned, lk_frz_map, h2, h3, h5, h6, h7, hget, hab, har, haf, hbb, hbr, hbf, hclW, -List.all_eq_true]
  · refine ⟨(), trivial, [7], [0, 1, 2, 4], ?_⟩
    simp [Word.turned, lk_frz_map, h2, h3, h5, h6, h7, hget, hab, har, haf, hbb, hbr, hbf, hclW, -List.all_eq_true]
  · refine ⟨(), trivial, [6], [0, 1, 2, 7], ?_⟩
    simp [Word.turned, lk_frz_map, h2, h3, h5, h6, h7, hget, hab, har, haf, hbb, hbr, hbf, hclW, -List.all_eq_true]
  · refine ⟨(), trivial, [6], [0, 1, 2, 7], ?_⟩
    simp [Word.turned, lk_frz_map, h2, h3, h5, h6, h7, hget, hab, har, haf, hbb, hbr, hbf, hclW, -List.all_eq_true]
  · refine ⟨(), trivial, [7], [0, 1, 2, 6], ?_⟩
    simp [Word.turned, lk_frz_map, h2, h3, h5, h6, h7, hget, hab, har, haf, hbb, hbr, hbf, hclW, -List.all_eq_true]
  · refine ⟨(), trivial, [7], [0, 1, 2, 5], ?_⟩
    simp [Word.turned, lk_frz_map, h2, h3, h5, h6, h7, hget, hab, har, haf, hbb, hbr, hbf, hclW, -List.all_eq_true]
  · refine ⟨(), trivial, [7], [0, 1, 2, 4], ?_⟩
    simp [Word.turned, lk_frz_map, h2, h3, h5, h6, h7, hget, hab, har, haf, hbb, hbr, hbf, hclW, -List.all_eq_true]
  · refine ⟨(), trivial, [7], [0, 1, 2, 3], ?_⟩
    simp [Word.turned, lk_frz_map, h2, h3, h5, h6, h7, hget, hab, har, haf, hbb, hbr, hbf, hclW, -List.all_eq_true]
  · refine ⟨(), trivial, [7], [0, 1, 2, 3], ?_⟩
    simp [Word.turned, lk_frz_map, h2, h3, h5, h6, h7, hget, hab, har, haf, hbb, hbr, hbf, hclW, -List.all_eq_true]
  · refine ⟨(), trivial, [7], [0, 1, 2, 3], ?_⟩
    simp [Word.turned, lk_frz_map, h2, h3, h5, h6, h7, hget, hab, har, haf, hbb, hbr, hbf, hclW, -List.all_eq_true]

end Lg
