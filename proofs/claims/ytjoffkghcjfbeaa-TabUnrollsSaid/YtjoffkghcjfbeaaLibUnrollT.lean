/- Words written longer: the same in tab's law (other slots). -/
import Derived.Test.YtjoffkghcjfbeaaLibUnroll
namespace Lg
open Go
def irUT5 : IR := (.drawN [⟨some 36, .faddr 0 (.t 3), none⟩,
  ⟨some 37, .load 1 false (.t 36), none⟩,
  ⟨some 39, .faddr 0 (.t 3), none⟩,
  ⟨some 40, .load 1 false (.t 39), none⟩,
  ⟨some 41, .faddr 1 (.t 3), none⟩,
  ⟨some 42, .load 1 false (.t 41), none⟩,
  ⟨some 43, .slice 1 (.t 40) (some (.t 42)) none none, none⟩,
  ⟨some 45, .faddr 0 (.t 3), none⟩,
  ⟨some 46, .load 1 false (.t 45), none⟩,
  ⟨some 47, .len false (.t 46), none⟩]
  (.alt ⟨some 35, .bslice 1 [(.v (.slice none 0 0))] 0 [], none⟩ (.alt ⟨some 38, .append 1 24 [(.v (.slice none 0 0))] (.t 35) (.t 37), none⟩ (.alt ⟨some 44, .append 1 24 [(.v (.slice none 0 0))] (.t 38) (.t 43), none⟩ (.alt ⟨some 48, .build [(.v (.slice none 0 0)), (.v (.int .i64 0))] [(0, 1, (.t 44)), (1, 1, (.t 47))], none⟩ (.alt ⟨some 6, .alloc (.agg [(.v (.slice none 0 0)), (.v (.int .i64 0))]), none⟩ (.alt ⟨none, .store 2 (.t 6) (.t 48), none⟩ .done
  .none)
  .none)
  (.alt ⟨some 6, .alloc (.agg [(.v (.slice none 0 0)), (.v (.int .i64 0))]), none⟩ (.alt ⟨some 48, .build [(.v (.slice none 0 0)), (.v (.int .i64 0))] [(0, 1, (.t 44)), (1, 1, (.t 47))], none⟩ (.alt ⟨none, .store 2 (.t 6) (.t 48), none⟩ .done
  .none)
  .none)
  .none))
  (.alt ⟨some 6, .alloc (.agg [(.v (.slice none 0 0)), (.v (.int .i64 0))]), none⟩ (.alt ⟨some 44, .append 1 24 [(.v (.slice none 0 0))] (.t 38) (.t 43), none⟩ (.alt ⟨some 48, .build [(.v (.slice none 0 0)), (.v (.int .i64 0))] [(0, 1, (.t 44)), (1, 1, (.t 47))], none⟩ (.alt ⟨none, .store 2 (.t 6) (.t 48), none⟩ .done
  .none)
  .none)
  .none)
  .none))
  (.alt ⟨some 6, .alloc (.agg [(.v (.slice none 0 0)), (.v (.int .i64 0))]), none⟩ (.alt ⟨some 38, .append 1 24 [(.v (.slice none 0 0))] (.t 35) (.t 37), none⟩ (.alt ⟨some 44, .append 1 24 [(.v (.slice none 0 0))] (.t 38) (.t 43), none⟩ (.alt ⟨some 48, .build [(.v (.slice none 0 0)), (.v (.int .i64 0))] [(0, 1, (.t 44)), (1, 1, (.t 47))], none⟩ (.alt ⟨none, .store 2 (.t 6) (.t 48), none⟩ .done
  .none)
  .none)
  .none)
  .none)
  .none))
  (.alt ⟨some 6, .alloc (.agg [(.v (.slice none 0 0)), (.v (.int .i64 0))]), none⟩ (.alt ⟨some 35, .bslice 1 [(.v (.slice none 0 0))] 0 [], none⟩ (.alt ⟨some 38, .append 1 24 [(.v (.slice none 0 0))] (.t 35) (.t 37), none⟩ (.alt ⟨some 44, .append 1 24 [(.v (.slice none 0 0))] (.t 38) (.t 43), none⟩ (.alt ⟨some 48, .build [(.v (.slice none 0 0)), (.v (.int .i64 0))] [(0, 1, (.t 44)), (1, 1, (.t 47))], none⟩ (.alt ⟨none, .store 2 (.t 6) (.t 48), none⟩ .done
  .none)
  .none)
  .none)
  .none)
  .none)
  .none)))
def irUT6 : IR := (.drawN [⟨some 50, .faddr 0 (.t 3), none⟩,
  ⟨some 51, .load 1 false (.t 50), none⟩,
  ⟨some 53, .faddr 0 (.t 3), none⟩,
  ⟨some 54, .load 1 false (.t 53), none⟩,
  ⟨some 55, .faddr 1 (.t 3), none⟩,
  ⟨some 56, .load 1 false (.t 55), none⟩,
  ⟨some 57, .iaddr 1 (.t 54) (.t 56), none⟩,
  ⟨some 58, .load 1 false (.t 57), none⟩,
  ⟨some 61, .faddr 1 (.t 3), none⟩,
  ⟨some 62, .load 1 false (.t 61), none⟩,
  ⟨some 63, .bin .add false (.t 62) (.c (.v (.int .i64 1))), none⟩]
  (.alt ⟨some 49, .bslice 1 [(.v (.slice none 0 0))] 0 [], none⟩ (.alt ⟨some 52, .append 1 24 [(.v (.slice none 0 0))] (.t 49) (.t 51), none⟩ (.alt ⟨some 59, .bslice 1 [(.v (.slice none 0 0))] 1 [(0, 1, (.t 58))], none⟩ (.alt ⟨some 60, .append 1 24 [(.v (.slice none 0 0))] (.t 52) (.t 59), none⟩ (.alt ⟨some 64, .build [(.v (.slice none 0 0)), (.v (.int .i64 0))] [(0, 1, (.t 60)), (1, 1, (.t 63))], none⟩ (.alt ⟨some 7, .alloc (.agg [(.v (.slice none 0 0)), (.v (.int .i64 0))]), none⟩ (.alt ⟨none, .store 2 (.t 7) (.t 64), none⟩ .done
  .none)
  .none)
  (.alt ⟨some 7, .alloc (.agg [(.v (.slice none 0 0)), (.v (.int .i64 0))]), none⟩ (.alt ⟨some 64, .build [(.v (.slice none 0 0)), (.v (.int .i64 0))] [(0, 1, (.t 60)), (1, 1, (.t 63))], none⟩ (.alt ⟨none, .store 2 (.t 7) (.t 64), none⟩ .done
  .none)
  .none)
  .none))
  (.alt ⟨some 7, .alloc (.agg [(.v (.slice none 0 0)), (.v (.int .i64 0))]), none⟩ (.alt ⟨some 60, .append 1 24 [(.v (.slice none 0 0))] (.t 52) (.t 59), none⟩ (.alt ⟨some 64, .build [(.v (.slice none 0 0)), (.v (.int .i64 0))] [(0, 1, (.t 60)), (1, 1, (.t 63))], none⟩ (.alt ⟨none, .store 2 (.t 7) (.t 64), none⟩ .done
  .none)
  .none)
  .none)
  .none))
  (.alt ⟨some 7, .alloc (.agg [(.v (.slice none 0 0)), (.v (.int .i64 0))]), none⟩ (.alt ⟨some 59, .bslice 1 [(.v (.slice none 0 0))] 1 [(0, 1, (.t 58))], none⟩ (.alt ⟨some 60, .append 1 24 [(.v (.slice none 0 0))] (.t 52) (.t 59), none⟩ (.alt ⟨some 64, .build [(.v (.slice none 0 0)), (.v (.int .i64 0))] [(0, 1, (.t 60)), (1, 1, (.t 63))], none⟩ (.alt ⟨none, .store 2 (.t 7) (.t 64), none⟩ .done
  .none)
  .none)
  .none)
  .none)
  .none))
  (.alt ⟨some 59, .bslice 1 [(.v (.slice none 0 0))] 1 [(0, 1, (.t 58))], none⟩ (.alt ⟨some 52, .append 1 24 [(.v (.slice none 0 0))] (.t 49) (.t 51), none⟩ (.alt ⟨some 60, .append 1 24 [(.v (.slice none 0 0))] (.t 52) (.t 59), none⟩ (.alt ⟨some 64, .build [(.v (.slice none 0 0)), (.v (.int .i64 0))] [(0, 1, (.t 60)), (1, 1, (.t 63))], none⟩ (.alt ⟨some 7, .alloc (.agg [(.v (.slice none 0 0)), (.v (.int .i64 0))]), none⟩ (.alt ⟨none, .store 2 (.t 7) (.t 64), none⟩ .done
  .none)
  .none)
  (.alt ⟨some 7, .alloc (.agg [(.v (.slice none 0 0)), (.v (.int .i64 0))]), none⟩ (.alt ⟨some 64, .build [(.v (.slice none 0 0)), (.v (.int .i64 0))] [(0, 1, (.t 60)), (1, 1, (.t 63))], none⟩ (.alt ⟨none, .store 2 (.t 7) (.t 64), none⟩ .done
  .none)
  .none)
  .none))
  (.alt ⟨some 7, .alloc (.agg [(.v (.slice none 0 0)), (.v (.int .i64 0))]), none⟩ (.alt ⟨some 60, .append 1 24 [(.v (.slice none 0 0))] (.t 52) (.t 59), none⟩ (.alt ⟨some 64, .build [(.v (.slice none 0 0)), (.v (.int .i64 0))] [(0, 1, (.t 60)), (1, 1, (.t 63))], none⟩ (.alt ⟨none, .store 2 (.t 7) (.t 64), none⟩ .done
  .none)
  .none)
  .none)
  .none))
  (.alt ⟨some 7, .alloc (.agg [(.v (.slice none 0 0)), (.v (.int .i64 0))]), none⟩ (.alt ⟨some 52, .append 1 24 [(.v (.slice none 0 0))] (.t 49) (.t 51), none⟩ (.alt ⟨some 60, .append 1 24 [(.v (.slice none 0 0))] (.t 52) (.t 59), none⟩ (.alt ⟨some 64, .build [(.v (.slice none 0 0)), (.v (.int .i64 0))] [(0, 1, (.t 60)), (1, 1, (.t 63))], none⟩ (.alt ⟨none, .store 2 (.t 7) (.t 64), none⟩ .done
  .none)
  .none)
  .none)
  .none)
  .none))
  (.alt ⟨some 7, .alloc (.agg [(.v (.slice none 0 0)), (.v (.int .i64 0))]), none⟩ (.alt ⟨some 52, .append 1 24 [(.v (.slice none 0 0))] (.t 49) (.t 51), none⟩ (.alt ⟨some 59, .bslice 1 [(.v (.slice none 0 0))] 1 [(0, 1, (.t 58))], none⟩ (.alt ⟨some 60, .append 1 24 [(.v (.slice none 0 0))] (.t 52) (.t 59), none⟩ (.alt ⟨some 64, .build [(.v (.slice none 0 0)), (.v (.int .i64 0))] [(0, 1, (.t 60)), (1, 1, (.t 63))], none⟩ (.alt ⟨none, .store 2 (.t 7) (.t 64), none⟩ .done
  .none)
  .none)
  .none)
  .none)
  (.alt ⟨some 59, .bslice 1 [(.v (.slice none 0 0))] 1 [(0, 1, (.t 58))], none⟩ (.alt ⟨some 52, .append 1 24 [(.v (.slice none 0 0))] (.t 49) (.t 51), none⟩ (.alt ⟨some 60, .append 1 24 [(.v (.slice none 0 0))] (.t 52) (.t 59), none⟩ (.alt ⟨some 64, .build [(.v (.slice none 0 0)), (.v (.int .i64 0))] [(0, 1, (.t 60)), (1, 1, (.t 63))], none⟩ (.alt ⟨none, .store 2 (.t 7) (.t 64), none⟩ .done
  .none)
  .none)
  .none)
  .none)
  .none))
  .none)))
  (.alt ⟨some 59, .bslice 1 [(.v (.slice none 0 0))] 1 [(0, 1, (.t 58))], none⟩ (.alt ⟨some 49, .bslice 1 [(.v (.slice none 0 0))] 0 [], none⟩ (.alt ⟨some 52, .append 1 24 [(.v (.slice none 0 0))] (.t 49) (.t 51), none⟩ (.alt ⟨some 60, .append 1 24 [(.v (.slice none 0 0))] (.t 52) (.t 59), none⟩ (.alt ⟨some 64, .build [(.v (.slice none 0 0)), (.v (.int .i64 0))] [(0, 1, (.t 60)), (1, 1, (.t 63))], none⟩ (.alt ⟨some 7, .alloc (.agg [(.v (.slice none 0 0)), (.v (.int .i64 0))]), none⟩ (.alt ⟨none, .store 2 (.t 7) (.t 64), none⟩ .done
  .none)
  .none)
  (.alt ⟨some 7, .alloc (.agg [(.v (.slice none 0 0)), (.v (.int .i64 0))]), none⟩ (.alt ⟨some 64, .build [(.v (.slice none 0 0)), (.v (.int .i64 0))] [(0, 1, (.t 60)), (1, 1, (.t 63))], none⟩ (.alt ⟨none, .store 2 (.t 7) (.t 64), none⟩ .done
  .none)
  .none)
  .none))
  (.alt ⟨some 7, .alloc (.agg [(.v (.slice none 0 0)), (.v (.int .i64 0))]), none⟩ (.alt ⟨some 60, .append 1 24 [(.v (.slice none 0 0))] (.t 52) (.t 59), none⟩ (.alt ⟨some 64, .build [(.v (.slice none 0 0)), (.v (.int .i64 0))] [(0, 1, (.t 60)), (1, 1, (.t 63))], none⟩ (.alt ⟨none, .store 2 (.t 7) (.t 64), none⟩ .done
  .none)
  .none)
  .none)
  .none))
  (.alt ⟨some 7, .alloc (.agg [(.v (.slice none 0 0)), (.v (.int .i64 0))]), none⟩ (.alt ⟨some 52, .append 1 24 [(.v (.slice none 0 0))] (.t 49) (.t 51), none⟩ (.alt ⟨some 60, .append 1 24 [(.v (.slice none 0 0))] (.t 52) (.t 59), none⟩ (.alt ⟨some 64, .build [(.v (.slice none 0 0)), (.v (.int .i64 0))] [(0, 1, (.t 60)), (1, 1, (.t 63))], none⟩ (.alt ⟨none, .store 2 (.t 7) (.t 64), none⟩ .done
  .none)
  .none)
  .none)
  .none)
  .none))
  (.alt ⟨some 7, .alloc (.agg [(.v (.slice none 0 0)), (.v (.int .i64 0))]), none⟩ (.alt ⟨some 49, .bslice 1 [(.v (.slice none 0 0))] 0 [], none⟩ (.alt ⟨some 52, .append 1 24 [(.v (.slice none 0 0))] (.t 49) (.t 51), none⟩ (.alt ⟨some 60, .append 1 24 [(.v (.slice none 0 0))] (.t 52) (.t 59), none⟩ (.alt ⟨some 64, .build [(.v (.slice none 0 0)), (.v (.int .i64 0))] [(0, 1, (.t 60)), (1, 1, (.t 63))], none⟩ (.alt ⟨none, .store 2 (.t 7) (.t 64), none⟩ .done
  .none)
  .none)
  .none)
  .none)
  .none)
  .none))
  (.alt ⟨some 7, .alloc (.agg [(.v (.slice none 0 0)), (.v (.int .i64 0))]), none⟩ (.alt ⟨some 49, .bslice 1 [(.v (.slice none 0 0))] 0 [], none⟩ (.alt ⟨some 52, .append 1 24 [(.v (.slice none 0 0))] (.t 49) (.t 51), none⟩ (.alt ⟨some 59, .bslice 1 [(.v (.slice none 0 0))] 1 [(0, 1, (.t 58))], none⟩ (.alt ⟨some 60, .append 1 24 [(.v (.slice none 0 0))] (.t 52) (.t 59), none⟩ (.alt ⟨some 64, .build [(.v (.slice none 0 0)), (.v (.int .i64 0))] [(0, 1, (.t 60)), (1, 1, (.t 63))], none⟩ (.alt ⟨none, .store 2 (.t 7) (.t 64), none⟩ .done
  .none)
  .none)
  .none)
  .none)
  (.alt ⟨some 59, .bslice 1 [(.v (.slice none 0 0))] 1 [(0, 1, (.t 58))], none⟩ (.alt ⟨some 52, .append 1 24 [(.v (.slice none 0 0))] (.t 49) (.t 51), none⟩ (.alt ⟨some 60, .append 1 24 [(.v (.slice none 0 0))] (.t 52) (.t 59), none⟩ (.alt ⟨some 64, .build [(.v (.slice none 0 0)), (.v (.int .i64 0))] [(0, 1, (.t 60)), (1, 1, (.t 63))], none⟩ (.alt ⟨none, .store 2 (.t 7) (.t 64), none⟩ .done
  .none)
  .none)
  .none)
  .none)
  .none))
  (.alt ⟨some 59, .bslice 1 [(.v (.slice none 0 0))] 1 [(0, 1, (.t 58))], none⟩ (.alt ⟨some 49, .bslice 1 [(.v (.slice none 0 0))] 0 [], none⟩ (.alt ⟨some 52, .append 1 24 [(.v (.slice none 0 0))] (.t 49) (.t 51), none⟩ (.alt ⟨some 60, .append 1 24 [(.v (.slice none 0 0))] (.t 52) (.t 59), none⟩ (.alt ⟨some 64, .build [(.v (.slice none 0 0)), (.v (.int .i64 0))] [(0, 1, (.t 60)), (1, 1, (.t 63))], none⟩ (.alt ⟨none, .store 2 (.t 7) (.t 64), none⟩ .done
  .none)
  .none)
  .none)
  .none)
  .none)
  .none))
  .none))))
set_option maxHeartbeats 4000000 in
theorem unrollT5 {P : Program} {Q : X → Env → Heap → Prop} {E : Env} {a : List L} {w : Word} (hw : w.Ok) (hn : w.v.length ≤ 1000) (hr : w.right = true) (h2 : lk E 2 = .ptr 0 0) (h3 : lk E 3 = .ptr 1 0) (h5 : lk E 5 = boolL true)
  (hab : belowL 3 a = true) (har : ∀ f, renL f a = a) (haf : ∀ H fz, a.map (frz H fz) = a)
  (next : Q .normal [(2, .ptr 0 0), (3, .ptr 1 0), (5, boolL true), (6, .ptr 2 0)] [some a, some w.cells, some w.twice.cells]) :
  lwp P 0 irUT5 Q E [some a, some w.cells] := by
 have hloop : 0 ≤ w.loop ∧ w.loop < w.v.length := by simp [Word.right] at hr; omega
 have hl := hw.v
 have hle : w.loop ≤ w.v.length := by omega
 have hsol : ∀ x : L, x ∈ List.drop w.loop.toNat (List.map intsL w.v) → solid x = true := fun x hx => by
  obtain ⟨r, -, rfl⟩ := List.mem_map.1 (List.mem_of_mem_drop hx); simp [intsL]
 have hsolA : (List.drop w.loop.toNat (List.map intsL w.v)).all solid = true := List.all_eq_true.2 hsol
 have hsolW : w.v.all (solid ∘ intsL) = true := List.all_eq_true.2 fun r _ => by simp [intsL]
 have hb1 : w.v.length * 24 ≤ 70368744177664 := by omega
 have hb2 : (w.v.length + (w.v.length - w.loop.toNat)) * 24 ≤ 70368744177664 := by omega
 have hclD : (List.drop w.loop.toNat (List.map intsL w.v)).all closed = true := List.all_eq_true.2 fun x hx => by
  obtain ⟨r, -, rfl⟩ := List.mem_map.1 (List.mem_of_mem_drop hx); simp [intsL]
 have hclW : w.v.all (closed ∘ intsL) = true := List.all_eq_true.2 fun r _ => by simp [intsL]
 refine lwp_drawNF (fun _ : Unit => _) (fun _ => _) (fun _ => True) ?_ (fun _ _ => next)
 simp [h3, Word.cells, lot_done, lot_none, lot_alts, stableO, hloop, hle, hsolA, hsolW, hb1, hb2, -List.all_eq_true]
 refine ⟨⟨⟨⟨?_, ?_⟩, ?_⟩, ?_⟩, ?_⟩
 ·refine ⟨(), trivial, [4], [0, 1, 5], ?_⟩
  simp [Word.twice, lk_frz_map, h2, h3, h5, hab, har, haf, hclD, hclW, -List.all_eq_true]
 ·refine ⟨(), trivial, [4], [0, 1, 5], ?_⟩
  simp [Word.twice, lk_frz_map, h2, h3, h5, hab, har, haf, hclD, hclW, -List.all_eq_true]
 ·refine ⟨(), trivial, [5], [0, 1, 4], ?_⟩
  simp [Word.twice, lk_frz_map, h2, h3, h5, hab, har, haf, hclD, hclW, -List.all_eq_true]
 ·refine ⟨(), trivial, [5], [0, 1, 3], ?_⟩
  simp [Word.twice, lk_frz_map, h2, h3, h5, hab, har, haf, hclD, hclW, -List.all_eq_true]
 ·refine ⟨(), trivial, [5], [0, 1, 2], ?_⟩
  simp [Word.twice, lk_frz_map, h2, h3, h5, hab, har, haf, hclD, hclW, -List.all_eq_true]
set_option maxHeartbeats 4000000 in
theorem unrollT6 {P : Program} {Q : X → Env → Heap → Prop} {E : Env} {a b : List L} {w : Word} (hw : w.Ok) (hn : w.v.length ≤ 1000) (hr : w.right = true) (h2 : lk E 2 = .ptr 0 0) (h3 : lk E 3 = .ptr 1 0) (h5 : lk E 5 = boolL true) (h6 : lk E 6 = .ptr 2 0)
  (hab : belowL 4 a = true) (har : ∀ f, renL f a = a) (haf : ∀ H fz, a.map (frz H fz) = a) (hbb : belowL 4 b = true) (hbr : ∀ f, renL f b = b) (hbf : ∀ H fz, b.map (frz H fz) = b)
  (next : Q .normal [(2, .ptr 0 0), (3, .ptr 1 0), (5, boolL true), (6, .ptr 2 0), (7, .ptr 3 0)] [some a, some w.cells, some b, some w.turned.cells]) :
  lwp P 0 irUT6 Q E [some a, some w.cells, some b] := by
 have hloop : 0 ≤ w.loop ∧ w.loop < w.v.length := by simp [Word.right] at hr; omega
 have hl := hw.v
 have hle : w.loop ≤ w.v.length := by omega
 have hlt : w.loop.toNat < w.v.length := by omega
 have hget : w.v[w.loop.toNat]?.getD [] = w.v[w.loop.toNat] := by simp [hlt]
 have hnw : IntKind.i64.wrap (w.loop + 1) = w.loop + 1 := wrap_id (by omega) (by omega)
 have hsolW : w.v.all (solid ∘ intsL) = true := List.all_eq_true.2 fun r _ => by simp [intsL]
 have hclW : w.v.all (closed ∘ intsL) = true := List.all_eq_true.2 fun r _ => by simp [intsL]
 have hb1 : w.v.length * 24 ≤ 70368744177664 := by omega
 have hb2 : (w.v.length + 1) * 24 ≤ 70368744177664 := by omega
 refine lwp_drawNF (fun _ : Unit => _) (fun _ => _) (fun _ => True) ?_ (fun _ _ => next)
 simp [h3, Word.cells, lot_done, lot_none, lot_alts, stableO, hloop, hlt, hsolW, hb1, hb2, hnw, -List.all_eq_true]
 simp only [and_assoc]
 refine ⟨?_, ?_, ?_, ?_, ?_, ?_, ?_, ?_, ?_, ?_, ?_, ?_, ?_, ?_, ?_, ?_, ?_, ?_⟩
 ·refine ⟨(), trivial, [6], [0, 1, 2, 7], ?_⟩
  simp [Word.turned, lk_frz_map, h2, h3, h5, h6, hget, hab, har, haf, hbb, hbr, hbf, hclW, -List.all_eq_true]
 ·refine ⟨(), trivial, [6], [0, 1, 2, 7], ?_⟩
  simp [Word.turned, lk_frz_map, h2, h3, h5, h6, hget, hab, har, haf, hbb, hbr, hbf, hclW, -List.all_eq_true]
 ·refine ⟨(), trivial, [7], [0, 1, 2, 6], ?_⟩
  simp [Word.turned, lk_frz_map, h2, h3, h5, h6, hget, hab, har, haf, hbb, hbr, hbf, hclW, -List.all_eq_true]
 ·refine ⟨(), trivial, [7], [0, 1, 2, 5], ?_⟩
  simp [Word.turned, lk_frz_map, h2, h3, h5, h6, hget, hab, har, haf, hbb, hbr, hbf, hclW, -List.all_eq_true]
 ·refine ⟨(), trivial, [6], [0, 1, 2, 7], ?_⟩
  simp [Word.turned, lk_frz_map, h2, h3, h5, h6, hget, hab, har, haf, hbb, hbr, hbf, hclW, -List.all_eq_true]
 ·refine ⟨(), trivial, [6], [0, 1, 2, 7], ?_⟩
  simp [Word.turned, lk_frz_map, h2, h3, h5, h6, hget, hab, har, haf, hbb, hbr, hbf, hclW, -List.all_eq_true]
 ·refine ⟨(), trivial, [7], [0, 1, 2, 6], ?_⟩
  simp [Word.turned, lk_frz_map, h2, h3, h5, h6, hget, hab, har, haf, hbb, hbr, hbf, hclW, -List.all_eq_true]
 ·refine ⟨(), trivial, [7], [0, 1, 2, 5], ?_⟩
  simp [Word.turned, lk_frz_map, h2, h3, h5, h6, hget, hab, har, haf, hbb, hbr, hbf, hclW, -List.all_eq_true]
 ·refine ⟨(), trivial, [7], [0, 1, 2, 4], ?_⟩
  simp [Word.turned, lk_frz_map, h2, h3, h5, h6, hget, hab, har, haf, hbb, hbr, hbf, hclW, -List.all_eq_true]
 ·refine ⟨(), trivial, [7], [0, 1, 2, 4], ?_⟩
  simp [Word.turned, lk_frz_map, h2, h3, h5, h6, hget, hab, har, haf, hbb, hbr, hbf, hclW, -List.all_eq_true]
 ·refine ⟨(), trivial, [6], [0, 1, 2, 7], ?_⟩
  simp [Word.turned, lk_frz_map, h2, h3, h5, h6, hget, hab, har, haf, hbb, hbr, hbf, hclW, -List.all_eq_true]
 ·refine ⟨(), trivial, [6], [0, 1, 2, 7], ?_⟩
  simp [Word.turned, lk_frz_map, h2, h3, h5, h6, hget, hab, har, haf, hbb, hbr, hbf, hclW, -List.all_eq_true]
 ·refine ⟨(), trivial, [7], [0, 1, 2, 6], ?_⟩
  simp [Word.turned, lk_frz_map, h2, h3, h5, h6, hget, hab, har, haf, hbb, hbr, hbf, hclW, -List.all_eq_true]
 ·refine ⟨(), trivial, [7], [0, 1, 2, 5], ?_⟩
  simp [Word.turned, lk_frz_map, h2, h3, h5, h6, hget, hab, har, haf, hbb, hbr, hbf, hclW, -List.all_eq_true]
 ·refine ⟨(), trivial, [7], [0, 1, 2, 4], ?_⟩
  simp [Word.turned, lk_frz_map, h2, h3, h5, h6, hget, hab, har, haf, hbb, hbr, hbf, hclW, -List.all_eq_true]
 ·refine ⟨(), trivial, [7], [0, 1, 2, 3], ?_⟩
  simp [Word.turned, lk_frz_map, h2, h3, h5, h6, hget, hab, har, haf, hbb, hbr, hbf, hclW, -List.all_eq_true]
 ·refine ⟨(), trivial, [7], [0, 1, 2, 3], ?_⟩
  simp [Word.turned, lk_frz_map, h2, h3, h5, h6, hget, hab, har, haf, hbb, hbr, hbf, hclW, -List.all_eq_true]
 ·refine ⟨(), trivial, [7], [0, 1, 2, 3], ?_⟩
  simp [Word.turned, lk_frz_map, h2, h3, h5, h6, hget, hab, har, haf, hbb, hbr, hbf, hclW, -List.all_eq_true]
end Lg

