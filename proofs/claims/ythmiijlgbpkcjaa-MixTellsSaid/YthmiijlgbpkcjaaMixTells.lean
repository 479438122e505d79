/- The first statement of mix, on logical values. -/
import Derived.Test.YthmiijlgbpkcjaaMixFn
namespace Go.Proofs.Ythmiijlgbpkcjaa
open Go Lg

theorem tells_any (bs : List Int) (hl : bs.length ≤ 140737488351232) (s k n : Int) (hk0 : -9223372036854775808 ≤ k) (hn : n ≤ 9223372036854775807) :
    PC Try.prog 3 [.agg [.sl 1 false (bs.map u8L), u64L s, intL k, intL n]] (boolL true) := by
  refine pc_of_call (callAt_enter ir3 (by simp) ?_)
  simp
  refine callT_closed shown_any rfl ?_
  simp
  intro h1 h2
  have hl' : bs.length ≤ 1000000000 := by omega
  refine callT_plain (hash_any false bs hl' s) rfl rfl ?_
  simp
  refine callT_plain (ref_hash false bs hl' s) rfl rfl ?_
  simp [hash_ref]
  refine callT_plain (place_any 10 (.inl rfl) _ n hn) rfl rfl ?_
  simp
  refine callT_plain (place_any 11 (.inr rfl) _ n hn) rfl rfl ?_
  simp
  refine callT_closed (places_any false bs hl' s k n (by omega) hn) rfl ?_
  simp
  refine callT_closed (refPlaces_any false bs hl' s k n (by omega) hn) rfl ?_
  simp [places_ref]
  refine callT_plain (vec_any false false _ _ (by simp; omega)) rfl rfl ?_
  simp
end Go.Proofs.Ythmiijlgbpkcjaa
