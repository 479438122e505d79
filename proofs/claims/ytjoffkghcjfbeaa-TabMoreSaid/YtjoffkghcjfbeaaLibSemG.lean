/- What is turned until it stays. -/
import Derived.Test.YtjoffkghcjfbeaaLibSemF
namespace Lg
open Go
theorem lk_frz_map {H : Heap} {fz : List Nat} {n : Nat} : ∀ {E : Env}, lk (E.map fun p => (p.1, frz H fz p.2)) n = frz H fz (lk E n)
 | [] => by simp [lk]
 | (k, l) :: E => by
  simp only [List.map_cons, lk]
  split
  ·rfl
  ·exact lk_frz_map
end Lg

