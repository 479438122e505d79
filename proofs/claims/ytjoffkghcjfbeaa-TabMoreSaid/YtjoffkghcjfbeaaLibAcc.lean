/- Rows that grow behind other rows: a state that keeps the first rows as they are. -/
import Derived.Test.YtjoffkghcjfbeaaLgNX
namespace Lg
open Go
def shut (n : Nat) : Heap → Prop
 | [] => True
 | none :: H => shut n H
 | some ls :: H => belowL n ls = true ∧ shut n H
def accE (e b : Nat) (xs : List L) : L := if xs = [] then .v (.slice none 0 0) else .view e b 0 xs.length false
def accH (xs : List L) : Heap := if xs = [] then [] else [some xs]
@[simp] theorem accE_nil {e b : Nat} : accE e b [] = .v (.slice none 0 0) := rfl
@[simp] theorem accH_nil : accH [] = [] := rfl
theorem app_get {H0 X : Heap} {m : Nat} : (H0 ++ X)[H0.length + m]? = X[m]? := by rw [List.getElem?_append_right (by omega), Nat.add_sub_cancel_left]
theorem app_get0 {H0 X : Heap} : (H0 ++ X)[H0.length]? = X[0]? := by rw [List.getElem?_append_right (by omega), Nat.sub_self]
theorem app_set {H0 X : Heap} {m : Nat} {r : Option (List L)} : (H0 ++ X).set (H0.length + m) r = H0 ++ X.set m r := by rw [List.set_append_right _ _ (by omega), Nat.add_sub_cancel_left]
theorem app_set0 {H0 X : Heap} {r : Option (List L)} : (H0 ++ X).set H0.length r = H0 ++ X.set 0 r := by rw [List.set_append_right _ _ (by omega), Nat.sub_self]
attribute [simp] app_get app_get0 app_set app_set0
attribute [simp] shut
end Lg

