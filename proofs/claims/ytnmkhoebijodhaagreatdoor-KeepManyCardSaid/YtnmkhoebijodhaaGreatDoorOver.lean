/-
  (*Table[T]).over: the rows of the places asked for, in row order, as they lie now.
-/
import Derived.Test.YtnmkhoebijodhaaGreatDoorIter
import Derived.Test.YtnmkhoebijodhaaGreatDoorKeys
import Derived.Test.YtnmkhoebijodhaaGreatDoorSort
import Derived.Deep.RegionHeld3
import Derived.Deep.RegionLaw
import Derived.Deep.CutBlock
import Derived.Deep.AppendLies
namespace Go.Proofs.YtnmkhoebijodhaaGreatDoor
open Go.RowKit

theorem Fr.of_grown0 {w w1 : World} (h : w.grownBy w1 none) : Fr [] w w1 := ⟨h.os, h.tape, h.output, h.size, fun k hk _ => h.block k hk (by simp)⟩
theorem eql_nil (w : World) : (binOp .eql 28 (.slice none 0 0) (.slice none 0 0)).run Tryz.prog w = .ok (.bool true) w := by kernel_rfl
theorem own_nil {w : World} {B : Nat} {e : TypeId} {size : Nat} {v : Value} {xs : List Value} (h : w.ownsRow B e size v 0 xs) : xs = [] := List.eq_nil_of_length_eq_zero (by have := h.1; simpa using this)

/-- The rows of the places asked for. -/
def rowsS {α : Type} (z : α) (p : Sp → Bool) (l : List (Sp × α)) (ss : List Sp) : List (Sp × α) := (ss.filter p).map fun s => (s, (getS s l).getD z)
theorem rowsS_snoc {α : Type} (z : α) (p : Sp → Bool) (l : List (Sp × α)) (ss : List Sp) (s : Sp) : rowsS z p l (ss ++ [s]) = rowsS z p l ss ++ (if p s then [(s, (getS s l).getD z)] else []) := by
  unfold rowsS
  rw [List.filter_append, List.map_append]
  by_cases h : p s <;> simp [h]
theorem rowsS_le {α : Type} (z : α) (p : Sp → Bool) (l : List (Sp × α)) (ss : List Sp) : (rowsS z p l ss).length ≤ ss.length := by
  unfold rowsS
  rw [List.length_map]
  exact List.length_filter_le _ _
end Go.Proofs.YtnmkhoebijodhaaGreatDoor
