/-
  The walk of quadrillelaw7.GridOrder.
-/
import Derived.Test.YtldppdafgbipjaaGridOrderA
import Derived.Test.YtldppdafgbipjaaGridOrderB
namespace Go.Proofs.Ytldppdafgbipjaa
open Go.RowKit Go.Shelf

theorem gridOrder (v0 : Value) (ats : List Sp) (a : Ar) (w : World) (hsp : SpotsAt w v0 ats) : Calls Try.prog 6 #[v0, a.val] w fun e w1 => e = .returned (.bool true) ∧ Fr [] w w1 := by
  rcases Int.lt_or_le 2000 (ats.length : Int) with h | h
  · exact callsIn_wide.1 (gridOrder_B v0 ats a w hsp h)
  · exact callsIn_wide.1 (gridOrder_A v0 ats a w hsp h)
end Go.Proofs.Ytldppdafgbipjaa
