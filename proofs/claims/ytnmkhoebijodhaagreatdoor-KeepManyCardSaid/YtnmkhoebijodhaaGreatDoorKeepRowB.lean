/-
  quadrillelaw29.KeepMany returns true for every two whole numbers and every text: the row.
  Conditions: what the row lists.
-/
import Derived.Test.YtnmkhoebijodhaaGreatDoorKeepLift
import Derived.Test.YtnmkhoebijodhaaGreatDoorKeepClo
namespace Go.Proofs.YtnmkhoebijodhaaGreatDoor
open Go.ChangeShapes Go.WideShapes Go.ChangeAt Go.RowKit

set_option maxHeartbeats 12800000 in
theorem keepMany_joined : joinedFacts Tryz.prog 4 Tryz.f4 Rows.keepManySpec Rows.keepManyRow = true := by
  unfold joinedFacts
  simp only [Bool.and_eq_true]
  repeat' (with_reducible apply And.intro)
  all_goals first | with_reducible exact keepMany_inPlace | with_reducible exact keepMany_unfollowed | with_reducible exact keepMany_recurses | with_reducible exact keepMany_named | with_reducible exact Tryz.laidOut | (as_aux_lemma => kernel_rfl)

set_option maxHeartbeats 12800000 in
theorem keepMany_row : Rows.KeepManySaid :=
  OpenClaim.holds_of_wide 4 Tryz.f4 rfl rfl rfl rfl rfl rfl rfl ⟨rfl, rfl, rfl, rfl, rfl⟩ rfl rfl rfl rfl rfl (by as_aux_lemma => kernel_rfl) Tryz.func4 keepMany_joined
    (of_decide_eq_true (by as_aux_lemma => kernel_rfl)) (by as_aux_lemma => (unfold Func.isWrapper; first | (rw [if_neg (by decide +kernel)]; exact ⟨rfl, rfl⟩) | (rw [if_pos (by decide +kernel)]; kernel_rfl)))
    (fun os started H enc _ => keepMany_lifted os started H enc)

end Go.Proofs.YtnmkhoebijodhaaGreatDoor
