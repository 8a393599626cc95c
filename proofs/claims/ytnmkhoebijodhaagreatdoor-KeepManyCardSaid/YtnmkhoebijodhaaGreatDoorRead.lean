/-
  sheet.read at a text that is no formula.
-/
import Derived.Test.YtnmkhoebijodhaaGreatDoorShA
namespace Go.Proofs.YtnmkhoebijodhaaGreatDoor
open Go.RowKit

/-- A literal's cell. -/
def litC (t : ByteArray) : Cel := ⟨t, 1, ex0⟩
/-- A text: not empty, its first byte no '='. -/
structure LitT (t : ByteArray) : Prop where
  pos : 0 < t.size
  le : t.size ≤ 40
  ne : ∀ h : 0 < t.size, (t[0]'h).toNat ≠ 61
theorem bytes_some {t : ByteArray} (h : 0 < t.size) : t.toList.isEmpty = false := by
  rw [ByteArray.toList_eq]
  cases hd : t.data.toList with
  | nil =>
    have : t.data.toList.length = 0 := by rw [hd]; rfl
    rw [Array.length_toList] at this
    have h2 : t.data.size = t.size := rfl
    omega
  | cons x l => rfl

set_option maxRecDepth 100000 in
set_option maxHeartbeats 1600000 in
theorem shRead (t : ByteArray) (w : World) (h : LitT t) : Calls Tryz.prog 116 #[.string t] w fun e w1 => e = .returned (litC t).val ∧ Fr [] w w1 := by
  obtain ⟨h0, h1, h2⟩ := h
  have hne := bytes_some h0
  have he : (((t[0]'h0).toNat : Int) == 61) = false := by
    have := h2 h0
    simp only [beq_eq_false_iff_ne, ne_eq]
    omega
  clear h2 h1
  go_enter Tryz.func116, Tryz.ntmps116
  go_wp2_with fail
  exact bodyPost_ret (v := (litC t).val) (results_cell_row Tryz.results116 _ _ w.heap.size 106 _ (0, 0) _ rfl (((Fr.refl [] _).alloc _).heap (heap_new w _) (by simp)) Tryz.underlying106 rfl (by kernel_rfl)) rfl ⟨rfl, ((Fr.refl [] w).alloc _).alloc _⟩
end Go.Proofs.YtnmkhoebijodhaaGreatDoor
