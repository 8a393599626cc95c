/-
  (*Table[T]).All and Over at quadrille/sheet.cell: an iterator of the rows as they lie now.
-/
import Derived.Test.YtnmkhoebijodhaaGreatDoorOverCell
import Derived.Test.YtnmkhoebijodhaaGreatDoorIterK
import Derived.Test.YtnmkhoebijodhaaGreatDoorArea
namespace Go.Proofs.YtnmkhoebijodhaaGreatDoor
open Go.RowKit Go.Shelf

/-- An iterator's value: its box, and the rows that it goes over. -/
structure IterCell (n0 : Nat) (w : World) (B : Nat) (rv : Value) (R : List (Sp × Cel)) : Prop where
  box : w.cell? ⟨B, 0, none⟩ = some rv
  lt : B < w.heap.size
  le : n0 ≤ B
  own : w.ownsRow n0 218 18 rv R.length (R.flatMap rowCell)

theorem pAll_Cell (s : Sp) (w : World) : Calls Tryz.prog 79 #[spV s] w fun e w1 => e = .returned (.bool true) ∧ Fr [] w w1 := by
  go_enter Tryz.func79, Tryz.ntmps79
  go_wp2
  go_ret
  refine ⟨rfl, ?_⟩
  repeat' (first | exact Fr.refl _ _ | apply Fr.drew | apply Fr.alloc)

theorem all_Cell (tb mb : Nat) (l : List (Sp × Cel)) (w : World) (h : TabIs 163 (fun x : Cel => Cel.val x) w tb mb l) (hl : l.length ≤ 65536) :
    Calls Tryz.prog 58 #[.pointer (some ⟨tb, 0, none⟩)] w fun e w1 => ∃ (B : Nat) (rv : Value), e = .returned (.func (.func 114) #[] #[.pointer (some ⟨B, 0, none⟩)]) ∧
      IterCell w.heap.size w1 B rv (rowsS cel0 (fun _ => true) l (sortS (l.map (·.1)))) ∧ Fr [] w w1 := by
  have HL := Lib.hid hl
  clear hl
  go_enter Tryz.func58, Tryz.ntmps58
  go_wp2_with fail
  refine (over_Cell tb mb l 79 #[] (fun _ => true) _ h HL.out (enters_of Tryz.func79 (by kernel_rfl) rfl) (fun s W' _ => pAll_Cell s W')).mono ?_
  rintro e w1 ⟨B, rv, rfl, hb, hB, hown, hf⟩
  have hlt : B < w1.heap.size := World.block_lt_of_cell? w1 ⟨B, 0, none⟩ hb
  have H := Lib.hid (IterCell.mk hb hlt hB hown)
  clear hb hown
  go_wp2
  go_ret
  exact ⟨B, rv, rfl, H.out, hf⟩
end Go.Proofs.YtnmkhoebijodhaaGreatDoor
