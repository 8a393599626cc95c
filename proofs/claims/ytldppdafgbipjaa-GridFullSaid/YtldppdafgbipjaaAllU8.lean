/-
  (*Table[T]).All and Over at uint8: an iterator of the rows as they lie now.
-/
import Derived.Test.YtldppdafgbipjaaOverU8
import Derived.Test.YtldppdafgbipjaaIterK
import Derived.Test.YtldppdafgbipjaaArea
namespace Go.Proofs.Ytldppdafgbipjaa
open Go.RowKit Go.Shelf

/-- An iterator's value: its box, and the rows that it goes over. -/
structure IterU8 (n0 : Nat) (w : World) (B : Nat) (rv : Value) (R : List (Sp × Int)) : Prop where
  box : w.cell? ⟨B, 0, none⟩ = some rv
  lt : B < w.heap.size
  le : n0 ≤ B
  own : w.ownsRow n0 212 3 rv R.length (R.flatMap rowU8)

theorem pAll_U8 (s : Sp) (w : World) : Calls Try.prog 83 #[spV s] w fun e w1 => e = .returned (.bool true) ∧ Fr [] w w1 := by
  go_enter Try.func83, Try.ntmps83
  go_wp2
  go_ret
  refine ⟨rfl, ?_⟩
  repeat' (first | exact Fr.refl _ _ | apply Fr.drew | apply Fr.alloc)

theorem all_U8 (tb mb : Nat) (l : List (Sp × Int)) (w : World) (h : TabIs 161 (fun x : Int => .int .u8 x) w tb mb l) (hl : l.length ≤ 65536) :
    Calls Try.prog 45 #[.pointer (some ⟨tb, 0, none⟩)] w fun e w1 => ∃ (B : Nat) (rv : Value), e = .returned (.func (.func 110) #[] #[.pointer (some ⟨B, 0, none⟩)]) ∧
      IterU8 w.heap.size w1 B rv (rowsS 0 (fun _ => true) l (sortS (l.map (·.1)))) ∧ Fr [] w w1 := by
  have HL := Lib.hid hl
  clear hl
  go_enter Try.func45, Try.ntmps45
  go_wp2_with fail
  refine (over_U8 tb mb l 83 #[] (fun _ => true) _ h HL.out (enters_of Try.func83 (by kernel_rfl) rfl) (fun s W' _ => pAll_U8 s W')).mono ?_
  rintro e w1 ⟨B, rv, rfl, hb, hB, hown, hf⟩
  have hlt : B < w1.heap.size := World.block_lt_of_cell? w1 ⟨B, 0, none⟩ hb
  have H := Lib.hid (IterU8.mk hb hlt hB hown)
  clear hb hown
  go_wp2
  go_ret
  exact ⟨B, rv, rfl, H.out, hf⟩
end Go.Proofs.Ytldppdafgbipjaa
