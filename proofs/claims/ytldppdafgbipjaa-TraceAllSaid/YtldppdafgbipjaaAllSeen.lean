/-
  (*Table[T]).All and Over at quadrille/trace.seen: an iterator of the rows as they lie now.
-/
import Derived.Test.YtldppdafgbipjaaOverSeen
import Derived.Test.YtldppdafgbipjaaIterK
import Derived.Test.YtldppdafgbipjaaArea
namespace Go.Proofs.Ytldppdafgbipjaa
open Go.RowKit Go.Shelf

/-- An iterator's value: its box, and the rows that it goes over. -/
structure IterSeen (n0 : Nat) (w : World) (B : Nat) (rv : Value) (R : List (Sp × Seen)) : Prop where
  box : w.cell? ⟨B, 0, none⟩ = some rv
  lt : B < w.heap.size
  le : n0 ≤ B
  own : w.ownsRow n0 242 6 rv R.length (R.flatMap rowSeen)

theorem pAll_Seen (s : Sp) (w : World) : Calls Try.prog 115 #[spV s] w fun e w1 => e = .returned (.bool true) ∧ Fr [] w w1 := by
  go_enter Try.func115, Try.ntmps115
  go_wp2
  go_ret
  refine ⟨rfl, ?_⟩
  repeat' (first | exact Fr.refl _ _ | apply Fr.drew | apply Fr.alloc)

theorem all_Seen (tb mb : Nat) (l : List (Sp × Seen)) (w : World) (h : TabIs 192 (fun x : Seen => Seen.val x) w tb mb l) (hl : l.length ≤ 65536) :
    Calls Try.prog 89 #[.pointer (some ⟨tb, 0, none⟩)] w fun e w1 => ∃ (B : Nat) (rv : Value), e = .returned (.func (.func 138) #[] #[.pointer (some ⟨B, 0, none⟩)]) ∧
      IterSeen w.heap.size w1 B rv (rowsS seen0 (fun _ => true) l (sortS (l.map (·.1)))) ∧ Fr [] w w1 := by
  have HL := Lib.hid hl
  clear hl
  go_enter Try.func89, Try.ntmps89
  go_wp2_with fail
  refine (over_Seen tb mb l 115 #[] (fun _ => true) _ h HL.out (enters_of Try.func115 (by kernel_rfl) rfl) (fun s W' _ => pAll_Seen s W')).mono ?_
  rintro e w1 ⟨B, rv, rfl, hb, hB, hown, hf⟩
  have hlt : B < w1.heap.size := World.block_lt_of_cell? w1 ⟨B, 0, none⟩ hb
  have H := Lib.hid (IterSeen.mk hb hlt hB hown)
  clear hb hown
  go_wp2
  go_ret
  exact ⟨B, rv, rfl, H.out, hf⟩
end Go.Proofs.Ytldppdafgbipjaa
