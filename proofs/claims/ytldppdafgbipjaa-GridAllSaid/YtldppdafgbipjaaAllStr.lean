/-
  (*Table[T]).All and Over at string: an iterator of the rows as they lie now.
-/
import Derived.Test.YtldppdafgbipjaaOverStr
import Derived.Test.YtldppdafgbipjaaIterK
import Derived.Test.YtldppdafgbipjaaArea
namespace Go.Proofs.Ytldppdafgbipjaa
open Go.RowKit Go.Shelf

/-- An iterator's value: its box, and the rows that it goes over. -/
structure IterStr (n0 : Nat) (w : World) (B : Nat) (rv : Value) (R : List (Sp × ByteArray)) : Prop where
  box : w.cell? ⟨B, 0, none⟩ = some rv
  lt : B < w.heap.size
  le : n0 ≤ B
  own : w.ownsRow n0 230 3 rv R.length (R.flatMap rowStr)

theorem pAll_Str (s : Sp) (w : World) : Calls Try.prog 101 #[spV s] w fun e w1 => e = .returned (.bool true) ∧ Fr [] w w1 := by
  go_enter Try.func101, Try.ntmps101
  go_wp2
  go_ret
  refine ⟨rfl, ?_⟩
  repeat' (first | exact Fr.refl _ _ | apply Fr.drew | apply Fr.alloc)

theorem all_Str (tb mb : Nat) (l : List (Sp × ByteArray)) (w : World) (h : TabIs 198 (fun x : ByteArray => .string x) w tb mb l) (hl : l.length ≤ 65536) :
    Calls Try.prog 67 #[.pointer (some ⟨tb, 0, none⟩)] w fun e w1 => ∃ (B : Nat) (rv : Value), e = .returned (.func (.func 125) #[] #[.pointer (some ⟨B, 0, none⟩)]) ∧
      IterStr w.heap.size w1 B rv (rowsS ⟨#[]⟩ (fun _ => true) l (sortS (l.map (·.1)))) ∧ Fr [] w w1 := by
  have HL := Lib.hid hl
  clear hl
  go_enter Try.func67, Try.ntmps67
  go_wp2_with fail
  refine (over_Str tb mb l 101 #[] (fun _ => true) _ h HL.out (enters_of Try.func101 (by kernel_rfl) rfl) (fun s W' _ => pAll_Str s W')).mono ?_
  rintro e w1 ⟨B, rv, rfl, hb, hB, hown, hf⟩
  have hlt : B < w1.heap.size := World.block_lt_of_cell? w1 ⟨B, 0, none⟩ hb
  have H := Lib.hid (IterStr.mk hb hlt hB hown)
  clear hb hown
  go_wp2
  go_ret
  exact ⟨B, rv, rfl, H.out, hf⟩

theorem pOver_Str (s : Sp) (a : Ar) (ab : Nat) (w : World) (h : w.heap[ab]? = some (.cells #[.int .i64 a.t, .int .i64 a.l, .int .i64 a.b, .int .i64 a.r] 54 (0, 0))) :
    Calls Try.prog 102 #[spV s, .pointer (some ⟨ab, 0, none⟩)] w fun e w1 => e = .returned (.bool (hasA a s)) ∧ Fr [] w w1 := by
  have hlt := lt_of h
  have hlt1 : ∀ k, ab < w.heap.size + k := fun k => by omega
  have c0 : w.cell? ⟨ab, 0, none⟩ = some (.int .i64 a.t) := cell_of h 0
  have c1 : w.cell? ⟨ab, 1, none⟩ = some (.int .i64 a.l) := cell_of h 1
  have c2 : w.cell? ⟨ab, 2, none⟩ = some (.int .i64 a.b) := cell_of h 2
  have c3 : w.cell? ⟨ab, 3, none⟩ = some (.int .i64 a.r) := cell_of h 3
  clear h
  go_enter Try.func102, Try.ntmps102
  go_wp2_with fail
  refine (areaHas a s _).mono ?_
  rintro e wA ⟨rfl, hA⟩
  go_wp2
  go_ret
  refine ⟨rfl, ?_⟩
  refine Fr.trans0 ?_ hA
  repeat' (first | exact Fr.refl _ _ | apply Fr.drew | apply Fr.alloc)

theorem overA_Str (tb mb : Nat) (l : List (Sp × ByteArray)) (a : Ar) (w : World) (h : TabIs 198 (fun x : ByteArray => .string x) w tb mb l) (hl : l.length ≤ 65536) :
    Calls Try.prog 68 #[.pointer (some ⟨tb, 0, none⟩), a.val] w fun e w1 => ∃ (B : Nat) (rv : Value), e = .returned (.func (.func 125) #[] #[.pointer (some ⟨B, 0, none⟩)]) ∧
      IterStr w.heap.size w1 B rv (rowsS ⟨#[]⟩ (hasA a) l (sortS (l.map (·.1)))) ∧ Fr [] w w1 := by
  have HL := Lib.hid hl
  have HT := Lib.hid h
  clear hl h
  go_enter Try.func68, Try.ntmps68
  go_wp2_with fail
  refine (over_Str tb mb l 102 #[.pointer (some ⟨w.heap.size, 0, none⟩)] (hasA a) _ (HT.out.fr ((Fr.refl [] w).alloc _) (by simp) (by simp)) HL.out (enters_of Try.func102 (by kernel_rfl) rfl)
    (fun s W' hW => pOver_Str s a w.heap.size W' (hW.heap (heap_new w _) (by simp)))).mono ?_
  rintro e w1 ⟨B, rv, rfl, hb, hB, hown, hf⟩
  have hlt : B < w1.heap.size := World.block_lt_of_cell? w1 ⟨B, 0, none⟩ hb
  have hB2 : w.heap.size ≤ B := by simp at hB; omega
  have H := Lib.hid (IterStr.mk hb hlt hB2 (owns_mono hown (by simp)))
  clear hb hown
  go_wp2
  go_ret
  exact ⟨B, rv, rfl, H.out, ((Fr.refl [] w).alloc _).trans0 hf⟩
end Go.Proofs.Ytldppdafgbipjaa
