/-
  Contracts of the small functions: spot.May, value.May, value.Same.
-/
import Derived.Test.YtnmkhoebijodhaaGreatDoorProg
import Derived.Test.YtnmkhoebijodhaaGreatDoorBase
namespace Go.Proofs.YtnmkhoebijodhaaGreatDoor
open Go.RowKit

/-- A place of the grid. -/
def mayS (r c : Int) : Bool := decide (0 ≤ r ∧ r < 65536 ∧ 0 ≤ c ∧ c < 702)
abbrev spotV (r c : Int) : Value := .agg #[.int .i64 r, .int .i64 c]

set_option maxHeartbeats 400000 in
theorem spotMay (r c : Int) (w : World) : Calls Tryz.prog 54 #[spotV r c] w fun e w1 => e = .returned (.bool (mayS r c)) ∧ Fr [] w w1 := by
  by_cases h1 : 0 ≤ r
  · by_cases h2 : r < 65536
    · by_cases h3 : 0 ≤ c
      · by_cases h4 : c < 702
        all_goals
          go_enter Tryz.func54, Tryz.ntmps54
          go_wp2
          go_ret
          exact ⟨ret_bool (by simp [mayS, *] <;> omega), (Fr.refl _ _).alloc _⟩
      · go_enter Tryz.func54, Tryz.ntmps54
        go_wp2
        go_ret
        exact ⟨ret_bool (by simp [mayS, *] <;> omega), (Fr.refl _ _).alloc _⟩
    · go_enter Tryz.func54, Tryz.ntmps54
      go_wp2
      go_ret
      exact ⟨ret_bool (by simp [mayS, *] <;> omega), (Fr.refl _ _).alloc _⟩
  · go_enter Tryz.func54, Tryz.ntmps54
    go_wp2
    go_ret
    exact ⟨ret_bool (by simp [mayS, *] <;> omega), (Fr.refl _ _).alloc _⟩

/-- A value of the program: its kind, its number, its text. -/
structure V where
  k : Int
  n : Int
  s : ByteArray
abbrev V.val (v : V) : Value := .agg #[.int .i64 v.k, .int .i64 v.n, .string v.s]

/-- There is the value. -/
def mayV (v : V) : Bool :=
  if v.k = 0 then decide (v.n = 0) && v.s.toList.isEmpty
  else if v.k = 1 then v.s.toList.isEmpty
  else if v.k = 2 then decide (v.n = 0 ∨ v.n = 1) && v.s.toList.isEmpty
  else if v.k = 3 then decide (v.n = 0 ∧ v.s.size ≤ 32767)
  else if v.k = 4 then decide (1 ≤ v.n ∧ v.n ≤ 6) && v.s.toList.isEmpty
  else false

set_option maxHeartbeats 800000 in
theorem valueMay (v : V) (w : World) (hs : v.s.size ≤ 9223372036854775807) : Calls Tryz.prog 147 #[v.val] w fun e w1 => e = .returned (.bool (mayV v)) ∧ Fr [] w w1 := by
  obtain ⟨k, n, s⟩ := v
  dsimp only at hs
  rcases (by omega : k = 0 ∨ k = 1 ∨ k = 2 ∨ k = 3 ∨ k = 4 ∨ (k ≠ 0 ∧ k ≠ 1 ∧ k ≠ 2 ∧ k ≠ 3 ∧ k ≠ 4)) with rfl | rfl | rfl | rfl | rfl | ⟨h0, h1, h2, h3, h4⟩
  all_goals
    go_enter Tryz.func147, Tryz.ntmps147
    go_wp2
    all_goals
      go_ret
      refine ⟨ret_bool ?_, (Fr.refl _ _).alloc _⟩
      simp [mayV, *]
      try omega

end Go.Proofs.YtnmkhoebijodhaaGreatDoor
