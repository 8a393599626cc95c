/-
  spot.May; places as keys; rows of numbers.
-/
import Derived.Test.YtdlpbpohbkcafaaProg
import Derived.Test.YtdlpbpohbkcafaaSlice
namespace Go.Proofs.Ytdlpbpohbkcafaa
open Go.RowKit

/-- A place of the grid. -/
def mayS (r c : Int) : Bool := decide (0 ≤ r ∧ r < 65536 ∧ 0 ≤ c ∧ c < 702)
abbrev spotV (r c : Int) : Value := .agg #[.int .i64 r, .int .i64 c]

set_option maxHeartbeats 400000 in
theorem spotMay (r c : Int) (w : World) : Calls Try.prog 40 #[spotV r c] w fun e w1 => e = .returned (.bool (mayS r c)) ∧ Fr [] w w1 := by
  by_cases h1 : 0 ≤ r
  · by_cases h2 : r < 65536
    · by_cases h3 : 0 ≤ c
      · by_cases h4 : c < 702
        all_goals
          go_enter Try.func40, Try.ntmps40
          go_wp2
          go_ret
          exact ⟨ret_bool (by simp [mayS, *] <;> omega), (Fr.refl _ _).alloc _⟩
      · go_enter Try.func40, Try.ntmps40
        go_wp2
        go_ret
        exact ⟨ret_bool (by simp [mayS, *] <;> omega), (Fr.refl _ _).alloc _⟩
    · go_enter Try.func40, Try.ntmps40
      go_wp2
      go_ret
      exact ⟨ret_bool (by simp [mayS, *] <;> omega), (Fr.refl _ _).alloc _⟩
  · go_enter Try.func40, Try.ntmps40
    go_wp2
    go_ret
    exact ⟨ret_bool (by simp [mayS, *] <;> omega), (Fr.refl _ _).alloc _⟩

theorem run_eqSpot (s t : Sp) (w : World) : (Op.equal 33 (spV s) (spV t)).run Try.prog w = .ok (s == t) w := by
  simp [go_sem, Op.equal, Op.maxDepth]
  obtain ⟨a, b⟩ := s
  obtain ⟨c, d⟩ := t
  by_cases h1 : a = c
  · by_cases h2 : b = d
    · simp [h1, h2]
    · simp [h1, h2]
  · simp [h1]

theorem run_chkSpot (e : Bool) (s : Sp) (w : World) : (Instr.checkKey e 10000 33 (spV s)).run Try.prog w = .ok () w := by kernel_rfl

theorem spotKey : SpotKey Try.prog 33 := ⟨⟨_, Try.underlying33⟩, run_eqSpot, run_chkSpot⟩

abbrev iC (n : Nat) : List Value := [.int .i64 (n : Int)]
theorem infoSpot : (Try.prog.info? 33).map (fun i => (i.zero, i.size, i.bytes)) = some (some (.agg #[.int .i64 0, .int .i64 0]), 2, 16) := by kernel_rfl
theorem infoInt : (Try.prog.info? 3).map (fun i => (i.zero, i.size, i.bytes)) = some (some (.int .i64 0), 1, 8) := by kernel_rfl
theorem zeroInt (w : World) : (zeroValue 3).run Try.prog w = .ok (.int .i64 0) w := by kernel_rfl
end Go.Proofs.Ytdlpbpohbkcafaa
