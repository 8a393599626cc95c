/-
  Contracts of area.May, area.Has, quadrilleref3.May, quadrilleref3.Has.
-/
import Derived.Test.YtnmkhoebijodhaaGreatDoorLeaf
import Derived.Test.YtnmkhoebijodhaaGreatDoorMap
namespace Go.Proofs.YtnmkhoebijodhaaGreatDoor
open Go.RowKit

/-- An area: top, left, bottom, right. -/
structure Ar where
  t : Int
  l : Int
  b : Int
  r : Int
abbrev Ar.val (a : Ar) : Value := .agg #[.int .i64 a.t, .int .i64 a.l, .int .i64 a.b, .int .i64 a.r]
def mayA (a : Ar) : Bool := mayS a.t a.l && mayS a.b a.r && decide (a.t ≤ a.b) && decide (a.l ≤ a.r)
def errA (a : Ar) : Int := if mayA a then 0 else 11
def hasA (a : Ar) (s : Sp) : Bool := mayA a && decide (a.t ≤ s.1) && decide (s.1 ≤ a.b) && decide (a.l ≤ s.2) && decide (s.2 ≤ a.r)

set_option maxHeartbeats 400000 in
theorem areaFirst (a : Ar) (w : World) : Calls Tryz.prog 107 #[a.val] w fun e w1 => e = .returned (spotV a.t a.l) ∧ Fr [] w w1 := by
  go_enter Tryz.func107, Tryz.ntmps107
  go_wp2
  refine bodyPost_ret (v := spotV a.t a.l) (by simp [results, Tryz.results107, go_sem]) rfl ⟨rfl, ?_⟩
  repeat' (first | exact Fr.refl _ _ | apply Fr.drew | apply Fr.alloc | (refine Fr.setCell ?_ (.inr (by simp)) _))
set_option maxHeartbeats 400000 in
theorem areaLast (a : Ar) (w : World) : Calls Tryz.prog 108 #[a.val] w fun e w1 => e = .returned (spotV a.b a.r) ∧ Fr [] w w1 := by
  go_enter Tryz.func108, Tryz.ntmps108
  go_wp2
  refine bodyPost_ret (v := spotV a.b a.r) (by simp [results, Tryz.results108, go_sem]) rfl ⟨rfl, ?_⟩
  repeat' (first | exact Fr.refl _ _ | apply Fr.drew | apply Fr.alloc | (refine Fr.setCell ?_ (.inr (by simp)) _))

set_option maxHeartbeats 1600000 in
theorem areaMay (a : Ar) (w : World) : Calls Tryz.prog 71 #[a.val] w fun e w1 => e = .returned (.int .i64 (errA a)) ∧ Fr [] w w1 := by
  obtain ⟨m1, hm1⟩ : ∃ m, mayS a.t a.l = m := ⟨_, rfl⟩
  obtain ⟨m2, hm2⟩ : ∃ m, mayS a.b a.r = m := ⟨_, rfl⟩
  have H1 := Lib.hid hm1
  have H2 := Lib.hid hm2
  clear hm1 hm2
  go_enter Tryz.func71, Tryz.ntmps71
  go_wp2_with fail
  refine (areaFirst a _).mono ?_
  rintro e w1 ⟨rfl, h1⟩
  go_wp2_with fail
  refine (spotMay _ _ _).mono ?_
  rw [H1.out]
  rintro e w2 ⟨rfl, h2⟩
  obtain ⟨hf, hb, _⟩ := (h1.trans0 h2).new1 (by simp)
  clear h1 h2
  have c0 : w2.cell? ⟨w.heap.size, 0, none⟩ = some (.int .i64 a.t) := cell_of hb 0
  have c1 : w2.cell? ⟨w.heap.size, 1, none⟩ = some (.int .i64 a.l) := cell_of hb 1
  have c2 : w2.cell? ⟨w.heap.size, 2, none⟩ = some (.int .i64 a.b) := cell_of hb 2
  have c3 : w2.cell? ⟨w.heap.size, 3, none⟩ = some (.int .i64 a.r) := cell_of hb 3
  cases m1 with
  | false =>
    go_wp2
    go_ret
    exact ⟨ret_int (by simp [errA, mayA, H1.out]), hf⟩
  | true =>
    go_wp2_with fail
    refine (areaLast a _).mono ?_
    rintro e w3 ⟨rfl, h3⟩
    go_wp2_with fail
    refine (spotMay _ _ _).mono ?_
    rw [H2.out]
    rintro e w4 ⟨rfl, h4⟩
    have hf4 := hf.trans0 (h3.trans0 h4)
    have hb4 := (h3.trans0 h4).heap hb (by simp)
    clear h3 h4 c0 c1 c2 c3 hb hf
    have c0 : w4.cell? ⟨w.heap.size, 0, none⟩ = some (.int .i64 a.t) := cell_of hb4 0
    have c1 : w4.cell? ⟨w.heap.size, 1, none⟩ = some (.int .i64 a.l) := cell_of hb4 1
    have c2 : w4.cell? ⟨w.heap.size, 2, none⟩ = some (.int .i64 a.b) := cell_of hb4 2
    have c3 : w4.cell? ⟨w.heap.size, 3, none⟩ = some (.int .i64 a.r) := cell_of hb4 3
    cases m2 with
    | false =>
      go_wp2
      go_ret
      exact ⟨ret_int (by simp [errA, mayA, H2.out]), hf4⟩
    | true =>
      by_cases h1 : a.t ≤ a.b
      · by_cases h2 : a.l ≤ a.r
        · go_wp2
          go_ret
          exact ⟨ret_int (by simp [errA, mayA, H1.out, H2.out] <;> omega), hf4⟩
        · go_wp2
          go_ret
          exact ⟨ret_int (by simp [errA, mayA, H1.out, H2.out] <;> omega), hf4⟩
      · go_wp2
        go_ret
        exact ⟨ret_int (by simp [errA, mayA, H1.out, H2.out] <;> omega), hf4⟩

set_option maxHeartbeats 1600000 in
theorem areaHas (a : Ar) (s : Sp) (w : World) : Calls Tryz.prog 163 #[a.val, spV s] w fun e w1 => e = .returned (.bool (hasA a s)) ∧ Fr [] w w1 := by
  obtain ⟨m, hm⟩ : ∃ m, errA a = m := ⟨_, rfl⟩
  have HM := Lib.hid hm
  clear hm
  have hma : Hid (mayA a = decide (m = 0)) := by
    show _ = _
    rw [← HM.out]
    unfold errA
    cases mayA a <;> rfl
  go_enter Tryz.func163, Tryz.ntmps163
  go_wp2_with fail
  refine (areaMay a _).mono ?_
  rw [HM.out]
  rintro e w1 ⟨rfl, h1⟩
  obtain ⟨hf, hb, hb2, _⟩ := h1.new2 (by simp)
  clear h1
  have c0 : w1.cell? ⟨w.heap.size, 0, none⟩ = some (.int .i64 a.t) := cell_of hb 0
  have c1 : w1.cell? ⟨w.heap.size, 1, none⟩ = some (.int .i64 a.l) := cell_of hb 1
  have c2 : w1.cell? ⟨w.heap.size, 2, none⟩ = some (.int .i64 a.b) := cell_of hb 2
  have c3 : w1.cell? ⟨w.heap.size, 3, none⟩ = some (.int .i64 a.r) := cell_of hb 3
  have d0 : w1.cell? ⟨w.heap.size + 1, 0, none⟩ = some (.int .i64 s.1) := cell_of hb2 0
  have d1 : w1.cell? ⟨w.heap.size + 1, 1, none⟩ = some (.int .i64 s.2) := cell_of hb2 1
  by_cases h0 : m = 0
  · by_cases h1 : a.t ≤ s.1
    · by_cases h2 : s.1 ≤ a.b
      · by_cases h3 : a.l ≤ s.2
        · by_cases h4 : s.2 ≤ a.r
          all_goals
            go_wp2
            go_ret
            exact ⟨ret_bool (by simp [hasA, hma.out] <;> omega), hf⟩
        · go_wp2
          go_ret
          exact ⟨ret_bool (by simp [hasA, hma.out] <;> omega), hf⟩
      · go_wp2
        go_ret
        exact ⟨ret_bool (by simp [hasA, hma.out] <;> omega), hf⟩
    · go_wp2
      go_ret
      exact ⟨ret_bool (by simp [hasA, hma.out] <;> omega), hf⟩
  · go_wp2
    go_ret
    exact ⟨ret_bool (by simp [hasA, hma.out] <;> omega), hf⟩
end Go.Proofs.YtnmkhoebijodhaaGreatDoor
