/-
  cmp.Compare, cmp.Or and spot.Compare.
-/
import Derived.Test.YtnmkhoebijodhaaGreatDoorGrid
import Derived.Test.YtnmkhoebijodhaaGreatDoorSlice
import Derived.Sort.Grow
import Derived.Deep.Draws
import Derived.Deep.RegionHeld3
import Derived.Lib.Hide
namespace Go.Proofs.YtnmkhoebijodhaaGreatDoor
open Go.RowKit

def cmpI (x y : Int) : Int := if x < y then -1 else if x > y then 1 else 0
def orI (a b : Int) : Int := if a ≠ 0 then a else b
def cmpS (s t : Sp) : Int := orI (cmpI s.1 t.1) (cmpI s.2 t.2)

theorem isNaN_int (x : Int) (w : World) : Calls Tryz.prog 145 #[.int .i64 x] w fun e w' => e = .returned (.bool false) ∧ w' = w := by
  go_enter Tryz.func145, Tryz.ntmps145
  go_wp2
  go_ret
  exact ⟨rfl, rfl⟩

theorem compare_int (x y : Int) (w : World) : Calls Tryz.prog 101 #[.int .i64 x, .int .i64 y] w fun e w' => e = .returned (.int .i64 (cmpI x y)) ∧ w' = w := by
  unfold cmpI
  go_enter Tryz.func101, Tryz.ntmps101
  by_cases h1 : x < y
  · rw [if_pos h1]
    go_wp2_with (go_at_call 145; refine (isNaN_int _ _).mono ?_; rintro e w' ⟨rfl, hw⟩; rw [hw])
    go_ret
    exact ⟨rfl, rfl⟩
  · rw [if_neg h1]
    by_cases h2 : y < x
    · rw [if_pos h2]
      go_wp2_with (go_at_call 145; refine (isNaN_int _ _).mono ?_; rintro e w' ⟨rfl, hw⟩; rw [hw])
      go_ret
      exact ⟨rfl, rfl⟩
    · rw [if_neg h2]
      go_wp2_with (go_at_call 145; refine (isNaN_int _ _).mono ?_; rintro e w' ⟨rfl, hw⟩; rw [hw])
      go_ret
      exact ⟨rfl, rfl⟩

theorem or_int (a b : Int) (g : Nat) (w : World) (h0 : w.cell? ⟨g, 0, none⟩ = some (.int .i64 a)) (h1 : w.cell? ⟨g, 1, none⟩ = some (.int .i64 b)) :
    Calls Tryz.prog 100 #[.slice (some ⟨g, 0, none⟩) 2 2] w fun e w' => e = .returned (.int .i64 (orI a b)) ∧ w' = w := by
  obtain ⟨r, hr⟩ : ∃ r, orI a b = r := ⟨_, rfl⟩
  rw [hr]
  unfold orI at hr
  go_enter Tryz.func100, Tryz.ntmps100
  go_wp2
  go_loopw [8] (fun i wr => wr = w ∧ ((i = .int .i64 0) ∨ (i = .int .i64 1 ∧ a = 0) ∨ (i = .int .i64 2 ∧ a = 0 ∧ b = 0))) (fun i _ => (2 - intOf i).toNat)
  case atStart => exact ⟨rfl, .inl rfl⟩
  case round =>
    obtain ⟨rfl, rfl | ⟨rfl, rfl⟩ | ⟨rfl, rfl, rfl⟩⟩ := hrel
    · by_cases ha : a = 0
      · subst ha
        go_wp2
        go_roundw
        case rel => exact ⟨by trivial, .inr (.inl ⟨by go_num, by trivial⟩)⟩
        case measure => simp [intOf]
      · rw [if_pos ha] at hr
        subst hr
        go_wp2
        go_ret
        exact ⟨rfl, rfl⟩
    · by_cases hb : b = 0
      · subst hb
        go_wp2
        go_roundw
        case rel => exact ⟨by trivial, .inr (.inr ⟨by go_num, by trivial, by trivial⟩)⟩
        case measure => simp [intOf]
      · simp at hr
        subst hr
        go_wp2
        go_ret
        exact ⟨rfl, rfl⟩
    · simp at hr
      subst hr
      go_wp2
      go_ret
      exact ⟨rfl, rfl⟩

/-- Draws and new blocks alone. -/
def Gr (W w' : World) : Prop := ∃ q os', w' = Sort.grow (W.drewN q) os'
theorem Gr.refl (W : World) : Gr W W := ⟨0, #[], by rw [Sort.grow_empty]; rfl⟩
theorem Gr.alloc {W w' : World} (h : Gr W w') (o : Obj) : Gr W (w'.alloc o) := by
  obtain ⟨q, os, rfl⟩ := h
  exact ⟨q, os ++ #[o], by rw [Sort.alloc_eq_grow, Sort.grow_grow]⟩
theorem Gr.drew {W w' : World} (h : Gr W w') : Gr W w'.drew := by
  obtain ⟨q, os, rfl⟩ := h
  exact ⟨q + 1, os, by rw [Sort.drew_grow]; rfl⟩
theorem Gr.drewN {W w' : World} (h : Gr W w') (m : Nat) : Gr W (w'.drewN m) := by
  obtain ⟨q, os, rfl⟩ := h
  refine ⟨q + m, os, ?_⟩
  simp [World.drewN, Sort.grow, Nat.add_assoc]

set_option maxRecDepth 100000 in
set_option maxHeartbeats 1600000 in
theorem spotCompare (s t : Sp) (W : World) : Calls Tryz.prog 67 #[spV s, spV t] W fun e w' => e = .returned (.int .i64 (cmpS s t)) ∧ Gr W w' := by
  unfold cmpS
  obtain ⟨c1, h1⟩ : ∃ c, cmpI s.1 t.1 = c := ⟨_, rfl⟩
  obtain ⟨c2, h2⟩ : ∃ c, cmpI s.2 t.2 = c := ⟨_, rfl⟩
  have H1 := Lib.hid h1
  have H2 := Lib.hid h2
  rw [h1, h2]
  clear h1 h2
  go_enter Tryz.func67, Tryz.ntmps67
  go_wp2_with fail
  have k1 := heap_new W (.cells #[.int .i64 s.1, .int .i64 s.2] 33)
  have k1 := ((Fr.refl [] _).alloc (.cells #[.int .i64 t.1, .int .i64 t.2] 33)).heap k1 (by simp)
  have k2 := heap_new (W.alloc (.cells #[.int .i64 s.1, .int .i64 s.2] 33)) (.cells #[.int .i64 t.1, .int .i64 t.2] 33)
  rw [World.size_alloc] at k2
  have hG : Gr W ((W.alloc (.cells #[.int .i64 s.1, .int .i64 s.2] 33)).alloc (.cells #[.int .i64 t.1, .int .i64 t.2] 33)) := ((Gr.refl W).alloc _).alloc _
  generalize (W.alloc (.cells #[.int .i64 s.1, .int .i64 s.2] 33)).alloc (.cells #[.int .i64 t.1, .int .i64 t.2] 33) = W2 at *
  have a0 : W2.cell? ⟨W.heap.size, 0, none⟩ = some (.int .i64 s.1) := cell_of k1 0
  have a1 : W2.cell? ⟨W.heap.size, 1, none⟩ = some (.int .i64 s.2) := cell_of k1 1
  have b0 : W2.cell? ⟨W.heap.size + 1, 0, none⟩ = some (.int .i64 t.1) := cell_of k2 0
  have b1 : W2.cell? ⟨W.heap.size + 1, 1, none⟩ = some (.int .i64 t.2) := cell_of k2 1
  clear k1 k2
  go_region_held3 (fun u => u.cell? ⟨W.heap.size, 0, none⟩ = some (.int .i64 s.1) ∧ u.cell? ⟨W.heap.size, 1, none⟩ = some (.int .i64 s.2) ∧ u.cell? ⟨W.heap.size + 1, 0, none⟩ = some (.int .i64 t.1) ∧ u.cell? ⟨W.heap.size + 1, 1, none⟩ = some (.int .i64 t.2))
    (((try dsimp only); refine ⟨?_, ?_, ?_, ?_⟩ <;> (repeat first | with_reducible assumption | with_reducible refine ce_drew ?_ | with_reducible refine ce_old ?_)))
    ((first
      | (go_at_call 101; refine (compare_int _ _ _).mono ?_; (first | rw [H1.out] | rw [H2.out]); rintro e w' ⟨rfl, hw⟩; rw [hw])
      | (go_at_call 100; refine (or_int c1 c2 _ _ (by first | exact cell_of (heap_new _ _) 0 | exact ce_drew (cell_of (heap_new _ _) 0)) (by first | exact cell_of (heap_new _ _) 1 | exact ce_drew (cell_of (heap_new _ _) 1))).mono ?_; rintro e w' ⟨rfl, hw⟩; rw [hw])))
  go_wp2
  go_ret
  exact ⟨rfl, by repeat (first | with_reducible exact hG | with_reducible refine Gr.drew ?_ | with_reducible refine Gr.alloc ?_ _)⟩
end Go.Proofs.YtnmkhoebijodhaaGreatDoor
