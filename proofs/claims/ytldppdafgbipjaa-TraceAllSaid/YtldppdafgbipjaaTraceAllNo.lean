/-
  quadrillelaw22.TraceAll where a width is refused.
-/
import Derived.Test.YtldppdafgbipjaaTwo22
import Derived.Test.YtldppdafgbipjaaBegun22
namespace Go.Proofs.Ytldppdafgbipjaa
open Go.RowKit

set_option maxRecDepth 100000 in
set_option maxHeartbeats 3200000 in
theorem traceAll_nn (one two : Int) (v0 : Value) (w : World) (hone : one < 0 ∨ 64 < one) (htwo : two < 0 ∨ 64 < two) : Calls Try.prog 11 #[.int .i64 one, .int .i64 two, v0] w fun e w1 => e = .returned (.bool true) ∧ Fr [] w w1 := by
  go_enter Try.func11, Try.ntmps11
  go_wp2_with fail
  refine (begun22 _).mono ?_
  rintro e w1 ⟨rfl, g1⟩
  go_wp2_with fail
  have g2 : Fr [] w ((w1.alloc (.cells #[.pointer none, .pointer none] tPr)).alloc (.cells #[.pointer none, .pointer none] tPr)) := (g1.alloc _).alloc _
  have hA : ((w1.alloc (.cells #[.pointer none, .pointer none] tPr)).alloc (.cells #[.pointer none, .pointer none] tPr)).heap[w1.heap.size]? = some (.cells #[.pointer none, .pointer none] tPr (0, 0)) := hp_old (heap_new w1 _)
  have hB : ((w1.alloc (.cells #[.pointer none, .pointer none] tPr)).alloc (.cells #[.pointer none, .pointer none] tPr)).heap[w1.heap.size + 1]? = some (.cells #[.pointer none, .pointer none] tPr (0, 0)) := hp_new (by simp)
  have hz := g1.size
  generalize (w1.alloc (.cells #[.pointer none, .pointer none] tPr)).alloc (.cells #[.pointer none, .pointer none] tPr) = W at *
  generalize w1.heap.size = A at *
  have hne : A + 1 ≠ A := by omega
  have hne2 : A ≠ A + 1 := by omega
  clear g1
  refine (traceNew_no one _ hone).mono ?_
  rintro e w2 ⟨rfl, f1⟩
  have hA := f1.heap hA (by simp)
  have hB := f1.heap hB (by simp)
  have F1 := g2.trans0 f1
  have hAc := cell_of hA
  have hAf := free_of hA
  have hBc := cell_of hB
  have hBf := free_of hB
  have u1 : Fr [A] w2 (w2.setCell ⟨A, 0, none⟩ (.pointer none)) := (Fr.refl _ w2).setCell (.inl (by simp)) _
  have hA2 := set_of hA 0 (.pointer none)
  have hB2 := u1.heap hB (by simp)
  have G1 : Fr [] w (w2.setCell ⟨A, 0, none⟩ (.pointer none)) := F1.trans u1 (by simp; omega)
  clear f1 u1 F1
  go_wp2_with fail
  clear hA hB hAc hAf hBc hBf
  generalize w2.setCell ⟨A, 0, none⟩ (.pointer none) = U1 at *
  have hA := hA2
  have hB := hB2
  clear hA2 hB2
  refine (refNew_no one _ hone).mono ?_
  rintro e w3 ⟨rfl, f2⟩
  have hA := f2.heap hA (by simp)
  have hB := f2.heap hB (by simp)
  have F2 := G1.trans0 f2
  have hAc := cell_of hA
  have hAf := free_of hA
  have hBc := cell_of hB
  have hBf := free_of hB
  have u2 : Fr [A] w3 (w3.setCell ⟨A, 1, none⟩ (.pointer none)) := (Fr.refl _ w3).setCell (.inl (by simp)) _
  have hA2 := set_of hA 1 (.pointer none)
  have hB2 := u2.heap hB (by simp)
  have G2 : Fr [] w (w3.setCell ⟨A, 1, none⟩ (.pointer none)) := F2.trans u2 (by simp; omega)
  clear f2 u2 F2
  go_wp2_with fail
  clear hA hB hAc hAf hBc hBf
  generalize w3.setCell ⟨A, 1, none⟩ (.pointer none) = U2 at *
  have hA := hA2
  have hB := hB2
  clear hA2 hB2
  refine (traceNew_no two _ htwo).mono ?_
  rintro e w4 ⟨rfl, f3⟩
  have hA := f3.heap hA (by simp)
  have hB := f3.heap hB (by simp)
  have F3 := G2.trans0 f3
  have hAc := cell_of hA
  have hAf := free_of hA
  have hBc := cell_of hB
  have hBf := free_of hB
  have u3 : Fr [(A + 1)] w4 (w4.setCell ⟨(A + 1), 0, none⟩ (.pointer none)) := (Fr.refl _ w4).setCell (.inl (by simp)) _
  have hB2 := set_of hB 0 (.pointer none)
  have hA2 := u3.heap hA (by simp)
  have G3 : Fr [] w (w4.setCell ⟨(A + 1), 0, none⟩ (.pointer none)) := F3.trans u3 (by simp; omega)
  clear f3 u3 F3
  go_wp2_with fail
  clear hA hB hAc hAf hBc hBf
  generalize w4.setCell ⟨(A + 1), 0, none⟩ (.pointer none) = U3 at *
  have hA := hA2
  have hB := hB2
  clear hA2 hB2
  refine (refNew_no two _ htwo).mono ?_
  rintro e w5 ⟨rfl, f4⟩
  have hA := f4.heap hA (by simp)
  have hB := f4.heap hB (by simp)
  have F4 := G3.trans0 f4
  have hAc := cell_of hA
  have hAf := free_of hA
  have hBc := cell_of hB
  have hBf := free_of hB
  have u4 : Fr [(A + 1)] w5 (w5.setCell ⟨(A + 1), 1, none⟩ (.pointer none)) := (Fr.refl _ w5).setCell (.inl (by simp)) _
  have hB2 := set_of hB 1 (.pointer none)
  have hA2 := u4.heap hA (by simp)
  have G4 : Fr [] w (w5.setCell ⟨(A + 1), 1, none⟩ (.pointer none)) := F4.trans u4 (by simp; omega)
  clear f4 u4 F4
  go_wp2
  go_ret
  exact ⟨rfl, G4⟩

set_option maxRecDepth 100000 in
set_option maxHeartbeats 3200000 in
theorem traceAll_no' (one two : Int) (v0 : Value) (w : World) (hone : one < 0 ∨ 64 < one) (htwo : 0 ≤ two ∧ two ≤ 64) : Calls Try.prog 11 #[.int .i64 one, .int .i64 two, v0] w fun e w1 => e = .returned (.bool true) ∧ Fr [] w w1 := by
  go_enter Try.func11, Try.ntmps11
  go_wp2_with fail
  refine (begun22 _).mono ?_
  rintro e w1 ⟨rfl, g1⟩
  go_wp2_with fail
  have g2 : Fr [] w ((w1.alloc (.cells #[.pointer none, .pointer none] tPr)).alloc (.cells #[.pointer none, .pointer none] tPr)) := (g1.alloc _).alloc _
  have hA : ((w1.alloc (.cells #[.pointer none, .pointer none] tPr)).alloc (.cells #[.pointer none, .pointer none] tPr)).heap[w1.heap.size]? = some (.cells #[.pointer none, .pointer none] tPr (0, 0)) := hp_old (heap_new w1 _)
  have hB : ((w1.alloc (.cells #[.pointer none, .pointer none] tPr)).alloc (.cells #[.pointer none, .pointer none] tPr)).heap[w1.heap.size + 1]? = some (.cells #[.pointer none, .pointer none] tPr (0, 0)) := hp_new (by simp)
  have hz := g1.size
  generalize (w1.alloc (.cells #[.pointer none, .pointer none] tPr)).alloc (.cells #[.pointer none, .pointer none] tPr) = W at *
  generalize w1.heap.size = A at *
  have hne : A + 1 ≠ A := by omega
  have hne2 : A ≠ A + 1 := by omega
  clear g1
  refine (traceNew_no one _ hone).mono ?_
  rintro e w2 ⟨rfl, f1⟩
  have hA := f1.heap hA (by simp)
  have hB := f1.heap hB (by simp)
  have F1 := g2.trans0 f1
  have hAc := cell_of hA
  have hAf := free_of hA
  have hBc := cell_of hB
  have hBf := free_of hB
  have u1 : Fr [A] w2 (w2.setCell ⟨A, 0, none⟩ (.pointer none)) := (Fr.refl _ w2).setCell (.inl (by simp)) _
  have hA2 := set_of hA 0 (.pointer none)
  have hB2 := u1.heap hB (by simp)
  have G1 : Fr [] w (w2.setCell ⟨A, 0, none⟩ (.pointer none)) := F1.trans u1 (by simp; omega)
  clear f1 u1 F1
  go_wp2_with fail
  clear hA hB hAc hAf hBc hBf
  generalize w2.setCell ⟨A, 0, none⟩ (.pointer none) = U1 at *
  have hA := hA2
  have hB := hB2
  clear hA2 hB2
  refine (refNew_no one _ hone).mono ?_
  rintro e w3 ⟨rfl, f2⟩
  have hA := f2.heap hA (by simp)
  have hB := f2.heap hB (by simp)
  have F2 := G1.trans0 f2
  have hAc := cell_of hA
  have hAf := free_of hA
  have hBc := cell_of hB
  have hBf := free_of hB
  have u2 : Fr [A] w3 (w3.setCell ⟨A, 1, none⟩ (.pointer none)) := (Fr.refl _ w3).setCell (.inl (by simp)) _
  have hA2 := set_of hA 1 (.pointer none)
  have hB2 := u2.heap hB (by simp)
  have G2 : Fr [] w (w3.setCell ⟨A, 1, none⟩ (.pointer none)) := F2.trans u2 (by simp; omega)
  clear f2 u2 F2
  go_wp2_with fail
  clear hA hB hAc hAf hBc hBf
  generalize w3.setCell ⟨A, 1, none⟩ (.pointer none) = U2 at *
  have hA := hA2
  have hB := hB2
  clear hA2 hB2
  refine (traceNew two _ htwo.1 htwo.2).mono ?_
  rintro e w4 ⟨q3, T3, M3, rfl, _, _, _, _, f3⟩
  have hA := f3.heap hA (by simp)
  have hB := f3.heap hB (by simp)
  have F3 := G2.trans0 f3
  have hAc := cell_of hA
  have hAf := free_of hA
  have hBc := cell_of hB
  have hBf := free_of hB
  have u3 : Fr [(A + 1)] w4 (w4.setCell ⟨(A + 1), 0, none⟩ (.pointer (some ⟨q3, 0, none⟩))) := (Fr.refl _ w4).setCell (.inl (by simp)) _
  have hB2 := set_of hB 0 (.pointer (some ⟨q3, 0, none⟩))
  have hA2 := u3.heap hA (by simp)
  have G3 : Fr [] w (w4.setCell ⟨(A + 1), 0, none⟩ (.pointer (some ⟨q3, 0, none⟩))) := F3.trans u3 (by simp; omega)
  clear f3 u3 F3
  go_wp2_with fail
  clear hA hB hAc hAf hBc hBf
  generalize w4.setCell ⟨(A + 1), 0, none⟩ (.pointer (some ⟨q3, 0, none⟩)) = U3 at *
  have hA := hA2
  have hB := hB2
  clear hA2 hB2
  refine (refNew two _ htwo.1 htwo.2).mono ?_
  rintro e w5 ⟨q4, T4, rfl, _, _, _, f4⟩
  have hA := f4.heap hA (by simp)
  have hB := f4.heap hB (by simp)
  have F4 := G3.trans0 f4
  have hAc := cell_of hA
  have hAf := free_of hA
  have hBc := cell_of hB
  have hBf := free_of hB
  have u4 : Fr [(A + 1)] w5 (w5.setCell ⟨(A + 1), 1, none⟩ (.pointer (some ⟨q4, 0, none⟩))) := (Fr.refl _ w5).setCell (.inl (by simp)) _
  have hB2 := set_of hB 1 (.pointer (some ⟨q4, 0, none⟩))
  have hA2 := u4.heap hA (by simp)
  have G4 : Fr [] w (w5.setCell ⟨(A + 1), 1, none⟩ (.pointer (some ⟨q4, 0, none⟩))) := F4.trans u4 (by simp; omega)
  clear f4 u4 F4
  go_wp2
  go_ret
  exact ⟨rfl, G4⟩

set_option maxRecDepth 100000 in
set_option maxHeartbeats 3200000 in
theorem traceAll_on (one two : Int) (v0 : Value) (w : World) (hone : 0 ≤ one ∧ one ≤ 64) (htwo : two < 0 ∨ 64 < two) : Calls Try.prog 11 #[.int .i64 one, .int .i64 two, v0] w fun e w1 => e = .returned (.bool true) ∧ Fr [] w w1 := by
  go_enter Try.func11, Try.ntmps11
  go_wp2_with fail
  refine (begun22 _).mono ?_
  rintro e w1 ⟨rfl, g1⟩
  go_wp2_with fail
  have g2 : Fr [] w ((w1.alloc (.cells #[.pointer none, .pointer none] tPr)).alloc (.cells #[.pointer none, .pointer none] tPr)) := (g1.alloc _).alloc _
  have hA : ((w1.alloc (.cells #[.pointer none, .pointer none] tPr)).alloc (.cells #[.pointer none, .pointer none] tPr)).heap[w1.heap.size]? = some (.cells #[.pointer none, .pointer none] tPr (0, 0)) := hp_old (heap_new w1 _)
  have hB : ((w1.alloc (.cells #[.pointer none, .pointer none] tPr)).alloc (.cells #[.pointer none, .pointer none] tPr)).heap[w1.heap.size + 1]? = some (.cells #[.pointer none, .pointer none] tPr (0, 0)) := hp_new (by simp)
  have hz := g1.size
  generalize (w1.alloc (.cells #[.pointer none, .pointer none] tPr)).alloc (.cells #[.pointer none, .pointer none] tPr) = W at *
  generalize w1.heap.size = A at *
  have hne : A + 1 ≠ A := by omega
  have hne2 : A ≠ A + 1 := by omega
  clear g1
  refine (traceNew one _ hone.1 hone.2).mono ?_
  rintro e w2 ⟨q1, T1, M1, rfl, _, _, _, _, f1⟩
  have hA := f1.heap hA (by simp)
  have hB := f1.heap hB (by simp)
  have F1 := g2.trans0 f1
  have hAc := cell_of hA
  have hAf := free_of hA
  have hBc := cell_of hB
  have hBf := free_of hB
  have u1 : Fr [A] w2 (w2.setCell ⟨A, 0, none⟩ (.pointer (some ⟨q1, 0, none⟩))) := (Fr.refl _ w2).setCell (.inl (by simp)) _
  have hA2 := set_of hA 0 (.pointer (some ⟨q1, 0, none⟩))
  have hB2 := u1.heap hB (by simp)
  have G1 : Fr [] w (w2.setCell ⟨A, 0, none⟩ (.pointer (some ⟨q1, 0, none⟩))) := F1.trans u1 (by simp; omega)
  clear f1 u1 F1
  go_wp2_with fail
  clear hA hB hAc hAf hBc hBf
  generalize w2.setCell ⟨A, 0, none⟩ (.pointer (some ⟨q1, 0, none⟩)) = U1 at *
  have hA := hA2
  have hB := hB2
  clear hA2 hB2
  refine (refNew one _ hone.1 hone.2).mono ?_
  rintro e w3 ⟨q2, T2, rfl, _, _, _, f2⟩
  have hA := f2.heap hA (by simp)
  have hB := f2.heap hB (by simp)
  have F2 := G1.trans0 f2
  have hAc := cell_of hA
  have hAf := free_of hA
  have hBc := cell_of hB
  have hBf := free_of hB
  have u2 : Fr [A] w3 (w3.setCell ⟨A, 1, none⟩ (.pointer (some ⟨q2, 0, none⟩))) := (Fr.refl _ w3).setCell (.inl (by simp)) _
  have hA2 := set_of hA 1 (.pointer (some ⟨q2, 0, none⟩))
  have hB2 := u2.heap hB (by simp)
  have G2 : Fr [] w (w3.setCell ⟨A, 1, none⟩ (.pointer (some ⟨q2, 0, none⟩))) := F2.trans u2 (by simp; omega)
  clear f2 u2 F2
  go_wp2_with fail
  clear hA hB hAc hAf hBc hBf
  generalize w3.setCell ⟨A, 1, none⟩ (.pointer (some ⟨q2, 0, none⟩)) = U2 at *
  have hA := hA2
  have hB := hB2
  clear hA2 hB2
  refine (traceNew_no two _ htwo).mono ?_
  rintro e w4 ⟨rfl, f3⟩
  have hA := f3.heap hA (by simp)
  have hB := f3.heap hB (by simp)
  have F3 := G2.trans0 f3
  have hAc := cell_of hA
  have hAf := free_of hA
  have hBc := cell_of hB
  have hBf := free_of hB
  have u3 : Fr [(A + 1)] w4 (w4.setCell ⟨(A + 1), 0, none⟩ (.pointer none)) := (Fr.refl _ w4).setCell (.inl (by simp)) _
  have hB2 := set_of hB 0 (.pointer none)
  have hA2 := u3.heap hA (by simp)
  have G3 : Fr [] w (w4.setCell ⟨(A + 1), 0, none⟩ (.pointer none)) := F3.trans u3 (by simp; omega)
  clear f3 u3 F3
  go_wp2_with fail
  clear hA hB hAc hAf hBc hBf
  generalize w4.setCell ⟨(A + 1), 0, none⟩ (.pointer none) = U3 at *
  have hA := hA2
  have hB := hB2
  clear hA2 hB2
  refine (refNew_no two _ htwo).mono ?_
  rintro e w5 ⟨rfl, f4⟩
  have hA := f4.heap hA (by simp)
  have hB := f4.heap hB (by simp)
  have F4 := G3.trans0 f4
  have hAc := cell_of hA
  have hAf := free_of hA
  have hBc := cell_of hB
  have hBf := free_of hB
  have u4 : Fr [(A + 1)] w5 (w5.setCell ⟨(A + 1), 1, none⟩ (.pointer none)) := (Fr.refl _ w5).setCell (.inl (by simp)) _
  have hB2 := set_of hB 1 (.pointer none)
  have hA2 := u4.heap hA (by simp)
  have G4 : Fr [] w (w5.setCell ⟨(A + 1), 1, none⟩ (.pointer none)) := F4.trans u4 (by simp; omega)
  clear f4 u4 F4
  go_wp2
  go_ret
  exact ⟨rfl, G4⟩

theorem traceAll_no (one two : Int) (v0 : Value) (w : World) (h : ¬ ((0 ≤ one ∧ one ≤ 64) ∧ (0 ≤ two ∧ two ≤ 64))) : Calls Try.prog 11 #[.int .i64 one, .int .i64 two, v0] w fun e w1 => e = .returned (.bool true) ∧ Fr [] w w1 := by
  by_cases h1 : 0 ≤ one ∧ one ≤ 64
  · exact traceAll_on one two v0 w h1 (by omega)
  · by_cases h2 : 0 ≤ two ∧ two ≤ 64
    · exact traceAll_no' one two v0 w (by omega) h2
    · exact traceAll_nn one two v0 w (by omega) (by omega)
end Go.Proofs.Ytldppdafgbipjaa
