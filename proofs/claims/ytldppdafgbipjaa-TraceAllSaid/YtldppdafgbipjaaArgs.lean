/-
  Arguments, opened: a slice of places, a slice of numbers, an area.
-/
import Derived.Test.YtldppdafgbipjaaLaw
import Derived.Test.YtldppdafgbipjaaMay
import Derived.Test.YtldppdafgbipjaaArea
import Derived.Deep.SlicePairs
import Derived.Lib.SmallJoins
namespace Go.Proofs.Ytldppdafgbipjaa
open Go.ChangeShapes Go.WideShapes Go.ChangeAt Go.RowKit Go.Joins Go.Deep

theorem Try.cellsS : Try.prog.cellsOf 26 = 2 := by kernel_rfl
theorem Try.cellsI : Try.prog.cellsOf 3 = 1 := by kernel_rfl

theorem wf_i64 {n : Int} (h : (Lit.int .i64 n).wf = true) : -9223372036854775808 ≤ n ∧ n ≤ 9223372036854775807 := by
  simp [Lit.wf, IntKind.min, IntKind.max, IntKind.signed, IntKind.bits] at h
  omega
/-- Both numbers of a place are Go's. -/
def Sml (s : Sp) : Prop := (-9223372036854775808 ≤ s.1 ∧ s.1 ≤ 9223372036854775807) ∧ (-9223372036854775808 ≤ s.2 ∧ s.2 ≤ 9223372036854775807)

section
variable {H : Type} {enc : TypeId × Value → H} {W : World}
set_option maxRecDepth 100000 in
theorem open_spots {r : Reach} {b0 : Nat} {v : Value} {d : DataW H} {p : List MemPlace}
    (hv : Value.okWide Try.prog W r b0 35 v) (h : DataW.Trod enc Try.prog W 0 (fun _ => true) true 35 v d p) :
    ∃ ss : List Sp, SpotsAt W v ss ∧ ∀ s ∈ ss, Sml s := by
  obtain ⟨pa, len, cap, rfl⟩ := okWide_slice Try.underlying35 hv
  obtain ⟨fuel, hf⟩ := h
  simp only [Value.cells] at hf
  rcases open_slice_pairs Try.underlying35 Try.underlying26 Try.cellsS rfl rfl Try.cellsI Try.cellsI hf with ⟨hc, _⟩ | ⟨a, len', cap', m, n, V0, V1, D0, D1, P0, P1, hc, _, hl, hm, hmm, _, hall⟩
  · simp only [List.cons.injEq, and_true, Value.slice.injEq] at hc
    obtain ⟨rfl, rfl, rfl⟩ := hc
    exact ⟨[], SlAt.nil W 2, by simp⟩
  · simp only [List.cons.injEq, and_true, Value.slice.injEq] at hc
    obtain ⟨rfl, rfl, rfl⟩ := hc
    simp only [if_true] at hmm
    subst hmm
    have h0 : ∀ i, i < m → V0 i = .int .i64 (intOf (V0 i)) ∧ -9223372036854775808 ≤ intOf (V0 i) ∧ intOf (V0 i) ≤ 9223372036854775807 := fun i hi => by
      obtain ⟨N, h1, _, h3⟩ := DataW.trod_int (t := 3) Try.underlying3 (hall i hi).2.2.1
      simp only [List.cons.injEq, and_true] at h1
      rw [h1]
      exact ⟨rfl, wf_i64 h3⟩
    have h1 : ∀ i, i < m → V1 i = .int .i64 (intOf (V1 i)) ∧ -9223372036854775808 ≤ intOf (V1 i) ∧ intOf (V1 i) ≤ 9223372036854775807 := fun i hi => by
      obtain ⟨N, h1, _, h3⟩ := DataW.trod_int (t := 3) Try.underlying3 (hall i hi).2.2.2
      simp only [List.cons.injEq, and_true] at h1
      rw [h1]
      exact ⟨rfl, wf_i64 h3⟩
    refine ⟨(List.range len).map fun i => (intOf (V0 i), intOf (V1 i)), ?_, ?_⟩
    · obtain ⟨b, off, spot⟩ := a
      have hn : ((List.range len).map fun i => ((intOf (V0 i), intOf (V1 i)) : Sp)).length = len := by simp
      show SlAt W _ 2 _ _
      rw [hn]
      have hfl := flat_len spC 2 (fun _ => rfl) ((List.range len).map fun i => ((intOf (V0 i), intOf (V1 i)) : Sp))
      rw [hn] at hfl
      refine ⟨hfl, ⟨_, _, rfl, hl, by unfold maxLen at hm; omega⟩, fun hpos => ?_⟩
      have hspot : spot = none := by simpa [Addr.add] using World.cell?_spot (hall 0 (by omega)).1
      subst hspot
      refine ⟨b, off, _, rfl, World.block_lt_of_cell? W _ (by simpa [Addr.add] using (hall 0 (by omega)).1), fun j x hx => ?_⟩
      have hj : j < len * 2 := by
        have := (List.getElem?_eq_some_iff.1 hx).1
        rwa [hfl] at this
      have hi : j / 2 < len := by omega
      have hg := flat_get spC 2 (fun _ => rfl) ((List.range len).map fun i => ((intOf (V0 i), intOf (V1 i)) : Sp)) (j / 2) (j % 2) (by rw [hn]; exact hi) (by omega)
      have e : j / 2 * 2 + j % 2 = j := by omega
      rw [e, hx] at hg
      simp only [List.getElem_map, List.getElem_range] at hg
      obtain ⟨c0, c1, _, _⟩ := hall (j / 2) (by omega)
      rw [(h0 _ (by omega)).1] at c0
      rw [(h1 _ (by omega)).1] at c1
      have ea : ∀ k, (⟨b, off, none⟩ : Addr).add k = ⟨b, off + k, none⟩ := fun k => by
        unfold Addr.add
        split
        · rename_i h0; subst h0; rfl
        · rfl
      rw [ea] at c0 c1
      rcases (by omega : j % 2 = 0 ∨ j % 2 = 1) with h2 | h2
      · rw [h2] at hg e
        simp at hg
        rw [show off + j = off + j / 2 * 2 by omega, c0, hg]
      · rw [h2] at hg e
        simp at hg
        rw [show off + j = off + (j / 2 * 2 + 1) by omega, c1, hg]
    · intro s hs
      simp only [List.mem_map, List.mem_range] at hs
      obtain ⟨i, hi, rfl⟩ := hs
      exact ⟨(h0 i (by omega)).2, (h1 i (by omega)).2⟩
end
end Go.Proofs.Ytldppdafgbipjaa
