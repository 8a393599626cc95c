/-
  The walk of quadrillelaw24.SchedNone.
-/
import Derived.Test.YtldppdafgbipjaaSched
import Derived.Laws.MakeOwn
namespace Go.Proofs.Ytldppdafgbipjaa
open Go.RowKit Go.Shelf
attribute [local go_sem] Oper.semAt_some

theorem mkS (n : Nat) (hn : n ≤ 70000) : ∃ C : Array Value, (∀ w : World, (Instr.makeSlice 35 (.int .i64 (n : Int)) (.int .i64 (n : Int))).run Try.prog w = .ok (.slice (some ⟨w.heap.size, 0, none⟩) n n) (w.alloc (.cells C 26))) ∧ ∀ j, j < n * 2 → C[j]? = some (.int .i64 0) := by
  obtain ⟨i0, hi, hz0, hz1, hz2⟩ := info_parts infoSpot
  refine ⟨madeCells (Value.agg #[.int .i64 0, .int .i64 0]).cells (n * 2), fun w => ?_, fun j hj => ?_⟩
  · have := run_make (P := Try.prog) w 35 26 i0 _ Try.underlying35 hi hz0 .i64 .i64 (n : Int) (n : Int) (by omega) (Int.le_refl _) (by rw [hz2]; omega) (by omega)
    rw [hz1] at this
    simpa using this
  · unfold madeCells
    rcases (by omega : j % 2 = 0 ∨ j % 2 = 1) with h | h <;> simp [Value.cells, hj, h]

set_option maxRecDepth 100000 in
theorem schedNone (w : World) : Calls Try.prog 9 #[] w fun e w1 => e = .returned (.bool true) ∧ Fr [] w w1 := by
  go_enter Try.func9, Try.ntmps9
  go_wp2_with fail
  refine (traceNew 8 w (by decide) (by decide)).mono ?_
  rintro e w1 ⟨q, tq, mq, rfl, _, _, _, hst, h1⟩
  have HST := Lib.hid hst
  clear hst
  go_wp2_with fail
  refine (newSheet w1).mono ?_
  rintro e w2 ⟨p, tb, mb, rfl, hsh, h2⟩
  have HSH := Lib.hid hsh
  have HST2 := Lib.hid (HST.out.fr0 h2)
  have hf2 := h1.trans0 h2
  clear hsh HST h1 h2
  go_wp2_with fail
  refine (schedNilS (some ⟨q, 0, none⟩) _ _ w2).mono ?_
  rintro e w3 ⟨rfl, h3⟩
  have hf3 := hf2.trans0 h3
  go_wp2_with fail
  refine (schedNilK p _ _ w3).mono ?_
  rintro e w4 ⟨rfl, h4⟩
  have hf4 := hf3.trans0 h4
  have HSH4 := Lib.hid ((HSH.out.fr h3).fr h4)
  have HST4 := Lib.hid ((HST2.out.fr0 h3).fr0 h4)
  clear HSH HST2 h3 h4 hf2 hf3
  obtain ⟨C1, hC1, _⟩ := mkS 65537 (by decide)
  obtain ⟨C2, hC2, hC3⟩ := mkS 65536 (by decide)
  have hm1 : ∀ w : World, (Instr.makeSlice 35 (.int .i64 65537) (.int .i64 65537)).run Try.prog w = .ok (.slice (some ⟨w.heap.size, 0, none⟩) 65537 65537) (w.alloc (.cells C1 26)) := hC1
  have hm2 : ∀ w : World, (Instr.makeSlice 35 (.int .i64 65536) (.int .i64 65536)).run Try.prog w = .ok (.slice (some ⟨w.heap.size, 0, none⟩) 65536 65536) (w.alloc (.cells C2 26)) := hC2
  clear hC1 hC2
  have HC3 := Lib.hid hC3
  clear hC3
  go_wp2_with fail
  refine (schedLong p q _ ⟨w4.heap.size, 0, none⟩ 65537 65537 (by decide) _).mono ?_
  rintro e w5 ⟨rfl, h5⟩
  have hX := ((Fr.refl [] w4).alloc (.cells C1 26)).trans0 h5
  have hf5 := hf4.trans0 hX
  have HSH5 := Lib.hid (HSH4.out.fr hX)
  have HST5 := Lib.hid (HST4.out.fr0 hX)
  clear HSH4 HST4 hX h5 hf4
  go_wp2_with fail
  have hY := (Fr.refl [] w5).alloc (.cells C2 26)
  have hlt : w5.heap.size < (w5.alloc (.cells C2 26)).heap.size := by simp
  have hcell : ∀ j, j < 65536 * 2 → (w5.alloc (.cells C2 26)).cell? ⟨w5.heap.size, j, none⟩ = some (.int .i64 0) := fun j hj => (cell_of (heap_new w5 (.cells C2 26)) j).trans (HC3.out j hj)
  refine (callsIn_wide.1 (schedNew p tb mb q tq mq 8 w5.heap.size 65536 65536 _ (HSH5.out.fr hY) (HST5.out.fr0 hY) (by decide) hlt hcell)).mono ?_
  rintro e w6 ⟨⟨x, rfl⟩, h6⟩
  have hf6 := (hf5.trans0 hY).trans0 h6
  clear hf5 hY h6 hlt hcell HSH5 HST5
  go_wp2_with fail
  go_ret
  exact ⟨rfl, hf6⟩
end Go.Proofs.Ytldppdafgbipjaa
