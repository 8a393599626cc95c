/-
  What the card of KeepMany asks of the program: no goroutine; it looks.
-/
import Derived.Test.YtnmkhoebijodhaaGreatDoorRows
import Derived.SevenTiedAt
namespace Go.Proofs.YtnmkhoebijodhaaGreatDoor
open Go
set_option maxHeartbeats 12800000 in
theorem none_goes : Tryz.prog.funcs.any Func.goes = false := by as_aux_lemma => kernel_rfl
theorem prog_goes (f : FuncId) : Tryz.prog.goes f = false := by
  have h := none_goes
  unfold Program.goes
  rw [h, Bool.and_false, Bool.or_false, List.any_eq_false]
  intro g _
  cases hq : Tryz.prog.funcs[g]? with
  | none => simp
  | some fn =>
    obtain ⟨hi, e⟩ := Array.getElem?_eq_some_iff.1 hq
    have := Array.any_eq_false.1 h g hi
    rw [e] at this
    simpa using this
theorem goes_of (o : Option FuncId) : false = (o.any Tryz.prog.goes || false) := by
  cases o with
  | none => rfl
  | some f => simp [prog_goes]
theorem keepMany_goes : false = Rows.keepManyRow.goesBy Tryz.pinned.checked.prog := goes_of (Tryz.prog.funcNamed Rows.keepManyRow.func)
set_option maxHeartbeats 12800000 in
theorem keepMany_looks : true = Tryz.pinned.checked.prog.looks [] := by as_aux_lemma => kernel_rfl
end Go.Proofs.YtnmkhoebijodhaaGreatDoor
