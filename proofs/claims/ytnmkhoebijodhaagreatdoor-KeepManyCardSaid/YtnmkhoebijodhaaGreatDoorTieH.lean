/-
  The tie of what KeepMany lists to the program's text: their kinds.
  The tie of what KeepMany lists to the program's text: their names.
  The tie of what KeepMany lists to the program's text: it comes to its end.
  The tie of what KeepMany lists to the program's text: what is laid.
  The tie of what KeepMany lists to the program's text: where it is laid.
-/
import Derived.Test.YtnmkhoebijodhaaGreatDoorRows
import Derived.LaidByTextLater
import Derived.KernelRfl
import Derived.Test.YtnmkhoebijodhaaGreatDoorProg
namespace Go.Proofs.YtnmkhoebijodhaaGreatDoor
section
open Go
/-- What is listed beside the pinned tables. -/
abbrev laid6 : List (String × DataW Unit) := [("unicode/utf8.acceptRanges", Rows.laid_unicode_utf8_acceptRanges), ("strconv.ErrSyntax", Rows.laid_strconv_ErrSyntax), ("strconv.ErrRange", Rows.laid_strconv_ErrRange), ("internal/strconv.uint64pow10", Rows.laid_internal_strconv_uint64pow10), ("math/bits.deBruijn32tab", Rows.laid_math_bits_deBruijn32tab), ("math/bits.deBruijn64tab", Rows.laid_math_bits_deBruijn64tab)]
theorem tieK : laid6.map (fun x => Tryz.prog.kindOfLater x.1) = [LaidKind.data, .sentinel, .sentinel, .data, .data, .data].map some := by as_aux_lemma => kernel_rfl
end
section
open Go
theorem tieN : varsNamedLaterB Tryz.prog (varsId Tryz.prog) laid6 = true := by as_aux_lemma => kernel_rfl
end
section
open Go
theorem tieD : ∀ os tape, varsDone Tryz.prog 400 (varsId Tryz.prog) os tape = true := fun os tape => by as_aux_lemma => kernel_rfl
end
section
open Go
theorem tieH : ∀ os tape, (DataW.laidRun Tryz.prog (varsWorld Tryz.prog 400 (varsId Tryz.prog) os tape).memory 8 (laid6.map (·.1))).map (·.1) = some laid6 := fun os tape => by as_aux_lemma => kernel_rfl
end
section
open Go
theorem tieI : ∀ os tape, (DataW.laidRun Tryz.prog (varsWorld Tryz.prog 400 (varsId Tryz.prog) os tape).memory 8 (laid6.map (·.1))).map (fun x => decide x.2.Nodup && laidRowsB Tryz.prog (varsWorld Tryz.prog 400 (varsId Tryz.prog) os tape).memory x.2) = some true := fun os tape => by as_aux_lemma => kernel_rfl
end
end Go.Proofs.YtnmkhoebijodhaaGreatDoor
