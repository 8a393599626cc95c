/-
  The tie of what KeepMany lists to the program's text: the word of the variables.
  The tie of what KeepMany lists to the program's text: the other word is not there.
  The tie of what KeepMany lists to the program's text: the word of the roots.
  The tie of what KeepMany lists to the program's text: the function that lays them.
  The tie of what KeepMany lists to the program's text, and its row's.
-/
import Derived.Test.YtnmkhoebijodhaaGreatDoorProg
import Derived.LaidByTextLater
import Derived.KernelRfl
import Derived.Test.YtnmkhoebijodhaaGreatDoorTieH
import Derived.SevenTiedAt
namespace Go.Proofs.YtnmkhoebijodhaaGreatDoor
section
open Go
theorem tieW : Tryz.prog.worded (varsWordLater true) = true := by as_aux_lemma => kernel_rfl
end
section
open Go
theorem tieV : Tryz.prog.worded (varsWordLater !true) = false := by as_aux_lemma => kernel_rfl
end
section
open Go
theorem tieR : Tryz.prog.worded rootWordLater = true := by as_aux_lemma => kernel_rfl
end
section
open Go
theorem tieG : (Tryz.prog.funcNamed "gosem.cut.vars").isSome = true := by as_aux_lemma => kernel_rfl
end
section
open Go
theorem tied : Tryz.prog.laidByTextLater laid6 [.data, .sentinel, .sentinel, .data, .data, .data] true :=
  Program.laidByTextLater_by_run 400 8 tieW tieV tieR tieK tieG tieN tieD tieH tieI
theorem pinFirst : Tryz.pinned.checked.prog.pinnedFits "unicode/utf8.first" = true := by as_aux_lemma => kernel_rfl
theorem pinCase : Tryz.pinned.checked.prog.pinnedFits "unicode.CaseRanges" = true := by as_aux_lemma => kernel_rfl
theorem notUnsafe : Tryz.pinned.checked.prog.headLifts.contains "ownunsafe" = false := by as_aux_lemma => kernel_rfl
theorem fits8 : Tryz.pinned.checked.prog.listedFits [("unicode/utf8.first", Rows.laid_unicode_utf8_first), ("unicode/utf8.acceptRanges", Rows.laid_unicode_utf8_acceptRanges), ("strconv.ErrSyntax", Rows.laid_strconv_ErrSyntax), ("strconv.ErrRange", Rows.laid_strconv_ErrRange), ("internal/strconv.uint64pow10", Rows.laid_internal_strconv_uint64pow10), ("math/bits.deBruijn32tab", Rows.laid_math_bits_deBruijn32tab), ("math/bits.deBruijn64tab", Rows.laid_math_bits_deBruijn64tab), ("unicode.CaseRanges", Rows.laid_unicode_CaseRanges)] = true := by
  unfold Program.listedFits
  rw [notUnsafe]
  as_aux_lemma => kernel_rfl
theorem keepMany_tied : Rows.keepManyRow.laidByTextAt .later Tryz.pinned [.pinned, .data, .sentinel, .sentinel, .data, .data, .data, .pinned] true :=
  OpenClaim.laidByTextAt_pinned rfl rfl tied rfl rfl rfl rfl (fun y hy _e => by
    simp only [Rows.keepManyRow, List.zip_cons_cons, List.zip_nil_right, List.mem_cons, List.mem_nil_iff, or_false] at hy
    rcases hy with rfl | rfl | rfl | rfl | rfl | rfl | rfl | rfl
    · exact ⟨pinFirst, by kernel_rfl⟩
    · cases _e
    · cases _e
    · cases _e
    · cases _e
    · cases _e
    · cases _e
    · exact ⟨pinCase, by kernel_rfl⟩) fits8
end
end Go.Proofs.YtnmkhoebijodhaaGreatDoor
