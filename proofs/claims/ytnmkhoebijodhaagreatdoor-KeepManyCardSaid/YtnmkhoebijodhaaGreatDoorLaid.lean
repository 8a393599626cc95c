/-
  What KeepMany lists can be laid: the witness.
-/
import Derived.Test.YtnmkhoebijodhaaGreatDoorRows
import Derived.ProofKit
import Derived.LaidMore
import Derived.Lay
namespace Go.Proofs.YtnmkhoebijodhaaGreatDoor
open Go.ChangeShapes Go.WideShapes Go.ChangeAt Go.RowKit

abbrev laid8 : List (String × DataW Unit) := [("unicode/utf8.first", Rows.laid_unicode_utf8_first), ("unicode/utf8.acceptRanges", Rows.laid_unicode_utf8_acceptRanges), ("strconv.ErrSyntax", Rows.laid_strconv_ErrSyntax), ("strconv.ErrRange", Rows.laid_strconv_ErrRange), ("internal/strconv.uint64pow10", Rows.laid_internal_strconv_uint64pow10), ("math/bits.deBruijn32tab", Rows.laid_math_bits_deBruijn32tab), ("math/bits.deBruijn64tab", Rows.laid_math_bits_deBruijn64tab), ("unicode.CaseRanges", Rows.laid_unicode_CaseRanges)]

theorem laid_plain : (laid8.all fun x => x.2.handleName?.isNone) = true := by as_aux_lemma => kernel_rfl
theorem laid_fits (os : Os) : (World.holding Tryz.prog os ⟨#[], #[], []⟩).layFits Tryz.prog laid8 [] = true := by as_aux_lemma => kernel_rfl
theorem laid_ifaces (os : Os) : (World.holding Tryz.prog os ⟨#[], #[], []⟩).layIfaces Tryz.prog laid8 (World.laidAll Tryz.prog os laid8) = true := by as_aux_lemma => kernel_rfl
theorem laid_shaped (os : Os) : ((World.laidAll Tryz.prog os laid8).forCall (fun _ _ => 0) ⟨#[], #[.int .i64 0, .int .i64 0, .string ⟨#[]⟩], []⟩).Shaped Tryz.prog := World.shaped_of_ZipB (by as_aux_lemma => kernel_rfl) (by as_aux_lemma => kernel_rfl)
end Go.Proofs.YtnmkhoebijodhaaGreatDoor
