/-
  DERIVED. GIVEN WITH THE SEED: THE CARDS: each row of YtnmkhoebijodhaaGreatDoorRows.lean that lists a variable, with what it lists TIED to the program's text (the seventh form; the later family's looks); each row that meets fmt, with fmt's text TOLD by the authors' own Lean function (tested against real Go, not proved from fmt's source: count such statements apart). THE CARD IS WHAT COUNTS. Prove the row's statement (the work); the ties are given (YtnmkhoebijodhaaGreatDoorTie.lean); close each card by the builder's one call (the guide's Derived/Test/ToyasCard.lean, 'card_holds'). Laid BY PROGRAM, IN A SANDBOX (cutbox-door.mjs). By AI agents, Wed Nov 11 2026. No macro, syntax, notation, axiom, sorry.
-/
import Derived.Test.YtnmkhoebijodhaaGreatDoorRows
import GoSem.ClaimSeven
namespace Go.Proofs.YtnmkhoebijodhaaGreatDoor
namespace Rows

/-- THE TIED CARD OF 'quadrillelaw28.UndoDepth'. -/
def undoDepthCard : Claim7 := { stood := { row := undoDepthRow, standIns := [], harness := (true, "7e0680aec55b860ba60639d99166165532f40e5e1bb750f7ae4765d1f97190d9"), looks := true }, kinds := [], alts := [], laidByText := true, laidKinds := [.pinned, .data, .sentinel, .sentinel, .data, .data, .data, .pinned], laidTests := true, laidLooks := .later }
def UndoDepthCardSaid : Prop := Claim7.holds Tryz.pinned (.plain (OpenSpec.ofChange undoDepthSpec)) undoDepthCard

/-- THE TIED CARD OF 'quadrillelaw29.KeepMany'. -/
def keepManyCard : Claim7 := { stood := { row := keepManyRow, standIns := [], harness := (true, "7e0680aec55b860ba60639d99166165532f40e5e1bb750f7ae4765d1f97190d9"), looks := true }, kinds := [], alts := [], laidByText := true, laidKinds := [.pinned, .data, .sentinel, .sentinel, .data, .data, .data, .pinned], laidTests := true, laidLooks := .later }
def KeepManyCardSaid : Prop := Claim7.holds Tryz.pinned (.plain (OpenSpec.ofChange keepManySpec)) keepManyCard

/-- THE SECOND FORM's CARD OF 'quadrillelaw28.UndoDepth'. -/
def undoDepthUptoCard : Claim7 := { stood := { row := undoDepthUptoRow, standIns := [], harness := (true, "7e0680aec55b860ba60639d99166165532f40e5e1bb750f7ae4765d1f97190d9"), looks := true }, kinds := [], alts := [], laidByText := true, laidKinds := [.pinned, .data, .sentinel, .sentinel, .data, .data, .data, .pinned], laidTests := true, laidLooks := .later }
def UndoDepthUptoCardSaid : Prop := Claim7.holds Tryz.pinned (.plain (OpenSpec.upto undoDepthSpec)) undoDepthUptoCard

/-- THE SECOND FORM's CARD OF 'quadrillelaw29.KeepMany'. -/
def keepManyUptoCard : Claim7 := { stood := { row := keepManyUptoRow, standIns := [], harness := (true, "7e0680aec55b860ba60639d99166165532f40e5e1bb750f7ae4765d1f97190d9"), looks := true }, kinds := [], alts := [], laidByText := true, laidKinds := [.pinned, .data, .sentinel, .sentinel, .data, .data, .data, .pinned], laidTests := true, laidLooks := .later }
def KeepManyUptoCardSaid : Prop := Claim7.holds Tryz.pinned (.plain (OpenSpec.upto keepManySpec)) keepManyUptoCard
end Rows
end Go.Proofs.YtnmkhoebijodhaaGreatDoor
