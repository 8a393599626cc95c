/-
  No cell of these rows narrows 'for every input' (looked for: loops, veiled, ifaces, maps, wideKeys, modest, calm, conditions, laid).
  DERIVED. THE GIVEN ROWS OF THIS SEAT. 4 by the template 'for every input the law returns true; each argument reads behind the call as it read before'; 0 by the template 'total and deterministic' (their statements: YtdlpbpohbkcafaaTotals.lean).
  GIVEN WITH THE SEED: the statements are not yours to turn. If you find one false, say at which input.
  Laid BY PROGRAM, IN A SANDBOX (cutbox-rows.mjs): the forced cells as the released guide's own fill.sh prints them over the translation f19d10cd336f1be1… (all of the seat's roots in one cut). By AI agents, Wed Nov 11 2026. No macro, syntax, notation, axiom, sorry.
-/
import Derived.Test.YtdlpbpohbkcafaaChecked
import GoSem.Claim
import GoSem.ClaimJoined
import GoSem.ClaimMapViews
import Derived.JoinedTies
import Derived.KernelRfl
namespace Go.Proofs.Ytdlpbpohbkcafaa
/- THE CELL 'sum', in the pinned program and in every row, IS THE sha256 OF THE DUMP (.gsa) THAT YtdlpbpohbkcafaaProg.lean LOADS. Nothing in Lean hashes anything: it is a label: what it is worth is what the hold of that sum in a sandbox is worth. -/
noncomputable def Try.pinned : Pinned := { name := "ytdlpbpohbkcafaa", sum := "f19d10cd336f1be153775868a87de14e239e2f48180f22d07b9245301540ed4f", checked := Try.checked }
namespace Rows
def none {H : Type} : Left H := { results := [], args := [] }

/-- 'quadrillelaw21.CycleRings': WHATEVER THE INPUT: true; the input reads as it did. -/
def cycleRingsSpec : ChangeSpec := { name := "cycleRings", fn := fun _ => fun
  | [d] => { results := [.lit (.bool true)], args := [d] }
  | _ => none }
def cycleRingsRow : OpenClaim := { program := "ytdlpbpohbkcafaa", sum := "f19d10cd336f1be153775868a87de14e239e2f48180f22d07b9245301540ed4f", func := "quadrille/quadrillelaw21.CycleRings", spec := "cycleRings", unfollowed := true, recurses := true, plainKeys := false, apart := false }
def CycleRingsSaid : Prop := cycleRingsRow.holds Try.pinned (OpenSpec.ofChange cycleRingsSpec)

/-- ITS FALSE NEIGHBOUR: 'it returns false'. Refute it at one input. -/
def cycleRingsWrong : ChangeSpec := { name := "cycleRings", fn := fun _ => fun
  | [d] => { results := [.lit (.bool false)], args := [d] }
  | _ => none }
def CycleRingsWrongFalsely : Prop := cycleRingsRow.holds Try.pinned (OpenSpec.ofChange cycleRingsWrong)

/-- 'quadrillelaw21.CycleOrder': WHATEVER THE INPUT: true; the input reads as it did. -/
def cycleOrderSpec : ChangeSpec := { name := "cycleOrder", fn := fun _ => fun
  | [d] => { results := [.lit (.bool true)], args := [d] }
  | _ => none }
def cycleOrderRow : OpenClaim := { program := "ytdlpbpohbkcafaa", sum := "f19d10cd336f1be153775868a87de14e239e2f48180f22d07b9245301540ed4f", func := "quadrille/quadrillelaw21.CycleOrder", spec := "cycleOrder", unfollowed := true, recurses := true, plainKeys := false, apart := false }
def CycleOrderSaid : Prop := cycleOrderRow.holds Try.pinned (OpenSpec.ofChange cycleOrderSpec)

/-- ITS FALSE NEIGHBOUR: 'it returns false'. Refute it at one input. -/
def cycleOrderWrong : ChangeSpec := { name := "cycleOrder", fn := fun _ => fun
  | [d] => { results := [.lit (.bool false)], args := [d] }
  | _ => none }
def CycleOrderWrongFalsely : Prop := cycleOrderRow.holds Try.pinned (OpenSpec.ofChange cycleOrderWrong)

/-- 'quadrillelaw21.CycleLeads': WHATEVER THE INPUT: true; the input reads as it did. -/
def cycleLeadsSpec : ChangeSpec := { name := "cycleLeads", fn := fun _ => fun
  | [d] => { results := [.lit (.bool true)], args := [d] }
  | _ => none }
def cycleLeadsRow : OpenClaim := { program := "ytdlpbpohbkcafaa", sum := "f19d10cd336f1be153775868a87de14e239e2f48180f22d07b9245301540ed4f", func := "quadrille/quadrillelaw21.CycleLeads", spec := "cycleLeads", unfollowed := true, recurses := true, plainKeys := false, apart := false }
def CycleLeadsSaid : Prop := cycleLeadsRow.holds Try.pinned (OpenSpec.ofChange cycleLeadsSpec)

/-- ITS FALSE NEIGHBOUR: 'it returns false'. Refute it at one input. -/
def cycleLeadsWrong : ChangeSpec := { name := "cycleLeads", fn := fun _ => fun
  | [d] => { results := [.lit (.bool false)], args := [d] }
  | _ => none }
def CycleLeadsWrongFalsely : Prop := cycleLeadsRow.holds Try.pinned (OpenSpec.ofChange cycleLeadsWrong)

/-- 'quadrillelaw21.CycleApart': WHATEVER THE INPUT: true; the input reads as it did. -/
def cycleApartSpec : ChangeSpec := { name := "cycleApart", fn := fun _ => fun
  | [d] => { results := [.lit (.bool true)], args := [d] }
  | _ => none }
def cycleApartRow : OpenClaim := { program := "ytdlpbpohbkcafaa", sum := "f19d10cd336f1be153775868a87de14e239e2f48180f22d07b9245301540ed4f", func := "quadrille/quadrillelaw21.CycleApart", spec := "cycleApart", unfollowed := true, recurses := true, plainKeys := false, apart := false }
def CycleApartSaid : Prop := cycleApartRow.holds Try.pinned (OpenSpec.ofChange cycleApartSpec)

/-- ITS FALSE NEIGHBOUR: 'it returns false'. Refute it at one input. -/
def cycleApartWrong : ChangeSpec := { name := "cycleApart", fn := fun _ => fun
  | [d] => { results := [.lit (.bool false)], args := [d] }
  | _ => none }
def CycleApartWrongFalsely : Prop := cycleApartRow.holds Try.pinned (OpenSpec.ofChange cycleApartWrong)

/- THE SECOND FORM. 'bulk': how many values and letters a reading holds, each counted each time it is reached (what is shared counts as often as it is met; a slice's spare places count too). A statement '..UptoSaid' is the law's where the arguments, and the package variables that the reading takes, are together of bulk at most 1048576: NARROWER than '..Said'. Prove '..Said' where nothing that the law and all that it calls make is longer than what came in: it says more and counts as full. Else prove '..UptoSaid'. A law counts once. -/
mutual
def uptoBulk {H : Type} : DataW H → Nat
  | .lit (.string bytes) => bytes.length + 1
  | .lit _ => 1
  | .nil => 1
  | .ptr d => uptoBulk d + 1
  | .slice elems spare => uptoBulkAll elems + uptoBulkAll spare + 1
  | .agg parts => uptoBulkAll parts + 1
  | .iface _ d => uptoBulk d + 1
  | .map entries => uptoBulkEntries entries + 1
  | .held _ => 1
def uptoBulkAll {H : Type} : List (DataW H) → Nat
  | [] => 0
  | d :: r => uptoBulk d + uptoBulkAll r
def uptoBulkEntries {H : Type} : List (Lit × DataW H) → Nat
  | [] => 0
  | x :: r => uptoBulkEntry x + uptoBulkEntries r
def uptoBulkEntry {H : Type} : Lit × DataW H → Nat
  | (.string bytes, d) => bytes.length + uptoBulk d + 1
  | (_, d) => uptoBulk d + 1
 end
def uptoSmall : (H : Type) → List (DataW H) → Bool := fun _ ds => decide (uptoBulkAll ds ≤ 1048576)
def OpenSpec.upto (s : _root_.Go.ChangeSpec) : _root_.Go.OpenSpec := { _root_.Go.OpenSpec.ofChange s with cond := some uptoSmall }

/-- 'quadrillelaw21.CycleRings', WHERE WHAT IT READS IS OF BULK AT MOST 1048576: true; the input reads as it did. -/
def cycleRingsUptoRow : OpenClaim := { program := "ytdlpbpohbkcafaa", sum := "f19d10cd336f1be153775868a87de14e239e2f48180f22d07b9245301540ed4f", func := "quadrille/quadrillelaw21.CycleRings", spec := "cycleRings", unfollowed := true, recurses := true, plainKeys := false, apart := false, narrowed := true }
def CycleRingsUptoSaid : Prop := cycleRingsUptoRow.holds Try.pinned (OpenSpec.upto cycleRingsSpec)

/-- 'quadrillelaw21.CycleOrder', WHERE WHAT IT READS IS OF BULK AT MOST 1048576: true; the input reads as it did. -/
def cycleOrderUptoRow : OpenClaim := { program := "ytdlpbpohbkcafaa", sum := "f19d10cd336f1be153775868a87de14e239e2f48180f22d07b9245301540ed4f", func := "quadrille/quadrillelaw21.CycleOrder", spec := "cycleOrder", unfollowed := true, recurses := true, plainKeys := false, apart := false, narrowed := true }
def CycleOrderUptoSaid : Prop := cycleOrderUptoRow.holds Try.pinned (OpenSpec.upto cycleOrderSpec)

/-- 'quadrillelaw21.CycleLeads', WHERE WHAT IT READS IS OF BULK AT MOST 1048576: true; the input reads as it did. -/
def cycleLeadsUptoRow : OpenClaim := { program := "ytdlpbpohbkcafaa", sum := "f19d10cd336f1be153775868a87de14e239e2f48180f22d07b9245301540ed4f", func := "quadrille/quadrillelaw21.CycleLeads", spec := "cycleLeads", unfollowed := true, recurses := true, plainKeys := false, apart := false, narrowed := true }
def CycleLeadsUptoSaid : Prop := cycleLeadsUptoRow.holds Try.pinned (OpenSpec.upto cycleLeadsSpec)

/-- 'quadrillelaw21.CycleApart', WHERE WHAT IT READS IS OF BULK AT MOST 1048576: true; the input reads as it did. -/
def cycleApartUptoRow : OpenClaim := { program := "ytdlpbpohbkcafaa", sum := "f19d10cd336f1be153775868a87de14e239e2f48180f22d07b9245301540ed4f", func := "quadrille/quadrillelaw21.CycleApart", spec := "cycleApart", unfollowed := true, recurses := true, plainKeys := false, apart := false, narrowed := true }
def CycleApartUptoSaid : Prop := cycleApartUptoRow.holds Try.pinned (OpenSpec.upto cycleApartSpec)

end Rows
end Go.Proofs.Ytdlpbpohbkcafaa
