/-
  No cell of these rows narrows 'for every input' (looked for: loops, veiled, ifaces, maps, wideKeys, modest, calm, conditions, laid).
  DERIVED. THE GIVEN ROWS OF THIS SEAT. 10 by the template 'for every input the law returns true; each argument reads behind the call as it read before'; 0 by the template 'total and deterministic' (their statements: YtldppdafgbipjaaTotals.lean).
  GIVEN WITH THE SEED: the statements are not yours to turn. If you find one false, say at which input.
  Laid BY PROGRAM, IN A SANDBOX (cutbox-rows.mjs): the forced cells as the released guide's own fill.sh prints them over the translation 5d5dce9753cb4ac3… (all of the seat's roots in one cut). By AI agents, Wed Nov 11 2026. No macro, syntax, notation, axiom, sorry.
-/
import Derived.Test.YtldppdafgbipjaaChecked
import GoSem.Claim
import GoSem.ClaimJoined
import GoSem.ClaimMapViews
import Derived.JoinedTies
import Derived.KernelRfl
namespace Go.Proofs.Ytldppdafgbipjaa
/- THE CELL 'sum', in the pinned program and in every row, IS THE sha256 OF THE DUMP (.gsa) THAT YtldppdafgbipjaaProg.lean LOADS. Nothing in Lean hashes anything: it is a label: what it is worth is what the hold of that sum in a sandbox is worth. -/
noncomputable def Try.pinned : Pinned := { name := "ytldppdafgbipjaa", sum := "5d5dce9753cb4ac33f5e2d1af37e48471cd92696f5d3bad984d2c2f79f49118d", checked := Try.checked }
namespace Rows
def none {H : Type} : Left H := { results := [], args := [] }

/-- 'quadrillelaw22.TraceSame': WHATEVER THE INPUT: true; the input reads as it did. -/
def traceSameSpec : ChangeSpec := { name := "traceSame", fn := fun _ => fun
  | [d1, d2, d3] => { results := [.lit (.bool true)], args := [d1, d2, d3] }
  | _ => none }
def traceSameRow : OpenClaim := { program := "ytldppdafgbipjaa", sum := "5d5dce9753cb4ac33f5e2d1af37e48471cd92696f5d3bad984d2c2f79f49118d", func := "quadrille/quadrillelaw22.TraceSame", spec := "traceSame", plainKeys := false, apart := false }
def TraceSameSaid : Prop := traceSameRow.holds Try.pinned (OpenSpec.ofChange traceSameSpec)

/-- ITS FALSE NEIGHBOUR: 'it returns false'. Refute it at one input. -/
def traceSameWrong : ChangeSpec := { name := "traceSame", fn := fun _ => fun
  | [d1, d2, d3] => { results := [.lit (.bool false)], args := [d1, d2, d3] }
  | _ => none }
def TraceSameWrongFalsely : Prop := traceSameRow.holds Try.pinned (OpenSpec.ofChange traceSameWrong)

/-- 'quadrillelaw22.TraceLong': WHATEVER THE INPUT: true; the input reads as it did. -/
def traceLongSpec : ChangeSpec := { name := "traceLong", fn := fun _ => fun
  | [] => { results := [.lit (.bool true)], args := [] }
  | _ => none }
def traceLongRow : OpenClaim := { program := "ytldppdafgbipjaa", sum := "5d5dce9753cb4ac33f5e2d1af37e48471cd92696f5d3bad984d2c2f79f49118d", func := "quadrille/quadrillelaw22.TraceLong", spec := "traceLong", plainKeys := false, apart := false }
def TraceLongSaid : Prop := traceLongRow.holds Try.pinned (OpenSpec.ofChange traceLongSpec)

/-- ITS FALSE NEIGHBOUR: 'it returns false'. Refute it at one input. -/
def traceLongWrong : ChangeSpec := { name := "traceLong", fn := fun _ => fun
  | [] => { results := [.lit (.bool false)], args := [] }
  | _ => none }
def TraceLongWrongFalsely : Prop := traceLongRow.holds Try.pinned (OpenSpec.ofChange traceLongWrong)

/-- 'quadrillelaw7.GridAll': WHATEVER THE INPUT: true; the input reads as it did. -/
def gridAllSpec : ChangeSpec := { name := "gridAll", fn := fun _ => fun
  | [d] => { results := [.lit (.bool true)], args := [d] }
  | _ => none }
def gridAllRow : OpenClaim := { program := "ytldppdafgbipjaa", sum := "5d5dce9753cb4ac33f5e2d1af37e48471cd92696f5d3bad984d2c2f79f49118d", func := "quadrille/quadrillelaw7.GridAll", spec := "gridAll", unfollowed := true, recurses := true, plainKeys := false, apart := false }
def GridAllSaid : Prop := gridAllRow.holds Try.pinned (OpenSpec.ofChange gridAllSpec)

/-- ITS FALSE NEIGHBOUR: 'it returns false'. Refute it at one input. -/
def gridAllWrong : ChangeSpec := { name := "gridAll", fn := fun _ => fun
  | [d] => { results := [.lit (.bool false)], args := [d] }
  | _ => none }
def GridAllWrongFalsely : Prop := gridAllRow.holds Try.pinned (OpenSpec.ofChange gridAllWrong)

/-- 'quadrillelaw7.GridOrder': WHATEVER THE INPUT: true; the input reads as it did. -/
def gridOrderSpec : ChangeSpec := { name := "gridOrder", fn := fun _ => fun
  | [d1, d2] => { results := [.lit (.bool true)], args := [d1, d2] }
  | _ => none }
def gridOrderRow : OpenClaim := { program := "ytldppdafgbipjaa", sum := "5d5dce9753cb4ac33f5e2d1af37e48471cd92696f5d3bad984d2c2f79f49118d", func := "quadrille/quadrillelaw7.GridOrder", spec := "gridOrder", unfollowed := true, recurses := true, plainKeys := false, apart := false }
def GridOrderSaid : Prop := gridOrderRow.holds Try.pinned (OpenSpec.ofChange gridOrderSpec)

/-- ITS FALSE NEIGHBOUR: 'it returns false'. Refute it at one input. -/
def gridOrderWrong : ChangeSpec := { name := "gridOrder", fn := fun _ => fun
  | [d1, d2] => { results := [.lit (.bool false)], args := [d1, d2] }
  | _ => none }
def GridOrderWrongFalsely : Prop := gridOrderRow.holds Try.pinned (OpenSpec.ofChange gridOrderWrong)

/-- 'quadrillelaw7.GridShares': WHATEVER THE INPUT: true; the input reads as it did. -/
def gridSharesSpec : ChangeSpec := { name := "gridShares", fn := fun _ => fun
  | [d] => { results := [.lit (.bool true)], args := [d] }
  | _ => none }
def gridSharesRow : OpenClaim := { program := "ytldppdafgbipjaa", sum := "5d5dce9753cb4ac33f5e2d1af37e48471cd92696f5d3bad984d2c2f79f49118d", func := "quadrille/quadrillelaw7.GridShares", spec := "gridShares", unfollowed := true, recurses := true, plainKeys := false, apart := false }
def GridSharesSaid : Prop := gridSharesRow.holds Try.pinned (OpenSpec.ofChange gridSharesSpec)

/-- ITS FALSE NEIGHBOUR: 'it returns false'. Refute it at one input. -/
def gridSharesWrong : ChangeSpec := { name := "gridShares", fn := fun _ => fun
  | [d] => { results := [.lit (.bool false)], args := [d] }
  | _ => none }
def GridSharesWrongFalsely : Prop := gridSharesRow.holds Try.pinned (OpenSpec.ofChange gridSharesWrong)

/-- 'quadrillelaw7.GridFull': WHATEVER THE INPUT: true; the input reads as it did. -/
def gridFullSpec : ChangeSpec := { name := "gridFull", fn := fun _ => fun
  | [] => { results := [.lit (.bool true)], args := [] }
  | _ => none }
def gridFullRow : OpenClaim := { program := "ytldppdafgbipjaa", sum := "5d5dce9753cb4ac33f5e2d1af37e48471cd92696f5d3bad984d2c2f79f49118d", func := "quadrille/quadrillelaw7.GridFull", spec := "gridFull", unfollowed := true, recurses := true, plainKeys := false, apart := false }
def GridFullSaid : Prop := gridFullRow.holds Try.pinned (OpenSpec.ofChange gridFullSpec)

/-- ITS FALSE NEIGHBOUR: 'it returns false'. Refute it at one input. -/
def gridFullWrong : ChangeSpec := { name := "gridFull", fn := fun _ => fun
  | [] => { results := [.lit (.bool false)], args := [] }
  | _ => none }
def GridFullWrongFalsely : Prop := gridFullRow.holds Try.pinned (OpenSpec.ofChange gridFullWrong)

/-- 'quadrillelaw24.SchedNone': WHATEVER THE INPUT: true; the input reads as it did. -/
def schedNoneSpec : ChangeSpec := { name := "schedNone", fn := fun _ => fun
  | [] => { results := [.lit (.bool true)], args := [] }
  | _ => none }
def schedNoneRow : OpenClaim := { program := "ytldppdafgbipjaa", sum := "5d5dce9753cb4ac33f5e2d1af37e48471cd92696f5d3bad984d2c2f79f49118d", func := "quadrille/quadrillelaw24.SchedNone", spec := "schedNone", unfollowed := true, recurses := true, plainKeys := false, apart := false }
def SchedNoneSaid : Prop := schedNoneRow.holds Try.pinned (OpenSpec.ofChange schedNoneSpec)

/-- ITS FALSE NEIGHBOUR: 'it returns false'. Refute it at one input. -/
def schedNoneWrong : ChangeSpec := { name := "schedNone", fn := fun _ => fun
  | [] => { results := [.lit (.bool false)], args := [] }
  | _ => none }
def SchedNoneWrongFalsely : Prop := schedNoneRow.holds Try.pinned (OpenSpec.ofChange schedNoneWrong)

/-- 'quadrillelaw22.TraceFull': WHATEVER THE INPUT: true; the input reads as it did. -/
def traceFullSpec : ChangeSpec := { name := "traceFull", fn := fun _ => fun
  | [] => { results := [.lit (.bool true)], args := [] }
  | _ => none }
def traceFullRow : OpenClaim := { program := "ytldppdafgbipjaa", sum := "5d5dce9753cb4ac33f5e2d1af37e48471cd92696f5d3bad984d2c2f79f49118d", func := "quadrille/quadrillelaw22.TraceFull", spec := "traceFull", unfollowed := true, recurses := true, plainKeys := false, apart := false }
def TraceFullSaid : Prop := traceFullRow.holds Try.pinned (OpenSpec.ofChange traceFullSpec)

/-- ITS FALSE NEIGHBOUR: 'it returns false'. Refute it at one input. -/
def traceFullWrong : ChangeSpec := { name := "traceFull", fn := fun _ => fun
  | [] => { results := [.lit (.bool false)], args := [] }
  | _ => none }
def TraceFullWrongFalsely : Prop := traceFullRow.holds Try.pinned (OpenSpec.ofChange traceFullWrong)

/-- 'quadrillelaw22.TraceAll': WHATEVER THE INPUT: true; the input reads as it did. -/
def traceAllSpec : ChangeSpec := { name := "traceAll", fn := fun _ => fun
  | [d1, d2, d3] => { results := [.lit (.bool true)], args := [d1, d2, d3] }
  | _ => none }
def traceAllRow : OpenClaim := { program := "ytldppdafgbipjaa", sum := "5d5dce9753cb4ac33f5e2d1af37e48471cd92696f5d3bad984d2c2f79f49118d", func := "quadrille/quadrillelaw22.TraceAll", spec := "traceAll", unfollowed := true, recurses := true, plainKeys := false, apart := false }
def TraceAllSaid : Prop := traceAllRow.holds Try.pinned (OpenSpec.ofChange traceAllSpec)

/-- ITS FALSE NEIGHBOUR: 'it returns false'. Refute it at one input. -/
def traceAllWrong : ChangeSpec := { name := "traceAll", fn := fun _ => fun
  | [d1, d2, d3] => { results := [.lit (.bool false)], args := [d1, d2, d3] }
  | _ => none }
def TraceAllWrongFalsely : Prop := traceAllRow.holds Try.pinned (OpenSpec.ofChange traceAllWrong)

/-- 'quadrillelaw22.TraceKept': WHATEVER THE INPUT: true; the input reads as it did. -/
def traceKeptSpec : ChangeSpec := { name := "traceKept", fn := fun _ => fun
  | [d1, d2] => { results := [.lit (.bool true)], args := [d1, d2] }
  | _ => none }
def traceKeptRow : OpenClaim := { program := "ytldppdafgbipjaa", sum := "5d5dce9753cb4ac33f5e2d1af37e48471cd92696f5d3bad984d2c2f79f49118d", func := "quadrille/quadrillelaw22.TraceKept", spec := "traceKept", unfollowed := true, recurses := true, plainKeys := false, apart := false }
def TraceKeptSaid : Prop := traceKeptRow.holds Try.pinned (OpenSpec.ofChange traceKeptSpec)

/-- ITS FALSE NEIGHBOUR: 'it returns false'. Refute it at one input. -/
def traceKeptWrong : ChangeSpec := { name := "traceKept", fn := fun _ => fun
  | [d1, d2] => { results := [.lit (.bool false)], args := [d1, d2] }
  | _ => none }
def TraceKeptWrongFalsely : Prop := traceKeptRow.holds Try.pinned (OpenSpec.ofChange traceKeptWrong)

/- THE SECOND FORM. 'bulk': how many values and letters a reading holds, each counted each time it is reached (what is shared counts as often as it is met; a slice's spare places count too). A statement '..UptoSaid' is the law's where the arguments, and the package variables that the reading takes, are together of bulk at most 1048576: NARROWER than '..Said'. Prove '..Said' where nothing that the law and all that it calls make is longer than what came in: it says more and counts as full. Else prove '..UptoSaid'. A law counts once. -/
mutual
def uptoBulk {H : Type} : DataW H → Nat
  | .lit (.string bytes) => bytes.length + 1
  | .lit _ => 1
  | .nil => 1
  | .ptr d => uptoBulk d + 1
  | .slice elems spare => uptoBulkAll elems + uptoBulkAll spare + 1
  | .agg parts => uptoBulkAll parts + 1
  | .iface _ d => uptoBulk d + 1
  | .map entries => uptoBulkEntries entries + 1
  | .held _ => 1
def uptoBulkAll {H : Type} : List (DataW H) → Nat
  | [] => 0
  | d :: r => uptoBulk d + uptoBulkAll r
def uptoBulkEntries {H : Type} : List (Lit × DataW H) → Nat
  | [] => 0
  | x :: r => uptoBulkEntry x + uptoBulkEntries r
def uptoBulkEntry {H : Type} : Lit × DataW H → Nat
  | (.string bytes, d) => bytes.length + uptoBulk d + 1
  | (_, d) => uptoBulk d + 1
 end
def uptoSmall : (H : Type) → List (DataW H) → Bool := fun _ ds => decide (uptoBulkAll ds ≤ 1048576)
def OpenSpec.upto (s : _root_.Go.ChangeSpec) : _root_.Go.OpenSpec := { _root_.Go.OpenSpec.ofChange s with cond := some uptoSmall }

/-- 'quadrillelaw22.TraceSame', WHERE WHAT IT READS IS OF BULK AT MOST 1048576: true; the input reads as it did. -/
def traceSameUptoRow : OpenClaim := { program := "ytldppdafgbipjaa", sum := "5d5dce9753cb4ac33f5e2d1af37e48471cd92696f5d3bad984d2c2f79f49118d", func := "quadrille/quadrillelaw22.TraceSame", spec := "traceSame", plainKeys := false, apart := false, narrowed := true }
def TraceSameUptoSaid : Prop := traceSameUptoRow.holds Try.pinned (OpenSpec.upto traceSameSpec)

/-- 'quadrillelaw22.TraceLong', WHERE WHAT IT READS IS OF BULK AT MOST 1048576: true; the input reads as it did. -/
def traceLongUptoRow : OpenClaim := { program := "ytldppdafgbipjaa", sum := "5d5dce9753cb4ac33f5e2d1af37e48471cd92696f5d3bad984d2c2f79f49118d", func := "quadrille/quadrillelaw22.TraceLong", spec := "traceLong", plainKeys := false, apart := false, narrowed := true }
def TraceLongUptoSaid : Prop := traceLongUptoRow.holds Try.pinned (OpenSpec.upto traceLongSpec)

/-- 'quadrillelaw7.GridAll', WHERE WHAT IT READS IS OF BULK AT MOST 1048576: true; the input reads as it did. -/
def gridAllUptoRow : OpenClaim := { program := "ytldppdafgbipjaa", sum := "5d5dce9753cb4ac33f5e2d1af37e48471cd92696f5d3bad984d2c2f79f49118d", func := "quadrille/quadrillelaw7.GridAll", spec := "gridAll", unfollowed := true, recurses := true, plainKeys := false, apart := false, narrowed := true }
def GridAllUptoSaid : Prop := gridAllUptoRow.holds Try.pinned (OpenSpec.upto gridAllSpec)

/-- 'quadrillelaw7.GridOrder', WHERE WHAT IT READS IS OF BULK AT MOST 1048576: true; the input reads as it did. -/
def gridOrderUptoRow : OpenClaim := { program := "ytldppdafgbipjaa", sum := "5d5dce9753cb4ac33f5e2d1af37e48471cd92696f5d3bad984d2c2f79f49118d", func := "quadrille/quadrillelaw7.GridOrder", spec := "gridOrder", unfollowed := true, recurses := true, plainKeys := false, apart := false, narrowed := true }
def GridOrderUptoSaid : Prop := gridOrderUptoRow.holds Try.pinned (OpenSpec.upto gridOrderSpec)

/-- 'quadrillelaw7.GridShares', WHERE WHAT IT READS IS OF BULK AT MOST 1048576: true; the input reads as it did. -/
def gridSharesUptoRow : OpenClaim := { program := "ytldppdafgbipjaa", sum := "5d5dce9753cb4ac33f5e2d1af37e48471cd92696f5d3bad984d2c2f79f49118d", func := "quadrille/quadrillelaw7.GridShares", spec := "gridShares", unfollowed := true, recurses := true, plainKeys := false, apart := false, narrowed := true }
def GridSharesUptoSaid : Prop := gridSharesUptoRow.holds Try.pinned (OpenSpec.upto gridSharesSpec)

/-- 'quadrillelaw7.GridFull', WHERE WHAT IT READS IS OF BULK AT MOST 1048576: true; the input reads as it did. -/
def gridFullUptoRow : OpenClaim := { program := "ytldppdafgbipjaa", sum := "5d5dce9753cb4ac33f5e2d1af37e48471cd92696f5d3bad984d2c2f79f49118d", func := "quadrille/quadrillelaw7.GridFull", spec := "gridFull", unfollowed := true, recurses := true, plainKeys := false, apart := false, narrowed := true }
def GridFullUptoSaid : Prop := gridFullUptoRow.holds Try.pinned (OpenSpec.upto gridFullSpec)

/-- 'quadrillelaw24.SchedNone', WHERE WHAT IT READS IS OF BULK AT MOST 1048576: true; the input reads as it did. -/
def schedNoneUptoRow : OpenClaim := { program := "ytldppdafgbipjaa", sum := "5d5dce9753cb4ac33f5e2d1af37e48471cd92696f5d3bad984d2c2f79f49118d", func := "quadrille/quadrillelaw24.SchedNone", spec := "schedNone", unfollowed := true, recurses := true, plainKeys := false, apart := false, narrowed := true }
def SchedNoneUptoSaid : Prop := schedNoneUptoRow.holds Try.pinned (OpenSpec.upto schedNoneSpec)

/-- 'quadrillelaw22.TraceFull', WHERE WHAT IT READS IS OF BULK AT MOST 1048576: true; the input reads as it did. -/
def traceFullUptoRow : OpenClaim := { program := "ytldppdafgbipjaa", sum := "5d5dce9753cb4ac33f5e2d1af37e48471cd92696f5d3bad984d2c2f79f49118d", func := "quadrille/quadrillelaw22.TraceFull", spec := "traceFull", unfollowed := true, recurses := true, plainKeys := false, apart := false, narrowed := true }
def TraceFullUptoSaid : Prop := traceFullUptoRow.holds Try.pinned (OpenSpec.upto traceFullSpec)

/-- 'quadrillelaw22.TraceAll', WHERE WHAT IT READS IS OF BULK AT MOST 1048576: true; the input reads as it did. -/
def traceAllUptoRow : OpenClaim := { program := "ytldppdafgbipjaa", sum := "5d5dce9753cb4ac33f5e2d1af37e48471cd92696f5d3bad984d2c2f79f49118d", func := "quadrille/quadrillelaw22.TraceAll", spec := "traceAll", unfollowed := true, recurses := true, plainKeys := false, apart := false, narrowed := true }
def TraceAllUptoSaid : Prop := traceAllUptoRow.holds Try.pinned (OpenSpec.upto traceAllSpec)

/-- 'quadrillelaw22.TraceKept', WHERE WHAT IT READS IS OF BULK AT MOST 1048576: true; the input reads as it did. -/
def traceKeptUptoRow : OpenClaim := { program := "ytldppdafgbipjaa", sum := "5d5dce9753cb4ac33f5e2d1af37e48471cd92696f5d3bad984d2c2f79f49118d", func := "quadrille/quadrillelaw22.TraceKept", spec := "traceKept", unfollowed := true, recurses := true, plainKeys := false, apart := false, narrowed := true }
def TraceKeptUptoSaid : Prop := traceKeptUptoRow.holds Try.pinned (OpenSpec.upto traceKeptSpec)

end Rows
end Go.Proofs.Ytldppdafgbipjaa
