/-
  quadrillelaw29.KeepMany returns true for every two whole numbers and every text: the tied card.
  Conditions: what the row lists (the pinned tables, the data and the two sentinels), tied to the program's text.
-/
import Derived.Test.YtnmkhoebijodhaaGreatDoorKeepRowB
import Derived.Test.YtnmkhoebijodhaaGreatDoorTieRow
import Derived.Test.YtnmkhoebijodhaaGreatDoorCards
import Derived.Test.YtnmkhoebijodhaaGreatDoorKeepGoes
import Derived.SevenTiedAt
namespace Go.Proofs.YtnmkhoebijodhaaGreatDoor
open Go

set_option maxHeartbeats 12800000 in
theorem keepMany_holds : Rows.KeepManyCardSaid :=
  Claim7.holds_tied_plain_at .later [] [.pinned, .data, .sentinel, .sentinel, .data, .data, .data, .pinned] true (true, "7e0680aec55b860ba60639d99166165532f40e5e1bb750f7ae4765d1f97190d9") true keepMany_row (fun _ h => by cases h) (by as_aux_lemma => kernel_rfl) (fun _ h => by cases h) keepMany_tied rfl ⟨rfl, rfl⟩ (by as_aux_lemma => kernel_rfl) rfl
    (fun f fn hf hfn => by
      obtain rfl : f = 4 := Option.some.inj ((show Tryz.prog.funcNamed "quadrille/quadrillelaw29.KeepMany" = some 4 by as_aux_lemma => kernel_rfl).symm.trans hf) |>.symm
      obtain rfl : fn = Tryz.f4 := (Option.some.inj (Tryz.func4.symm.trans hfn)).symm
      exact ⟨keepMany_looks, fun j t ht => by
        rw [Tryz.params4] at ht
        have hm : t ∈ [3, 3, 9] := by simpa using Array.mem_of_getElem? ht
        have hall : ([3, 3, 9].all fun u => !Tryz.prog.wantsStandIn u) = true := by as_aux_lemma => kernel_rfl
        exact (show Tryz.prog.wantsStandIn t = false by simpa using List.all_eq_true.1 hall t hm)⟩)
    keepMany_goes
#print axioms keepMany_holds
end Go.Proofs.YtnmkhoebijodhaaGreatDoor
