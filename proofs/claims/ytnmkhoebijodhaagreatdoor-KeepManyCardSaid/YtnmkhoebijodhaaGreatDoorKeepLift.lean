/-
  quadrillelaw29.KeepMany returns true for every two whole numbers and every text: its walk, lifted.
  Conditions: what the row lists.
-/
import Derived.Test.YtnmkhoebijodhaaGreatDoorMany
import Derived.Test.YtnmkhoebijodhaaGreatDoorLaw
import Derived.Test.YtnmkhoebijodhaaGreatDoorLaid
import Derived.OpenShut
import Derived.Stop.Joined
import Derived.ChangeMaps5
import Derived.Lib.SmallJoins
namespace Go.Proofs.YtnmkhoebijodhaaGreatDoor
open Go.ChangeShapes Go.WideShapes Go.ChangeAt Go.RowKit

set_option maxRecDepth 100000 in
theorem keepMany_lifted (os : Os) (started : os.Started) (H : Type) (enc : TypeId × Value → H) :
    ReturnsInHanded {} Tryz.checked os 4 .any (fun w args => (Rows.keepManySpec.pre enc Tryz.prog Tryz.f4 Rows.keepManyRow.domain false w args ∧ laidMetH Tryz.prog laid8 w) ∧ sizedMet enc Tryz.prog Tryz.f4 (OpenSpec.ofChange Rows.keepManySpec) false w args)
      (Rows.keepManySpec.post enc Tryz.prog Tryz.f4 false true false false) := by
  refine returnsInHanded_of_change_and (C := Tryz.checked) (X := fun w _ => laidMetH Tryz.prog laid8 w) (fun _ _ _ hh h => h.of_heap hh) Tryz.own started (by as_aux_lemma => kernel_rfl) Tryz.func4
    (ChangeSpec.witness_shaped (enc := enc) (C := Tryz.checked) (os := os) (X := fun w _ => laidMetH Tryz.prog laid8 w) false (World.laidAll Tryz.prog os laid8) #[.int .i64 0, .int .i64 0, .string ⟨#[]⟩] 8 (World.laidAll_os _ _ _)
      (laid_shaped os) (by as_aux_lemma => kernel_rfl) (by as_aux_lemma => kernel_rfl) (by as_aux_lemma => kernel_rfl)
      (by rw [MakeChecks.laidMetH_plain _ _ _ laid_plain]; exact laidMet_laidAll _ (laid_fits os) (laid_ifaces os))) ?_
  intro W base args ds gs before hval0 hW hc _ hL _
  have hval : ∀ (j : Nat) t v, Tryz.f4.params[j]? = some t → args[j]? = some v → Value.okWide Tryz.prog W .any base t v := hval0
  have hW' := hW
  obtain ⟨p, q, hA0, hV, rfl, _, _⟩ := hW
  have hA : DataW.TrodAll enc Tryz.prog W 0 (fun _ => true) true Tryz.f4.params.toList args.toList ds p := hA0
  rw [Tryz.params4] at hA hval
  obtain ⟨v0, v1, v2, d0, d1, d2, p0, p1, p2, rfl, rfl, rfl, h0, h1, h2⟩ := trodAll_three hA
  obtain ⟨rfl, rfl⟩ := trodVars_none hV
  obtain ⟨x, rfl, _, _, _⟩ := open_int Tryz.underlying3 (hval 0 3 v0 rfl rfl) h0
  obtain ⟨y, rfl, _, _, _⟩ := open_int Tryz.underlying3 (hval 1 3 v1 rfl rfl) h1
  obtain ⟨t, rfl, _, _, _⟩ := Go.ChangeMaps.open_string Tryz.underlying9 (hval 2 9 v2 rfl rfl) h2
  refine (keepManyAll x y t W).mono fun e W1 ⟨he, hF⟩ => ?_
  exact ⟨_, he, law_post Tryz.laidOut hW' (by rw [Tryz.params4]; intro t ht; simp at ht; rcases ht with rfl | rfl <;> exact ⟨by as_aux_lemma => kernel_rfl, of_decide_eq_true (by as_aux_lemma => kernel_rfl)⟩) rfl rfl Tryz.underlying4 rfl rfl rfl hF⟩

end Go.Proofs.YtnmkhoebijodhaaGreatDoor
