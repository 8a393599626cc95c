/-
  quadrillelaw22.TraceFull returns true.
  Conditions: none.
-/
import Derived.Test.YtldppdafgbipjaaTraceFull
import Derived.Test.YtldppdafgbipjaaLaw
namespace Go.Proofs.Ytldppdafgbipjaa
open Go.ChangeShapes Go.WideShapes Go.ChangeAt Go.RowKit

set_option maxRecDepth 100000 in
theorem traceFull_lifted (os : Os) (started : os.Started) (H : Type) (enc : TypeId × Value → H) :
    ReturnsInHanded {} Try.checked os 10 .any (Rows.traceFullSpec.pre6 enc Try.prog Try.f10 Rows.traceFullRow.domain false) (Rows.traceFullSpec.post enc Try.prog Try.f10 false true false false) := by
  refine returnsInHanded_of_change (C := Try.checked) Try.own started (by kernel_rfl) Try.func10
    (ChangeSpec.witness6 (enc := enc) (C := Try.checked) false ⟨#[], #[], []⟩ 8 (by kernel_rfl) (by kernel_rfl) (by kernel_rfl) (by kernel_rfl)) ?_
  intro W base args ds gs before hval0 hW hcnd _
  have hW' := hW
  obtain ⟨p, q, hA0, hV, rfl, hfz, hnd⟩ := hW
  have hA : DataW.TrodAll enc Try.prog W 0 (fun _ => true) true Try.f10.params.toList args.toList ds p := hA0
  rw [Try.params10] at hA
  obtain ⟨rfl, rfl, rfl⟩ := trodAll_none hA
  obtain ⟨rfl, rfl⟩ := trodVars_none hV
  refine (traceFull_walk W).mono fun e W1 ⟨he, hF⟩ => ?_
  exact ⟨_, he, law_post Try.laidOut hW' (by rw [Try.params10]; intro t ht; simp at ht) rfl rfl Try.underlying4 rfl rfl rfl hF⟩

theorem traceFull_holds : Rows.TraceFullSaid :=
  OpenClaim.holds_of_wide 10 Try.f10 rfl rfl rfl rfl rfl rfl rfl ⟨rfl, rfl, rfl, rfl, rfl⟩ rfl rfl rfl rfl rfl (by kernel_rfl) Try.func10 (by kernel_rfl)
    (of_decide_eq_true (by kernel_rfl)) (by unfold Func.isWrapper; rw [if_neg (by decide +kernel)]; exact ⟨rfl, rfl⟩)
    (fun os started H enc _ => traceFull_lifted os started H enc)
#print axioms traceFull_holds
end Go.Proofs.Ytldppdafgbipjaa
