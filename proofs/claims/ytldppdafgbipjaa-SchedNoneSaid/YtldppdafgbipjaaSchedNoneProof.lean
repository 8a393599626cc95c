/-
  quadrillelaw24.SchedNone returns true.
  Conditions: none.
-/
import Derived.Test.YtldppdafgbipjaaSchedNone
import Derived.Test.YtldppdafgbipjaaLaw
namespace Go.Proofs.Ytldppdafgbipjaa
open Go.ChangeShapes Go.WideShapes Go.ChangeAt Go.RowKit

set_option maxRecDepth 100000 in
theorem schedNone_lifted (os : Os) (started : os.Started) (H : Type) (enc : TypeId × Value → H) :
    ReturnsInHanded {} Try.checked os 9 .any (Rows.schedNoneSpec.pre6 enc Try.prog Try.f9 Rows.schedNoneRow.domain false) (Rows.schedNoneSpec.post enc Try.prog Try.f9 false true false false) := by
  refine returnsInHanded_of_change (C := Try.checked) Try.own started (by kernel_rfl) Try.func9
    (ChangeSpec.witness6 (enc := enc) (C := Try.checked) false ⟨#[], #[], []⟩ 8 (by kernel_rfl) (by kernel_rfl) (by kernel_rfl) (by kernel_rfl)) ?_
  intro W base args ds gs before hval0 hW hcnd _
  have hW' := hW
  obtain ⟨p, q, hA0, hV, rfl, hfz, hnd⟩ := hW
  have hA : DataW.TrodAll enc Try.prog W 0 (fun _ => true) true Try.f9.params.toList args.toList ds p := hA0
  rw [Try.params9] at hA
  obtain ⟨rfl, rfl, rfl⟩ := trodAll_none hA
  obtain ⟨rfl, rfl⟩ := trodVars_none hV
  refine (schedNone W).mono fun e W1 ⟨he, hF⟩ => ?_
  exact ⟨_, he, law_post Try.laidOut hW' (by rw [Try.params9]; intro t ht; simp at ht) rfl rfl Try.underlying4 rfl rfl rfl hF⟩

theorem schedNone_holds : Rows.SchedNoneSaid :=
  OpenClaim.holds_of_wide 9 Try.f9 rfl rfl rfl rfl rfl rfl rfl ⟨rfl, rfl, rfl, rfl, rfl⟩ rfl rfl rfl rfl rfl (by kernel_rfl) Try.func9 (by kernel_rfl)
    (of_decide_eq_true (by kernel_rfl)) (by unfold Func.isWrapper; rw [if_neg (by decide +kernel)]; exact ⟨rfl, rfl⟩)
    (fun os started H enc _ => schedNone_lifted os started H enc)
#print axioms schedNone_holds
end Go.Proofs.Ytldppdafgbipjaa
