/-
  quadrillelaw21.CycleLeads returns true for every list of nodes, and leaves its argument as it was.
  Conditions: none.
-/
import Derived.Test.YtdlpbpohbkcafaaCLawLE
import Derived.Test.YtdlpbpohbkcafaaCArgs
namespace Go.Proofs.Ytdlpbpohbkcafaa
open Go.ChangeShapes Go.WideShapes Go.ChangeAt Go.RowKit Go.Joins Go.Deep

set_option maxRecDepth 100000 in
theorem cycleLeads_lifted (os : Os) (started : os.Started) (H : Type) (enc : TypeId × Value → H) :
    ReturnsInHanded {} Try.checked os 5 .any (Rows.cycleLeadsSpec.pre6 enc Try.prog Try.f5 Rows.cycleLeadsRow.domain false) (Rows.cycleLeadsSpec.post enc Try.prog Try.f5 false true false false) := by
  refine returnsInHanded_of_change (C := Try.checked) Try.own started (by kernel_rfl) Try.func5
    (ChangeSpec.witness6 (enc := enc) (C := Try.checked) false ⟨#[], #[.slice none 0 0], []⟩ 8 (by kernel_rfl) (by kernel_rfl) (by kernel_rfl) (by kernel_rfl)) ?_
  intro W base args ds gs before hval0 hW hcnd _
  have hval : ∀ (j : Nat) t v, Try.f5.params[j]? = some t → args[j]? = some v → Value.okWide Try.prog W .any base t v := hval0
  have hW' := hW
  obtain ⟨p, q, hA0, hV, rfl, hfz, hnd⟩ := hW
  have hA : DataW.TrodAll enc Try.prog W 0 (fun _ => true) true Try.f5.params.toList args.toList ds p := hA0
  rw [Try.params5] at hA hval
  obtain ⟨v0, d0, rfl, rfl, h0⟩ := trodAll_one hA
  obtain ⟨rfl, rfl⟩ := trodVars_none hV
  obtain ⟨ns, hns⟩ := open_nodes (hval 0 22 v0 rfl rfl) h0
  refine (cycleLeads_walk v0 ns W hns).mono fun e W1 ⟨he, hF⟩ => ?_
  exact ⟨_, he, law_post Try.laidOut hW' (by rw [Try.params5]; intro t ht; simp at ht; rcases ht with rfl; exact ⟨by kernel_rfl, of_decide_eq_true (by kernel_rfl)⟩) rfl rfl Try.underlying4 rfl rfl rfl hF⟩

theorem cycleLeads_holds : Rows.CycleLeadsSaid :=
  OpenClaim.holds_of_wide 5 Try.f5 rfl rfl rfl rfl rfl rfl rfl ⟨rfl, rfl, rfl, rfl, rfl⟩ rfl rfl rfl rfl rfl (by kernel_rfl) Try.func5 (by kernel_rfl)
    (of_decide_eq_true (by kernel_rfl)) (by unfold Func.isWrapper; rw [if_neg (by decide +kernel)]; exact ⟨rfl, rfl⟩)
    (fun os started H enc _ => cycleLeads_lifted os started H enc)
#print axioms cycleLeads_holds
end Go.Proofs.Ytdlpbpohbkcafaa
