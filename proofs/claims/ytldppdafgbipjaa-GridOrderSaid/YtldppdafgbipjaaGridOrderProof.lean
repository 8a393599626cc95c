/-
  quadrillelaw7.GridOrder returns true for every list of places and every area, and leaves its arguments as they were.
  Conditions: none.
-/
import Derived.Test.YtldppdafgbipjaaGridOrder
import Derived.Test.YtldppdafgbipjaaArgs
namespace Go.Proofs.Ytldppdafgbipjaa
open Go.ChangeShapes Go.WideShapes Go.ChangeAt Go.RowKit Go.Joins

theorem Try.cellsA : Try.prog.cellsOf 54 = 4 := by kernel_rfl
section
variable {H : Type} {enc : TypeId × Value → H} {w : World}
set_option maxRecDepth 100000 in
theorem open_area {base : Nat} {spare : Nat → Bool} {held : Bool} {r : Reach} {b0 : Nat} {v : Value} {d : DataW H} {p : List MemPlace}
    (hv : Value.okWide Try.prog w r b0 54 v) (h : DataW.Trod enc Try.prog w base spare held 54 v d p) :
    ∃ x : Ar, v = x.val := by
  obtain ⟨c0, c1, c2, c3, y0, y1, y2, y3, m, rfl, rfl, rfl, hy0, hy1, hy2, hy3⟩ := open_agg4 Try.underlying54 (by kernel_rfl) Try.cellsA hv h
  obtain ⟨a, e0, _, _⟩ := DataW.trod_int (t := 3) Try.underlying3 hy0
  obtain ⟨b, e1, _, _⟩ := DataW.trod_int (t := 3) Try.underlying3 hy1
  obtain ⟨c, e2, _, _⟩ := DataW.trod_int (t := 3) Try.underlying3 hy2
  obtain ⟨e, e3, _, _⟩ := DataW.trod_int (t := 3) Try.underlying3 hy3
  cases e0
  cases e1
  cases e2
  cases e3
  exact ⟨⟨a, b, c, e⟩, rfl⟩
end

set_option maxRecDepth 100000 in
theorem gridOrder_lifted (os : Os) (started : os.Started) (H : Type) (enc : TypeId × Value → H) :
    ReturnsInHanded {} Try.checked os 6 .any (Rows.gridOrderSpec.pre6 enc Try.prog Try.f6 Rows.gridOrderRow.domain false) (Rows.gridOrderSpec.post enc Try.prog Try.f6 false true false false) := by
  refine returnsInHanded_of_change (C := Try.checked) Try.own started (by kernel_rfl) Try.func6
    (ChangeSpec.witness6 (enc := enc) (C := Try.checked) false ⟨#[], #[.slice none 0 0, .agg #[.int .i64 0, .int .i64 0, .int .i64 0, .int .i64 0]], []⟩ 8 (by kernel_rfl) (by kernel_rfl) (by kernel_rfl) (by kernel_rfl)) ?_
  intro W base args ds gs before hval0 hW hcnd _
  have hval : ∀ (j : Nat) t v, Try.f6.params[j]? = some t → args[j]? = some v → Value.okWide Try.prog W .any base t v := hval0
  have hW' := hW
  obtain ⟨p, q, hA0, hV, rfl, hfz, hnd⟩ := hW
  have hA : DataW.TrodAll enc Try.prog W 0 (fun _ => true) true Try.f6.params.toList args.toList ds p := hA0
  rw [Try.params6] at hA hval
  obtain ⟨v0, v1, d0, d1, p0, p1, rfl, rfl, rfl, h0, h1⟩ := trodAll_two hA
  obtain ⟨rfl, rfl⟩ := trodVars_none hV
  obtain ⟨ss, hss, _⟩ := open_spots (hval 0 35 v0 rfl rfl) h0
  obtain ⟨a, rfl⟩ := open_area (hval 1 54 v1 rfl rfl) h1
  refine (gridOrder v0 ss a W hss).mono fun e W1 ⟨he, hF⟩ => ?_
  exact ⟨_, he, law_post Try.laidOut hW' (by rw [Try.params6]; intro t ht; simp at ht; rcases ht with rfl | rfl <;> exact ⟨by kernel_rfl, of_decide_eq_true (by kernel_rfl)⟩) rfl rfl Try.underlying4 rfl rfl rfl hF⟩

theorem gridOrder_holds : Rows.GridOrderSaid :=
  OpenClaim.holds_of_wide 6 Try.f6 rfl rfl rfl rfl rfl rfl rfl ⟨rfl, rfl, rfl, rfl, rfl⟩ rfl rfl rfl rfl rfl (by kernel_rfl) Try.func6 (by kernel_rfl)
    (of_decide_eq_true (by kernel_rfl)) (by unfold Func.isWrapper; rw [if_neg (by decide +kernel)]; exact ⟨rfl, rfl⟩)
    (fun os started H enc _ => gridOrder_lifted os started H enc)
#print axioms gridOrder_holds
end Go.Proofs.Ytldppdafgbipjaa
