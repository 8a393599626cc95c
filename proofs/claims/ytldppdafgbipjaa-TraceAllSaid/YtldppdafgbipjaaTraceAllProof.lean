/-
  quadrillelaw22.TraceAll returns true for every two widths and every script, and leaves its arguments as they were.
  Conditions: none.
-/
import Derived.Test.YtldppdafgbipjaaTraceAll
import Derived.Test.YtldppdafgbipjaaArgsK
namespace Go.Proofs.Ytldppdafgbipjaa
open Go.ChangeShapes Go.WideShapes Go.ChangeAt Go.RowKit Go.Joins Go.Deep

theorem Try.cellsOp : Try.prog.cellsOf tOp = 10 := by kernel_rfl
theorem Try.cellsVa : Try.prog.cellsOf tVa = 3 := by kernel_rfl
theorem Try.cellsStr : Try.prog.cellsOf 9 = 1 := by kernel_rfl
theorem Try.cellsI64 : Try.prog.cellsOf 2 = 1 := by kernel_rfl
theorem Try.cellsLS : Try.prog.cellsOf 35 = 1 := by kernel_rfl
theorem Try.cellsLV : Try.prog.cellsOf 36 = 1 := by kernel_rfl

/-- The same, and what each of them has besides. -/
theorem slAt_ofP {α : Type} {w : World} (f : α → List Value) (P : α → Prop) {size : Nat} (hf : ∀ x, (f x).length = size) (hsz : 0 < size) {a : Addr} {len cap : Nat} (hl : len ≤ cap) (hm : cap ≤ maxLen)
    (h : ∀ i, i < len → ∃ x : α, w.cells? 0 (a.add (i * size)) size = some (f x) ∧ P x) : ∃ xs : List α, SlAt w (.slice (some a) len cap) size xs.length (xs.flatMap f) ∧ ∀ x ∈ xs, P x := by
  obtain ⟨xs, hx⟩ := slAt_of (α := {x // P x}) (fun x => f x.1) (fun x => hf x.1) hsz hl hm (fun i hi => by
    obtain ⟨x, h1, h2⟩ := h i hi
    exact ⟨⟨x, h2⟩, h1⟩)
  refine ⟨xs.map (·.1), ?_, fun x hx => ?_⟩
  · have e : (xs.map (·.1)).flatMap f = xs.flatMap fun x => f x.1 := by rw [List.flatMap_map]
    rw [e, List.length_map]
    exact hx
  · obtain ⟨y, _, rfl⟩ := List.mem_map.1 hx
    exact y.2

section
variable {H : Type} {enc : TypeId × Value → H} {W : World}
theorem open_spotC {base : Nat} {spare : Nat → Bool} {held : Bool} {n : Nat} {a b : Value} {y : Option (DataW H × List MemPlace)} (h : DataW.trod enc Try.prog W base spare held n tSp [a, b] = y) (hy : y.isSome = true) : ∃ s : Sp, a = .int .i64 s.1 ∧ b = .int .i64 s.2 := by
  obtain ⟨y0, rfl⟩ := Option.isSome_iff_exists.1 hy
  obtain ⟨xs, k, _, _, _, hxl, hf⟩ := DataW.trod_struct Try.underlying26 h
  have hxl2 : xs.length = 2 := hxl
  have f0 := hf 0 _ rfl
  have f1 := hf 1 _ rfl
  simp only [List.getElem_toArray, List.getElem_cons_zero, List.getElem_cons_succ] at f0 f1
  rw [Try.cellsI] at f0 f1
  obtain ⟨i, rfl⟩ := fld_int f0 (by simp [hxl2])
  obtain ⟨j, rfl⟩ := fld_int f1 (by simp [hxl2])
  exact ⟨(i, j), rfl, rfl⟩
theorem open_valC {base : Nat} {spare : Nat → Bool} {held : Bool} {n : Nat} {a b c : Value} {y : Option (DataW H × List MemPlace)} (h : DataW.trod enc Try.prog W base spare held n tVa [a, b, c] = y) (hy : y.isSome = true) : ∃ v : V, a = .int .i64 v.k ∧ b = .int .i64 v.n ∧ c = .string v.s ∧ v.s.size ≤ 9223372036854775807 := by
  obtain ⟨y0, rfl⟩ := Option.isSome_iff_exists.1 hy
  obtain ⟨xs, k, _, _, _, hxl, hf⟩ := DataW.trod_struct Try.underlying23 h
  have hxl2 : xs.length = 3 := hxl
  have f0 := hf 0 _ rfl
  have f1 := hf 1 _ rfl
  have f2 := hf 2 _ rfl
  simp only [List.getElem_toArray, List.getElem_cons_zero, List.getElem_cons_succ] at f0 f1 f2
  rw [Try.cellsI] at f0
  rw [Try.cellsI64] at f1
  rw [Try.cellsStr] at f2
  obtain ⟨i, rfl⟩ := fld_int f0 (by simp [hxl2])
  obtain ⟨y1, hy1⟩ := Option.isSome_iff_exists.1 (show xs[1]?.isSome = true by simp [hxl2])
  rw [hy1] at f1
  obtain ⟨j, e1, _, _⟩ := DataW.trod_int (t := 2) Try.underlying2 f1
  cases e1
  obtain ⟨y2, hy2⟩ := Option.isSome_iff_exists.1 (show xs[2]?.isSome = true by simp [hxl2])
  rw [hy2] at f2
  obtain ⟨s, e2, _, hs⟩ := DataW.trod_string (t := 9) Try.underlying9 f2
  cases e2
  exact ⟨⟨i, j, s⟩, rfl, rfl, rfl, hs⟩
theorem len2 {cs : List Value} (h : cs.length = 2) : ∃ c0 c1, cs = [c0, c1] := by
  match cs, h with
  | [c0, c1], _ => exact ⟨_, _, rfl⟩
theorem len3 {cs : List Value} (h : cs.length = 3) : ∃ c0 c1 c2, cs = [c0, c1, c2] := by
  match cs, h with
  | [c0, c1, c2], _ => exact ⟨_, _, _, rfl⟩
theorem len10 {cs : List Value} (h : cs.length = 10) : ∃ c0 c1 c2 c3 c4 c5 c6 c7 c8 c9, cs = [c0, c1, c2, c3, c4, c5, c6, c7, c8, c9] := by
  match cs, h with
  | [c0, c1, c2, c3, c4, c5, c6, c7, c8, c9], _ => exact ⟨_, _, _, _, _, _, _, _, _, _, rfl⟩
theorem open_slS {spare : Nat → Bool} {held : Bool} {n : Nat} {v : Value} {y : Option (DataW H × List MemPlace)} (h : DataW.trod enc Try.prog W 0 spare held n 35 [v] = y) (hy : y.isSome = true) : ∃ a c, ∃ ds : List Sp, v = .slice a ds.length c ∧ SpotsAt W (.slice a ds.length c) ds := by
  obtain ⟨y0, rfl⟩ := Option.isSome_iff_exists.1 hy
  rcases open_slice Try.underlying35 h with ⟨hc, _⟩ | ⟨a, len, cap, m, n, D, Pl, hc, _, hl, hm, hmm, _, hall⟩
  · cases hc
    exact ⟨none, 0, [], rfl, SlAt.nil W 2⟩
  · cases hc
    have hlm : len ≤ m := by rw [hmm]; split <;> omega
    rw [Try.cellsS] at hall
    obtain ⟨ds, hds⟩ := slAt_of spC (size := 2) (fun _ => rfl) (by decide) hl hm (fun i hi => by
      obtain ⟨cs', h1, h2⟩ := hall i (by omega)
      obtain ⟨_, hlen, _⟩ := World.cells?_some h1
      obtain ⟨c0, c1, rfl⟩ := len2 hlen
      obtain ⟨s, rfl, rfl⟩ := open_spotC h2 rfl
      exact ⟨s, h1⟩)
    obtain ⟨a', c', e, _, _⟩ := hds.form
    cases e
    exact ⟨_, _, ds, rfl, hds⟩
theorem open_slV {spare : Nat → Bool} {held : Bool} {n : Nat} {v : Value} {y : Option (DataW H × List MemPlace)} (h : DataW.trod enc Try.prog W 0 spare held n 36 [v] = y) (hy : y.isSome = true) : ∃ a c, ∃ vs : List V, v = .slice a vs.length c ∧ ValsAt W (.slice a vs.length c) vs ∧ ∀ x ∈ vs, x.s.size ≤ 9223372036854775807 := by
  obtain ⟨y0, rfl⟩ := Option.isSome_iff_exists.1 hy
  rcases open_slice Try.underlying36 h with ⟨hc, _⟩ | ⟨a, len, cap, m, n, D, Pl, hc, _, hl, hm, hmm, _, hall⟩
  · cases hc
    exact ⟨none, 0, [], rfl, SlAt.nil W 3, by simp⟩
  · cases hc
    have hlm : len ≤ m := by rw [hmm]; split <;> omega
    rw [Try.cellsVa] at hall
    obtain ⟨vs, hvs, hsz⟩ := slAt_ofP vC (size := 3) (fun x => x.s.size ≤ 9223372036854775807) (fun _ => rfl) (by decide) hl hm (fun i hi => by
      obtain ⟨cs', h1, h2⟩ := hall i (by omega)
      obtain ⟨_, hlen, _⟩ := World.cells?_some h1
      obtain ⟨c0, c1, c2, rfl⟩ := len3 hlen
      obtain ⟨x, rfl, rfl, rfl, hs⟩ := open_valC h2 rfl
      exact ⟨x, h1, hs⟩)
    obtain ⟨a', c', e, _, _⟩ := hvs.form
    cases e
    exact ⟨_, _, vs, rfl, hvs, hsz⟩
set_option maxRecDepth 100000 in
theorem open_op22 {spare : Nat → Bool} {held : Bool} {n : Nat} {cs : List Value} {x : DataW H × List MemPlace} (h : DataW.trod enc Try.prog W 0 spare held n tOp cs = some x) : ∃ o : Op22, cs = opC22 o ∧ RawOk W o := by
  obtain ⟨xs, k, _, _, hlen, hxl, hf⟩ := DataW.trod_struct Try.underlying111 h
  have hxl2 : xs.length = 7 := hxl
  rw [Try.cellsOp] at hlen
  obtain ⟨c0, c1, c2, c3, c4, c5, c6, c7, c8, c9, rfl⟩ := len10 hlen
  have f0 := hf 0 _ rfl
  have f1 := hf 1 _ rfl
  have f2 := hf 2 _ rfl
  have f3 := hf 3 _ rfl
  have f4 := hf 4 _ rfl
  have f5 := hf 5 _ rfl
  have f6 := hf 6 _ rfl
  simp only [List.getElem_toArray, List.getElem_cons_zero, List.getElem_cons_succ] at f0 f1 f2 f3 f4 f5 f6
  rw [Try.cellsI] at f0 f1 f6
  rw [Try.cellsS] at f2
  rw [Try.cellsVa] at f3
  rw [Try.cellsLS] at f4
  rw [Try.cellsLV] at f5
  obtain ⟨k0, rfl⟩ := fld_int f0 (by simp [hxl2])
  obtain ⟨on, rfl⟩ := fld_int f1 (by simp [hxl2])
  obtain ⟨s, rfl, rfl⟩ := open_spotC f2 (by simp [hxl2])
  obtain ⟨v, rfl, rfl, rfl, hv⟩ := open_valC f3 (by simp [hxl2])
  obtain ⟨da, dc, ds, rfl, hds⟩ := open_slS f4 (by simp [hxl2])
  obtain ⟨va, vc, vs, rfl, hvs, hsz⟩ := open_slV f5 (by simp [hxl2])
  obtain ⟨y6, hy6⟩ := Option.isSome_iff_exists.1 (show xs[6]?.isSome = true by simp [hxl2])
  rw [hy6] at f6
  obtain ⟨i, e6, _, hi⟩ := DataW.trod_int (t := 3) Try.underlying3 f6
  cases e6
  have hii := wf_i64 hi
  exact ⟨⟨k0, on, s, v, da, dc, ds, va, vc, vs, i⟩, rfl, hds, hvs, hv, hsz, hii.1, hii.2⟩
set_option maxRecDepth 100000 in
theorem open_ops22 {r : Reach} {b0 : Nat} {v : Value} {d : DataW H} {p : List MemPlace}
    (hv : Value.okWide Try.prog W r b0 103 v) (h : DataW.Trod enc Try.prog W 0 (fun _ => true) true 103 v d p) :
    ∃ ops : List Op22, Ops22 W v ops ∧ ∀ o ∈ ops, RawOk W o := by
  obtain ⟨pa, len, cap, rfl⟩ := okWide_slice Try.underlying103 hv
  obtain ⟨fuel, hf⟩ := h
  simp only [Value.cells] at hf
  rcases open_slice Try.underlying103 hf with ⟨hc, _⟩ | ⟨a, len', cap', m, n, D, Pl, hc, _, hl, hm, hmm, _, hall⟩
  · simp only [List.cons.injEq, and_true, Value.slice.injEq] at hc
    obtain ⟨rfl, rfl, rfl⟩ := hc
    exact ⟨[], SlAt.nil W 10, by simp⟩
  · simp only [List.cons.injEq, and_true, Value.slice.injEq] at hc
    obtain ⟨rfl, rfl, rfl⟩ := hc
    simp only [if_true] at hmm
    subst hmm
    rw [Try.cellsOp] at hall
    refine slAt_ofP opC22 (RawOk W) (fun _ => rfl) (by decide) hl hm (fun i hi => ?_)
    obtain ⟨cs', h1, h2⟩ := hall i (by omega)
    obtain ⟨o, rfl, ho⟩ := open_op22 h2
    exact ⟨o, h1, ho⟩
end

set_option maxRecDepth 100000 in
theorem traceAll_lifted (os : Os) (started : os.Started) (H : Type) (enc : TypeId × Value → H) :
    ReturnsInHanded {} Try.checked os 11 .any (Rows.traceAllSpec.pre6 enc Try.prog Try.f11 Rows.traceAllRow.domain false) (Rows.traceAllSpec.post enc Try.prog Try.f11 false true false false) := by
  refine returnsInHanded_of_change (C := Try.checked) Try.own started (by kernel_rfl) Try.func11
    (ChangeSpec.witness6 (enc := enc) (C := Try.checked) false ⟨#[], #[.int .i64 0, .int .i64 0, .slice none 0 0], []⟩ 8 (by kernel_rfl) (by kernel_rfl) (by kernel_rfl) (by kernel_rfl)) ?_
  intro W base args ds gs before hval0 hW hcnd _
  have hval : ∀ (j : Nat) t v, Try.f11.params[j]? = some t → args[j]? = some v → Value.okWide Try.prog W .any base t v := hval0
  have hW' := hW
  obtain ⟨p, q, hA0, hV, rfl, hfz, hnd⟩ := hW
  have hA : DataW.TrodAll enc Try.prog W 0 (fun _ => true) true Try.f11.params.toList args.toList ds p := hA0
  rw [Try.params11] at hA hval
  obtain ⟨v0, v1, v2, d0, d1, d2, p0, p1, p2, rfl, rfl, rfl, h0, h1, h2⟩ := trodAll_three hA
  obtain ⟨rfl, rfl⟩ := trodVars_none hV
  obtain ⟨one, rfl, _, _, _⟩ := open_int Try.underlying3 (hval 0 3 v0 rfl rfl) h0
  obtain ⟨two, rfl, _, _, _⟩ := open_int Try.underlying3 (hval 1 3 v1 rfl rfl) h1
  obtain ⟨ops, hops, hraw⟩ := open_ops22 (hval 2 103 v2 rfl rfl) h2
  refine (traceAll_walk one two v2 ops W hops hraw).mono fun e W1 ⟨he, hF⟩ => ?_
  exact ⟨_, he, law_post Try.laidOut hW' (by rw [Try.params11]; intro t ht; simp at ht; rcases ht with rfl | rfl <;> exact ⟨by kernel_rfl, of_decide_eq_true (by kernel_rfl)⟩) rfl rfl Try.underlying4 rfl rfl rfl hF⟩

theorem traceAll_holds : Rows.TraceAllSaid :=
  OpenClaim.holds_of_wide 11 Try.f11 rfl rfl rfl rfl rfl rfl rfl ⟨rfl, rfl, rfl, rfl, rfl⟩ rfl rfl rfl rfl rfl (by kernel_rfl) Try.func11 (by kernel_rfl)
    (of_decide_eq_true (by kernel_rfl)) (by unfold Func.isWrapper; rw [if_neg (by decide +kernel)]; exact ⟨rfl, rfl⟩)
    (fun os started H enc _ => traceAll_lifted os started H enc)
#print axioms traceAll_holds
end Go.Proofs.Ytldppdafgbipjaa
