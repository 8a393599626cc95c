/-
  quadrillelaw7.GridAll returns true for every script, and leaves its argument as it was.
  Conditions: none.
-/
import Derived.Test.YtldppdafgbipjaaGridAll
import Derived.Test.YtldppdafgbipjaaArgs
namespace Go.Proofs.Ytldppdafgbipjaa
open Go.ChangeShapes Go.WideShapes Go.ChangeAt Go.RowKit Go.Joins Go.Deep

theorem list_of {α : Type} {p : Nat → α → Prop} : ∀ (len : Nat), (∀ i, i < len → ∃ x, p i x) → ∃ xs : List α, xs.length = len ∧ ∀ i (hi : i < xs.length), p i xs[i]
  | 0, _ => ⟨[], rfl, fun i hi => by simp at hi⟩
  | n + 1, h => by
    obtain ⟨xs, hl, hx⟩ := list_of n (fun i hi => h i (by omega))
    obtain ⟨y, hy⟩ := h n (by omega)
    refine ⟨xs ++ [y], by simp [hl], fun i hi => ?_⟩
    simp only [List.length_append, List.length_cons, List.length_nil] at hi
    rw [List.getElem_append]
    split
    · exact hx i _
    · have e : i = n := by omega
      subst e
      simpa using hy

theorem slAt_of {α : Type} {w : World} (f : α → List Value) {size : Nat} (hf : ∀ x, (f x).length = size) (hsz : 0 < size) {a : Addr} {len cap : Nat} (hl : len ≤ cap) (hm : cap ≤ maxLen)
    (h : ∀ i, i < len → ∃ x : α, w.cells? 0 (a.add (i * size)) size = some (f x)) : ∃ xs : List α, SlAt w (.slice (some a) len cap) size xs.length (xs.flatMap f) := by
  obtain ⟨xs, hlen, hx⟩ := list_of len h
  refine ⟨xs, ?_⟩
  subst hlen
  obtain ⟨b, off, spot⟩ := a
  refine ⟨flat_len f size hf xs, ⟨_, _, rfl, hl, by unfold maxLen at hm; omega⟩, fun hpos => ?_⟩
  have key : ∀ i (hi : i < xs.length) j, j < size → w.cell? ((⟨b, off, spot⟩ : Addr).add (i * size + j)) = (f xs[i])[j]? := fun i hi j hj => by
    have := (World.cells?_some (hx i hi)).2.2 j hj
    rwa [add_add] at this
  have hspot : spot = none := by
    have h0 := key 0 hpos 0 hsz
    rw [List.getElem?_eq_getElem (by rw [hf]; exact hsz)] at h0
    simpa [Addr.add] using World.cell?_spot h0
  subst hspot
  have ea : ∀ k, (⟨b, off, none⟩ : Addr).add k = ⟨b, off + k, none⟩ := fun k => by
    unfold Addr.add
    split
    · rename_i h0; subst h0; rfl
    · rfl
  have hb : b < w.heap.size := by
    have h0 := key 0 hpos 0 hsz
    rw [List.getElem?_eq_getElem (by rw [hf]; exact hsz), ea] at h0
    exact World.block_lt_of_cell? w _ h0
  refine ⟨b, off, _, rfl, hb, fun j x hxj => ?_⟩
  have hj : j < xs.length * size := by
    have := (List.getElem?_eq_some_iff.1 hxj).1
    rwa [flat_len f size hf] at this
  have hi : j / size < xs.length := by
    rw [Nat.div_lt_iff_lt_mul hsz]
    exact hj
  have hr : j % size < size := Nat.mod_lt _ hsz
  have e : j / size * size + j % size = j := by rw [Nat.mul_comm]; exact Nat.div_add_mod j size
  have hg := flat_get f size hf xs (j / size) (j % size) hi hr
  have hk := key (j / size) hi (j % size) hr
  rw [e, hxj] at hg
  rw [e, ea] at hk
  rw [hk, hg]

section
variable {H : Type} {enc : TypeId × Value → H} {W : World}
/-- A field that is a number. -/
theorem fld_int {base : Nat} {spare : Nat → Bool} {held : Bool} {n : Nat} {v : Value} {y : Option (DataW H × List MemPlace)} (h : DataW.trod enc Try.prog W base spare held n 3 [v] = y) (hy : y.isSome = true) : ∃ i, v = .int .i64 i := by
  obtain ⟨y0, rfl⟩ := Option.isSome_iff_exists.1 hy
  obtain ⟨i, e0, _, _⟩ := DataW.trod_int (t := 3) Try.underlying3 h
  cases e0
  exact ⟨i, rfl⟩
end
theorem Try.cellsOp : Try.prog.cellsOf 56 = 9 := by kernel_rfl
theorem Try.cellsAr : Try.prog.cellsOf 54 = 4 := by kernel_rfl
theorem Try.cellsB : Try.prog.cellsOf 4 = 1 := by kernel_rfl
section
variable {H : Type} {enc : TypeId × Value → H} {W : World}
theorem open_spotC {base : Nat} {spare : Nat → Bool} {held : Bool} {n : Nat} {a b : Value} {y : Option (DataW H × List MemPlace)} (h : DataW.trod enc Try.prog W base spare held n 26 [a, b] = y) (hy : y.isSome = true) : ∃ s : Sp, a = .int .i64 s.1 ∧ b = .int .i64 s.2 := by
  obtain ⟨y0, rfl⟩ := Option.isSome_iff_exists.1 hy
  obtain ⟨xs, k, _, _, _, hxl, hf⟩ := DataW.trod_struct Try.underlying26 h
  have hxl2 : xs.length = 2 := hxl
  have f0 := hf 0 _ rfl
  have f1 := hf 1 _ rfl
  simp only [List.getElem_toArray, List.getElem_cons_zero, List.getElem_cons_succ] at f0 f1
  rw [Try.cellsI] at f0 f1
  obtain ⟨i, rfl⟩ := fld_int f0 (by simp [hxl2])
  obtain ⟨j, rfl⟩ := fld_int f1 (by simp [hxl2])
  exact ⟨(i, j), rfl, rfl⟩
theorem open_areaC {base : Nat} {spare : Nat → Bool} {held : Bool} {n : Nat} {a b c d : Value} {y : Option (DataW H × List MemPlace)} (h : DataW.trod enc Try.prog W base spare held n 54 [a, b, c, d] = y) (hy : y.isSome = true) : ∃ x : Ar, a = .int .i64 x.t ∧ b = .int .i64 x.l ∧ c = .int .i64 x.b ∧ d = .int .i64 x.r := by
  obtain ⟨y0, rfl⟩ := Option.isSome_iff_exists.1 hy
  obtain ⟨xs, k, _, _, _, hxl, hf⟩ := DataW.trod_struct Try.underlying54 h
  have hxl2 : xs.length = 4 := hxl
  have f0 := hf 0 _ rfl
  have f1 := hf 1 _ rfl
  have f2 := hf 2 _ rfl
  have f3 := hf 3 _ rfl
  simp only [List.getElem_toArray, List.getElem_cons_zero, List.getElem_cons_succ] at f0 f1 f2 f3
  rw [Try.cellsI] at f0 f1 f2 f3
  obtain ⟨i, rfl⟩ := fld_int f0 (by simp [hxl2])
  obtain ⟨j, rfl⟩ := fld_int f1 (by simp [hxl2])
  obtain ⟨k, rfl⟩ := fld_int f2 (by simp [hxl2])
  obtain ⟨l, rfl⟩ := fld_int f3 (by simp [hxl2])
  exact ⟨⟨i, j, k, l⟩, rfl, rfl, rfl, rfl⟩
theorem len9 {cs : List Value} (h : cs.length = 9) : ∃ c0 c1 c2 c3 c4 c5 c6 c7 c8, cs = [c0, c1, c2, c3, c4, c5, c6, c7, c8] := by
  match cs, h with
  | [c0, c1, c2, c3, c4, c5, c6, c7, c8], _ => exact ⟨_, _, _, _, _, _, _, _, _, rfl⟩
set_option maxRecDepth 100000 in
theorem open_op {base : Nat} {spare : Nat → Bool} {held : Bool} {n : Nat} {cs : List Value} {x : DataW H × List MemPlace} (h : DataW.trod enc Try.prog W base spare held n 56 cs = some x) : ∃ o : Op7, cs = opC o := by
  obtain ⟨xs, k, _, _, hlen, hxl, hf⟩ := DataW.trod_struct Try.underlying56 h
  have hxl2 : xs.length = 5 := hxl
  rw [Try.cellsOp] at hlen
  obtain ⟨c0, c1, c2, c3, c4, c5, c6, c7, c8, rfl⟩ := len9 hlen
  have f0 := hf 0 _ rfl
  have f1 := hf 1 _ rfl
  have f2 := hf 2 _ rfl
  have f3 := hf 3 _ rfl
  have f4 := hf 4 _ rfl
  simp only [List.getElem_toArray, List.getElem_cons_zero, List.getElem_cons_succ] at f0 f1 f2 f3 f4
  rw [Try.cellsI] at f0 f2
  rw [Try.cellsS] at f1
  rw [Try.cellsAr] at f3
  rw [Try.cellsB] at f4
  obtain ⟨i, rfl⟩ := fld_int f0 (by simp [hxl2])
  obtain ⟨s, rfl, rfl⟩ := open_spotC f1 (by simp [hxl2])
  obtain ⟨z, rfl⟩ := fld_int f2 (by simp [hxl2])
  obtain ⟨a, rfl, rfl, rfl, rfl⟩ := open_areaC f3 (by simp [hxl2])
  obtain ⟨y0, hy⟩ := Option.isSome_iff_exists.1 (show xs[4]?.isSome = true by simp [hxl2])
  rw [hy] at f4
  obtain ⟨on, e0, _⟩ := DataW.trod_bool (t := 4) Try.underlying4 f4
  cases e0
  exact ⟨⟨i, s, z, a, on⟩, rfl⟩
set_option maxRecDepth 100000 in
theorem open_ops {r : Reach} {b0 : Nat} {v : Value} {d : DataW H} {p : List MemPlace}
    (hv : Value.okWide Try.prog W r b0 43 v) (h : DataW.Trod enc Try.prog W 0 (fun _ => true) true 43 v d p) :
    ∃ ops : List Op7, OpsAt W v ops := by
  obtain ⟨pa, len, cap, rfl⟩ := okWide_slice Try.underlying43 hv
  obtain ⟨fuel, hf⟩ := h
  simp only [Value.cells] at hf
  rcases open_slice Try.underlying43 hf with ⟨hc, _⟩ | ⟨a, len', cap', m, n, D, Pl, hc, _, hl, hm, hmm, _, hall⟩
  · simp only [List.cons.injEq, and_true, Value.slice.injEq] at hc
    obtain ⟨rfl, rfl, rfl⟩ := hc
    exact ⟨[], SlAt.nil W 9⟩
  · simp only [List.cons.injEq, and_true, Value.slice.injEq] at hc
    obtain ⟨rfl, rfl, rfl⟩ := hc
    simp only [if_true] at hmm
    subst hmm
    rw [Try.cellsOp] at hall
    refine slAt_of opC (fun _ => rfl) (by decide) hl hm (fun i hi => ?_)
    obtain ⟨cs', h1, h2⟩ := hall i (by omega)
    obtain ⟨o, rfl⟩ := open_op h2
    exact ⟨o, h1⟩
end

set_option maxRecDepth 100000 in
theorem gridAll_lifted (os : Os) (started : os.Started) (H : Type) (enc : TypeId × Value → H) :
    ReturnsInHanded {} Try.checked os 5 .any (Rows.gridAllSpec.pre6 enc Try.prog Try.f5 Rows.gridAllRow.domain false) (Rows.gridAllSpec.post enc Try.prog Try.f5 false true false false) := by
  refine returnsInHanded_of_change (C := Try.checked) Try.own started (by kernel_rfl) Try.func5
    (ChangeSpec.witness6 (enc := enc) (C := Try.checked) false ⟨#[], #[.slice none 0 0], []⟩ 8 (by kernel_rfl) (by kernel_rfl) (by kernel_rfl) (by kernel_rfl)) ?_
  intro W base args ds gs before hval0 hW hcnd _
  have hval : ∀ (j : Nat) t v, Try.f5.params[j]? = some t → args[j]? = some v → Value.okWide Try.prog W .any base t v := hval0
  have hW' := hW
  obtain ⟨p, q, hA0, hV, rfl, hfz, hnd⟩ := hW
  have hA : DataW.TrodAll enc Try.prog W 0 (fun _ => true) true Try.f5.params.toList args.toList ds p := hA0
  rw [Try.params5] at hA hval
  obtain ⟨v0, d0, rfl, rfl, h0⟩ := trodAll_one hA
  obtain ⟨rfl, rfl⟩ := trodVars_none hV
  obtain ⟨ops, hops⟩ := open_ops (hval 0 43 v0 rfl rfl) h0
  refine (gridAll_walk v0 ops W hops).mono fun e W1 ⟨he, hF⟩ => ?_
  exact ⟨_, he, law_post Try.laidOut hW' (by rw [Try.params5]; intro t ht; simp at ht; rcases ht with rfl <;> exact ⟨by kernel_rfl, of_decide_eq_true (by kernel_rfl)⟩) rfl rfl Try.underlying4 rfl rfl rfl hF⟩

theorem gridAll_holds : Rows.GridAllSaid :=
  OpenClaim.holds_of_wide 5 Try.f5 rfl rfl rfl rfl rfl rfl rfl ⟨rfl, rfl, rfl, rfl, rfl⟩ rfl rfl rfl rfl rfl (by kernel_rfl) Try.func5 (by kernel_rfl)
    (of_decide_eq_true (by kernel_rfl)) (by unfold Func.isWrapper; rw [if_neg (by decide +kernel)]; exact ⟨rfl, rfl⟩)
    (fun os started H enc _ => gridAll_lifted os started H enc)
#print axioms gridAll_holds
end Go.Proofs.Ytldppdafgbipjaa
