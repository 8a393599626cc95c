/-
  Arguments, opened: a slice of things of one form, many cells each.
-/
import Derived.Test.YtldppdafgbipjaaArgs
namespace Go.Proofs.Ytldppdafgbipjaa
open Go.ChangeShapes Go.WideShapes Go.ChangeAt Go.RowKit Go.Joins Go.Deep

theorem list_of {α : Type} {p : Nat → α → Prop} : ∀ (len : Nat), (∀ i, i < len → ∃ x, p i x) → ∃ xs : List α, xs.length = len ∧ ∀ i (hi : i < xs.length), p i xs[i]
  | 0, _ => ⟨[], rfl, fun i hi => by simp at hi⟩
  | n + 1, h => by
    obtain ⟨xs, hl, hx⟩ := list_of n (fun i hi => h i (by omega))
    obtain ⟨y, hy⟩ := h n (by omega)
    refine ⟨xs ++ [y], by simp [hl], fun i hi => ?_⟩
    simp only [List.length_append, List.length_cons, List.length_nil] at hi
    rw [List.getElem_append]
    split
    · exact hx i _
    · have e : i = n := by omega
      subst e
      simpa using hy

theorem slAt_of {α : Type} {w : World} (f : α → List Value) {size : Nat} (hf : ∀ x, (f x).length = size) (hsz : 0 < size) {a : Addr} {len cap : Nat} (hl : len ≤ cap) (hm : cap ≤ maxLen)
    (h : ∀ i, i < len → ∃ x : α, w.cells? 0 (a.add (i * size)) size = some (f x)) : ∃ xs : List α, SlAt w (.slice (some a) len cap) size xs.length (xs.flatMap f) := by
  obtain ⟨xs, hlen, hx⟩ := list_of len h
  refine ⟨xs, ?_⟩
  subst hlen
  obtain ⟨b, off, spot⟩ := a
  refine ⟨flat_len f size hf xs, ⟨_, _, rfl, hl, by unfold maxLen at hm; omega⟩, fun hpos => ?_⟩
  have key : ∀ i (hi : i < xs.length) j, j < size → w.cell? ((⟨b, off, spot⟩ : Addr).add (i * size + j)) = (f xs[i])[j]? := fun i hi j hj => by
    have := (World.cells?_some (hx i hi)).2.2 j hj
    rwa [add_add] at this
  have hspot : spot = none := by
    have h0 := key 0 hpos 0 hsz
    rw [List.getElem?_eq_getElem (by rw [hf]; exact hsz)] at h0
    simpa [Addr.add] using World.cell?_spot h0
  subst hspot
  have ea : ∀ k, (⟨b, off, none⟩ : Addr).add k = ⟨b, off + k, none⟩ := fun k => by
    unfold Addr.add
    split
    · rename_i h0; subst h0; rfl
    · rfl
  have hb : b < w.heap.size := by
    have h0 := key 0 hpos 0 hsz
    rw [List.getElem?_eq_getElem (by rw [hf]; exact hsz), ea] at h0
    exact World.block_lt_of_cell? w _ h0
  refine ⟨b, off, _, rfl, hb, fun j x hxj => ?_⟩
  have hj : j < xs.length * size := by
    have := (List.getElem?_eq_some_iff.1 hxj).1
    rwa [flat_len f size hf] at this
  have hi : j / size < xs.length := by
    rw [Nat.div_lt_iff_lt_mul hsz]
    exact hj
  have hr : j % size < size := Nat.mod_lt _ hsz
  have e : j / size * size + j % size = j := by rw [Nat.mul_comm]; exact Nat.div_add_mod j size
  have hg := flat_get f size hf xs (j / size) (j % size) hi hr
  have hk := key (j / size) hi (j % size) hr
  rw [e, hxj] at hg
  rw [e, ea] at hk
  rw [hk, hg]

section
variable {H : Type} {enc : TypeId × Value → H} {W : World}
/-- A field that is a number. -/
theorem fld_int {base : Nat} {spare : Nat → Bool} {held : Bool} {n : Nat} {v : Value} {y : Option (DataW H × List MemPlace)} (h : DataW.trod enc Try.prog W base spare held n 3 [v] = y) (hy : y.isSome = true) : ∃ i, v = .int .i64 i := by
  obtain ⟨y0, rfl⟩ := Option.isSome_iff_exists.1 hy
  obtain ⟨i, e0, _, _⟩ := DataW.trod_int (t := 3) Try.underlying3 h
  cases e0
  exact ⟨i, rfl⟩
end
end Go.Proofs.Ytldppdafgbipjaa
