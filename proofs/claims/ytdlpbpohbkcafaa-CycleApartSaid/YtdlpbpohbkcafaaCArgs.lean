/-
  Arguments, opened: a slice of nodes.
-/
import Derived.Test.YtdlpbpohbkcafaaLaw
import Derived.Test.YtdlpbpohbkcafaaCMade
import Derived.Deep.SlicePairs
import Derived.Lib.SmallJoins
namespace Go.Proofs.Ytdlpbpohbkcafaa
open Go.ChangeShapes Go.WideShapes Go.ChangeAt Go.RowKit Go.Joins Go.Deep

theorem Try.cellsS : Try.prog.cellsOf 33 = 2 := by kernel_rfl
theorem Try.cellsI : Try.prog.cellsOf 3 = 1 := by kernel_rfl
theorem Try.cellsN : Try.prog.cellsOf tNd = 3 := by kernel_rfl
theorem Try.cellsLS : Try.prog.cellsOf 30 = 1 := by kernel_rfl
theorem list_of {α : Type} {p : Nat → α → Prop} : ∀ (len : Nat), (∀ i, i < len → ∃ x, p i x) → ∃ xs : List α, xs.length = len ∧ ∀ i (hi : i < xs.length), p i xs[i]
  | 0, _ => ⟨[], rfl, fun i hi => by simp at hi⟩
  | n + 1, h => by
    obtain ⟨xs, hl, hx⟩ := list_of n (fun i hi => h i (by omega))
    obtain ⟨y, hy⟩ := h n (by omega)
    refine ⟨xs ++ [y], by simp [hl], fun i hi => ?_⟩
    simp only [List.length_append, List.length_cons, List.length_nil] at hi
    rw [List.getElem_append]
    split
    · exact hx i _
    · have e : i = n := by omega
      subst e
      simpa using hy

theorem slAt_of {α : Type} {w : World} (f : α → List Value) {size : Nat} (hf : ∀ x, (f x).length = size) (hsz : 0 < size) {a : Addr} {len cap : Nat} (hl : len ≤ cap) (hm : cap ≤ maxLen)
    (h : ∀ i, i < len → ∃ x : α, w.cells? 0 (a.add (i * size)) size = some (f x)) : ∃ xs : List α, SlAt w (.slice (some a) len cap) size xs.length (xs.flatMap f) := by
  obtain ⟨xs, hlen, hx⟩ := list_of len h
  refine ⟨xs, ?_⟩
  subst hlen
  obtain ⟨b, off, spot⟩ := a
  refine ⟨flat_len f size hf xs, ⟨_, _, rfl, hl, by unfold maxLen at hm; omega⟩, fun hpos => ?_⟩
  have key : ∀ i (hi : i < xs.length) j, j < size → w.cell? ((⟨b, off, spot⟩ : Addr).add (i * size + j)) = (f xs[i])[j]? := fun i hi j hj => by
    have := (World.cells?_some (hx i hi)).2.2 j hj
    rwa [add_add] at this
  have hspot : spot = none := by
    have h0 := key 0 hpos 0 hsz
    rw [List.getElem?_eq_getElem (by rw [hf]; exact hsz)] at h0
    simpa [Addr.add] using World.cell?_spot h0
  subst hspot
  have ea : ∀ k, (⟨b, off, none⟩ : Addr).add k = ⟨b, off + k, none⟩ := fun k => by
    unfold Addr.add
    split
    · rename_i h0; subst h0; rfl
    · rfl
  have hb : b < w.heap.size := by
    have h0 := key 0 hpos 0 hsz
    rw [List.getElem?_eq_getElem (by rw [hf]; exact hsz), ea] at h0
    exact World.block_lt_of_cell? w _ h0
  refine ⟨b, off, _, rfl, hb, fun j x hxj => ?_⟩
  have hj : j < xs.length * size := by
    have := (List.getElem?_eq_some_iff.1 hxj).1
    rwa [flat_len f size hf] at this
  have hi : j / size < xs.length := by
    rw [Nat.div_lt_iff_lt_mul hsz]
    exact hj
  have hr : j % size < size := Nat.mod_lt _ hsz
  have e : j / size * size + j % size = j := by rw [Nat.mul_comm]; exact Nat.div_add_mod j size
  have hg := flat_get f size hf xs (j / size) (j % size) hi hr
  have hk := key (j / size) hi (j % size) hr
  rw [e, hxj] at hg
  rw [e, ea] at hk
  rw [hk, hg]

section
variable {H : Type} {enc : TypeId × Value → H} {W : World}
/-- A field that is a number. -/
theorem fld_int {base : Nat} {spare : Nat → Bool} {held : Bool} {n : Nat} {v : Value} {y : Option (DataW H × List MemPlace)} (h : DataW.trod enc Try.prog W base spare held n 3 [v] = y) (hy : y.isSome = true) : ∃ i, v = .int .i64 i := by
  obtain ⟨y0, rfl⟩ := Option.isSome_iff_exists.1 hy
  obtain ⟨i, e0, _, _⟩ := DataW.trod_int (t := 3) Try.underlying3 h
  cases e0
  exact ⟨i, rfl⟩
end
/-- The same, and what each of them has besides. -/
theorem slAt_ofP {α : Type} {w : World} (f : α → List Value) (P : α → Prop) {size : Nat} (hf : ∀ x, (f x).length = size) (hsz : 0 < size) {a : Addr} {len cap : Nat} (hl : len ≤ cap) (hm : cap ≤ maxLen)
    (h : ∀ i, i < len → ∃ x : α, w.cells? 0 (a.add (i * size)) size = some (f x) ∧ P x) : ∃ xs : List α, SlAt w (.slice (some a) len cap) size xs.length (xs.flatMap f) ∧ ∀ x ∈ xs, P x := by
  obtain ⟨xs, hx⟩ := slAt_of (α := {x // P x}) (fun x => f x.1) (fun x => hf x.1) hsz hl hm (fun i hi => by
    obtain ⟨x, h1, h2⟩ := h i hi
    exact ⟨⟨x, h2⟩, h1⟩)
  refine ⟨xs.map (·.1), ?_, fun x hx => ?_⟩
  · have e : (xs.map (·.1)).flatMap f = xs.flatMap fun x => f x.1 := by rw [List.flatMap_map]
    rw [e, List.length_map]
    exact hx
  · obtain ⟨y, _, rfl⟩ := List.mem_map.1 hx
    exact y.2

section
variable {H : Type} {enc : TypeId × Value → H} {W : World}
theorem open_spotC {base : Nat} {spare : Nat → Bool} {held : Bool} {n : Nat} {a b : Value} {y : Option (DataW H × List MemPlace)} (h : DataW.trod enc Try.prog W base spare held n tSp [a, b] = y) (hy : y.isSome = true) : ∃ s : Sp, a = .int .i64 s.1 ∧ b = .int .i64 s.2 := by
  obtain ⟨y0, rfl⟩ := Option.isSome_iff_exists.1 hy
  obtain ⟨xs, k, _, _, _, hxl, hf⟩ := DataW.trod_struct Try.underlying33 h
  have hxl2 : xs.length = 2 := hxl
  have f0 := hf 0 _ rfl
  have f1 := hf 1 _ rfl
  simp only [List.getElem_toArray, List.getElem_cons_zero, List.getElem_cons_succ] at f0 f1
  rw [Try.cellsI] at f0 f1
  obtain ⟨i, rfl⟩ := fld_int f0 (by simp [hxl2])
  obtain ⟨j, rfl⟩ := fld_int f1 (by simp [hxl2])
  exact ⟨(i, j), rfl, rfl⟩
theorem len2 {cs : List Value} (h : cs.length = 2) : ∃ c0 c1, cs = [c0, c1] := by
  match cs, h with
  | [c0, c1], _ => exact ⟨_, _, rfl⟩
theorem len3 {cs : List Value} (h : cs.length = 3) : ∃ c0 c1 c2, cs = [c0, c1, c2] := by
  match cs, h with
  | [c0, c1, c2], _ => exact ⟨_, _, _, rfl⟩
theorem open_slS {spare : Nat → Bool} {held : Bool} {n : Nat} {v : Value} {y : Option (DataW H × List MemPlace)} (h : DataW.trod enc Try.prog W 0 spare held n 30 [v] = y) (hy : y.isSome = true) : ∃ a c, ∃ ds : List Sp, v = .slice a ds.length c ∧ SpotsAt W (.slice a ds.length c) ds := by
  obtain ⟨y0, rfl⟩ := Option.isSome_iff_exists.1 hy
  rcases open_slice Try.underlying30 h with ⟨hc, _⟩ | ⟨a, len, cap, m, n, D, Pl, hc, _, hl, hm, hmm, _, hall⟩
  · cases hc
    exact ⟨none, 0, [], rfl, SlAt.nil W 2⟩
  · cases hc
    have hlm : len ≤ m := by rw [hmm]; split <;> omega
    rw [Try.cellsS] at hall
    obtain ⟨ds, hds⟩ := slAt_of spC (size := 2) (fun _ => rfl) (by decide) hl hm (fun i hi => by
      obtain ⟨cs', h1, h2⟩ := hall i (by omega)
      obtain ⟨_, hlen, _⟩ := World.cells?_some h1
      obtain ⟨c0, c1, rfl⟩ := len2 hlen
      obtain ⟨s, rfl, rfl⟩ := open_spotC h2 rfl
      exact ⟨s, h1⟩)
    obtain ⟨a', c', e, _, _⟩ := hds.form
    cases e
    exact ⟨_, _, ds, rfl, hds⟩

set_option maxRecDepth 100000 in
theorem open_nodeC {spare : Nat → Bool} {held : Bool} {n : Nat} {cs : List Value} (hlen : cs.length = 3) {x : DataW H × List MemPlace} (h : DataW.trod enc Try.prog W 0 spare held n tNd cs = some x) : ∃ nd : Nd, cs = ndC nd ∧ SpotsAt W (.slice nd.na nd.next.length nd.nc) nd.next := by
  obtain ⟨xs, k, _, _, _, hxl, hf⟩ := DataW.trod_struct Try.underlying42 h
  have hxl2 : xs.length = 2 := hxl
  obtain ⟨c0, c1, c2, rfl⟩ := len3 hlen
  have f0 := hf 0 _ rfl
  have f1 := hf 1 _ rfl
  simp only [List.getElem_toArray, List.getElem_cons_zero, List.getElem_cons_succ] at f0 f1
  rw [Try.cellsS] at f0
  rw [Try.cellsLS] at f1
  obtain ⟨s, rfl, rfl⟩ := open_spotC f0 (by simp [hxl2])
  obtain ⟨a, c, ds, rfl, hds⟩ := open_slS f1 (by simp [hxl2])
  exact ⟨⟨s, a, c, ds⟩, rfl, hds⟩
set_option maxRecDepth 100000 in
theorem open_nodes {r : Reach} {b0 : Nat} {v : Value} {d : DataW H} {p : List MemPlace}
    (hv : Value.okWide Try.prog W r b0 22 v) (h : DataW.Trod enc Try.prog W 0 (fun _ => true) true 22 v d p) : ∃ ns : List Nd, NodesAt W v ns := by
  obtain ⟨pa, len, cap, rfl⟩ := okWide_slice Try.underlying22 hv
  obtain ⟨fuel, hf⟩ := h
  simp only [Value.cells] at hf
  rcases open_slice Try.underlying22 hf with ⟨hc, _⟩ | ⟨a, len', cap', m, n, D, Pl, hc, _, hl, hm, hmm, _, hall⟩
  · simp only [List.cons.injEq, and_true, Value.slice.injEq] at hc
    obtain ⟨rfl, rfl, rfl⟩ := hc
    exact ⟨[], SlAt.nil W 3, by simp⟩
  · simp only [List.cons.injEq, and_true, Value.slice.injEq] at hc
    obtain ⟨rfl, rfl, rfl⟩ := hc
    simp only [if_true] at hmm
    subst hmm
    rw [Try.cellsN] at hall
    obtain ⟨ns, h1, h2⟩ := slAt_ofP ndC (fun nd => SpotsAt W (.slice nd.na nd.next.length nd.nc) nd.next) (size := 3) (fun _ => rfl) (by decide) hl hm (fun i hi => by
      obtain ⟨cs', h1, h2⟩ := hall i (by omega)
      obtain ⟨_, hlen, _⟩ := World.cells?_some h1
      obtain ⟨nd, rfl, h3⟩ := open_nodeC hlen h2
      exact ⟨nd, h1, h3⟩)
    exact ⟨ns, h1, h2⟩
end
end Go.Proofs.Ytdlpbpohbkcafaa
