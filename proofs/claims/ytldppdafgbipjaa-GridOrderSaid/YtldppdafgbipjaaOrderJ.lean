/-
  What the going over of quadrillelaw7.GridOrder keeps.
-/
import Derived.Test.YtldppdafgbipjaaOrderP
import Derived.Stop.RegionWithIn
import Derived.Sort.CutIn
import Derived.Deep.RegionHeld3
import Derived.Test.YtldppdafgbipjaaRoundR
import Derived.Test.YtldppdafgbipjaaStoreAll
namespace Go.Proofs.Ytldppdafgbipjaa
open Go.RowKit Go.Shelf
attribute [local go_sem] Oper.semAt_some

theorem pref_get {R : List (Sp × Int)} {il : List Sp} (h : R.map (·.1) = il) {pre : List (Sp × Int)} {y : Sp × Int} (hp : pre ++ [y] <+: R) : il[pre.length]? = some y.1 := by
  obtain ⟨tl, rfl⟩ := hp
  subst h
  simp

/-- What the going over keeps: the last place, how many, those of the area. -/
def JOrd (LB base : Nat) (a : Ar) (R pre : List (Sp × Int)) (W : World) : Prop :=
  ∃ (lp : Sp) (il : List Sp) (v : Value), W.heap[LB]? = some (.cells #[.int .i64 lp.1, .int .i64 lp.2] 26 (0, 0)) ∧ W.heap[LB + 1]? = some (.cells #[.int .i64 (pre.length : Int)] 3 (0, 0)) ∧ Boxed W (LB + 2) 35 v ∧
    W.ownsRow base 26 2 v il.length (il.flatMap spC) ∧ il.length ≤ pre.length ∧ (pre <+: R → lp = lastOf pre ∧ il = (pre.map (·.1)).filter (hasA a))
theorem JOrd.own {β : Type} {LB base : Nat} {a : Ar} {R : List (Sp × Int)} (f : β → List (Sp × Int)) (h : LB + 2 < base) : OwnFrom base (fun s W => JOrd LB base a R (f s) W) := by
  rintro pre X Y row ⟨lp, il, v, j1, j2, j3, j4, j5, j6⟩ hg hr
  have hb : ∀ b, b < base → some b ≠ row := fun b hb e => by have := (hr b e.symm).1; omega
  obtain ⟨v', j3', j4', _⟩ := holdsRow_own base (LB + 2) 35 26 2 (fun il : List Sp => il.length) (fun il => il.flatMap spC) (fun _ _ => True) il X Y row ⟨v, j3, j4, trivial⟩ hg (fun r e => (hr r e).2)
  exact ⟨lp, il, v', (hg.block _ (lt_of j1) (hb _ (by omega))).trans j1, (hg.block _ (lt_of j2) (hb _ (by omega))).trans j2, j3', j4', j5, j6⟩
theorem JOrd.fr0 {LB base : Nat} {a : Ar} {R pre : List (Sp × Int)} {W W' : World} (h : JOrd LB base a R pre W) (hf : Fr [] W W') : JOrd LB base a R pre W' := by
  obtain ⟨lp, il, v, j1, j2, j3, j4, j5, j6⟩ := h
  exact ⟨lp, il, v, hf.heap j1 (by simp), hf.heap j2 (by simp), hf.heap j3 (by simp), owns_fr j4 hf (by simp), j5, j6⟩

end Go.Proofs.Ytldppdafgbipjaa
