/-
  cycle.Order: what lies in memory on the way.
-/
import Derived.Test.YtdlpbpohbkcafaaOrdP
import Derived.Test.YtdlpbpohbkcafaaCRingF
namespace Go.Proofs.Ytdlpbpohbkcafaa
open Go.RowKit Go.Shelf Go.Sort Go.Proofs

abbrev tIS : TypeId := 29
structure OAt (Wt Bk R B n : Nat) (waits : Nat → Nat) (heap : List Nat) (rows : Nat → Value) (bl : Nat → List Nat) (hv : Value) (w : World) : Prop where
  wt : w.rowIs Wt tI n fun i => .int .i64 (waits i : Int)
  bk : w.rowIs Bk tIS n rows
  row : ∀ u, u < n → w.ownsRow B tI 1 (rows u) (bl u).length ((bl u).flatMap nC)
  sep : ∀ u, u < n → ∀ u', u' < n → u ≠ u' → ∀ k, (rows u).ownBlock = some k → (rows u').ownBlock ≠ some k
  heap : HeapAt R B hv heap w
  hsep : ∀ u, u < n → ∀ k, (rows u).ownBlock = some k → hv.ownBlock ≠ some k
structure OBlk (Wt Bk R B : Nat) : Prop where
  w : Wt < B
  b : Bk < B
  wb : Wt ≠ Bk
  r : B ≤ R
section
variable {Wt Bk R B n : Nat} {waits : Nat → Nat} {heap : List Nat} {rows : Nat → Value} {bl : Nat → List Nat} {hv : Value} {w w1 : World}
theorem OAt.fr0 (h : OAt Wt Bk R B n waits heap rows bl hv w) (hf : Fr [] w w1) : OAt Wt Bk R B n waits heap rows bl hv w1 :=
  ⟨row_fr h.wt hf (by simp), row_fr h.bk hf (by simp), fun u hu => owns_fr (h.row u hu) hf (by simp), h.sep, h.heap.fr hf, h.hsep⟩
/-- Rows of another type, or elsewhere: a change of blocks that are none of these. -/
theorem OAt.frS (h : OAt Wt Bk R B n waits heap rows bl hv w) {S : List Nat} (hf : Fr S w w1) (h1 : Wt ∉ S) (h2 : Bk ∉ S) (h3 : R ∉ S) (h4 : ∀ u, u < n → ∀ k, (rows u).ownBlock = some k → k ∉ S) (h5 : ∀ k, hv.ownBlock = some k → k ∉ S) : OAt Wt Bk R B n waits heap rows bl hv w1 :=
  ⟨row_fr h.wt hf h1, row_fr h.bk hf h2, fun u hu => owns_fr (h.row u hu) hf (h4 u hu), h.sep, ⟨hf.heap h.heap.box h3, owns_fr h.heap.row hf h5⟩, h.hsep⟩
theorem own_box {v : Value} {m : Nat} {xs : List Value} {b : Nat} {e T : TypeId} {size : Nat} {cs : Array Value} {fr : Nat × Nat} (h : w.ownsRow b e size v m xs) (hx : w.heap[R]? = some (.cells cs T fr)) (hne : T ≠ e) : ∀ k, v.ownBlock = some k → k ≠ R := by
  intro k hk e
  obtain ⟨_, cur, hc⟩ := own_hp h hk
  rw [e, hx] at hc
  cases hc
  exact hne rfl
/-- The heap anew. -/
theorem OAt.heaped (K : OBlk Wt Bk R B) (h : OAt Wt Bk R B n waits heap rows bl hv w) {hv2 : Value} {heap2 : List Nat} (hf : Fr (R :: hv.ownBlock.toList) w w1) (hH : HeapAt R B hv2 heap2 w1) (hn : ∀ k, hv2.ownBlock = some k → hv.ownBlock = some k ∨ w.heap.size ≤ k) : OAt Wt Bk R B n waits heap2 rows bl hv2 w1 := by
  have low : ∀ b, b < B → b ∉ R :: hv.ownBlock.toList := fun b hb hm => by
    rcases List.mem_cons.1 hm with e | hm
    · have := K.r; omega
    · exact low_not h.heap.row hb hm
  refine ⟨row_fr h.wt hf (low _ K.w), row_fr h.bk hf (low _ K.b), fun u hu => owns_fr (h.row u hu) hf fun k hk hm => ?_, h.sep, hH, fun u hu k hk hk2 => ?_⟩
  · rcases List.mem_cons.1 hm with e | hm
    · exact own_box (h.row u hu) h.heap.box (by decide) k hk e
    · exact h.hsep u hu k hk (by simpa using hm)
  · rcases hn k hk2 with h1 | h1
    · exact h.hsep u hu k hk h1
    · have := ((h.row u hu).lt k hk).2
      omega
theorem OAt.putW (K : OBlk Wt Bk R B) (h : OAt Wt Bk R B n waits heap rows bl hv w) (u x : Nat) : OAt Wt Bk R B n (upd waits u x) heap rows bl hv (w.setCell ⟨Wt, u, none⟩ (.int .i64 (x : Int))) := by
  have hf := fr_cell w Wt u (.int .i64 (x : Int))
  refine ⟨(h.wt.set u _).congr fun i _ => by simp only [upd]; split <;> rfl, h.bk.setOther (fun e => K.wb e.symm) _, fun a ha => owns_fr (h.row a ha) hf (own_low (h.row a ha) K.w), h.sep, ⟨hf.heap h.heap.box (by have := K.r; have := K.w; simp; omega), owns_fr h.heap.row hf (own_low h.heap.row K.w)⟩, h.hsep⟩
/-- One row of back grows. -/
theorem OAt.backed (K : OBlk Wt Bk R B) (h : OAt Wt Bk R B n waits heap rows bl hv w) {u x : Nat} (hu : u < n) {v2 : Value} (hg : w.grownBy w1 (rows u).ownBlock) (ho : w1.ownsRow B tI 1 v2 ((bl u).length + 1) ((bl u).flatMap nC ++ nC x)) (hn : ∀ k, v2.ownBlock = some k → (rows u).ownBlock = some k ∨ w.heap.size ≤ k) :
    OAt Wt Bk R B n waits heap (fun j => if j = u then v2 else rows j) (upd bl u (bl u ++ [x])) hv (w1.setCell ⟨Bk, u, none⟩ v2) := by
  have hf := fr_grown hg
  have hR := (h.row u hu)
  have hf2 := fr_cell w1 Bk u v2
  have hsz := hg.size
  have hrow : ∀ a, a < n → a ≠ u → w1.ownsRow B tI 1 (rows a) (bl a).length ((bl a).flatMap nC) := fun a ha hne => owns_fr (h.row a ha) hf fun k hk hm => h.sep a ha u hu hne k hk (by simpa using hm)
  have hheap : HeapAt R B hv heap w1 := ⟨hf.heap h.heap.box (fun hm => own_box hR h.heap.box (by decide) R (by simpa using hm) rfl), owns_fr h.heap.row hf fun k hk hm => h.hsep u hu k (by simpa using hm) hk⟩
  refine ⟨row_fr (row_fr h.wt hf (low_not hR K.w)) hf2 (by have := K.wb; simp; exact this), (row_fr h.bk hf (low_not hR K.b)).set u v2, fun a ha => ?_, fun a ha a' ha' hne k hk hk2 => ?_, ⟨hf2.heap hheap.box (by have := K.r; have := K.b; simp; omega), owns_fr hheap.row hf2 (own_low hheap.row K.b)⟩, fun a ha k hk hk2 => ?_⟩
  · by_cases e : a = u
    · subst e
      simp only [if_true, upd_same]
      have := owns_fr ho hf2 (own_low ho K.b)
      simpa using this
    · simp only [if_neg e, upd_other e]
      exact owns_fr (hrow a ha e) hf2 (own_low (hrow a ha e) K.b)
  · by_cases e : a = u <;> by_cases e' : a' = u
    · exact hne (e.trans e'.symm)
    · simp only [if_pos e] at hk
      simp only [if_neg e'] at hk2
      rcases hn k hk with h1 | h1
      · exact h.sep u hu a' ha' (fun x => e' x.symm) k h1 hk2
      · have := ((h.row a' ha').lt k hk2).2; omega
    · simp only [if_neg e] at hk
      simp only [if_pos e'] at hk2
      rcases hn k hk2 with h1 | h1
      · exact h.sep u hu a ha (fun x => e x.symm) k h1 hk
      · have := ((h.row a ha).lt k hk).2; omega
    · simp only [if_neg e] at hk
      simp only [if_neg e'] at hk2
      exact h.sep a ha a' ha' hne k hk hk2
  · by_cases e : a = u
    · simp only [if_pos e] at hk
      rcases hn k hk with h1 | h1
      · exact h.hsep u hu k h1 hk2
      · have := (h.heap.row.lt k hk2).2; omega
    · simp only [if_neg e] at hk
      exact h.hsep a ha k hk hk2
end
end Go.Proofs.Ytdlpbpohbkcafaa
