/-
  Plain lemmas on worlds: 'Fr S w w1' says that what lay in w's blocks outside the list S lies there in w1 too. No program in sight.
-/
import Derived.WalkKit
import Derived.WalkLawsBesides
import Derived.WalkSpells
import Derived.Outline
import Derived.Below
import Derived.Deep.Draws
import Derived.Lib.Hide
import Derived.Deep.DeepMust
import Derived.Deep.DeepFit
import Derived.Deep.LoopGhost
import Derived.Deep.DeepCutAuto
import Derived.BigQuiet
import Derived.Deep.QuietTactic
import Derived.BigRegion
import Derived.RegionTactic
namespace Go.Proofs.YtnmkhoebijodhaaGreatDoor
open Go.RowKit

/-- What lay in the blocks of w outside S lies there in w1; the streams are as they were. -/
structure Fr (S : List Nat) (w w1 : World) : Prop where
  os : w1.os = w.os
  tape : w1.tape = w.tape
  output : w1.output = w.output
  size : w.heap.size ≤ w1.heap.size
  block : ∀ k, k < w.heap.size → k ∉ S → w1.heap[k]? = w.heap[k]?

theorem Fr.refl (S : List Nat) (w : World) : Fr S w w := ⟨rfl, rfl, rfl, Nat.le_refl _, fun _ _ _ => rfl⟩

theorem Fr.trans {S T : List Nat} {a b c : World} (h : Fr S a b) (k : Fr T b c) (hT : ∀ x ∈ T, x ∈ S ∨ a.heap.size ≤ x) : Fr S a c :=
  ⟨k.os.trans h.os, k.tape.trans h.tape, k.output.trans h.output, Nat.le_trans h.size k.size, fun i hi hn =>
    (k.block i (Nat.lt_of_lt_of_le hi h.size) (fun hx => by rcases hT i hx with h1 | h1; exact hn h1; omega)).trans (h.block i hi hn)⟩

theorem Fr.trans0 {S : List Nat} {a b c : World} (h : Fr S a b) (k : Fr [] b c) : Fr S a c := h.trans k (by simp)
theorem Fr.transS {S : List Nat} {a b c : World} (h : Fr S a b) (k : Fr S b c) : Fr S a c := h.trans k (fun _ h => .inl h)

theorem Fr.mono {S T : List Nat} {a b : World} (h : Fr S a b) (hT : ∀ x ∈ S, x ∈ T ∨ a.heap.size ≤ x) : Fr T a b :=
  (Fr.refl T a).trans h hT

theorem Fr.drew {S : List Nat} {a w : World} (h : Fr S a w) : Fr S a w.drew := ⟨h.os, h.tape, h.output, h.size, h.block⟩
theorem Fr.drewN {S : List Nat} {a w : World} (h : Fr S a w) (n : Nat) : Fr S a (w.drewN n) := ⟨h.os, h.tape, h.output, h.size, h.block⟩

theorem Fr.alloc {S : List Nat} {a w : World} (h : Fr S a w) (o : Obj) : Fr S a (w.alloc o) :=
  ⟨h.os, h.tape, h.output, Nat.le_trans h.size (by simp), fun k hk hn => (Below.heap_alloc w o k (Nat.lt_of_lt_of_le hk h.size)).trans (h.block k hk hn)⟩

theorem Fr.setCell {S : List Nat} {a w : World} (h : Fr S a w) {p : Addr} (hp : p.block ∈ S ∨ a.heap.size ≤ p.block) (u : Value) : Fr S a (w.setCell p u) :=
  ⟨h.os, h.tape, h.output, by simpa [World.setCell] using h.size, fun k hk hn => (Below.heap_setCell w p u k (by
    rintro rfl
    rcases hp with hp | hp
    · exact hn hp
    · omega)).trans (h.block k hk hn)⟩

theorem Fr.of_below {w w1 : World} (h : Below w.heap.size w w1) (S : List Nat) : Fr S w w1 := ⟨h.os, h.tape, h.output, h.size, fun k hk _ => h.block k hk⟩
theorem Fr.below {w w1 : World} (h : Fr [] w w1) : Below w.heap.size w w1 := ⟨h.os, h.tape, h.output, h.size, fun k hk => h.block k hk (by simp)⟩

theorem Fr.grown {S : List Nat} {a w w1 : World} {row : Option Nat} (h : Fr S a w) (hg : w.grownBy w1 row) (hr : ∀ k, row = some k → k ∈ S ∨ a.heap.size ≤ k) : Fr S a w1 :=
  h.trans ⟨hg.os, hg.tape, hg.output, hg.size, fun k hk hn => hg.block k hk (fun e => hn (by simpa using e.symm))⟩ (T := row.toList) (by
    intro x hx
    exact hr x (by simpa using hx))

theorem Fr.cell {S : List Nat} {w w1 : World} (h : Fr S w w1) {p : Addr} (hp : p.block < w.heap.size) (hn : p.block ∉ S) : w1.cell? p = w.cell? p := World.cell?_of_block (h.block p.block hp hn)
theorem Fr.frozen {S : List Nat} {w w1 : World} (h : Fr S w w1) {p : Addr} (hp : p.block < w.heap.size) (hn : p.block ∉ S) : w1.frozen? p = w.frozen? p := World.frozen?_of_block (h.block p.block hp hn)
theorem Fr.heap {S : List Nat} {w w1 : World} (h : Fr S w w1) {b : Nat} {o : Obj} (ho : w.heap[b]? = some o) (hn : b ∉ S) : w1.heap[b]? = some o :=
  (h.block b (Array.getElem?_eq_some_iff.1 ho).1 hn).trans ho

/-- What a walk wants of a contract's world: every old cell and mark, as rules. -/
theorem Fr.rules {W w1 : World} (h : Fr [] W w1) : (∀ b o, b < W.heap.size → w1.cell? ⟨b, o, none⟩ = W.cell? ⟨b, o, none⟩) ∧ (∀ b o, b < W.heap.size → w1.frozen? ⟨b, o, none⟩ = W.frozen? ⟨b, o, none⟩) :=
  ⟨fun b o hb => h.cell (p := ⟨b, o, none⟩) hb (by simp), fun b o hb => h.frozen (p := ⟨b, o, none⟩) hb (by simp)⟩

/-- A block known whole: its cells, its marks. -/
theorem cell_of {w : World} {b : Nat} {cs : Array Value} {t : TypeId} {f : Nat × Nat} (h : w.heap[b]? = some (.cells cs t f)) (i : Nat) : w.cell? ⟨b, i, none⟩ = cs[i]? := by
  simp [World.cell?, h]
theorem free_of {w : World} {b : Nat} {cs : Array Value} {t : TypeId} (h : w.heap[b]? = some (.cells cs t (0, 0))) (i : Nat) : w.frozen? ⟨b, i, none⟩ = false := by
  simp [World.frozen?, h]
theorem lt_of {w : World} {b : Nat} {o : Obj} (h : w.heap[b]? = some o) : b < w.heap.size := (Array.getElem?_eq_some_iff.1 h).1
theorem set_of {w : World} {b : Nat} {cs : Array Value} {t : TypeId} {f : Nat × Nat} (h : w.heap[b]? = some (.cells cs t f)) (i : Nat) (v : Value) :
    (w.setCell ⟨b, i, none⟩ v).heap[b]? = some (.cells (cs.setIfInBounds i v) t f) := by
  simp [World.setCell, Array.getElem?_modify, h]

theorem heap_new (w : World) (o : Obj) : (w.alloc o).heap[w.heap.size]? = some o := by
  show (w.heap.push o)[w.heap.size]? = _
  simp

/-- Behind a call that was made with one block laid ahead of it. -/
theorem Fr.new1 {S : List Nat} {w w1 : World} {cs : Array Value} {t : TypeId} (h : Fr S (w.alloc (.cells cs t)) w1) (hS : ∀ x ∈ S, x < w.heap.size) : Fr S w w1 ∧ w1.heap[w.heap.size]? = some (.cells cs t (0, 0)) ∧ w.heap.size < w1.heap.size := by
  refine ⟨((Fr.refl S w).alloc _).transS h, h.heap (heap_new w _) (fun hx => ?_), ?_⟩
  · have := hS _ hx
    omega
  · have := h.size; simp at this; omega

theorem Fr.new2 {S : List Nat} {w w1 : World} {c1 c2 : Array Value} {t1 t2 : TypeId} (h : Fr S ((w.alloc (.cells c1 t1)).alloc (.cells c2 t2)) w1) (hS : ∀ x ∈ S, x < w.heap.size) :
    Fr S w w1 ∧ w1.heap[w.heap.size]? = some (.cells c1 t1 (0, 0)) ∧ w1.heap[w.heap.size + 1]? = some (.cells c2 t2 (0, 0)) ∧ w.heap.size + 1 < w1.heap.size := by
  refine ⟨(((Fr.refl S w).alloc _).alloc _).transS h, h.heap ((Fr.refl [] _).alloc _ |>.heap (heap_new w _) (by simp)) (fun hx => ?_), h.heap ?_ (fun hx => ?_), ?_⟩
  · have := hS _ hx
    omega
  · have := heap_new (w.alloc (.cells c1 t1)) (.cells c2 t2)
    simpa using this
  · have := hS _ hx
    omega
  · have := h.size; simp at this; omega

/-- What buildSlice has just laid, as the append's law asks for it. -/
theorem news_of (w : World) (l : List Value) (t : TypeId) (j : Nat) (u : Value) (h : l[j]? = some u) : (w.alloc (.cells l.toArray t)).cell? ((⟨w.heap.size, 0, none⟩ : Addr).add j) = some u := by
  have e : (⟨w.heap.size, 0, none⟩ : Addr).add j = ⟨w.heap.size, j, none⟩ := by
    unfold Addr.add
    split
    · rename_i h0; subst h0; rfl
    · simp
  rw [e, World.cell?_alloc_new]
  simpa using h
theorem one_mem {P : Value → Prop} {x : Value} (h : P x) : ∀ u ∈ [x], P u := fun _ hu => by
  rw [List.mem_singleton] at hu
  rw [hu]
  exact h

theorem owns_mono {w : World} {B B' : Nat} {e : TypeId} {size : Nat} {v : Value} {n : Nat} {xs : List Value} (h : w.ownsRow B e size v n xs) (hB : B' ≤ B) : w.ownsRow B' e size v n xs := by
  obtain ⟨h1, h2⟩ := h
  refine ⟨h1, ?_⟩
  rcases h2 with h2 | ⟨g, cap, cur, hv, hg, r⟩
  · exact .inl h2
  · exact .inr ⟨g, cap, cur, hv, Nat.le_trans hB hg, r⟩
/-- A row of the call's own, behind whatever turned other blocks alone. -/
theorem owns_fr {w w1 : World} {B : Nat} {e : TypeId} {size : Nat} {v : Value} {n : Nat} {xs : List Value} (h : w.ownsRow B e size v n xs) {S : List Nat} (hf : Fr S w w1) (hn : ∀ k, v.ownBlock = some k → k ∉ S) : w1.ownsRow B e size v n xs := by
  obtain ⟨h1, h2⟩ := h
  refine ⟨h1, ?_⟩
  rcases h2 with h2 | ⟨g, cap, cur, hv, hg, hh, r⟩
  · exact .inl h2
  · exact .inr ⟨g, cap, cur, hv, hg, hf.heap hh (hn g (by rw [hv]; rfl)), r⟩

/-- A row of the call's own, opened: nil, or a block known whole. -/
theorem owns_open {w : World} {B : Nat} {e : TypeId} {size : Nat} {v : Value} {n : Nat} {xs : List Value} (h : w.ownsRow B e size v n xs) (hn : 0 < n) :
    ∃ g cap cur, v = .slice (some ⟨g, 0, none⟩) n cap ∧ B ≤ g ∧ w.heap[g]? = some (.cells cur e (0, 0)) ∧ n ≤ cap ∧ cap ≤ maxLen ∧ cur.size = cap * size ∧ cur.toList.take (n * size) = xs := by
  rcases h.2 with ⟨_, h0⟩ | h
  · omega
  · exact h
/-- Its cells. -/
theorem take_cells {w : World} {g : Nat} {e : TypeId} {cur : Array Value} {m : Nat} {xs : List Value} (h : w.heap[g]? = some (.cells cur e (0, 0))) (ht : cur.toList.take m = xs) (j : Nat) (u : Value) (hu : xs[j]? = some u) : w.cell? ⟨g, j, none⟩ = some u := by
  rw [cell_of h]
  rw [← ht, List.getElem?_take] at hu
  split at hu
  · simpa using hu
  · cases hu

/-- The same ending, another spelling of the number. -/
theorem ret_bool {a b : Bool} (h : a = b) : Ending.returned (.bool a) = .returned (.bool b) := by rw [h]
theorem ret_int {k : IntKind} {a b : Int} (h : a = b) : Ending.returned (.int k a) = .returned (.int k b) := by rw [h]

end Go.Proofs.YtnmkhoebijodhaaGreatDoor
