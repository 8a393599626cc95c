/-
  Slices that lie in memory, read as lists of fixed-size things. No program in sight.
-/
import Derived.Test.YtnmkhoebijodhaaGreatDoorMap
namespace Go.Proofs.YtnmkhoebijodhaaGreatDoor
open Go.RowKit

/-- The slice value v has n things, size cells each: cs. -/
structure SlAt (w : World) (v : Value) (size n : Nat) (cs : List Value) : Prop where
  len : cs.length = n * size
  form : ∃ a c, v = .slice a n c ∧ n ≤ c ∧ c ≤ 9223372036854775807
  cell : 0 < n → ∃ b off c, v = .slice (some ⟨b, off, none⟩) n c ∧ b < w.heap.size ∧ ∀ j x, cs[j]? = some x → w.cell? ⟨b, off + j, none⟩ = some x

theorem SlAt.fr {w w1 : World} {v : Value} {size n : Nat} {cs : List Value} (h : SlAt w v size n cs) {S : List Nat} (hf : Fr S w w1) (hn : ∀ b off c, v = .slice (some ⟨b, off, none⟩) n c → b ∉ S) : SlAt w1 v size n cs := by
  refine ⟨h.len, h.form, fun h0 => ?_⟩
  obtain ⟨b, off, c, hv, hb, hc⟩ := h.cell h0
  exact ⟨b, off, c, hv, Nat.lt_of_lt_of_le hb hf.size, fun j x hx => (hf.cell (p := ⟨b, off + j, none⟩) hb (hn b off c hv)).trans (hc j x hx)⟩

theorem SlAt.fr0 {w w1 : World} {v : Value} {size n : Nat} {cs : List Value} (h : SlAt w v size n cs) (hf : Fr [] w w1) : SlAt w1 v size n cs := h.fr hf (by simp)

/-- The k-th thing's j-th cell. -/
theorem flat_get {α : Type} (f : α → List Value) (size : Nat) (hf : ∀ x, (f x).length = size) : ∀ (l : List α) (k j : Nat) (hk : k < l.length), j < size → (l.flatMap f)[k * size + j]? = (f l[k])[j]?
  | [], _, _, h, _ => by simp at h
  | x :: l, 0, j, _, hj => by
    rw [List.flatMap_cons, List.getElem?_append_left (by rw [hf]; omega)]
    simp
  | x :: l, k + 1, j, h, hj => by
    rw [List.flatMap_cons, List.getElem?_append_right (by rw [hf, Nat.add_mul]; omega), hf]
    have e : (k + 1) * size + j - size = k * size + j := by rw [Nat.add_mul]; omega
    rw [e, flat_get f size hf l k j (by simpa using h) hj]
    simp
theorem flat_len {α : Type} (f : α → List Value) (size : Nat) (hf : ∀ x, (f x).length = size) : ∀ l : List α, (l.flatMap f).length = l.length * size
  | [] => by simp
  | x :: l => by rw [List.flatMap_cons, List.length_append, hf, flat_len f size hf l, List.length_cons, Nat.add_mul]; omega

/-- A cell behind a new block, behind stores into another block. -/
theorem al {w : World} {o : Obj} {b i : Nat} (h : b < w.heap.size) : (w.alloc o).cell? ⟨b, i, none⟩ = w.cell? ⟨b, i, none⟩ := World.cell?_alloc_lt w o ⟨b, i, none⟩ h
theorem st1 {w : World} {c j : Nat} {v : Value} {b i : Nat} (h : c ≠ b) : (w.setCell ⟨c, j, none⟩ v).cell? ⟨b, i, none⟩ = w.cell? ⟨b, i, none⟩ :=
  World.cell?_setCell_other w _ _ _ (fun e => h (by injection e))

/-- What a cell or a block holds, behind a new block, a draw, a call, a store elsewhere. -/
theorem ce_old {w : World} {o : Obj} {a : Addr} {v : Value} (h : w.cell? a = some v) : (w.alloc o).cell? a = some v := (World.cell?_alloc_lt w o a (World.block_lt_of_cell? w a h)).trans h
theorem ce_drew {w : World} {a : Addr} {v : Value} (h : w.cell? a = some v) : w.drew.cell? a = some v := h
theorem ce_call {w w1 : World} {a : Addr} {v : Value} (hf : Fr [] w w1) (h : w.cell? a = some v) : w1.cell? a = some v := (hf.cell (World.block_lt_of_cell? w a h) (by simp)).trans h
theorem ce_set {w : World} {c j : Nat} {x : Value} {b i : Nat} {v : Value} (h : w.cell? ⟨b, i, none⟩ = some v) (hne : c ≠ b) : (w.setCell ⟨c, j, none⟩ x).cell? ⟨b, i, none⟩ = some v := (st1 hne).trans h
theorem hp_new {w : World} {o : Obj} {b : Nat} (h : b = w.heap.size) : (w.alloc o).heap[b]? = some o := by rw [h]; exact heap_new w o
theorem hp_old {w : World} {o x : Obj} {b : Nat} (h : w.heap[b]? = some x) : (w.alloc o).heap[b]? = some x := ((Fr.refl [] w).alloc o).heap h (by simp)
theorem hp_drew {w : World} {x : Obj} {b : Nat} (h : w.heap[b]? = some x) : w.drew.heap[b]? = some x := h
theorem hp_call {w w1 : World} {x : Obj} {b : Nat} (hf : Fr [] w w1) (h : w.heap[b]? = some x) : w1.heap[b]? = some x := hf.heap h (by simp)

/-- A slice over a whole block. -/
theorem SlAt.of_block {w : World} {b : Nat} {cs : List Value} {t : TypeId} {f : Nat × Nat} {size n : Nat} (h : w.heap[b]? = some (.cells cs.toArray t f)) (hl : cs.length = n * size) (hn : n ≤ 9223372036854775807) : SlAt w (.slice (some ⟨b, 0, none⟩) n n) size n cs :=
  ⟨hl, ⟨_, _, rfl, Nat.le_refl _, hn⟩, fun _ => ⟨b, 0, n, rfl, lt_of h, fun j x hx => by
    rw [cell_of h]
    simpa using hx⟩⟩
theorem SlAt.nil (w : World) (size : Nat) : SlAt w (.slice none 0 0) size 0 [] := ⟨by simp, ⟨_, _, rfl, by omega, by omega⟩, fun h => by omega⟩

abbrev spC (s : Sp) : List Value := [.int .i64 s.1, .int .i64 s.2]

theorem flat_take {α : Type} (f : α → List Value) (size : Nat) (hf : ∀ x, (f x).length = size) : ∀ (l : List α) (m : Nat), (l.flatMap f).take (m * size) = (l.take m).flatMap f
  | [], m => by simp
  | x :: l, 0 => by simp
  | x :: l, m + 1 => by
    rw [List.flatMap_cons, List.take_succ_cons, List.flatMap_cons, ← flat_take f size hf l m, List.take_append, hf]
    have e : (m + 1) * size - size = m * size := by rw [Nat.add_mul]; omega
    rw [e, List.take_of_length_le (by rw [hf, Nat.add_mul]; omega)]

/-- A row of the call's own, or its front, as a slice that is handed on. -/
theorem SlAt.of_row {w : World} {b cap size m n : Nat} {e : TypeId} {cur : Array Value} {xs : List Value} (h : w.heap[b]? = some (.cells cur e (0, 0))) (ht : cur.toList.take (n * size) = xs) (hl : xs.length = n * size) (hmn : m ≤ n) (hnc : n ≤ cap) (hc : cap ≤ 9223372036854775807) :
    SlAt w (.slice (some ⟨b, 0, none⟩) m cap) size m (xs.take (m * size)) := by
  have hms : m * size ≤ n * size := Nat.mul_le_mul_right _ hmn
  refine ⟨by rw [List.length_take, hl]; omega, ⟨_, _, rfl, by omega, hc⟩, fun _ => ⟨b, 0, cap, rfl, lt_of h, fun j x hx => ?_⟩⟩
  rw [Nat.zero_add]
  refine take_cells h ht j x ?_
  rw [List.getElem?_take] at hx
  split at hx
  · exact hx
  · cases hx

end Go.Proofs.YtnmkhoebijodhaaGreatDoor
