/-
  Rows of a call's own: slices.SortFunc at places, slices.Sort and slices.Compact at numbers.
-/
import Derived.Test.YtdlpbpohbkcafaaCGraphP
import Derived.Test.YtdlpbpohbkcafaaCSort
import Derived.Test.YtdlpbpohbkcafaaCLib
import Derived.Shelf.SortM.Plain
import Derived.Shelf.SortM.SortNone
import Derived.Ground.SlgmProg
import Derived.Laws.OwnMore
namespace Go.Proofs.Ytdlpbpohbkcafaa
open Go.RowKit Go.Shelf Go.Sort Go.Proofs

def Try.sortI_ren : Go.Shelf.Ren := ⟨fun | 5 => 44 | 8 => 49 | 7 => 56 | 19 => 66 | 20 => 67 | 10 => 77 | 11 => 78 | 12 => 79 | 13 => 80 | 14 => 81 | 15 => 82 | 16 => 83 | 17 => 84 | 18 => 85 | 30 => 94 | 31 => 87 | 32 => 88 | 33 => 95 | 34 => 96 | 35 => 68 | 40 => 99 | n => n, fun | 23 => 29 | 25 => 3 | 3 => 3 | 32 => 97 | 22 => 29 | 0 => 0 | 44 => 118 | 46 => 120 | 4 => 4 | 36 => 112 | 35 => 111 | 41 => 91 | 5 => 5 | 9 => 9 | 53 => 132 | 57 => 136 | 63 => 142 | 64 => 143 | n => n, fun | n => n⟩
theorem Try.sortI : Go.Proofs.SlLaysM.n5 Try.prog Try.sortI_ren where
  mixed := by kernel_rfl
  f5 := ⟨Try.f44.name, by kernel_rfl, Try.func44.trans (congrArg some (by kernel_rfl))⟩
  f7 := ⟨Try.f56.name, by kernel_rfl, Try.func56.trans (congrArg some (by kernel_rfl))⟩
  f8 := Try.func49.trans (congrArg some (by kernel_rfl))
  f10 := ⟨Try.f77.name, by kernel_rfl, Try.func77.trans (congrArg some (by kernel_rfl))⟩
  f11 := ⟨Try.f78.name, by kernel_rfl, Try.func78.trans (congrArg some (by kernel_rfl))⟩
  f12 := ⟨Try.f79.name, by kernel_rfl, Try.func79.trans (congrArg some (by kernel_rfl))⟩
  f13 := ⟨Try.f80.name, by kernel_rfl, Try.func80.trans (congrArg some (by kernel_rfl))⟩
  f14 := ⟨Try.f81.name, by kernel_rfl, Try.func81.trans (congrArg some (by kernel_rfl))⟩
  f15 := ⟨Try.f82.name, by kernel_rfl, Try.func82.trans (congrArg some (by kernel_rfl))⟩
  f16 := ⟨Try.f83.name, by kernel_rfl, Try.func83.trans (congrArg some (by kernel_rfl))⟩
  f17 := ⟨Try.f84.name, by kernel_rfl, Try.func84.trans (congrArg some (by kernel_rfl))⟩
  f18 := ⟨Try.f85.name, by kernel_rfl, Try.func85.trans (congrArg some (by kernel_rfl))⟩
  f19 := Try.func66.trans (congrArg some (by kernel_rfl))
  f20 := Try.func67.trans (congrArg some (by kernel_rfl))
  f30 := ⟨Try.f94.name, by kernel_rfl, Try.func94.trans (congrArg some (by kernel_rfl))⟩
  f31 := Try.func87.trans (congrArg some (by kernel_rfl))
  f32 := Try.func88.trans (congrArg some (by kernel_rfl))
  f33 := ⟨Try.f95.name, by kernel_rfl, Try.func95.trans (congrArg some (by kernel_rfl))⟩
  f34 := ⟨Try.f96.name, by kernel_rfl, Try.func96.trans (congrArg some (by kernel_rfl))⟩
  f35 := ⟨Try.f68.name, by kernel_rfl, Try.func68.trans (congrArg some (by kernel_rfl))⟩
  f40 := ⟨Try.f99.name, by kernel_rfl, Try.func99.trans (congrArg some (by kernel_rfl))⟩
  t0 := Try.underlying0
  a0 := Try.isAgg0
  z0 := Try.sizeOf0
  v0 := Try.zeroValue0
  t3 := Try.underlying3
  a3 := Try.isAgg3
  z3 := Try.sizeOf3
  v3 := Try.zeroValue3
  t4 := Try.underlying4
  a4 := Try.isAgg4
  z4 := Try.sizeOf4
  v4 := Try.zeroValue4
  t5 := Try.underlying5
  a5 := Try.isAgg5
  z5 := Try.sizeOf5
  v5 := Try.zeroValue5
  t9 := Try.underlying9
  a9 := Try.isAgg9
  z9 := Try.sizeOf9
  v9 := Try.zeroValue9
  t22 := Try.underlying29
  a22 := Try.isAgg29
  z22 := Try.sizeOf29
  v22 := Try.zeroValue29
  t23 := Try.underlying29
  a23 := Try.isAgg29
  z23 := Try.sizeOf29
  v23 := Try.zeroValue29
  t25 := Try.underlying3
  a25 := Try.isAgg3
  z25 := Try.sizeOf3
  v25 := Try.zeroValue3
  t32 := Try.underlying97
  a32 := Try.isAgg97
  z32 := Try.sizeOf97
  v32 := Try.zeroValue97
  t35 := Try.underlying111
  a35 := Try.isAgg111
  z35 := Try.sizeOf111
  v35 := Try.zeroValue111
  t36 := Try.underlying112
  a36 := Try.isAgg112
  z36 := Try.sizeOf112
  v36 := Try.zeroValue112
  t41 := Try.underlying91
  a41 := Try.isAgg91
  z41 := Try.sizeOf91
  v41 := Try.zeroValue91
  t44 := Try.underlying118
  a44 := Try.isAgg118
  z44 := Try.sizeOf118
  v44 := Try.zeroValue118
  t46 := Try.underlying120
  a46 := Try.isAgg120
  z46 := Try.sizeOf120
  v46 := Try.zeroValue120
  t53 := Try.underlying132
  a53 := Try.isAgg132
  z53 := Try.sizeOf132
  v53 := Try.zeroValue132
  t57 := Try.underlying136
  a57 := Try.isAgg136
  z57 := Try.sizeOf136
  v57 := Try.zeroValue136
  t63 := Try.underlying142
  a63 := Try.isAgg142
  z63 := Try.sizeOf142
  v63 := Try.zeroValue142
  t64 := Try.underlying143
  a64 := Try.isAgg143
  z64 := Try.sizeOf143
  v64 := Try.zeroValue143

theorem nC_iC (l : List Nat) : l.flatMap nC = (l.map fun n : Nat => (n : Int)).map (Value.int .i64) := by
  induction l with
  | nil => rfl
  | cons a l ih => simp [List.flatMap_cons, ih]
theorem ownI {w : World} {B : Nat} {e : TypeId} {sv : Value} {l : List Nat} {n : Nat} (h : w.ownsRow B e 1 sv n (l.flatMap nC)) : l.length = n := by
  have := h.1
  rw [flat_len nC 1 (fun _ => rfl)] at this
  omega

theorem heapPut {α : Type} [Inhabited α] {w : World} {g n : Nat} {os : Array Obj} {cur : Array Value} {e : TypeId} {fr : Nat × Nat} (enc : α → Value) (F : Array α) (hb : w.heap[g]? = some (.cells cur e fr)) :
    (grow (putRow enc (Sort.ahead w n) g 0 F) os).heap[g]? = some (.cells (putCells enc 0 F cur) e fr) := by
  have hg : g < w.heap.size := (Array.getElem?_eq_some_iff.1 hb).1
  rw [heap_grow_old _ _ (by simpa using hg)]
  simp [putRow, mapBlock, Sort.ahead, Array.getElem?_modify, hb, onCells]
theorem grownPut {α : Type} [Inhabited α] {w : World} {g n : Nat} {os : Array Obj} (enc : α → Value) (F : Array α) : w.grownBy (grow (putRow enc (Sort.ahead w n) g 0 F) os) (some g) := by
  refine ⟨rfl, rfl, rfl, by simp, fun k hk hne => ?_⟩
  rw [heap_grow_old _ _ (by simpa using hk)]
  have : g ≠ k := fun e => hne (by rw [e])
  simp [putRow, mapBlock, Sort.ahead, Array.getElem?_modify, this]
theorem takePutE {α : Type} [Inhabited α] (enc : α → Value) (cur : Array Value) (F : Array α) (h : F.size ≤ cur.size) : (putCells enc 0 F cur).toList.take F.size = F.toList.map enc := by
  apply List.ext_getElem?
  intro j
  by_cases hj : j < F.size
  · rw [List.getElem?_take_of_lt hj, Array.getElem?_toList]
    simp [putCells, hj, show j < cur.size by omega]
  · rw [List.getElem?_take_eq_none (by omega), List.getElem?_eq_none (by simp; omega)]
theorem holdsI {w : World} {g : Nat} {cur : Array Value} {e : TypeId} {ss : List Nat} (hb : w.heap[g]? = some (.cells cur e (0, 0))) (ht : cur.toList.take (ss.length * 1) = ss.flatMap nC) : Holds (Value.int .i64) w g 0 (ss.map fun n : Nat => (n : Int)).toArray := by
  intro j hj
  have hj' : j < ss.length := by simpa using hj
  refine ⟨?_, by simp [World.frozen?, hb]⟩
  have := take_cells hb ht j (.int .i64 (ss[j] : Int)) (by rw [nC_iC]; simp [hj'])
  simpa [hj'] using this
theorem rowPut {w : World} {base g cap n : Nat} {e : TypeId} {os : Array Obj} {cur : Array Value} {l F : List Nat} (hl : l.length ≤ F.length) (htk : F.take l.length = l) (hbase : base ≤ g) (hb : w.heap[g]? = some (.cells cur e (0, 0)))
    (h1 : F.length ≤ cap) (h2 : cap ≤ maxLen) (h3 : cur.size = cap * 1) :
    (grow (putRow (Value.int .i64) (Sort.ahead w n) g 0 (F.map fun n : Nat => (n : Int)).toArray) os).ownsRow base e 1 (.slice (some ⟨g, 0, none⟩) l.length cap) l.length (l.flatMap nC) := by
  refine ⟨by rw [flat_len nC 1 (fun _ => rfl)], .inr ⟨g, cap, _, rfl, hbase, heapPut _ _ hb, by omega, h2, by simp [putCells, h3], ?_⟩⟩
  have h4 := takePutE (Value.int .i64) cur (F.map fun n : Nat => (n : Int)).toArray (by simp; omega)
  have h5 : (F.map fun n : Nat => (n : Int)).toArray.size = F.length := by simp
  rw [h5] at h4
  rw [Nat.mul_one, nC_iC, show l.length = min l.length F.length by omega, ← List.take_take, h4]
  rw [← List.map_take, ← List.map_take, htk]

theorem sortN_int (l : List Nat) : (l.map fun n : Nat => (n : Int)).mergeSort (fun x y => decide (x ≤ y)) = (sortN l).map fun n : Nat => (n : Int) := by
  unfold sortN
  rw [List.map_mergeSort]
  intro a _ b _
  simp
theorem sortN_perm (l : List Nat) : (sortN l).Perm l := List.mergeSort_perm _ _
theorem sortN_len (l : List Nat) : (sortN l).length = l.length := (sortN_perm l).length_eq
theorem sortN_le (l : List Nat) : (sortN l).Pairwise (· ≤ ·) := by
  have h := List.pairwise_mergeSort (le := fun a b : Nat => decide (a ≤ b)) (fun a b c h1 h2 => by simp at *; omega) (fun a b => by simp; omega) l
  exact h.imp fun h => by simpa using h

/-- slices.Sort on a row of the call's own. -/
theorem sortI {B : Nat} {e0 : TypeId} {sv : Value} (l : List Nat) (w : World) (hll : l.length < 4611686018427387904) (h : w.ownsRow B e0 1 sv l.length (l.flatMap nC)) :
    Calls Try.prog 44 #[sv] w fun e w1 => e = .returned (.tuple #[]) ∧ w1.ownsRow B e0 1 sv l.length ((sortN l).flatMap nC) ∧ w.grownBy w1 sv.ownBlock := by
  rcases h.2 with ⟨rfl, h0⟩ | ⟨g, cap, cur, rfl, hb, hg, h1, h2, h3, h4⟩
  · obtain rfl := List.eq_nil_of_length_eq_zero h0
    refine (AnyM.slices_Sort_int_none Try.sortI none 0 w).mono ?_
    rintro e w1 ⟨rfl, rfl⟩
    exact ⟨rfl, by simpa [sortN] using h, ⟨rfl, rfl, rfl, Nat.le_refl _, fun _ _ _ => rfl⟩⟩
  · have hcon := AnyM.slices_Sort_int Try.sortI g 0 cap (l.map fun n : Nat => (n : Int)) w (holdsI hg h4) (lt_of hg) (by simpa using hll)
    rw [sortN_int, List.length_map] at hcon
    refine hcon.mono ?_
    rintro e w1 ⟨rfl, n, os, rfl⟩
    refine ⟨rfl, ?_, grownPut _ _⟩
    have := rowPut (n := n) (os := os) (l := sortN l) (F := sortN l) (Nat.le_refl _) (by simp) hb hg (by rw [sortN_len]; exact h1) h2 h3
    rwa [sortN_len] at this

/-- Numbers without those that are like the one ahead. -/
def cmpct (l : List Nat) : List Nat := (Lib.compact (l.map fun n : Nat => (n : Int))).map Int.toNat
theorem compact_mem (l : List Int) : ∀ x ∈ Lib.compact l, x ∈ l := by
  intro x hx
  unfold Lib.compact Lib.compactUpTo at hx
  obtain ⟨j, hj, rfl⟩ := List.mem_map.1 hx
  have := List.mem_range.1 (List.mem_filter.1 hj).1
  simp [this]
theorem cmpct_int (l : List Nat) : Lib.compact (l.map fun n : Nat => (n : Int)) = (cmpct l).map fun n : Nat => (n : Int) := by
  unfold cmpct
  rw [List.map_map]
  conv => lhs; rw [← List.map_id (Lib.compact (l.map fun n : Nat => (n : Int)))]
  apply List.map_congr_left
  intro x hx
  obtain ⟨n, _, rfl⟩ := List.mem_map.1 (compact_mem _ x hx)
  simp
theorem cmpct_len (l : List Nat) : (cmpct l).length ≤ l.length := by
  unfold cmpct Lib.compact Lib.compactUpTo
  rw [List.length_map, List.length_map]
  exact Nat.le_trans (List.length_filter_le _ _) (by simp)
theorem cmpct_eq (l : List Nat) : cmpct l = ((List.range l.length).filter fun j => decide (j = 0 ∨ l[j]! ≠ l[j - 1]!)).map (l[·]!) := by
  unfold cmpct Lib.compact Lib.compactUpTo
  rw [List.map_map, List.length_map]
  have h1 : (List.range l.length).filter (Lib.keeps (l.map fun n : Nat => (n : Int)).toArray) = (List.range l.length).filter fun j => decide (j = 0 ∨ l[j]! ≠ l[j - 1]!) := by
    apply List.filter_congr
    intro j hj
    have hj := List.mem_range.1 hj
    have hj1 : j - 1 < l.length := by omega
    have e1 : (l.map fun n : Nat => (n : Int)).toArray[j]! = (l[j] : Int) := by simp [hj]
    have e2 : (l.map fun n : Nat => (n : Int)).toArray[j - 1]! = (l[j - 1] : Int) := by simp [hj1]
    have e3 : l[j]! = l[j] := by simp [hj]
    have e4 : l[j - 1]! = l[j - 1] := by simp [hj1]
    unfold Lib.keeps
    rw [e1, e2, e3, e4, decide_eq_decide]
    omega
  rw [h1]
  apply List.map_congr_left
  intro j hj
  have hj := List.mem_range.1 (List.mem_filter.1 hj).1
  simp [hj]
theorem cmpct_mem {l : List Nat} {x : Nat} : x ∈ cmpct l ↔ x ∈ l := by
  rw [cmpct_eq]
  constructor
  · intro h
    obtain ⟨j, hj, rfl⟩ := List.mem_map.1 h
    have hj := List.mem_range.1 (List.mem_filter.1 hj).1
    simp [hj]
  · intro h
    have hi : l.idxOf x < l.length := List.idxOf_lt_length_of_mem h
    have he : l[l.idxOf x]! = x := by simp [hi]
    refine List.mem_map.2 ⟨l.idxOf x, List.mem_filter.2 ⟨List.mem_range.2 hi, ?_⟩, he⟩
    rw [decide_eq_true_eq]
    by_cases h0 : l.idxOf x = 0
    · exact .inl h0
    · right
      intro e
      rw [he] at e
      have h1 : l.idxOf x - 1 < l.length := by omega
      have h2 : x ∈ l.take (l.idxOf x) := by
        rw [List.mem_take_iff_getElem]
        exact ⟨l.idxOf x - 1, by omega, (show l[l.idxOf x - 1] = l[l.idxOf x - 1]! by simp [h1]).trans e.symm⟩
      have h3 := List.idxOf_append (l₁ := l.take (l.idxOf x)) (l₂ := l.drop (l.idxOf x)) (a := x)
      rw [List.take_append_drop, if_pos h2] at h3
      have h4 := List.idxOf_lt_length_of_mem h2
      rw [List.length_take] at h4
      omega
theorem cmpct_lt {l : List Nat} (h : l.Pairwise (· ≤ ·)) : (cmpct l).Pairwise (· < ·) := by
  rw [cmpct_eq, List.pairwise_map]
  have hr : ((List.range l.length).filter fun j => decide (j = 0 ∨ l[j]! ≠ l[j - 1]!)).Pairwise (· < ·) := List.Pairwise.filter _ List.pairwise_lt_range
  rw [List.pairwise_iff_forall_sublist] at hr ⊢
  intro a b hs
  have hab := hr hs
  have hb := hs.subset (show b ∈ [a, b] by simp)
  obtain ⟨hb1, hb2⟩ := List.mem_filter.1 hb
  have hb1 := List.mem_range.1 hb1
  rw [decide_eq_true_eq] at hb2
  have hbn := hb2.resolve_left (by omega)
  rw [List.pairwise_iff_getElem] at h
  have h1 : l[b - 1]'(by omega) ≤ l[b] := h _ _ _ _ (by omega)
  have h2 : l[a]'(by omega) ≤ l[b - 1]'(by omega) := by
    by_cases e : a = b - 1
    · subst e; exact Nat.le_refl _
    · exact h _ _ _ _ (by omega)
  have ha : a < l.length := by omega
  have hb' : b - 1 < l.length := by omega
  simp [hb1, ha, hb'] at hbn ⊢
  omega

/-- slices.Compact on a row of the call's own. -/
theorem compactI {B : Nat} {e0 : TypeId} {sv : Value} (l : List Nat) (w : World) (h : w.ownsRow B e0 1 sv l.length (l.flatMap nC)) :
    Calls Try.prog 45 #[sv] w fun e w1 => ∃ q c, e = .returned (.slice q (cmpct l).length c) ∧ w1.ownsRow B e0 1 (.slice q (cmpct l).length c) (cmpct l).length ((cmpct l).flatMap nC) ∧ (Value.slice q (cmpct l).length c).ownBlock = sv.ownBlock ∧ w.grownBy w1 sv.ownBlock := by
  rcases h.2 with ⟨rfl, h0⟩ | ⟨g, cap, cur, rfl, hb, hg, h1, h2, h3, h4⟩
  · obtain rfl := List.eq_nil_of_length_eq_zero h0
    refine (AnyG.slices_Compact_int_empty Try.cmpctI none 0 w).mono ?_
    rintro e w1 ⟨rfl, rfl⟩
    exact ⟨none, 0, rfl, by simpa [cmpct_eq] using h, rfl, ⟨rfl, rfl, rfl, Nat.le_refl _, fun _ _ _ => rfl⟩⟩
  · have hcon := AnyG.slices_Compact_int Try.cmpctI g 0 cap (l.map fun n : Nat => (n : Int)) w (holdsI hg h4) (by simp; unfold maxLen at h2; omega) (by simpa using h1)
    rw [cmpct_int, List.length_map, List.length_map] at hcon
    have hF : (cmpct l).map (fun n : Nat => (n : Int)) ++ List.replicate (l.length - (cmpct l).length) 0 = (cmpct l ++ List.replicate (l.length - (cmpct l).length) 0).map fun n : Nat => (n : Int) := by simp
    rw [hF] at hcon
    have hlen := cmpct_len l
    refine hcon.mono ?_
    rintro e w1 ⟨rfl, n, rfl⟩
    have hg0 : ∀ w : World, grow w #[] = w := fun w => by simp [grow]
    refine ⟨_, _, rfl, ?_, rfl, ?_⟩
    · rw [← hg0 (putRow _ _ _ _ _)]
      exact rowPut (by simp) (by simp) hb hg (by simp; omega) h2 h3
    · rw [← hg0 (putRow _ _ _ _ _)]
      exact grownPut _ _

/-- slices.SortFunc at places on a row of the call's own. -/
theorem sortRowS {B : Nat} {e0 : TypeId} {sv : Value} (l : List Sp) (w : World) (hll : l.length < 4611686018427387904) (h : w.ownsRow B e0 2 sv l.length (l.flatMap spC)) :
    Calls Try.prog 43 #[sv, .func (.func 35) #[] #[]] w fun e w1 => e = .returned (.tuple #[]) ∧ w1.ownsRow B e0 2 sv l.length ((sortS l).flatMap spC) ∧ w.grownBy w1 sv.ownBlock := by
  rcases h.2 with ⟨rfl, h0⟩ | ⟨g, cap, cur, rfl, hb, hg, h1, h2, h3, h4⟩
  · obtain rfl := List.eq_nil_of_length_eq_zero h0
    refine (sortNoneS 0 none _ w).mono ?_
    rintro e w1 ⟨rfl, rfl⟩
    exact ⟨rfl, by simpa [sortS] using h, ⟨rfl, rfl, rfl, Nat.le_refl _, fun _ _ _ => rfl⟩⟩
  · refine (sortFuncS g cap l w (holdsS hg h4) (lt_of hg) hll).mono ?_
    rintro e w1 ⟨rfl, n, os, rfl⟩
    exact ⟨rfl, rowSorted (sortS_perm l).length_eq hb hg h1 h2 h3, grownSorted _⟩
/-- make at a size that a walk has reckoned. -/
theorem mkRow {t e : TypeId} {z : Value} {bytes : Nat} (hz : z.cells = #[z]) (hi : (Try.prog.info? e).map (fun i => (i.zero, i.size, i.bytes)) = some (some z, 1, bytes)) (ht : Try.prog.underlying t = some (.slice e)) (n : Nat) (hn : n ≤ 70000) (hb : bytes ≤ 64) :
    ∀ w : World, (Instr.makeSlice t (.int .i64 (n : Int)) (.int .i64 (n : Int))).run Try.prog w = .ok (.slice (some ⟨w.heap.size, 0, none⟩) n n) (w.alloc (.cells (Array.replicate n z) e)) := by
  intro w
  obtain ⟨i, h1, h2, h3, h4⟩ := info_parts hi
  have hbb : (i.bytes : Int) * (n : Int) ≤ 281474976710656 := by
    have h5 : i.bytes * n ≤ 281474976710656 := by
      rw [h4]
      exact Nat.le_trans (Nat.mul_le_mul hb hn) (by decide)
    rw [← Int.natCast_mul]
    omega
  have hr := run_make (P := Try.prog) w t e i z ht h1 h2 .i64 .i64 n n (by omega) (Int.le_refl _) hbb (by omega)
  rw [hr, h3, hz, Nat.mul_one, Int.toNat_natCast]
  have : madeCells #[z] n = Array.replicate n z := by
    apply Array.ext'
    rw [toList_madeCells_one, Array.toList_replicate]
  rw [this]
theorem infoSl : (Try.prog.info? 29).map (fun i => (i.zero, i.size, i.bytes)) = some (some (.slice none 0 0), 1, 24) := by kernel_rfl
theorem infoBool : (Try.prog.info? 4).map (fun i => (i.zero, i.size, i.bytes)) = some (some (.bool false), 1, 1) := by kernel_rfl
theorem mkSS (n : Nat) (hn : n ≤ 70000) : ∀ w : World, (Instr.makeSlice 67 (.int .i64 (n : Int)) (.int .i64 (n : Int))).run Try.prog w = .ok (.slice (some ⟨w.heap.size, 0, none⟩) n n) (w.alloc (.cells (Array.replicate n (.slice none 0 0)) 29)) := mkRow (z := .slice none 0 0) rfl infoSl Try.underlying67 n hn (by decide)
theorem mkI (n : Nat) (hn : n ≤ 70000) : ∀ w : World, (Instr.makeSlice 29 (.int .i64 (n : Int)) (.int .i64 (n : Int))).run Try.prog w = .ok (.slice (some ⟨w.heap.size, 0, none⟩) n n) (w.alloc (.cells (Array.replicate n (.int .i64 0)) 3)) := mkRow (z := .int .i64 0) rfl infoInt Try.underlying29 n hn (by decide)
theorem mkB (n : Nat) (hn : n ≤ 70000) : ∀ w : World, (Instr.makeSlice 36 (.int .i64 (n : Int)) (.int .i64 (n : Int))).run Try.prog w = .ok (.slice (some ⟨w.heap.size, 0, none⟩) n n) (w.alloc (.cells (Array.replicate n (.bool false)) 4)) := mkRow (z := .bool false) rfl infoBool Try.underlying36 n hn (by decide)
end Go.Proofs.Ytdlpbpohbkcafaa
