/-
  spot.May; places as keys; rows of numbers.
  cmp.Compare, cmp.Or and spot.Compare.
  Row order; what a row of places holds behind a sort. No program in sight.
  slices.SortFunc at places with spot.Compare.
-/
import Derived.Test.YtdlpbpohbkcafaaGreatProg
import Derived.Test.YtdlpbpohbkcafaaGreatSlice
import Derived.Sort.Grow
import Derived.Deep.Draws
import Derived.Deep.RegionHeld3
import Derived.Lib.Hide
import Derived.Shelf.SlSortCmp.InsertionK
import Derived.Shelf.SlSortCmp.NoneTotal
import Derived.Shelf.Lay
import Derived.Ground.SlsfProg
namespace Go.Proofs.YtdlpbpohbkcafaaGreat
section
open Go.RowKit

/-- A place of the grid. -/
def mayS (r c : Int) : Bool := decide (0 ≤ r ∧ r < 65536 ∧ 0 ≤ c ∧ c < 702)
abbrev spotV (r c : Int) : Value := .agg #[.int .i64 r, .int .i64 c]

set_option maxHeartbeats 400000 in
theorem spotMay (r c : Int) (w : World) : Calls Tryz.prog 39 #[spotV r c] w fun e w1 => e = .returned (.bool (mayS r c)) ∧ Fr [] w w1 := by
  by_cases h1 : 0 ≤ r
  · by_cases h2 : r < 65536
    · by_cases h3 : 0 ≤ c
      · by_cases h4 : c < 702
        all_goals
          go_enter Tryz.func39, Tryz.ntmps39
          go_wp2
          go_ret
          exact ⟨ret_bool (by simp [mayS, *] <;> omega), (Fr.refl _ _).alloc _⟩
      · go_enter Tryz.func39, Tryz.ntmps39
        go_wp2
        go_ret
        exact ⟨ret_bool (by simp [mayS, *] <;> omega), (Fr.refl _ _).alloc _⟩
    · go_enter Tryz.func39, Tryz.ntmps39
      go_wp2
      go_ret
      exact ⟨ret_bool (by simp [mayS, *] <;> omega), (Fr.refl _ _).alloc _⟩
  · go_enter Tryz.func39, Tryz.ntmps39
    go_wp2
    go_ret
    exact ⟨ret_bool (by simp [mayS, *] <;> omega), (Fr.refl _ _).alloc _⟩

theorem run_eqSpot (s t : Sp) (w : World) : (Op.equal 27 (spV s) (spV t)).run Tryz.prog w = .ok (s == t) w := by
  simp [go_sem, Op.equal, Op.maxDepth]
  obtain ⟨a, b⟩ := s
  obtain ⟨c, d⟩ := t
  by_cases h1 : a = c
  · by_cases h2 : b = d
    · simp [h1, h2]
    · simp [h1, h2]
  · simp [h1]

theorem run_chkSpot (e : Bool) (s : Sp) (w : World) : (Instr.checkKey e 10000 27 (spV s)).run Tryz.prog w = .ok () w := by kernel_rfl

theorem spotKey : SpotKey Tryz.prog 27 := ⟨⟨_, Tryz.underlying27⟩, run_eqSpot, run_chkSpot⟩

abbrev iC (n : Nat) : List Value := [.int .i64 (n : Int)]
theorem infoSpot : (Tryz.prog.info? 27).map (fun i => (i.zero, i.size, i.bytes)) = some (some (.agg #[.int .i64 0, .int .i64 0]), 2, 16) := by kernel_rfl
theorem infoInt : (Tryz.prog.info? 3).map (fun i => (i.zero, i.size, i.bytes)) = some (some (.int .i64 0), 1, 8) := by kernel_rfl
theorem zeroInt (w : World) : (zeroValue 3).run Tryz.prog w = .ok (.int .i64 0) w := by kernel_rfl
end
section
open Go.RowKit

def cmpI (x y : Int) : Int := if x < y then -1 else if x > y then 1 else 0
def orI (a b : Int) : Int := if a ≠ 0 then a else b
def cmpS (s t : Sp) : Int := orI (cmpI s.1 t.1) (cmpI s.2 t.2)

theorem isNaN_int (x : Int) (w : World) : Calls Tryz.prog 73 #[.int .i64 x] w fun e w' => e = .returned (.bool false) ∧ w' = w := by
  go_enter Tryz.func73, Tryz.ntmps73
  go_wp2
  go_ret
  exact ⟨rfl, rfl⟩

theorem compare_int (x y : Int) (w : World) : Calls Tryz.prog 50 #[.int .i64 x, .int .i64 y] w fun e w' => e = .returned (.int .i64 (cmpI x y)) ∧ w' = w := by
  unfold cmpI
  go_enter Tryz.func50, Tryz.ntmps50
  by_cases h1 : x < y
  · rw [if_pos h1]
    go_wp2_with (go_at_call 73; refine (isNaN_int _ _).mono ?_; rintro e w' ⟨rfl, hw⟩; rw [hw])
    go_ret
    exact ⟨rfl, rfl⟩
  · rw [if_neg h1]
    by_cases h2 : y < x
    · rw [if_pos h2]
      go_wp2_with (go_at_call 73; refine (isNaN_int _ _).mono ?_; rintro e w' ⟨rfl, hw⟩; rw [hw])
      go_ret
      exact ⟨rfl, rfl⟩
    · rw [if_neg h2]
      go_wp2_with (go_at_call 73; refine (isNaN_int _ _).mono ?_; rintro e w' ⟨rfl, hw⟩; rw [hw])
      go_ret
      exact ⟨rfl, rfl⟩

theorem or_int (a b : Int) (g : Nat) (w : World) (h0 : w.cell? ⟨g, 0, none⟩ = some (.int .i64 a)) (h1 : w.cell? ⟨g, 1, none⟩ = some (.int .i64 b)) :
    Calls Tryz.prog 49 #[.slice (some ⟨g, 0, none⟩) 2 2] w fun e w' => e = .returned (.int .i64 (orI a b)) ∧ w' = w := by
  obtain ⟨r, hr⟩ : ∃ r, orI a b = r := ⟨_, rfl⟩
  rw [hr]
  unfold orI at hr
  go_enter Tryz.func49, Tryz.ntmps49
  go_wp2
  go_loopw [8] (fun i wr => wr = w ∧ ((i = .int .i64 0) ∨ (i = .int .i64 1 ∧ a = 0) ∨ (i = .int .i64 2 ∧ a = 0 ∧ b = 0))) (fun i _ => (2 - intOf i).toNat)
  case atStart => exact ⟨rfl, .inl rfl⟩
  case round =>
    obtain ⟨rfl, rfl | ⟨rfl, rfl⟩ | ⟨rfl, rfl, rfl⟩⟩ := hrel
    · by_cases ha : a = 0
      · subst ha
        go_wp2
        go_roundw
        case rel => exact ⟨by trivial, .inr (.inl ⟨by go_num, by trivial⟩)⟩
        case measure => simp [intOf]
      · rw [if_pos ha] at hr
        subst hr
        go_wp2
        go_ret
        exact ⟨rfl, rfl⟩
    · by_cases hb : b = 0
      · subst hb
        go_wp2
        go_roundw
        case rel => exact ⟨by trivial, .inr (.inr ⟨by go_num, by trivial, by trivial⟩)⟩
        case measure => simp [intOf]
      · simp at hr
        subst hr
        go_wp2
        go_ret
        exact ⟨rfl, rfl⟩
    · simp at hr
      subst hr
      go_wp2
      go_ret
      exact ⟨rfl, rfl⟩

/-- Draws and new blocks alone. -/
def Gr (W w' : World) : Prop := ∃ q os', w' = Sort.grow (W.drewN q) os'
theorem Gr.refl (W : World) : Gr W W := ⟨0, #[], by rw [Sort.grow_empty]; rfl⟩
theorem Gr.alloc {W w' : World} (h : Gr W w') (o : Obj) : Gr W (w'.alloc o) := by
  obtain ⟨q, os, rfl⟩ := h
  exact ⟨q, os ++ #[o], by rw [Sort.alloc_eq_grow, Sort.grow_grow]⟩
theorem Gr.drew {W w' : World} (h : Gr W w') : Gr W w'.drew := by
  obtain ⟨q, os, rfl⟩ := h
  exact ⟨q + 1, os, by rw [Sort.drew_grow]; rfl⟩
theorem Gr.drewN {W w' : World} (h : Gr W w') (m : Nat) : Gr W (w'.drewN m) := by
  obtain ⟨q, os, rfl⟩ := h
  refine ⟨q + m, os, ?_⟩
  simp [World.drewN, Sort.grow, Nat.add_assoc]

set_option maxRecDepth 100000 in
set_option maxHeartbeats 1600000 in
theorem spotCompare (s t : Sp) (W : World) : Calls Tryz.prog 29 #[spV s, spV t] W fun e w' => e = .returned (.int .i64 (cmpS s t)) ∧ Gr W w' := by
  unfold cmpS
  obtain ⟨c1, h1⟩ : ∃ c, cmpI s.1 t.1 = c := ⟨_, rfl⟩
  obtain ⟨c2, h2⟩ : ∃ c, cmpI s.2 t.2 = c := ⟨_, rfl⟩
  have H1 := Lib.hid h1
  have H2 := Lib.hid h2
  rw [h1, h2]
  clear h1 h2
  go_enter Tryz.func29, Tryz.ntmps29
  go_wp2_with fail
  have k1 := heap_new W (.cells #[.int .i64 s.1, .int .i64 s.2] 27)
  have k1 := ((Fr.refl [] _).alloc (.cells #[.int .i64 t.1, .int .i64 t.2] 27)).heap k1 (by simp)
  have k2 := heap_new (W.alloc (.cells #[.int .i64 s.1, .int .i64 s.2] 27)) (.cells #[.int .i64 t.1, .int .i64 t.2] 27)
  rw [World.size_alloc] at k2
  have hG : Gr W ((W.alloc (.cells #[.int .i64 s.1, .int .i64 s.2] 27)).alloc (.cells #[.int .i64 t.1, .int .i64 t.2] 27)) := ((Gr.refl W).alloc _).alloc _
  generalize (W.alloc (.cells #[.int .i64 s.1, .int .i64 s.2] 27)).alloc (.cells #[.int .i64 t.1, .int .i64 t.2] 27) = W2 at *
  have a0 : W2.cell? ⟨W.heap.size, 0, none⟩ = some (.int .i64 s.1) := cell_of k1 0
  have a1 : W2.cell? ⟨W.heap.size, 1, none⟩ = some (.int .i64 s.2) := cell_of k1 1
  have b0 : W2.cell? ⟨W.heap.size + 1, 0, none⟩ = some (.int .i64 t.1) := cell_of k2 0
  have b1 : W2.cell? ⟨W.heap.size + 1, 1, none⟩ = some (.int .i64 t.2) := cell_of k2 1
  clear k1 k2
  go_region_held3 (fun u => u.cell? ⟨W.heap.size, 0, none⟩ = some (.int .i64 s.1) ∧ u.cell? ⟨W.heap.size, 1, none⟩ = some (.int .i64 s.2) ∧ u.cell? ⟨W.heap.size + 1, 0, none⟩ = some (.int .i64 t.1) ∧ u.cell? ⟨W.heap.size + 1, 1, none⟩ = some (.int .i64 t.2))
    (((try dsimp only); refine ⟨?_, ?_, ?_, ?_⟩ <;> (repeat first | with_reducible assumption | with_reducible refine ce_drew ?_ | with_reducible refine ce_old ?_)))
    ((first
      | (go_at_call 50; refine (compare_int _ _ _).mono ?_; (first | rw [H1.out] | rw [H2.out]); rintro e w' ⟨rfl, hw⟩; rw [hw])
      | (go_at_call 49; refine (or_int c1 c2 _ _ (by first | exact cell_of (heap_new _ _) 0 | exact ce_drew (cell_of (heap_new _ _) 0)) (by first | exact cell_of (heap_new _ _) 1 | exact ce_drew (cell_of (heap_new _ _) 1))).mono ?_; rintro e w' ⟨rfl, hw⟩; rw [hw])))
  go_wp2
  go_ret
  exact ⟨rfl, by repeat (first | with_reducible exact hG | with_reducible refine Gr.drew ?_ | with_reducible refine Gr.alloc ?_ _)⟩
end
section
section
open Go.RowKit Go.Shelf Go.Sort Go.Proofs

/-- Row order. -/
def ltS (s t : Sp) : Bool := decide (s.1 < t.1 ∨ (s.1 = t.1 ∧ s.2 < t.2))
def sortS (l : List Sp) : List Sp := l.mergeSort fun x y => !ltS y x

theorem lt_cmpS (s t : Sp) : ltOf cmpS s t = ltS s t := by
  unfold ltOf cmpS orI cmpI ltS
  by_cases h1 : s.1 < t.1
  · simp [h1]
  · by_cases h2 : s.1 > t.1
    · have : ¬ (s.1 = t.1) := by omega
      simp [h1, h2, this]
    · have e : s.1 = t.1 := by omega
      rw [e]
      by_cases h3 : s.2 < t.2
      · simp [h3]
      · by_cases h4 : s.2 > t.2 <;> simp [h3, h4]
theorem ltOf_cmpS : ltOf cmpS = ltS := by funext s t; exact lt_cmpS s t
theorem swoS : SWO (ltOf cmpS) := by
  rw [ltOf_cmpS]
  refine ⟨fun x => ?_, fun x y z h1 h2 => ?_, fun x y z h1 h2 => ?_⟩
  · simp [ltS]
  · simp only [ltS, decide_eq_true_eq] at *; omega
  · simp only [ltS, decide_eq_false_iff_not] at *; omega
theorem totS (x y : Sp) (h1 : ltS x y = false) (h2 : ltS y x = false) : x = y := by
  simp only [ltS, decide_eq_false_iff_not] at *
  exact Prod.ext (by omega) (by omega)

theorem sortS_perm (l : List Sp) : (sortS l).Perm l := List.mergeSort_perm _ _
theorem sortS_le (l : List Sp) : (sortS l).Pairwise fun x y => ltS y x = false := by
  have := List.pairwise_mergeSort (le := fun x y => !ltS y x) (fun a b c h1 h2 => by
    simp only [ltS, Bool.not_eq_true', decide_eq_false_iff_not] at *; omega) (fun a b => by
    simp only [ltS, Bool.or_eq_true, Bool.not_eq_true', decide_eq_false_iff_not]; omega) l
  exact this.imp fun h => by simpa using h
theorem sortS_lt {l : List Sp} (h : l.Nodup) : (sortS l).Pairwise fun x y => ltS x y = true := by
  have h1 := sortS_le l
  have h2 : (sortS l).Pairwise (· ≠ ·) := List.nodup_iff_pairwise_ne.1 ((sortS_perm l).nodup_iff.2 h)
  refine (h1.and h2).imp ?_
  rintro x y ⟨h3, h4⟩
  cases h5 : ltS x y with
  | true => rfl
  | false => exact absurd (totS x y h5 h3) h4
theorem sortS_of_perm {a b : List Sp} (h : a.Perm b) : sortS a = sortS b := by
  refine List.Perm.eq_of_pairwise (le := fun x y => ltS y x = false) ?_ (sortS_le a) (sortS_le b) (((sortS_perm a).trans h).trans (sortS_perm b).symm)
  intro x y _ _ h1 h2
  exact totS x y h2 h1

/-! ### the row behind the sort -/
theorem flatS (ss : List Sp) : (flatK spC 2 ss.toArray).toList = ss.flatMap spC := by
  apply List.ext_getElem?
  intro t
  by_cases ht : t < ss.length * 2
  · have hk : t / 2 < ss.length := by omega
    have e := flat_get spC 2 (fun _ => rfl) ss (t / 2) (t % 2) hk (by omega)
    rw [show t / 2 * 2 + t % 2 = t by omega] at e
    rw [e, Array.getElem?_toList]
    have hs : t < (flatK spC 2 ss.toArray).size := by simp; omega
    rw [Array.getElem?_eq_getElem hs]
    have h2 := get_flatK spC 2 ss.toArray t (by simpa using ht)
    rw [getElem!_pos _ t hs] at h2
    rw [h2]
    have h3 : ss.toArray[t / 2]! = ss[t / 2] := by simp [hk]
    rw [h3]
    have h4 : t % 2 < (spC ss[t / 2]).length := by show t % 2 < 2; omega
    rw [getElem!_pos (spC ss[t / 2]) (t % 2) h4, List.getElem?_eq_getElem h4]
  · rw [List.getElem?_eq_none (by simp; omega), List.getElem?_eq_none (by rw [flat_len spC 2 (fun _ => rfl)]; omega)]

theorem heapSorted {w : World} {g n : Nat} {os : Array Obj} {cur : Array Value} {e : TypeId} {fr : Nat × Nat} (F : Array Value) (hb : w.heap[g]? = some (.cells cur e fr)) :
    (grow (putRow id (Sort.ahead w n) g 0 F) os).heap[g]? = some (.cells (putCells id 0 F cur) e fr) := by
  have hg : g < w.heap.size := (Array.getElem?_eq_some_iff.1 hb).1
  rw [heap_grow_old _ _ (by simpa using hg)]
  simp [putRow, mapBlock, Sort.ahead, Array.getElem?_modify, hb, onCells]
theorem grownSorted {w : World} {g n : Nat} {os : Array Obj} (F : Array Value) : w.grownBy (grow (putRow id (Sort.ahead w n) g 0 F) os) (some g) := by
  refine ⟨rfl, rfl, rfl, by simp, fun k hk hne => ?_⟩
  rw [heap_grow_old _ _ (by simpa using hk)]
  have : g ≠ k := fun e => hne (by rw [e])
  simp [putRow, mapBlock, Sort.ahead, Array.getElem?_modify, this]
theorem takePut (cur F : Array Value) (h : F.size ≤ cur.size) : (putCells id 0 F cur).toList.take F.size = F.toList := by
  apply List.ext_getElem?
  intro j
  by_cases hj : j < F.size
  · rw [List.getElem?_take_of_lt hj, Array.getElem?_toList]
    simp [putCells, hj, show j < cur.size by omega]
  · rw [List.getElem?_take_eq_none (by omega), List.getElem?_eq_none (by simp; omega)]
theorem holdsS {w : World} {g : Nat} {cur : Array Value} {e : TypeId} {ss : List Sp} (hb : w.heap[g]? = some (.cells cur e (0, 0))) (ht : cur.toList.take (ss.length * 2) = ss.flatMap spC) : HoldsK spC 2 w g 0 ss.toArray := by
  intro j hj
  refine ⟨?_, by simp [World.frozen?, hb]⟩
  have h1 : (ss.flatMap spC)[j]? = some (flatK spC 2 ss.toArray)[j]! := by
    rw [← flatS, Array.getElem?_toList, Array.getElem?_eq_getElem hj, getElem!_pos _ j hj]
  have := take_cells hb ht j _ h1
  simpa using this
theorem rowSorted {w : World} {base g cap n : Nat} {e : TypeId} {os : Array Obj} {cur : Array Value} {ss ts : List Sp} (hl : ts.length = ss.length) (hbase : base ≤ g) (hb : w.heap[g]? = some (.cells cur e (0, 0)))
    (h1 : ss.length ≤ cap) (h2 : cap ≤ maxLen) (h3 : cur.size = cap * 2) :
    (sortWorldK spC 2 w g 0 n ts.toArray os).ownsRow base e 2 (.slice (some ⟨g, 0, none⟩) ss.length cap) ss.length (ts.flatMap spC) := by
  have hF : (flatK spC 2 ts.toArray).size = ss.length * 2 := by simp [hl]
  refine ⟨by rw [flat_len spC 2 (fun _ => rfl), hl], .inr ⟨g, cap, _, rfl, hbase, heapSorted _ hb, h1, h2, by simp [putCells, h3], ?_⟩⟩
  rw [← hF, takePut _ _ (by rw [hF, h3]; omega), flatS]
end
section
open Go.RowKit Go.Shelf Go.Sort Go.Proofs

def Tryz.sortSpots_ren : Go.Shelf.Ren := ⟨fun | 6 => 42 | 15 => 48 | 14 => 60 | 28 => 71 | 29 => 72 | 20 => 76 | 21 => 77 | 22 => 78 | 23 => 79 | 24 => 80 | 25 => 81 | 26 => 82 | 27 => 83 | 46 => 106 | 47 => 94 | 48 => 95 | 49 => 107 | 50 => 108 | 57 => 118 | n => n, fun | 22 => 28 | 24 => 27 | 25 => 73 | 3 => 3 | 39 => 102 | 0 => 0 | 53 => 127 | 55 => 129 | 4 => 4 | 46 => 121 | 45 => 120 | 50 => 96 | 5 => 5 | 9 => 9 | 66 => 148 | 70 => 152 | 76 => 165 | 77 => 166 | n => n, fun | n => n⟩
theorem Tryz.sortSpots : Go.Proofs.SlLaysF0.n6 Tryz.prog Tryz.sortSpots_ren where
  mixed := by kernel_rfl
  f6 := ⟨Tryz.f42.name, by kernel_rfl, Tryz.func42.trans (congrArg some (by kernel_rfl))⟩
  f14 := ⟨Tryz.f60.name, by kernel_rfl, Tryz.func60.trans (congrArg some (by kernel_rfl))⟩
  f15 := Tryz.func48.trans (congrArg some (by kernel_rfl))
  f20 := ⟨Tryz.f76.name, by kernel_rfl, Tryz.func76.trans (congrArg some (by kernel_rfl))⟩
  f21 := ⟨Tryz.f77.name, by kernel_rfl, Tryz.func77.trans (congrArg some (by kernel_rfl))⟩
  f22 := ⟨Tryz.f78.name, by kernel_rfl, Tryz.func78.trans (congrArg some (by kernel_rfl))⟩
  f23 := ⟨Tryz.f79.name, by kernel_rfl, Tryz.func79.trans (congrArg some (by kernel_rfl))⟩
  f24 := ⟨Tryz.f80.name, by kernel_rfl, Tryz.func80.trans (congrArg some (by kernel_rfl))⟩
  f25 := ⟨Tryz.f81.name, by kernel_rfl, Tryz.func81.trans (congrArg some (by kernel_rfl))⟩
  f26 := ⟨Tryz.f82.name, by kernel_rfl, Tryz.func82.trans (congrArg some (by kernel_rfl))⟩
  f27 := ⟨Tryz.f83.name, by kernel_rfl, Tryz.func83.trans (congrArg some (by kernel_rfl))⟩
  f28 := Tryz.func71.trans (congrArg some (by kernel_rfl))
  f29 := Tryz.func72.trans (congrArg some (by kernel_rfl))
  f46 := ⟨Tryz.f106.name, by kernel_rfl, Tryz.func106.trans (congrArg some (by kernel_rfl))⟩
  f47 := Tryz.func94.trans (congrArg some (by kernel_rfl))
  f48 := Tryz.func95.trans (congrArg some (by kernel_rfl))
  f49 := ⟨Tryz.f107.name, by kernel_rfl, Tryz.func107.trans (congrArg some (by kernel_rfl))⟩
  f50 := ⟨Tryz.f108.name, by kernel_rfl, Tryz.func108.trans (congrArg some (by kernel_rfl))⟩
  f57 := ⟨Tryz.f118.name, by kernel_rfl, Tryz.func118.trans (congrArg some (by kernel_rfl))⟩
  t0 := Tryz.underlying0
  a0 := Tryz.isAgg0
  z0 := Tryz.sizeOf0
  v0 := Tryz.zeroValue0
  t3 := Tryz.underlying3
  a3 := Tryz.isAgg3
  z3 := Tryz.sizeOf3
  v3 := Tryz.zeroValue3
  t4 := Tryz.underlying4
  a4 := Tryz.isAgg4
  z4 := Tryz.sizeOf4
  v4 := Tryz.zeroValue4
  t5 := Tryz.underlying5
  a5 := Tryz.isAgg5
  z5 := Tryz.sizeOf5
  v5 := Tryz.zeroValue5
  t9 := Tryz.underlying9
  a9 := Tryz.isAgg9
  z9 := Tryz.sizeOf9
  v9 := Tryz.zeroValue9
  t22 := Tryz.underlying28
  a22 := Tryz.isAgg28
  z22 := Tryz.sizeOf28
  v22 := Tryz.zeroValue28
  t25 := Tryz.underlying73
  a25 := Tryz.isAgg73
  z25 := Tryz.sizeOf73
  v25 := Tryz.zeroValue73
  t39 := Tryz.underlying102
  a39 := Tryz.isAgg102
  z39 := Tryz.sizeOf102
  v39 := Tryz.zeroValue102
  t45 := Tryz.underlying120
  a45 := Tryz.isAgg120
  z45 := Tryz.sizeOf120
  v45 := Tryz.zeroValue120
  t46 := Tryz.underlying121
  a46 := Tryz.isAgg121
  z46 := Tryz.sizeOf121
  v46 := Tryz.zeroValue121
  t50 := Tryz.underlying96
  a50 := Tryz.isAgg96
  z50 := Tryz.sizeOf96
  v50 := Tryz.zeroValue96
  t53 := Tryz.underlying127
  a53 := Tryz.isAgg127
  z53 := Tryz.sizeOf127
  v53 := Tryz.zeroValue127
  t55 := Tryz.underlying129
  a55 := Tryz.isAgg129
  z55 := Tryz.sizeOf129
  v55 := Tryz.zeroValue129
  t66 := Tryz.underlying148
  a66 := Tryz.isAgg148
  z66 := Tryz.sizeOf148
  v66 := Tryz.zeroValue148
  t70 := Tryz.underlying152
  a70 := Tryz.isAgg152
  z70 := Tryz.sizeOf152
  v70 := Tryz.zeroValue152
  t76 := Tryz.underlying165
  a76 := Tryz.isAgg165
  z76 := Tryz.sizeOf165
  v76 := Tryz.zeroValue165
  t77 := Tryz.underlying166
  a77 := Tryz.isAgg166
  z77 := Tryz.sizeOf166
  v77 := Tryz.zeroValue166

theorem cmpLaysS (blk off size : Nat) (w : World) : CmpLays Tryz.prog 29 #[] spC 2 cmpS blk off size w :=
  fun _ _ _ _ x y => spotCompare x y _

theorem sortFuncS (blk cap : Nat) (ss : List Sp) (w : World) (hH : HoldsK spC 2 w blk 0 ss.toArray) (hblk : blk < w.heap.size) (hsz : ss.length < 4611686018427387904) :
    Calls Tryz.prog 42 #[.slice (some ⟨blk, 0, none⟩) ss.length cap, .func (.func 29) #[] #[]] w fun e w' => e = .returned (.tuple #[]) ∧ ∃ n os, w' = sortWorldK spC 2 w blk 0 n (sortS ss).toArray os := by
  have eg : ∀ args w, (callFunc 29 args).run Tryz.prog w = .ok (.enter 29 args) w := enters_of Tryz.func29 (by kernel_rfl) rfl
  have hcon := AnyQ.slices_SortFunc_total Tryz.sortSpots 2 Tryz.isAgg27 Tryz.sizeOf27 spC (fun _ => rfl) (fun x v hv => by simp at hv; rcases hv with rfl | rfl <;> rfl) cmpS swoS 29 #[] blk 0 cap ss.toArray w eg (cmpLaysS blk 0 _ w) hH hblk (by simpa using hsz) (fun x y => by rw [ltOf_cmpS]; exact totS x y)
  change Calls Tryz.prog 42 _ _ _ at hcon
  rw [ltOf_cmpS] at hcon
  exact hcon

theorem sortNoneS (cap : Nat) (p : Option Addr) (fv : Value) (w : World) :
    Calls Tryz.prog 42 #[.slice p 0 cap, fv] w fun e w' => e = .returned (.tuple #[]) ∧ w' = w :=
  AnyF.slices_SortFunc_none Tryz.sortSpots p cap fv w
end
end
end Go.Proofs.YtdlpbpohbkcafaaGreat
