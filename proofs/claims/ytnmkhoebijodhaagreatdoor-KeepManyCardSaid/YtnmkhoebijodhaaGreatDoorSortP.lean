/-
  Row order; what a row of places holds behind a sort. No program in sight.
-/
import Derived.Test.YtnmkhoebijodhaaGreatDoorCmp
import Derived.Shelf.SlSortCmp.InsertionK
namespace Go.Proofs.YtnmkhoebijodhaaGreatDoor
open Go.RowKit Go.Shelf Go.Sort Go.Proofs

/-- Row order. -/
def ltS (s t : Sp) : Bool := decide (s.1 < t.1 ∨ (s.1 = t.1 ∧ s.2 < t.2))
def sortS (l : List Sp) : List Sp := l.mergeSort fun x y => !ltS y x

theorem lt_cmpS (s t : Sp) : ltOf cmpS s t = ltS s t := by
  unfold ltOf cmpS orI cmpI ltS
  by_cases h1 : s.1 < t.1
  · simp [h1]
  · by_cases h2 : s.1 > t.1
    · have : ¬ (s.1 = t.1) := by omega
      simp [h1, h2, this]
    · have e : s.1 = t.1 := by omega
      rw [e]
      by_cases h3 : s.2 < t.2
      · simp [h3]
      · by_cases h4 : s.2 > t.2 <;> simp [h3, h4]
theorem ltOf_cmpS : ltOf cmpS = ltS := by funext s t; exact lt_cmpS s t
theorem swoS : SWO (ltOf cmpS) := by
  rw [ltOf_cmpS]
  refine ⟨fun x => ?_, fun x y z h1 h2 => ?_, fun x y z h1 h2 => ?_⟩
  · simp [ltS]
  · simp only [ltS, decide_eq_true_eq] at *; omega
  · simp only [ltS, decide_eq_false_iff_not] at *; omega
theorem totS (x y : Sp) (h1 : ltS x y = false) (h2 : ltS y x = false) : x = y := by
  simp only [ltS, decide_eq_false_iff_not] at *
  exact Prod.ext (by omega) (by omega)

theorem sortS_perm (l : List Sp) : (sortS l).Perm l := List.mergeSort_perm _ _
theorem sortS_le (l : List Sp) : (sortS l).Pairwise fun x y => ltS y x = false := by
  have := List.pairwise_mergeSort (le := fun x y => !ltS y x) (fun a b c h1 h2 => by
    simp only [ltS, Bool.not_eq_true', decide_eq_false_iff_not] at *; omega) (fun a b => by
    simp only [ltS, Bool.or_eq_true, Bool.not_eq_true', decide_eq_false_iff_not]; omega) l
  exact this.imp fun h => by simpa using h
theorem sortS_lt {l : List Sp} (h : l.Nodup) : (sortS l).Pairwise fun x y => ltS x y = true := by
  have h1 := sortS_le l
  have h2 : (sortS l).Pairwise (· ≠ ·) := List.nodup_iff_pairwise_ne.1 ((sortS_perm l).nodup_iff.2 h)
  refine (h1.and h2).imp ?_
  rintro x y ⟨h3, h4⟩
  cases h5 : ltS x y with
  | true => rfl
  | false => exact absurd (totS x y h5 h3) h4
theorem sortS_of_perm {a b : List Sp} (h : a.Perm b) : sortS a = sortS b := by
  refine List.Perm.eq_of_pairwise (le := fun x y => ltS y x = false) ?_ (sortS_le a) (sortS_le b) (((sortS_perm a).trans h).trans (sortS_perm b).symm)
  intro x y _ _ h1 h2
  exact totS x y h2 h1

/-! ### the row behind the sort -/
theorem flatS (ss : List Sp) : (flatK spC 2 ss.toArray).toList = ss.flatMap spC := by
  apply List.ext_getElem?
  intro t
  by_cases ht : t < ss.length * 2
  · have hk : t / 2 < ss.length := by omega
    have e := flat_get spC 2 (fun _ => rfl) ss (t / 2) (t % 2) hk (by omega)
    rw [show t / 2 * 2 + t % 2 = t by omega] at e
    rw [e, Array.getElem?_toList]
    have hs : t < (flatK spC 2 ss.toArray).size := by simp; omega
    rw [Array.getElem?_eq_getElem hs]
    have h2 := get_flatK spC 2 ss.toArray t (by simpa using ht)
    rw [getElem!_pos _ t hs] at h2
    rw [h2]
    have h3 : ss.toArray[t / 2]! = ss[t / 2] := by simp [hk]
    rw [h3]
    have h4 : t % 2 < (spC ss[t / 2]).length := by show t % 2 < 2; omega
    rw [getElem!_pos (spC ss[t / 2]) (t % 2) h4, List.getElem?_eq_getElem h4]
  · rw [List.getElem?_eq_none (by simp; omega), List.getElem?_eq_none (by rw [flat_len spC 2 (fun _ => rfl)]; omega)]

theorem heapSorted {w : World} {g n : Nat} {os : Array Obj} {cur : Array Value} {e : TypeId} {fr : Nat × Nat} (F : Array Value) (hb : w.heap[g]? = some (.cells cur e fr)) :
    (grow (putRow id (Sort.ahead w n) g 0 F) os).heap[g]? = some (.cells (putCells id 0 F cur) e fr) := by
  have hg : g < w.heap.size := (Array.getElem?_eq_some_iff.1 hb).1
  rw [heap_grow_old _ _ (by simpa using hg)]
  simp [putRow, mapBlock, Sort.ahead, Array.getElem?_modify, hb, onCells]
theorem grownSorted {w : World} {g n : Nat} {os : Array Obj} (F : Array Value) : w.grownBy (grow (putRow id (Sort.ahead w n) g 0 F) os) (some g) := by
  refine ⟨rfl, rfl, rfl, by simp, fun k hk hne => ?_⟩
  rw [heap_grow_old _ _ (by simpa using hk)]
  have : g ≠ k := fun e => hne (by rw [e])
  simp [putRow, mapBlock, Sort.ahead, Array.getElem?_modify, this]
theorem takePut (cur F : Array Value) (h : F.size ≤ cur.size) : (putCells id 0 F cur).toList.take F.size = F.toList := by
  apply List.ext_getElem?
  intro j
  by_cases hj : j < F.size
  · rw [List.getElem?_take_of_lt hj, Array.getElem?_toList]
    simp [putCells, hj, show j < cur.size by omega]
  · rw [List.getElem?_take_eq_none (by omega), List.getElem?_eq_none (by simp; omega)]
theorem holdsS {w : World} {g : Nat} {cur : Array Value} {e : TypeId} {ss : List Sp} (hb : w.heap[g]? = some (.cells cur e (0, 0))) (ht : cur.toList.take (ss.length * 2) = ss.flatMap spC) : HoldsK spC 2 w g 0 ss.toArray := by
  intro j hj
  refine ⟨?_, by simp [World.frozen?, hb]⟩
  have h1 : (ss.flatMap spC)[j]? = some (flatK spC 2 ss.toArray)[j]! := by
    rw [← flatS, Array.getElem?_toList, Array.getElem?_eq_getElem hj, getElem!_pos _ j hj]
  have := take_cells hb ht j _ h1
  simpa using this
theorem rowSorted {w : World} {base g cap n : Nat} {e : TypeId} {os : Array Obj} {cur : Array Value} {ss ts : List Sp} (hl : ts.length = ss.length) (hbase : base ≤ g) (hb : w.heap[g]? = some (.cells cur e (0, 0)))
    (h1 : ss.length ≤ cap) (h2 : cap ≤ maxLen) (h3 : cur.size = cap * 2) :
    (sortWorldK spC 2 w g 0 n ts.toArray os).ownsRow base e 2 (.slice (some ⟨g, 0, none⟩) ss.length cap) ss.length (ts.flatMap spC) := by
  have hF : (flatK spC 2 ts.toArray).size = ss.length * 2 := by simp [hl]
  refine ⟨by rw [flat_len spC 2 (fun _ => rfl), hl], .inr ⟨g, cap, _, rfl, hbase, heapSorted _ hb, h1, h2, by simp [putCells, h3], ?_⟩⟩
  rw [← hF, takePut _ _ (by rw [hF, h3]; omega), flatS]

end Go.Proofs.YtnmkhoebijodhaaGreatDoor
