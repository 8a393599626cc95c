/-
  sort.siftDown, sort.heapSort.
  sort.partition, sort.partitionEqual.
-/
import Derived.Test.YtdlpbpohbkcafaaGreatSvA
import Derived.Deep.CutBlock
namespace Go.Proofs.YtdlpbpohbkcafaaGreat
section
open Go.RowKit Go.Sort

section
variable {α : Type} [Inhabited α] {T : TypeId} {rv : Value} {gl gs : Nat} {lt : α → α → Bool} {N : Nat} {X : List Nat} {V : Array α → World → Prop}
/-- The greater child. -/
def childOf (lt : α → α → Bool) (hi first root : Nat) (d : Array α) : Nat := if 2 * root + 1 + 1 < hi && lt d[first + (2 * root + 1)]! d[first + (2 * root + 1) + 1]! then 2 * root + 2 else 2 * root + 1
theorem sift_stop {hi first root : Nat} {d : Array α} (h : hi ≤ 2 * root + 1) : siftDown lt hi first root d = d := by
  unfold siftDown
  rw [dif_pos h]
theorem sift_eq {hi first root : Nat} {d : Array α} (h : ¬ hi ≤ 2 * root + 1) : siftDown lt hi first root d = if !lt d[first + root]! d[first + childOf lt hi first root d]! then d else siftDown lt hi first (childOf lt hi first root d) (swp d (first + root) (first + childOf lt hi first root d)) := by
  conv => lhs; unfold siftDown
  rw [dif_neg h]
  unfold childOf
  by_cases hA : (decide (2 * root + 1 + 1 < hi) && lt d[first + (2 * root + 1)]! d[first + (2 * root + 1) + 1]!) = true
  · rw [if_pos hA, if_pos hA]
    have h2 : 2 * root + 2 < hi := by
      simp only [Bool.and_eq_true, decide_eq_true_eq] at hA
      exact hA.1
    rw [dif_pos h2]
  · rw [if_neg hA, if_neg hA]
theorem sift_no {hi first root c : Nat} {d : Array α} (h : ¬ hi ≤ 2 * root + 1) (hc : childOf lt hi first root d = c) (hl : lt d[first + root]! d[first + c]! = false) : siftDown lt hi first root d = d := by
  rw [sift_eq h, hc, hl]
  rfl
theorem sift_go {hi first root c : Nat} {d : Array α} (h : ¬ hi ≤ 2 * root + 1) (hc : childOf lt hi first root d = c) (hl : lt d[first + root]! d[first + c]! = true) : siftDown lt hi first root d = siftDown lt hi first c (swp d (first + root) (first + c)) := by
  rw [sift_eq h, hc, hl]
  rfl
set_option maxHeartbeats 3200000 in
set_option maxRecDepth 100000 in
theorem svSift (h : SvM T rv gl gs lt N X V) (hN : N < 4611686018427387904) (lo hi first : Nat) (d : Array α) (w : World) (hd : d.size = N) (hV : V d w) (hlo : lo ≤ hi) (hb : first + hi ≤ N) :
    Calls Tryz.prog 113 #[.iface T rv, .int .i64 (lo : Int), .int .i64 (hi : Int), .int .i64 (first : Int)] w (SvP X (V (siftDown lt hi first lo d)) w) := by
  have mL := h.mL
  have mS := h.mS
  simp [go_sem] at mL mS
  have eL := h.eL
  have eS := h.eS
  have H := Lib.hid h
  have HV := Lib.hid hV
  have HD := Lib.hid hd
  clear h hV hd
  go_enter Tryz.func113, Tryz.ntmps113
  go_wp2_with fail
  go_loopw [8] (fun vi wr => ∃ (root : Nat) (dk : Array α), vi = .int .i64 (root : Int) ∧ root ≤ hi ∧ dk.size = N ∧ V dk wr ∧ Fr X w wr ∧ siftDown lt hi first root dk = siftDown lt hi first lo d) (fun vi _ => hi - (intOf vi).toNat)
  case atStart => exact ⟨lo, d, rfl, hlo, HD.out, HV.out, Fr.refl _ _, rfl⟩
  case round =>
    obtain ⟨root, dk, rfl, hr, hsk, hVk, hfk, hO⟩ := hrel
    have HSK := Lib.hid hsk
    have HVK := Lib.hid hVk
    have HFK := Lib.hid hfk
    have HO := Lib.hid hO
    clear hsk hVk hfk hO
    by_cases hge : hi ≤ 2 * root + 1
    · have hge1 : (hi : Int) ≤ 2 * (root : Int) + 1 := by omega
      have hE : Hid (siftDown lt hi first lo d = dk) := by
        show _ = _
        rw [← HO.out, sift_stop hge]
      go_wp2
      go_end0
      refine ⟨rfl, ?_, HFK.out⟩
      rw [hE.out]
      exact HVK.out
    · have hge1 : ¬ (hi : Int) ≤ 2 * (root : Int) + 1 := by omega
      by_cases h2 : 2 * root + 2 < hi
      · have h21 : 2 * (root : Int) + 1 + 1 < (hi : Int) := by omega
        have h22 : 2 * (root : Int) + 2 < (hi : Int) := by omega
        have hl := H.out.less dk wr HSK.out HVK.out (first + (2 * root + 1)) (first + (2 * root + 1) + 1) (by omega) (by omega)
        rw [show ((first + (2 * root + 1) : Nat) : Int) = (first : Int) + (2 * (root : Int) + 1) by omega, show ((first + (2 * root + 1) + 1 : Nat) : Int) = (first : Int) + (2 * (root : Int) + 1) + 1 by omega] at hl
        cases hl1 : lt dk[first + (2 * root + 1)]! dk[first + (2 * root + 1) + 1]! with
        | true =>
          have hC : childOf lt hi first root dk = 2 * root + 2 := by
            unfold childOf
            rw [hl1, show decide (2 * root + 1 + 1 < hi) = true from decide_eq_true h2]
            rfl
          rw [hl1] at hl
          have HL1 := Lib.hid hl
          clear hl hl1
          have hcl : 2 * root + 2 < hi := by omega
          have HC := Lib.hid hC
          clear hC
          cases hlv : lt dk[first + root]! dk[first + (2 * root + 2)]! with
          | true =>
            have HGO : Hid (siftDown lt hi first (2 * root + 2) (swp dk (first + root) (first + (2 * root + 2))) = siftDown lt hi first lo d) := by
              show _ = _
              rw [← HO.out, sift_go hge HC.out hlv]
            have HL2 : Hid (∀ w1, Fr [] wr w1 → Calls Tryz.prog gl #[rv, .int .i64 ((first : Int) + (root : Int)), .int .i64 ((first : Int) + (2 * (root : Int) + 1 + 1))] w1 fun e w2 => e = .returned (.bool true) ∧ Fr [] w1 w2) := fun w1 hf => by
              have := H.out.less dk w1 HSK.out (H.out.st0 HVK.out hf) (first + root) (first + (2 * root + 2)) (by omega) (by omega)
              rw [hlv] at this
              rwa [show ((first + root : Nat) : Int) = (first : Int) + (root : Int) by omega, show ((first + (2 * root + 2) : Nat) : Int) = (first : Int) + (2 * (root : Int) + 1 + 1) by omega] at this
            have HSW : Hid (∀ w1, Fr [] wr w1 → Calls Tryz.prog gs #[rv, .int .i64 ((first : Int) + (root : Int)), .int .i64 ((first : Int) + (2 * (root : Int) + 1 + 1))] w1 fun e w2 => e = .returned (.tuple #[]) ∧ V (swp dk (first + root) (first + (2 * root + 2))) w2 ∧ Fr X w1 w2) := fun w1 hf => by
              have := H.out.swap dk w1 HSK.out (H.out.st0 HVK.out hf) (first + root) (first + (2 * root + 2)) (by omega) (by omega)
              rwa [show ((first + root : Nat) : Int) = (first : Int) + (root : Int) by omega, show ((first + (2 * root + 2) : Nat) : Int) = (first : Int) + (2 * (root : Int) + 1 + 1) by omega] at this
            clear hlv
            go_wp2_with fail
            refine HL1.out.mono ?_
            rintro e w1 ⟨rfl, h1⟩
            have H1 := Lib.hid h1
            clear h1
            go_wp2_with fail
            refine (HL2.out _ H1.out).mono ?_
            rintro e w2 ⟨rfl, h2⟩
            have H2 := Lib.hid (H1.out.trans0 h2)
            clear h2
            go_wp2_with fail
            refine (HSW.out _ H2.out).mono ?_
            rintro e w3 ⟨rfl, hV3, hf3⟩
            have HV3 := Lib.hid hV3
            have HF3 := Lib.hid ((HFK.out.trans0 H2.out).transS hf3)
            clear hV3 hf3
            go_wp2
            go_roundw
            case rel => exact ⟨2 * root + 2, swp dk (first + root) (first + (2 * root + 2)), by go_num, by omega, by rw [size_swp]; exact HSK.out, HV3.out, HF3.out, HGO.out⟩
            case measure => simp [intOf]; omega
          | false =>
            have hE : Hid (siftDown lt hi first lo d = dk) := by
              show _ = _
              rw [← HO.out, sift_no hge HC.out hlv]
            have HL2 : Hid (∀ w1, Fr [] wr w1 → Calls Tryz.prog gl #[rv, .int .i64 ((first : Int) + (root : Int)), .int .i64 ((first : Int) + (2 * (root : Int) + 1 + 1))] w1 fun e w2 => e = .returned (.bool false) ∧ Fr [] w1 w2) := fun w1 hf => by
              have := H.out.less dk w1 HSK.out (H.out.st0 HVK.out hf) (first + root) (first + (2 * root + 2)) (by omega) (by omega)
              rw [hlv] at this
              rwa [show ((first + root : Nat) : Int) = (first : Int) + (root : Int) by omega, show ((first + (2 * root + 2) : Nat) : Int) = (first : Int) + (2 * (root : Int) + 1 + 1) by omega] at this
            clear hlv
            go_wp2_with fail
            refine HL1.out.mono ?_
            rintro e w1 ⟨rfl, h1⟩
            have H1 := Lib.hid h1
            clear h1
            go_wp2_with fail
            refine (HL2.out _ H1.out).mono ?_
            rintro e w2 ⟨rfl, h2⟩
            have H2 := Lib.hid (H1.out.trans0 h2)
            clear h2
            go_wp2
            go_end0
            refine ⟨rfl, ?_, HFK.out.trans0 H2.out⟩
            rw [hE.out]
            exact H.out.st0 HVK.out H2.out
        | false =>
          have hC : childOf lt hi first root dk = 2 * root + 1 := by
            unfold childOf
            rw [hl1, Bool.and_false]
            rfl
          rw [hl1] at hl
          have HL1 := Lib.hid hl
          clear hl hl1
          have hcl : 2 * root + 1 < hi := by omega
          have HC := Lib.hid hC
          clear hC
          cases hlv : lt dk[first + root]! dk[first + (2 * root + 1)]! with
          | true =>
            have HGO : Hid (siftDown lt hi first (2 * root + 1) (swp dk (first + root) (first + (2 * root + 1))) = siftDown lt hi first lo d) := by
              show _ = _
              rw [← HO.out, sift_go hge HC.out hlv]
            have HL2 : Hid (∀ w1, Fr [] wr w1 → Calls Tryz.prog gl #[rv, .int .i64 ((first : Int) + (root : Int)), .int .i64 ((first : Int) + (2 * (root : Int) + 1))] w1 fun e w2 => e = .returned (.bool true) ∧ Fr [] w1 w2) := fun w1 hf => by
              have := H.out.less dk w1 HSK.out (H.out.st0 HVK.out hf) (first + root) (first + (2 * root + 1)) (by omega) (by omega)
              rw [hlv] at this
              rwa [show ((first + root : Nat) : Int) = (first : Int) + (root : Int) by omega, show ((first + (2 * root + 1) : Nat) : Int) = (first : Int) + (2 * (root : Int) + 1) by omega] at this
            have HSW : Hid (∀ w1, Fr [] wr w1 → Calls Tryz.prog gs #[rv, .int .i64 ((first : Int) + (root : Int)), .int .i64 ((first : Int) + (2 * (root : Int) + 1))] w1 fun e w2 => e = .returned (.tuple #[]) ∧ V (swp dk (first + root) (first + (2 * root + 1))) w2 ∧ Fr X w1 w2) := fun w1 hf => by
              have := H.out.swap dk w1 HSK.out (H.out.st0 HVK.out hf) (first + root) (first + (2 * root + 1)) (by omega) (by omega)
              rwa [show ((first + root : Nat) : Int) = (first : Int) + (root : Int) by omega, show ((first + (2 * root + 1) : Nat) : Int) = (first : Int) + (2 * (root : Int) + 1) by omega] at this
            clear hlv
            go_wp2_with fail
            refine HL1.out.mono ?_
            rintro e w1 ⟨rfl, h1⟩
            have H1 := Lib.hid h1
            clear h1
            go_wp2_with fail
            refine (HL2.out _ H1.out).mono ?_
            rintro e w2 ⟨rfl, h2⟩
            have H2 := Lib.hid (H1.out.trans0 h2)
            clear h2
            go_wp2_with fail
            refine (HSW.out _ H2.out).mono ?_
            rintro e w3 ⟨rfl, hV3, hf3⟩
            have HV3 := Lib.hid hV3
            have HF3 := Lib.hid ((HFK.out.trans0 H2.out).transS hf3)
            clear hV3 hf3
            go_wp2
            go_roundw
            case rel => exact ⟨2 * root + 1, swp dk (first + root) (first + (2 * root + 1)), by go_num, by omega, by rw [size_swp]; exact HSK.out, HV3.out, HF3.out, HGO.out⟩
            case measure => simp [intOf]; omega
          | false =>
            have hE : Hid (siftDown lt hi first lo d = dk) := by
              show _ = _
              rw [← HO.out, sift_no hge HC.out hlv]
            have HL2 : Hid (∀ w1, Fr [] wr w1 → Calls Tryz.prog gl #[rv, .int .i64 ((first : Int) + (root : Int)), .int .i64 ((first : Int) + (2 * (root : Int) + 1))] w1 fun e w2 => e = .returned (.bool false) ∧ Fr [] w1 w2) := fun w1 hf => by
              have := H.out.less dk w1 HSK.out (H.out.st0 HVK.out hf) (first + root) (first + (2 * root + 1)) (by omega) (by omega)
              rw [hlv] at this
              rwa [show ((first + root : Nat) : Int) = (first : Int) + (root : Int) by omega, show ((first + (2 * root + 1) : Nat) : Int) = (first : Int) + (2 * (root : Int) + 1) by omega] at this
            clear hlv
            go_wp2_with fail
            refine HL1.out.mono ?_
            rintro e w1 ⟨rfl, h1⟩
            have H1 := Lib.hid h1
            clear h1
            go_wp2_with fail
            refine (HL2.out _ H1.out).mono ?_
            rintro e w2 ⟨rfl, h2⟩
            have H2 := Lib.hid (H1.out.trans0 h2)
            clear h2
            go_wp2
            go_end0
            refine ⟨rfl, ?_, HFK.out.trans0 H2.out⟩
            rw [hE.out]
            exact H.out.st0 HVK.out H2.out
      · have h21 : ¬ 2 * (root : Int) + 1 + 1 < (hi : Int) := by omega
        have h22 : ¬ 2 * (root : Int) + 2 < (hi : Int) := by omega
        have hC : childOf lt hi first root dk = 2 * root + 1 := by
          unfold childOf
          rw [show decide (2 * root + 1 + 1 < hi) = false from decide_eq_false h2]
          rfl
        have hcl : 2 * root + 1 < hi := by omega
        have HC := Lib.hid hC
        clear hC
        cases hlv : lt dk[first + root]! dk[first + (2 * root + 1)]! with
        | true =>
          have HGO : Hid (siftDown lt hi first (2 * root + 1) (swp dk (first + root) (first + (2 * root + 1))) = siftDown lt hi first lo d) := by
            show _ = _
            rw [← HO.out, sift_go hge HC.out hlv]
          have HL2 : Hid (∀ w1, Fr [] wr w1 → Calls Tryz.prog gl #[rv, .int .i64 ((first : Int) + (root : Int)), .int .i64 ((first : Int) + (2 * (root : Int) + 1))] w1 fun e w2 => e = .returned (.bool true) ∧ Fr [] w1 w2) := fun w1 hf => by
            have := H.out.less dk w1 HSK.out (H.out.st0 HVK.out hf) (first + root) (first + (2 * root + 1)) (by omega) (by omega)
            rw [hlv] at this
            rwa [show ((first + root : Nat) : Int) = (first : Int) + (root : Int) by omega, show ((first + (2 * root + 1) : Nat) : Int) = (first : Int) + (2 * (root : Int) + 1) by omega] at this
          have HSW : Hid (∀ w1, Fr [] wr w1 → Calls Tryz.prog gs #[rv, .int .i64 ((first : Int) + (root : Int)), .int .i64 ((first : Int) + (2 * (root : Int) + 1))] w1 fun e w2 => e = .returned (.tuple #[]) ∧ V (swp dk (first + root) (first + (2 * root + 1))) w2 ∧ Fr X w1 w2) := fun w1 hf => by
            have := H.out.swap dk w1 HSK.out (H.out.st0 HVK.out hf) (first + root) (first + (2 * root + 1)) (by omega) (by omega)
            rwa [show ((first + root : Nat) : Int) = (first : Int) + (root : Int) by omega, show ((first + (2 * root + 1) : Nat) : Int) = (first : Int) + (2 * (root : Int) + 1) by omega] at this
          clear hlv
          have H1 : Hid (Fr [] wr wr) := Fr.refl _ _
          go_wp2_with fail
          refine (HL2.out _ H1.out).mono ?_
          rintro e w2 ⟨rfl, h2⟩
          have H2 := Lib.hid (H1.out.trans0 h2)
          clear h2
          go_wp2_with fail
          refine (HSW.out _ H2.out).mono ?_
          rintro e w3 ⟨rfl, hV3, hf3⟩
          have HV3 := Lib.hid hV3
          have HF3 := Lib.hid ((HFK.out.trans0 H2.out).transS hf3)
          clear hV3 hf3
          go_wp2
          go_roundw
          case rel => exact ⟨2 * root + 1, swp dk (first + root) (first + (2 * root + 1)), by go_num, by omega, by rw [size_swp]; exact HSK.out, HV3.out, HF3.out, HGO.out⟩
          case measure => simp [intOf]; omega
        | false =>
          have hE : Hid (siftDown lt hi first lo d = dk) := by
            show _ = _
            rw [← HO.out, sift_no hge HC.out hlv]
          have HL2 : Hid (∀ w1, Fr [] wr w1 → Calls Tryz.prog gl #[rv, .int .i64 ((first : Int) + (root : Int)), .int .i64 ((first : Int) + (2 * (root : Int) + 1))] w1 fun e w2 => e = .returned (.bool false) ∧ Fr [] w1 w2) := fun w1 hf => by
            have := H.out.less dk w1 HSK.out (H.out.st0 HVK.out hf) (first + root) (first + (2 * root + 1)) (by omega) (by omega)
            rw [hlv] at this
            rwa [show ((first + root : Nat) : Int) = (first : Int) + (root : Int) by omega, show ((first + (2 * root + 1) : Nat) : Int) = (first : Int) + (2 * (root : Int) + 1) by omega] at this
          clear hlv
          have H1 : Hid (Fr [] wr wr) := Fr.refl _ _
          go_wp2_with fail
          refine (HL2.out _ H1.out).mono ?_
          rintro e w2 ⟨rfl, h2⟩
          have H2 := Lib.hid (H1.out.trans0 h2)
          clear h2
          go_wp2
          go_end0
          refine ⟨rfl, ?_, HFK.out.trans0 H2.out⟩
          rw [hE.out]
          exact H.out.st0 HVK.out H2.out
theorem heapBuild_go {hi first k : Nat} {d : Array α} : heapBuild lt hi first (k + 1) d = heapBuild lt hi first k (siftDown lt hi first k d) := rfl
theorem heapPop_go {first k : Nat} {d : Array α} : heapPop lt first (k + 1) d = heapPop lt first k (siftDown lt k first 0 (swp d first (first + k))) := rfl
theorem sift_size (hi first : Nat) : ∀ (n root : Nat) (d : Array α), hi - root ≤ n → (siftDown lt hi first root d).size = d.size
  | 0, root, d, hn => by rw [sift_stop (by omega)]
  | n + 1, root, d, hn => by
    by_cases h : hi ≤ 2 * root + 1
    · rw [sift_stop h]
    · have hc : root < childOf lt hi first root d := by
        unfold childOf
        split <;> omega
      cases hl : lt d[first + root]! d[first + childOf lt hi first root d]! with
      | true => rw [sift_go h rfl hl, sift_size hi first n _ _ (by omega), size_swp]
      | false => rw [sift_no h rfl hl]
set_option maxHeartbeats 3200000 in
set_option maxRecDepth 100000 in
theorem svHeap (h : SvM T rv gl gs lt N X V) (hN : N < 4611686018427387904) (a b : Nat) (d : Array α) (w : World) (hd : d.size = N) (hV : V d w) (hab : a < b) (hb : b ≤ N) :
    Calls Tryz.prog 99 #[.iface T rv, .int .i64 (a : Int), .int .i64 (b : Int)] w (SvP X (V (heapSort lt d a b)) w) := by
  have mS := h.mS
  simp [go_sem] at mS
  have eS := h.eS
  have H := Lib.hid h
  have HV := Lib.hid hV
  have HD := Lib.hid hd
  obtain ⟨hi, hhi⟩ : ∃ hi, hi = b - a := ⟨_, rfl⟩
  have HE : Hid (heapSort lt d a b = heapPop lt a hi (heapBuild lt hi a ((hi - 1) / 2 + 1) d)) := by
    show _ = _
    unfold heapSort
    rw [hhi]
  have hba : (b : Int) - (a : Int) = (hi : Int) := by omega
  have hh0 : 0 < hi := by omega
  have hhb : a + hi = b := by omega
  have hm0 : 0 ≤ (hi : Int) - 1 := by omega
  have HHB := Lib.hid hhb
  clear h hV hd hhi hhb
  have hhN : a + hi ≤ N := by rw [HHB.out]; exact hb
  go_enter Tryz.func99, Tryz.ntmps99
  go_wp2_with fail
  go_loopw [9] (fun vi wr => ∃ (k : Nat) (dk : Array α), vi = .int .i64 ((k : Int) - 1) ∧ k ≤ (hi - 1) / 2 + 1 ∧ dk.size = N ∧ V dk wr ∧ Fr X w wr ∧ heapBuild lt hi a k dk = heapBuild lt hi a ((hi - 1) / 2 + 1) d) (fun vi _ => (intOf vi + 1).toNat)
  case atStart => exact ⟨(hi - 1) / 2 + 1, d, by first | go_num | (congr 1; omega), by omega, HD.out, HV.out, Fr.refl _ _, rfl⟩
  case round =>
    obtain ⟨k, dk, rfl, hk, hsk, hVk, hfk, hO⟩ := hrel
    have HSK := Lib.hid hsk
    have HVK := Lib.hid hVk
    have HFK := Lib.hid hfk
    have HO := Lib.hid hO
    clear hsk hVk hfk hO
    cases k with
    | zero =>
      have HO2 : Hid (dk = heapBuild lt hi a ((hi - 1) / 2 + 1) d) := HO.out
      have HE2 : Hid (heapSort lt d a b = heapPop lt a hi dk) := by
        show _ = _
        rw [HE.out, HO2.out]
      go_wp2_with fail
      obtain ⟨WM, rfl⟩ : ∃ x : World, x = wr := ⟨_, rfl⟩
      go_loopw [10] (fun vi wx => ∃ (k : Nat) (dj : Array α), vi = .int .i64 ((k : Int) - 1) ∧ k ≤ hi ∧ dj.size = N ∧ V dj wx ∧ Fr X w wx ∧ heapPop lt a k dj = heapPop lt a hi dk) (fun vi _ => (intOf vi + 1).toNat)
      case atStart => exact ⟨hi, dk, by first | rfl | (congr 1; omega), by omega, HSK.out, HVK.out, HFK.out, rfl⟩
      case round =>
        obtain ⟨m, dj, rfl, hm, hsj, hVj, hfj, hP⟩ := hrel
        have HSJ := Lib.hid hsj
        have HVJ := Lib.hid hVj
        have HFJ := Lib.hid hfj
        have HPJ := Lib.hid hP
        clear hsj hVj hfj hP
        cases m with
        | zero =>
          have HF : Hid (heapSort lt d a b = dj) := by
            show _ = _
            rw [HE2.out, ← HPJ.out]
            rfl
          go_wp2
          go_end0
          refine ⟨rfl, ?_, HFJ.out⟩
          rw [HF.out]
          exact HVJ.out
        | succ m =>
          have HGO : Hid (heapPop lt a m (siftDown lt m a 0 (swp dj a (a + m))) = heapPop lt a hi dk) := HPJ.out
          have hsw := H.out.swap dj wr HSJ.out HVJ.out a (a + m) (by omega) (by omega)
          rw [show ((a + m : Nat) : Int) = (a : Int) + (m : Int) by omega] at hsw
          have HSW := Lib.hid hsw
          have HS1 : Hid ((swp dj a (a + m)).size = N) := by show _ = _; rw [size_swp]; exact HSJ.out
          have hsx : ∀ w2, V (swp dj a (a + m)) w2 → Calls Tryz.prog 113 #[.iface T rv, .int .i64 0, .int .i64 (m : Int), .int .i64 (a : Int)] w2 (SvP X (V (siftDown lt m a 0 (swp dj a (a + m)))) w2) := fun w2 hv => svSift H.out hN 0 m a _ w2 HS1.out hv (by omega) (by omega)
          have HSX := Lib.hid hsx
          have HS2 : Hid ((siftDown lt m a 0 (swp dj a (a + m))).size = N) := by show _ = _; rw [sift_size m a m 0 _ (by omega)]; exact HS1.out
          have hmm : (((m + 1 : Nat) : Int) - 1) = (m : Int) := by omega
          rw [hmm]
          have hm00 : (0 : Int) ≤ (m : Int) := by omega
          clear hsw hsx hmm
          go_wp2_with fail
          refine HSW.out.mono ?_
          rintro e w2 ⟨rfl, hV2, hf2⟩
          have HV2 := Lib.hid hV2
          have HF2 := Lib.hid (HFJ.out.transS hf2)
          clear hV2 hf2
          go_wp2_with fail
          refine (HSX.out _ HV2.out).mono ?_
          rintro e w3 ⟨rfl, hV3, hf3⟩
          have HV3 := Lib.hid hV3
          have HF3 := Lib.hid (HF2.out.transS hf3)
          clear hV3 hf3
          go_wp2
          go_roundw
          case rel => first | exact ⟨m, _, rfl, by omega, HS2.out, HV3.out, HF3.out, HGO.out⟩ | ((repeat apply Exists.intro); exact ⟨⟨m, _, rfl, by omega, HS2.out, HV3.out, HF3.out, HGO.out⟩, rfl⟩)
          case measure => simp [intOf] <;> omega
    | succ k =>
      have HGO : Hid (heapBuild lt hi a k (siftDown lt hi a k dk) = heapBuild lt hi a ((hi - 1) / 2 + 1) d) := HO.out
      have hsx := svSift H.out hN k hi a dk wr HSK.out HVK.out (by omega) (by omega)
      have HSX := Lib.hid hsx
      have HS2 : Hid ((siftDown lt hi a k dk).size = N) := by show _ = _; rw [sift_size hi a (hi - k) k _ (by omega)]; exact HSK.out
      have hkk : (((k + 1 : Nat) : Int) - 1) = (k : Int) := by omega
      rw [hkk]
      have hk00 : (0 : Int) ≤ (k : Int) := by omega
      clear hsx hkk
      go_wp2_with fail
      refine HSX.out.mono ?_
      rintro e w3 ⟨rfl, hV3, hf3⟩
      have HV3 := Lib.hid hV3
      have HF3 := Lib.hid (HFK.out.transS hf3)
      clear hV3 hf3
      go_wp2
      go_roundw
      case rel => first | exact ⟨k, _, rfl, by omega, HS2.out, HV3.out, HF3.out, HGO.out⟩ | ((repeat apply Exists.intro); exact ⟨⟨k, _, rfl, by omega, HS2.out, HV3.out, HF3.out, HGO.out⟩, rfl⟩)
      case measure => simp [intOf] <;> omega
end
end
section
open Go.RowKit Go.Sort

section
variable {α : Type} [Inhabited α] {T : TypeId} {rv : Value} {gl gs : Nat} {lt : α → α → Bool} {N : Nat} {X : List Nat} {V : Array α → World → Prop}
theorem scanUp_go {p : α → Bool} {d : Array α} {j i : Nat} (h : i ≤ j) (hp : p d[i]! = true) : scanUp p d j i = scanUp p d j (i + 1) := by
  conv => lhs; unfold scanUp
  rw [if_pos (by rw [hp, decide_eq_true h]; rfl)]
theorem scanUp_stop {p : α → Bool} {d : Array α} {j i : Nat} (h : ¬ i ≤ j ∨ p d[i]! = false) : scanUp p d j i = i := by
  unfold scanUp
  rw [if_neg]
  rcases h with h | h
  · rw [decide_eq_false h]; simp
  · rw [h]; simp
theorem scanDown_go {p : α → Bool} {d : Array α} {i j : Nat} (h0 : 0 < j) (h : i ≤ j) (hp : p d[j]! = true) : scanDown p d i j = scanDown p d i (j - 1) := by
  cases j with
  | zero => omega
  | succ j =>
    conv => lhs; unfold scanDown
    rw [if_pos (by rw [hp, decide_eq_true h]; rfl)]
    rfl
theorem scanDown_stop {p : α → Bool} {d : Array α} {i j : Nat} (h : ¬ i ≤ j ∨ p d[j]! = false) : scanDown p d i j = j := by
  cases j with
  | zero => rfl
  | succ j =>
    unfold scanDown
    rw [if_neg]
    rcases h with h | h
    · rw [decide_eq_false h]; simp
    · rw [h]; simp
/-- What partition answers. -/
def PartP (X : List Nat) (V : Array α → World → Prop) (r : Nat × Bool × Array α) (w : World) (e : Ending) (w1 : World) : Prop := e = .returned (.tuple #[.int .i64 (r.1 : Int), .bool r.2.1]) ∧ V r.2.2 w1 ∧ Fr X w w1
theorem partition_yes {d d1 : Array α} {a b pivot i j : Nat} (h1 : swp d a pivot = d1) (hu : scanUp (fun x => lt x d1[a]!) d1 (b - 1) (a + 1) = i) (hd : scanDown (fun x => !lt x d1[a]!) d1 i (b - 1) = j) (h : i > j) : partition lt d a b pivot = (j, true, swp d1 j a) := by
  subst h1 hu hd
  unfold partition
  exact if_pos h
theorem partition_no {d d1 : Array α} {a b pivot i j : Nat} (h1 : swp d a pivot = d1) (hu : scanUp (fun x => lt x d1[a]!) d1 (b - 1) (a + 1) = i) (hd : scanDown (fun x => !lt x d1[a]!) d1 i (b - 1) = j) (h : ¬ i > j) :
    partition lt d a b pivot = ((partLoop lt a (i + 1) (j - 1) (swp d1 i j)).1, false, swp (partLoop lt a (i + 1) (j - 1) (swp d1 i j)).2 (partLoop lt a (i + 1) (j - 1) (swp d1 i j)).1 a) := by
  subst h1 hu hd
  unfold partition
  exact if_neg h
theorem partLoop_end {d : Array α} {a i j i2 j2 : Nat} (hu : scanUp (fun x => lt x d[a]!) d j i = i2) (hd : scanDown (fun x => !lt x d[a]!) d i2 j = j2) (h : i2 > j2) : partLoop lt a i j d = (j2, d) := by
  rw [partLoop_eq, hu, hd, if_pos h]
theorem partLoop_go {d : Array α} {a i j i2 j2 : Nat} (hu : scanUp (fun x => lt x d[a]!) d j i = i2) (hd : scanDown (fun x => !lt x d[a]!) d i2 j = j2) (h : ¬ i2 > j2) : partLoop lt a i j d = partLoop lt a (i2 + 1) (j2 - 1) (swp d i2 j2) := by
  rw [partLoop_eq, hu, hd, if_neg h]
set_option maxHeartbeats 6400000 in
set_option maxRecDepth 100000 in
theorem svPart (h : SvM T rv gl gs lt N X V) (hN : N < 4611686018427387904) (a b pivot : Nat) (d : Array α) (w : World) (hd : d.size = N) (hV : V d w) (hab : a ≤ pivot) (hpb : pivot < b) (hb : b ≤ N) :
    Calls Tryz.prog 105 #[.iface T rv, .int .i64 (a : Int), .int .i64 (b : Int), .int .i64 (pivot : Int)] w (PartP X V (partition lt d a b pivot) w) := by
  have mL := h.mL
  have mS := h.mS
  simp [go_sem] at mL mS
  have eL := h.eL
  have eS := h.eS
  have H := Lib.hid h
  have HV0 := Lib.hid hV
  have HD := Lib.hid hd
  have HF0 : Hid (Fr X w w) := Fr.refl _ _
  obtain ⟨d1, hd1⟩ : ∃ d1, swp d a pivot = d1 := ⟨_, rfl⟩
  have HD1 := Lib.hid hd1
  have HS1 : Hid (d1.size = N) := by show _ = _; rw [← hd1, size_swp]; exact hd
  have hj1 := sub1 (j := b) (by omega)
  have ha1 : ((a + 1 : Nat) : Int) = (a : Int) + 1 := by omega
  obtain ⟨j0, hj0⟩ : ∃ j0, b - 1 = j0 := ⟨_, rfl⟩
  have HJ0 := Lib.hid hj0
  have hjb : (b : Int) - 1 = (j0 : Int) := by omega
  have hjb2 : j0 + 1 = b := by omega
  clear h hV hd hd1 hj0 hj1
  have HSW0 := Lib.hid (H.out.swap d w HD.out HV0.out a pivot (by omega) (by omega))
  go_enter Tryz.func105, Tryz.ntmps105
  go_wp2_with fail
  refine HSW0.out.mono ?_
  rintro e w1 ⟨rfl, hv, hf⟩
  rw [HD1.out] at hv
  have HV1 := Lib.hid hv
  have HF1 := Lib.hid hf
  clear hv hf
  go_upto_block 0 with fail
  go_cut [10] (fun v wx => ∃ i2 : Nat, v = .int .i64 (i2 : Int) ∧ scanUp (fun x => lt x d1[a]!) d1 j0 (a + 1) = i2 ∧ (a + 1) ≤ i2 ∧ (i2 ≤ j0 + 1 ∨ i2 = (a + 1)) ∧ V d1 wx ∧ Fr X w wx)
  case first =>
    go_wp2_with fail
    go_loopw [10] (fun vi wx => ∃ i2 : Nat, vi = .int .i64 (i2 : Int) ∧ (a + 1) ≤ i2 ∧ (i2 ≤ j0 + 1 ∨ i2 = (a + 1)) ∧ V d1 wx ∧ Fr X w wx ∧ scanUp (fun x => lt x d1[a]!) d1 j0 i2 = scanUp (fun x => lt x d1[a]!) d1 j0 (a + 1)) (fun vi _ => j0 + 1 - (intOf vi).toNat)
    case atStart => exact ⟨(a + 1), rfl, Nat.le_refl _, .inr rfl, HV1.out, HF1.out, rfl⟩
    case round =>
      obtain ⟨i2, rfl, hi1, hi2, hv, hf, hO⟩ := hrel
      have HV := Lib.hid hv
      have HF := Lib.hid hf
      have HO := Lib.hid hO
      clear hv hf hO
      by_cases hle : i2 ≤ j0
      · have hle1 : (i2 : Int) ≤ (j0 : Int) := by omega
        have hl := H.out.less d1 wr HS1.out HV.out i2 a (by omega) (by omega)
        cases hlv : lt d1[i2]! d1[a]! with
        | true =>
          have HGO : Hid (scanUp (fun x => lt x d1[a]!) d1 j0 (i2 + 1) = scanUp (fun x => lt x d1[a]!) d1 j0 (a + 1)) := by
            show _ = _
            rw [← HO.out, scanUp_go hle (by simp [hlv])]
          rw [hlv] at hl
          have HL := Lib.hid hl
          clear hl hlv
          go_wp2_with fail
          refine HL.out.mono ?_
          rintro e w1 ⟨rfl, h1⟩
          have HV1 := Lib.hid (H.out.st0 HV.out h1)
          have HF1 := Lib.hid (HF.out.trans0 h1)
          clear h1
          go_wp2
          go_roundw
          case rel => exact ⟨i2 + 1, by go_num, by omega, .inl (by omega), HV1.out, HF1.out, HGO.out⟩
          case measure => simp [intOf] <;> omega
        | false =>
          have HSU : Hid (scanUp (fun x => lt x d1[a]!) d1 j0 (a + 1) = i2) := by
            show _ = _
            rw [← HO.out, scanUp_stop (.inr (by simp [hlv]))]
          rw [hlv] at hl
          have HL := Lib.hid hl
          clear hl hlv
          go_wp2_with fail
          refine HL.out.mono ?_
          rintro e w1 ⟨rfl, h1⟩
          have HV1 := Lib.hid (H.out.st0 HV.out h1)
          have HF1 := Lib.hid (HF.out.trans0 h1)
          clear h1
          go_wp2
          go_meet
          exact ⟨i2, rfl, HSU.out, hi1, hi2, HV1.out, HF1.out⟩
      · have hle1 : ¬ (i2 : Int) ≤ (j0 : Int) := by omega
        have HSU : Hid (scanUp (fun x => lt x d1[a]!) d1 j0 (a + 1) = i2) := by
          show _ = _
          rw [← HO.out, scanUp_stop (.inl hle)]
        go_wp2
        go_meet
        exact ⟨i2, rfl, HSU.out, hi1, hi2, HV.out, HF.out⟩
  case rest =>
    obtain ⟨i2, rfl, hsu2, hb2, hc2, hv, hf⟩ := hcut
    have HS2U := Lib.hid hsu2
    have HV2 := Lib.hid hv
    have HF2 := Lib.hid hf
    clear hsu2 hv hf
    go_upto_block 2 with fail
    go_cut [11] (fun v wx => ∃ j2 : Nat, v = .int .i64 (j2 : Int) ∧ scanDown (fun x => !lt x d1[a]!) d1 i2 j0 = j2 ∧ j2 ≤ j0 ∧ (i2 ≤ j2 + 1 ∨ j2 = j0) ∧ V d1 wx ∧ Fr X w wx)
    case first =>
      go_wp2_with fail
      go_loopw [11] (fun vi wx => ∃ j2 : Nat, vi = .int .i64 (j2 : Int) ∧ j2 ≤ j0 ∧ (i2 ≤ j2 + 1 ∨ j2 = j0) ∧ V d1 wx ∧ Fr X w wx ∧ scanDown (fun x => !lt x d1[a]!) d1 i2 j2 = scanDown (fun x => !lt x d1[a]!) d1 i2 j0) (fun vi _ => (intOf vi).toNat)
      case atStart => exact ⟨j0, rfl, Nat.le_refl _, .inr rfl, HV2.out, HF2.out, rfl⟩
      case round =>
        obtain ⟨j2, rfl, hi1, hi2, hv, hf, hO⟩ := hrel
        have HV := Lib.hid hv
        have HF := Lib.hid hf
        have HO := Lib.hid hO
        clear hv hf hO
        by_cases hle : i2 ≤ j2
        · have hle1 : (i2 : Int) ≤ (j2 : Int) := by omega
          have hl := H.out.less d1 wr HS1.out HV.out j2 a (by omega) (by omega)
          cases hlv : lt d1[j2]! d1[a]! with
          | false =>
            have HGO : Hid (scanDown (fun x => !lt x d1[a]!) d1 i2 (j2 - 1) = scanDown (fun x => !lt x d1[a]!) d1 i2 j0) := by
              show _ = _
              rw [← HO.out, scanDown_go (by omega) hle (by simp [hlv])]
            rw [hlv] at hl
            have HL := Lib.hid hl
            clear hl hlv
            go_wp2_with fail
            refine HL.out.mono ?_
            rintro e w1 ⟨rfl, h1⟩
            have HV1 := Lib.hid (H.out.st0 HV.out h1)
            have HF1 := Lib.hid (HF.out.trans0 h1)
            clear h1
            go_wp2
            go_roundw
            case rel => exact ⟨j2 - 1, by rw [sub1 (by omega)], by omega, .inl (by omega), HV1.out, HF1.out, HGO.out⟩
            case measure => simp [intOf] <;> omega
          | true =>
            have HSU : Hid (scanDown (fun x => !lt x d1[a]!) d1 i2 j0 = j2) := by
              show _ = _
              rw [← HO.out, scanDown_stop (.inr (by simp [hlv]))]
            rw [hlv] at hl
            have HL := Lib.hid hl
            clear hl hlv
            go_wp2_with fail
            refine HL.out.mono ?_
            rintro e w1 ⟨rfl, h1⟩
            have HV1 := Lib.hid (H.out.st0 HV.out h1)
            have HF1 := Lib.hid (HF.out.trans0 h1)
            clear h1
            go_wp2
            go_meet
            exact ⟨j2, rfl, HSU.out, hi1, hi2, HV1.out, HF1.out⟩
        · have hle1 : ¬ (i2 : Int) ≤ (j2 : Int) := by omega
          have HSU : Hid (scanDown (fun x => !lt x d1[a]!) d1 i2 j0 = j2) := by
            show _ = _
            rw [← HO.out, scanDown_stop (.inl hle)]
          go_wp2
          go_meet
          exact ⟨j2, rfl, HSU.out, hi1, hi2, HV.out, HF.out⟩
    case rest =>
      obtain ⟨j2, rfl, hsu3, hb3, hc3, hv, hf⟩ := hcut
      have HS3U := Lib.hid hsu3
      have HV3 := Lib.hid hv
      have HF3 := Lib.hid hf
      clear hsu3 hv hf
      by_cases hij : i2 > j2
      · have hij1 : (j2 : Int) < (i2 : Int) := by omega
        have hsw := H.out.swap d1 _ HS1.out HV3.out j2 a (by omega) (by omega)
        have HSW := Lib.hid hsw
        clear hsw
        go_wp2_with fail
        refine HSW.out.mono ?_
        rintro e w4 ⟨rfl, hv, hf⟩
        have HV4 := Lib.hid hv
        have HF4 := Lib.hid (HF3.out.transS hf)
        clear hv hf

        have HE : Hid (partition lt d a b pivot = (j2, true, swp d1 j2 a)) := partition_yes HD1.out (by rw [HJ0.out]; exact HS2U.out) (by rw [HJ0.out]; exact HS3U.out) hij
        go_wp2
        go_ret2
        refine ⟨?_, ?_, HF4.out⟩
        · (rw [HE.out]; try rfl)
        · rw [HE.out]
          exact HV4.out
      · have hij1 : ¬ (j2 : Int) < (i2 : Int) := by omega
        have HE : Hid (partition lt d a b pivot = ((partLoop lt a (i2 + 1) (j2 - 1) (swp d1 i2 j2)).1, false, swp (partLoop lt a (i2 + 1) (j2 - 1) (swp d1 i2 j2)).2 (partLoop lt a (i2 + 1) (j2 - 1) (swp d1 i2 j2)).1 a)) := partition_no HD1.out (by rw [HJ0.out]; exact HS2U.out) (by rw [HJ0.out]; exact HS3U.out) hij
        have hsw := H.out.swap d1 _ HS1.out HV3.out i2 j2 (by omega) (by omega)
        have HSW := Lib.hid hsw
        clear hsw
        go_wp2_with fail
        refine HSW.out.mono ?_
        rintro e w4 ⟨rfl, hv, hf⟩
        have HV4 := Lib.hid hv
        have HF4 := Lib.hid (HF3.out.transS hf)
        clear hv hf

        obtain ⟨d2, hd2⟩ : ∃ d2, swp d1 i2 j2 = d2 := ⟨_, rfl⟩
        have HS2 : Hid (d2.size = N) := by show _ = _; rw [← hd2, size_swp]; exact HS1.out
        rw [hd2] at HE HV4
        obtain ⟨ia, hia⟩ : ∃ ia, i2 + 1 = ia := ⟨_, rfl⟩
        obtain ⟨ja, hja⟩ : ∃ ja, j2 - 1 = ja := ⟨_, rfl⟩
        have hia1 : (i2 : Int) + 1 = (ia : Int) := by omega
        have hja1 : (j2 : Int) - 1 = (ja : Int) := by omega
        rw [hia, hja] at HE
        have hbd : a < ia ∧ ia ≤ ja + 2 ∧ ja < b := by omega
        clear hd2 hij1 hij HS2U HS3U
        go_wp2_with fail
        go_loopw [10, 11] (fun vi vj wr => ∃ (i j : Nat) (dk : Array α), vi = .int .i64 (i : Int) ∧ vj = .int .i64 (j : Int) ∧ a < i ∧ i ≤ j + 2 ∧ j < b ∧ dk.size = N ∧ V dk wr ∧ Fr X w wr ∧ partLoop lt a i j dk = partLoop lt a ia ja d2) (fun vi vj _ => (intOf vj + 1 - intOf vi).toNat)
        case atStart => exact ⟨ia, ja, d2, by first | rfl | (rw [hia1]), by first | rfl | (rw [hja1]), hbd.1, hbd.2.1, hbd.2.2, HS2.out, HV4.out, HF4.out, rfl⟩
        case round =>
          clear hia1 hja1 hia hja hbd hb2 hc2 hb3 hc3
          obtain ⟨i, j, dk, rfl, rfl, hai, hij, hjb, hsk, hv, hf, hO⟩ := hrel
          have HSK := Lib.hid hsk
          have HV5 := Lib.hid hv
          have HF5 := Lib.hid hf
          have HO := Lib.hid hO
          clear hsk hv hf hO
          go_upto_block 6 with fail
          go_cut [10] (fun v wx => ∃ i2 : Nat, v = .int .i64 (i2 : Int) ∧ scanUp (fun x => lt x dk[a]!) dk j i = i2 ∧ i ≤ i2 ∧ (i2 ≤ j + 1 ∨ i2 = i) ∧ V dk wx ∧ Fr X w wx)
          case first =>
            go_wp2_with fail
            go_loopw [10] (fun vi wx => ∃ i2 : Nat, vi = .int .i64 (i2 : Int) ∧ i ≤ i2 ∧ (i2 ≤ j + 1 ∨ i2 = i) ∧ V dk wx ∧ Fr X w wx ∧ scanUp (fun x => lt x dk[a]!) dk j i2 = scanUp (fun x => lt x dk[a]!) dk j i) (fun vi _ => j + 1 - (intOf vi).toNat)
            case atStart => exact ⟨i, rfl, Nat.le_refl _, .inr rfl, HV5.out, HF5.out, rfl⟩
            case round =>
              obtain ⟨i2, rfl, hi1, hi2, hv, hf, hO⟩ := hrel
              have HV := Lib.hid hv
              have HF := Lib.hid hf
              have HO := Lib.hid hO
              clear hv hf hO
              by_cases hle : i2 ≤ j
              · have hle1 : (i2 : Int) ≤ (j : Int) := by omega
                have hl := H.out.less dk wr HSK.out HV.out i2 a (by omega) (by omega)
                cases hlv : lt dk[i2]! dk[a]! with
                | true =>
                  have HGO : Hid (scanUp (fun x => lt x dk[a]!) dk j (i2 + 1) = scanUp (fun x => lt x dk[a]!) dk j i) := by
                    show _ = _
                    rw [← HO.out, scanUp_go hle (by simp [hlv])]
                  rw [hlv] at hl
                  have HL := Lib.hid hl
                  clear hl hlv
                  go_wp2_with fail
                  refine HL.out.mono ?_
                  rintro e w1 ⟨rfl, h1⟩
                  have HV1 := Lib.hid (H.out.st0 HV.out h1)
                  have HF1 := Lib.hid (HF.out.trans0 h1)
                  clear h1
                  go_wp2
                  go_roundw
                  case rel => exact ⟨i2 + 1, by go_num, by omega, .inl (by omega), HV1.out, HF1.out, HGO.out⟩
                  case measure => simp [intOf] <;> omega
                | false =>
                  have HSU : Hid (scanUp (fun x => lt x dk[a]!) dk j i = i2) := by
                    show _ = _
                    rw [← HO.out, scanUp_stop (.inr (by simp [hlv]))]
                  rw [hlv] at hl
                  have HL := Lib.hid hl
                  clear hl hlv
                  go_wp2_with fail
                  refine HL.out.mono ?_
                  rintro e w1 ⟨rfl, h1⟩
                  have HV1 := Lib.hid (H.out.st0 HV.out h1)
                  have HF1 := Lib.hid (HF.out.trans0 h1)
                  clear h1
                  go_wp2
                  go_meet
                  exact ⟨i2, rfl, HSU.out, hi1, hi2, HV1.out, HF1.out⟩
              · have hle1 : ¬ (i2 : Int) ≤ (j : Int) := by omega
                have HSU : Hid (scanUp (fun x => lt x dk[a]!) dk j i = i2) := by
                  show _ = _
                  rw [← HO.out, scanUp_stop (.inl hle)]
                go_wp2
                go_meet
                exact ⟨i2, rfl, HSU.out, hi1, hi2, HV.out, HF.out⟩
          case rest =>
            obtain ⟨i2, rfl, hsu6, hb6, hc6, hv, hf⟩ := hcut
            have HS6U := Lib.hid hsu6
            have HV6 := Lib.hid hv
            have HF6 := Lib.hid hf
            clear hsu6 hv hf
            go_upto_block 8 with fail
            go_cut [11] (fun v wx => ∃ j2 : Nat, v = .int .i64 (j2 : Int) ∧ scanDown (fun x => !lt x dk[a]!) dk i2 j = j2 ∧ j2 ≤ j ∧ (i2 ≤ j2 + 1 ∨ j2 = j) ∧ V dk wx ∧ Fr X w wx)
            case first =>
              go_wp2_with fail
              go_loopw [11] (fun vi wx => ∃ j2 : Nat, vi = .int .i64 (j2 : Int) ∧ j2 ≤ j ∧ (i2 ≤ j2 + 1 ∨ j2 = j) ∧ V dk wx ∧ Fr X w wx ∧ scanDown (fun x => !lt x dk[a]!) dk i2 j2 = scanDown (fun x => !lt x dk[a]!) dk i2 j) (fun vi _ => (intOf vi).toNat)
              case atStart => exact ⟨j, rfl, Nat.le_refl _, .inr rfl, HV6.out, HF6.out, rfl⟩
              case round =>
                obtain ⟨j2, rfl, hi1, hi2, hv, hf, hO⟩ := hrel
                have HV := Lib.hid hv
                have HF := Lib.hid hf
                have HO := Lib.hid hO
                clear hv hf hO
                by_cases hle : i2 ≤ j2
                · have hle1 : (i2 : Int) ≤ (j2 : Int) := by omega
                  have hl := H.out.less dk wr HSK.out HV.out j2 a (by omega) (by omega)
                  cases hlv : lt dk[j2]! dk[a]! with
                  | false =>
                    have HGO : Hid (scanDown (fun x => !lt x dk[a]!) dk i2 (j2 - 1) = scanDown (fun x => !lt x dk[a]!) dk i2 j) := by
                      show _ = _
                      rw [← HO.out, scanDown_go (by omega) hle (by simp [hlv])]
                    rw [hlv] at hl
                    have HL := Lib.hid hl
                    clear hl hlv
                    go_wp2_with fail
                    refine HL.out.mono ?_
                    rintro e w1 ⟨rfl, h1⟩
                    have HV1 := Lib.hid (H.out.st0 HV.out h1)
                    have HF1 := Lib.hid (HF.out.trans0 h1)
                    clear h1
                    go_wp2
                    go_roundw
                    case rel => exact ⟨j2 - 1, by rw [sub1 (by omega)], by omega, .inl (by omega), HV1.out, HF1.out, HGO.out⟩
                    case measure => simp [intOf] <;> omega
                  | true =>
                    have HSU : Hid (scanDown (fun x => !lt x dk[a]!) dk i2 j = j2) := by
                      show _ = _
                      rw [← HO.out, scanDown_stop (.inr (by simp [hlv]))]
                    rw [hlv] at hl
                    have HL := Lib.hid hl
                    clear hl hlv
                    go_wp2_with fail
                    refine HL.out.mono ?_
                    rintro e w1 ⟨rfl, h1⟩
                    have HV1 := Lib.hid (H.out.st0 HV.out h1)
                    have HF1 := Lib.hid (HF.out.trans0 h1)
                    clear h1
                    go_wp2
                    go_meet
                    exact ⟨j2, rfl, HSU.out, hi1, hi2, HV1.out, HF1.out⟩
                · have hle1 : ¬ (i2 : Int) ≤ (j2 : Int) := by omega
                  have HSU : Hid (scanDown (fun x => !lt x dk[a]!) dk i2 j = j2) := by
                    show _ = _
                    rw [← HO.out, scanDown_stop (.inl hle)]
                  go_wp2
                  go_meet
                  exact ⟨j2, rfl, HSU.out, hi1, hi2, HV.out, HF.out⟩
            case rest =>
              obtain ⟨j2, rfl, hsu7, hb7, hc7, hv, hf⟩ := hcut
              have HS7U := Lib.hid hsu7
              have HV7 := Lib.hid hv
              have HF7 := Lib.hid hf
              clear hsu7 hv hf
              by_cases hij : i2 > j2
              · have hij1 : (j2 : Int) < (i2 : Int) := by omega
                have HE2 : Hid (partition lt d a b pivot = (j2, false, swp dk j2 a)) := by
                  show _ = _
                  rw [HE.out, ← HO.out, partLoop_end HS6U.out HS7U.out hij]
                have hsw := H.out.swap dk _ HSK.out HV7.out j2 a (by omega) (by omega)
                have HSW := Lib.hid hsw
                clear hsw
                go_wp2_with fail
                refine HSW.out.mono ?_
                rintro e w8 ⟨rfl, hv, hf⟩
                have HV8 := Lib.hid hv
                have HF8 := Lib.hid (HF7.out.transS hf)
                clear hv hf

                go_wp2
                go_ret2
                refine ⟨?_, ?_, HF8.out⟩
                · (rw [HE2.out]; try rfl)
                · rw [HE2.out]
                  exact HV8.out
              · have hij1 : ¬ (j2 : Int) < (i2 : Int) := by omega
                have HGO : Hid (partLoop lt a (i2 + 1) (j2 - 1) (swp dk i2 j2) = partLoop lt a ia ja d2) := by
                  show _ = _
                  rw [← HO.out, partLoop_go HS6U.out HS7U.out hij]
                have hj2 : 0 < j2 := by omega
                have hsw := H.out.swap dk _ HSK.out HV7.out i2 j2 (by omega) (by omega)
                have HSW := Lib.hid hsw
                clear hsw
                go_wp2_with fail
                refine HSW.out.mono ?_
                rintro e w8 ⟨rfl, hv, hf⟩
                have HV8 := Lib.hid hv
                have HF8 := Lib.hid (HF7.out.transS hf)
                clear hv hf

                go_wp2
                go_roundw
                case rel => exact ⟨i2 + 1, j2 - 1, _, by go_num, by rw [sub1 hj2], by omega, by omega, by omega, by rw [size_swp]; exact HSK.out, HV8.out, HF8.out, HGO.out⟩
                case measure => simp [intOf] <;> omega
/-- What partitionEqual answers. -/
def PartEP (X : List Nat) (V : Array α → World → Prop) (r : Nat × Array α) (w : World) (e : Ending) (w1 : World) : Prop := e = .returned (.int .i64 (r.1 : Int)) ∧ V r.2 w1 ∧ Fr X w w1
theorem partEqLoop_end {d : Array α} {a i j i2 j2 : Nat} (hu : scanUp (fun x => !lt d[a]! x) d j i = i2) (hd : scanDown (fun x => lt d[a]! x) d i2 j = j2) (h : i2 > j2) : partEqLoop lt a i j d = (i2, d) := by
  rw [partEqLoop_eq, hu, hd, if_pos h]
theorem partEqLoop_go {d : Array α} {a i j i2 j2 : Nat} (hu : scanUp (fun x => !lt d[a]! x) d j i = i2) (hd : scanDown (fun x => lt d[a]! x) d i2 j = j2) (h : ¬ i2 > j2) : partEqLoop lt a i j d = partEqLoop lt a (i2 + 1) (j2 - 1) (swp d i2 j2) := by
  rw [partEqLoop_eq, hu, hd, if_neg h]
set_option maxHeartbeats 6400000 in
set_option maxRecDepth 100000 in
theorem svPartEq (h : SvM T rv gl gs lt N X V) (hN : N < 4611686018427387904) (a b pivot : Nat) (d : Array α) (w : World) (hd : d.size = N) (hV : V d w) (hab : a ≤ pivot) (hpb : pivot < b) (hb : b ≤ N) :
    Calls Tryz.prog 104 #[.iface T rv, .int .i64 (a : Int), .int .i64 (b : Int), .int .i64 (pivot : Int)] w (PartEP X V (partitionEqual lt d a b pivot) w) := by
  have mL := h.mL
  have mS := h.mS
  simp [go_sem] at mL mS
  have eL := h.eL
  have eS := h.eS
  have H := Lib.hid h
  have HV0 := Lib.hid hV
  have HD := Lib.hid hd
  have HF0 : Hid (Fr X w w) := Fr.refl _ _
  obtain ⟨d1, hd1⟩ : ∃ d1, swp d a pivot = d1 := ⟨_, rfl⟩
  have HD1 := Lib.hid hd1
  have HS1 : Hid (d1.size = N) := by show _ = _; rw [← hd1, size_swp]; exact hd
  have hj1 := sub1 (j := b) (by omega)
  have ha1 : ((a + 1 : Nat) : Int) = (a : Int) + 1 := by omega
  obtain ⟨j0, hj0⟩ : ∃ j0, b - 1 = j0 := ⟨_, rfl⟩
  have HJ0 := Lib.hid hj0
  have hjb : (b : Int) - 1 = (j0 : Int) := by omega
  have hjb2 : j0 + 1 = b := by omega
  clear h hV hd hd1 hj0 hj1
  have HSW0 := Lib.hid (H.out.swap d w HD.out HV0.out a pivot (by omega) (by omega))
  have HE : Hid (partitionEqual lt d a b pivot = partEqLoop lt a (a + 1) j0 d1) := by
    show _ = _
    unfold partitionEqual
    rw [HD1.out, HJ0.out]
  go_enter Tryz.func104, Tryz.ntmps104
  go_wp2_with fail
  refine HSW0.out.mono ?_
  rintro e w1 ⟨rfl, hv, hf⟩
  rw [HD1.out] at hv
  have HV1 := Lib.hid hv
  have HF1 := Lib.hid hf
  clear hv hf
  go_wp2_with fail
  go_loopw [9, 10] (fun vi vj wr => ∃ (i j : Nat) (dk : Array α), vi = .int .i64 (i : Int) ∧ vj = .int .i64 (j : Int) ∧ a < i ∧ i ≤ j + 2 ∧ j < b ∧ dk.size = N ∧ V dk wr ∧ Fr X w wr ∧ partEqLoop lt a i j dk = partEqLoop lt a (a + 1) j0 d1) (fun vi vj _ => (intOf vj + 1 - intOf vi).toNat)
  case atStart => exact ⟨a + 1, j0, d1, by go_num, rfl, by omega, by omega, by omega, HS1.out, HV1.out, HF1.out, rfl⟩
  case round =>
    clear hjb ha1
    obtain ⟨i, j, dk, rfl, rfl, hai, hij, hjb, hsk, hv, hf, hO⟩ := hrel
    have HSK := Lib.hid hsk
    have HV5 := Lib.hid hv
    have HF5 := Lib.hid hf
    have HO := Lib.hid hO
    clear hsk hv hf hO
    go_upto_block 2 with fail
    go_cut [9] (fun v wx => ∃ i2 : Nat, v = .int .i64 (i2 : Int) ∧ scanUp (fun x => !lt dk[a]! x) dk j i = i2 ∧ i ≤ i2 ∧ (i2 ≤ j + 1 ∨ i2 = i) ∧ V dk wx ∧ Fr X w wx)
    case first =>
      go_wp2_with fail
      go_loopw [9] (fun vi wx => ∃ i2 : Nat, vi = .int .i64 (i2 : Int) ∧ i ≤ i2 ∧ (i2 ≤ j + 1 ∨ i2 = i) ∧ V dk wx ∧ Fr X w wx ∧ scanUp (fun x => !lt dk[a]! x) dk j i2 = scanUp (fun x => !lt dk[a]! x) dk j i) (fun vi _ => j + 1 - (intOf vi).toNat)
      case atStart => exact ⟨i, rfl, Nat.le_refl _, .inr rfl, HV5.out, HF5.out, rfl⟩
      case round =>
        obtain ⟨i2, rfl, hi1, hi2, hv, hf, hO⟩ := hrel
        have HV := Lib.hid hv
        have HF := Lib.hid hf
        have HO := Lib.hid hO
        clear hv hf hO
        by_cases hle : i2 ≤ j
        · have hle1 : (i2 : Int) ≤ (j : Int) := by omega
          have hl := H.out.less dk wr HSK.out HV.out a i2 (by omega) (by omega)
          cases hlv : lt dk[a]! dk[i2]! with
          | false =>
            have HGO : Hid (scanUp (fun x => !lt dk[a]! x) dk j (i2 + 1) = scanUp (fun x => !lt dk[a]! x) dk j i) := by
              show _ = _
              rw [← HO.out, scanUp_go hle (by simp [hlv])]
            rw [hlv] at hl
            have HL := Lib.hid hl
            clear hl hlv
            go_wp2_with fail
            refine HL.out.mono ?_
            rintro e w1 ⟨rfl, h1⟩
            have HV1 := Lib.hid (H.out.st0 HV.out h1)
            have HF1 := Lib.hid (HF.out.trans0 h1)
            clear h1
            go_wp2
            go_roundw
            case rel => exact ⟨i2 + 1, by go_num, by omega, .inl (by omega), HV1.out, HF1.out, HGO.out⟩
            case measure => simp [intOf] <;> omega
          | true =>
            have HSU : Hid (scanUp (fun x => !lt dk[a]! x) dk j i = i2) := by
              show _ = _
              rw [← HO.out, scanUp_stop (.inr (by simp [hlv]))]
            rw [hlv] at hl
            have HL := Lib.hid hl
            clear hl hlv
            go_wp2_with fail
            refine HL.out.mono ?_
            rintro e w1 ⟨rfl, h1⟩
            have HV1 := Lib.hid (H.out.st0 HV.out h1)
            have HF1 := Lib.hid (HF.out.trans0 h1)
            clear h1
            go_wp2
            go_meet
            exact ⟨i2, rfl, HSU.out, hi1, hi2, HV1.out, HF1.out⟩
        · have hle1 : ¬ (i2 : Int) ≤ (j : Int) := by omega
          have HSU : Hid (scanUp (fun x => !lt dk[a]! x) dk j i = i2) := by
            show _ = _
            rw [← HO.out, scanUp_stop (.inl hle)]
          go_wp2
          go_meet
          exact ⟨i2, rfl, HSU.out, hi1, hi2, HV.out, HF.out⟩
    case rest =>
      obtain ⟨i2, rfl, hsu6, hb6, hc6, hv, hf⟩ := hcut
      have HS6U := Lib.hid hsu6
      have HV6 := Lib.hid hv
      have HF6 := Lib.hid hf
      clear hsu6 hv hf
      go_upto_block 4 with fail
      go_cut [10] (fun v wx => ∃ j2 : Nat, v = .int .i64 (j2 : Int) ∧ scanDown (fun x => lt dk[a]! x) dk i2 j = j2 ∧ j2 ≤ j ∧ (i2 ≤ j2 + 1 ∨ j2 = j) ∧ V dk wx ∧ Fr X w wx)
      case first =>
        go_wp2_with fail
        go_loopw [10] (fun vi wx => ∃ j2 : Nat, vi = .int .i64 (j2 : Int) ∧ j2 ≤ j ∧ (i2 ≤ j2 + 1 ∨ j2 = j) ∧ V dk wx ∧ Fr X w wx ∧ scanDown (fun x => lt dk[a]! x) dk i2 j2 = scanDown (fun x => lt dk[a]! x) dk i2 j) (fun vi _ => (intOf vi).toNat)
        case atStart => exact ⟨j, rfl, Nat.le_refl _, .inr rfl, HV6.out, HF6.out, rfl⟩
        case round =>
          obtain ⟨j2, rfl, hi1, hi2, hv, hf, hO⟩ := hrel
          have HV := Lib.hid hv
          have HF := Lib.hid hf
          have HO := Lib.hid hO
          clear hv hf hO
          by_cases hle : i2 ≤ j2
          · have hle1 : (i2 : Int) ≤ (j2 : Int) := by omega
            have hl := H.out.less dk wr HSK.out HV.out a j2 (by omega) (by omega)
            cases hlv : lt dk[a]! dk[j2]! with
            | true =>
              have HGO : Hid (scanDown (fun x => lt dk[a]! x) dk i2 (j2 - 1) = scanDown (fun x => lt dk[a]! x) dk i2 j) := by
                show _ = _
                rw [← HO.out, scanDown_go (by omega) hle (by simp [hlv])]
              rw [hlv] at hl
              have HL := Lib.hid hl
              clear hl hlv
              go_wp2_with fail
              refine HL.out.mono ?_
              rintro e w1 ⟨rfl, h1⟩
              have HV1 := Lib.hid (H.out.st0 HV.out h1)
              have HF1 := Lib.hid (HF.out.trans0 h1)
              clear h1
              go_wp2
              go_roundw
              case rel => exact ⟨j2 - 1, by rw [sub1 (by omega)], by omega, .inl (by omega), HV1.out, HF1.out, HGO.out⟩
              case measure => simp [intOf] <;> omega
            | false =>
              have HSU : Hid (scanDown (fun x => lt dk[a]! x) dk i2 j = j2) := by
                show _ = _
                rw [← HO.out, scanDown_stop (.inr (by simp [hlv]))]
              rw [hlv] at hl
              have HL := Lib.hid hl
              clear hl hlv
              go_wp2_with fail
              refine HL.out.mono ?_
              rintro e w1 ⟨rfl, h1⟩
              have HV1 := Lib.hid (H.out.st0 HV.out h1)
              have HF1 := Lib.hid (HF.out.trans0 h1)
              clear h1
              go_wp2
              go_meet
              exact ⟨j2, rfl, HSU.out, hi1, hi2, HV1.out, HF1.out⟩
          · have hle1 : ¬ (i2 : Int) ≤ (j2 : Int) := by omega
            have HSU : Hid (scanDown (fun x => lt dk[a]! x) dk i2 j = j2) := by
              show _ = _
              rw [← HO.out, scanDown_stop (.inl hle)]
            go_wp2
            go_meet
            exact ⟨j2, rfl, HSU.out, hi1, hi2, HV.out, HF.out⟩
      case rest =>
        obtain ⟨j2, rfl, hsu7, hb7, hc7, hv, hf⟩ := hcut
        have HS7U := Lib.hid hsu7
        have HV7 := Lib.hid hv
        have HF7 := Lib.hid hf
        clear hsu7 hv hf
        by_cases hij : i2 > j2
        · have hij1 : (j2 : Int) < (i2 : Int) := by omega
          have HE2 : Hid (partitionEqual lt d a b pivot = (i2, dk)) := by
            show _ = _
            rw [HE.out, ← HO.out, partEqLoop_end HS6U.out HS7U.out hij]
          go_wp2
          go_ret
          refine ⟨?_, ?_, HF7.out⟩
          · (rw [HE2.out]; try rfl)
          · rw [HE2.out]
            exact HV7.out
        · have hij1 : ¬ (j2 : Int) < (i2 : Int) := by omega
          have HGO : Hid (partEqLoop lt a (i2 + 1) (j2 - 1) (swp dk i2 j2) = partEqLoop lt a (a + 1) j0 d1) := by
            show _ = _
            rw [← HO.out, partEqLoop_go HS6U.out HS7U.out hij]
          have hj2 : 0 < j2 := by omega
          have hsw := H.out.swap dk _ HSK.out HV7.out i2 j2 (by omega) (by omega)
          have HSW := Lib.hid hsw
          clear hsw
          go_wp2_with fail
          refine HSW.out.mono ?_
          rintro e w8 ⟨rfl, hv, hf⟩
          have HV8 := Lib.hid hv
          have HF8 := Lib.hid (HF7.out.transS hf)
          clear hv hf

          go_wp2
          go_roundw
          case rel => exact ⟨i2 + 1, j2 - 1, _, by go_num, by rw [sub1 hj2], by omega, by omega, by omega, by rw [size_swp]; exact HSK.out, HV8.out, HF8.out, HGO.out⟩
          case measure => simp [intOf] <;> omega
end
end
end Go.Proofs.YtdlpbpohbkcafaaGreat
