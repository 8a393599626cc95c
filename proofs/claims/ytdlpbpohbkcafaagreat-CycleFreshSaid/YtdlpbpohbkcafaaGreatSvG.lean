/-
  sort.partialInsertionSort.
  sort.pdqsort, sort.Sort.
-/
import Derived.Test.YtdlpbpohbkcafaaGreatSvA
import Derived.Deep.CutBlock
import Derived.Test.YtdlpbpohbkcafaaGreatSvE
namespace Go.Proofs.YtdlpbpohbkcafaaGreat
section
open Go.RowKit Go.Sort

section
variable {α : Type} [Inhabited α] {T : TypeId} {rv : Value} {gl gs : Nat} {lt : α → α → Bool} {N : Nat} {X : List Nat} {V : Array α → World → Prop}
theorem scanS_go {d : Array α} {b i : Nat} (h : i < b) (hl : lt d[i]! d[i - 1]! = false) : scanSorted lt d b i = scanSorted lt d b (i + 1) := by
  conv => lhs; unfold scanSorted
  rw [if_pos (by rw [hl, decide_eq_true h]; rfl)]
theorem scanS_stop {d : Array α} {b i : Nat} (h : ¬ i < b ∨ lt d[i]! d[i - 1]! = true) : scanSorted lt d b i = i := by
  unfold scanSorted
  rw [if_neg]
  rcases h with h | h
  · rw [decide_eq_false h]; simp
  · rw [h]; simp
theorem shiftD_go {d : Array α} {j : Nat} (h : 0 < j) (hl : lt d[j]! d[j - 1]! = true) : shiftDown lt j d = shiftDown lt (j - 1) (swp d j (j - 1)) := by
  cases j with
  | zero => omega
  | succ j =>
    rw [Nat.add_sub_cancel] at hl ⊢
    conv => lhs; unfold shiftDown
    rw [hl]; rfl
theorem shiftD_stop {d : Array α} {j : Nat} (h : j = 0 ∨ lt d[j]! d[j - 1]! = false) : shiftDown lt j d = d := by
  cases j with
  | zero => rfl
  | succ j =>
    rcases h with h | h
    · omega
    · rw [Nat.add_sub_cancel] at h
      unfold shiftDown
      rw [h]; rfl
theorem shiftU_go {d : Array α} {b j : Nat} (h : j < b) (hl : lt d[j]! d[j - 1]! = true) : shiftUp lt b j d = shiftUp lt b (j + 1) (swp d j (j - 1)) := by
  conv => lhs; unfold shiftUp
  rw [if_pos h, hl]; rfl
theorem shiftU_stop {d : Array α} {b j : Nat} (h : ¬ j < b ∨ lt d[j]! d[j - 1]! = false) : shiftUp lt b j d = d := by
  unfold shiftUp
  rcases h with h | h
  · rw [if_neg h]
  · by_cases hj : j < b
    · rw [if_pos hj, h]; rfl
    · rw [if_neg hj]
theorem shiftD_size : ∀ (j : Nat) (d : Array α), (shiftDown lt j d).size = d.size
  | 0, _ => rfl
  | j + 1, d => by
    unfold shiftDown
    split
    · rfl
    · rw [shiftD_size j, size_swp]
theorem shiftU_size (b : Nat) : ∀ (n j : Nat) (d : Array α), b - j ≤ n → (shiftUp lt b j d).size = d.size
  | 0, j, d, h => by rw [shiftU_stop (.inl (by omega))]
  | n + 1, j, d, h => by
    unfold shiftUp
    split
    · split
      · rfl
      · rw [shiftU_size b n (j + 1) _ (by omega), size_swp]
    · rfl
theorem fixD_size (a i : Nat) (d : Array α) : (fixDown lt a i d).size = d.size := by
  unfold fixDown
  split
  · exact shiftD_size _ _
  · rfl
theorem fixU_size (b i : Nat) (d : Array α) : (fixUp lt b i d).size = d.size := by
  unfold fixUp
  split
  · exact shiftU_size b _ _ _ (Nat.le_refl _)
  · rfl
theorem partial_all {a b t i i2 : Nat} {d : Array α} (ht : t < 5) (hs : scanSorted lt d b i = i2) (h : i2 = b) : partialIns lt a b (5 - t) i d = (d, true) := by
  rw [show 5 - t = 4 - t + 1 by omega, partialIns_succ, hs, if_pos h]
theorem partial_few {a b t i i2 : Nat} {d : Array α} (ht : t < 5) (hs : scanSorted lt d b i = i2) (h : ¬ i2 = b) (h5 : b - a < 50) : partialIns lt a b (5 - t) i d = (d, false) := by
  rw [show 5 - t = 4 - t + 1 by omega, partialIns_succ, hs, if_neg h, if_pos h5]
theorem partial_go {a b t i i2 : Nat} {d : Array α} (ht : t < 5) (hs : scanSorted lt d b i = i2) (h : ¬ i2 = b) (h5 : ¬ b - a < 50) : partialIns lt a b (5 - t) i d = partialIns lt a b (5 - (t + 1)) i2 (fixUp lt b i2 (fixDown lt a i2 (swp d i2 (i2 - 1)))) := by
  rw [show 5 - t = 4 - t + 1 by omega, partialIns_succ, hs, if_neg h, if_neg h5, show 4 - t = 5 - (t + 1) by omega]
def PInsP (X : List Nat) (V : Array α → World → Prop) (r : Array α × Bool) (w : World) (e : Ending) (w1 : World) : Prop := e = .returned (.bool r.2) ∧ V r.1 w1 ∧ Fr X w w1
set_option maxHeartbeats 6400000 in
set_option maxRecDepth 100000 in
theorem svPIns (h : SvM T rv gl gs lt N X V) (hN : N < 4611686018427387904) (a b : Nat) (d : Array α) (w : World) (hd : d.size = N) (hV : V d w) (hab : a < b) (hb : b ≤ N) :
    Calls Tryz.prog 103 #[.iface T rv, .int .i64 (a : Int), .int .i64 (b : Int)] w (PInsP X V (partialInsertionSort lt d a b) w) := by
  have mL := h.mL
  have mS := h.mS
  simp [go_sem] at mL mS
  have eL := h.eL
  have eS := h.eS
  have H := Lib.hid h
  have HV0 := Lib.hid hV
  have HD := Lib.hid hd
  clear h hV hd
  go_enter Tryz.func103, Tryz.ntmps103
  go_wp2_with fail
  go_loopw [7, 8] (fun vi vj wr => ∃ (i t : Nat) (dk : Array α), vi = .int .i64 (i : Int) ∧ vj = .int .i64 (t : Int) ∧ t ≤ 5 ∧ a < i ∧ i ≤ b ∧ dk.size = N ∧ V dk wr ∧ Fr X w wr ∧ partialIns lt a b (5 - t) i dk = partialIns lt a b 5 (a + 1) d) (fun _ vj _ => (5 - intOf vj).toNat)
  case atStart => exact ⟨a + 1, 0, d, by go_num, rfl, by omega, by omega, by omega, HD.out, HV0.out, Fr.refl _ _, rfl⟩
  case round =>
    obtain ⟨i, t, dk, rfl, rfl, ht, hai, hib, hsk, hv, hf, hO⟩ := hrel
    have HSK := Lib.hid hsk
    have HV5 := Lib.hid hv
    have HF5 := Lib.hid hf
    have HO := Lib.hid hO
    clear hsk hv hf hO
    by_cases hlt : t < 5
    · have hlt1 : (t : Int) < 5 := by omega
      go_upto_block 2 with fail
      go_cut [7] (fun v wx => ∃ i2 : Nat, v = .int .i64 (i2 : Int) ∧ scanSorted lt dk b i = i2 ∧ i ≤ i2 ∧ i2 ≤ b ∧ V dk wx ∧ Fr X w wx)
      case first =>
        go_wp2_with fail
        go_loopw [7] (fun vi wx => ∃ i2 : Nat, vi = .int .i64 (i2 : Int) ∧ i ≤ i2 ∧ i2 ≤ b ∧ V dk wx ∧ Fr X w wx ∧ scanSorted lt dk b i2 = scanSorted lt dk b i) (fun vi _ => b - (intOf vi).toNat)
        case atStart => exact ⟨i, rfl, Nat.le_refl _, hib, HV5.out, HF5.out, rfl⟩
        case round =>
          obtain ⟨i2, rfl, hi1, hi2, hv, hf, hO⟩ := hrel
          have HV := Lib.hid hv
          have HF := Lib.hid hf
          have HOS := Lib.hid hO
          clear hv hf hO
          by_cases hle : i2 < b
          · have hle1 : (i2 : Int) < (b : Int) := by omega
            have hl := H.out.less dk wr HSK.out HV.out i2 (i2 - 1) (by omega) (by omega)
            rw [sub1 (by omega)] at hl
            cases hlv : lt dk[i2]! dk[i2 - 1]! with
            | false =>
              have HGO : Hid (scanSorted lt dk b (i2 + 1) = scanSorted lt dk b i) := by
                show _ = _
                rw [← HOS.out, scanS_go hle hlv]
              rw [hlv] at hl
              have HL := Lib.hid hl
              clear hl hlv
              go_wp2_with fail
              refine HL.out.mono ?_
              rintro e w1 ⟨rfl, h1⟩
              have HV1 := Lib.hid (H.out.st0 HV.out h1)
              have HF1 := Lib.hid (HF.out.trans0 h1)
              clear h1
              go_wp2
              go_roundw
              case rel => exact ⟨i2 + 1, by go_num, by omega, by omega, HV1.out, HF1.out, HGO.out⟩
              case measure => simp [intOf] <;> omega
            | true =>
              have HSU : Hid (scanSorted lt dk b i = i2) := by
                show _ = _
                rw [← HOS.out, scanS_stop (.inr hlv)]
              rw [hlv] at hl
              have HL := Lib.hid hl
              clear hl hlv
              go_wp2_with fail
              refine HL.out.mono ?_
              rintro e w1 ⟨rfl, h1⟩
              have HV1 := Lib.hid (H.out.st0 HV.out h1)
              have HF1 := Lib.hid (HF.out.trans0 h1)
              clear h1
              go_wp2
              go_meet
              exact ⟨i2, rfl, HSU.out, hi1, hi2, HV1.out, HF1.out⟩
          · have hle1 : ¬ (i2 : Int) < (b : Int) := by omega
            have HSU : Hid (scanSorted lt dk b i = i2) := by
              show _ = _
              rw [← HOS.out, scanS_stop (.inl hle)]
            go_wp2
            go_meet
            exact ⟨i2, rfl, HSU.out, hi1, hi2, HV.out, HF.out⟩
      case rest =>
        obtain ⟨i2, rfl, hsu, hi1, hi2, hv, hf⟩ := hcut
        have HSU := Lib.hid hsu
        have HV6 := Lib.hid hv
        have HF6 := Lib.hid hf
        clear hsu hv hf
        by_cases hend : i2 = b
        · have HE : Hid (partialInsertionSort lt d a b = (dk, true)) := by
            show partialIns lt a b 5 (a + 1) d = _
            rw [← HO.out, partial_all hlt HSU.out hend]
          subst hend
          go_wp2
          go_ret
          refine ⟨?_, ?_, HF6.out⟩
          · (rw [HE.out]; try rfl)
          · rw [HE.out]
            exact HV6.out
        · have hend1 : ((i2 : Int) == (b : Int)) = false := by rw [beq_eq_false_iff_ne]; omega
          by_cases h50 : b - a < 50
          · have h501 : (b : Int) - (a : Int) < 50 := by omega
            have HE : Hid (partialInsertionSort lt d a b = (dk, false)) := by
              show partialIns lt a b 5 (a + 1) d = _
              rw [← HO.out, partial_few hlt HSU.out hend h50]
            go_wp2
            go_ret
            refine ⟨?_, ?_, HF6.out⟩
            · (rw [HE.out]; try rfl)
            · rw [HE.out]
              exact HV6.out
          · have h501 : ¬ (b : Int) - (a : Int) < 50 := by omega
            have HGO : Hid (partialIns lt a b (5 - (t + 1)) i2 (fixUp lt b i2 (fixDown lt a i2 (swp dk i2 (i2 - 1)))) = partialIns lt a b 5 (a + 1) d) := by
              show _ = _
              rw [← HO.out, partial_go hlt HSU.out hend h50]
            have hsw := H.out.swap dk _ HSK.out HV6.out i2 (i2 - 1) (by omega) (by omega)
            rw [sub1 (by omega)] at hsw
            have HSW := Lib.hid hsw
            clear hsw
            go_wp2_with fail
            refine HSW.out.mono ?_
            rintro e w7 ⟨rfl, hv, hf⟩
            obtain ⟨d1, hd1⟩ : ∃ d1, swp dk i2 (i2 - 1) = d1 := ⟨_, rfl⟩
            have HS1 : Hid (d1.size = N) := by show _ = _; rw [← hd1, size_swp]; exact HSK.out
            rw [hd1] at hv HGO
            have HV7 := Lib.hid hv
            have HF7 := Lib.hid (HF6.out.transS hf)
            clear hv hf hd1 hend1 h501
            go_upto_if 45 with fail
            go_cut [9] (fun _ wx => V (fixDown lt a i2 d1) wx ∧ Fr X w wx)
            case first =>
              by_cases h2 : 2 ≤ i2 - a
              · have h21 : 2 ≤ (i2 : Int) - (a : Int) := by omega
                have HFD : Hid (fixDown lt a i2 d1 = shiftDown lt (i2 - 1) d1) := if_pos h2
                rw [decide_eq_true h21]
                have hi21 := sub1 (j := i2) (by omega)
                go_wp2_with fail
                go_loopw [9] (fun vj wx => ∃ (j : Nat) (dj : Array α), vj = .int .i64 (j : Int) ∧ j ≤ i2 - 1 ∧ dj.size = N ∧ V dj wx ∧ Fr X w wx ∧ shiftDown lt j dj = shiftDown lt (i2 - 1) d1) (fun vj _ => (intOf vj).toNat)
                case atStart => exact ⟨i2 - 1, d1, by rw [hi21], Nat.le_refl _, HS1.out, HV7.out, HF7.out, rfl⟩
                case round =>
                  clear hi21
                  obtain ⟨j, dj, rfl, hj, hsj, hv, hf, hO⟩ := hrel
                  have HSJ := Lib.hid hsj
                  have HV := Lib.hid hv
                  have HF := Lib.hid hf
                  have HOS := Lib.hid hO
                  clear hsj hv hf hO
                  by_cases hj0 : 1 ≤ j
                  · have hj1 : 1 ≤ (j : Int) := by omega
                    have hl := H.out.less dj wr HSJ.out HV.out j (j - 1) (by omega) (by omega)
                    rw [sub1 (by omega)] at hl
                    cases hlv : lt dj[j]! dj[j - 1]! with
                    | false =>
                      have HE : Hid (fixDown lt a i2 d1 = dj) := by
                        show _ = _
                        rw [HFD.out, ← HOS.out, shiftD_stop (.inr hlv)]
                      rw [hlv] at hl
                      have HL := Lib.hid hl
                      clear hl hlv
                      go_wp2_with fail
                      refine HL.out.mono ?_
                      rintro e w1 ⟨rfl, h1⟩
                      have HV1 := Lib.hid (H.out.st0 HV.out h1)
                      have HF1 := Lib.hid (HF.out.trans0 h1)
                      clear h1
                      go_wp2
                      go_meet
                      exact ⟨by rw [HE.out]; exact HV1.out, HF1.out⟩
                    | true =>
                      have HGO2 : Hid (shiftDown lt (j - 1) (swp dj j (j - 1)) = shiftDown lt (i2 - 1) d1) := by
                        show _ = _
                        rw [← HOS.out, shiftD_go (by omega) hlv]
                      rw [hlv] at hl
                      have HL := Lib.hid hl
                      have HSW2 : Hid (∀ w1, Fr [] wr w1 → Calls Tryz.prog gs #[rv, .int .i64 (j : Int), .int .i64 ((j : Int) - 1)] w1 fun e w2 => e = .returned (.tuple #[]) ∧ V (swp dj j (j - 1)) w2 ∧ Fr X w1 w2) := fun w1 hf => by
                        have := H.out.swap dj w1 HSJ.out (H.out.st0 HV.out hf) j (j - 1) (by omega) (by omega)
                        rwa [sub1 (by omega)] at this
                      clear hl hlv
                      go_wp2_with fail
                      refine HL.out.mono ?_
                      rintro e w1 ⟨rfl, h1⟩
                      have HF1 := Lib.hid (HF.out.trans0 h1)
                      have H1 := Lib.hid h1
                      clear h1
                      go_wp2_with fail
                      refine (HSW2.out _ H1.out).mono ?_
                      rintro e w2 ⟨rfl, hv, hf⟩
                      have HV2 := Lib.hid hv
                      have HF2 := Lib.hid (HF1.out.transS hf)
                      clear hv hf
                      go_wp2
                      go_roundw
                      case rel => exact ⟨j - 1, _, by rw [sub1 (by omega)], by omega, by rw [size_swp]; exact HSJ.out, HV2.out, HF2.out, HGO2.out⟩
                      case measure => simp [intOf] <;> omega
                  · have hj1 : ¬ 1 ≤ (j : Int) := by omega
                    have HE : Hid (fixDown lt a i2 d1 = dj) := by
                      show _ = _
                      rw [HFD.out, ← HOS.out, shiftD_stop (.inl (by omega))]
                    go_wp2
                    go_meet
                    exact ⟨by rw [HE.out]; exact HV.out, HF.out⟩
              · have h21 : ¬ 2 ≤ (i2 : Int) - (a : Int) := by omega
                have HFD : Hid (fixDown lt a i2 d1 = d1) := if_neg h2
                rw [decide_eq_false h21]
                go_wp2
                go_meet
                exact ⟨by rw [HFD.out]; exact HV7.out, HF7.out⟩
            case rest =>
              obtain ⟨hv, hf⟩ := hcut
              obtain ⟨d2, hd2⟩ : ∃ d2, fixDown lt a i2 d1 = d2 := ⟨_, rfl⟩
              have HS2 : Hid (d2.size = N) := by show _ = _; rw [← hd2, fixD_size]; exact HS1.out
              rw [hd2] at hv HGO
              have HV8 := Lib.hid hv
              have HF8 := Lib.hid hf
              clear hv hf hd2
              by_cases h2 : 2 ≤ b - i2
              · have h21 : 2 ≤ (b : Int) - (i2 : Int) := by omega
                have HFD : Hid (fixUp lt b i2 d2 = shiftUp lt b (i2 + 1) d2) := if_pos h2
                go_wp2_with fail
                go_loopw [10] (fun vj wx => ∃ (j : Nat) (dj : Array α), vj = .int .i64 (j : Int) ∧ i2 + 1 ≤ j ∧ j ≤ b ∧ dj.size = N ∧ V dj wx ∧ Fr X w wx ∧ shiftUp lt b j dj = shiftUp lt b (i2 + 1) d2) (fun vj _ => b - (intOf vj).toNat)
                case atStart => exact ⟨i2 + 1, d2, by go_num, Nat.le_refl _, by omega, HS2.out, HV8.out, HF8.out, rfl⟩
                case round =>
                  obtain ⟨j, dj, rfl, hj, hjb, hsj, hv, hf, hO⟩ := hrel
                  have HSJ := Lib.hid hsj
                  have HV := Lib.hid hv
                  have HF := Lib.hid hf
                  have HOS := Lib.hid hO
                  clear hsj hv hf hO
                  by_cases hj0 : j < b
                  · have hj1 : (j : Int) < (b : Int) := by omega
                    have hl := H.out.less dj wr HSJ.out HV.out j (j - 1) (by omega) (by omega)
                    rw [sub1 (by omega)] at hl
                    cases hlv : lt dj[j]! dj[j - 1]! with
                    | false =>
                      have HE : Hid (fixUp lt b i2 d2 = dj) := by
                        show _ = _
                        rw [HFD.out, ← HOS.out, shiftU_stop (.inr hlv)]
                      rw [hlv] at hl
                      have HL := Lib.hid hl
                      clear hl hlv
                      go_wp2_with fail
                      refine HL.out.mono ?_
                      rintro e w1 ⟨rfl, h1⟩
                      have HV1 := Lib.hid (H.out.st0 HV.out h1)
                      have HF1 := Lib.hid (HF.out.trans0 h1)
                      clear h1
                      go_wp2
                      go_roundw
                      case rel => exact ⟨i2, t + 1, dj, rfl, by go_num, by omega, by omega, by omega, HSJ.out, HV1.out, HF1.out, by rw [← HGO.out, HE.out]⟩
                      case measure => simp [intOf] <;> omega
                    | true =>
                      have HGO2 : Hid (shiftUp lt b (j + 1) (swp dj j (j - 1)) = shiftUp lt b (i2 + 1) d2) := by
                        show _ = _
                        rw [← HOS.out, shiftU_go hj0 hlv]
                      rw [hlv] at hl
                      have HL := Lib.hid hl
                      have HSW2 : Hid (∀ w1, Fr [] wr w1 → Calls Tryz.prog gs #[rv, .int .i64 (j : Int), .int .i64 ((j : Int) - 1)] w1 fun e w2 => e = .returned (.tuple #[]) ∧ V (swp dj j (j - 1)) w2 ∧ Fr X w1 w2) := fun w1 hf => by
                        have := H.out.swap dj w1 HSJ.out (H.out.st0 HV.out hf) j (j - 1) (by omega) (by omega)
                        rwa [sub1 (by omega)] at this
                      clear hl hlv
                      go_wp2_with fail
                      refine HL.out.mono ?_
                      rintro e w1 ⟨rfl, h1⟩
                      have HF1 := Lib.hid (HF.out.trans0 h1)
                      have H1 := Lib.hid h1
                      clear h1
                      go_wp2_with fail
                      refine (HSW2.out _ H1.out).mono ?_
                      rintro e w2 ⟨rfl, hv, hf⟩
                      have HV2 := Lib.hid hv
                      have HF2 := Lib.hid (HF1.out.transS hf)
                      clear hv hf
                      go_wp2
                      go_roundw
                      case rel => exact ⟨j + 1, _, by go_num, by omega, by omega, by rw [size_swp]; exact HSJ.out, HV2.out, HF2.out, HGO2.out⟩
                      case measure => simp [intOf] <;> omega
                  · have hj1 : ¬ (j : Int) < (b : Int) := by omega
                    have HE : Hid (fixUp lt b i2 d2 = dj) := by
                      show _ = _
                      rw [HFD.out, ← HOS.out, shiftU_stop (.inl hj0)]
                    go_wp2
                    go_roundw
                    case rel => exact ⟨i2, t + 1, dj, rfl, by go_num, by omega, by omega, by omega, HSJ.out, HV.out, HF.out, by rw [← HGO.out, HE.out]⟩
                    case measure => simp [intOf] <;> omega
              · have h21 : ¬ 2 ≤ (b : Int) - (i2 : Int) := by omega
                have HFD : Hid (fixUp lt b i2 d2 = d2) := if_neg h2
                go_wp2
                go_roundw
                case rel => exact ⟨i2, t + 1, d2, rfl, by go_num, by omega, by omega, by omega, HS2.out, HV8.out, HF8.out, by rw [← HGO.out, HFD.out]⟩
                case measure => simp [intOf] <;> omega
    · obtain rfl : t = 5 := by omega
      have HE : Hid (partialInsertionSort lt d a b = (dk, false)) := by
        show partialIns lt a b 5 (a + 1) d = _
        rw [← HO.out]
        rfl
      go_wp2
      go_ret
      refine ⟨?_, ?_, HF5.out⟩
      · (rw [HE.out]; try rfl)
      · rw [HE.out]
        exact HV5.out
end
end
section
open Go.RowKit Go.Sort

section
variable {α : Type} [Inhabited α] {T : TypeId} {rv : Value} {gl gs : Nat} {lt : α → α → Bool} {N : Nat} {X : List Nat} {V : Array α → World → Prop}
/-- A sorted permutation of [a, b). -/
def SvS (X : List Nat) (V : Array α → World → Prop) (lt : α → α → Bool) (a b : Nat) (d : Array α) (w : World) (e : Ending) (w1 : World) : Prop := e = .returned (.tuple #[]) ∧ (∃ d', PermIn a b d d' ∧ SortedIn lt a b d' ∧ V d' w1) ∧ Fr X w w1
theorem part_bounds (hO : SWO lt) {d : Array α} {a b p mid : Nat} {al : Bool} {d4 : Array α} (h1 : a ≤ p) (h2 : p < b) (hb : b ≤ d.size) (hB : Below lt a b d) (hx : partition lt d a b p = (mid, al, d4)) :
    a ≤ mid ∧ mid < b ∧ d4.size = d.size ∧ Below lt a mid d4 ∧ Below lt (mid + 1) b d4 ∧
    (∀ L, PermIn a mid d4 L → SortedIn lt a mid L → Below lt (mid + 1) b L ∧ ∀ R, PermIn (mid + 1) b L R → SortedIn lt (mid + 1) b R → PermIn a b d R ∧ SortedIn lt a b R) ∧
    (∀ L, PermIn (mid + 1) b d4 L → SortedIn lt (mid + 1) b L → Below lt a mid L ∧ ∀ R, PermIn a mid L R → SortedIn lt a mid R → PermIn a b d R ∧ SortedIn lt a b R) := round_part hO (partition_holds lt) h1 h2 hb hB hx
set_option maxHeartbeats 12800000 in
set_option maxRecDepth 100000 in
theorem svPdq (h : SvM T rv gl gs lt N X V) (hO : SWO lt) (hN : N < 4611686018427387904) : ∀ (n a b l : Nat) (d : Array α) (w : World), b - a ≤ n → d.size = N → V d w → a ≤ b → b ≤ N → l ≤ 64 → Below lt a b d →
    Calls Tryz.prog 74 #[.iface T rv, .int .i64 (a : Int), .int .i64 (b : Int), .int .i64 (l : Int)] w (SvS X V lt a b d w) := by
  intro n
  induction n using Nat.strongRecOn with
  | ind n ih =>
  intro a b l d w hn hd hV hab hb hl hB
  have mL := h.mL
  simp [go_sem] at mL
  have eL := h.eL
  have H := Lib.hid h
  have HO := Lib.hid hO
  have HV0 := Lib.hid hV
  have HD := Lib.hid hd
  have HB := Lib.hid hB
  have IH : Hid (∀ (a2 b2 l2 : Nat) (d2 : Array α) (w2 : World), b2 - a2 < n → d2.size = N → V d2 w2 → a2 ≤ b2 → b2 ≤ N → l2 ≤ 64 → Below lt a2 b2 d2 → Calls Tryz.prog 74 #[.iface T rv, .int .i64 (a2 : Int), .int .i64 (b2 : Int), .int .i64 (l2 : Int)] w2 (SvS X V lt a2 b2 d2 w2)) := fun a2 b2 l2 d2 w2 h1 h2 h3 h4 h5 h6 h7 => ih (b2 - a2) h1 a2 b2 l2 d2 w2 (Nat.le_refl _) h2 h3 h4 h5 h6 h7
  clear h hO hV hd hB ih
  go_enter Tryz.func74, Tryz.ntmps74
  go_wp2_with fail
  go_loopw [1, 2, 3, 8, 9] (fun va vb vl vx vy wr => ∃ (a2 b2 l2 : Nat) (wb wp : Bool) (dk : Array α), va = .int .i64 (a2 : Int) ∧ vb = .int .i64 (b2 : Int) ∧ vl = .int .i64 (l2 : Int) ∧ vx = .bool wb ∧ vy = .bool wp ∧ a ≤ a2 ∧ a2 ≤ b2 ∧ b2 ≤ b ∧ l2 ≤ 64 ∧ dk.size = N ∧ V dk wr ∧ Fr X w wr ∧ Below lt a2 b2 dk ∧ ∀ R, PermIn a2 b2 dk R → SortedIn lt a2 b2 R → PermIn a b d R ∧ SortedIn lt a b R) (fun va vb _ _ _ _ => (intOf vb - intOf va).toNat)
  case atStart => exact ⟨a, b, l, true, true, d, rfl, rfl, rfl, rfl, rfl, Nat.le_refl _, hab, Nat.le_refl _, hl, HD.out, HV0.out, Fr.refl _ _, HB.out, fun R h1 h2 => ⟨h1, h2⟩⟩
  case round =>
    obtain ⟨a2, b2, l2, wb, wp, dk, rfl, rfl, rfl, rfl, rfl, haa, hab2, hbb, hl2, hsk, hv, hf, hbl, hR⟩ := hrel
    have HSK := Lib.hid hsk
    have HVK := Lib.hid hv
    have HFK := Lib.hid hf
    have HBL := Lib.hid hbl
    have HR := Lib.hid hR
    clear hsk hv hf hbl hR
    by_cases h12 : b2 - a2 ≤ 12
    · have h121 : (b2 : Int) - (a2 : Int) ≤ 12 := by omega
      go_wp2_with fail
      refine (svIns H.out hN a2 b2 dk _ HSK.out HVK.out hab2 (by omega)).mono ?_
      rintro e w1 ⟨rfl, hv, hf⟩
      have hp := insertionSort_holds (lt := lt) HO.out dk a2 b2 hab2 (by rw [HSK.out]; omega)
      have HE := Lib.hid (HR.out _ hp.1 hp.2)
      have HV1 := Lib.hid hv
      have HF1 := Lib.hid (HFK.out.transS hf)
      clear hp hv hf
      go_wp2
      go_end0
      exact ⟨rfl, ⟨_, HE.out.1, HE.out.2, HV1.out⟩, HF1.out⟩
    · have h121 : ¬ (b2 : Int) - (a2 : Int) ≤ 12 := by omega
      by_cases hl0 : l2 = 0
      · subst hl0
        go_wp2_with fail
        refine (svHeap H.out hN a2 b2 dk _ HSK.out HVK.out (by omega) (by omega)).mono ?_
        rintro e w1 ⟨rfl, hv, hf⟩
        have hp := heapSort_holds (lt := lt) HO.out dk a2 b2 hab2 (by rw [HSK.out]; omega)
        have HE := Lib.hid (HR.out _ hp.1 hp.2)
        have HV1 := Lib.hid hv
        have HF1 := Lib.hid (HFK.out.transS hf)
        clear hp hv hf
        go_wp2
        go_end0
        exact ⟨rfl, ⟨_, HE.out.1, HE.out.2, HV1.out⟩, HF1.out⟩
      · have hl01 : ((l2 : Int) == 0) = false := by rw [beq_eq_false_iff_ne]; omega
        go_upto_if 35 with fail
        go_cut [3] (fun v wx => ∃ (l3 : Nat) (d1 : Array α), v = .int .i64 (l3 : Int) ∧ l3 ≤ 64 ∧ PermIn a2 b2 dk d1 ∧ V d1 wx ∧ Fr X w wx)
        case first =>
          cases wb with
          | true =>
            go_wp2
            go_meet
            exact ⟨l2, dk, rfl, hl2, permIn_refl _ _ _, HVK.out, HFK.out⟩
          | false =>
            go_wp2_with fail
            refine (svBreak H.out hN a2 b2 dk _ HSK.out HVK.out hab2 (by omega)).mono ?_
            rintro e w1 ⟨rfl, ⟨d1, hp, hv⟩, hf⟩
            have HP := Lib.hid hp
            have HV1 := Lib.hid hv
            have HF1 := Lib.hid (HFK.out.transS hf)
            have hls := sub1 (j := l2) (by omega)
            clear hp hv hf
            go_wp2
            go_meet
            exact ⟨l2 - 1, d1, by rw [hls], by omega, HP.out, HV1.out, HF1.out⟩
        case rest =>
          obtain ⟨l3, d1, rfl, hl3, hp1, hv, hf⟩ := hcut
          have HP1 := Lib.hid hp1
          have HS1 : Hid (d1.size = N) := by show _ = _; rw [hp1.1]; exact HSK.out
          have HV1 := Lib.hid hv
          have HF1 := Lib.hid hf
          clear hp1 hv hf hl01
          go_wp2_with fail
          refine (svPivot H.out hN a2 b2 d1 _ HS1.out HV1.out (by omega) (by omega)).mono ?_
          rintro e w2 ⟨p, hnt, rfl, hp1, hp2, hh, hv, hf⟩
          have HV2 := Lib.hid hv
          have HF2 := Lib.hid (HF1.out.trans0 hf)
          clear hv hf
          go_upto_if 50 with fail
          go_cut [11, 12] (fun vp vh wx => ∃ (p2 hn2 : Nat) (d2 : Array α), vp = .int .i64 (p2 : Int) ∧ vh = .int .i64 (hn2 : Int) ∧ a2 ≤ p2 ∧ p2 < b2 ∧ PermIn a2 b2 dk d2 ∧ V d2 wx ∧ Fr X w wx)
          case first =>
            by_cases hd2 : hnt = 2
            · subst hd2
              go_wp2_with fail
              refine (svRev H.out hN a2 b2 d1 _ HS1.out HV2.out (by omega) (by omega)).mono ?_
              rintro e w3 ⟨rfl, ⟨d2, hp, hv⟩, hf⟩
              have HP := Lib.hid (permIn_trans _ _ _ a2 b2 HP1.out hp)
              have HV3 := Lib.hid hv
              have HF3 := Lib.hid (HF2.out.transS hf)
              have hpp : (b2 : Int) - 1 - ((p : Int) - (a2 : Int)) = ((b2 - 1 - (p - a2) : Nat) : Int) := by omega
              have HPP := Lib.hid hpp
              clear hp hv hf hpp
              go_wp2
              go_meet
              exact ⟨b2 - 1 - (p - a2), 1, d2, by rw [HPP.out], rfl, by omega, by omega, HP.out, HV3.out, HF3.out⟩
            · have hd21 : ((hnt : Int) == 2) = false := by rw [beq_eq_false_iff_ne]; omega
              rw [hd21]
              go_wp2
              go_meet
              exact ⟨p, hnt, d1, rfl, rfl, hp1, hp2, HP1.out, HV2.out, HF2.out⟩
          case rest =>
            clear hp1 hp2 hh
            obtain ⟨p2, hn2, d2, rfl, rfl, hp1, hp2, hpd, hv, hf⟩ := hcut
            have HP2 := Lib.hid hpd
            have HS2 : Hid (d2.size = N) := by show _ = _; rw [hpd.1]; exact HSK.out
            have HB2 : Hid (Below lt a2 b2 d2) := HBL.out.perm (by rw [HSK.out]; omega) hpd
            have HV3 := Lib.hid hv
            have HF3 := Lib.hid hf
            have HR2 : Hid (∀ R, PermIn a2 b2 d2 R → SortedIn lt a2 b2 R → PermIn a b d R ∧ SortedIn lt a b R) := fun R h1 h2 => HR.out R (permIn_trans _ _ _ a2 b2 HP2.out h1) h2
            clear hpd hv hf
            go_upto_region 15 with fail
            go_cut [68] (fun v wx => ∃ t : Bool, v = .bool t ∧ V d2 wx ∧ Fr X w wx)
            case first =>
              cases wb with
              | true =>
                cases wp with
                | true =>
                  go_wp2
                  go_meet
                  exact ⟨_, rfl, HV3.out, HF3.out⟩
                | false =>
                  go_wp2
                  go_meet
                  exact ⟨_, rfl, HV3.out, HF3.out⟩
              | false =>
                go_wp2
                go_meet
                exact ⟨_, rfl, HV3.out, HF3.out⟩
            case rest =>
              obtain ⟨t, rfl, hv, hf⟩ := hcut
              have HV4 := Lib.hid hv
              have HF4 := Lib.hid hf
              clear hv hf
              go_upto_if 68 with fail
              go_cut [68] (fun _ wx => ∃ d3, PermIn a2 b2 d2 d3 ∧ V d3 wx ∧ Fr X w wx)
              case first =>
                cases t with
                | true =>
                  have hpi := partialInsertionSort_holds (lt := lt) HO.out d2 a2 b2 (by omega) (by rw [HS2.out]; omega) HB2.out
                  have HPI := Lib.hid hpi
                  clear hpi
                  go_wp2_with fail
                  refine (svPIns H.out hN a2 b2 d2 _ HS2.out HV4.out (by omega) (by omega)).mono ?_
                  obtain ⟨r, hr⟩ : ∃ r, partialInsertionSort lt d2 a2 b2 = r := ⟨_, rfl⟩
                  rw [hr] at HPI ⊢
                  obtain ⟨d3, t2⟩ := r
                  rintro e w4 ⟨rfl, hv, hf⟩
                  have HV5 := Lib.hid hv
                  have HF5 := Lib.hid (HF4.out.transS hf)
                  clear hv hf hr
                  cases t2 with
                  | true =>
                    have HE := Lib.hid (HR2.out _ HPI.out.1 (HPI.out.2 rfl))
                    go_wp2
                    go_end0
                    exact ⟨rfl, ⟨_, HE.out.1, HE.out.2, HV5.out⟩, HF5.out⟩
                  | false =>
                    go_wp2
                    go_meet
                    exact ⟨d3, HPI.out.1, HV5.out, HF5.out⟩
                | false =>
                  go_wp2
                  go_meet
                  exact ⟨d2, permIn_refl _ _ _, HV4.out, HF4.out⟩
              case rest =>
                obtain ⟨d3, hpd, hv, hf⟩ := hcut
                have HS3 : Hid (d3.size = N) := by show _ = _; rw [hpd.1]; exact HS2.out
                have HB3 : Hid (Below lt a2 b2 d3) := HB2.out.perm (by rw [HS2.out]; omega) hpd
                have HP3 := Lib.hid hpd
                have HV5 := Lib.hid hv
                have HF5 := Lib.hid hf
                have HR3 : Hid (∀ R, PermIn a2 b2 d3 R → SortedIn lt a2 b2 R → PermIn a b d R ∧ SortedIn lt a b R) := fun R h1 h2 => HR2.out R (permIn_trans _ _ _ a2 b2 HP3.out h1) h2
                clear hpd hv hf
                go_upto_region 17 with fail
                go_cut [82] (fun v wx => ∃ t : Bool, v = .bool t ∧ (t = true → 0 < a2 ∧ lt d3[a2 - 1]! d3[p2]! = false) ∧ V d3 wx ∧ Fr X w wx)
                case first =>
                  by_cases ha0 : 0 < a2
                  · have ha01 : 0 < (a2 : Int) := by omega
                    have hl := H.out.less d3 _ HS3.out HV5.out (a2 - 1) p2 (by omega) (by omega)
                    rw [sub1 ha0] at hl
                    cases hlv : lt d3[a2 - 1]! d3[p2]! with
                    | true =>
                      rw [hlv] at hl
                      have HL := Lib.hid hl
                      clear hl hlv
                      go_wp2_with fail
                      refine HL.out.mono ?_
                      rintro e w1 ⟨rfl, h1⟩
                      have HV1' := Lib.hid (H.out.st0 HV5.out h1)
                      have HF1' := Lib.hid (HF5.out.trans0 h1)
                      clear h1
                      go_wp2
                      go_meet
                      exact ⟨false, rfl, (fun h => by cases h), HV1'.out, HF1'.out⟩
                    | false =>
                      rw [hlv] at hl
                      have HL := Lib.hid hl
                      have HLV := Lib.hid hlv
                      clear hl hlv
                      go_wp2_with fail
                      refine HL.out.mono ?_
                      rintro e w1 ⟨rfl, h1⟩
                      have HV1' := Lib.hid (H.out.st0 HV5.out h1)
                      have HF1' := Lib.hid (HF5.out.trans0 h1)
                      clear h1
                      go_wp2
                      go_meet
                      exact ⟨true, rfl, fun _ => ⟨ha0, HLV.out⟩, HV1'.out, HF1'.out⟩
                  · have ha01 : ¬ 0 < (a2 : Int) := by omega
                    go_wp2
                    go_meet
                    exact ⟨false, rfl, (fun h => by cases h), HV5.out, HF5.out⟩
                case rest =>
                  obtain ⟨t3, rfl, ht3, hv, hf⟩ := hcut
                  have HT3 := Lib.hid ht3
                  have HV6 := Lib.hid hv
                  have HF6 := Lib.hid hf
                  clear ht3 hv hf
                  cases t3 with
                  | true =>
                    obtain ⟨ha0, hnl⟩ := HT3.out rfl
                    obtain ⟨mid, d4, hx⟩ : ∃ mid d4, partitionEqual lt d3 a2 b2 p2 = (mid, d4) := ⟨_, _, rfl⟩
                    have HRD := Lib.hid (round_eq HO.out (partitionEqual_holds lt) ha0 hp1 hp2 (by rw [HS3.out]; omega) HB3.out hnl hx)
                    have HX := Lib.hid hx
                    clear hnl hx
                    go_wp2_with fail
                    refine (svPartEq H.out hN a2 b2 p2 d3 _ HS3.out HV6.out hp1 hp2 (by omega)).mono ?_
                    rw [HX.out]
                    rintro e w7 ⟨rfl, hv, hf⟩
                    have HV7 := Lib.hid hv
                    have HF7 := Lib.hid (HF6.out.transS hf)
                    clear hv hf
                    have hr1 := HRD.out.1
                    have hr2 := HRD.out.2.1
                    have HS4 : Hid (d4.size = N) := by show _ = _; rw [HRD.out.2.2.1]; exact HS3.out
                    simp only
                    go_wp2
                    go_roundw
                    case rel => exact ⟨mid, b2, l3, wb, wp, d4, rfl, rfl, rfl, rfl, rfl, by omega, by omega, hbb, hl3, HS4.out, HV7.out, HF7.out, HRD.out.2.2.2.1, fun R h1 h2 => HR3.out R (HRD.out.2.2.2.2 R h1 h2).1 (HRD.out.2.2.2.2 R h1 h2).2⟩
                    case measure => simp [intOf] <;> omega
                  | false =>
                    obtain ⟨mid, al, d4, hx⟩ : ∃ mid al d4, partition lt d3 a2 b2 p2 = (mid, al, d4) := ⟨_, _, _, rfl⟩
                    have HRD := Lib.hid (part_bounds HO.out hp1 hp2 (by rw [HS3.out]; omega) HB3.out hx)
                    have HX := Lib.hid hx
                    clear hx
                    go_wp2_with fail
                    refine (svPart H.out hN a2 b2 p2 d3 _ HS3.out HV6.out hp1 hp2 (by omega)).mono ?_
                    rw [HX.out]
                    rintro e w7 ⟨rfl, hv, hf⟩
                    have HV7 := Lib.hid hv
                    have HF7 := Lib.hid (HF6.out.transS hf)
                    clear hv hf
                    have hr1 := HRD.out.1
                    have hr2 := HRD.out.2.1
                    have HS4 : Hid (d4.size = N) := by show _ = _; rw [HRD.out.2.2.1]; exact HS3.out
                    simp only
                    by_cases hlr : mid - a2 < b2 - mid
                    · have hlr1 : (mid : Int) - (a2 : Int) < (b2 : Int) - (mid : Int) := by omega
                      go_wp2_with fail
                      refine (IH.out a2 mid l3 d4 _ (by omega) HS4.out HV7.out hr1 (by omega) hl3 HRD.out.2.2.2.1).mono ?_
                      rintro e w8 ⟨rfl, ⟨L, hpl, hsl, hv⟩, hf⟩
                      have HLR := Lib.hid (HRD.out.2.2.2.2.2.1 L hpl hsl)
                      have HSL : Hid (L.size = N) := by show _ = _; rw [hpl.1]; exact HS4.out
                      have HV8 := Lib.hid hv
                      have HF8 := Lib.hid (HF7.out.transS hf)
                      clear hpl hsl hv hf
                      go_wp2
                      go_roundw
                      case rel => exact ⟨mid + 1, b2, l3, _, al, L, by go_num, rfl, rfl, rfl, rfl, by omega, by omega, hbb, hl3, HSL.out, HV8.out, HF8.out, HLR.out.1, fun R h1 h2 => HR3.out R (HLR.out.2 R h1 h2).1 (HLR.out.2 R h1 h2).2⟩
                      case measure => simp [intOf] <;> omega
                    · have hlr1 : ¬ (mid : Int) - (a2 : Int) < (b2 : Int) - (mid : Int) := by omega
                      have ihc := IH.out (mid + 1) b2 l3 d4 w7 (by omega) HS4.out HV7.out (by omega) (by omega) hl3 HRD.out.2.2.2.2.1
                      rw [show ((mid + 1 : Nat) : Int) = (mid : Int) + 1 by omega] at ihc
                      have IHC := Lib.hid ihc
                      clear ihc
                      go_wp2_with fail
                      refine IHC.out.mono ?_
                      rintro e w8 ⟨rfl, ⟨L, hpl, hsl, hv⟩, hf⟩
                      have HLR := Lib.hid (HRD.out.2.2.2.2.2.2 L hpl hsl)
                      have HSL : Hid (L.size = N) := by show _ = _; rw [hpl.1]; exact HS4.out
                      have HV8 := Lib.hid hv
                      have HF8 := Lib.hid (HF7.out.transS hf)
                      clear hpl hsl hv hf
                      go_wp2
                      go_roundw
                      case rel => exact ⟨a2, mid, l3, _, al, L, rfl, rfl, rfl, rfl, rfl, by omega, by omega, by omega, hl3, HSL.out, HV8.out, HF8.out, HLR.out.1, fun R h1 h2 => HR3.out R (HLR.out.2 R h1 h2).1 (HLR.out.2 R h1 h2).2⟩
                      case measure => simp [intOf] <;> omega
/-- sort.Sort. -/
theorem svSort (h : SvM T rv gl gs lt N X V) (hO : SWO lt) (hN : N < 4611686018427387904) (gn : Nat) (mN : ∀ w, (method (Tryz.prog.types.size + 100) T rv "Len").run Tryz.prog w = .ok (gn, rv) w) (eN : ∀ args w, (callFunc gn args).run Tryz.prog w = .ok (.enter gn args) w)
    (d : Array α) (w : World) (hd : d.size = N) (hV : V d w) (hlen : Calls Tryz.prog gn #[rv] w fun e w1 => e = .returned (.int .i64 (N : Int)) ∧ Fr [] w w1) :
    Calls Tryz.prog 52 #[.iface T rv] w (SvS X V lt 0 N d w) := by
  simp [go_sem] at mN
  have H := Lib.hid h
  have HO := Lib.hid hO
  have HV := Lib.hid hV
  have HD := Lib.hid hd
  have HL := Lib.hid hlen
  clear h hO hV hd hlen
  by_cases h1 : N ≤ 1
  · have h11 : (N : Int) ≤ 1 := by omega
    go_enter Tryz.func52, Tryz.ntmps52
    go_wp2_with fail
    refine HL.out.mono ?_
    rintro e w1 ⟨rfl, hf⟩
    have HV1 := Lib.hid (H.out.st0 HV.out hf)
    have HF1 := Lib.hid hf
    clear hf
    go_wp2
    go_end0
    exact ⟨rfl, ⟨d, permIn_refl _ _ _, fun i j _ hij hj => by omega, HV1.out⟩, HF1.out.mono (by simp)⟩
  · have h11 : ¬ (N : Int) ≤ 1 := by omega
    have hlw : IntKind.u64.wrap (N : Int) = (N : Int) := by simp [IntKind.wrap, IntKind.bits, IntKind.signed]; omega
    go_enter Tryz.func52, Tryz.ntmps52
    go_wp2_with fail
    refine HL.out.mono ?_
    rintro e w1 ⟨rfl, hf⟩
    have HV1 := Lib.hid (H.out.st0 HV.out hf)
    have HF1 := Lib.hid hf
    clear hf
    go_wp2_with fail
    refine (bitsLenC N hN _).mono ?_
    rintro e w2 ⟨r, rfl, hr, rfl⟩
    have hc := svPdq H.out HO.out hN N 0 N r d w1 (by omega) HD.out HV1.out (by omega) (Nat.le_refl _) (by omega) (.inl rfl)
    have HC := Lib.hid hc
    clear hc hlw
    go_wp2_with fail
    refine HC.out.mono ?_
    rintro e w3 ⟨rfl, hs, hf⟩
    have HS := Lib.hid hs
    have HF := Lib.hid ((HF1.out.mono (T := X) (by simp)).transS hf)
    clear hs hf
    go_wp2
    go_end0
    exact ⟨rfl, HS.out, HF.out⟩
end
end
end Go.Proofs.YtdlpbpohbkcafaaGreat
