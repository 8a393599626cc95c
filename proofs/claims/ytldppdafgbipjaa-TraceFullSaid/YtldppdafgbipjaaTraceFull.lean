/-
  The walk of quadrillelaw22.TraceFull.
-/
import Derived.Test.YtldppdafgbipjaaTFullP
namespace Go.Proofs.Ytldppdafgbipjaa
open Go.RowKit

set_option maxRecDepth 100000 in
set_option maxHeartbeats 6400000 in
theorem traceFull_walk (w : World) : Calls Try.prog 10 #[] w fun e w1 => e = .returned (.bool true) ∧ Fr [] w w1 := by
  go_enter Try.func10, Try.ntmps10
  go_wp2_with fail
  refine (begun22 _).mono ?_
  rintro e w1 ⟨rfl, h1⟩
  go_wp2_with fail
  refine (traceNew 3 _ (by omega) (by omega)).mono ?_
  rintro e w2 ⟨p, tb, mb, rfl, hp, ht, hm, hS, h2⟩
  have hp' : w.heap.size ≤ p := by have := h1.size; omega
  have ht' : w.heap.size ≤ tb := by have := h1.size; omega
  have hm' : w.heap.size ≤ mb := by have := h1.size; omega
  have hf2 : Fr [] w w2 := h1.trans0 h2
  have HS := Lib.hid hS
  clear hS h1 h2 hp ht hm
  go_wp2_with fail
  go_loopw [3] (fun i wr => ∃ k : Nat, i = .int .i64 (k : Int) ∧ (k : Int) ≤ 65536 ∧ StIs wr p tb mb 3 (fullT k) ∧ Fr [tb, mb] w2 wr) (fun i _ => (65536 - intOf i).toNat)
  case atStart => exact ⟨0, rfl, by omega, HS.out, Fr.refl _ _⟩
  case round =>
    obtain ⟨k, rfl, hk, hSk, hfr⟩ := hrel
    have HSk := Lib.hid hSk
    clear hSk
    by_cases hlt : (k : Int) < 65536
    · have Hk : Hid (k < 65536) := by show k < 65536; omega
      have hw : IntKind.i64.wrap ((k : Int) + 1) = (k : Int) + 1 := by rw [IntKind.wrap_i64]; omega
      have h0 : (0 : Int) ≤ (k : Int) := by omega
      go_wp2_with fail
      refine (numC _ _).mono ?_
      rintro e w3 ⟨rfl, h3⟩
      go_wp2_with fail
      refine (tkStep p tb mb k _ (HSk.out.fr0 h3) Hk).mono ?_
      rintro e w4 ⟨rfl, hS4, h4⟩
      have HS4 := Lib.hid hS4
      have hf4 : Fr [tb, mb] w2 w4 := (hfr.trans0 h3).transS h4
      clear hS4 HSk
      go_wp2
      go_roundw
      case rel => exact ⟨k + 1, by go_num, by omega, HS4.out, hf4⟩
      case measure => simp [intOf]; omega
    · have hk2 : k = 65536 := by omega
      have HK := Lib.hid hk2
      have hfw : Fr [] w wr := hf2.trans hfr (by simp; omega)
      clear hk2
      go_wp2_with fail
      have hW : Fr [] wr (wr.alloc (.cells #[.int .i64 60000, .int .i64 0] 26)) := (Fr.refl [] wr).alloc _
      have hD := heap_new wr (.cells #[.int .i64 60000, .int .i64 0] 26)
      have hSW := Lib.hid (HSk.out.fr0 hW)
      have lD0 : tb < wr.heap.size ∧ mb < wr.heap.size := ⟨lt_of HSk.out.tab.choose_spec.1.tab, HSk.out.tab.choose_spec.1.map.lt⟩
      obtain ⟨ltb, lmb⟩ := lD0
      generalize wr.alloc (.cells #[.int .i64 60000, .int .i64 0] 26) = W at *
      obtain ⟨D, hDe⟩ : ∃ D, wr.heap.size = D := ⟨_, rfl⟩
      rw [hDe] at hD ltb lmb ⊢
      have lD := lt_of hD
      have mD : D ∉ [tb, mb] := by simp; omega
      have d0 : W.cell? ⟨D, 0, none⟩ = some (.int .i64 60000) := cell_of hD 0
      have d1 : W.cell? ⟨D, 1, none⟩ = some (.int .i64 0) := cell_of hD 1
      go_wp2_with fail
      refine (traceValue p tb mb 3 (60000, 0) _ _ hSW.out).mono ?_
      rw [tf_far]
      simp only [valO, Option.isSome_none]
      rintro e w5 ⟨rfl, h5⟩
      go_wp2_with fail
      have hf5 : Fr [] W (w5.alloc (.cells #[.int .i64 v0.k, .int .i64 v0.n, .string v0.s] 23)) := h5.alloc _
      have hSt := hSW.out.fr0 hf5
      have d0 := ce_call hf5 d0
      have d1 := ce_call hf5 d1
      have hsz5 := hf5.size
      have lD5 : D < (w5.alloc (.cells #[.int .i64 v0.k, .int .i64 v0.n, .string v0.s] 23)).heap.size := by omega
      have hf5w : Fr [] w (w5.alloc (.cells #[.int .i64 v0.k, .int .i64 v0.n, .string v0.s] 23)) := (hfw.trans0 hW).trans0 hf5
      generalize w5.alloc (.cells #[.int .i64 v0.k, .int .i64 v0.n, .string v0.s] 23) = X at *
      have hC : Fr [tb, mb] X X := Fr.refl _ _
      go_cut [67] (fun s67 wx => s67 = .bool false ∧ StIs wx p tb mb 3 (full2T k) ∧ Fr [tb, mb] X wx)
      case first =>
        go_region_held3 (fun u => u.cell? ⟨D, 0, none⟩ = some (.int .i64 60000) ∧ u.cell? ⟨D, 1, none⟩ = some (.int .i64 0))
          (((try dsimp only); refine ⟨?_, ?_⟩ <;> (repeat first | with_reducible assumption | with_reducible refine ce_drew ?_ | with_reducible refine ce_old ?_ | with_reducible refine ce_call hN1 ?_ | with_reducible refine ce_call hN5 ?_ | with_reducible refine ce_call hN2 ?_)))
          ((first
            | (go_at_call_of 16 (Value.int IntKind.i64 1); refine (numC 1 _).mono ?_; rintro e wN1 ⟨rfl, hN1⟩)
            | (go_at_call_of 16 (Value.int IntKind.i64 2); refine (numC 2 _).mono ?_; rintro e wN2 ⟨rfl, hN2⟩)
            | (go_at_call 16; refine (numC _ _).mono ?_; rintro e wN5 ⟨rfl, hN5⟩)
            | (go_at_call_of 15 (Value.agg #[Value.int IntKind.i64 0, Value.int IntKind.i64 0]); refine (tkZero p tb mb k _ _ _ (by refine hS2.fr0 ?_; repeat (first | with_reducible exact Fr.refl _ _ | with_reducible refine Fr.drew ?_ | with_reducible refine Fr.alloc ?_ _ | with_reducible refine Fr.transS ?_ hN5 | with_reducible refine Fr.transS ?_ hN2)) (by refine SlAt.of_block (cs := [.int .i64 60000, .int .i64 0]) (t := 26) (f := (0, 0)) ?_ rfl (by decide); repeat (first | with_reducible exact hp_new (by simp) | with_reducible refine hp_drew ?_ | with_reducible refine hp_old ?_ | with_reducible refine hp_call hN5 ?_ | with_reducible refine hp_call hN2 ?_)) (by refine SlAt.of_block (cs := [.int .i64 1, .int .i64 2, .string ⟨#[]⟩]) (t := 23) (f := (0, 0)) ?_ rfl (by decide); repeat (first | with_reducible exact hp_new (by simp) | with_reducible refine hp_drew ?_ | with_reducible refine hp_old ?_ | with_reducible refine hp_call hN5 ?_ | with_reducible refine hp_call hN2 ?_)) HK).mono ?_; rintro e wK3 ⟨rfl, hS3, hK3⟩; have hC3 : Fr [tb, mb] wK2 wK3 := Fr.transS (by repeat (first | with_reducible exact Fr.refl _ _ | with_reducible refine Fr.drew ?_ | with_reducible refine Fr.alloc ?_ _ | with_reducible refine Fr.trans0 ?_ hN5 | with_reducible refine Fr.trans0 ?_ hN2)) hK3; have hC4 : Fr [tb, mb] X wK3 := Fr.transS hC2 hC3; have d0 : wK3.cell? ⟨D, 0, none⟩ = some (.int .i64 60000) := (hC3.cell (p := ⟨D, 0, none⟩) lDK2 mD).trans d0; have d1 : wK3.cell? ⟨D, 1, none⟩ = some (.int .i64 0) := (hC3.cell (p := ⟨D, 1, none⟩) lDK2 mD).trans d1)
            | (go_at_call_of 15 (Value.agg #[Value.int IntKind.i64 9, Value.int IntKind.i64 0, Value.string ⟨#[]⟩]); refine (tkBad p tb mb k _ hS1).mono ?_; rintro e wK2 ⟨rfl, hS2, hK2⟩; have hC2 : Fr [tb, mb] X wK2 := Fr.transS hC1 hK2; have lDK2 : D < wK2.heap.size := Nat.lt_of_lt_of_le lD5 hC2.size; have d0 : wK2.cell? ⟨D, 0, none⟩ = some (.int .i64 60000) := (hK2.cell (p := ⟨D, 0, none⟩) lDK1 mD).trans d0; have d1 : wK2.cell? ⟨D, 1, none⟩ = some (.int .i64 0) := (hK2.cell (p := ⟨D, 1, none⟩) lDK1 mD).trans d1)
            | (go_at_call 15; refine (tkFar p tb mb k _ (by refine hSt.fr0 ?_; repeat (first | with_reducible exact Fr.refl _ _ | with_reducible refine Fr.drew ?_ | with_reducible refine Fr.alloc ?_ _ | with_reducible refine Fr.transS ?_ hN1)) HK).mono ?_; rintro e wK1 ⟨rfl, hS1, hK1⟩; have hC1 : Fr [tb, mb] X wK1 := Fr.transS (by repeat (first | with_reducible exact Fr.refl _ _ | with_reducible refine Fr.drew ?_ | with_reducible refine Fr.alloc ?_ _ | with_reducible refine Fr.trans0 ?_ hN1)) hK1; have lDK1 : D < wK1.heap.size := Nat.lt_of_lt_of_le lD5 hC1.size; have d0 : wK1.cell? ⟨D, 0, none⟩ = some (.int .i64 60000) := (hC1.cell (p := ⟨D, 0, none⟩) lD5 mD).trans d0; have d1 : wK1.cell? ⟨D, 1, none⟩ = some (.int .i64 0) := (hC1.cell (p := ⟨D, 1, none⟩) lD5 mD).trans d1)))
        all_goals
          go_wp2_with fail
          go_meet
          exact ⟨rfl, hS3, hC4⟩
      case rest =>
        obtain ⟨rfl, hS6, h6⟩ := hcut
        have HS6 := Lib.hid hS6
        have mDc := mD
        have lD6 := Nat.lt_of_lt_of_le lD5 h6.size
        have d0 : wc.cell? ⟨D, 0, none⟩ = some (.int .i64 60000) := (h6.cell (p := ⟨D, 0, none⟩) lD5 mD).trans d0
        have d1 : wc.cell? ⟨D, 1, none⟩ = some (.int .i64 0) := (h6.cell (p := ⟨D, 1, none⟩) lD5 mD).trans d1
        have hf6w : Fr [] w wc := hf5w.trans h6 (by simp; omega)
        clear hS6 hSt hSW
        go_wp2_with fail
        refine (traceValue p tb mb 3 (0, 0) _ _ HS6.out).mono ?_
        rw [full2T_00]
        simp only [valO, Option.isSome_some]
        rintro e w7 ⟨rfl, h7⟩
        go_wp2_with fail
        have hY : Fr [] wc (w7.alloc (.cells #[.int .i64 1, .int .i64 (-5), .string ⟨#[]⟩] 23)) := h7.alloc _
        have hE := heap_new w7 (.cells #[.int .i64 1, .int .i64 (-5), .string ⟨#[]⟩] 23)
        generalize w7.alloc (.cells #[.int .i64 1, .int .i64 (-5), .string ⟨#[]⟩] 23) = Y at *
        have hS7 := HS6.out.fr0 hY
        have d0 := ce_call hY d0
        have d1 := ce_call hY d1
        have h7z := h7.size
        have lDY : D < Y.heap.size := Nat.lt_of_lt_of_le lD6 hY.size
        have hYw : Fr [] w Y := hf6w.trans0 hY
        have Hnd := Lib.hid (show ((full2T k).map (·.1)).Nodup by
          obtain ⟨_, _, ls, hT, hM⟩ := HS6.out
          rw [← hM.keys]
          exact hT.nodup)
        obtain ⟨E, hEe⟩ : ∃ E, w7.heap.size = E := ⟨_, rfl⟩
        rw [hEe] at hE h7z ⊢
        have lEY := lt_of hE
        have mE : E ∉ [tb, mb] := by simp; omega
        have e0 : Y.cell? ⟨E, 0, none⟩ = some (.int .i64 1) := cell_of hE 0
        have e1 : Y.cell? ⟨E, 1, none⟩ = some (.int .i64 (-5)) := cell_of hE 1
        have e2 : Y.cell? ⟨E, 2, none⟩ = some (.string ⟨#[]⟩) := cell_of hE 2
        go_region_held3 (fun u => u.cell? ⟨D, 0, none⟩ = some (.int .i64 60000) ∧ u.cell? ⟨D, 1, none⟩ = some (.int .i64 0) ∧ u.cell? ⟨E, 0, none⟩ = some (.int .i64 1) ∧ u.cell? ⟨E, 1, none⟩ = some (.int .i64 (-5)) ∧ u.cell? ⟨E, 2, none⟩ = some (.string ⟨#[]⟩))
          (((try dsimp only); refine ⟨?_, ?_, ?_, ?_, ?_⟩ <;> (repeat first | with_reducible assumption | with_reducible refine ce_drew ?_ | with_reducible refine ce_old ?_ | with_reducible refine ce_call hN1 ?_ | with_reducible refine ce_call hN5 ?_)))
          ((first
            | (go_at_call_of 16 (Value.int IntKind.i64 1); refine (numC 1 _).mono ?_; rintro e wN1 ⟨rfl, hN1⟩)
            | (go_at_call 16; refine (numC _ _).mono ?_; rintro e wN5 ⟨rfl, hN5⟩)
            | (go_at_call 49; refine (tkAll p tb mb k _ (by refine hS7.fr0 ?_; repeat (first | with_reducible exact Fr.refl _ _ | with_reducible refine Fr.drew ?_ | with_reducible refine Fr.alloc ?_ _ | with_reducible refine Fr.transS ?_ hN5 | with_reducible refine Fr.transS ?_ hN1)) HK).mono ?_; rintro e wA ⟨aa, ac, rfl, hA⟩; have hA1 : Fr [] Y wA := Fr.trans0 (by repeat (first | with_reducible exact Fr.refl _ _ | with_reducible refine Fr.drew ?_ | with_reducible refine Fr.alloc ?_ _ | with_reducible refine Fr.trans0 ?_ hN5 | with_reducible refine Fr.trans0 ?_ hN1)) hA; have hSA := hS7.fr0 hA1; have d0 := ce_call hA1 d0; have d1 := ce_call hA1 d1; have e0 := ce_call hA1 e0; have e1 := ce_call hA1 e1; have e2 := ce_call hA1 e2)
            | (go_at_call 50; refine (tkDrop p tb mb k _ hSA HK).mono ?_; rintro e wD ⟨rfl, hSD, hD8⟩; have lD1 : D < wA.heap.size := Nat.lt_of_lt_of_le lDY hA1.size; have lE1 : E < wA.heap.size := Nat.lt_of_lt_of_le lEY hA1.size; have lD2 : D < wD.heap.size := Nat.lt_of_lt_of_le lD1 hD8.size; have lE2 : E < wD.heap.size := Nat.lt_of_lt_of_le lE1 hD8.size; have hCD : Fr [tb, mb] Y wD := Fr.transS (hA1.mono (by simp)) hD8; have d0 : wD.cell? ⟨D, 0, none⟩ = some (.int .i64 60000) := (hD8.cell (p := ⟨D, 0, none⟩) lD1 mD).trans d0; have d1 : wD.cell? ⟨D, 1, none⟩ = some (.int .i64 0) := (hD8.cell (p := ⟨D, 1, none⟩) lD1 mD).trans d1; have e0 : wD.cell? ⟨E, 0, none⟩ = some (.int .i64 1) := (hD8.cell (p := ⟨E, 0, none⟩) lE1 mE).trans e0; have e1 : wD.cell? ⟨E, 1, none⟩ = some (.int .i64 (-5)) := (hD8.cell (p := ⟨E, 1, none⟩) lE1 mE).trans e1; have e2 : wD.cell? ⟨E, 2, none⟩ = some (.string ⟨#[]⟩) := (hD8.cell (p := ⟨E, 2, none⟩) lE1 mE).trans e2)
            | (go_at_call_of 15 (Value.agg #[Value.int IntKind.i64 5, Value.int IntKind.i64 5]); refine (tkLast p tb mb k _ (by refine hS4.fr0 ?_; repeat (first | with_reducible exact Fr.refl _ _ | with_reducible refine Fr.drew ?_ | with_reducible refine Fr.alloc ?_ _ | with_reducible refine Fr.transS ?_ hN5 | with_reducible refine Fr.transS ?_ hN1)) HK Hnd.out).mono ?_; rintro e wL ⟨rfl, hL⟩; have hCL : Fr [tb, mb] wK4 wL := Fr.transS (by repeat (first | with_reducible exact Fr.refl _ _ | with_reducible refine Fr.drew ?_ | with_reducible refine Fr.alloc ?_ _ | with_reducible refine Fr.trans0 ?_ hN5 | with_reducible refine Fr.trans0 ?_ hN1)) hL; have d0 : wL.cell? ⟨D, 0, none⟩ = some (.int .i64 60000) := (hCL.cell (p := ⟨D, 0, none⟩) lD3 mD).trans d0; have d1 : wL.cell? ⟨D, 1, none⟩ = some (.int .i64 0) := (hCL.cell (p := ⟨D, 1, none⟩) lD3 mD).trans d1; have e0 : wL.cell? ⟨E, 0, none⟩ = some (.int .i64 1) := (hCL.cell (p := ⟨E, 0, none⟩) lE3 mE).trans e0; have e1 : wL.cell? ⟨E, 1, none⟩ = some (.int .i64 (-5)) := (hCL.cell (p := ⟨E, 1, none⟩) lE3 mE).trans e1; have e2 : wL.cell? ⟨E, 2, none⟩ = some (.string ⟨#[]⟩) := (hCL.cell (p := ⟨E, 2, none⟩) lE3 mE).trans e2)
            | (go_at_call 15; refine (tkFar3 p tb mb k _ (by refine hSD.fr0 ?_; repeat (first | with_reducible exact Fr.refl _ _ | with_reducible refine Fr.drew ?_ | with_reducible refine Fr.alloc ?_ _ | with_reducible refine Fr.transS ?_ hN5 | with_reducible refine Fr.transS ?_ hN1)) HK).mono ?_; rintro e wK4 ⟨rfl, hS4, hK4⟩; have hC4 : Fr [tb, mb] wD wK4 := Fr.transS (by repeat (first | with_reducible exact Fr.refl _ _ | with_reducible refine Fr.drew ?_ | with_reducible refine Fr.alloc ?_ _ | with_reducible refine Fr.trans0 ?_ hN5 | with_reducible refine Fr.trans0 ?_ hN1)) hK4; have lD3 : D < wK4.heap.size := Nat.lt_of_lt_of_le lD2 hC4.size; have lE3 : E < wK4.heap.size := Nat.lt_of_lt_of_le lE2 hC4.size; have d0 : wK4.cell? ⟨D, 0, none⟩ = some (.int .i64 60000) := (hC4.cell (p := ⟨D, 0, none⟩) lD2 mD).trans d0; have d1 : wK4.cell? ⟨D, 1, none⟩ = some (.int .i64 0) := (hC4.cell (p := ⟨D, 1, none⟩) lD2 mD).trans d1; have e0 : wK4.cell? ⟨E, 0, none⟩ = some (.int .i64 1) := (hC4.cell (p := ⟨E, 0, none⟩) lE2 mE).trans e0; have e1 : wK4.cell? ⟨E, 1, none⟩ = some (.int .i64 (-5)) := (hC4.cell (p := ⟨E, 1, none⟩) lE2 mE).trans e1; have e2 : wK4.cell? ⟨E, 2, none⟩ = some (.string ⟨#[]⟩) := (hC4.cell (p := ⟨E, 2, none⟩) lE2 mE).trans e2)))
        go_wp2
        go_ret
        exact ⟨rfl, ((hYw.trans hCD (by simp; omega)).trans hC4 (by simp; omega)).trans hCL (by simp; omega)⟩
end Go.Proofs.Ytldppdafgbipjaa
