/-
  The walk of quadrillelaw21.CycleFresh.
-/
import Derived.Test.YtdlpbpohbkcafaaGreatCFrWB
namespace Go.Proofs.YtdlpbpohbkcafaaGreat
open Go.RowKit Go.Shelf Go.Sort Go.Proofs

set_option maxRecDepth 100000 in
set_option maxHeartbeats 6400000 in
theorem cycleFresh_walk (v : Value) (gs : List GNs) (w : World) (hv : GraphsAt w v gs) : Calls Tryz.prog 4 #[v] w fun e w1 => e = .returned (.bool true) ∧ Fr [] w w1 := by
  obtain ⟨vq, vc, rfl, hv1, hv2⟩ := hv.row.form
  have HV := Lib.hid hv
  clear hv
  go_enter Tryz.func4, Tryz.ntmps4
  go_wp2_with fail
  refine (begun21 _).mono ?_
  rintro e w1 ⟨rfl, h1⟩
  have H1 := Lib.hid h1
  clear h1
  have HI0 := Lib.hid (FI.start w1)
  go_wp2_with fail
  go_loopw [4, 5, 6] (fun qv wv iv wr => ∃ i : Nat, iv = .int .i64 (i : Int) ∧ i ≤ gs.length ∧ i ≤ 40 ∧ FI [] (fun _ => True) w1 w1.heap.size (6002 * i) (6002 * i) qv wv wr) (fun _ _ iv _ => gs.length - (intOf iv).toNat)
  case atStart => exact ⟨0, rfl, by omega, by omega, HI0.out⟩
  case round =>
    obtain ⟨i, rfl, hi, hi4, hI⟩ := hrel
    have HI := Lib.hid hI
    clear hI
    obtain ⟨WO, rfl⟩ : ∃ WO, WO = wr := ⟨_, rfl⟩
    have HF := Lib.hid (H1.out.trans0 HI.out.fr')
    by_cases hlt : i < gs.length ∧ i < 40
    · obtain ⟨hlt, h40⟩ := hlt
      have hi1 : (i : Int) < (gs.length : Int) := by omega
      have hi2 : (i : Int) < 40 := by omega
      obtain ⟨b, off, _, e, hb, c0⟩ := (HV.out.fr0 HF.out).cell hlt
      cases e
      obtain ⟨hnodes, hsm⟩ := (HV.out.fr0 H1.out).nodes gs[i] (List.getElem_mem hlt)
      generalize gs[i] = g at *
      obtain ⟨na, nc, ns⟩ := g
      simp only at c0 hnodes hsm
      have HNO := Lib.hid hnodes
      have HSM := Lib.hid hsm
      clear hnodes hsm
      go_wp2_with fail
      refine (lightC _ ns 3000 _ (HNO.out.fr0 HI.out.fr') HSM.out (by omega)).mono ?_
      rintro e w2 ⟨bb, rfl, hbb, h2⟩
      have H2 := Lib.hid h2
      have HBB := Lib.hid hbb
      have hb2 := Nat.lt_of_lt_of_le hb h2.size
      have c2 : w2.cell? ⟨b, off + i, none⟩ = some (.slice na ns.length nc) := (h2.cell hb (by simp)).trans c0
      clear h2 hbb c0 hb
      cases bb with
      | false =>
        clear c2
        go_wp2
        go_roundw
        case rel => exact ⟨i + 1, by go_num, by omega, by omega, (HI.out.fr0 H2.out).le (by omega) (by omega)⟩
        case measure => simp [intOf]; omega
      | true =>
        have HBD := Lib.hid (HBB.out rfl)
        have HB4 : Hid (ns.length + tot ns ≤ 4194304) := by have := HBD.out; show _ ≤ _; omega
        go_wp2_with fail
        refine (twinC _ ns _ (HNO.out.fr0 (HI.out.fr'.trans0 H2.out)) HB4.out).mono ?_
        rintro e w3 ⟨tv, ls, rfl, htw, hera, h3⟩
        have HERA := Lib.hid hera
        obtain ⟨MT, hMT, hst⟩ := twin_stb htw
        have HW := Lib.hid ((HI.out.fr0 H2.out).watch h3 hMT hst htw)
        clear c2 hb2 htw hera h3 hMT hst HI HF
        go_wp2_with fail
        go_loopw [4, 5, 9] (fun qv wv kv wx => ∃ k : Nat, kv = .int .i64 (k : Int) ∧ k ≤ 2 ∧ FI MT (fun u => TwinAt w2.heap.size u tv ls) w1 w1.heap.size (6002 * i + 3001 * k) (6002 * i + 3001 * k) qv wv wx) (fun _ _ kv _ => 2 - (intOf kv).toNat)
        case atStart => exact ⟨0, rfl, by omega, HW.out⟩
        case round =>
          obtain ⟨k, rfl, hk, hK⟩ := hrel
          have HK := Lib.hid hK
          clear hK
          by_cases hk2 : k < 2
          · have hk3 : (k : Int) < 2 := by omega
            go_upto_block 3 with fail
            refine freshRound MT w2.heap.size w1 wr w1.heap.size (6002 * i + 3001 * k) (6002 * i + 3001 * k) k _ _ tv _ ls ns HERA.out HBD.out HNO.out HK.out (by omega) (by omega) _ ?_
            intros
            rename_i qn wn w' hI'
            have HI' := Lib.hid hI'
            clear hI'
            dsimp only
            go_wp2
            go_roundw
            case rel => exact ⟨k + 1, by go_num, by omega, HI'.out.le (by omega) (by omega)⟩
            case measure => simp [intOf]; omega
          · obtain rfl : k = 2 := by omega
            obtain ⟨hd, ht⟩ := HK.out.drop
            have HD := Lib.hid hd
            have HT := Lib.hid ht
            clear hd ht
            go_wp2_with fail
            refine (keptC _ _ ls ns _ _ HT.out (HNO.out.fr0 HD.out.fr') HERA.out HB4.out).mono ?_
            rintro e w5 ⟨rfl, h5⟩
            have H5 := Lib.hid h5
            clear h5
            go_wp2
            go_roundw
            case rel => exact ⟨i + 1, by go_num, by omega, by omega, (HD.out.fr0 H5.out).le (by omega) (by omega)⟩
            case measure => simp [intOf]; omega
    · by_cases hlen : i < gs.length
      · obtain rfl : i = 40 := by omega
        have hi1 : ((40 : Nat) : Int) < (gs.length : Int) := by omega
        have hi2 : ¬ ((40 : Nat) : Int) < 40 := by omega
        clear hlt
        obtain ⟨K, es, lv, nv, sz, M, qs, ws, L, hJ⟩ := HI.out
        have HJ := Lib.hid hJ
        clear hJ HI
        go_wp2_with fail
        refine (wholeC w1.heap.size K es lv nv sz WO HJ.out.book (by have := HJ.out.len; omega)).mono ?_
        rintro e w2 ⟨rfl, h2⟩
        have HQ2 := Lib.hid (HJ.out.qq.fr h2 (fun b hb hm => HJ.out.apart b hm hb))
        have hsz := H1.out.size
        have HF2 := Lib.hid (HF.out.trans h2 fun x hx => .inr (by have := HJ.out.k0 x hx; omega))
        clear h2 hsz
        go_upto_block 10 with fail
        refine freshEqs w1.heap.size [] (fun _ => True) M _ _ qs ws L w2 HQ2.out _ ?_
        intros
        rename_i w3 h3
        have HF3 := Lib.hid (HF2.out.trans0 h3)
        clear h3
        dsimp only
        go_wp2
        go_ret
        exact ⟨rfl, HF3.out⟩
      · obtain rfl : i = gs.length := by omega
        have hi1 : ¬ (gs.length : Int) < (gs.length : Int) := by omega
        clear hlt
        obtain ⟨K, es, lv, nv, sz, M, qs, ws, L, hJ⟩ := HI.out
        have HJ := Lib.hid hJ
        clear hJ HI
        go_wp2_with fail
        refine (wholeC w1.heap.size K es lv nv sz WO HJ.out.book (by have := HJ.out.len; omega)).mono ?_
        rintro e w2 ⟨rfl, h2⟩
        have HQ2 := Lib.hid (HJ.out.qq.fr h2 (fun b hb hm => HJ.out.apart b hm hb))
        have hsz := H1.out.size
        have HF2 := Lib.hid (HF.out.trans h2 fun x hx => .inr (by have := HJ.out.k0 x hx; omega))
        clear h2 hsz
        go_upto_block 10 with fail
        refine freshEqs w1.heap.size [] (fun _ => True) M _ _ qs ws L w2 HQ2.out _ ?_
        intros
        rename_i w3 h3
        have HF3 := Lib.hid (HF2.out.trans0 h3)
        clear h3
        dsimp only
        go_wp2
        go_ret
        exact ⟨rfl, HF3.out⟩
end Go.Proofs.YtdlpbpohbkcafaaGreat
