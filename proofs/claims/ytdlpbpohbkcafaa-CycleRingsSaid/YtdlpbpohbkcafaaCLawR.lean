/-
  The walk of quadrillelaw21.CycleRings.
-/
import Derived.Test.YtdlpbpohbkcafaaCLawRB
import Derived.Test.YtdlpbpohbkcafaaCLawRD
import Derived.Test.YtdlpbpohbkcafaaCBegun
namespace Go.Proofs.Ytdlpbpohbkcafaa
open Go.RowKit Go.Shelf Go.Sort Go.Proofs

set_option maxRecDepth 100000 in
set_option maxHeartbeats 6400000 in
theorem cycleRings_walk (v : Value) (ns : List Nd) (w : World) (hv : NodesAt w v ns) : Calls Try.prog 3 #[v] w fun e w1 => e = .returned (.bool true) ∧ Fr [] w w1 := by
  have HV := Lib.hid hv
  clear hv
  go_enter Try.func3, Try.ntmps3
  go_wp2_with fail
  refine (begun21 _).mono ?_
  rintro e w1 ⟨rfl, h1⟩
  go_wp2_with fail
  refine (soundC v ns _ (HV.out.fr0 h1)).mono ?_
  rintro e w2 ⟨sv, ls, rfl, hls, hera, h2⟩
  have hsnd : SoundNs ls := ⟨by rw [hera]; exact soundP_ok _⟩
  have HLS := Lib.hid hls
  have HSN := Lib.hid hsnd
  have hl200 := hsnd.len
  have hF2 := h1.trans0 h2
  clear h1 h2 hls hera hsnd HV
  go_wp2_with fail
  refine (twinC sv ls _ HLS.out.nodes HSN.out.tot).mono ?_
  rintro e w3 ⟨tv, ls2, rfl, htw, hera2, h3⟩
  have HTW := Lib.hid htw
  have HE2 := Lib.hid hera2
  have hF3 := hF2.trans0 h3
  have HN3 := Lib.hid (HLS.out.nodes.fr0 h3)
  have hB2 : ls2.length + tot ls2 ≤ 4194304 := by
    have h := HSN.out.tot
    rw [tot_era, ← era_len ls] at h
    rw [tot_era, ← era_len ls2, hera2]
    exact h
  have hm2 : madeE ls2 = 0 := by
    have h := HSN.out.made
    rw [madeE_era] at h ⊢
    rw [hera2]
    exact h
  have hg2 := era_gSp hera2
  have hx2 := era_gNx hera2
  clear htw hera2 h3 hF2 HLS
  go_wp2_with fail
  refine (ringsC tv ls2 _ HTW.out.nodes hB2).mono ?_
  rw [hm2, hg2, hx2]
  rintro e w4 ⟨h4, ⟨h0, _⟩ | ⟨_, rv, vs, rfl, hown, htold⟩⟩
  · exact absurd rfl h0
  have HR := Lib.hid (rowsS_of hown htold)
  have HRF := Lib.hid (rings_facts HSN.out.nd)
  have HN4 := Lib.hid (HN3.out.fr0 h4)
  have hF4 := hF3.trans0 h4
  obtain ⟨sq, sc, rfl, hsq1, hsq2⟩ := HN4.out.row.form
  clear hB2 hm2 hg2 hx2 hown htold h4 hF3 HTW HN3 HE2
  generalize ringsOf (gSp ls) (gNx ls) = R at *
  have hmI := mkI ls.length (by omega)
  go_upto_block 0 with fail
  have hfW : Fr [] w4 (w4.alloc (.cells (Array.replicate ls.length (.int .i64 0)) tI)) := (Fr.refl [] w4).alloc _
  have hrW : (w4.alloc (.cells (Array.replicate ls.length (.int .i64 0)) tI)).rowIs w4.heap.size tI ls.length (fun _ => .int .i64 0) := row_new (heap_new w4 _)
  have HRW := Lib.hid hrW
  clear hrW hmI
  refine lawMarks w4 w4.heap.size ls R _ _ _ _ HN4.out HR.out HRF.out HSN.out.nd (Nat.le_refl _) HRW.out hfW _ ?_
  intros
  rename_i w5 hr5 hf5
  have HR5 := Lib.hid hr5
  clear hr5 HRW hfW
  dsimp only
  go_upto_block 4 with fail
  refine lawLists w4 w4.heap.size ls _ _ w5 HN4.out HSN.out.nd (by omega) hf5 _ ?_
  intros
  rename_i v10 v11 v12 v118 v119 v120 v121 v122 v123 v124 v125 v126 v127 v128 v129 v130 Ss w6 hSl hA6 hf6
  have HR6 := Lib.hid (row_fr HR5.out hf6 (by simp))
  have HA6 := Lib.hid hA6
  clear hA6 HR5
  dsimp only
  go_upto_block 6 with fail
  refine lawCheck _ w4.heap.size ls R _ _ _ Ss w6 ⟨_, _, rfl, hsq1, hsq2⟩ (by omega) HRF.out HR6.out HA6.out hSl _ ?_
  intros
  rename_i w7 hf7
  dsimp only
  go_wp2
  go_ret
  exact ⟨rfl, hF4.trans0 (hf5.trans0 (hf6.trans0 hf7))⟩
end Go.Proofs.Ytdlpbpohbkcafaa
