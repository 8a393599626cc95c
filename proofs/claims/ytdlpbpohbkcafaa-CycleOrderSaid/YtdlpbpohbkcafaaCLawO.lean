/-
  The walk of quadrillelaw21.CycleOrder.
-/
import Derived.Test.YtdlpbpohbkcafaaCLawOB
import Derived.Test.YtdlpbpohbkcafaaCBegun
namespace Go.Proofs.Ytdlpbpohbkcafaa
open Go.RowKit Go.Shelf Go.Sort Go.Proofs

set_option maxRecDepth 100000 in
set_option maxHeartbeats 6400000 in
theorem cycleOrder_walk (v : Value) (ns : List Nd) (w : World) (hv : NodesAt w v ns) : Calls Try.prog 4 #[v] w fun e w1 => e = .returned (.bool true) ∧ Fr [] w w1 := by
  have HV := Lib.hid hv
  clear hv
  go_enter Try.func4, Try.ntmps4
  go_wp2_with fail
  refine (begun21 _).mono ?_
  rintro e w1 ⟨rfl, h1⟩
  go_wp2_with fail
  refine (soundC v ns _ (HV.out.fr0 h1)).mono ?_
  rintro e w2 ⟨sv, ls, rfl, hls, hera, h2⟩
  have hsnd : SoundNs ls := ⟨by rw [hera]; exact soundP_ok _⟩
  have HLS := Lib.hid hls
  have HSN := Lib.hid hsnd
  have hl200 := hsnd.len
  have hF2 := h1.trans0 h2
  clear h1 h2 hls hera hsnd HV
  have HTW : Hid (∀ ls2 : List Nd, era ls2 = era ls → ls2.length + tot ls2 ≤ 4194304 ∧ madeE ls2 = 0 ∧ gSp ls2 = gSp ls ∧ gNx ls2 = gNx ls) := fun ls2 he => by
    refine ⟨?_, ?_, era_gSp he, era_gNx he⟩
    · have h := HSN.out.tot
      rw [tot_era, ← era_len ls] at h
      rw [tot_era, ← era_len ls2, he]
      exact h
    · have h := HSN.out.made
      rw [madeE_era] at h ⊢
      rw [he]
      exact h
  go_wp2_with fail
  refine (twinC sv ls _ HLS.out.nodes HSN.out.tot).mono ?_
  rintro e w3 ⟨tv, ls2, rfl, htw, hera2, h3⟩
  obtain ⟨hB2, hm2, hg2, hx2⟩ := HTW.out ls2 hera2
  have HT2 := Lib.hid htw
  have HN3 := Lib.hid (HLS.out.nodes.fr0 h3)
  have hF3 := hF2.trans0 h3
  clear htw hera2 h3 hF2 HLS
  go_wp2_with fail
  refine (ringsC tv ls2 _ HT2.out.nodes hB2).mono ?_
  rw [hm2, hg2, hx2]
  rintro e w4 ⟨h4, ⟨h0, _⟩ | ⟨_, rv, vs, rfl, hown, htold⟩⟩
  · exact absurd rfl h0
  have hRS := rowsS_of hown htold
  obtain ⟨rq, rc, rfl, hr1, hr2⟩ := hRS.form
  have HN4 := Lib.hid (HN3.out.fr0 h4)
  have hF4 := hF3.trans0 h4
  clear hB2 hm2 hg2 hx2 hown htold h4 hF3 HT2 HN3 hRS
  go_wp2_with fail
  refine (twinC sv ls _ HN4.out HSN.out.tot).mono ?_
  rintro e w5 ⟨tv3, ls3, rfl, htw, hera3, h5⟩
  obtain ⟨hB3, hm3, hg3, hx3⟩ := HTW.out ls3 hera3
  have HT3 := Lib.hid htw
  have HN5 := Lib.hid (HN4.out.fr0 h5)
  have hF5 := hF4.trans0 h5
  clear htw hera3 h5 hF4 HN4
  go_wp2_with fail
  refine (orderC tv3 ls3 _ HT3.out.nodes hB3).mono ?_
  rw [hm3, hg3, hx3]
  have HRN : Hid (ringsOf (gSp ls) (gNx ls) = [] ↔ (orderT (gNx ls)).length = ls.length) := rings_none
  have HLE : Hid ((orderT (gNx ls)).length ≤ ls.length) := by
    obtain ⟨k1, _⟩ := orderT_ok (gNx_nd' ls)
    have := nodup_lt k1.nodup k1.lt
    rwa [gNx_len] at this
  have HOF : Hid ((orderT (gNx ls)).length = ls.length → OrdFacts ls (spotsOf (gSp ls) (orderT (gNx ls)))) := ord_facts HSN.out.nd
  have hsl : (gSp ls).length = ls.length := gSp_len ls
  rintro e w6 ⟨h6, ⟨h0, _⟩ | ⟨_, hlt, rfl⟩ | ⟨_, hnlt, ov, rfl, hown⟩⟩
  · exact absurd rfl h0
  · have hRne : 0 < (ringsOf (gSp ls) (gNx ls)).length := List.length_pos_iff.2 fun e => by
      have := HRN.out.1 e
      omega
    have hR1 : (0 : Int) < ((ringsOf (gSp ls) (gNx ls)).length : Int) := by omega
    have hFF := hF5.trans0 h6
    clear hB3 hm3 hg3 hx3 hlt hsl h6
    generalize ringsOf (gSp ls) (gNx ls) = R at *
    go_wp2
    go_ret
    exact ⟨rfl, hFF⟩
  · have hOl : (orderT (gNx ls)).length = ls.length := by
      have := HLE.out
      omega
    have hRe : ringsOf (gSp ls) (gNx ls) = [] := HRN.out.2 hOl
    have HF := Lib.hid (HOF.out hOl)
    have hFF := hF5.trans0 h6
    have HN6 := Lib.hid (HN5.out.fr0 h6)
    have hLl : (spotsOf (gSp ls) (orderT (gNx ls))).length = (orderT (gNx ls)).length := by simp [spotsOf]
    have hLs : SpotsAt w6 ov (spotsOf (gSp ls) (orderT (gNx ls))) := by
      have := own_sl hown
      rw [← hLl] at this
      exact this
    have HLS := Lib.hid hLs
    have hlen2 := HF.out.len
    clear hB3 hm3 hg3 hx3 hnlt hsl h6 hown hLs hOl hLl HRN HLE HOF
    rw [hRe] at hr1 ⊢
    clear hRe
    generalize spotsOf (gSp ls) (orderT (gNx ls)) = L at *
    obtain ⟨sq, sc, rfl, hsq1, hsq2⟩ := HN6.out.row.form
    obtain ⟨oq, oc, rfl, ho1, ho2⟩ := HLS.out.form
    have hmI := mkI ls.length (by omega)
    have hne0 : ((ls.length : Int) != (ls.length : Int)) = false := by simp
    rw [hlen2]
    go_upto_block 0 with fail
    have HL2 : Hid (SpotsAt w6 (.slice oq ls.length oc) L) := by
      show SpotsAt _ _ _
      rw [show Value.slice oq ls.length oc = .slice oq L.length oc by rw [hlen2]]
      exact HLS.out
    have hfW : Fr [] w6 (w6.alloc (.cells (Array.replicate ls.length (.int .i64 0)) tI)) := (Fr.refl [] w6).alloc _
    have hrW : (w6.alloc (.cells (Array.replicate ls.length (.int .i64 0)) tI)).rowIs w6.heap.size tI ls.length (fun _ => .int .i64 0) := row_new (heap_new w6 _)
    have HRW := Lib.hid hrW
    clear hrW hmI HLS hlen2 ho1
    refine ordMarks w6 w6.heap.size ls L _ _ _ HN6.out HL2.out HF.out HSN.out.nd (Nat.le_refl _) HRW.out hfW _ ?_
    intros
    rename_i w7 hr7 hf7
    have HR7 := Lib.hid hr7
    clear hr7 HRW hfW
    dsimp only
    go_upto_block 2 with fail
    refine ordCheck w6 w6.heap.size ls L _ _ w7 HN6.out HL2.out HF.out HSN.out.nd (by omega) HR7.out hf7 _ ?_
    intros
    rename_i w8 hf8
    dsimp only
    go_wp2
    go_ret
    exact ⟨rfl, hFF.trans0 (hf7.trans0 hf8)⟩
end Go.Proofs.Ytdlpbpohbkcafaa
