/-
  cycle.Rings.
-/
import Derived.Test.YtdlpbpohbkcafaaCRingT
import Derived.Deep.LoopGhost
import Derived.Deep.RegionLaw
import Derived.Deep.AppendLies
import Derived.Deep.RegionHeld3
import Derived.Deep.CutBlock
import Derived.Deep.RegionWith
namespace Go.Proofs.Ytdlpbpohbkcafaa
open Go.RowKit Go.Shelf Go.Sort Go.Proofs

set_option maxRecDepth 100000 in
set_option maxHeartbeats 6400000 in
theorem ringsC (v : Value) (ns : List Nd) (w : World) (hv : NodesAt w v ns) (hB : ns.length + tot ns ≤ 4194304) : Calls Try.prog 9 #[v] w (RingsPost (madeE ns) (gSp ns) (gNx ns) w) := by
  have HV := Lib.hid hv
  clear hv
  go_enter Try.func9, Try.ntmps9
  go_wp2_with fail
  refine (madeC v ns w HV.out hB).mono ?_
  rintro e w1 ⟨hf1, ⟨h0, rfl⟩ | ⟨h0, g, rfl, hG⟩⟩
  · have h0' : ¬ madeE ns = 0 := h0
    go_wp2
    go_ret2
    exact ⟨hf1, .inl ⟨h0, rfl⟩⟩
  · obtain ⟨hn1, hn2, hn3⟩ := made_ok h0
    have HOKG := Lib.hid (gNx_ok ns)
    have htot : total (gNx ns) ≤ 4295032832 := by
      have h1 := total_le (gNx_le ns)
      rw [gNx_len] at h1
      exact Nat.le_trans h1 (Nat.le_trans (Nat.mul_le_mul hn1 (Nat.succ_le_succ hn1)) (by decide))
    have HGLE : Hid (∀ l ∈ gNx ns, l.length ≤ 65536) := fun l hl => Nat.le_trans (gNx_le ns l hl) hn1
    have hGl : (gNx ns).length = (gSp ns).length := by rw [gNx_len, gSp_len]
    have hsl : (gSp ns).length ≤ 65536 := by rw [gSp_len]; exact hn1
    have HE := Lib.hid h0
    clear h0
    have HW1 := Lib.hid hf1
    clear hf1
    generalize madeE ns = E at *
    generalize gSp ns = spots at *
    generalize gNx ns = G at *
    obtain ⟨sv, nv, rows, hg, hs, hn, hr⟩ := hG
    obtain ⟨q, c, rfl, hc1, hc2⟩ := hs.form
    obtain ⟨qn, cn, rfl, hn4, hn5⟩ := hn.form
    have HG := Lib.hid hg
    have HS := Lib.hid hs
    have HN := Lib.hid hn
    have HR := Lib.hid hr
    have HNS := Lib.hid hn3
    have hgl := lt_of hg
    have hg0 := cell_of hg 0
    clear hg hs hn hr hn1 hn2 hn3 HV hB
    have hmI := mkI spots.length (by omega)
    have hmB := mkB spots.length (by omega)
    go_upto_region 5 with fail
    go_cut [7, 8, 9] (fun s7 s8 s9 wx => ∃ I L O, s7 = .slice (some ⟨I, 0, none⟩) spots.length spots.length ∧ s8 = .slice (some ⟨L, 0, none⟩) spots.length spots.length ∧ s9 = .slice (some ⟨O, 0, none⟩) spots.length spots.length ∧ Blk I L O (w1.heap.size + 3) ∧ (w1.heap.size ≤ I ∧ w1.heap.size ≤ L ∧ w1.heap.size ≤ O) ∧ Fr [] w1 wx ∧ w1.heap.size + 3 ≤ wx.heap.size ∧ wx.rowIs I tI spots.length (fun _ => .int .i64 0) ∧ wx.rowIs L tI spots.length (fun _ => .int .i64 0) ∧ wx.rowIs O tB spots.length (fun _ => .bool false))
    case first =>
      go_region
      all_goals
        go_wp2
        go_meet
        refine ⟨_, _, _, rfl, rfl, rfl, ⟨by omega, by omega, by omega, by omega, by omega, by omega⟩, by omega, ((((Fr.refl [] w1).alloc _).alloc _).alloc _).drew, by simp, row_new ?_, row_new ?_, row_new ?_⟩
        all_goals (refine hp_drew ?_; first | (refine hp_new ?_; simp; done) | (refine hp_old (hp_new ?_); simp; done) | (refine hp_old (hp_old (hp_new ?_)); simp; done))
    case rest =>
      obtain ⟨I, L, O, rfl, rfl, rfl, hK, ⟨hI1, hL1, hO1⟩, hf3, hsz, rI, rL, rO⟩ := hcut
      have HT0 : Hid (TSAt I L O (w1.heap.size + 3) spots.length spots startT (.slice none 0 0) (.slice none 0 0) (.slice none 0 0) [] wc) :=
        ⟨rI, rL, rO, World.ownsRow_nil _ _ _ _, World.ownsRow_nil _ _ _ _, World.ownsRow_nil _ _ _ _, ⟨rfl, by simp, by simp⟩⟩
      have HK := Lib.hid hK
      clear rI rL rO hmI hmB hg0 hK
      go_wp2_with fail
      go_loopw [10, 11, 12, 47] (fun c p r i wr => ∃ (k : Nat) (vs : List Value), i = .int .i64 (k : Int) ∧ k ≤ spots.length ∧ RRel w1 I L O (w1.heap.size + 3) spots (firstT G k) c p r (.slice none 0 0) vs wr) (fun _ _ _ i _ => spots.length - (intOf i).toNat)
      case atStart => exact ⟨0, [], rfl, by omega, rfl, HT0.out, hf3, hsz⟩
      case round =>
        obtain ⟨k, vs, rfl, hk, rfl, hA, hF, hS⟩ := hrel
        have HA := Lib.hid hA
        clear hA
        by_cases hlt : k < spots.length
        · have hk1 : (k : Int) < (spots.length : Int) := by omega
          have HGR : Hid (∃ bn on cx, GrAt w1 g spots G (.slice q spots.length c) (.slice qn G.length cn) spots.length cx bn on) := by
            obtain ⟨bn, on, cx, e, hb, hcl⟩ := HN.out.cell (by omega)
            cases e
            refine ⟨bn, on, cn, HG.out, HS.out, by rw [hGl], rfl, hGl, fun v hv => ?_, hsl, hb⟩
            have hvG : v < G.length := by omega
            obtain ⟨rv, e1, e2⟩ := HR.out v hvG
            have e3 : nxs G v = G[v] := by unfold nxs; rw [List.getD_eq_getElem?_getD, List.getElem?_eq_getElem hvG]; rfl
            rw [e3]
            exact ⟨rv, hcl v rv e1, e2, HGLE.out _ (List.getElem_mem hvG)⟩
          obtain ⟨bn, on, cx, hGR⟩ := HGR.out
          go_upto_block 1 with fail
          refine ringsFrom w1 g I L O k spots G _ _ _ _ cx bn on vs wr HK ⟨hI1, hL1, hO1⟩ (Lib.hid hGR) HOKG htot hlt ⟨rfl, HA.out, hF, hS⟩ _ ?_
          intros
          rename_i vs' w' hR
          have HR2 := Lib.hid hR
          clear hR
          go_wp2
          go_roundw
          case rel => exact ⟨k + 1, vs', by go_num, by omega, HR2.out⟩
          case measure => simp [intOf]; omega
        · obtain rfl : k = spots.length := by omega
          have hall : firstT G spots.length = allT G := by rw [← hGl]; rfl
          have hBK := firstT_ok HOKG.out spots.length (by omega)
          rw [hall] at hBK HA
          have hAl := HA.out
          have hrr := hAl.rings
          have hne : ∀ r ∈ (allT G).rings, r ≠ [] := fun r hr => (hBK.l.rin r hr).1
          have hne2 : ∀ r ∈ (allT G).rings, r ≠ [] ∧ ∀ x ∈ r, x < spots.length := fun r hr => ⟨(hBK.l.rin r hr).1, fun x hx => by rw [← hGl]; exact ((hBK.l.rin r hr).2 x hx).1⟩
          have hfst := prs_fst (spots := spots) hrr.len
          have hpl := prs_len (spots := spots) hrr.len
          have hvl : vs.length ≤ 65536 := by
            rw [hrr.len]
            have := rings_len (g := G) hBK.l.rap hBK.l.rin
            omega
          have hown : wr.ownsRow (w1.heap.size + 3) tS 1 u12 (prs spots vs (allT G).rings).length ((prs spots vs (allT G).rings).map (·.1)) := by
            rw [hpl, hfst]
            exact hAl.rg
          have HSORT : Hid (Calls Try.prog 33 #[u12, .func (.func 34) #[] #[]] wr fun e w1' => e = .returned (.tuple #[]) ∧ w1'.ownsRow (w1.heap.size + 3) tS 1 u12 (prs spots vs (allT G).rings).length ((sortP (prs spots vs (allT G).rings)).map (·.1)) ∧ wr.grownBy w1' u12.ownBlock) := sortRings _ _ (by rw [hpl]; omega) hown (prs_head hrr hne hAl.rg) (prs_nodup HNS.out hrr.len hne2 hBK.l.rap)
          clear hown hfst hpl hne hne2 hrr hAl hBK hall
          go_wp2_with fail
          refine HSORT.out.mono ?_
          rintro e w4 ⟨rfl, hown4, hgr4⟩
          go_wp2
          go_ret2
          refine ⟨HW1.out.trans0 (hF.grown hgr4 (fun k hk => .inr (by have := (HA.out.rg.lt k hk).1; omega))), .inr ⟨HE.out, _, _, rfl, ?_, prs_told HA.out.rings HA.out.rg hgr4 (by have := HW1.out.size; omega)⟩⟩
          have := HW1.out.size
          have h5 := owns_mono (B' := w.heap.size) hown4 (by omega)
          simpa [(sortP_perm _).length_eq] using h5
end Go.Proofs.Ytdlpbpohbkcafaa
