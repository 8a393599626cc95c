/-
  cycle.Order.
-/
import Derived.Test.YtdlpbpohbkcafaaCOrdB
namespace Go.Proofs.Ytdlpbpohbkcafaa
open Go.RowKit Go.Shelf Go.Sort Go.Proofs

theorem gNx_nd (ns : List Nd) : OkN (gNx ns) := by
  intro v
  unfold nxs
  rw [List.getD_eq_getElem?_getD]
  cases h : (gNx ns)[v]? with
  | none => simp
  | some l =>
    have hm := List.mem_of_getElem? h
    unfold gNx at hm
    obtain ⟨s, _, rfl⟩ := List.mem_map.1 hm
    exact List.Pairwise.filter _ List.nodup_range
def OrderPost (E : Int) (l : List Sp) (G : Dg) (w : World) (e : Ending) (w1 : World) : Prop :=
  Fr [] w w1 ∧ ((E ≠ 0 ∧ e = .returned (.tuple #[.slice none 0 0, .int .i64 E])) ∨
    (E = 0 ∧ (orderT G).length < l.length ∧ e = .returned (.tuple #[.slice none 0 0, .int .i64 3])) ∨
    (E = 0 ∧ ¬ (orderT G).length < l.length ∧ ∃ sv, e = .returned (.tuple #[sv, .int .i64 0]) ∧ w1.ownsRow w.heap.size tSp 2 sv (orderT G).length ((spotsOf l (orderT G)).flatMap spC)))
set_option maxRecDepth 100000 in
set_option maxHeartbeats 6400000 in
theorem orderC (v : Value) (ns : List Nd) (w : World) (hv : NodesAt w v ns) (hB : ns.length + tot ns ≤ 4194304) : Calls Try.prog 14 #[v] w (OrderPost (madeE ns) (gSp ns) (gNx ns) w) := by
  have HV := Lib.hid hv
  clear hv
  go_enter Try.func14, Try.ntmps14
  go_wp2_with fail
  refine (madeC v ns w HV.out hB).mono ?_
  rintro e w1 ⟨hf1, ⟨h0, rfl⟩ | ⟨h0, g, rfl, hG⟩⟩
  · have h0' : ¬ madeE ns = 0 := h0
    go_wp2
    go_ret2
    exact ⟨hf1, .inl ⟨h0, rfl⟩⟩
  · obtain ⟨hn1, hn2, hn3⟩ := made_ok h0
    have HOKG := Lib.hid (gNx_ok ns)
    have HOKN := Lib.hid (gNx_nd ns)
    have HGLE : Hid (∀ l ∈ gNx ns, l.length ≤ 65536) := fun l hl => Nat.le_trans (gNx_le ns l hl) hn1
    have hGl : (gNx ns).length = (gSp ns).length := by rw [gNx_len, gSp_len]
    have hsl : (gSp ns).length ≤ 65536 := by rw [gSp_len]; exact hn1
    have HE := Lib.hid h0
    clear h0
    have HW1 := Lib.hid hf1
    clear hf1
    generalize madeE ns = E at *
    generalize gSp ns = spots at *
    generalize gNx ns = G at *
    obtain ⟨sv, nv, rows, hg, hs, hn, hr⟩ := hG
    obtain ⟨q, c, rfl, hc1, hc2⟩ := hs.form
    obtain ⟨qn, cn, rfl, hn4, hn5⟩ := hn.form
    rw [hGl] at hg
    rw [hGl] at hn
    have HG := Lib.hid hg
    have HS := Lib.hid hs
    have HN := Lib.hid hn
    have HR := Lib.hid hr
    have hgl := lt_of hg
    have hg0 := cell_of hg 0
    clear hg hs hn hr hn1 hn2 hn3 HV hB
    have hmI := mkI spots.length (by omega)
    have hmS := mkSS spots.length (by omega)
    go_upto_region 5 with fail
    go_cut [7, 8] (fun s7 s8 wx => ∃ Wt Bk, s7 = .slice (some ⟨Wt, 0, none⟩) spots.length spots.length ∧ s8 = .slice (some ⟨Bk, 0, none⟩) spots.length spots.length ∧ (Wt < w1.heap.size + 2 ∧ Bk < w1.heap.size + 2 ∧ Wt ≠ Bk) ∧ (w1.heap.size ≤ Wt ∧ w1.heap.size ≤ Bk) ∧ Fr [] w1 wx ∧ w1.heap.size + 2 ≤ wx.heap.size ∧ wx.rowIs Wt tI spots.length (fun _ => .int .i64 0) ∧ wx.rowIs Bk tIS spots.length (fun _ => .slice none 0 0))
    case first =>
      go_region
      all_goals
        go_wp2
        go_meet
        refine ⟨_, _, rfl, rfl, ⟨by omega, by omega, by omega⟩, by omega, (((Fr.refl [] w1).alloc _).alloc _).drew, by simp, row_new ?_, row_new ?_⟩
        all_goals (refine hp_drew ?_; first | (refine hp_new ?_; simp; done) | (refine hp_old (hp_new ?_); simp; done))
    case rest =>
      obtain ⟨Wt, Bk, rfl, rfl, ⟨hb1, hb2, hb3⟩, ⟨hW1, hK1⟩, hf3, hsz, rW, rB⟩ := hcut
      clear hmI hmS hg0
      have hg1 := cell_of (hf3.heap HG.out (by simp)) 1
      have RW := Lib.hid rW
      have RB := Lib.hid rB
      clear rW rB
      have hgl2 : g < wc.heap.size := Nat.lt_of_lt_of_le hgl hf3.size
      go_upto_block 0 with fail
      clear hg1 hgl2
      have hf0 : Fr [] wc ((wc.alloc (.cells #[] tI)).alloc (.cells #[.slice (some ⟨wc.heap.size, 0, none⟩) 0 0] tR)) := ((Fr.refl [] wc).alloc _).alloc _
      have HA0 : Hid (OAt Wt Bk (wc.heap.size + 1) (w1.heap.size + 2) spots.length (startO G 0).waits (startO G 0).heap (fun _ => .slice none 0 0) (bkK G 0) (.slice (some ⟨wc.heap.size, 0, none⟩) 0 0) ((wc.alloc (.cells #[] tI)).alloc (.cells #[.slice (some ⟨wc.heap.size, 0, none⟩) 0 0] tR))) := by
        refine ⟨(row_fr RW.out hf0 (by simp)).congr (fun i _ => by simp [startO]), row_fr RB.out hf0 (by simp), (fun u _ => by simpa [bkK] using World.ownsRow_nil _ _ _ _), (fun u _ u' _ _ k hk => by simp [Value.ownBlock] at hk), ⟨hp_new (by simp), ?_⟩, (fun u _ k hk => by simp [Value.ownBlock] at hk)⟩
        refine ⟨by simp [startO], .inr ⟨wc.heap.size, 0, #[], rfl, hsz, hp_old (hp_new rfl), Nat.zero_le _, by decide, rfl, rfl⟩⟩
      have hF0 := hf3.trans0 hf0
      have hS0 := Nat.le_trans hsz hf0.size
      have hK0 : OBlk Wt Bk (wc.heap.size + 1) (w1.heap.size + 2) := ⟨hb1, hb2, hb3, by omega⟩
      have HK := Lib.hid hK0
      clear RW RB hf0 hK0 hf3 hsz
      generalize (wc.alloc (.cells #[] tI)).alloc (.cells #[.slice (some ⟨wc.heap.size, 0, none⟩) 0 0] tR) = W0 at *
      generalize wc.heap.size + 1 = R at *
      generalize (Value.slice (some ⟨wc.heap.size, 0, none⟩) 0 0) = hv0 at *
      have HGRF : Hid (0 < spots.length → ∃ bn on cx, GrAt w1 g spots G (.slice q spots.length c) (.slice qn spots.length cn) spots.length cx bn on) := by
        intro hpos
        obtain ⟨bn, on, cx, e, hb, hcl⟩ := HN.out.cell (by omega)
        cases e
        refine ⟨bn, on, cn, HG.out, HS.out, rfl, rfl, hGl, fun v hv => ?_, hsl, hb⟩
        have hvG : v < G.length := by omega
        obtain ⟨rv, e1, e2⟩ := HR.out v hvG
        have e3 : nxs G v = G[v] := by unfold nxs; rw [List.getD_eq_getElem?_getD, List.getElem?_eq_getElem hvG]; rfl
        rw [e3]
        exact ⟨rv, hcl v rv e1, e2, HGLE.out _ (List.getElem_mem hvG)⟩
      go_wp2_with fail
      go_loopw [10, 11, 13, 42] (fun _ _ _ i wr => ∃ (k : Nat) (rows : Nat → Value) (hv : Value), i = .int .i64 (k : Int) ∧ k ≤ spots.length ∧ OAt Wt Bk R (w1.heap.size + 2) spots.length (startO G k).waits (startO G k).heap rows (bkK G k) hv wr ∧ Fr [] w1 wr ∧ w1.heap.size + 2 ≤ wr.heap.size) (fun _ _ _ i _ => spots.length - (intOf i).toNat)
      case atStart => exact ⟨0, _, _, rfl, by omega, HA0.out, hF0, hS0⟩
      case round =>
        obtain ⟨k, rws, hv, rfl, hk, hA, hF, hS⟩ := hrel
        have HA := Lib.hid hA
        clear hA
        by_cases hlt : k < spots.length
        · have hk1 : (k : Int) < (spots.length : Int) := by omega
          obtain ⟨bn, on, cx, hGR⟩ := HGRF.out (by omega)
          have HGR2 := Lib.hid hGR
          clear hGR
          go_upto_block 1 with fail
          refine orderRow w1 g Wt Bk R (w1.heap.size + 2) k spots G _ _ hv spots.length cx bn on rws wr HK.out ⟨hW1, hK1, by omega⟩ HGR2.out HOKG.out HOKN.out hlt HA.out hF hS _ ?_
          intros
          rename_i hv' rows' w' hA' hF' hS'
          have HA' := Lib.hid hA'
          clear hA'
          go_wp2
          go_roundw
          case rel => exact ⟨k + 1, rows', hv', by go_num, by omega, HA'.out, hF', hS'⟩
          case measure => simp [intOf]; omega
        · obtain rfl : k = spots.length := by omega
          have hAb := HA.out.congr (bl2 := bk G) (fun u _ => by unfold bk bkK; rw [hGl])
          have HAB := Lib.hid hAb
          have HOK0 : Hid (OkO G [] 0 [] (startO G spots.length)) := by
            have := start_okO G
            rwa [hGl] at this
          have HT0 : Hid ((runO G (spots.length + 1) (startO G spots.length)).out = orderT G) := by
            show _ = _
            unfold orderT
            rw [hGl]
          clear hAb HA HA0
          generalize hst : startO G spots.length = s0 at *
          have hs0 : s0.out = [] := by rw [← hst]; rfl
          have HS0 := Lib.hid hs0
          clear hst hs0
          go_upto_block 4 with fail
          go_wp2_with fail
          go_loopg [14, 15, 17] (spots.length + 1) (fun f ov _ _ wx => ∃ (s : OS) (hv' : Value), (runO G f s).out = orderT G ∧ OkO G s.out 0 [] s ∧ spots.length < s.out.length + f ∧ OAt Wt Bk R (w1.heap.size + 2) spots.length s.waits s.heap rws (bk G) hv' wx ∧ wx.ownsRow (w1.heap.size + 2) tSp 2 ov s.out.length ((spotsOf spots s.out).flatMap spC) ∧ Fr [] w1 wx ∧ w1.heap.size + 2 ≤ wx.heap.size)
          case atStart =>
            refine ⟨s0, hv, HT0.out, by rw [HS0.out]; exact HOK0.out, by omega, HAB.out, ?_, hF, hS⟩
            rw [HS0.out]
            exact World.ownsRow_nil _ _ _ _
          case round =>
            obtain ⟨s, hv', hrun, hok, hf, hA1, hO1, hF1, hS1⟩ := hrel
            have c0 := cell_of hA1.heap.box 0
            obtain ⟨q1, c1, hve, hc5, hc6⟩ := (own_sl hA1.heap.row).form
            have HV := Lib.hid hve
            have hlen := hok.heap_len
            have HA1 := Lib.hid hA1
            have HO1 := Lib.hid hO1
            have HOK := Lib.hid hok
            have hRl := lt_of hA1.heap.box
            clear hve hA1 hO1 hok
            have hsG : G.length = spots.length := hGl
            by_cases hne : s.heap = []
            · have HE1 : Hid (s.out = orderT G) := by
                show _ = _
                rw [← hrun]
                cases gk with
                | zero => rfl
                | succ f => rw [runO, if_pos hne]
              have hz : s.heap.length = 0 := by rw [hne]; rfl
              have hbl : s.out.length ≤ 65536 := by omega
              obtain ⟨oq, oc, rfl, ho1, ho2⟩ := (own_sl HO1.out).form
              clear hrun hne
              by_cases hsh : s.out.length < spots.length
              · go_wp2_with fail
                refine (rLen hv' _ _ _ HV.out _).mono ?_
                rintro e w4 ⟨rfl, rfl⟩
                rw [hz]
                clear hz
                go_wp2
                go_ret2
                refine ⟨HW1.out.trans0 hF1, .inr (.inl ⟨HE.out, by rw [← HE1.out]; exact hsh, rfl⟩)⟩
              · go_wp2_with fail
                refine (rLen hv' _ _ _ HV.out _).mono ?_
                rintro e w4 ⟨rfl, rfl⟩
                rw [hz]
                clear hz
                go_wp2
                go_ret2
                refine ⟨HW1.out.trans0 hF1, .inr (.inr ⟨HE.out, by rw [← HE1.out]; exact hsh, _, rfl, ?_⟩)⟩
                rw [← HE1.out]
                exact owns_mono HO1.out (by have := HW1.out.size; omega)
            · have hpos := List.length_pos_iff.2 hne
              have hp1 : (0 : Int) < (s.heap.length : Int) := by omega
              obtain ⟨f, rfl⟩ : ∃ f, gk = f + 1 := ⟨gk - 1, by omega⟩
              obtain ⟨bn, on, cx, hGR⟩ := HGRF.out (by omega)
              have HGR2 := Lib.hid hGR
              have HRUN : Hid ((runO G f (pop1 G s)).out = orderT G) := by
                rw [runO, if_neg hne] at hrun
                exact hrun
              have HPO := Lib.hid (pop_ok HOKN.out HOK.out hne)
              have HNE := Lib.hid hne
              clear hGR hrun hne
              go_wp2_with fail
              refine (rLen hv' _ _ _ HV.out _).mono ?_
              rintro e w4 ⟨rfl, rfl⟩
              go_upto_block 5 with fail
              refine orderNext w1 g Wt Bk R (w1.heap.size + 2) spots G _ _ hv' _ spots.length cx bn on rws s _ HK.out ⟨hW1, hK1, by omega⟩ HGR2.out HOKN.out HA1.out HO1.out HOK.out HNE.out hF1 hS1 _ ?_
              intros
              rename_i hv2 w' hA' hO' hF' hS'
              have HA' := Lib.hid hA'
              have HO' := Lib.hid hO'
              clear hA' hO'
              go_wp2
              go_roundg f
              case rel => exact ⟨pop1 G s, hv2, HRUN.out, HPO.out.1, by rw [HPO.out.2]; simp; omega, HA'.out, HO'.out, hF', hS'⟩
              case measure => omega
end Go.Proofs.Ytdlpbpohbkcafaa
