/-
  cycle.Order: the next one.
-/
import Derived.Test.YtdlpbpohbkcafaaCOrdA
namespace Go.Proofs.Ytdlpbpohbkcafaa
open Go.RowKit Go.Shelf Go.Sort Go.Proofs

theorem OAt.outed {Wt Bk R B n : Nat} {waits : Nat → Nat} {heap : List Nat} {rows : Nat → Value} {bl : Nat → List Nat} {hv ov : Value} {w w1 : World} (K : OBlk Wt Bk R B) (h : OAt Wt Bk R B n waits heap rows bl hv w) {m : Nat} {xs : List Value} (ho : w.ownsRow B tSp 2 ov m xs) (hg : w.grownBy w1 ov.ownBlock) : OAt Wt Bk R B n waits heap rows bl hv w1 :=
  h.frS (fr_grown hg) (low_not ho K.w) (low_not ho K.b) (fun hm => own_box ho h.heap.box (by decide) R (by simpa using hm) rfl) (fun u hu => own_not (h.row u hu) ho (by decide)) (own_not h.heap.row ho (by decide))

set_option maxRecDepth 100000 in
set_option maxHeartbeats 3200000 in
theorem orderNext (w1 : World) (g Wt Bk R B : Nat) (spots : List Sp) (G : Dg) (sv nv hv ov : Value) (nl nc bn on : Nat) (rows : Nat → Value) (s : OS) (wr : World) {s0 s1 s2 s3 s5 s10 s11 s12 s13 s15 s16 s17 s18 s19 s20 s21 s22 s23 s24 s25 s26 s27 s28 s29 s30 s31 s32 s33 s34 s35 s36 s37 s38 s39 s40 s41 s42 s43 s44 s45 s46 s47 s48 s49 s50 s51 s52 s53 s54 s55 s56 s57 s58 s59 s60 s61 s62 s63 s64 s65 s66 s67 s68 s69 s70 s71 s72 s73 s74 s75 s76 s77 s78 s79 s80 s81 s82 s83 s84 s85 s86 s87 s88 s89 s90 s91 s92 s93 s94 s95 s96 s97 s98 s99 s100 s101 s102 s103 s104 s105 s106 s107 s108 s109 s110 s111 s112 s113 s114 s115 s116 s117 s118 s119 s120 s121 s122 s123 s124 s125 s126 s127 : Value} (K : OBlk Wt Bk R B) (hI : w1.heap.size ≤ Wt ∧ w1.heap.size ≤ Bk ∧ w1.heap.size ≤ B) (hGR : GrAt w1 g spots G sv nv nl nc bn on) (hN : OkN G)
    (hA : OAt Wt Bk R B spots.length s.waits s.heap rows (bk G) hv wr) (hO : wr.ownsRow B tSp 2 ov s.out.length ((spotsOf spots s.out).flatMap spC)) (hok : OkO G s.out 0 [] s) (hne : s.heap ≠ []) (hF : Fr [] w1 wr) (hS : B ≤ wr.heap.size) (Q : Exit → Act → World → Prop)
    (hQ : ∀ (n14 n15 n17 n83 n84 n85 n86 n87 n88 n89 n90 n91 n92 n93 n94 n95 n96 n97 n98 n99 n100 n101 n102 n103 n104 n105 n106 n107 n108 n109 n110 n111 n112 n113 n114 n115 n116 n117 n118 n119 n120 n121 n122 hv' : Value) (w' : World), OAt Wt Bk R B spots.length (pop1 G s).waits (pop1 G s).heap rows (bk G) hv' w' → w'.ownsRow B tSp 2 n14 (pop1 G s).out.length ((spotsOf spots (pop1 G s).out).flatMap spC) → Fr [] w1 w' → B ≤ w'.heap.size → Q .normal { tmps := #[s0, s1, s2, s3, .pointer (some ⟨g, 0, none⟩), s5, .int .i64 (spots.length : Int), .slice (some ⟨Wt, 0, none⟩) spots.length spots.length, .slice (some ⟨Bk, 0, none⟩) spots.length spots.length, .pointer (some ⟨R, 0, none⟩), s10, s11, s12, s13, n14, n15, s16, n17, s18, s19, s20, s21, s22, s23, s24, s25, s26, s27, s28, s29, s30, s31, s32, s33, s34, s35, s36, s37, s38, s39, s40, s41, s42, s43, s44, s45, s46, s47, s48, s49, s50, s51, s52, s53, s54, s55, s56, s57, s58, s59, s60, s61, s62, s63, s64, s65, s66, s67, s68, s69, s70, s71, s72, s73, s74, s75, s76, s77, s78, s79, s80, s81, s82, n83, n84, n85, n86, n87, n88, n89, n90, n91, n92, n93, n94, n95, n96, n97, n98, n99, n100, n101, n102, n103, n104, n105, n106, n107, n108, n109, n110, n111, n112, n113, n114, n115, n116, n117, n118, n119, n120, n121, n122, s123, s124, s125, s126, s127], defers := [] } w') :
    (subC [1, 1, 1, 1, 1, 1, 1, 1, 0, 0, 0, 1] (Try.f14.body.getD .skip)).wp Try.prog Q { tmps := #[s0, s1, s2, s3, .pointer (some ⟨g, 0, none⟩), s5, .int .i64 (spots.length : Int), .slice (some ⟨Wt, 0, none⟩) spots.length spots.length, .slice (some ⟨Bk, 0, none⟩) spots.length spots.length, .pointer (some ⟨R, 0, none⟩), s10, s11, s12, s13, ov, s15, s16, s17, s18, s19, s20, s21, s22, s23, s24, s25, s26, s27, s28, s29, s30, s31, s32, s33, s34, s35, s36, s37, s38, s39, s40, s41, s42, s43, s44, s45, s46, s47, s48, s49, s50, s51, s52, s53, s54, s55, s56, s57, s58, s59, s60, s61, s62, s63, s64, s65, s66, s67, s68, s69, s70, s71, s72, s73, s74, s75, s76, s77, s78, s79, s80, s81, s82, s83, s84, s85, s86, s87, s88, s89, s90, s91, s92, s93, s94, s95, s96, s97, s98, s99, s100, s101, s102, s103, s104, s105, s106, s107, s108, s109, s110, s111, s112, s113, s114, s115, s116, s117, s118, s119, s120, s121, s122, s123, s124, s125, s126, s127], defers := [] } wr := by
  have HQ := Lib.hid hQ
  have hG1 := hGR.len
  have hsl := hGR.lt
  have hlen := hok.heap_len
  have hpos := List.length_pos_iff.2 hne
  obtain ⟨ht1, ht2, ht3⟩ := take_ok hok hne
  have hpl := popL_perm hne
  have HTK := Lib.hid ht1
  have HNO := Lib.hid ht3
  have HP := Lib.hid (hPop R B hv s.heap wr hA.heap (by omega) hpos)
  have HA := Lib.hid hA
  have HO := Lib.hid hO
  have HGR := Lib.hid hGR
  have HOUT : Hid ((pop1 G s).out = s.out ++ [(popL s.heap).2]) := (pop_ok hN hok hne).2
  have HPOP : Hid (pop1 G s = (bk G (popL s.heap).2).foldl dec1 (take1 s)) := rfl
  have hol : s.out.length ≤ 65536 := by omega
  clear hQ hA hO hGR ht1 ht3 hpl hok hlen hpos
  show (Code.block 5 _).wp _ _ _ _
  dsimp only
  go_wp2_with fail
  refine HP.out.mono ?_
  rintro e w3 ⟨rfl, v1, hH3, hf3, hv3⟩
  have hA3 := HA.out.heaped K hf3 hH3 (fun k hk => .inl (by rw [← hv3]; exact hk))
  have hO3 := owns_fr HO.out hf3 (fun k hk hm => by
    rcases List.mem_cons.1 hm with e | hm
    · exact own_box HO.out HA.out.heap.box (by decide) k hk e
    · exact own_not HO.out HA.out.heap.row (by decide) k hk hm)
  have hF3 : Fr [] w1 w3 := hF.trans hf3 (fun x hx => .inr (by
    rcases List.mem_cons.1 hx with e | hx
    · rw [e]; have := K.r; omega
    · have := (own_hp HA.out.heap.row (g := x) (by simpa using hx)).1; omega))
  have hS3 := Nat.le_trans hS hf3.size
  generalize hv0 : (popL s.heap).2 = v0 at *
  generalize hh0 : (popL s.heap).1 = h0 at *
  have HH0 : Hid ((take1 s).heap = h0) := hh0
  have hta : ∀ W : World, (Instr.typeAssert (.iface tI (.int .i64 (v0 : Int))) 20 tI false).run Try.prog W = .ok (.int .i64 (v0 : Int)) W := fun _ => by kernel_rfl
  have hvn : v0 < spots.length := by rw [← hG1]; exact ht2
  have hv1 : (v0 : Int) < (spots.length : Int) := by omega
  have c0 := cell_of (hF3.heap HGR.out.hp (by simp)) 0
  obtain ⟨b2, off2, sc, e2, hbl2, d0, d1⟩ := spots_cell (HGR.out.sp.fr0 hF3) hvn
  rw [e2] at c0
  have hsp : spots.getD v0 (0, 0) = spots[v0] := by rw [List.getD_eq_getElem?_getD, List.getElem?_eq_getElem hvn]; rfl
  have HSP : Hid ((spotsOf spots (s.out ++ [v0])).flatMap spC = (spotsOf spots s.out).flatMap spC ++ spC spots[v0]) := by
    show _ = _
    unfold spotsOf
    rw [List.map_append, List.flatMap_append, List.map_cons, List.map_nil, List.flatMap_cons, List.flatMap_nil, List.append_nil, hsp]
  have HE2 := Lib.hid e2
  have HA3 := Lib.hid hA3
  have HO3 := Lib.hid hO3
  clear hH3 hf3 hv3 hA3 hO3 hF hS HP HA HO ht2 hsp e2 hv0 hh0
  generalize spots[v0] = sp at *
  obtain ⟨i0, hi0, hz0, hz1, hz2⟩ := info_parts infoSpot
  have hown2 := HO3.out.alloc (.cells #[.int .i64 sp.1, .int .i64 sp.2] tSp)
  go_upto_region 23 with (at_builtin; refine wpList_append_own _ rfl _ _ 30 rfl B tSp i0 _ 2 16 Try.underlying30 hi0 hz0 hz1 hz2 rfl (by decide) _ _ _ rfl hown2 ⟨w3.heap.size, 0, none⟩ 1 1 (spC sp) rfl rfl (by have := news_of w3 (spC sp) tSp; simpa using this) (fun x hx => by simp at hx; rcases hx with rfl | rfl <;> rfl) (by unfold maxLen; omega) (by omega) (by simp; omega) ?_; intro v' w9 hown9 hgrow _)
  have hfa : Fr [] w3 (w3.alloc (.cells #[.int .i64 sp.1, .int .i64 sp.2] tSp)) := (Fr.refl [] w3).alloc _
  have hA9 := (HA3.out.fr0 hfa).outed K hown2 hgrow
  have hF9 : Fr [] w1 w9 := (hF3.trans0 hfa).grown hgrow (fun k hk => .inr (by have := (hown2.lt k hk).1; omega))
  have hS9 : B ≤ w9.heap.size := by
    have := hgrow.size
    simp at this
    omega
  have hO9 : w9.ownsRow B tSp 2 v' (s.out ++ [v0]).length ((spotsOf spots (s.out ++ [v0])).flatMap spC) := by
    rw [HSP.out, List.length_append]
    exact hown9
  have cB := hA9.bk.cell hvn
  have lB := hA9.bk.lt
  obtain ⟨bq, bn2, hbe, hb1, hb2⟩ := (own_sl (hA9.row v0 hvn)).form
  rw [hbe] at cB
  have HBE := Lib.hid hbe
  have HA9 := Lib.hid hA9
  have HO9 := Lib.hid hO9
  have hbl : (bk G v0).length ≤ 65536 := by
    refine Nat.le_trans (List.length_filter_le _ _) ?_
    rw [List.length_range]
    omega
  have HBM : Hid (∀ u ∈ bk G v0, u < spots.length ∧ v0 ∈ nxs G u) := fun u hu => by
    rw [← hG1]
    exact bk_mem.1 hu
  have HBN := Lib.hid (bk_nodup G v0)
  clear hA9 hO9 hown9 hgrow hfa hown2 hbe hF3 hS3 c0 hta d0 d1
  have HB1 : Hid (∀ j, j ≤ (bk G v0).length → OkO G s.out v0 ((bk G v0).take j) (((bk G v0).take j).foldl dec1 (take1 s))) := fun j _ => by
    have := decs_ok hN HNO.out ((bk G v0).take j) [] (take1 s) HTK.out (fun u hu => by
      have h1 := HBM.out u (List.mem_of_mem_take hu)
      exact ⟨by rw [hG1]; exact h1.1, h1.2, by simp⟩) (HBN.out.sublist (List.take_sublist _ _))
    rwa [List.nil_append] at this
  obtain ⟨l, hl⟩ : ∃ l, bk G v0 = l := ⟨_, rfl⟩
  rw [hl] at cB HBE hb1 HPOP hbl HBM HBN HB1
  have HLL := Lib.hid hl
  clear hl
  go_upto_block 6 with fail
  clear cB lB
  go_wp2_with fail
  go_loopw [17, 102] (fun _ i wx => ∃ (j : Nat) (hv' : Value), i = .int .i64 (j : Int) ∧ j ≤ l.length ∧ OAt Wt Bk R B spots.length ((l.take j).foldl dec1 (take1 s)).waits ((l.take j).foldl dec1 (take1 s)).heap rows (bk G) hv' wx ∧ wx.ownsRow B tSp 2 v' (s.out ++ [v0]).length ((spotsOf spots (s.out ++ [v0])).flatMap spC) ∧ Fr [] w1 wx ∧ B ≤ wx.heap.size) (fun _ i _ => l.length - (intOf i).toNat)
  case atStart => exact ⟨0, v1, rfl, by omega, by rw [List.take_zero, List.foldl_nil, HH0.out]; exact HA9.out, HO9.out, hF9, hS9⟩
  case round =>
    obtain ⟨j, hv', rfl, hj, hAj, hOj, hFj, hSj⟩ := hrel
    by_cases hjl : j < l.length
    · have hnum := own_sl (hAj.row v0 hvn)
      rw [HLL.out, HBE.out] at hnum
      obtain ⟨b, off, _, e, hb, c0⟩ := nums_cell hnum hjl
      cases e
      have hj1 : (j : Int) < (l.length : Int) := by omega
      obtain ⟨hu, hvu⟩ := HBM.out l[j] (List.getElem_mem hjl)
      have hokj := HB1.out j hj
      have hnt : l[j] ∉ l.take j := fun hm => by
        obtain ⟨i, hi, e⟩ := List.mem_take_iff_getElem.1 hm
        have := (List.getElem_inj HBN.out).1 e
        omega
      have hpos := (dec_ok hN hokj (by rw [hG1]; exact hu) hvu HNO.out hnt).2
      have hhl : ((l.take j).foldl dec1 (take1 s)).heap.length ≤ 65536 := by
        have := hokj.heap_len
        omega
      have HSN : Hid ((l.take (j + 1)).foldl dec1 (take1 s) = dec1 ((l.take j).foldl dec1 (take1 s)) l[j]) := by
        show _ = _
        rw [List.take_succ_eq_append_getElem hjl, List.foldl_append]
        rfl
      have hxs : ((l.take j).foldl dec1 (take1 s)).waits l[j] ≤ 65536 := by
        rw [hokj.wt _ (by rw [hG1]; exact hu)]
        obtain ⟨_, _, _, h3⟩ := HGR.out.row _ hu
        exact Nat.le_trans (List.length_filter_le _ _) h3
      clear hokj hnt hvu hnum
      generalize l[j] = u at *
      generalize (l.take j).foldl dec1 (take1 s) = sj at *
      obtain ⟨x, hx⟩ : ∃ x, sj.waits u = x + 1 := ⟨sj.waits u - 1, by omega⟩
      have hu1 : (u : Int) < (spots.length : Int) := by omega
      have wc := hAj.wt.cell hu
      have wf := hAj.wt.frozen u
      have wl := hAj.wt.lt
      rw [hx] at wc
      have hwr : wrap64 (x : Int) = (x : Int) := by
        have h1 : x + 1 ≤ 65536 := by rw [← hx]; exact hxs
        unfold wrap64
        omega
      have hA2 := hAj.putW K u x
      have HA2 := Lib.hid hA2
      have HOJ := Lib.hid hOj
      have HX := Lib.hid hx
      have hF2 : Fr [] w1 (wr.setCell ⟨Wt, u, none⟩ (.int .i64 (x : Int))) := hFj.setCell (.inr hI.1) _
      have hS2 : B ≤ (wr.setCell ⟨Wt, u, none⟩ (.int .i64 (x : Int))).heap.size := by simpa using hSj
      have HO2 := Lib.hid (owns_fr hOj (fr_cell wr Wt u (.int .i64 (x : Int))) (own_low hOj K.w))
      clear hA2 hAj hOj hx hpos hxs HOJ hFj hSj
      go_upto_region 27 with fail
      clear hwr wc wf wl
      generalize wr.setCell ⟨Wt, u, none⟩ (.int .i64 (x : Int)) = wx at *
      have wc := HA2.out.wt.cell hu
      rw [upd_same] at wc
      by_cases h0x : x = 0
      · subst h0x
        have wc0 : wx.cell? ⟨Wt, u, none⟩ = some (.int .i64 0) := wc
        clear wc
        have HD : Hid (dec1 sj u = { sj with waits := upd sj.waits u 0, heap := pushL sj.heap u }) := by
          show _ = _
          unfold dec1
          rw [HX.out, if_pos rfl]
        have HP2 := Lib.hid (hPush R B hv' sj.heap u wx HA2.out.heap hhl hS2)
        go_wp2_with fail
        refine HP2.out.mono ?_
        rintro e w5 ⟨rfl, v5, hH5, hf5, hn5⟩
        have hA5 := HA2.out.heaped K hf5 hH5 hn5
        have hO5 := owns_fr HO2.out hf5 (fun k hk hm => by
          rcases List.mem_cons.1 hm with e | hm
          · exact own_box HO2.out HA2.out.heap.box (by decide) k hk e
          · exact own_not HO2.out HA2.out.heap.row (by decide) k hk hm)
        have hF5 : Fr [] w1 w5 := hF2.trans hf5 (fun x hx => .inr (by
          rcases List.mem_cons.1 hx with e | hx
          · rw [e]; have := K.r; omega
          · have := (own_hp HA2.out.heap.row (g := x) (by simpa using hx)).1; omega))
        have hS5 := Nat.le_trans hS2 hf5.size
        have HA5 := Lib.hid hA5
        have HO5 := Lib.hid hO5
        clear hA5 hO5 hH5 hf5 hn5 wc0
        go_wp2
        go_roundw
        case rel => exact ⟨j + 1, v5, by go_num, by omega, by rw [HSN.out, HD.out]; exact HA5.out, HO5.out, hF5, hS5⟩
        case measure => simp [intOf]; omega
      · have HD : Hid (dec1 sj u = { sj with waits := upd sj.waits u x }) := by
          show _ = _
          unfold dec1
          rw [HX.out, if_neg (by omega)]
          rfl
        have h0b : ((x : Int) == 0) = false := by rw [beq_eq_false_iff_ne]; omega
        clear h0x
        go_wp2
        go_roundw
        case rel => exact ⟨j + 1, hv', by go_num, by omega, by rw [HSN.out, HD.out]; exact HA2.out, HO2.out, hF2, hS2⟩
        case measure => simp [intOf]; omega
    · obtain rfl : j = l.length := by omega
      rw [List.take_length, ← HPOP.out] at hAj
      have HAJ := Lib.hid hAj
      have HOJ := Lib.hid hOj
      clear hAj hOj
      go_wp2
      apply HQ.out
      · exact HAJ.out
      · rw [HOUT.out]
        exact HOJ.out
      · exact hFj
      · exact hSj
end Go.Proofs.Ytdlpbpohbkcafaa
