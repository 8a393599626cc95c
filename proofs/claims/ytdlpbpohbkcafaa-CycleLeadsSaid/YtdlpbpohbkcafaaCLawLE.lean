/-
  quadrillelaw21.CycleLeads: all leads; the walk.
-/
import Derived.Test.YtdlpbpohbkcafaaCLawLC
import Derived.Test.YtdlpbpohbkcafaaCBegun
namespace Go.Proofs.Ytdlpbpohbkcafaa
open Go.RowKit Go.Shelf Go.Sort Go.Proofs

theorem cmpR_less {s t : Sp} (h : ltS s t = true) : cmpR s t = -1 := by unfold cmpR; rw [if_pos h]
set_option maxRecDepth 100000 in
set_option maxHeartbeats 6400000 in
theorem leadCheck (wb : World) (ns : List Nd) (lx : List Lx) (v3 v5 : Value) (w : World) {s0 s1 s2 s4 s6 s8 s9 s10 s11 s12 s13 s14 s15 s16 s17 s18 s19 s20 s21 s22 s23 s24 s25 s26 s27 s28 s29 s30 s31 s32 s33 s34 s35 s36 s37 s38 s39 s40 s41 s42 s43 s44 s45 s46 s47 s48 s49 s50 s51 s52 s53 s54 s55 s56 s57 s58 s59 s60 s61 s62 s63 s64 s65 s66 s67 s68 s69 s70 s71 s72 s73 s74 s75 s76 s77 s78 s79 s80 s81 s82 s83 s84 s85 s86 s87 s88 s89 s90 s91 s92 s93 s94 s95 s96 s97 s98 s99 s100 s101 s102 s103 s104 s105 s106 s107 s108 s109 s110 s111 s112 s113 s114 s115 s116 s117 s118 s119 s120 s121 s122 s123 s124 s125 s126 s127 s128 s129 s130 s131 s132 s133 s134 s135 s136 s137 s138 s139 s140 s141 s142 s143 s144 s145 s146 s147 s148 s149 s150 s151 s152 s153 s154 s155 s156 s157 s158 s159 s160 s161 s162 s163 s164 s165 s166 s167 s168 s169 s170 s171 s172 s173 s174 s175 s176 s177 s178 s179 s180 s181 s182 s183 s184 s185 s186 s187 s188 s189 s190 s191 s192 s193 s194 s195 s196 s197 s198 s199 s200 s201 s202 s203 s204 s205 s206 s207 s208 s209 s210 s211 s212 s213 : Value} (hN : NodesAt wb v3 ns) (hL : LeadsAt wb v5 lx) (hnd : (atsN ns).Nodup) (hlen : ns.length ≤ 65536) (hF : LeadF ns lx) (hle : ∀ n ∈ ns, n.next.length ≤ 1)
    (hfr : Fr [] wb w) (Q : Exit → Act → World → Prop)
    (hQ : ∀ (n2 n7 n8 n9 n10 n11 n12 n55 n56 n57 n58 n59 n60 n61 n62 n63 n64 n65 n66 n67 n68 n69 n70 n71 n72 n73 n74 n75 n76 n77 n78 n79 n80 n81 n82 n83 n84 n85 n86 n87 n88 n89 n90 n91 n92 n93 n94 n95 n96 n97 n98 n99 n100 n101 n102 n103 n104 n105 n106 n107 n108 n109 n110 n111 n112 n113 n114 n115 n116 n117 n118 n119 n120 n121 n122 n123 n124 n125 n126 n127 n128 n129 n130 n131 n132 n133 n134 n135 n136 n137 n138 n139 n140 n141 n142 n143 n144 n145 n146 n147 n148 n149 n150 n151 n152 n153 n154 n155 n156 n157 n158 n159 n160 n161 n162 n163 n164 n165 n166 n167 n168 n169 n170 n171 n172 n173 n174 n175 n176 n177 n178 n179 n180 n181 n182 n183 n184 n185 n186 n187 n188 n189 n190 n191 n192 n193 n194 n195 n196 n197 n198 n199 n200 n201 n202 n203 n204 n205 n206 n207 n208 n209 n210 n211 n212 n213 : Value) (w' : World), Fr [] wb w' → Q .normal { tmps := #[s0, s1, n2, v3, s4, v5, s6, n7, n8, n9, n10, n11, n12, s13, s14, s15, s16, s17, s18, s19, s20, s21, s22, s23, s24, s25, s26, s27, s28, s29, s30, s31, s32, s33, s34, s35, s36, s37, s38, s39, s40, s41, s42, s43, s44, s45, s46, s47, s48, s49, s50, s51, s52, s53, s54, n55, n56, n57, n58, n59, n60, n61, n62, n63, n64, n65, n66, n67, n68, n69, n70, n71, n72, n73, n74, n75, n76, n77, n78, n79, n80, n81, n82, n83, n84, n85, n86, n87, n88, n89, n90, n91, n92, n93, n94, n95, n96, n97, n98, n99, n100, n101, n102, n103, n104, n105, n106, n107, n108, n109, n110, n111, n112, n113, n114, n115, n116, n117, n118, n119, n120, n121, n122, n123, n124, n125, n126, n127, n128, n129, n130, n131, n132, n133, n134, n135, n136, n137, n138, n139, n140, n141, n142, n143, n144, n145, n146, n147, n148, n149, n150, n151, n152, n153, n154, n155, n156, n157, n158, n159, n160, n161, n162, n163, n164, n165, n166, n167, n168, n169, n170, n171, n172, n173, n174, n175, n176, n177, n178, n179, n180, n181, n182, n183, n184, n185, n186, n187, n188, n189, n190, n191, n192, n193, n194, n195, n196, n197, n198, n199, n200, n201, n202, n203, n204, n205, n206, n207, n208, n209, n210, n211, n212, n213], defers := [] } w') :
    (subC [1, 1, 1, 1, 1, 1, 0, 1] (Try.f5.body.getD .skip)).wp Try.prog Q { tmps := #[s0, s1, s2, v3, s4, v5, s6, .int .i64 0, s8, s9, s10, s11, s12, s13, s14, s15, s16, s17, s18, s19, s20, s21, s22, s23, s24, s25, s26, s27, s28, s29, s30, s31, s32, s33, s34, s35, s36, s37, s38, s39, s40, s41, s42, s43, s44, s45, s46, s47, s48, s49, s50, s51, s52, s53, s54, s55, s56, s57, s58, s59, s60, s61, s62, s63, s64, s65, s66, s67, s68, s69, s70, s71, s72, s73, s74, s75, s76, s77, s78, s79, s80, s81, s82, s83, s84, s85, s86, s87, s88, s89, s90, s91, s92, s93, s94, s95, s96, s97, s98, s99, s100, s101, s102, s103, s104, s105, s106, s107, s108, s109, s110, s111, s112, s113, s114, s115, s116, s117, s118, s119, s120, s121, s122, s123, s124, s125, s126, s127, s128, s129, s130, s131, s132, s133, s134, s135, s136, s137, s138, s139, s140, s141, s142, s143, s144, s145, s146, s147, s148, s149, s150, s151, s152, s153, s154, s155, s156, s157, s158, s159, s160, s161, s162, s163, s164, s165, s166, s167, s168, s169, s170, s171, s172, s173, s174, s175, s176, s177, s178, s179, s180, s181, s182, s183, s184, s185, s186, s187, s188, s189, s190, s191, s192, s193, s194, s195, s196, s197, s198, s199, s200, s201, s202, s203, s204, s205, s206, s207, s208, s209, s210, s211, s212, s213], defers := [] } w := by
  have HQ := Lib.hid hQ
  have HN := Lib.hid hN
  have HL := Lib.hid hL
  have HND := Lib.hid hnd
  have HF := Lib.hid hF
  have HLE := Lib.hid hle
  obtain ⟨lq, lc, rfl, hl1, hl2⟩ := hL.form
  clear hQ hN hL hnd hF hle
  show (Code.block 2 _).wp _ _ _ _
  dsimp only
  go_wp2_with fail
  go_loopw [7] (fun i wr => ∃ k : Nat, i = .int .i64 (k : Int) ∧ k ≤ lx.length ∧ Fr [] wb wr) (fun i _ => lx.length - (intOf i).toNat)
  case atStart => exact ⟨0, rfl, by omega, hfr⟩
  case round =>
    obtain ⟨k, rfl, hk, hf⟩ := hrel
    clear hfr
    by_cases hlt : k < lx.length
    · have hk1 : (k : Int) < (lx.length : Int) := by omega
      have HLT := Lib.hid hlt
      obtain ⟨b, off, _, e, hb, c0, c1, _⟩ := leads_cell (HL.out.fr0 hf) hlt
      cases e
      by_cases hk0 : k = 0
      · subst hk0
        simp only [show ((0 : Nat) : Int) = 0 from rfl]
        clear c0 c1
        go_wp2_with fail
        go_quiet (fail)
        have hfA := Lib.hid (hf.drewN nq)
        go_upto_if 77 with fail
        refine wp_cond_false rfl ?_
        go_step
        simp only [Exit.then]
        go_step
        refine leadRest wb 0 ns lx _ _ _ HN.out HL.out HND.out hlen HF.out HLE.out HLT.out hfA.out _ ?_ ?_
        · intros
          rename_i w' hf'
          dsimp only
          go_wp2
          go_roundw
          case rel => exact ⟨1, rfl, by have := HLT.out; omega, hf'⟩
          case measure => have := HLT.out; simp [intOf]; omega
        · intros
          rename_i w' hf'
          dsimp only
          go_wp2
          go_roundw
          case rel => exact ⟨1, rfl, by have := HLT.out; omega, hf'⟩
          case measure => have := HLT.out; simp [intOf]; omega
      · obtain ⟨m, hm⟩ : ∃ m, m + 1 = k := ⟨k - 1, by omega⟩
        have hml : m < lx.length := by omega
        have hml1 : (m : Int) < (lx.length : Int) := by omega
        have hgt : decide (0 < (k : Int)) = true := decide_eq_true (by omega)
        have hgtn : 0 < k := by omega
        have hgtd : decide (0 < k) = true := decide_eq_true hgtn
        have hwr : IntKind.i64.wrap ((k : Int) - 1) = (m : Int) := by rw [IntKind.wrap_i64]; omega
        obtain ⟨_, _, _, e, _, e0, e1, _⟩ := leads_cell (HL.out.fr0 hf) hml
        cases e
        have hcmp : cmpR lx[m].at_ lx[k].at_ = -1 := cmpR_less (by
          subst hm
          exact HF.out.asc m (by omega))
        have HM := Lib.hid hm
        clear hm hk0
        generalize lx[m].at_ = s at *
        generalize lx[k].at_ = t at *
        go_wp2_with fail
        go_region_held3 (fun u => u.cell? ⟨b, off + m * 6, none⟩ = some (.int .i64 s.1) ∧ u.cell? ⟨b, off + m * 6 + 1, none⟩ = some (.int .i64 s.2) ∧ u.cell? ⟨b, off + k * 6, none⟩ = some (.int .i64 t.1) ∧ u.cell? ⟨b, off + k * 6 + 1, none⟩ = some (.int .i64 t.2))
          (first | exact ⟨ce_drew e0, ce_drew e1, ce_drew c0, ce_drew c1⟩ | exact ⟨ce_call hA (ce_drew e0), ce_call hA (ce_drew e1), ce_call hA (ce_drew c0), ce_call hA (ce_drew c1)⟩)
          ((go_at_call 11; refine (refCmp s t _).mono ?_; rw [hcmp]; rintro e wA ⟨rfl, hA⟩))
        have HFA := Lib.hid (hf.trans0 (((Fr.refl [] wr).drew).transS hA))
        clear hA
        go_upto_if 77 with fail
        refine wp_cond_false rfl ?_
        go_step
        simp only [Exit.then]
        go_step
        refine leadRest wb k ns lx _ _ _ HN.out HL.out HND.out hlen HF.out HLE.out HLT.out HFA.out _ ?_ ?_
        · intros
          rename_i w' hf'
          dsimp only
          go_wp2
          go_roundw
          case rel => exact ⟨k + 1, by go_num, by have := HLT.out; omega, hf'⟩
          case measure => have := HLT.out; simp [intOf]; omega
        · intros
          rename_i w' hf'
          dsimp only
          go_wp2
          go_roundw
          case rel => exact ⟨k + 1, by go_num, by have := HLT.out; omega, hf'⟩
          case measure => have := HLT.out; simp [intOf]; omega
    · obtain rfl : k = lx.length := by omega
      go_wp2
      apply HQ.out
      exact hf
theorem leadsC_flat (l : List Sp) (G : Dg) : leadsC l G = (lxsOf l G).flatMap lxC := by
  unfold leadsC lxsOf
  rw [List.flatMap_map]
  rfl
set_option maxRecDepth 100000 in
set_option maxHeartbeats 6400000 in
theorem cycleLeads_walk (v : Value) (ns : List Nd) (w : World) (hv : NodesAt w v ns) : Calls Try.prog 5 #[v] w fun e w1 => e = .returned (.bool true) ∧ Fr [] w w1 := by
  have HV := Lib.hid hv
  clear hv
  go_enter Try.func5, Try.ntmps5
  go_wp2_with fail
  refine (begun21 _).mono ?_
  rintro e w1 ⟨rfl, h1⟩
  go_wp2_with fail
  refine (soundC v ns _ (HV.out.fr0 h1)).mono ?_
  rintro e w2 ⟨sv, ls0, rfl, hls, hera, h2⟩
  have hsnd0 : SoundNs ls0 := ⟨by rw [hera]; exact soundP_ok _⟩
  have HSN0 := Lib.hid hsnd0.cut
  have HLS := Lib.hid hls
  have hl200 := hsnd0.len
  have H2 := Lib.hid h2
  have H1 := Lib.hid h1
  clear h1 h2 hera HV hls hsnd0
  go_upto_block 0 with fail
  refine leadsCut w1 w1.heap.size ls0 sv _ w2 HLS.out (by omega) (Nat.le_refl _) H2.out _ ?_
  intros
  rename_i w3 hN3 hf3
  have HLE1 := Lib.hid (cut_le (ns := ls0))
  have hF3 := Lib.hid (H1.out.trans0 hf3)
  have HN3 := Lib.hid hN3
  have hls2 : (ls0.map cutN).length ≤ 200 := by rw [List.length_map]; exact hl200
  clear hN3 hf3 HLS H2 hl200
  generalize ls0.map cutN = ls at *
  have HTW : Hid (∀ ls2 : List Nd, era ls2 = era ls → ls2.length + tot ls2 ≤ 4194304 ∧ madeE ls2 = 0 ∧ gSp ls2 = gSp ls ∧ gNx ls2 = gNx ls) := fun ls2 he => by
    refine ⟨?_, ?_, era_gSp he, era_gNx he⟩
    · have h := HSN0.out.tot
      rw [tot_era, ← era_len ls] at h
      rw [tot_era, ← era_len ls2, he]
      exact h
    · have h := HSN0.out.made
      rw [madeE_era] at h ⊢
      rw [he]
      exact h
  have HND := Lib.hid HSN0.out.nd
  dsimp only
  go_wp2_with fail
  refine (twinC sv ls _ HN3.out HSN0.out.tot).mono ?_
  rintro e w4 ⟨tv, ls2, rfl, htw, hera2, h4⟩
  obtain ⟨hB2, hm2, hg2, hx2⟩ := HTW.out ls2 hera2
  have HT2 := Lib.hid htw
  have HN4 := Lib.hid (HN3.out.fr0 h4)
  have HF4 := Lib.hid (hF3.out.trans0 h4)
  clear htw hera2 h4 HN3 hF3 HTW HSN0
  go_wp2_with fail
  refine (leadsC' tv ls2 _ HT2.out.nodes hB2).mono ?_
  rw [hm2, hg2, hx2]
  rintro e w5 ⟨h5, ⟨h0, _⟩ | ⟨_, ⟨x, hx, hx1⟩, _⟩ | ⟨_, hhas, lv, rfl, hown⟩⟩
  · exact absurd rfl h0
  · exact absurd (gNx_le1 HND.out HLE1.out hx) (by omega)
  · have HF := Lib.hid (lead_facts HND.out fun x hx => (hhas x hx).2)
    have hlx : (lxsOf (gSp ls) (gNx ls)).length = ls.length := by rw [lxsOf_len, gSp_len]
    have hLA : LeadsAt w5 lv (lxsOf (gSp ls) (gNx ls)) := by
      have h := own_sl hown
      rw [leadsC_flat] at h
      show SlAt _ _ 6 (lxsOf (gSp ls) (gNx ls)).length _
      rw [lxsOf_len]
      exact h
    have HL := Lib.hid hLA
    have HN5 := Lib.hid (HN4.out.fr0 h5)
    have HF5 := Lib.hid (HF4.out.trans0 h5)
    clear hB2 hm2 hg2 hx2 hhas hown h5 HT2 HN4 HF4 hLA
    generalize lxsOf (gSp ls) (gNx ls) = lx at *
    obtain ⟨sq, sc, rfl, hsq1, hsq2⟩ := HN5.out.row.form
    obtain ⟨lq, lc, rfl, hl1, hl2⟩ := HL.out.form
    have hne0 : ((lx.length : Int) != (ls.length : Int)) = false := by rw [hlx]; simp
    have HL2 : Hid (LeadsAt w5 (.slice lq ls.length lc) lx) := by
      show SlAt _ _ _ _ _
      rw [show Value.slice lq ls.length lc = .slice lq lx.length lc by rw [hlx]]
      exact HL.out
    go_upto_block 2 with fail
    refine leadCheck w5 ls lx _ _ w5 HN5.out HL2.out HND.out (by omega) HF.out HLE1.out (Fr.refl _ _) _ ?_
    intros
    rename_i w6 hf6
    dsimp only
    go_wp2
    go_ret
    exact ⟨rfl, HF5.out.trans0 hf6⟩
end Go.Proofs.Ytdlpbpohbkcafaa
