/-
  cycle.Rings: from one place on.
-/
import Derived.Test.YtdlpbpohbkcafaaCRingS
import Derived.Deep.LoopGhost
namespace Go.Proofs.Ytdlpbpohbkcafaa
open Go.RowKit Go.Shelf Go.Sort Go.Proofs

set_option maxRecDepth 100000 in
set_option maxHeartbeats 3200000 in
theorem ringsFrom (w1 : World) (g I L O k : Nat) (spots : List Sp) (G : Dg) (p r sv nv : Value) (nc bn on : Nat) (vs : List Value) (wr : World) {s0 s1 s2 s3 s5 s13 s14 s15 s16 s17 s18 s19 s20 s21 s22 s23 s24 s25 s26 s27 s28 s29 s30 s31 s32 s33 s34 s35 s36 s37 s38 s39 s40 s41 s42 s43 s44 s45 s46 s48 s49 s50 s51 s52 s53 s54 s55 s56 s57 s58 s59 s60 s61 s62 s63 s64 s65 s66 s67 s68 s69 s70 s71 s72 s73 s74 s75 s76 s77 s78 s79 s80 s81 s82 s83 s84 s85 s86 s87 s88 s89 s90 s91 s92 s93 s94 s95 s96 s97 s98 s99 s100 s101 s102 s103 s104 s105 s106 s107 s108 s109 s110 s111 s112 s113 s114 s115 s116 s117 s118 s119 s120 s121 s122 s123 s124 s125 s126 s127 s128 s129 s130 s131 s132 s133 s134 s135 s136 s137 s138 s139 s140 s141 s142 s143 s144 s145 s146 s147 s148 s149 s150 s151 s152 s153 s154 s155 s156 s157 s158 s159 s160 s161 s162 s163 s164 s165 s166 s167 s168 s169 s170 s171 s172 s173 s174 s175 s176 s177 s178 s179 s180 s181 s182 s183 s184 s185 s186 s187 s188 s189 s190 s191 s192 s193 s194 s195 s196 s197 s198 s199 s200 s201 s202 s203 s204 s205 s206 s207 s208 s209 s210 s211 s212 s213 s214 s215 s216 s217 s218 s219 s220 s221 s222 s223 s224 s225 s226 s227 s228 s229 s230 s231 s232 s233 s234 s235 s236 s237 s238 s239 s240 s241 s242 s243 s244 s245 s246 s247 s248 s249 s250 s251 s252 : Value} (HK : Hid (Blk I L O (w1.heap.size + 3))) (hI : w1.heap.size ≤ I ∧ w1.heap.size ≤ L ∧ w1.heap.size ≤ O)
    (HGR : Hid (GrAt w1 g spots G sv nv spots.length nc bn on)) (HOKG : Hid (OkG G)) (htot : total G ≤ 4295032832) (hlt : k < spots.length)
    (hR : RRel w1 I L O (w1.heap.size + 3) spots (firstT G k) (.int .i64 ((firstT G k).count : Int)) p r (.slice none 0 0) vs wr) (Q : Exit → Act → World → Prop)
    (hQ : ∀ (n10 n11 n12 n13 n14 n15 n16 n17 n18 n19 n20 n22 n23 n24 n26 n49 n50 n51 n52 n53 n54 n55 n56 n57 n58 n59 n60 n61 n62 n63 n64 n65 n66 n67 n68 n69 n70 n71 n72 n73 n74 n75 n76 n77 n78 n79 n80 n81 n82 n83 n84 n85 n86 n87 n88 n89 n90 n91 n92 n93 n94 n95 n96 n97 n98 n99 n100 n101 n102 n103 n104 n105 n106 n107 n108 n109 n110 n111 n112 n113 n114 n115 n116 n117 n118 n119 n120 n121 n122 n123 n124 n125 n126 n127 n128 n129 n130 n131 n132 n133 n134 n135 n136 n137 n138 n139 n140 n141 n142 n143 n144 n145 n146 n147 n148 n149 n150 n151 n152 n153 n154 n155 n156 n157 n158 n159 n160 n161 n162 n163 n164 n165 n166 n167 n168 n169 n170 n171 n172 n173 n174 n175 n176 n177 n178 n179 n180 n181 n182 n183 n184 n185 n186 n187 n188 n189 n190 n191 n192 n193 n194 n195 n196 n197 n198 n199 n200 n201 n202 n203 n204 n205 n206 n207 n208 n209 n210 n211 n212 n213 n214 n215 n216 n217 n218 n219 n220 n221 n222 n223 n224 n225 n226 n227 n228 n229 n230 n231 n232 n233 n234 n235 n236 n237 n238 n239 n240 n241 n242 n243 n244 n245 n246 n247 n248 : Value) (vs' : List Value) (w' : World), RRel w1 I L O (w1.heap.size + 3) spots (firstT G (k + 1)) n10 n11 n12 (.slice none 0 0) vs' w' → Q .normal { tmps := #[s0, s1, s2, s3, .pointer (some ⟨g, 0, none⟩), s5, .int .i64 (spots.length : Int), .slice (some ⟨I, 0, none⟩) spots.length spots.length, .slice (some ⟨L, 0, none⟩) spots.length spots.length, .slice (some ⟨O, 0, none⟩) spots.length spots.length, n10, n11, n12, n13, n14, n15, n16, n17, n18, n19, n20, s21, n22, n23, n24, s25, n26, s27, s28, s29, s30, s31, s32, s33, s34, s35, s36, s37, s38, s39, s40, s41, s42, s43, s44, s45, s46, .int .i64 (k : Int), s48, n49, n50, n51, n52, n53, n54, n55, n56, n57, n58, n59, n60, n61, n62, n63, n64, n65, n66, n67, n68, n69, n70, n71, n72, n73, n74, n75, n76, n77, n78, n79, n80, n81, n82, n83, n84, n85, n86, n87, n88, n89, n90, n91, n92, n93, n94, n95, n96, n97, n98, n99, n100, n101, n102, n103, n104, n105, n106, n107, n108, n109, n110, n111, n112, n113, n114, n115, n116, n117, n118, n119, n120, n121, n122, n123, n124, n125, n126, n127, n128, n129, n130, n131, n132, n133, n134, n135, n136, n137, n138, n139, n140, n141, n142, n143, n144, n145, n146, n147, n148, n149, n150, n151, n152, n153, n154, n155, n156, n157, n158, n159, n160, n161, n162, n163, n164, n165, n166, n167, n168, n169, n170, n171, n172, n173, n174, n175, n176, n177, n178, n179, n180, n181, n182, n183, n184, n185, n186, n187, n188, n189, n190, n191, n192, n193, n194, n195, n196, n197, n198, n199, n200, n201, n202, n203, n204, n205, n206, n207, n208, n209, n210, n211, n212, n213, n214, n215, n216, n217, n218, n219, n220, n221, n222, n223, n224, n225, n226, n227, n228, n229, n230, n231, n232, n233, n234, n235, n236, n237, n238, n239, n240, n241, n242, n243, n244, n245, n246, n247, n248, s249, s250, s251, s252], defers := [] } w') :
    (subC [1, 1, 1, 1, 1, 1, 1, 1, 0, 1, 0, 0, 1, 1, 0] (Try.f9.body.getD .skip)).wp Try.prog Q { tmps := #[s0, s1, s2, s3, .pointer (some ⟨g, 0, none⟩), s5, .int .i64 (spots.length : Int), .slice (some ⟨I, 0, none⟩) spots.length spots.length, .slice (some ⟨L, 0, none⟩) spots.length spots.length, .slice (some ⟨O, 0, none⟩) spots.length spots.length, .int .i64 ((firstT G k).count : Int), p, r, s13, s14, s15, s16, s17, s18, s19, s20, s21, s22, s23, s24, s25, s26, s27, s28, s29, s30, s31, s32, s33, s34, s35, s36, s37, s38, s39, s40, s41, s42, s43, s44, s45, s46, .int .i64 (k : Int), s48, s49, s50, s51, s52, s53, s54, s55, s56, s57, s58, s59, s60, s61, s62, s63, s64, s65, s66, s67, s68, s69, s70, s71, s72, s73, s74, s75, s76, s77, s78, s79, s80, s81, s82, s83, s84, s85, s86, s87, s88, s89, s90, s91, s92, s93, s94, s95, s96, s97, s98, s99, s100, s101, s102, s103, s104, s105, s106, s107, s108, s109, s110, s111, s112, s113, s114, s115, s116, s117, s118, s119, s120, s121, s122, s123, s124, s125, s126, s127, s128, s129, s130, s131, s132, s133, s134, s135, s136, s137, s138, s139, s140, s141, s142, s143, s144, s145, s146, s147, s148, s149, s150, s151, s152, s153, s154, s155, s156, s157, s158, s159, s160, s161, s162, s163, s164, s165, s166, s167, s168, s169, s170, s171, s172, s173, s174, s175, s176, s177, s178, s179, s180, s181, s182, s183, s184, s185, s186, s187, s188, s189, s190, s191, s192, s193, s194, s195, s196, s197, s198, s199, s200, s201, s202, s203, s204, s205, s206, s207, s208, s209, s210, s211, s212, s213, s214, s215, s216, s217, s218, s219, s220, s221, s222, s223, s224, s225, s226, s227, s228, s229, s230, s231, s232, s233, s234, s235, s236, s237, s238, s239, s240, s241, s242, s243, s244, s245, s246, s247, s248, s249, s250, s251, s252], defers := [] } wr := by
  obtain ⟨_, hA, hF, hS⟩ := hR
  have HQ := Lib.hid hQ
  have hGl := HGR.out.len
  have hsl := HGR.out.lt
  obtain ⟨hI1, hL1, hO1⟩ := hI
  have HBK := Lib.hid (firstT_ok HOKG.out k (by omega))
  have HST := Lib.hid (firstT_succ G k)
  have hk1 : (k : Int) < (spots.length : Int) := by omega
  have cI := hA.ix.cell hlt
  have HA := Lib.hid hA
  clear hA hQ
  have hcnt : (firstT G k).count ≤ 4295032832 := by
    have := HBK.out.l.cnt
    omega
  generalize firstT G k = s at *
  show (Code.block 1 _).wp _ _ _ _
  dsimp only
  by_cases h0 : 0 < s.index k
  · have HE2 : Hid (fromT G s k = s) := by show _ = _; unfold fromT; rw [if_pos h0]
    have h0' : (0 : Int) < (s.index k : Int) := by omega
    go_wp2
    apply HQ.out
    rw [HST.out, HE2.out]
    exact ⟨rfl, HA.out, hF, hS⟩
  · obtain h0' : s.index k = 0 := by omega
    rw [h0'] at cI
    have HFROM : Hid (fromT G s k = runT G (total G + 1) { s with way := [(k, 0)] }) := by show _ = _; unfold fromT; rw [if_neg h0]; rfl
    go_upto_block 2 with fail
    have hwa : Fr [] wr (wr.alloc (.cells #[.int .i64 (k : Int), .int .i64 0] tW)) := (Fr.refl [] wr).alloc _
    have hwo : (wr.alloc (.cells #[.int .i64 (k : Int), .int .i64 0] tW)).ownsRow (w1.heap.size + 3) tW 2 (.slice (some ⟨wr.heap.size, 0, none⟩) 1 1) 1 [.int .i64 (k : Int), .int .i64 0] := World.ownsRow_lit wr #[.int .i64 (k : Int), .int .i64 0] 1 hS (by unfold maxLen; omega) rfl
    have hA0 := (HA.out.fr0 hwa).putWay HK.out (grown_refl _ _) (p := [(k, 0)]) hwo
    have hF0 := hF.trans0 hwa
    have hS0 := Nat.le_trans hS hwa.size
    obtain ⟨hL1, hT1, hl1⟩ := from_ok HBK.out (by rw [hGl]; exact hlt) h0'
    have HS1 : Hid (OkT G { s with way := [(k, 0)] } ∧ OkL G { s with way := [(k, 0)] } ∧ leftT G { s with way := [(k, 0)] } ≤ total G + 1) := ⟨hT1, hL1, Nat.le_succ_of_le hl1⟩
    clear hL1 hT1 hl1 HA hwa hwo cI h0 h0' hF hS
    generalize wr.alloc (.cells #[.int .i64 (k : Int), .int .i64 0] tW) = wa at *
    have HA0 := Lib.hid hA0
    clear hA0
    go_wp2_with fail
    go_loopg [10, 11, 12, 14] (total G + 1) (fun f c p r t wx => ∃ (s' : TS) (vs : List Value), runT G f s' = fromT G s k ∧ OkT G s' ∧ OkL G s' ∧ leftT G s' ≤ f ∧ RRel w1 I L O (w1.heap.size + 3) spots s' c p r t vs wx)
    case atStart => exact ⟨_, vs, HFROM.out.symm, HS1.out.1, HS1.out.2.1, HS1.out.2.2, rfl, HA0.out, hF0, hS0⟩
    case round =>
      obtain ⟨s1, vs1, hrun, hT, hL, hlf, rfl, hA1, hF1, hS1⟩ := hrel
      cases hway : s1.way with
      | nil =>
        obtain ⟨qw, cw, hw14, _, _⟩ := (own_sl hA1.way).form
        rw [hway] at hw14
        subst hw14
        have HN1 : Hid (fromT G s k = s1) := hrun.symm.trans (run_nil G gk hway)
        have HA1 := Lib.hid (hA1.noWay hway)
        clear hA1 hway hrun hT hL hlf
        go_wp2
        apply HQ.out
        rw [HST.out, HN1.out]
        exact ⟨rfl, HA1.out, hF1, hS1⟩
      | cons q rest =>
        obtain ⟨v, j⟩ := q
        obtain ⟨gw, cw, rfl, hgB, hgl, _⟩ := hA1.top hway
        have hne : s1.way ≠ [] := by rw [hway]; simp
        obtain ⟨hT2, hle2⟩ := step_ok HOKG.out hT hne
        have hL2 := step_okL HOKG.out hL hT hne
        obtain ⟨f, rfl⟩ : ∃ f, gk = f + 1 := ⟨gk - 1, by omega⟩
        rw [runT, if_neg hne] at hrun
        have HNEXT : Hid (runT G f (stepT G s1) = fromT G s k ∧ OkT G (stepT G s1) ∧ OkL G (stepT G s1) ∧ leftT G (stepT G s1) ≤ f) := ⟨hrun, hT2, hL2, by omega⟩
        have HT := Lib.hid hT
        have HL := Lib.hid hL
        have HWAY := Lib.hid hway
        have HA1 := Lib.hid hA1
        clear hrun hT2 hle2 hL2 hT hL hway hne hA1 hlf
        go_upto_block 3 with fail
        refine ringsStep w1 g I L O (w1.heap.size + 3) v j gw cw spots rest G s1 _ _ _ _ _ _ bn on vs1 wr HK.out ⟨hI1, hL1, hO1, by omega⟩ HGR.out HOKG.out HT.out HL.out htot HA1.out hF1 hS1 HWAY.out _ ?_
        intros
        rename_i vs' w' hR
        have HR2 := Lib.hid hR
        clear hR
        go_wp2
        go_roundg f
        case rel => exact ⟨_, vs', HNEXT.out.1, HNEXT.out.2.1, HNEXT.out.2.2.1, HNEXT.out.2.2.2, HR2.out⟩
        case measure => omega
end Go.Proofs.Ytdlpbpohbkcafaa
