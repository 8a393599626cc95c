/-
  cycle.Rings: one step.
  cycle.Rings: from one place on.
  cycle.Rings.
-/
import Derived.Test.YtdlpbpohbkcafaaGreatCRingB
import Derived.Test.YtdlpbpohbkcafaaGreatCRingE
import Derived.Deep.LoopGhost
import Derived.Deep.RegionLaw
import Derived.Deep.AppendLies
import Derived.Deep.RegionHeld3
import Derived.Deep.CutBlock
import Derived.Deep.RegionWith
namespace Go.Proofs.YtdlpbpohbkcafaaGreat
section
section
open Go.RowKit Go.Shelf Go.Sort Go.Proofs

/-- The graph's rows in memory. -/
structure GrAt (w1 : World) (g : Nat) (spots : List Sp) (G : Dg) (sv nv : Value) (nl nc bn on : Nat) : Prop where
  hp : w1.heap[g]? = some (.cells #[sv, nv] tG (0, 0))
  sp : SpotsAt w1 sv spots
  nv : nv = .slice (some ⟨bn, on, none⟩) nl nc
  nl : nl = spots.length
  len : G.length = spots.length
  row : ∀ v, v < spots.length → ∃ rv, w1.cell? ⟨bn, on + v, none⟩ = some rv ∧ NumsAt w1 rv (nxs G v) ∧ (nxs G v).length ≤ 65536
  lt : spots.length ≤ 65536
  bl : bn < w1.heap.size

set_option maxRecDepth 100000 in
set_option maxHeartbeats 3200000 in
theorem ringsStep (w1 : World) (g I L O B v j gw cw : Nat) (spots : List Sp) (rest : List (Nat × Nat)) (G : Dg) (s : TS) (p r sv nv : Value) (nl nc bn on : Nat) (vs : List Value) (w : World) {s0 s1 s2 s3 s5 s13 s15 s16 s17 s18 s19 s20 s21 s22 s23 s24 s25 s26 s27 s28 s29 s30 s31 s32 s33 s34 s35 s36 s37 s38 s39 s40 s41 s42 s43 s44 s45 s46 s47 s48 s49 s50 s51 s52 s53 s54 s55 s56 s57 s58 s59 s60 s61 s62 s63 s64 s65 s66 s67 s68 s69 s70 s71 s72 s73 s74 s75 s76 s77 s78 s79 s80 s81 s82 s83 s84 s85 s86 s87 s88 s89 s90 s91 s92 s93 s94 s95 s96 s97 s98 s99 s100 s101 s102 s103 s104 s105 s106 s107 s108 s109 s110 s111 s112 s113 s114 s115 s116 s117 s118 s119 s120 s121 s122 s123 s124 s125 s126 s127 s128 s129 s130 s131 s132 s133 s134 s135 s136 s137 s138 s139 s140 s141 s142 s143 s144 s145 s146 s147 s148 s149 s150 s151 s152 s153 s154 s155 s156 s157 s158 s159 s160 s161 s162 s163 s164 s165 s166 s167 s168 s169 s170 s171 s172 s173 s174 s175 s176 s177 s178 s179 s180 s181 s182 s183 s184 s185 s186 s187 s188 s189 s190 s191 s192 s193 s194 s195 s196 s197 s198 s199 s200 s201 s202 s203 s204 s205 s206 s207 s208 s209 s210 s211 s212 s213 s214 s215 s216 s217 s218 s219 s220 s221 s222 s223 s224 s225 s226 s227 s228 s229 s230 s231 s232 s233 s234 s235 s236 s237 s238 s239 s240 s241 s242 s243 s244 s245 s246 s247 s248 s249 s250 s251 s252 : Value} (K : Blk I L O B) (hI : w1.heap.size ≤ I ∧ w1.heap.size ≤ L ∧ w1.heap.size ≤ O ∧ w1.heap.size ≤ B)
    (hGr : GrAt w1 g spots G sv nv nl nc bn on) (hG : OkG G) (hT : OkT G s) (hL : OkL G s) (hcnt : total G ≤ 4295032832)
    (hA : TSAt I L O B spots.length spots s p r (.slice (some ⟨gw, 0, none⟩) (rest.length + 1) cw) vs w) (hF : Fr [] w1 w) (hS : B ≤ w.heap.size) (hw : s.way = (v, j) :: rest)
    (Q : Exit → Act → World → Prop)
    (hQ : ∀ (n10 n11 n12 n14 n15 n16 n17 n18 n19 n20 n22 n23 n24 n26 n61 n62 n63 n64 n65 n66 n67 n68 n69 n70 n71 n72 n73 n74 n75 n76 n77 n78 n79 n80 n81 n82 n83 n84 n85 n86 n87 n88 n89 n90 n91 n92 n93 n94 n95 n96 n97 n98 n99 n100 n101 n102 n103 n104 n105 n106 n107 n108 n109 n110 n111 n112 n113 n114 n115 n116 n117 n118 n119 n120 n121 n122 n123 n124 n125 n126 n127 n128 n129 n130 n131 n132 n133 n134 n135 n136 n137 n138 n139 n140 n141 n142 n143 n144 n145 n146 n147 n148 n149 n150 n151 n152 n153 n154 n155 n156 n157 n158 n159 n160 n161 n162 n163 n164 n165 n166 n167 n168 n169 n170 n171 n172 n173 n174 n175 n176 n177 n178 n179 n180 n181 n182 n183 n184 n185 n186 n187 n188 n189 n190 n191 n192 n193 n194 n195 n196 n197 n198 n199 n200 n201 n202 n203 n204 n205 n206 n207 n208 n209 n210 n211 n212 n213 n214 n215 n216 n217 n218 n219 n220 n221 n222 n223 n224 n225 n226 n227 n228 n229 n230 n231 n232 n233 n234 n235 n236 n237 n238 n239 n240 n241 n242 n243 n244 n245 n246 n247 n248 : Value) (vs' : List Value) (w' : World), RRel w1 I L O B spots (stepT G s) n10 n11 n12 n14 vs' w' → Q .normal { tmps := #[s0, s1, s2, s3, .pointer (some ⟨g, 0, none⟩), s5, .int .i64 (spots.length : Int), .slice (some ⟨I, 0, none⟩) spots.length spots.length, .slice (some ⟨L, 0, none⟩) spots.length spots.length, .slice (some ⟨O, 0, none⟩) spots.length spots.length, n10, n11, n12, s13, n14, n15, n16, n17, n18, n19, n20, s21, n22, n23, n24, s25, n26, s27, s28, s29, s30, s31, s32, s33, s34, s35, s36, s37, s38, s39, s40, s41, s42, s43, s44, s45, s46, s47, s48, s49, s50, s51, s52, s53, s54, s55, s56, s57, s58, s59, s60, n61, n62, n63, n64, n65, n66, n67, n68, n69, n70, n71, n72, n73, n74, n75, n76, n77, n78, n79, n80, n81, n82, n83, n84, n85, n86, n87, n88, n89, n90, n91, n92, n93, n94, n95, n96, n97, n98, n99, n100, n101, n102, n103, n104, n105, n106, n107, n108, n109, n110, n111, n112, n113, n114, n115, n116, n117, n118, n119, n120, n121, n122, n123, n124, n125, n126, n127, n128, n129, n130, n131, n132, n133, n134, n135, n136, n137, n138, n139, n140, n141, n142, n143, n144, n145, n146, n147, n148, n149, n150, n151, n152, n153, n154, n155, n156, n157, n158, n159, n160, n161, n162, n163, n164, n165, n166, n167, n168, n169, n170, n171, n172, n173, n174, n175, n176, n177, n178, n179, n180, n181, n182, n183, n184, n185, n186, n187, n188, n189, n190, n191, n192, n193, n194, n195, n196, n197, n198, n199, n200, n201, n202, n203, n204, n205, n206, n207, n208, n209, n210, n211, n212, n213, n214, n215, n216, n217, n218, n219, n220, n221, n222, n223, n224, n225, n226, n227, n228, n229, n230, n231, n232, n233, n234, n235, n236, n237, n238, n239, n240, n241, n242, n243, n244, n245, n246, n247, n248, s249, s250, s251, s252], defers := [] } w') :
    (subC [1, 1, 1, 1, 1, 1, 1, 1, 0, 1, 0, 0, 1, 1, 0, 0, 1, 1, 1, 0, 0, 1] (Tryz.f8.body.getD .skip)).wp Tryz.prog Q { tmps := #[s0, s1, s2, s3, .pointer (some ⟨g, 0, none⟩), s5, .int .i64 (spots.length : Int), .slice (some ⟨I, 0, none⟩) spots.length spots.length, .slice (some ⟨L, 0, none⟩) spots.length spots.length, .slice (some ⟨O, 0, none⟩) spots.length spots.length, .int .i64 (s.count : Int), p, r, s13, .slice (some ⟨gw, 0, none⟩) (rest.length + 1) cw, s15, s16, s17, s18, s19, s20, s21, s22, s23, s24, s25, s26, s27, s28, s29, s30, s31, s32, s33, s34, s35, s36, s37, s38, s39, s40, s41, s42, s43, s44, s45, s46, s47, s48, s49, s50, s51, s52, s53, s54, s55, s56, s57, s58, s59, s60, s61, s62, s63, s64, s65, s66, s67, s68, s69, s70, s71, s72, s73, s74, s75, s76, s77, s78, s79, s80, s81, s82, s83, s84, s85, s86, s87, s88, s89, s90, s91, s92, s93, s94, s95, s96, s97, s98, s99, s100, s101, s102, s103, s104, s105, s106, s107, s108, s109, s110, s111, s112, s113, s114, s115, s116, s117, s118, s119, s120, s121, s122, s123, s124, s125, s126, s127, s128, s129, s130, s131, s132, s133, s134, s135, s136, s137, s138, s139, s140, s141, s142, s143, s144, s145, s146, s147, s148, s149, s150, s151, s152, s153, s154, s155, s156, s157, s158, s159, s160, s161, s162, s163, s164, s165, s166, s167, s168, s169, s170, s171, s172, s173, s174, s175, s176, s177, s178, s179, s180, s181, s182, s183, s184, s185, s186, s187, s188, s189, s190, s191, s192, s193, s194, s195, s196, s197, s198, s199, s200, s201, s202, s203, s204, s205, s206, s207, s208, s209, s210, s211, s212, s213, s214, s215, s216, s217, s218, s219, s220, s221, s222, s223, s224, s225, s226, s227, s228, s229, s230, s231, s232, s233, s234, s235, s236, s237, s238, s239, s240, s241, s242, s243, s244, s245, s246, s247, s248, s249, s250, s251, s252], defers := [] } w := by
  have hv := (hT.bd (v, j) (by rw [hw]; simp)).1
  have hj := (hT.bd (v, j) (by rw [hw]; simp)).2
  simp only [hGr.len] at hv hj
  have hwl := hT.way_len
  rw [hw, hGr.len, List.length_cons] at hwl
  have hsl := hGr.lt
  have hup : ∀ q ∈ rest, q.1 < spots.length := fun q hq => by
    rw [← hGr.len]
    exact (hT.bd q (by rw [hw]; exact List.mem_cons_of_mem _ hq)).1
  have hV := visit_ok hL (by rw [hGr.len]; exact hv) hw
  have hVp : (visit s v).pile.length ≤ 65536 := by
    have := pile_len hV.pnd hV.pin
    rw [hGr.len] at this
    omega
  have hVn : ∀ x ∈ (visit s v).pile, x < spots.length := fun x hx => by
    rw [← hGr.len]
    exact (hV.pin x hx).1
  have hVr : (visit s v).rings.length ≤ 65536 := by
    have := rings_len (g := G) hV.rap hV.rin
    rw [hGr.len] at this
    omega
  have hspl : s.pile.length ≤ 65536 := by
    have := pile_len hL.pnd hL.pin
    rw [hGr.len] at this
    omega
  have hsc : s.count ≤ 4295032832 := by
    have := hL.cnt
    omega
  have hst : stepT G s = if j < (nxs G v).length then ahead1 v ((nxs G v).getD j 0) j rest (visit s v) else close1 G v (back1 v rest (visit s v)) := by
    unfold stepT
    rw [hw]
  obtain ⟨rv, hr1, hr2, hr3⟩ := hGr.row v hv
  obtain ⟨gw', cw', e0, hgB, hgl, w0, wj, fw, hcw, hcm⟩ := hA.top hw
  cases e0
  have hrl : rest.length ≤ 65536 := by omega
  have HQ := Lib.hid hQ
  have HGR := Lib.hid hGr
  have HV := Lib.hid hV
  have HVN := Lib.hid hVn
  have HST := Lib.hid hst
  have HUP := Lib.hid hup
  have HVW : Hid ((visit s v).way = (v, j) :: rest) := (visit_way s v).trans hw
  clear hQ hGr hV hVn hst hup hT hL
  have hv1 : (v : Int) < (spots.length : Int) := by omega
  have hc1 : (rest.length : Int) + 1 ≤ (cw : Int) := by omega
  have hc2 : (cw : Int) ≤ 9223372036854775807 := by omega
  have hr4 : IntKind.i64.wrap ((rest.length : Int) + 1 - 1) = (rest.length : Int) := by rw [IntKind.wrap_i64]; omega
  have iI := hA.ix.cell hv
  have HA := Lib.hid hA
  have HW := Lib.hid hw
  clear hA hw
  have hg1 : G.length = spots.length := HGR.out.len
  show (Code.block 3 _).wp _ _ _ _
  dsimp only
  go_upto_if 74 with fail
  go_cut [10, 11] from 74 to 91 (fun c p' wx => RRel w1 I L O B spots (visit s v) c p' r (.slice (some ⟨gw, 0, none⟩) (rest.length + 1) cw) vs wx)
  case first =>
    by_cases h0 : s.index v = 0
    · have e74 : ((s.index v : Int) == 0) = true := by rw [h0]; rfl
      refine wp_cond_true (congrArg Value.bool e74) ?_
      refine ringsVisit w1 g I L O B v spots s p r _ vs w K hI HA.out hF hS hv h0 hspl hsc _ ?_
      intros
      rename_i c' p' w' hR
      have HR := Lib.hid hR
      clear hR h0 e74
      go_wp2
      go_meet
      exact HR.out
    · have e74 : ((s.index v : Int) == 0) = false := by rw [beq_eq_false_iff_ne]; omega
      have HE : Hid (visit s v = s) := by show _ = _; unfold visit; rw [if_neg h0]
      go_wp2
      go_meet
      rw [HE.out]
      exact ⟨rfl, HA.out, hF, hS⟩
  case rest =>
    obtain ⟨rfl, hA2, hF2, hS2⟩ := hcut
    obtain ⟨gw', cw', e0, hgB2, hgl2, w02, wj2, fw2, hcw2, hcm2⟩ := hA2.top HVW.out
    cases e0
    obtain ⟨q, c, rfl, hr5, hr6⟩ := hr2.form
    have c1 := cell_of (hF2.heap HGR.out.hp (by simp)) 1
    have c2 := ce_call hF2 hr1
    have HR1 := Lib.hid hr1
    have HR2 := Lib.hid hr2
    have HA2 := Lib.hid hA2
    have enl := HGR.out.nl
    have env := HGR.out.nv
    subst env
    subst enl
    clear hr1 hr2 hA2 HA w0 wj fw iI
    generalize hs2 : visit s v = s2 at *
    go_upto_region 21 with fail
    go_region
    go_upto_if 104 with fail
    by_cases hkl : j < (nxs G v).length
    · refine wp_cond_true (congrArg Value.bool (decide_eq_true hkl)) ?_
      obtain ⟨br, ob, _, e1, hbr, c3⟩ := nums_cell (HR2.out.fr0 hF2) hkl
      cases e1
      have hun : (nxs G v).getD j 0 = (nxs G v)[j] := by rw [List.getD_eq_getElem?_getD, List.getElem?_eq_getElem hkl]; rfl
      have hu : (nxs G v)[j] < spots.length := by rw [← hg1]; exact hG.nx (List.getElem_mem hkl)
      rw [if_pos hkl, hun] at HST
      refine ringsAhead w1 g I L O B v j (nxs G v)[j] (nxs G v).length gw cw bn on br ob c spots rest s2 _ r vs _ _ K hI (HA2.out.fr0 ((Fr.refl [] wc).drew)) hF2.drew hS2 HVW.out hv hu hkl hrl hr3 ⟨_, _, rfl, hv⟩ c1 c2 c3 _ ?_
      intros
      rename_i w' hR
      show Q .normal _ _
      apply HQ.out
      rw [HST.out]
      exact ⟨by rw [hR.cnt, ahead1_count], hR.at', hR.fr, hR.sz⟩
    · rw [if_neg hkl] at HST
      refine wp_cond_false (congrArg Value.bool (decide_eq_false hkl)) ?_
      go_step
      simp only [Exit.then]
      go_step
      have HVC : Hid (s2.rings.length = vs.length) := by show _ = _; rw [← HA2.out.rings.len]
      refine ringsBack w1 g I L O B v j gw cw spots rest G s2 _ r sv _ (.slice q (nxs G v).length c) _ _ bn on vs _ K hI (HA2.out.fr0 ((Fr.refl [] wc).drew)) hF2.drew hS2 HVW.out HGR.out.hp HGR.out.sp ⟨rfl, hv, hsl⟩ HR1.out HR2.out hv HUP.out hrl HV.out.mem hVp HVN.out (by rw [← HVC.out]; exact hVr) _ ?_
      intros
      rename_i vs' w' hR
      constructor
      · show Q .normal _ _
        apply HQ.out
        rw [HST.out]
        exact ⟨by rw [close1_count, back1_count], hR.at', hR.fr, hR.sz⟩
      · show Q .normal _ _
        apply HQ.out
        rw [HST.out]
        exact ⟨by rw [close1_count, back1_count], hR.at', hR.fr, hR.sz⟩
end
section
open Go.RowKit Go.Shelf Go.Sort Go.Proofs

set_option maxRecDepth 100000 in
set_option maxHeartbeats 3200000 in
theorem ringsFrom (w1 : World) (g I L O k : Nat) (spots : List Sp) (G : Dg) (p r sv nv : Value) (nc bn on : Nat) (vs : List Value) (wr : World) {s0 s1 s2 s3 s5 s13 s14 s15 s16 s17 s18 s19 s20 s21 s22 s23 s24 s25 s26 s27 s28 s29 s30 s31 s32 s33 s34 s35 s36 s37 s38 s39 s40 s41 s42 s43 s44 s45 s46 s48 s49 s50 s51 s52 s53 s54 s55 s56 s57 s58 s59 s60 s61 s62 s63 s64 s65 s66 s67 s68 s69 s70 s71 s72 s73 s74 s75 s76 s77 s78 s79 s80 s81 s82 s83 s84 s85 s86 s87 s88 s89 s90 s91 s92 s93 s94 s95 s96 s97 s98 s99 s100 s101 s102 s103 s104 s105 s106 s107 s108 s109 s110 s111 s112 s113 s114 s115 s116 s117 s118 s119 s120 s121 s122 s123 s124 s125 s126 s127 s128 s129 s130 s131 s132 s133 s134 s135 s136 s137 s138 s139 s140 s141 s142 s143 s144 s145 s146 s147 s148 s149 s150 s151 s152 s153 s154 s155 s156 s157 s158 s159 s160 s161 s162 s163 s164 s165 s166 s167 s168 s169 s170 s171 s172 s173 s174 s175 s176 s177 s178 s179 s180 s181 s182 s183 s184 s185 s186 s187 s188 s189 s190 s191 s192 s193 s194 s195 s196 s197 s198 s199 s200 s201 s202 s203 s204 s205 s206 s207 s208 s209 s210 s211 s212 s213 s214 s215 s216 s217 s218 s219 s220 s221 s222 s223 s224 s225 s226 s227 s228 s229 s230 s231 s232 s233 s234 s235 s236 s237 s238 s239 s240 s241 s242 s243 s244 s245 s246 s247 s248 s249 s250 s251 s252 : Value} (HK : Hid (Blk I L O (w1.heap.size + 3))) (hI : w1.heap.size ≤ I ∧ w1.heap.size ≤ L ∧ w1.heap.size ≤ O)
    (HGR : Hid (GrAt w1 g spots G sv nv spots.length nc bn on)) (HOKG : Hid (OkG G)) (htot : total G ≤ 4295032832) (hlt : k < spots.length)
    (hR : RRel w1 I L O (w1.heap.size + 3) spots (firstT G k) (.int .i64 ((firstT G k).count : Int)) p r (.slice none 0 0) vs wr) (Q : Exit → Act → World → Prop)
    (hQ : ∀ (n10 n11 n12 n13 n14 n15 n16 n17 n18 n19 n20 n22 n23 n24 n26 n49 n50 n51 n52 n53 n54 n55 n56 n57 n58 n59 n60 n61 n62 n63 n64 n65 n66 n67 n68 n69 n70 n71 n72 n73 n74 n75 n76 n77 n78 n79 n80 n81 n82 n83 n84 n85 n86 n87 n88 n89 n90 n91 n92 n93 n94 n95 n96 n97 n98 n99 n100 n101 n102 n103 n104 n105 n106 n107 n108 n109 n110 n111 n112 n113 n114 n115 n116 n117 n118 n119 n120 n121 n122 n123 n124 n125 n126 n127 n128 n129 n130 n131 n132 n133 n134 n135 n136 n137 n138 n139 n140 n141 n142 n143 n144 n145 n146 n147 n148 n149 n150 n151 n152 n153 n154 n155 n156 n157 n158 n159 n160 n161 n162 n163 n164 n165 n166 n167 n168 n169 n170 n171 n172 n173 n174 n175 n176 n177 n178 n179 n180 n181 n182 n183 n184 n185 n186 n187 n188 n189 n190 n191 n192 n193 n194 n195 n196 n197 n198 n199 n200 n201 n202 n203 n204 n205 n206 n207 n208 n209 n210 n211 n212 n213 n214 n215 n216 n217 n218 n219 n220 n221 n222 n223 n224 n225 n226 n227 n228 n229 n230 n231 n232 n233 n234 n235 n236 n237 n238 n239 n240 n241 n242 n243 n244 n245 n246 n247 n248 : Value) (vs' : List Value) (w' : World), RRel w1 I L O (w1.heap.size + 3) spots (firstT G (k + 1)) n10 n11 n12 (.slice none 0 0) vs' w' → Q .normal { tmps := #[s0, s1, s2, s3, .pointer (some ⟨g, 0, none⟩), s5, .int .i64 (spots.length : Int), .slice (some ⟨I, 0, none⟩) spots.length spots.length, .slice (some ⟨L, 0, none⟩) spots.length spots.length, .slice (some ⟨O, 0, none⟩) spots.length spots.length, n10, n11, n12, n13, n14, n15, n16, n17, n18, n19, n20, s21, n22, n23, n24, s25, n26, s27, s28, s29, s30, s31, s32, s33, s34, s35, s36, s37, s38, s39, s40, s41, s42, s43, s44, s45, s46, .int .i64 (k : Int), s48, n49, n50, n51, n52, n53, n54, n55, n56, n57, n58, n59, n60, n61, n62, n63, n64, n65, n66, n67, n68, n69, n70, n71, n72, n73, n74, n75, n76, n77, n78, n79, n80, n81, n82, n83, n84, n85, n86, n87, n88, n89, n90, n91, n92, n93, n94, n95, n96, n97, n98, n99, n100, n101, n102, n103, n104, n105, n106, n107, n108, n109, n110, n111, n112, n113, n114, n115, n116, n117, n118, n119, n120, n121, n122, n123, n124, n125, n126, n127, n128, n129, n130, n131, n132, n133, n134, n135, n136, n137, n138, n139, n140, n141, n142, n143, n144, n145, n146, n147, n148, n149, n150, n151, n152, n153, n154, n155, n156, n157, n158, n159, n160, n161, n162, n163, n164, n165, n166, n167, n168, n169, n170, n171, n172, n173, n174, n175, n176, n177, n178, n179, n180, n181, n182, n183, n184, n185, n186, n187, n188, n189, n190, n191, n192, n193, n194, n195, n196, n197, n198, n199, n200, n201, n202, n203, n204, n205, n206, n207, n208, n209, n210, n211, n212, n213, n214, n215, n216, n217, n218, n219, n220, n221, n222, n223, n224, n225, n226, n227, n228, n229, n230, n231, n232, n233, n234, n235, n236, n237, n238, n239, n240, n241, n242, n243, n244, n245, n246, n247, n248, s249, s250, s251, s252], defers := [] } w') :
    (subC [1, 1, 1, 1, 1, 1, 1, 1, 0, 1, 0, 0, 1, 1, 0] (Tryz.f8.body.getD .skip)).wp Tryz.prog Q { tmps := #[s0, s1, s2, s3, .pointer (some ⟨g, 0, none⟩), s5, .int .i64 (spots.length : Int), .slice (some ⟨I, 0, none⟩) spots.length spots.length, .slice (some ⟨L, 0, none⟩) spots.length spots.length, .slice (some ⟨O, 0, none⟩) spots.length spots.length, .int .i64 ((firstT G k).count : Int), p, r, s13, s14, s15, s16, s17, s18, s19, s20, s21, s22, s23, s24, s25, s26, s27, s28, s29, s30, s31, s32, s33, s34, s35, s36, s37, s38, s39, s40, s41, s42, s43, s44, s45, s46, .int .i64 (k : Int), s48, s49, s50, s51, s52, s53, s54, s55, s56, s57, s58, s59, s60, s61, s62, s63, s64, s65, s66, s67, s68, s69, s70, s71, s72, s73, s74, s75, s76, s77, s78, s79, s80, s81, s82, s83, s84, s85, s86, s87, s88, s89, s90, s91, s92, s93, s94, s95, s96, s97, s98, s99, s100, s101, s102, s103, s104, s105, s106, s107, s108, s109, s110, s111, s112, s113, s114, s115, s116, s117, s118, s119, s120, s121, s122, s123, s124, s125, s126, s127, s128, s129, s130, s131, s132, s133, s134, s135, s136, s137, s138, s139, s140, s141, s142, s143, s144, s145, s146, s147, s148, s149, s150, s151, s152, s153, s154, s155, s156, s157, s158, s159, s160, s161, s162, s163, s164, s165, s166, s167, s168, s169, s170, s171, s172, s173, s174, s175, s176, s177, s178, s179, s180, s181, s182, s183, s184, s185, s186, s187, s188, s189, s190, s191, s192, s193, s194, s195, s196, s197, s198, s199, s200, s201, s202, s203, s204, s205, s206, s207, s208, s209, s210, s211, s212, s213, s214, s215, s216, s217, s218, s219, s220, s221, s222, s223, s224, s225, s226, s227, s228, s229, s230, s231, s232, s233, s234, s235, s236, s237, s238, s239, s240, s241, s242, s243, s244, s245, s246, s247, s248, s249, s250, s251, s252], defers := [] } wr := by
  obtain ⟨_, hA, hF, hS⟩ := hR
  have HQ := Lib.hid hQ
  have hGl := HGR.out.len
  have hsl := HGR.out.lt
  obtain ⟨hI1, hL1, hO1⟩ := hI
  have HBK := Lib.hid (firstT_ok HOKG.out k (by omega))
  have HST := Lib.hid (firstT_succ G k)
  have hk1 : (k : Int) < (spots.length : Int) := by omega
  have cI := hA.ix.cell hlt
  have HA := Lib.hid hA
  clear hA hQ
  have hcnt : (firstT G k).count ≤ 4295032832 := by
    have := HBK.out.l.cnt
    omega
  generalize firstT G k = s at *
  show (Code.block 1 _).wp _ _ _ _
  dsimp only
  by_cases h0 : 0 < s.index k
  · have HE2 : Hid (fromT G s k = s) := by show _ = _; unfold fromT; rw [if_pos h0]
    have h0' : (0 : Int) < (s.index k : Int) := by omega
    go_wp2
    apply HQ.out
    rw [HST.out, HE2.out]
    exact ⟨rfl, HA.out, hF, hS⟩
  · obtain h0' : s.index k = 0 := by omega
    rw [h0'] at cI
    have HFROM : Hid (fromT G s k = runT G (total G + 1) { s with way := [(k, 0)] }) := by show _ = _; unfold fromT; rw [if_neg h0]; rfl
    go_upto_block 2 with fail
    have hwa : Fr [] wr (wr.alloc (.cells #[.int .i64 (k : Int), .int .i64 0] tW)) := (Fr.refl [] wr).alloc _
    have hwo : (wr.alloc (.cells #[.int .i64 (k : Int), .int .i64 0] tW)).ownsRow (w1.heap.size + 3) tW 2 (.slice (some ⟨wr.heap.size, 0, none⟩) 1 1) 1 [.int .i64 (k : Int), .int .i64 0] := World.ownsRow_lit wr #[.int .i64 (k : Int), .int .i64 0] 1 hS (by unfold maxLen; omega) rfl
    have hA0 := (HA.out.fr0 hwa).putWay HK.out (grown_refl _ _) (p := [(k, 0)]) hwo
    have hF0 := hF.trans0 hwa
    have hS0 := Nat.le_trans hS hwa.size
    obtain ⟨hL1, hT1, hl1⟩ := from_ok HBK.out (by rw [hGl]; exact hlt) h0'
    have HS1 : Hid (OkT G { s with way := [(k, 0)] } ∧ OkL G { s with way := [(k, 0)] } ∧ leftT G { s with way := [(k, 0)] } ≤ total G + 1) := ⟨hT1, hL1, Nat.le_succ_of_le hl1⟩
    clear hL1 hT1 hl1 HA hwa hwo cI h0 h0' hF hS
    generalize wr.alloc (.cells #[.int .i64 (k : Int), .int .i64 0] tW) = wa at *
    have HA0 := Lib.hid hA0
    clear hA0
    go_wp2_with fail
    go_loopg [10, 11, 12, 14] (total G + 1) (fun f c p r t wx => ∃ (s' : TS) (vs : List Value), runT G f s' = fromT G s k ∧ OkT G s' ∧ OkL G s' ∧ leftT G s' ≤ f ∧ RRel w1 I L O (w1.heap.size + 3) spots s' c p r t vs wx)
    case atStart => exact ⟨_, vs, HFROM.out.symm, HS1.out.1, HS1.out.2.1, HS1.out.2.2, rfl, HA0.out, hF0, hS0⟩
    case round =>
      obtain ⟨s1, vs1, hrun, hT, hL, hlf, rfl, hA1, hF1, hS1⟩ := hrel
      cases hway : s1.way with
      | nil =>
        obtain ⟨qw, cw, hw14, _, _⟩ := (own_sl hA1.way).form
        rw [hway] at hw14
        subst hw14
        have HN1 : Hid (fromT G s k = s1) := hrun.symm.trans (run_nil G gk hway)
        have HA1 := Lib.hid (hA1.noWay hway)
        clear hA1 hway hrun hT hL hlf
        go_wp2
        apply HQ.out
        rw [HST.out, HN1.out]
        exact ⟨rfl, HA1.out, hF1, hS1⟩
      | cons q rest =>
        obtain ⟨v, j⟩ := q
        obtain ⟨gw, cw, rfl, hgB, hgl, _⟩ := hA1.top hway
        have hne : s1.way ≠ [] := by rw [hway]; simp
        obtain ⟨hT2, hle2⟩ := step_ok HOKG.out hT hne
        have hL2 := step_okL HOKG.out hL hT hne
        obtain ⟨f, rfl⟩ : ∃ f, gk = f + 1 := ⟨gk - 1, by omega⟩
        rw [runT, if_neg hne] at hrun
        have HNEXT : Hid (runT G f (stepT G s1) = fromT G s k ∧ OkT G (stepT G s1) ∧ OkL G (stepT G s1) ∧ leftT G (stepT G s1) ≤ f) := ⟨hrun, hT2, hL2, by omega⟩
        have HT := Lib.hid hT
        have HL := Lib.hid hL
        have HWAY := Lib.hid hway
        have HA1 := Lib.hid hA1
        clear hrun hT2 hle2 hL2 hT hL hway hne hA1 hlf
        go_upto_block 3 with fail
        refine ringsStep w1 g I L O (w1.heap.size + 3) v j gw cw spots rest G s1 _ _ _ _ _ _ bn on vs1 wr HK.out ⟨hI1, hL1, hO1, by omega⟩ HGR.out HOKG.out HT.out HL.out htot HA1.out hF1 hS1 HWAY.out _ ?_
        intros
        rename_i vs' w' hR
        have HR2 := Lib.hid hR
        clear hR
        go_wp2
        go_roundg f
        case rel => exact ⟨_, vs', HNEXT.out.1, HNEXT.out.2.1, HNEXT.out.2.2.1, HNEXT.out.2.2.2, HR2.out⟩
        case measure => omega
end
end
section
open Go.RowKit Go.Shelf Go.Sort Go.Proofs

set_option maxRecDepth 100000 in
set_option maxHeartbeats 6400000 in
theorem ringsC (v : Value) (ns : List Nd) (w : World) (hv : NodesAt w v ns) (hB : ns.length + tot ns ≤ 4194304) : Calls Tryz.prog 8 #[v] w (RingsPost (madeE ns) (gSp ns) (gNx ns) w) := by
  have HV := Lib.hid hv
  clear hv
  go_enter Tryz.func8, Tryz.ntmps8
  go_wp2_with fail
  refine (madeC v ns w HV.out hB).mono ?_
  rintro e w1 ⟨hf1, ⟨h0, rfl⟩ | ⟨h0, g, rfl, hG⟩⟩
  · have h0' : ¬ madeE ns = 0 := h0
    go_wp2
    go_ret2
    exact ⟨hf1, .inl ⟨h0, rfl⟩⟩
  · obtain ⟨hn1, hn2, hn3⟩ := made_ok h0
    have HOKG := Lib.hid (gNx_ok ns)
    have htot : total (gNx ns) ≤ 4295032832 := by
      have h1 := total_le (gNx_le ns)
      rw [gNx_len] at h1
      exact Nat.le_trans h1 (Nat.le_trans (Nat.mul_le_mul hn1 (Nat.succ_le_succ hn1)) (by decide))
    have HGLE : Hid (∀ l ∈ gNx ns, l.length ≤ 65536) := fun l hl => Nat.le_trans (gNx_le ns l hl) hn1
    have hGl : (gNx ns).length = (gSp ns).length := by rw [gNx_len, gSp_len]
    have hsl : (gSp ns).length ≤ 65536 := by rw [gSp_len]; exact hn1
    have HE := Lib.hid h0
    clear h0
    have HW1 := Lib.hid hf1
    clear hf1
    generalize madeE ns = E at *
    generalize gSp ns = spots at *
    generalize gNx ns = G at *
    obtain ⟨sv, nv, rows, hg, hs, hn, hr⟩ := hG
    obtain ⟨q, c, rfl, hc1, hc2⟩ := hs.form
    obtain ⟨qn, cn, rfl, hn4, hn5⟩ := hn.form
    have HG := Lib.hid hg
    have HS := Lib.hid hs
    have HN := Lib.hid hn
    have HR := Lib.hid hr
    have HNS := Lib.hid hn3
    have hgl := lt_of hg
    have hg0 := cell_of hg 0
    clear hg hs hn hr hn1 hn2 hn3 HV hB
    have hmI := mkI spots.length (by omega)
    have hmB := mkB spots.length (by omega)
    go_upto_region 5 with fail
    go_cut [7, 8, 9] (fun s7 s8 s9 wx => ∃ I L O, s7 = .slice (some ⟨I, 0, none⟩) spots.length spots.length ∧ s8 = .slice (some ⟨L, 0, none⟩) spots.length spots.length ∧ s9 = .slice (some ⟨O, 0, none⟩) spots.length spots.length ∧ Blk I L O (w1.heap.size + 3) ∧ (w1.heap.size ≤ I ∧ w1.heap.size ≤ L ∧ w1.heap.size ≤ O) ∧ Fr [] w1 wx ∧ w1.heap.size + 3 ≤ wx.heap.size ∧ wx.rowIs I tI spots.length (fun _ => .int .i64 0) ∧ wx.rowIs L tI spots.length (fun _ => .int .i64 0) ∧ wx.rowIs O tB spots.length (fun _ => .bool false))
    case first =>
      go_region
      all_goals
        go_wp2
        go_meet
        refine ⟨_, _, _, rfl, rfl, rfl, ⟨by omega, by omega, by omega, by omega, by omega, by omega⟩, by omega, ((((Fr.refl [] w1).alloc _).alloc _).alloc _).drew, by simp, row_new ?_, row_new ?_, row_new ?_⟩
        all_goals (refine hp_drew ?_; first | (refine hp_new ?_; simp; done) | (refine hp_old (hp_new ?_); simp; done) | (refine hp_old (hp_old (hp_new ?_)); simp; done))
    case rest =>
      obtain ⟨I, L, O, rfl, rfl, rfl, hK, ⟨hI1, hL1, hO1⟩, hf3, hsz, rI, rL, rO⟩ := hcut
      have HT0 : Hid (TSAt I L O (w1.heap.size + 3) spots.length spots startT (.slice none 0 0) (.slice none 0 0) (.slice none 0 0) [] wc) :=
        ⟨rI, rL, rO, World.ownsRow_nil _ _ _ _, World.ownsRow_nil _ _ _ _, World.ownsRow_nil _ _ _ _, ⟨rfl, by simp, by simp⟩⟩
      have HK := Lib.hid hK
      clear rI rL rO hmI hmB hg0 hK
      go_wp2_with fail
      go_loopw [10, 11, 12, 47] (fun c p r i wr => ∃ (k : Nat) (vs : List Value), i = .int .i64 (k : Int) ∧ k ≤ spots.length ∧ RRel w1 I L O (w1.heap.size + 3) spots (firstT G k) c p r (.slice none 0 0) vs wr) (fun _ _ _ i _ => spots.length - (intOf i).toNat)
      case atStart => exact ⟨0, [], rfl, by omega, rfl, HT0.out, hf3, hsz⟩
      case round =>
        obtain ⟨k, vs, rfl, hk, rfl, hA, hF, hS⟩ := hrel
        have HA := Lib.hid hA
        clear hA
        by_cases hlt : k < spots.length
        · have hk1 : (k : Int) < (spots.length : Int) := by omega
          have HGR : Hid (∃ bn on cx, GrAt w1 g spots G (.slice q spots.length c) (.slice qn G.length cn) spots.length cx bn on) := by
            obtain ⟨bn, on, cx, e, hb, hcl⟩ := HN.out.cell (by omega)
            cases e
            refine ⟨bn, on, cn, HG.out, HS.out, by rw [hGl], rfl, hGl, fun v hv => ?_, hsl, hb⟩
            have hvG : v < G.length := by omega
            obtain ⟨rv, e1, e2⟩ := HR.out v hvG
            have e3 : nxs G v = G[v] := by unfold nxs; rw [List.getD_eq_getElem?_getD, List.getElem?_eq_getElem hvG]; rfl
            rw [e3]
            exact ⟨rv, hcl v rv e1, e2, HGLE.out _ (List.getElem_mem hvG)⟩
          obtain ⟨bn, on, cx, hGR⟩ := HGR.out
          go_upto_block 1 with fail
          refine ringsFrom w1 g I L O k spots G _ _ _ _ cx bn on vs wr HK ⟨hI1, hL1, hO1⟩ (Lib.hid hGR) HOKG htot hlt ⟨rfl, HA.out, hF, hS⟩ _ ?_
          intros
          rename_i vs' w' hR
          have HR2 := Lib.hid hR
          clear hR
          go_wp2
          go_roundw
          case rel => exact ⟨k + 1, vs', by go_num, by omega, HR2.out⟩
          case measure => simp [intOf]; omega
        · obtain rfl : k = spots.length := by omega
          have hall : firstT G spots.length = allT G := by rw [← hGl]; rfl
          have hBK := firstT_ok HOKG.out spots.length (by omega)
          rw [hall] at hBK HA
          have hAl := HA.out
          have hrr := hAl.rings
          have hne : ∀ r ∈ (allT G).rings, r ≠ [] := fun r hr => (hBK.l.rin r hr).1
          have hne2 : ∀ r ∈ (allT G).rings, r ≠ [] ∧ ∀ x ∈ r, x < spots.length := fun r hr => ⟨(hBK.l.rin r hr).1, fun x hx => by rw [← hGl]; exact ((hBK.l.rin r hr).2 x hx).1⟩
          have hfst := prs_fst (spots := spots) hrr.len
          have hpl := prs_len (spots := spots) hrr.len
          have hvl : vs.length ≤ 65536 := by
            rw [hrr.len]
            have := rings_len (g := G) hBK.l.rap hBK.l.rin
            omega
          have hown : wr.ownsRow (w1.heap.size + 3) tS 1 u12 (prs spots vs (allT G).rings).length ((prs spots vs (allT G).rings).map (·.1)) := by
            rw [hpl, hfst]
            exact hAl.rg
          have HSORT : Hid (Calls Tryz.prog 27 #[u12, .func (.func 28) #[] #[]] wr fun e w1' => e = .returned (.tuple #[]) ∧ w1'.ownsRow (w1.heap.size + 3) tS 1 u12 (prs spots vs (allT G).rings).length ((sortP (prs spots vs (allT G).rings)).map (·.1)) ∧ wr.grownBy w1' u12.ownBlock) := sortRings _ _ (by rw [hpl]; omega) hown (prs_head hrr hne hAl.rg) (prs_nodup HNS.out hrr.len hne2 hBK.l.rap)
          clear hown hfst hpl hne hne2 hrr hAl hBK hall
          go_wp2_with fail
          refine HSORT.out.mono ?_
          rintro e w4 ⟨rfl, hown4, hgr4⟩
          go_wp2
          go_ret2
          refine ⟨HW1.out.trans0 (hF.grown hgr4 (fun k hk => .inr (by have := (HA.out.rg.lt k hk).1; omega))), .inr ⟨HE.out, _, _, rfl, ?_, prs_told HA.out.rings HA.out.rg hgr4 (by have := HW1.out.size; omega)⟩⟩
          have := HW1.out.size
          have h5 := owns_mono (B' := w.heap.size) hown4 (by omega)
          simpa [(sortP_perm _).length_eq] using h5
end
end Go.Proofs.YtdlpbpohbkcafaaGreat
