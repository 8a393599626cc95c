/-
  cycle.Rings: back by one.
-/
import Derived.Test.YtdlpbpohbkcafaaCRingD
namespace Go.Proofs.Ytdlpbpohbkcafaa
open Go.RowKit Go.Shelf Go.Sort Go.Proofs

set_option maxRecDepth 100000 in
set_option maxHeartbeats 3200000 in
theorem ringsBack (w1 : World) (g I L O B v j gw cw : Nat) (spots : List Sp) (rest : List (Nat × Nat)) (G : Dg) (s : TS) (p r sv nv rv : Value) (nl nc bn on : Nat) (vs : List Value) (w : World) {s0 s1 s2 s3 s5 s13 s15 s17 s18 s19 s20 s21 s22 s23 s24 s25 s26 s27 s28 s29 s30 s31 s32 s33 s34 s35 s36 s37 s38 s39 s40 s41 s42 s43 s44 s45 s46 s47 s48 s49 s50 s51 s52 s53 s54 s55 s56 s57 s58 s59 s60 s61 s62 s63 s64 s65 s66 s67 s68 s69 s70 s71 s72 s73 s74 s75 s76 s77 s78 s79 s80 s81 s82 s83 s84 s85 s86 s87 s88 s89 s90 s91 s92 s93 s94 s95 s96 s97 s98 s99 s100 s101 s102 s103 s104 s105 s106 s107 s108 s109 s110 s111 s112 s113 s114 s115 s116 s117 s118 s119 s120 s121 s122 s123 s124 s125 s126 s127 s128 s129 s130 s131 s132 s133 s134 s135 s136 s137 s138 s139 s140 s141 s142 s143 s144 s145 s146 s147 s148 s149 s150 s151 s152 s153 s154 s155 s156 s157 s158 s159 s160 s161 s162 s163 s164 s165 s166 s167 s168 s169 s170 s171 s172 s173 s174 s175 s176 s177 s178 s179 s180 s181 s182 s183 s184 s185 s186 s187 s188 s189 s190 s191 s192 s193 s194 s195 s196 s197 s198 s199 s200 s201 s202 s203 s204 s205 s206 s207 s208 s209 s210 s211 s212 s213 s214 s215 s216 s217 s218 s219 s220 s221 s222 s223 s224 s225 s226 s227 s228 s229 s230 s231 s232 s233 s234 s235 s236 s237 s238 s239 s240 s241 s242 s243 s244 s245 s246 s247 s248 s249 s250 s251 s252 : Value} (K : Blk I L O B) (hI : w1.heap.size ≤ I ∧ w1.heap.size ≤ L ∧ w1.heap.size ≤ O ∧ w1.heap.size ≤ B)
    (hA : TSAt I L O B spots.length spots s p r (.slice (some ⟨gw, 0, none⟩) (rest.length + 1) cw) vs w) (hF : Fr [] w1 w) (hS : B ≤ w.heap.size) (hw : s.way = (v, j) :: rest) (hg : w1.heap[g]? = some (.cells #[sv, nv] tG (0, 0))) (hs : SpotsAt w1 sv spots) (hnv : nv = .slice (some ⟨bn, on, none⟩) nl nc ∧ v < nl ∧ nl ≤ 65536) (hrc : w1.cell? ⟨bn, on + v, none⟩ = some rv) (hrv : NumsAt w1 rv (nxs G v))
    (hv : v < spots.length) (hup : ∀ q ∈ rest, q.1 < spots.length) (hrl : rest.length ≤ 65536) (hvm : v ∈ s.pile) (hpl : s.pile.length ≤ 65536) (hpn : ∀ x ∈ s.pile, x < spots.length) (hvl : vs.length ≤ 65536)
    (Q : Exit → Act → World → Prop)
    (hQ : ∀ (n11 n12 n14 n18 n19 n20 n22 n23 n24 n26 n153 n154 n155 n156 n157 n158 n159 n160 n161 n162 n163 n164 n165 n166 n167 n168 n169 n170 n171 n172 n173 n174 n175 n176 n177 n178 n179 n180 n181 n182 n183 n184 n185 n186 n187 n188 n189 n190 n191 n192 n193 n194 n195 n196 n197 n198 n199 n200 n201 n202 n203 n204 n205 n206 n207 n208 n209 n210 n211 n212 n213 n214 n215 n216 n217 n218 n219 n220 n221 n222 n223 n224 n225 n226 n227 n228 n229 n230 n231 n232 n233 n234 n235 n236 n237 n238 n239 n240 n241 n242 n243 n244 n245 n246 n247 n248 : Value) (vs' : List Value) (w' : World), RRel w1 I L O B spots (close1 G v (back1 v rest s)) (.int .i64 (s.count : Int)) n11 n12 n14 vs' w' → Q .normal { tmps := #[s0, s1, s2, s3, .pointer (some ⟨g, 0, none⟩), s5, .int .i64 (spots.length : Int), .slice (some ⟨I, 0, none⟩) spots.length spots.length, .slice (some ⟨L, 0, none⟩) spots.length spots.length, .slice (some ⟨O, 0, none⟩) spots.length spots.length, .int .i64 (s.count : Int), n11, n12, s13, n14, s15, .int .i64 (v : Int), s17, n18, n19, n20, s21, n22, n23, n24, s25, n26, s27, s28, s29, s30, s31, s32, s33, s34, s35, s36, s37, s38, s39, s40, s41, s42, s43, s44, s45, s46, s47, s48, s49, s50, s51, s52, s53, s54, s55, s56, s57, s58, s59, s60, s61, s62, s63, s64, s65, s66, s67, s68, s69, s70, s71, s72, s73, s74, s75, s76, s77, s78, s79, s80, s81, s82, s83, s84, s85, s86, s87, s88, s89, s90, s91, s92, s93, s94, s95, s96, s97, s98, s99, s100, s101, s102, s103, s104, s105, s106, s107, s108, s109, s110, s111, s112, s113, s114, s115, s116, s117, s118, s119, s120, s121, s122, s123, s124, s125, s126, s127, s128, s129, s130, s131, s132, s133, s134, s135, s136, s137, s138, s139, s140, s141, s142, s143, s144, s145, s146, s147, s148, s149, s150, s151, s152, n153, n154, n155, n156, n157, n158, n159, n160, n161, n162, n163, n164, n165, n166, n167, n168, n169, n170, n171, n172, n173, n174, n175, n176, n177, n178, n179, n180, n181, n182, n183, n184, n185, n186, n187, n188, n189, n190, n191, n192, n193, n194, n195, n196, n197, n198, n199, n200, n201, n202, n203, n204, n205, n206, n207, n208, n209, n210, n211, n212, n213, n214, n215, n216, n217, n218, n219, n220, n221, n222, n223, n224, n225, n226, n227, n228, n229, n230, n231, n232, n233, n234, n235, n236, n237, n238, n239, n240, n241, n242, n243, n244, n245, n246, n247, n248, s249, s250, s251, s252], defers := [] } w' ∧ Q (.exit 3) { tmps := #[s0, s1, s2, s3, .pointer (some ⟨g, 0, none⟩), s5, .int .i64 (spots.length : Int), .slice (some ⟨I, 0, none⟩) spots.length spots.length, .slice (some ⟨L, 0, none⟩) spots.length spots.length, .slice (some ⟨O, 0, none⟩) spots.length spots.length, .int .i64 (s.count : Int), n11, n12, s13, n14, s15, .int .i64 (v : Int), s17, n18, n19, n20, s21, n22, n23, n24, s25, n26, s27, s28, s29, s30, s31, s32, s33, s34, s35, s36, s37, s38, s39, s40, s41, s42, s43, s44, s45, s46, s47, s48, s49, s50, s51, s52, s53, s54, s55, s56, s57, s58, s59, s60, s61, s62, s63, s64, s65, s66, s67, s68, s69, s70, s71, s72, s73, s74, s75, s76, s77, s78, s79, s80, s81, s82, s83, s84, s85, s86, s87, s88, s89, s90, s91, s92, s93, s94, s95, s96, s97, s98, s99, s100, s101, s102, s103, s104, s105, s106, s107, s108, s109, s110, s111, s112, s113, s114, s115, s116, s117, s118, s119, s120, s121, s122, s123, s124, s125, s126, s127, s128, s129, s130, s131, s132, s133, s134, s135, s136, s137, s138, s139, s140, s141, s142, s143, s144, s145, s146, s147, s148, s149, s150, s151, s152, n153, n154, n155, n156, n157, n158, n159, n160, n161, n162, n163, n164, n165, n166, n167, n168, n169, n170, n171, n172, n173, n174, n175, n176, n177, n178, n179, n180, n181, n182, n183, n184, n185, n186, n187, n188, n189, n190, n191, n192, n193, n194, n195, n196, n197, n198, n199, n200, n201, n202, n203, n204, n205, n206, n207, n208, n209, n210, n211, n212, n213, n214, n215, n216, n217, n218, n219, n220, n221, n222, n223, n224, n225, n226, n227, n228, n229, n230, n231, n232, n233, n234, n235, n236, n237, n238, n239, n240, n241, n242, n243, n244, n245, n246, n247, n248, s249, s250, s251, s252], defers := [] } w') :
    (subC [1, 1, 1, 1, 1, 1, 1, 1, 0, 1, 0, 0, 1, 1, 0, 0, 1, 1, 1, 0, 0, 1, 0, 1, 1, 1, 1] (Try.f9.body.getD .skip)).wp Try.prog Q { tmps := #[s0, s1, s2, s3, .pointer (some ⟨g, 0, none⟩), s5, .int .i64 (spots.length : Int), .slice (some ⟨I, 0, none⟩) spots.length spots.length, .slice (some ⟨L, 0, none⟩) spots.length spots.length, .slice (some ⟨O, 0, none⟩) spots.length spots.length, .int .i64 (s.count : Int), p, r, s13, .slice (some ⟨gw, 0, none⟩) (rest.length + 1) cw, s15, .int .i64 (v : Int), s17, s18, s19, s20, s21, s22, s23, s24, s25, s26, s27, s28, s29, s30, s31, s32, s33, s34, s35, s36, s37, s38, s39, s40, s41, s42, s43, s44, s45, s46, s47, s48, s49, s50, s51, s52, s53, s54, s55, s56, s57, s58, s59, s60, s61, s62, s63, s64, s65, s66, s67, s68, s69, s70, s71, s72, s73, s74, s75, s76, s77, s78, s79, s80, s81, s82, s83, s84, s85, s86, s87, s88, s89, s90, s91, s92, s93, s94, s95, s96, s97, s98, s99, s100, s101, s102, s103, s104, s105, s106, s107, s108, s109, s110, s111, s112, s113, s114, s115, s116, s117, s118, s119, s120, s121, s122, s123, s124, s125, s126, s127, s128, s129, s130, s131, s132, s133, s134, s135, s136, s137, s138, s139, s140, s141, s142, s143, s144, s145, s146, s147, s148, s149, s150, s151, s152, s153, s154, s155, s156, s157, s158, s159, s160, s161, s162, s163, s164, s165, s166, s167, s168, s169, s170, s171, s172, s173, s174, s175, s176, s177, s178, s179, s180, s181, s182, s183, s184, s185, s186, s187, s188, s189, s190, s191, s192, s193, s194, s195, s196, s197, s198, s199, s200, s201, s202, s203, s204, s205, s206, s207, s208, s209, s210, s211, s212, s213, s214, s215, s216, s217, s218, s219, s220, s221, s222, s223, s224, s225, s226, s227, s228, s229, s230, s231, s232, s233, s234, s235, s236, s237, s238, s239, s240, s241, s242, s243, s244, s245, s246, s247, s248, s249, s250, s251, s252], defers := [] } w := by
  have HQ := Lib.hid hQ
  have HG := Lib.hid hg
  have HSP := Lib.hid hs
  have HRC := Lib.hid hrc
  have HRV := Lib.hid hrv
  have HUP := Lib.hid hup
  have HNV := Lib.hid hnv
  have HPN := Lib.hid hpn
  clear hQ hg hs hrc hrv hup hnv hpn
  obtain ⟨gw', cw', e0, hgB, hgl, w0, wj, fw, hcw, hcm⟩ := hA.top hw
  cases e0
  have hA1 := hA.pop K hw
  have HA1 := Lib.hid hA1
  clear hA hA1 wj fw w0 
  have hc1 : (rest.length : Int) ≤ (cw : Int) := by omega
  have hc2 : (cw : Int) ≤ 9223372036854775807 := by omega
  show ((Code.region 28 _ _).seq _).wp _ _ _ _
  dsimp only
  go_upto_if 160 with fail
  go_cut [18] from 161 to 179 (fun _ wx => TSAt I L O B spots.length spots (back1 v rest s) p r (.slice (some ⟨gw, 0, none⟩) rest.length cw) vs wx ∧ Fr [] w1 wx ∧ B ≤ wx.heap.size)
  case first =>
    cases rest with
    | nil =>
      have h0 : ¬ (0 : Int) < 0 := by omega
      go_wp2
      go_meet
      exact ⟨HA1.out, hF, hS⟩
    | cons q rr =>
      obtain ⟨up, k⟩ := q
      have hu := HUP.out (up, k) (by simp)
      simp only at hu
      have hu1 : (up : Int) < (spots.length : Int) := by omega
      have hv1 : (v : Int) < (spots.length : Int) := by omega
      obtain ⟨gw', cw', e0, hgB', hgl', w0, wj, fw, hcw', hcm'⟩ := HA1.out.top rfl
      simp only [List.length_cons, Value.slice.injEq, Option.some.injEq, Addr.mk.injEq, and_true, true_and] at e0
      obtain ⟨rfl, rfl⟩ := e0
      have lv := HA1.out.lo.cell hv
      have lu := HA1.out.lo.cell hu
      have lf := HA1.out.lo.frozen up
      have ll := HA1.out.lo.lt
      simp only at lv lu
      have hmin : min (s.low up : Int) (s.low v : Int) = ((min (s.low up) (s.low v) : Nat) : Int) := by omega
      have h5 := HA1.out.putLo K up (min (s.low up) (s.low v))
      have H5 := Lib.hid h5
      clear h5 hw
      simp only [List.length_cons] at *
      have hr1 : IntKind.i64.wrap ((rr.length : Int) + 1 - 1) = (rr.length : Int) := by rw [IntKind.wrap_i64]; omega
      go_upto_region 31 with fail
      go_region
      go_wp2
      go_meet
      exact ⟨H5.out.fr0 ((Fr.refl [] _).drew), (hF.setCell (.inr hI.2.1) _).drew, by show B ≤ (w.setCell _ _).heap.size; simpa using hS⟩
  case rest =>
    obtain ⟨hA2, hF2, hS2⟩ := hcut
    have hiv := hA2.ix.cell hv
    have hlv := hA2.lo.cell hv
    have hv1 : (v : Int) < (spots.length : Int) := by omega
    have HA2 := Lib.hid hA2
    have HBP := Lib.hid (back1_pile v rest s)
    have HBC := Lib.hid (back1_count v rest s)
    clear hA2 HA1
    generalize back1 v rest s = sb at *
    by_cases hl : sb.low v = sb.index v
    · rw [hl] at hlv
      go_upto_region 32 with fail
      go_region
      go_upto_if 188 with fail
      refine wp_cond_false rfl ?_
      go_step
      simp only [Exit.then]
      go_step
      rw [← HBC.out]
      refine ringsClose w1 g I L O B v spots G sb p r _ sv nv rv nl nc bn on vs _ K hI (HA2.out.fr0 ((Fr.refl [] wc).drew)) hF2.drew hS2 HG.out HSP.out HNV.out HRC.out HRV.out (by rw [HBP.out]; exact hvm) (by rw [HBP.out]; exact hpl) (by rw [HBP.out]; exact HPN.out) hvl hl _ ?_
      intros
      rename_i vs' w' hR
      rw [HBC.out] at hR ⊢
      exact (HQ.out _ _ _ _ _ _ _ _ _ _ _ _ _ _ _ _ _ _ _ _ _ _ _ _ _ _ _ _ _ _ _ _ _ _ _ _ _ _ _ _ _ _ _ _ _ _ _ _ _ _ _ _ _ _ _ _ _ _ _ _ _ _ _ _ _ _ _ _ _ _ _ _ _ _ _ _ _ _ _ _ _ _ _ _ _ _ _ _ _ _ _ _ _ _ _ _ _ _ _ _ _ _ _ _ _ _ vs' w' hR).1
    · have hl' : ((sb.low v : Int) == (sb.index v : Int)) = false := by rw [beq_eq_false_iff_ne]; omega
      have hl2 : ((sb.low v : Int) != (sb.index v : Int)) = true := by rw [bne_iff_ne]; omega
      have HC : Hid (close1 G v sb = sb) := by show _ = _; unfold close1; rw [if_pos hl]
      go_upto_region 32 with fail
      go_region
      go_upto_if 188 with fail
      go_wp2
      refine (HQ.out _ _ _ _ _ _ _ _ _ _ _ _ _ _ _ _ _ _ _ _ _ _ _ _ _ _ _ _ _ _ _ _ _ _ _ _ _ _ _ _ _ _ _ _ _ _ _ _ _ _ _ _ _ _ _ _ _ _ _ _ _ _ _ _ _ _ _ _ _ _ _ _ _ _ _ _ _ _ _ _ _ _ _ _ _ _ _ _ _ _ _ _ _ _ _ _ _ _ _ _ _ _ _ _ _ _ vs _ ?_).2
      rw [HC.out]
      exact ⟨by rw [HBC.out], HA2.out.fr0 ((Fr.refl [] wc).drew), hF2.drew, hS2⟩
end Go.Proofs.Ytdlpbpohbkcafaa
