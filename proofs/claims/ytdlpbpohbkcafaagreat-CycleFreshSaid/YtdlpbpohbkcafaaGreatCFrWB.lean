/-
  CycleFresh: one call's round; the walk.
-/
import Derived.Test.YtdlpbpohbkcafaaGreatCFLaw
import Derived.Test.YtdlpbpohbkcafaaGreatCFrWA
namespace Go.Proofs.YtdlpbpohbkcafaaGreat
open Go.RowKit Go.Shelf Go.Sort Go.Proofs

theorem Told.to {B B' : Nat} {w w1 : World} {vs : List Value} {R : List (List Sp)} (h : Told B w vs R) (hf : Fr [] w w1) (hB : B' ≤ B) : Told B' w1 vs R :=
  ⟨h.len, fun i h1 h2 => owns_mono (owns_fr (h.at' i h1 h2) hf (by simp)) hB, h.sep⟩
theorem Told.one {B : Nat} {w : World} {vs : List Value} {R : List (List Sp)} (h : Told B w vs R) : ∀ u ∈ vs, u.oneCell' = true := fun u hu => by
  obtain ⟨i, hi, rfl⟩ := List.mem_iff_getElem.1 hu
  obtain ⟨q, n, c, e⟩ := own_form (h.at' i hi (by rw [← h.len]; exact hi))
  rw [e]
  rfl
set_option maxRecDepth 100000 in
set_option maxHeartbeats 6400000 in
theorem freshRound (MT : List Nat) (Bt : Nat) (w0 w : World) (Bk E N k : Nat) (qv wv lv nv : Value) (ls ns : List Nd) {s0 s1 s2 s6 s10 s11 s12 s13 s14 s15 s16 s17 s18 s19 s20 s21 s22 s23 s24 s25 s26 s27 s28 s29 s30 s31 s32 s33 s34 s35 s36 s37 s38 s39 s40 s41 s42 s43 s44 s45 s46 s47 s48 s49 s50 s51 s52 s53 s54 s55 s56 s57 s58 s59 s60 s61 s62 s63 s64 s65 s66 s67 s68 s69 s70 s71 s72 s73 s74 s75 s76 s77 s78 s79 s80 s81 s82 s83 s84 s85 s86 s87 s88 s89 s90 s91 s92 s93 s94 s95 s96 s97 s98 s99 s100 s101 s102 s103 s104 s105 s106 s107 s108 s109 s110 s111 s112 s113 s114 s115 s116 s117 s118 s119 s120 s121 s122 s123 s124 s125 s126 s127 s128 s129 s130 s131 s132 s133 s134 s135 s136 s137 s138 s139 s140 s141 s142 s143 s144 s145 s146 s147 s148 s149 s150 s151 s152 s153 s154 s155 s156 s157 s158 s159 s160 s161 s162 s163 s164 s165 s166 s167 s168 s169 s170 s171 s172 : Value}
    (hera : era ls = era ns) (hB : ns.length + tot ns ≤ 3000) (hns : NodesAt w0 nv ns) (hI : FI MT (fun u => TwinAt Bt u lv ls) w0 Bk E N qv wv w) (hE : E + 3001 ≤ 4194304) (hN : N + 3001 ≤ 4194304) (Q : Exit → Act → World → Prop)
    (hQ : ∀ (n10 n11 n12 n13 n14 n15 n16 n17 n18 n19 n20 n21 n22 n23 n24 n56 n57 n58 n59 n60 n61 n62 n63 n64 n65 n66 n67 n68 n69 n70 n71 n72 n73 n74 n75 n76 n77 n78 n79 n80 n81 n82 n83 n84 n85 n86 n87 n88 n89 n90 n91 n92 n93 n94 n95 n96 n97 n98 n99 n100 n101 n102 n103 n104 n105 n106 n107 n108 n109 n110 n111 n112 n113 n114 n115 n116 n117 n118 n119 n120 n121 n122 n123 n124 n125 n126 n127 n128 n129 n130 n131 n132 n133 n134 n135 n136 n137 n138 n139 n140 n141 n142 n143 n144 n145 n146 n147 n148 n149 : Value) (qn wn : Value) (w' : World), FI MT (fun u => TwinAt Bt u lv ls) w0 Bk (E + 3001) (N + 3001) qn wn w' → Q .normal { tmps := #[s0, s1, s2, .pointer (some ⟨Bk, 0, none⟩), qn, wn, s6, nv, lv, .int .i64 (k : Int), n10, n11, n12, n13, n14, n15, n16, n17, n18, n19, n20, n21, n22, n23, n24, s25, s26, s27, s28, s29, s30, s31, s32, s33, s34, s35, s36, s37, s38, s39, s40, s41, s42, s43, s44, s45, s46, s47, s48, s49, s50, s51, s52, s53, s54, s55, n56, n57, n58, n59, n60, n61, n62, n63, n64, n65, n66, n67, n68, n69, n70, n71, n72, n73, n74, n75, n76, n77, n78, n79, n80, n81, n82, n83, n84, n85, n86, n87, n88, n89, n90, n91, n92, n93, n94, n95, n96, n97, n98, n99, n100, n101, n102, n103, n104, n105, n106, n107, n108, n109, n110, n111, n112, n113, n114, n115, n116, n117, n118, n119, n120, n121, n122, n123, n124, n125, n126, n127, n128, n129, n130, n131, n132, n133, n134, n135, n136, n137, n138, n139, n140, n141, n142, n143, n144, n145, n146, n147, n148, n149, s150, s151, s152, s153, s154, s155, s156, s157, s158, s159, s160, s161, s162, s163, s164, s165, s166, s167, s168, s169, s170, s171, s172], defers := [] } w') :
    (subC [1, 1, 1, 1, 0, 1, 0, 0, 1, 0, 0, 1, 1, 1, 0, 1, 0, 0, 1, 0] (Tryz.f4.body.getD .skip)).wp Tryz.prog Q { tmps := #[s0, s1, s2, .pointer (some ⟨Bk, 0, none⟩), qv, wv, s6, nv, lv, .int .i64 (k : Int), s10, s11, s12, s13, s14, s15, s16, s17, s18, s19, s20, s21, s22, s23, s24, s25, s26, s27, s28, s29, s30, s31, s32, s33, s34, s35, s36, s37, s38, s39, s40, s41, s42, s43, s44, s45, s46, s47, s48, s49, s50, s51, s52, s53, s54, s55, s56, s57, s58, s59, s60, s61, s62, s63, s64, s65, s66, s67, s68, s69, s70, s71, s72, s73, s74, s75, s76, s77, s78, s79, s80, s81, s82, s83, s84, s85, s86, s87, s88, s89, s90, s91, s92, s93, s94, s95, s96, s97, s98, s99, s100, s101, s102, s103, s104, s105, s106, s107, s108, s109, s110, s111, s112, s113, s114, s115, s116, s117, s118, s119, s120, s121, s122, s123, s124, s125, s126, s127, s128, s129, s130, s131, s132, s133, s134, s135, s136, s137, s138, s139, s140, s141, s142, s143, s144, s145, s146, s147, s148, s149, s150, s151, s152, s153, s154, s155, s156, s157, s158, s159, s160, s161, s162, s163, s164, s165, s166, s167, s168, s169, s170, s171, s172], defers := [] } w := by
  have HQ := Lib.hid hQ
  have HNS := Lib.hid hns
  have HL : Hid (ns.length + tot ns ≤ 3000) := hB
  have HBN : Hid (ns.length + tot ns ≤ 4194304) := by show _ ≤ _; omega
  have HBL : Hid (ls.length + tot ls ≤ 4194304) := by
    show _ ≤ _
    rw [tot_era, ← era_len ns] at hB
    rw [tot_era, ← era_len ls, hera]
    omega
  obtain ⟨_, hRe, _, hOe, _, hDe⟩ := era_E hera
  have HRe := Lib.hid hRe
  have HOe := Lib.hid hOe
  have HDe := Lib.hid hDe
  have HE : Hid (E + 3001 ≤ 4194304) := hE
  have HNN : Hid (N + 3001 ≤ 4194304) := hN
  obtain ⟨K, es, blv, bnv, sz, M, qs, ws, L, hJ⟩ := hI
  have HJ := Lib.hid hJ
  have HF := Lib.hid hJ.fr
  have HN := Lib.hid hJ.qq.t.nodes
  obtain ⟨lq, lc, rfl, _, _⟩ := hJ.qq.t.nodes.row.form
  obtain ⟨nq, nc, rfl, _, _⟩ := hns.row.form
  obtain ⟨qq, qc, rfl, _, _⟩ := (own_sl hJ.qq.q).form
  obtain ⟨wq, wc, rfl, _, _⟩ := (own_sl hJ.qq.w').form
  clear hQ hns hB hRe hOe hDe hE hN hJ hera
  show (Code.block 3 _).wp _ _ _ _
  dsimp only
  go_wp2_with fail
  refine (ringsU _ ls _ HN.out HBL.out).mono ?_
  rintro e w1 ⟨rv, vs, rfl, hrv, htold, h1⟩
  rw [HRe.out] at htold
  have HRV := Lib.hid hrv
  have HTL := Lib.hid htold
  have H1 := Lib.hid h1
  obtain ⟨rq, rc, rfl, hr1, hr2⟩ := (own_sl hrv).form
  clear hrv htold h1
  go_wp2_with fail
  refine (rfRingsC _ ns _ (HNS.out.fr0 (HF.out.trans0 H1.out)) HBN.out).mono ?_
  rintro e w2 ⟨sv, ss, rfl, hsv, hstold, h2⟩
  have HSV := Lib.hid hsv
  have HSL := Lib.hid hstold
  have H2 := Lib.hid h2
  have HF2 := Lib.hid (H1.out.trans0 h2)
  obtain ⟨sq, sc, rfl, _, _⟩ := (own_sl hsv).form
  clear hsv hstold h2
  go_wp2_with fail
  refine (orderU _ ls _ (HN.out.fr0 HF2.out) HBL.out).mono ?_
  rintro e w3 ⟨ov, rfl, hov, h3⟩
  rw [HOe.out] at hov
  have HOV := Lib.hid hov
  have H3 := Lib.hid h3
  have HF3 := Lib.hid (HF2.out.trans0 h3)
  obtain ⟨oq, oc, rfl, _, _⟩ := (own_sl hov).form
  clear hov h3
  go_wp2_with fail
  refine (rfOrderC _ ns _ (HNS.out.fr0 (HF.out.trans0 HF3.out)) HBN.out).mono ?_
  rintro e w4 ⟨pv, rfl, hpv, h4⟩
  have HPV := Lib.hid hpv
  have H4 := Lib.hid h4
  have HF4 := Lib.hid (HF3.out.trans0 h4)
  obtain ⟨pq, pc, rfl, _, _⟩ := (own_sl hpv).form
  clear hpv h4
  go_wp2_with fail
  refine (leadsU _ ls _ (HN.out.fr0 HF4.out) HBL.out).mono ?_
  rintro e w5 ⟨dv, rfl, hdv, h5⟩
  rw [HDe.out] at hdv
  have HDV := Lib.hid hdv
  have H5 := Lib.hid h5
  have HF5 := Lib.hid (HF4.out.trans0 h5)
  obtain ⟨dq, dc, rfl, _, _⟩ := (own_sl hdv).form
  clear hdv h5
  go_wp2_with fail
  refine (rfLeadsC _ ns _ (HNS.out.fr0 (HF.out.trans0 HF5.out)) HBN.out).mono ?_
  rintro e w6 ⟨yv, rfl, hyv, h6⟩
  have HYV := Lib.hid hyv
  have H6 := Lib.hid h6
  obtain ⟨yq, yc, rfl, _, _⟩ := (own_sl hyv).form
  clear hyv h6
  go_wp2_with fail
  refine (eqRT _ _ (ringsL ns) _ ((rowsS_of HRV.out HTL.out).fr0 (H2.out.trans0 (H3.out.trans0 (H4.out.trans0 (H5.out.trans0 H6.out))))) ((rowsS_of HSV.out HSL.out).fr0 (H3.out.trans0 (H4.out.trans0 (H5.out.trans0 H6.out))))).mono ?_
  rintro e w7 ⟨rfl, h7⟩
  have H7 := Lib.hid (H6.out.trans0 h7)
  have H7' := Lib.hid h7
  clear h7
  go_wp2_with fail
  refine (eqST _ _ (ordL ns) _ ((own_sl HOV.out).fr0 (H4.out.trans0 (H5.out.trans0 H7.out))) ((own_sl HPV.out).fr0 (H5.out.trans0 H7.out))).mono ?_
  rintro e w8 ⟨rfl, h8⟩
  have H8 := Lib.hid (H7.out.trans0 h8)
  have H8' := Lib.hid (H7'.out.trans0 h8)
  clear h8
  go_wp2_with fail
  refine (eqLT _ _ (ldL ns) _ ((own_sl HDV.out).fr0 H8.out) ((own_sl HYV.out).fr0 H8'.out)).mono ?_
  rintro e wm ⟨rfl, hm⟩
  have HM := Lib.hid (H8.out.trans0 hm)
  have HFM := Lib.hid (HF5.out.trans0 HM.out)
  clear hm H7 H8 H7' H8' H6 HYV
  have HRL := Lib.hid (ringsL_ok ns)
  have HOL : Hid ((ordL ns).length ≤ 4194304) := by have := ordL_ok ns; have := HL.out; show _ ≤ _; omega
  have HVL : Hid (vs.length ≤ 3000) := by have h1 := HTL.out.len; have h2 := HRL.out.2; have := HL.out; show _ ≤ _; omega
  have HB0 : Hid (w0.heap.size ≤ w.heap.size) := HF.out.size
  by_cases hk : k = 0
  · subst hk
    have hk0 : ¬ (0 : Int) < ((0 : Nat) : Int) := by omega
    obtain ⟨hT, hI, hov, _⟩ := fresh_begin HJ.out (Fr.refl [] _) HRV.out HTL.out H1.out (H2.out.trans0 H3.out) (owns_mono HOV.out H2.out.size) (H4.out.trans0 H5.out) (owns_mono HDV.out H4.out.size) HM.out HFM.out (fun r hr => by have h1 := (HRL.out.1 r hr).2; have := HL.out; omega)
    have HT := Lib.hid hT
    have HI := Lib.hid hI
    have HOX := Lib.hid hov
    clear hT hI hov
    go_upto_block 4 with fail
    refine freshTakes w0 wm _ _ _ vs (ringsL ns) Bk E K es _ _ sz _ HT.out (fun u hu => hu.1.2.1) HI.out (by have := HVL.out; have := HE.out; omega) _ ?_
    intros
    rename_i K5 es5 lv5 nv5 sz5 w5' hI5
    obtain ⟨hT6, hI6⟩ := fresh_last HT.out hI5 HOX.out HOL.out
    have HT6 := Lib.hid hT6
    have HI6 := Lib.hid hI6
    clear hI5 hT6 hI6 HT HI HOX
    dsimp only
    go_upto_block 6 with fail
    refine freshNil Bk _ vs _ HI6.out.f.2.1 _ ?_
    intros
    rename_i w6' hf6
    obtain ⟨hT7, hI7⟩ := fresh_nil HT6.out HI6.out hf6 (fun g hg => by
      have h1 := (HRV.out.lt g hg).1
      have h2 := HB0.out
      exact ⟨fun hm => by have := HJ.out.qq.lt g hm; omega, by omega⟩)
    have HT7 := Lib.hid hT7
    have HI7 := Lib.hid hI7
    clear hT7 hI7 hf6 HT6 HI6
    dsimp only
    go_wp2_with fail
    refine (takeC Bk K5 es5 lv5 nv5 _ sz5 (ordL ns) _ HI7.out.book (HI7.out.el 0 (by simp) (by simp) (Nat.le_refl _)).1 (HI7.out.el 0 (by simp) (by simp) (Nat.le_refl _)).2 HOL.out (by have h1 := HI7.out.len; have := HVL.out; have := HE.out; omega)).mono ?_
    intro e w7 hp
    obtain ⟨rfl, K8, es8, lv8, nv8, sz8, hI8⟩ := HI7.out.step HT7.out (by simp) hp
    have HI8 := Lib.hid hI8
    clear hp hI8 HI7 HT7
    go_upto_block 8 with fail
    refine freshLead Bk _ (ldL ns) _ HI8.out.f.2 _ ?_
    intros
    rename_i w8 hf8
    have HJ9 := Lib.hid (fresh_end HI8.out hf8 (fun g hg => by
      have h1 := (HDV.out.lt g hg).1
      have h2 := HB0.out
      have h3 := HF4.out.size
      exact ⟨fun hm => by have := HJ.out.qq.lt g hm; omega, by omega⟩) HJ.out.m0 HJ.out.ll)
    clear hf8
    dsimp only
    go_wp2
    apply HQ.out
    exact FI.le ⟨_, _, _, _, _, _, _, _, _, HJ9.out⟩ (by have := HVL.out; omega) (by omega)
  · have hk0 : (0 : Int) < (k : Int) := by omega
    obtain ⟨i0, hi0, hz0, hz1, hz2⟩ := info_parts infoTSf
    have hJm := HJ.out.fr0 HFM.out
    have hq := hJm.qq.q
    have hqs : qs.length ≤ 4194304 := by have h1 := HJ.out.qq.qe.1; have h2 := HJ.out.ll; have := HNN.out; omega
    have hws : ws.length ≤ 4194304 := by have h1 := HJ.out.qq.we.1; have h2 := HJ.out.ll; have := HNN.out; omega
    have hvs := HVL.out
    have hrm := owns_fr HRV.out (H2.out.trans0 (H3.out.trans0 (H4.out.trans0 (H5.out.trans0 HM.out)))) (by simp)
    have HJM := Lib.hid hJm
    clear hJm
    go_upto_region 24 with (first
      | (at_builtin; refine wpList_appendRow (v := .slice qq qs.length qc) rfl _ _ 32 rfl tS i0 _ 1 24 Tryz.underlying32 hi0 hz0 hz1 hz2 rfl (by decide) rfl hq rfl hrm HTL.out.one (by unfold maxLen; omega) (by omega) ?_; intro v1 wa hv1 hfa hba)
      | (at_builtin; refine wpList_appendRow (v := v1) rfl _ _ 32 rfl tS i0 _ 1 24 Tryz.underlying32 hi0 hz0 hz1 hz2 rfl (by decide) rfl (hv1.alloc (.cells #[.slice oq (ordL ns).length oc] tS)) rfl (own_new1 wa (.slice oq (ordL ns).length oc)) (by simp [Value.oneCell']) (by unfold maxLen; omega) (by omega) ?_; intro v2 wb hv2 hfb hbb))
    have hA := AP.two hfa hba hv2 hfb hbb rfl
    have HA := Lib.hid hA
    have hwA : wb.ownsRow 0 tS 1 (.slice wq ws.length wc) ws.length ws := owns_fr HJM.out.qq.w' hA.2.1 fun g hg hm => HJM.out.qq.sep g (by simpa using hm) hg
    have hsm : wb.ownsRow w1.heap.size tS 1 (.slice sq ss.length sc) ss.length ss := owns_fr (owns_fr HSV.out (H3.out.trans0 (H4.out.trans0 (H5.out.trans0 HM.out))) (by simp)) hA.2.1 fun g hg hm => by
      have h1 := (HSV.out.lt g hg).1
      have h2 := HJ.out.qq.lt g (HJ.out.qq.qM g (by simpa using hm))
      have h3 := H1.out.size
      omega
    have hss : ss.length ≤ 3000 := by have h1 := HSL.out.len; have h2 := HRL.out.2; have := HL.out; omega
    clear hfa hba hv1 hv2 hfb hbb hA hq hrm
    go_wp2_with (first
      | (at_builtin; refine wpList_appendRow (v := .slice wq ws.length wc) rfl _ _ 32 rfl tS i0 _ 1 24 Tryz.underlying32 hi0 hz0 hz1 hz2 rfl (by decide) rfl hwA rfl hsm HSL.out.one (by unfold maxLen; omega) (by omega) ?_; intro x1 wc' hx1 hfc hbc)
      | (at_builtin; refine wpList_appendRow (v := x1) rfl _ _ 32 rfl tS i0 _ 1 24 Tryz.underlying32 hi0 hz0 hz1 hz2 rfl (by decide) rfl (hx1.alloc (.cells #[.slice pq (ordL ns).length pc] tS)) rfl (own_new1 wc' (.slice pq (ordL ns).length pc)) (by simp [Value.oneCell']) (by unfold maxLen; omega) (by omega) ?_; intro x2 wd hx2 hfd hbd))
    have hW := AP.two hfc hbc hx2 hfd hbd rfl
    apply HQ.out
    exact FI.le (FJ.push (B := w.heap.size) HJM.out HJ.out.qq.lt HJ.out.book.lt HB0.out HFM.out.size (HTL.out.to (H2.out.trans0 (H3.out.trans0 (H4.out.trans0 (H5.out.trans0 HM.out)))) (Nat.le_refl _)) (HSL.out.to (H3.out.trans0 (H4.out.trans0 (H5.out.trans0 HM.out))) H1.out.size) (owns_mono (owns_fr HOV.out (H4.out.trans0 (H5.out.trans0 HM.out)) (by simp)) HF2.out.size) (owns_mono (owns_fr HPV.out (H5.out.trans0 HM.out) (by simp)) HF3.out.size) HA.out hW) (by omega) (by have h1 := HTL.out.len; have := HVL.out; omega)
end Go.Proofs.YtdlpbpohbkcafaaGreat
