/-
  CycleApart: one round.
  The walk of quadrillelaw21.CycleApart.
-/
import Derived.Test.YtdlpbpohbkcafaaCLawAC
import Derived.Test.YtdlpbpohbkcafaaCApR
import Derived.Test.YtdlpbpohbkcafaaCBookC
import Derived.Test.YtdlpbpohbkcafaaCApA
namespace Go.Proofs.Ytdlpbpohbkcafaa
section
open Go.RowKit Go.Shelf Go.Sort Go.Proofs

theorem eqRT (va vb : Value) (l : List (List Sp)) (w : World) (ha : RowsS w va l) (hb : RowsS w vb l) : Calls Try.prog 18 #[va, vb] w fun e w1 => e = .returned (.bool true) ∧ Fr [] w w1 := by
  have := eqRingsC va vb l l w ha hb
  rwa [decide_eq_true rfl] at this
theorem eqST (va vb : Value) (l : List Sp) (w : World) (ha : SpotsAt w va l) (hb : SpotsAt w vb l) : Calls Try.prog 19 #[va, vb] w fun e w1 => e = .returned (.bool true) ∧ Fr [] w w1 := by
  have := eqC va vb l l w ha hb
  rwa [decide_eq_true rfl] at this
theorem eqLT (va vb : Value) (l : List Lx) (w : World) (ha : LeadsAt w va l) (hb : LeadsAt w vb l) : Calls Try.prog 20 #[va, vb] w fun e w1 => e = .returned (.bool true) ∧ Fr [] w w1 := by
  have := eqLeadsC va vb l l w ha hb
  rwa [decide_eq_true rfl] at this
theorem RG.fr0 {w7 w w1 : World} {G : List Nat} {kk : Int} {i : Nat} {v : Value} {us : List Value} (h : RG w7 G kk i v us w) (hf : Fr [] w w1) : RG w7 G kk i v us w1 := ⟨owns_fr h.row hf (by simp), fun j h1 h2 => ⟨owns_fr (h.el j h1 h2).1 hf (by simp), (h.el j h1 h2).2⟩, h.blk, h.f.trans0 hf⟩
theorem DG.fr0 {w7 w w1 : World} {G : List Nat} {kk : Int} {i : Nat} {v : Value} {us : List Lx} (h : DG w7 G kk i v us w) (hf : Fr [] w w1) : DG w7 G kk i v us w1 := ⟨owns_fr h.row hf (by simp), h.el, h.blk, h.f.trans0 hf⟩
theorem RG.start {w : World} {kk : Int} {v : Value} {us : List Value} (h : w.ownsRow 0 tS 1 v us.length us) : RG w v.ownBlock.toList kk 0 v us w := ⟨h, fun _ _ h => absurd h (Nat.not_lt_zero _), fun g hg => .inl (by rw [hg]; simp), Fr.refl _ _⟩
theorem DG.start {w : World} {kk : Int} {v : Value} {ls : List Lx} (h : w.ownsRow 0 tLd 6 v ls.length (ls.flatMap lxC)) : DG w v.ownBlock.toList kk 0 v ls w := ⟨h, fun _ _ h => absurd h (Nat.not_lt_zero _), fun g hg => .inl (by rw [hg]; simp), Fr.refl _ _⟩
set_option maxRecDepth 100000 in
set_option maxHeartbeats 6400000 in
theorem lawRound (w0 w : World) (Bk k : Nat) (hk : k < 3) (av tv lv m10 m11 m12 : Value) (ls : List Nd) {s0 s1 s2 s4 s6 s8 s17 s18 s19 s20 s21 s22 s23 s24 s25 s26 s27 s28 s29 s30 s31 s32 s33 s34 s35 s36 s37 s38 s39 s40 s41 s42 s43 s44 s45 s46 s47 s48 s49 s50 s51 s52 s53 s54 s55 s56 s57 s58 s59 s60 s61 s62 s63 s64 s65 s66 s67 s68 s69 s70 s71 s72 s73 s74 s75 s76 s77 s78 s79 s80 s81 s82 s83 s84 s85 s86 s87 s88 s89 s90 s91 s92 s93 s94 s95 s96 s97 s98 s99 s100 s101 s102 s103 s104 s105 s106 s107 s108 s109 s110 s111 s112 s113 s114 s115 s116 s117 s118 s119 s120 s121 s122 s123 s124 s125 s126 s127 s128 s129 s130 s131 s132 s133 s134 s135 s136 s137 s138 s139 s140 s141 s142 s143 s144 s145 s146 s147 s148 s149 s150 s151 s152 s153 s154 s155 s156 s157 s158 s159 s160 s161 s162 s163 s164 s165 s166 s167 s168 s169 s170 s171 s172 s173 s174 s175 s176 s177 s178 s179 s180 s181 s182 s183 s184 s185 s186 s187 s188 s189 s190 s191 s192 s193 s194 s195 s196 s197 s198 s199 s200 s201 s202 s203 s204 s205 s206 s207 s208 s209 s210 s211 s212 s213 s214 s215 s216 s217 s218 s219 s220 s221 s222 s223 s224 s225 s226 s227 s228 s229 s230 s231 s232 s233 s234 s235 s236 s237 s238 s239 s240 s241 s242 s243 s244 s245 s246 s247 s248 s249 s250 s251 s252 s253 : Value} (hN : NodesAt w0 lv ls) (hB : ls.length + tot ls ≤ 3000) (h10 : RowsS w0 m10 (ringsL ls)) (h11 : SpotsAt w0 m11 (ordL ls)) (h12 : LeadsAt w0 m12 (ldL ls)) (hI : LI w0 Bk k av tv w) (Q : Exit → Act → World → Prop)
    (hQ : ∀ (n17 n18 n19 n20 n21 n22 n23 n24 n25 n26 n27 n65 n66 n67 n68 n69 n70 n71 n72 n73 n74 n75 n76 n77 n78 n79 n80 n81 n82 n83 n84 n85 n86 n87 n88 n89 n90 n91 n92 n93 n94 n95 n96 n97 n98 n99 n100 n101 n102 n103 n104 n105 n106 n107 n108 n109 n110 n111 n112 n113 n114 n115 n116 n117 n118 n119 n120 n121 n122 n123 n124 n125 n126 n127 n128 n129 n130 n131 n132 n133 n134 n135 n136 n137 n138 n139 n140 n141 n142 n143 n144 n145 n146 n147 n148 n149 n150 n151 n152 n153 n154 n155 n156 n157 n158 n159 n160 n161 n162 n163 n164 n165 n166 n167 n168 n169 n170 n171 n172 n173 n174 n175 n176 n177 n178 n179 n180 n181 n182 n183 n184 n185 n186 n187 n188 n189 : Value) (av' tv' : Value) (w' : World), LI w0 Bk (k + 1) av' tv' w' → Q .normal { tmps := #[s0, s1, s2, lv, s4, .int .i64 (madeE ls), s6, .int .i64 (ordE ls), s8, .int .i64 (ldE ls), m10, m11, m12, .pointer (some ⟨Bk, 0, none⟩), av', tv', .int .i64 (k : Int), n17, n18, n19, n20, n21, n22, n23, n24, n25, n26, n27, s28, s29, s30, s31, s32, s33, s34, s35, s36, s37, s38, s39, s40, s41, s42, s43, s44, s45, s46, s47, s48, s49, s50, s51, s52, s53, s54, s55, s56, s57, s58, s59, s60, s61, s62, s63, s64, n65, n66, n67, n68, n69, n70, n71, n72, n73, n74, n75, n76, n77, n78, n79, n80, n81, n82, n83, n84, n85, n86, n87, n88, n89, n90, n91, n92, n93, n94, n95, n96, n97, n98, n99, n100, n101, n102, n103, n104, n105, n106, n107, n108, n109, n110, n111, n112, n113, n114, n115, n116, n117, n118, n119, n120, n121, n122, n123, n124, n125, n126, n127, n128, n129, n130, n131, n132, n133, n134, n135, n136, n137, n138, n139, n140, n141, n142, n143, n144, n145, n146, n147, n148, n149, n150, n151, n152, n153, n154, n155, n156, n157, n158, n159, n160, n161, n162, n163, n164, n165, n166, n167, n168, n169, n170, n171, n172, n173, n174, n175, n176, n177, n178, n179, n180, n181, n182, n183, n184, n185, n186, n187, n188, n189, s190, s191, s192, s193, s194, s195, s196, s197, s198, s199, s200, s201, s202, s203, s204, s205, s206, s207, s208, s209, s210, s211, s212, s213, s214, s215, s216, s217, s218, s219, s220, s221, s222, s223, s224, s225, s226, s227, s228, s229, s230, s231, s232, s233, s234, s235, s236, s237, s238, s239, s240, s241, s242, s243, s244, s245, s246, s247, s248, s249, s250, s251, s252, s253], defers := [] } w') :
    (subC [1, 1, 1, 1, 1, 1, 1, 1, 1, 1, 1, 1, 1, 0, 1, 0, 0, 1, 0] (Try.f6.body.getD .skip)).wp Try.prog Q { tmps := #[s0, s1, s2, lv, s4, .int .i64 (madeE ls), s6, .int .i64 (ordE ls), s8, .int .i64 (ldE ls), m10, m11, m12, .pointer (some ⟨Bk, 0, none⟩), av, tv, .int .i64 (k : Int), s17, s18, s19, s20, s21, s22, s23, s24, s25, s26, s27, s28, s29, s30, s31, s32, s33, s34, s35, s36, s37, s38, s39, s40, s41, s42, s43, s44, s45, s46, s47, s48, s49, s50, s51, s52, s53, s54, s55, s56, s57, s58, s59, s60, s61, s62, s63, s64, s65, s66, s67, s68, s69, s70, s71, s72, s73, s74, s75, s76, s77, s78, s79, s80, s81, s82, s83, s84, s85, s86, s87, s88, s89, s90, s91, s92, s93, s94, s95, s96, s97, s98, s99, s100, s101, s102, s103, s104, s105, s106, s107, s108, s109, s110, s111, s112, s113, s114, s115, s116, s117, s118, s119, s120, s121, s122, s123, s124, s125, s126, s127, s128, s129, s130, s131, s132, s133, s134, s135, s136, s137, s138, s139, s140, s141, s142, s143, s144, s145, s146, s147, s148, s149, s150, s151, s152, s153, s154, s155, s156, s157, s158, s159, s160, s161, s162, s163, s164, s165, s166, s167, s168, s169, s170, s171, s172, s173, s174, s175, s176, s177, s178, s179, s180, s181, s182, s183, s184, s185, s186, s187, s188, s189, s190, s191, s192, s193, s194, s195, s196, s197, s198, s199, s200, s201, s202, s203, s204, s205, s206, s207, s208, s209, s210, s211, s212, s213, s214, s215, s216, s217, s218, s219, s220, s221, s222, s223, s224, s225, s226, s227, s228, s229, s230, s231, s232, s233, s234, s235, s236, s237, s238, s239, s240, s241, s242, s243, s244, s245, s246, s247, s248, s249, s250, s251, s252, s253], defers := [] } w := by
  have HQ := Lib.hid hQ
  have HN := Lib.hid hN
  have H10 := Lib.hid h10
  have H11 := Lib.hid h11
  have H12 := Lib.hid h12
  have HB : Hid (ls.length + tot ls ≤ 4194304) := by show _ ≤ _; omega
  have HL := Lib.hid hB
  obtain ⟨K, es, blv, bnv, sz, M, us, ts, hJ⟩ := hI
  have HJ := Lib.hid hJ
  have HF := Lib.hid hJ.fr
  obtain ⟨lq, lc, rfl, _, _⟩ := hN.row.form
  obtain ⟨q10, c10, rfl, _, _⟩ := h10.form
  obtain ⟨q11, c11, rfl, _, _⟩ := h11.form
  obtain ⟨q12, c12, rfl, _, _⟩ := h12.form
  obtain ⟨aq, ac, rfl, _, _⟩ := (own_sl hJ.aa.a).form
  obtain ⟨tq, tc, rfl, _, _⟩ := (own_sl hJ.aa.t).form
  clear hQ hN h10 h11 h12 hB hJ
  show (Code.block 1 _).wp _ _ _ _
  dsimp only
  go_wp2_with fail
  refine (ringsU _ ls _ (HN.out.fr0 HF.out) HB.out).mono ?_
  rintro e w1 ⟨rv, vs, rfl, hrv, htold, h1⟩
  have HRV := Lib.hid hrv
  have HTL := Lib.hid htold
  have H1 := Lib.hid h1
  have HF1 := Lib.hid (HF.out.trans0 h1)
  obtain ⟨rq, rc, rfl, hr1, hr2⟩ := (own_sl hrv).form
  clear hrv htold h1
  go_wp2_with fail
  refine (orderU _ ls _ (HN.out.fr0 HF1.out) HB.out).mono ?_
  rintro e w2 ⟨ov, rfl, hov, h2⟩
  have HOV := Lib.hid hov
  have H2 := Lib.hid h2
  have HF2 := Lib.hid (HF1.out.trans0 h2)
  obtain ⟨oq, oc, rfl, ho1, ho2⟩ := (own_sl hov).form
  clear hov h2
  go_wp2_with fail
  refine (leadsU _ ls _ (HN.out.fr0 HF2.out) HB.out).mono ?_
  rintro e w3 ⟨dv, rfl, hdv, h3⟩
  have HDV := Lib.hid hdv
  have H3 := Lib.hid h3
  have HF3 := Lib.hid (HF2.out.trans0 h3)
  obtain ⟨dq, dc, rfl, hd1, hd2⟩ := (own_sl hdv).form
  clear hdv h3
  go_wp2_with fail
  refine (eqRT _ _ (ringsL ls) _ ((rowsS_of HRV.out HTL.out).fr0 (H2.out.trans0 H3.out)) (H10.out.fr0 HF3.out)).mono ?_
  rintro e w4 ⟨rfl, h4⟩
  have H4 := Lib.hid h4
  clear h4
  go_wp2_with fail
  refine (eqST _ _ (ordL ls) _ ((own_sl HOV.out).fr0 (H3.out.trans0 H4.out)) (H11.out.fr0 (HF3.out.trans0 H4.out))).mono ?_
  rintro e w5 ⟨rfl, h5⟩
  have H5 := Lib.hid (H4.out.trans0 h5)
  clear h5
  go_wp2_with fail
  refine (eqLT _ _ (ldL ls) _ ((own_sl HDV.out).fr0 H5.out) (H12.out.fr0 (HF3.out.trans0 H5.out))).mono ?_
  rintro e wm ⟨rfl, hm⟩
  have HM := Lib.hid (H5.out.trans0 hm)
  clear hm H4 H5
  have HRL := Lib.hid (ringsL_ok ls)
  have HOL : Hid ((ordL ls).length ≤ 4194304) := by have := ordL_ok ls; have := HL.out; show _ ≤ _; omega
  have HDL : Hid ((ldL ls).length ≤ 4194304) := by have := ldL_ok ls; have := HL.out; show _ ≤ _; omega
  have HVL : Hid (vs.length ≤ 3000) := by have h1 := HTL.out.len; have h2 := HRL.out.2; have := HL.out; show _ ≤ _; omega
  obtain ⟨hT, hI, hov, hx0⟩ := take_begin HJ.out (Fr.refl [] _) HRV.out HTL.out H1.out H2.out HOV.out H3.out HDV.out HM.out ((H1.out.trans0 H2.out).trans0 (H3.out.trans0 HM.out)) (fun r hr => by have h1 := (HRL.out.1 r hr).2; have := HL.out; omega)
  have HT := Lib.hid hT
  have HI := Lib.hid hI
  have HOX := Lib.hid hov
  have HX0 := Lib.hid hx0
  clear hT hI hov hx0
  go_upto_block 2 with fail
  refine lawTakes w0 wm _ _ _ vs (ringsL ls) Bk (3001 * k) K es _ _ sz _ HT.out (fun u hu => hu.1.2.1) HI.out (by have := HVL.out; omega) _ ?_
  intros
  rename_i K5 es5 lv5 nv5 sz5 w5 hI5
  obtain ⟨hT6, hI6⟩ := take_last HT.out hI5 HOX.out HOL.out
  have HT6 := Lib.hid hT6
  have HI6 := Lib.hid hI6
  clear hI5 hT6 hI6
  dsimp only
  go_wp2_with fail
  refine (takeC Bk K5 es5 lv5 nv5 _ sz5 (ordL ls) _ HI6.out.book (HI6.out.el 0 (by simp) (by simp) (Nat.le_refl _)).1 (HI6.out.el 0 (by simp) (by simp) (Nat.le_refl _)).2 HOL.out (by have h1 := HI6.out.len; have := HVL.out; omega)).mono ?_
  intro e w6 hp
  obtain ⟨rfl, K7, es7, lv7, nv7, sz7, hI7⟩ := HI6.out.step HT6.out (by simp) hp
  have HI7 := Lib.hid hI7
  clear hp hI7
  have HROW6 := Lib.hid HI7.out.f.2.1
  go_upto_block 4 with fail
  refine lawOverR w6 _ vs k hk _ (RG.start HROW6.out) _ ?_
  intros
  rename_i us7 w7 hul hr7
  have HR7 := Lib.hid hr7
  have HUL : Hid (us7.length ≤ 4194304) := by have := HVL.out; show _ ≤ _; omega
  clear hr7 hul
  dsimp only
  obtain ⟨rq', rc', e, hrl1, hrl2⟩ := (own_sl HR7.out.row).form
  obtain ⟨rfl, hvu, rfl⟩ : rq = rq' ∧ vs.length = us7.length ∧ rc = rc' := by
    injection e with h1 h2 h3
    exact ⟨h1, h2, h3⟩
  have HVU := Lib.hid hvu
  clear e
  rw [HVU.out]
  have HRML := Lib.hid (roomN_le (n := us7.length) (c := rc) hrl1)
  clear hvu
  go_wp2_with fail
  refine (roomC us7.length rc _ HUL.out).mono ?_
  rintro e w8 ⟨rfl, h8⟩
  obtain ⟨hR1, _, hR2⟩ := HRML.out
  have hr8 := HR7.out.fr0 h8
  rw [HVU.out] at hr8
  have HR8 := Lib.hid hr8
  clear hr8
  generalize roomN us7.length rc = R at *
  have hR3 : R ≤ 4264304 := by have := HUL.out; omega
  clear h8 hR2
  go_upto_block 6 with fail
  refine lawGrowR w6 w8 _ us7 k hk _ R HR8.out hR1 hR3 _ ?_
  intros
  rename_i rv9 us9 w9 hr9
  rw [← HVU.out] at hr9
  have HR9 := Lib.hid hr9
  clear hr9 hR1 hR3 HRML
  dsimp only
  obtain ⟨_, hf62, hf63⟩ := HI7.out.f
  have hno := own_not hf63 hf62 (by decide)
  have HD9 := Lib.hid (owns_fr hf63 HR9.out.f hno)
  clear hf62 hf63 hno
  go_upto_block 8 with fail
  refine lawOverD w9 _ (ldL ls) k hk _ (DG.start HD9.out) _ ?_
  intros
  rename_i ds10 w10 hdl hd10
  have HD10 := Lib.hid hd10
  have HDU : Hid (ds10.length ≤ 4194304) := by have := HDL.out; show _ ≤ _; omega
  clear hd10 hdl
  dsimp only
  obtain ⟨dq', dc', e, hdl1, hdl2⟩ := (own_sl HD10.out.row).form
  obtain ⟨rfl, hdu, rfl⟩ : dq = dq' ∧ (ldL ls).length = ds10.length ∧ dc = dc' := by
    injection e with h1 h2 h3
    exact ⟨h1, h2, h3⟩
  have HDV2 := Lib.hid hdu
  clear e
  rw [HDV2.out]
  have HRMD := Lib.hid (roomN_le (n := ds10.length) (c := dc) hdl1)
  clear hdu
  go_wp2_with fail
  refine (roomC ds10.length dc _ HDU.out).mono ?_
  rintro e w11 ⟨rfl, h11⟩
  obtain ⟨hR1, _, hR2⟩ := HRMD.out
  have hd11 := HD10.out.fr0 h11
  rw [HDV2.out] at hd11
  have HD11 := Lib.hid hd11
  clear hd11
  generalize roomN ds10.length dc = R2 at *
  have hR3 : R2 ≤ 4264304 := by have := HDU.out; omega
  clear h11 hR2
  go_upto_block 10 with fail
  refine lawGrowD w9 w11 _ ds10 k hk _ R2 HD11.out hR1 hR3 _ ?_
  intros
  rename_i dv12 ds12 w12 hd12
  rw [← HDV2.out] at hd12
  have HD12 := Lib.hid hd12
  clear hd12 hR1 hR3 HRMD
  dsimp only
  obtain ⟨M2, M3, hMJ⟩ := mid_of (k := k) HI7.out HX0.out HJ.out.ul HJ.out.tl (by have := HVL.out; omega) (fun b hb hm => by have h1 := HJ.out.aa.lt b hb; have h2 := (HRV.out.lt b (by simpa using hm)).1; omega) (fun b hb hm => by have h1 := HJ.out.aa.lt b hb; have h2 := (HDV.out.lt b (by simpa using hm)).1; have h3 := H1.out.size; have h4 := H2.out.size; omega) HR9.out HD12.out
  obtain ⟨i1, hi1, hx0, hx1, hx2⟩ := info_parts infoRR
  obtain ⟨i2, hi2, hy0, hy1, hy2⟩ := info_parts infoLL
  have hul : us.length = k := hMJ.ul
  have htl : ts.length = k := hMJ.tl
  have hmj := hMJ
  rw [hul, htl] at hmj
  have HMJ := Lib.hid hmj
  obtain ⟨r9q, r9c, rfl, _, _⟩ := (own_sl HR9.out.row).form
  obtain ⟨d9q, d9c, rfl, _, _⟩ := (own_sl HD12.out.row).form
  have hA := hMJ.aa.a
  have hTT := hMJ.aa.t
  rw [hul] at hA ⊢
  rw [htl] at hTT ⊢
  have HTT := Lib.hid hTT
  have hown2 := hA.alloc (.cells #[.slice r9q us9.length r9c] tRR)
  have HA := Lib.hid hA
  clear hMJ hmj hul htl hA hTT
  go_upto_region 43 with (at_builtin; refine wpList_append_lies _ rfl _ _ 53 rfl 0 tRR i1 _ 1 24 Try.underlying53 hi1 hx0 hx1 hx2 rfl (by decide) (.slice aq k ac) _ _ rfl hown2 ⟨w12.heap.size, 0, none⟩ 1 1 [.slice r9q us9.length r9c] rfl rfl (by have := news_of w12 [.slice r9q us9.length r9c] tRR; simpa using this) (one_mem rfl) (by omega) (by unfold maxLen; omega) (by omega) (Nat.zero_le _) (w12.heap.size + 1) (by simp) ?_; intro g13 c13 w13 hown13 hgrow13 hat13 hlt13)
  have hfa : Fr [] w12 (w12.alloc (.cells #[.slice r9q us9.length r9c] tRR)) := (Fr.refl [] w12).alloc _
  have hT3 := owns_fr (owns_fr HTT.out hfa (by simp)) (fr_grown hgrow13) (own_not (owns_fr HTT.out hfa (by simp)) hown2 (by decide))
  have hown3 := hT3.alloc (.cells #[.slice d9q ds12.length d9c] tLL)
  have HFA := Lib.hid hfa
  have HO13 := Lib.hid hown13
  have HG13 := Lib.hid hgrow13
  have HA13 := Lib.hid hat13
  clear hfa hT3 hown13 hgrow13 hat13 hlt13 hown2
  go_wp2_with (at_builtin; refine wpList_append_lies _ rfl _ _ 54 rfl 0 tLL i2 _ 1 24 Try.underlying54 hi2 hy0 hy1 hy2 rfl (by decide) (.slice tq k tc) _ _ rfl hown3 ⟨w13.heap.size, 0, none⟩ 1 1 [.slice d9q ds12.length d9c] rfl rfl (by have := news_of w13 [.slice d9q ds12.length d9c] tLL; simpa using this) (one_mem rfl) (by omega) (by unfold maxLen; omega) (by omega) (Nat.zero_le _) (w13.heap.size + 1) (by simp) ?_; intro g14 c14 w14 hown14 hgrow14 hat14 hlt14)
  have hE := HMJ.out.fin HFA.out HO13.out HG13.out HA13.out (Nat.le_succ _) ((Fr.refl [] w13).alloc _) hown14 hgrow14 hat14 (Nat.le_succ _)
  rw [← HDV2.out]
  apply HQ.out
  exact hE
end
section
open Go.RowKit Go.Shelf Go.Sort Go.Proofs

theorem run_nilS (ty : TypeId) (u : World) (q : Option Addr) (c : Nat) : (Builtin.append_ #[30, 30] ty #[.slice none 0 0, .slice q 0 c]).run Try.prog u = .ok (.slice none 0 0) u := by
  cases q <;> kernel_rfl
theorem run_nilL (ty : TypeId) (u : World) (q : Option Addr) (c : Nat) : (Builtin.append_ #[43, 43] ty #[.slice none 0 0, .slice q 0 c]).run Try.prog u = .ok (.slice none 0 0) u := by
  cases q <;> kernel_rfl
theorem lxC_one {l : List Lx} : ∀ u ∈ l.flatMap lxC, u.oneCell' = true := fun u hu => by
  obtain ⟨s, _, hs⟩ := List.mem_flatMap.1 hu
  simp at hs
  rcases hs with rfl | rfl | rfl | rfl | rfl | rfl <;> rfl
theorem LI.start (w : World) : LI w w.heap.size 0 (.slice none 0 0) (.slice none 0 0) (w.alloc (.cells #[.slice none 0 0, .slice none 0 0, .int .i64 0] tBk)) :=
  ⟨[w.heap.size], [], .slice none 0 0, .slice none 0 0, 0, [], [], [], ⟨heap_new w _, World.ownsRow_nil _ _ _ _, World.ownsRow_nil _ _ _ _, (fun g h => by cases h), (fun g h => by cases h), by simp, fun i h => absurd h (Nat.not_lt_zero _), by simp, List.Pairwise.nil, by simp, by simp⟩,
    ⟨World.ownsRow_nil _ _ _ _, World.ownsRow_nil _ _ _ _, (fun g h => by cases h), (fun g h => by cases h), fun i h => absurd h (Nat.not_lt_zero _), fun i h => absurd h (Nat.not_lt_zero _), by simp⟩, rfl, rfl, by simp, by simp, by simp, by simp, (Fr.refl [] w).alloc _⟩
set_option maxRecDepth 100000 in
set_option maxHeartbeats 6400000 in
theorem cycleApart_walk (v : Value) (ns : List Nd) (w : World) (hv : NodesAt w v ns) (hs : Small ns) : Calls Try.prog 6 #[v] w fun e w1 => e = .returned (.bool true) ∧ Fr [] w w1 := by
  obtain ⟨vq, vc, rfl, _, _⟩ := hv.row.form
  have HV := Lib.hid hv
  have HS := Lib.hid hs
  clear hv hs
  obtain ⟨i0, hi0, hz0, hz1, hz2⟩ := info_parts infoSpot
  obtain ⟨i1, hi1, hy0, hy1, hy2⟩ := info_parts infoLead
  go_enter Try.func6, Try.ntmps6
  go_wp2_with fail
  refine (begun21 _).mono ?_
  rintro e w1 ⟨rfl, h1⟩
  have H1 := Lib.hid h1
  clear h1
  go_wp2_with fail
  refine (lightC _ ns 3000 _ (HV.out.fr0 H1.out) HS.out (by omega)).mono ?_
  rintro e w2 ⟨b, rfl, hb, h2⟩
  have H2 := Lib.hid (H1.out.trans0 h2)
  have HBI := Lib.hid hb
  clear h2 hb
  cases hbb : b with
  | false =>
    subst hbb
    go_wp2
    go_ret
    exact ⟨rfl, H2.out⟩
  | true =>
    have HB := Lib.hid (HBI.out hbb)
    subst hbb
    go_wp2_with fail
    refine (twinC _ ns _ (HV.out.fr0 H2.out) (by have := HB.out; omega)).mono ?_
    rintro e w3 ⟨tv, ls, rfl, htw, hera, h3⟩
    have HTW := Lib.hid htw
    have HERA := Lib.hid hera
    have H3 := Lib.hid (H2.out.trans0 h3)
    have HLB : Hid (ls.length + tot ls ≤ 3000) := by
      have h := HB.out
      rw [tot_era, ← era_len ns] at h
      show _ ≤ _
      rw [tot_era, ← era_len ls, hera]
      exact h
    have HLB2 : Hid (ls.length + tot ls ≤ 4194304) := by have := HLB.out; show _ ≤ _; omega
    clear htw hera h3
    go_wp2_with fail
    refine (ringsU _ ls _ HTW.out.nodes HLB2.out).mono ?_
    rintro e w4 ⟨rv, vs, rfl, hrv, htold, h4⟩
    have HRV := Lib.hid hrv
    have HTL := Lib.hid htold
    have H4 := Lib.hid h4
    clear hrv htold h4
    go_wp2_with fail
    refine (orderU _ ls _ (HTW.out.nodes.fr0 H4.out) HLB2.out).mono ?_
    rintro e w5 ⟨ov, rfl, hov, h5⟩
    have HOV := Lib.hid hov
    have H5 := Lib.hid h5
    clear hov h5
    go_wp2_with fail
    refine (leadsU _ ls _ (HTW.out.nodes.fr0 (H4.out.trans0 H5.out)) HLB2.out).mono ?_
    rintro e w6 ⟨dv, rfl, hdv, h6⟩
    have HDV := Lib.hid hdv
    have H6 := Lib.hid h6
    clear hdv h6
    have HRK := Lib.hid (ringsL_ok ls)
    go_wp2_with fail
    refine (copiedC _ (ringsL ls) _ ((rowsS_of HRV.out HTL.out).fr0 (H5.out.trans0 H6.out)) (fun l hl => (HRK.out.1 l hl).1) (fun l hl => by have h1 := (HRK.out.1 l hl).2; have := HLB.out; omega) (by have h1 := HRK.out.2; have := HLB.out; omega)).mono ?_
    rintro e w7 ⟨m10, us10, rfl, hcop, h7⟩
    have H10 := Lib.hid hcop.rows
    have H7 := Lib.hid h7
    clear hcop h7
    have hos := (own_sl HOV.out).fr0 (H6.out.trans0 H7.out)
    have hol := ordL_ok ls
    have hol2 : (ordL ls).length ≤ 4194304 := by have := HLB.out; omega
    obtain ⟨oq, oc, rfl, _, _⟩ := hos.form
    go_upto_region 11 with (at_builtin; refine wpList_copyNil rfl _ 30 rfl tSp i0 _ 2 16 Try.underlying30 hi0 hz0 hz1 hz2 rfl (by decide) rfl hos (fun q c => run_nilS _ _ q c) spC_one hol2 (by decide) ?_; intro m11 w8 hm11 h8)
    have H11 := Lib.hid hm11
    have H8 := Lib.hid h8
    clear hos hm11 h8 hol hol2
    have hds := (own_sl HDV.out).fr0 (H7.out.trans0 H8.out)
    have hdl := ldL_ok ls
    have hdl2 : (ldL ls).length ≤ 4194304 := by have := HLB.out; omega
    obtain ⟨dq, dc, rfl, _, _⟩ := hds.form
    obtain ⟨q11, n11, c11, rfl⟩ := own_form H11.out
    go_upto_region 12 with (at_builtin; refine wpList_copyNil rfl _ 43 rfl tLd i1 _ 6 48 Try.underlying43 hi1 hy0 hy1 hy2 rfl (by decide) rfl hds (fun q c => run_nilL _ _ q c) lxC_one hdl2 (by decide) ?_; intro m12 w9 hm12 h9)
    have H12 := Lib.hid hm12
    have H9 := Lib.hid h9
    clear hds hm12 h9 hdl hdl2
    obtain ⟨q12, n12, c12, rfl⟩ := own_form H12.out
    have HN9 := Lib.hid (HTW.out.nodes.fr0 (H4.out.trans0 (H5.out.trans0 (H6.out.trans0 (H7.out.trans0 (H8.out.trans0 H9.out))))))
    have HT9 := Lib.hid (HTW.out.fr0 (H4.out.trans0 (H5.out.trans0 (H6.out.trans0 (H7.out.trans0 (H8.out.trans0 H9.out))))))
    have H109 := Lib.hid (H10.out.fr0 (H8.out.trans0 H9.out))
    have H119 := Lib.hid ((own_sl H11.out).fr0 H9.out)
    have H129 := Lib.hid (own_sl H12.out)
    have HF9 := Lib.hid (H3.out.trans0 (H4.out.trans0 (H5.out.trans0 (H6.out.trans0 (H7.out.trans0 (H8.out.trans0 H9.out))))))
    have HL0 := Lib.hid (LI.start w9)
    clear HTW HRV HTL HOV HDV H10 H11 H12
    go_wp2_with fail
    go_loopw [14, 15, 16] (fun av tv i wr => ∃ k : Nat, i = .int .i64 (k : Int) ∧ k ≤ 3 ∧ LI w9 w9.heap.size k av tv wr) (fun _ _ i _ => 3 - (intOf i).toNat)
    case atStart => exact ⟨0, rfl, by omega, HL0.out⟩
    case round =>
      obtain ⟨k, rfl, hk, hI⟩ := hrel
      have HI := Lib.hid hI
      clear hI
      by_cases hlt : k < 3
      · have hk1 : (k : Int) < 3 := by omega
        go_upto_block 1 with fail
        refine lawRound w9 wr w9.heap.size k hlt _ _ _ _ _ _ ls HN9.out HLB.out H109.out H119.out H129.out HI.out _ ?_
        intros
        rename_i av' tv' w' hI'
        have HI' := Lib.hid hI'
        clear hI'
        dsimp only
        go_wp2
        go_roundw
        case rel => exact ⟨k + 1, by go_num, by omega, HI'.out⟩
        case measure => simp [intOf]; omega
      · obtain rfl : k = 3 := by omega
        obtain ⟨K, es, lv, nv, sz, M, us, ts, hJ⟩ := HI.out
        have HJ := Lib.hid hJ
        clear hJ
        go_upto_block 12 with fail
        refine lawReads wr M _ _ us ts HJ.out.aa HJ.out.ul HJ.out.tl _ ?_
        intros
        dsimp only
        go_wp2_with fail
        refine (wholeC w9.heap.size K es lv nv sz wr HJ.out.book (by have := HJ.out.len; omega)).mono ?_
        rintro e w10 ⟨rfl, h10⟩
        have H10 := Lib.hid (HJ.out.fr.trans h10 fun x hx => .inr (HJ.out.k0 x hx))
        clear h10
        go_wp2_with fail
        refine (keptC _ _ ls ns _ w10 (HT9.out.fr0 H10.out) (HV.out.fr0 (HF9.out.trans0 H10.out)) HERA.out (by have := HB.out; omega)).mono ?_
        rintro e w11 ⟨rfl, h11⟩
        have H11 := Lib.hid ((HF9.out.trans0 H10.out).trans0 h11)
        clear h11
        go_wp2
        go_ret
        exact ⟨rfl, H11.out⟩
end
end Go.Proofs.Ytdlpbpohbkcafaa
