/-
  quadrillelaw21.CycleLeads: each lead; one that points to a node leads where that one does.
-/
import Derived.Test.YtdlpbpohbkcafaaCLawLA
namespace Go.Proofs.Ytdlpbpohbkcafaa
open Go.RowKit Go.Shelf Go.Sort Go.Proofs

set_option maxRecDepth 100000 in
set_option maxHeartbeats 6400000 in
theorem leadNext (wb : World) (i j m u : Nat) (ns : List Nd) (lx : List Lx) (v3 v5 : Value) (w : World) {s0 s1 s2 s4 s6 s10 s11 s12 s13 s14 s15 s16 s17 s18 s19 s20 s21 s22 s23 s24 s25 s26 s27 s28 s29 s30 s31 s32 s33 s34 s35 s36 s37 s38 s39 s40 s41 s42 s43 s44 s45 s46 s47 s48 s49 s50 s51 s52 s53 s54 s55 s56 s57 s58 s59 s60 s61 s62 s63 s64 s65 s66 s67 s68 s69 s70 s71 s72 s73 s74 s75 s76 s77 s78 s79 s80 s81 s82 s83 s84 s85 s86 s87 s88 s89 s90 s91 s92 s93 s94 s95 s96 s97 s98 s99 s100 s101 s102 s103 s104 s105 s106 s107 s108 s109 s110 s111 s112 s113 s114 s115 s116 s117 s118 s119 s120 s121 s122 s123 s124 s125 s126 s127 s128 s129 s130 s131 s132 s133 s134 s135 s136 s137 s138 s139 s140 s141 s142 s143 s144 s145 s146 s147 s148 s149 s150 s151 s152 s153 s154 s155 s156 s157 s158 s159 s160 s161 s162 s163 s164 s165 s166 s167 s168 s169 s170 s171 s172 s173 s174 s175 s176 s177 s178 s179 s180 s181 s182 s183 s184 s185 s186 s187 s188 s189 s190 s191 s192 s193 s194 s195 s196 s197 s198 s199 s200 s201 s202 s203 s204 s205 s206 s207 s208 s209 s210 s211 s212 s213 : Value} (hN : NodesAt wb v3 ns) (hL : LeadsAt wb v5 lx) (hnd : (atsN ns).Nodup) (hlen : ns.length ≤ 65536) (hi : i < lx.length) (hj : j < ns.length) (hm : m < ns.length) (hu : u < lx.length) (hus : lx[u].at_ = ns[m].at_)
    (hinj : ∀ i j (hi : i < lx.length) (hj : j < lx.length), lx[i].at_ = lx[j].at_ → i = j) (hring : lx[u].ring = lx[i].ring) (hfirst : lx[u].first = lx[i].first) (hback : reachB (uG (era ns)) j j = (lx[i].ring && lx[i].steps == 0)) (hstep : reachB (uG (era ns)) j j = false → lx[i].steps = lx[u].steps + 1)
    (hb1 : 0 ≤ lx[u].steps) (hb2 : lx[u].steps ≤ 65536) (hfr : Fr [] wb w) (Q : Exit → Act → World → Prop)
    (hQ : ∀ (n2 n9 n10 n11 n12 n139 n140 n141 n142 n143 n144 n145 n146 n147 n148 n149 n150 n151 n152 n153 n154 n155 n156 n157 n158 n159 n160 n161 n162 n163 n164 n165 n166 n167 n168 n169 n170 n171 n172 n173 n174 n175 n176 n177 n178 n179 n180 n181 n182 n183 n184 n185 n186 n187 n188 n189 n190 n191 n192 n193 n194 n195 n196 n197 n198 n199 n200 n201 n202 n203 n204 n205 n206 n207 n208 n209 n210 n211 n212 n213 : Value) (w' : World), Fr [] wb w' → Q .normal { tmps := #[s0, s1, n2, v3, s4, v5, s6, .int .i64 (i : Int), .int .i64 (j : Int), n9, n10, n11, n12, s13, s14, s15, s16, s17, s18, s19, s20, s21, s22, s23, s24, s25, s26, s27, s28, s29, s30, s31, s32, s33, s34, s35, s36, s37, s38, s39, s40, s41, s42, s43, s44, s45, s46, s47, s48, s49, s50, s51, s52, s53, s54, s55, s56, s57, s58, s59, s60, s61, s62, s63, s64, s65, s66, s67, s68, s69, s70, s71, s72, s73, s74, s75, s76, s77, s78, s79, s80, s81, s82, s83, s84, s85, s86, s87, s88, s89, s90, s91, s92, s93, s94, s95, s96, s97, s98, s99, s100, s101, s102, s103, s104, s105, s106, s107, s108, s109, s110, s111, s112, s113, s114, s115, s116, s117, s118, s119, s120, s121, s122, s123, s124, s125, s126, s127, s128, s129, s130, s131, s132, s133, s134, s135, s136, s137, s138, n139, n140, n141, n142, n143, n144, n145, n146, n147, n148, n149, n150, n151, n152, n153, n154, n155, n156, n157, n158, n159, n160, n161, n162, n163, n164, n165, n166, n167, n168, n169, n170, n171, n172, n173, n174, n175, n176, n177, n178, n179, n180, n181, n182, n183, n184, n185, n186, n187, n188, n189, n190, n191, n192, n193, n194, n195, n196, n197, n198, n199, n200, n201, n202, n203, n204, n205, n206, n207, n208, n209, n210, n211, n212, n213], defers := [] } w') :
    (subC [1, 1, 1, 1, 1, 1, 0, 1, 0, 0, 1, 0, 0, 1, 1, 1, 1, 1, 1] (Try.f5.body.getD .skip)).wp Try.prog Q { tmps := #[s0, s1, s2, v3, s4, v5, s6, .int .i64 (i : Int), .int .i64 (j : Int), .int .i64 (m : Int), s10, s11, s12, s13, s14, s15, s16, s17, s18, s19, s20, s21, s22, s23, s24, s25, s26, s27, s28, s29, s30, s31, s32, s33, s34, s35, s36, s37, s38, s39, s40, s41, s42, s43, s44, s45, s46, s47, s48, s49, s50, s51, s52, s53, s54, s55, s56, s57, s58, s59, s60, s61, s62, s63, s64, s65, s66, s67, s68, s69, s70, s71, s72, s73, s74, s75, s76, s77, s78, s79, s80, s81, s82, s83, s84, s85, s86, s87, s88, s89, s90, s91, s92, s93, s94, s95, s96, s97, s98, s99, s100, s101, s102, s103, s104, s105, s106, s107, s108, s109, s110, s111, s112, s113, s114, s115, s116, s117, s118, s119, s120, s121, s122, s123, s124, s125, s126, s127, s128, s129, s130, s131, s132, s133, s134, s135, s136, s137, s138, s139, s140, s141, s142, s143, s144, s145, s146, s147, s148, s149, s150, s151, s152, s153, s154, s155, s156, s157, s158, s159, s160, s161, s162, s163, s164, s165, s166, s167, s168, s169, s170, s171, s172, s173, s174, s175, s176, s177, s178, s179, s180, s181, s182, s183, s184, s185, s186, s187, s188, s189, s190, s191, s192, s193, s194, s195, s196, s197, s198, s199, s200, s201, s202, s203, s204, s205, s206, s207, s208, s209, s210, s211, s212, s213], defers := [] } w := by
  have HQ := Lib.hid hQ
  have HN := Lib.hid hN
  have HL := Lib.hid hL
  have HND := Lib.hid hnd
  have HINJ := Lib.hid hinj
  have HUS := Lib.hid hus
  obtain ⟨sq, sc, rfl, hs1, hs2⟩ := hN.row.form
  obtain ⟨lq, lc, rfl, hl1, hl2⟩ := hL.form
  have hi1 : (i : Int) < (lx.length : Int) := by omega
  have hj1 : (j : Int) < (ns.length : Int) := by omega
  clear hQ hN hL hnd hinj hus
  show (Code.seq _ _).wp _ _ _ _
  dsimp only
  go_upto_block 4 with fail
  have hfa : Fr [] wb (w.alloc (.cells #[.int .i64 0, .int .i64 0, .bool false, .int .i64 0, .int .i64 0, .int .i64 0] tLd)) := hfr.alloc _
  have hxn : XAt w.heap.size ⟨(0, 0), false, 0, (0, 0)⟩ (w.alloc (.cells #[.int .i64 0, .int .i64 0, .bool false, .int .i64 0, .int .i64 0, .int .i64 0] tLd)) := hp_new rfl
  have HXN := Lib.hid hxn
  clear hxn
  refine leadFindX wb w.heap.size m u ns lx _ _ _ HN.out HL.out hm hu HUS.out HINJ.out hfr.size HXN.out hfa _ ?_
  intros
  rename_i w2 hx2 hf2
  have hXB := hfr.size
  generalize w.heap.size = X at *
  have HB := Lib.hid hback
  have HST := Lib.hid hstep
  obtain ⟨b, off, _, e, hbl, d0, d1, d2, d3, d4, d5⟩ := leads_cell (HL.out.fr0 hf2) hi
  cases e
  clear hback hstep HXN hfa hfr hbl d0 d1
  unfold XAt at hx2
  rw [hring, hfirst] at hx2
  generalize hxs : lx[u].steps = xs at *
  generalize hxa : lx[u].at_ = xa at *
  clear hxs hxa hring hfirst
  generalize hyr : lx[i].ring = r at *
  generalize hyf : lx[i].first = f at *
  generalize hys : lx[i].steps = st at *
  clear hyr hyf hys
  have hEc := cell_of hx2
  have e2 := hEc 2
  have e3 := hEc 3
  have e4 := hEc 4
  have e5 := hEc 5
  have hXl := lt_of hx2
  clear hEc hx2
  have hne : ∀ w : World, (binOp .neq 33 (.agg #[.int .i64 f.1, .int .i64 f.2]) (.agg #[.int .i64 f.1, .int .i64 f.2])).run Try.prog w = .ok (.bool false) w := fun w => by rw [neqS]; simp
  dsimp only
  simp only [Exit.then]
  go_step
  go_wp2_with fail
  go_quiet (fail)
  have hfq := hf2.drewN nq
  go_wp2_with fail
  refine (reachC _ ns j _ (HN.out.fr0 hfq) HND.out hlen hj).mono ?_
  rintro e w3 ⟨S, rfl, hSB, hrow, h3⟩
  have t0 := hrow.cell hj
  have d2 := ce_call h3 d2
  have d3 := ce_call h3 d3
  have e3 := ce_call h3 e3
  have hf3 := hfq.trans0 h3
  have hSl := hrow.lt
  have hXl := Nat.lt_of_lt_of_le hXl h3.size
  clear hrow h3 hfq hSB d4 d5 e2 e4 e5 hne
  generalize reachB (uG (era ns)) j j = back at *
  by_cases hr : r = true
  · subst hr
    by_cases h0 : st = 0
    · subst h0
      have hbk : back = true := HB.out
      subst hbk
      go_wp2_with fail
      go_quiet (fail)
      go_wp2
      apply HQ.out
      exact hf3.drewN _
    · have h01 : (st == 0) = false := by rw [beq_eq_false_iff_ne]; exact h0
      have hbk : back = false := by have := HB.out; rw [h01] at this; exact this
      subst hbk
      have hst := HST.out rfl
      subst hst
      have hwr : IntKind.i64.wrap (xs + 1) = xs + 1 := by rw [IntKind.wrap_i64]; omega
      go_wp2_with fail
      go_quiet (fail)
      go_wp2
      apply HQ.out
      exact hf3.drewN _
  · have hr2 : r = false := by cases r with
      | false => rfl
      | true => exact absurd rfl hr
    subst hr2
    have hbk : back = false := HB.out
    subst hbk
    have hst := HST.out rfl
    subst hst
    have hwr : IntKind.i64.wrap (xs + 1) = xs + 1 := by rw [IntKind.wrap_i64]; omega
    go_wp2_with fail
    go_quiet (fail)
    go_wp2
    apply HQ.out
    exact hf3.drewN _
set_option maxRecDepth 100000 in
set_option maxHeartbeats 6400000 in
theorem leadRest (wb : World) (i : Nat) (ns : List Nd) (lx : List Lx) (v3 v5 : Value) (w : World) {s0 s1 s2 s4 s6 s8 s9 s10 s11 s12 s13 s14 s15 s16 s17 s18 s19 s20 s21 s22 s23 s24 s25 s26 s27 s28 s29 s30 s31 s32 s33 s34 s35 s36 s37 s38 s39 s40 s41 s42 s43 s44 s45 s46 s47 s48 s49 s50 s51 s52 s53 s54 s55 s56 s57 s58 s59 s60 s61 s62 s63 s64 s65 s66 s67 s68 s69 s70 s71 s72 s73 s74 s75 s76 s77 s78 s79 s80 s81 s82 s83 s84 s85 s86 s87 s88 s89 s90 s91 s92 s93 s94 s95 s96 s97 s98 s99 s100 s101 s102 s103 s104 s105 s106 s107 s108 s109 s110 s111 s112 s113 s114 s115 s116 s117 s118 s119 s120 s121 s122 s123 s124 s125 s126 s127 s128 s129 s130 s131 s132 s133 s134 s135 s136 s137 s138 s139 s140 s141 s142 s143 s144 s145 s146 s147 s148 s149 s150 s151 s152 s153 s154 s155 s156 s157 s158 s159 s160 s161 s162 s163 s164 s165 s166 s167 s168 s169 s170 s171 s172 s173 s174 s175 s176 s177 s178 s179 s180 s181 s182 s183 s184 s185 s186 s187 s188 s189 s190 s191 s192 s193 s194 s195 s196 s197 s198 s199 s200 s201 s202 s203 s204 s205 s206 s207 s208 s209 s210 s211 s212 s213 : Value} (hN : NodesAt wb v3 ns) (hL : LeadsAt wb v5 lx) (hnd : (atsN ns).Nodup) (hlen : ns.length ≤ 65536) (hF : LeadF ns lx) (hle : ∀ n ∈ ns, n.next.length ≤ 1) (hi : i < lx.length)
    (hfr : Fr [] wb w) (Q : Exit → Act → World → Prop)
    (hQ : ∀ (n2 n8 n9 n10 n11 n12 n78 n79 n80 n81 n82 n83 n84 n85 n86 n87 n88 n89 n90 n91 n92 n93 n94 n95 n96 n97 n98 n99 n100 n101 n102 n103 n104 n105 n106 n107 n108 n109 n110 n111 n112 n113 n114 n115 n116 n117 n118 n119 n120 n121 n122 n123 n124 n125 n126 n127 n128 n129 n130 n131 n132 n133 n134 n135 n136 n137 n138 n139 n140 n141 n142 n143 n144 n145 n146 n147 n148 n149 n150 n151 n152 n153 n154 n155 n156 n157 n158 n159 n160 n161 n162 n163 n164 n165 n166 n167 n168 n169 n170 n171 n172 n173 n174 n175 n176 n177 n178 n179 n180 n181 n182 n183 n184 n185 n186 n187 n188 n189 n190 n191 n192 n193 n194 n195 n196 n197 n198 n199 n200 n201 n202 n203 n204 n205 n206 n207 n208 n209 n210 n211 n212 n213 : Value) (w' : World), Fr [] wb w' → Q .normal { tmps := #[s0, s1, n2, v3, s4, v5, s6, .int .i64 (i : Int), n8, n9, n10, n11, n12, s13, s14, s15, s16, s17, s18, s19, s20, s21, s22, s23, s24, s25, s26, s27, s28, s29, s30, s31, s32, s33, s34, s35, s36, s37, s38, s39, s40, s41, s42, s43, s44, s45, s46, s47, s48, s49, s50, s51, s52, s53, s54, s55, s56, s57, s58, s59, s60, s61, s62, s63, s64, s65, s66, s67, s68, s69, s70, s71, s72, s73, s74, s75, s76, s77, n78, n79, n80, n81, n82, n83, n84, n85, n86, n87, n88, n89, n90, n91, n92, n93, n94, n95, n96, n97, n98, n99, n100, n101, n102, n103, n104, n105, n106, n107, n108, n109, n110, n111, n112, n113, n114, n115, n116, n117, n118, n119, n120, n121, n122, n123, n124, n125, n126, n127, n128, n129, n130, n131, n132, n133, n134, n135, n136, n137, n138, n139, n140, n141, n142, n143, n144, n145, n146, n147, n148, n149, n150, n151, n152, n153, n154, n155, n156, n157, n158, n159, n160, n161, n162, n163, n164, n165, n166, n167, n168, n169, n170, n171, n172, n173, n174, n175, n176, n177, n178, n179, n180, n181, n182, n183, n184, n185, n186, n187, n188, n189, n190, n191, n192, n193, n194, n195, n196, n197, n198, n199, n200, n201, n202, n203, n204, n205, n206, n207, n208, n209, n210, n211, n212, n213], defers := [] } w')
    (hQc : ∀ (n2 n8 n9 n10 n11 n12 n78 n79 n80 n81 n82 n83 n84 n85 n86 n87 n88 n89 n90 n91 n92 n93 n94 n95 n96 n97 n98 n99 n100 n101 n102 n103 n104 n105 n106 n107 n108 n109 n110 n111 n112 n113 n114 n115 n116 n117 n118 n119 n120 n121 n122 n123 n124 n125 n126 n127 n128 n129 n130 n131 n132 n133 n134 n135 n136 n137 n138 n139 n140 n141 n142 n143 n144 n145 n146 n147 n148 n149 n150 n151 n152 n153 n154 n155 n156 n157 n158 n159 n160 n161 n162 n163 n164 n165 n166 n167 n168 n169 n170 n171 n172 n173 n174 n175 n176 n177 n178 n179 n180 n181 n182 n183 n184 n185 n186 n187 n188 n189 n190 n191 n192 n193 n194 n195 n196 n197 n198 n199 n200 n201 n202 n203 n204 n205 n206 n207 n208 n209 n210 n211 n212 n213 : Value) (w' : World), Fr [] wb w' → Q (.exit 3) { tmps := #[s0, s1, n2, v3, s4, v5, s6, .int .i64 (i : Int), n8, n9, n10, n11, n12, s13, s14, s15, s16, s17, s18, s19, s20, s21, s22, s23, s24, s25, s26, s27, s28, s29, s30, s31, s32, s33, s34, s35, s36, s37, s38, s39, s40, s41, s42, s43, s44, s45, s46, s47, s48, s49, s50, s51, s52, s53, s54, s55, s56, s57, s58, s59, s60, s61, s62, s63, s64, s65, s66, s67, s68, s69, s70, s71, s72, s73, s74, s75, s76, s77, n78, n79, n80, n81, n82, n83, n84, n85, n86, n87, n88, n89, n90, n91, n92, n93, n94, n95, n96, n97, n98, n99, n100, n101, n102, n103, n104, n105, n106, n107, n108, n109, n110, n111, n112, n113, n114, n115, n116, n117, n118, n119, n120, n121, n122, n123, n124, n125, n126, n127, n128, n129, n130, n131, n132, n133, n134, n135, n136, n137, n138, n139, n140, n141, n142, n143, n144, n145, n146, n147, n148, n149, n150, n151, n152, n153, n154, n155, n156, n157, n158, n159, n160, n161, n162, n163, n164, n165, n166, n167, n168, n169, n170, n171, n172, n173, n174, n175, n176, n177, n178, n179, n180, n181, n182, n183, n184, n185, n186, n187, n188, n189, n190, n191, n192, n193, n194, n195, n196, n197, n198, n199, n200, n201, n202, n203, n204, n205, n206, n207, n208, n209, n210, n211, n212, n213], defers := [] } w') :
    (subC [1, 1, 1, 1, 1, 1, 0, 1, 0, 0, 1, 0, 0, 1] (Try.f5.body.getD .skip)).wp Try.prog Q { tmps := #[s0, s1, s2, v3, s4, v5, s6, .int .i64 (i : Int), s8, s9, s10, s11, s12, s13, s14, s15, s16, s17, s18, s19, s20, s21, s22, s23, s24, s25, s26, s27, s28, s29, s30, s31, s32, s33, s34, s35, s36, s37, s38, s39, s40, s41, s42, s43, s44, s45, s46, s47, s48, s49, s50, s51, s52, s53, s54, s55, s56, s57, s58, s59, s60, s61, s62, s63, s64, s65, s66, s67, s68, s69, s70, s71, s72, s73, s74, s75, s76, s77, s78, s79, s80, s81, s82, s83, s84, s85, s86, s87, s88, s89, s90, s91, s92, s93, s94, s95, s96, s97, s98, s99, s100, s101, s102, s103, s104, s105, s106, s107, s108, s109, s110, s111, s112, s113, s114, s115, s116, s117, s118, s119, s120, s121, s122, s123, s124, s125, s126, s127, s128, s129, s130, s131, s132, s133, s134, s135, s136, s137, s138, s139, s140, s141, s142, s143, s144, s145, s146, s147, s148, s149, s150, s151, s152, s153, s154, s155, s156, s157, s158, s159, s160, s161, s162, s163, s164, s165, s166, s167, s168, s169, s170, s171, s172, s173, s174, s175, s176, s177, s178, s179, s180, s181, s182, s183, s184, s185, s186, s187, s188, s189, s190, s191, s192, s193, s194, s195, s196, s197, s198, s199, s200, s201, s202, s203, s204, s205, s206, s207, s208, s209, s210, s211, s212, s213], defers := [] } w := by
  have HQ := Lib.hid hQ
  have HQC := Lib.hid hQc
  have HN := Lib.hid hN
  have HL := Lib.hid hL
  have HND := Lib.hid hnd
  have HF := Lib.hid hF
  obtain ⟨j, hj, hat, hfi⟩ := hF.mem i hi
  obtain ⟨hs0, hsn⟩ := hF.steps i hi
  have HLAST : Hid ((∀ s ∈ ns[j].next, s ∉ atsN ns) → lx[i] = ⟨lx[i].at_, false, 0, lx[i].at_⟩) := hF.last i j hi hj hat
  have HNEXT := Lib.hid (hF.next i j hi hj hat)
  have hnl := hle _ (List.getElem_mem hj)
  have hnx0 := HN.out.nx ns[j] (List.getElem_mem hj)
  obtain ⟨sq, sc, rfl, hs1, hs2⟩ := hN.row.form
  obtain ⟨lq, lc, rfl, hl1, hl2⟩ := hL.form
  obtain ⟨b, off, _, e, hb, _, _, n2⟩ := (hN.fr0 hfr).cell hj
  cases e
  obtain ⟨b1, o1, _, e, hb1, c0, c1, c2, c3, c4, c5⟩ := leads_cell (hL.fr0 hfr) hi
  cases e
  have hi1 : (i : Int) < (lx.length : Int) := by omega
  have hj1 : (j : Int) < (ns.length : Int) := by omega
  have hjn : ¬ (j : Int) < 0 := by omega
  have hjd : decide ((j : Int) < 0) = false := decide_eq_false hjn
  have hsn0 : ¬ lx[i].steps < 0 := by omega
  have hsd0 : decide (lx[i].steps < 0) = false := decide_eq_false hsn0
  have hsn1 : ¬ (ns.length : Int) < lx[i].steps := by omega
  have hsd1 : decide ((ns.length : Int) < lx[i].steps) = false := decide_eq_false hsn1
  have HFR := Lib.hid hfr
  clear hQ hQc hN hL hnd hF hle hfr hs0 hsn hat
  show (Code.seq _ _).wp _ _ _ _
  dsimp only
  go_wp2_with fail
  refine (findC _ ns lx[i].at_ _ (HN.out.fr0 HFR.out).row).mono ?_
  rw [hfi]
  rintro e w3 ⟨rfl, h3⟩
  have HF3 := Lib.hid (HFR.out.trans0 h3)
  have n2 := ce_call h3 n2
  have c0 := ce_call h3 c0
  have c1 := ce_call h3 c1
  have c2 := ce_call h3 c2
  have c3 := ce_call h3 c3
  have c4 := ce_call h3 c4
  have c5 := ce_call h3 c5
  have hbl := Nat.lt_of_lt_of_le hb h3.size
  clear h3 hfi hb hb1
  cases hz : ns[j].next with
  | nil =>
    have hy := HLAST.out (by rw [hz]; simp)
    have hlz : ns[j].next.length = 0 := by rw [hz]; rfl
    rw [hlz] at n2
    rw [hy] at c0 c1 c2 c3 c4 c5 hsd0 hsd1 hsn0 hsn1
    clear hz hlz hnl hnx0 HLAST HNEXT hy
    generalize lx[i].at_ = at_ at *
    generalize ns[j].na = na at *
    generalize ns[j].nc = nc at *
    have hne := neqL ⟨at_, false, 0, at_⟩ ⟨at_, false, 0, at_⟩
    simp only [decide_true, Bool.not_true] at hne
    dsimp only at c0 c1 c2 c3 c4 c5 hsd0 hsd1 hsn0 hsn1
    go_wp2_with fail
    go_quiet (fail)
    go_wp2
    apply HQC.out
    exact HF3.out.drewN _
  | cons s t =>
    have ht : t = [] := by
      rw [hz] at hnl
      cases t with
      | nil => rfl
      | cons _ _ => simp at hnl
    subst ht
    have hlz : ns[j].next.length = 1 := by rw [hz]; rfl
    have hnx1 : SpotsAt wb (.slice ns[j].na [s].length ns[j].nc) [s] := by rw [← hz]; exact hnx0
    obtain ⟨bx, ox, _, e, hbx, x0, x1⟩ := spots_cell (hnx1.fr0 HF3.out) (k := 0) (by simp)
    have hna : ns[j].na = some ⟨bx, ox, none⟩ := by simp only [Value.slice.injEq] at e; exact e.1
    rw [hlz, hna] at n2
    have x0' : w3.cell? ⟨bx, ox, none⟩ = some (.int .i64 s.1) := by simpa using x0
    have x1' : w3.cell? ⟨bx, ox + 1, none⟩ = some (.int .i64 s.2) := by simpa using x1
    clear hnl hnx0 hnx1 e hna hlz x0 x1
    generalize ns[j].nc = nc at *
    by_cases hin : s ∈ atsN ns
    · obtain ⟨u, hu, hus, hr, hf, hbk, hst⟩ := HNEXT.out s hz hin
      obtain ⟨m, hm, hms, hfm⟩ := HF.out.mem u hu
      rw [hus] at hms hfm
      have hmn : ¬ (m : Int) < 0 := by omega
      have hmd : decide ((m : Int) < 0) = false := decide_eq_false hmn
      have HUS : Hid (lx[u].at_ = ns[m].at_) := by rw [hms]; exact hus
      have HR := Lib.hid hr
      have HFI := Lib.hid hf
      have HBK := Lib.hid hbk
      have HST := Lib.hid hst
      obtain ⟨q1, q2⟩ := HF.out.steps u hu
      have HQ1 := Lib.hid q1
      have HQ2 := Lib.hid q2
      clear hz hus hr hf hbk hst hms HLAST HNEXT q1 q2 c0 c1 c2 c4 c5
      go_wp2_with fail
      refine (findC _ ns s _ (HN.out.fr0 HF3.out).row).mono ?_
      rw [hfm]
      rintro e w4 ⟨rfl, h4⟩
      have HF4 := Lib.hid (HF3.out.trans0 h4)
      clear h4 hfm n2 c3 x0' x1'
      go_upto_if 122 with fail
      refine wp_cond_false rfl ?_
      go_step
      simp only [Exit.then]
      go_step
      refine leadNext wb i j m u ns lx _ _ w4 HN.out HL.out HND.out hlen hi hj hm hu HUS.out HF.out.inj HR.out HFI.out HBK.out HST.out HQ1.out (by have := HQ2.out; omega) HF4.out _ ?_
      intros
      rename_i w5 hf5
      apply HQ.out
      exact hf5
    · have hfi2 : findI (atsN ns) s = -1 := by unfold findI; rw [if_neg hin]
      have hy := HLAST.out (by rw [hz]; intro x hx; rw [List.mem_singleton] at hx; subst hx; exact hin)
      rw [hy] at c0 c1 c2 c3 c4 c5 hsd0 hsd1 hsn0 hsn1
      clear hz hin HLAST HNEXT hy
      generalize lx[i].at_ = at_ at *
      have hne := neqL ⟨at_, false, 0, at_⟩ ⟨at_, false, 0, at_⟩
      simp only [decide_true, Bool.not_true] at hne
      dsimp only at c0 c1 c2 c3 c4 c5 hsd0 hsd1 hsn0 hsn1
      go_wp2_with fail
      refine (findC _ ns s _ (HN.out.fr0 HF3.out).row).mono ?_
      rw [hfi2]
      rintro e w4 ⟨rfl, h4⟩
      have HF4 := Lib.hid (HF3.out.trans0 h4)
      have c0 := ce_call h4 c0
      have c1 := ce_call h4 c1
      have c2 := ce_call h4 c2
      have c3 := ce_call h4 c3
      have c4 := ce_call h4 c4
      have c5 := ce_call h4 c5
      clear h4 hfi2 n2 x0' x1'
      go_wp2_with fail
      go_quiet (fail)
      go_wp2
      apply HQC.out
      exact HF4.out.drewN _
end Go.Proofs.Ytdlpbpohbkcafaa
