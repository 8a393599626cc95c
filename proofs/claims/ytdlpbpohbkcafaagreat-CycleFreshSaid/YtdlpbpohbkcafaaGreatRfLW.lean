/-
  quadrilleref21.Leads: from those that are told back.
  quadrilleref21.Leads: the walk.
-/
import Derived.Test.YtdlpbpohbkcafaaGreatRfLA
namespace Go.Proofs.YtdlpbpohbkcafaaGreat
section
open Go.RowKit Go.Shelf Go.Sort Go.Proofs

theorem Base2.more {g : Dg} {l : List Nat} (h : Base2 g l) (v : Nat) : Base2 g (l ++ [v]) := fun u hu hr => List.mem_append_left _ (h u hu hr)
set_option maxRecDepth 100000 in
set_option maxHeartbeats 6400000 in
theorem leadsBfs (wg W0 : World) (G Ou Th B : Nat) (spots : List Sp) (g F : Dg) (th0 : Nat → Bool) (l0 : List Nat) (lv : Value) (w : World) {s0 s1 s2 s3 s5 s9 s11 s12 s13 s14 s15 s17 s18 s19 s20 s21 s22 s23 s24 s25 s26 s27 s28 s29 s30 s31 s32 s33 s34 s35 s36 s37 s38 s39 s40 s41 s42 s43 s44 s45 s46 s47 s48 s49 s50 s51 s52 s53 s54 s55 s56 s57 s58 s59 s60 s61 s62 s63 s64 s65 s66 s67 s68 s69 s70 s71 s72 s73 s74 s75 s76 s77 s78 s79 s80 s81 s82 s83 s84 s85 s86 s87 s88 s89 s90 s91 s92 s93 s94 s95 s96 s97 s98 s99 s100 s101 s102 s103 s104 s105 s106 s107 s108 s109 s110 s111 s112 s113 s114 s115 s116 s117 s118 s119 s120 s121 s122 s123 s124 s125 s126 s127 s128 s129 s130 s131 s132 s133 s134 s135 s136 s137 s138 s139 s140 s141 s142 s143 s144 s145 s146 s147 s148 s149 s150 s151 s152 s153 s154 s155 s156 s157 s158 s159 s160 s161 s162 s163 s164 s165 s166 s167 s168 s169 s170 s171 s172 s173 s174 s175 s176 s177 s178 s179 s180 s181 s182 s183 s184 s185 s186 s187 s188 s189 s190 s191 s192 s193 s194 s195 s196 s197 s198 s199 s200 s201 s202 s203 s204 s205 s206 s207 s208 s209 s210 s211 s212 s213 s214 s215 s216 : Value} (hG : RfG wg G spots g F) (hst : Fr [] wg W0) (hO : wg.heap.size ≤ Ou ∧ wg.heap.size ≤ Th) (hlen : spots.length = g.length) (hl : spots.length ≤ 65536) (h1 : ∀ v, v < g.length → (nxs g v).length ≤ 1)
    (hF : FromOk g F) (hgo : OkG g) (hQ0 : LQ W0 Ou Th B spots g (stF th0) th0 l0 lv w) (hS : LOk g F th0 l0 0) (hb : Base2 g l0) (Q : Exit → Act → World → Prop)
    (hQ : ∀ (n10 n16 n17 n18 n19 n144 n145 n146 n147 n148 n149 n150 n151 n152 n153 n154 n155 n156 n157 n158 n159 n160 n161 n162 n163 n164 n165 n166 n167 n168 n169 n170 n171 n172 n173 n174 n175 n176 n177 n178 n179 n180 n181 n182 n183 n184 n185 n186 n187 n188 n189 n190 n191 n192 n193 n194 n195 n196 n197 n198 n199 n200 n201 n202 n203 n204 n205 n206 n207 n208 n209 n210 n211 n212 n213 n214 n215 : Value) (th : Nat → Bool) (l : List Nat) (w' : World), LQ W0 Ou Th B spots g (stF th) th l n10 w' → LOk g F th l l.length → Base2 g l → Q .normal { tmps := #[s0, s1, s2, s3, .pointer (some ⟨G, 0, none⟩), s5, .int .i64 (spots.length : Int), .slice (some ⟨Ou, 0, none⟩) spots.length spots.length, .slice (some ⟨Th, 0, none⟩) spots.length spots.length, s9, n10, s11, s12, s13, s14, s15, n16, n17, n18, n19, s20, s21, s22, s23, s24, s25, s26, s27, s28, s29, s30, s31, s32, s33, s34, s35, s36, s37, s38, s39, s40, s41, s42, s43, s44, s45, s46, s47, s48, s49, s50, s51, s52, s53, s54, s55, s56, s57, s58, s59, s60, s61, s62, s63, s64, s65, s66, s67, s68, s69, s70, s71, s72, s73, s74, s75, s76, s77, s78, s79, s80, s81, s82, s83, s84, s85, s86, s87, s88, s89, s90, s91, s92, s93, s94, s95, s96, s97, s98, s99, s100, s101, s102, s103, s104, s105, s106, s107, s108, s109, s110, s111, s112, s113, s114, s115, s116, s117, s118, s119, s120, s121, s122, s123, s124, s125, s126, s127, s128, s129, s130, s131, s132, s133, s134, s135, s136, s137, s138, s139, s140, s141, s142, s143, n144, n145, n146, n147, n148, n149, n150, n151, n152, n153, n154, n155, n156, n157, n158, n159, n160, n161, n162, n163, n164, n165, n166, n167, n168, n169, n170, n171, n172, n173, n174, n175, n176, n177, n178, n179, n180, n181, n182, n183, n184, n185, n186, n187, n188, n189, n190, n191, n192, n193, n194, n195, n196, n197, n198, n199, n200, n201, n202, n203, n204, n205, n206, n207, n208, n209, n210, n211, n212, n213, n214, n215, s216], defers := [] } w') :
    (subC [1, 1, 1, 1, 1, 1, 1, 1, 1, 1, 1, 0, 1] (Tryz.f15.body.getD .skip)).wp Tryz.prog Q { tmps := #[s0, s1, s2, s3, .pointer (some ⟨G, 0, none⟩), s5, .int .i64 (spots.length : Int), .slice (some ⟨Ou, 0, none⟩) spots.length spots.length, .slice (some ⟨Th, 0, none⟩) spots.length spots.length, s9, lv, s11, s12, s13, s14, s15, .int .i64 0, s17, s18, s19, s20, s21, s22, s23, s24, s25, s26, s27, s28, s29, s30, s31, s32, s33, s34, s35, s36, s37, s38, s39, s40, s41, s42, s43, s44, s45, s46, s47, s48, s49, s50, s51, s52, s53, s54, s55, s56, s57, s58, s59, s60, s61, s62, s63, s64, s65, s66, s67, s68, s69, s70, s71, s72, s73, s74, s75, s76, s77, s78, s79, s80, s81, s82, s83, s84, s85, s86, s87, s88, s89, s90, s91, s92, s93, s94, s95, s96, s97, s98, s99, s100, s101, s102, s103, s104, s105, s106, s107, s108, s109, s110, s111, s112, s113, s114, s115, s116, s117, s118, s119, s120, s121, s122, s123, s124, s125, s126, s127, s128, s129, s130, s131, s132, s133, s134, s135, s136, s137, s138, s139, s140, s141, s142, s143, s144, s145, s146, s147, s148, s149, s150, s151, s152, s153, s154, s155, s156, s157, s158, s159, s160, s161, s162, s163, s164, s165, s166, s167, s168, s169, s170, s171, s172, s173, s174, s175, s176, s177, s178, s179, s180, s181, s182, s183, s184, s185, s186, s187, s188, s189, s190, s191, s192, s193, s194, s195, s196, s197, s198, s199, s200, s201, s202, s203, s204, s205, s206, s207, s208, s209, s210, s211, s212, s213, s214, s215, s216], defers := [] } w := by
  have HQ := Lib.hid hQ
  have HG := Lib.hid hG
  have HST : Hid (∀ u, Fr [Ou, Th] W0 u → Fr [] wg u) := fun u hf => hst.trans hf (fun x hx => .inr (by
    simp at hx
    rcases hx with rfl | rfl
    · exact hO.1
    · exact hO.2))
  have HOT := Lib.hid hO
  have HLEN := Lib.hid hlen
  have HQ0 := Lib.hid hQ0
  have HS := Lib.hid hS
  have HB0 := Lib.hid hb
  have H1 := Lib.hid h1
  have HF := Lib.hid hF
  have HGO := Lib.hid hgo
  obtain ⟨av, tv, fv, hbx, hav, htv, hfv⟩ := hG.ex
  obtain ⟨fq, fc, rfl, hfc1, hfc2⟩ := hfv.form
  obtain ⟨aq, ac, rfl, ha1, ha2⟩ := hav.form
  have HBX := Lib.hid hbx
  have HFV := Lib.hid hfv
  have HAV := Lib.hid hav
  obtain ⟨i1, hi1, hy0, hy1, hy2⟩ := info_parts infoInt
  clear hQ hG hst hQ0 hS hb hlen hbx hav htv hfv hO h1 hF hgo
  show (Code.block 8 _).wp _ _ _ _
  dsimp only
  go_wp2_with fail
  go_loopw [10, 16] (fun lv iv wr => ∃ (i : Nat) (th : Nat → Bool) (l : List Nat), iv = .int .i64 (i : Int) ∧ i ≤ l.length ∧ LQ W0 Ou Th B spots g (stF th) th l lv wr ∧ LOk g F th l i ∧ Base2 g l) (fun _ iv _ => g.length - (intOf iv).toNat)
  case atStart => exact ⟨0, th0, l0, rfl, by omega, HQ0.out, HS.out, HB0.out⟩
  case round =>
    obtain ⟨i, th, l, rfl, hi, hq, hs, hb⟩ := hrel
    have HL := Lib.hid hq
    have HOK := Lib.hid hs
    have HB := Lib.hid hb
    have hll := hs.len
    obtain ⟨lq, lc, rfl, hlc1, hlc2⟩ := (own_sl hq.row).form
    clear hq hs hb HQ0 HS HB0
    by_cases hil : i < l.length
    · have hi1' : (i : Int) < (l.length : Int) := by omega
      have hfw := HST.out _ HL.out.fr
      have hbw := hfw.heap HBX.out (by simp)
      have b2 := cell_of hbw 2
      have hGl := lt_of hbw
      obtain ⟨lb, _, e, hlb, c0, _⟩ := own_cellI HL.out.row hil
      cases e
      have hzl := HOK.out.lt _ (List.getElem_mem hil)
      have HZ : Hid (l[i]? = some l[i]) := List.getElem?_eq_getElem hil
      generalize l[i] = z at *
      have hzF : z < F.length := by rw [HF.out.len]; exact hzl
      have hzF1 : (z : Int) < (F.length : Int) := by omega
      obtain ⟨fb, fo, _, u, e, hfb, d0, hu⟩ := HFV.out.cell hzF
      cases e
      rw [← nxs_get hzF] at hu
      obtain ⟨uq, uc, rfl, hu1, hu2⟩ := hu.form
      have HU := Lib.hid hu
      have d0' := ce_call hfw d0
      have hfb' := Nat.lt_of_lt_of_le hfb hfw.size
      clear hu d0 hfb hbw hfw
      go_wp2_with fail
      go_quiet (fail)
      have HL2 := Lib.hid (HL.out.fr0 ((Fr.refl [] wr).drewN nq))
      clear c0 d0' hfb' b2 hGl hlb HL
      generalize wr.drewN nq = W3 at *
      go_wp2_with fail
      go_loopw [10, 18] (fun lv kv wx => ∃ (k : Nat) (th2 : Nat → Bool) (l2 : List Nat), kv = .int .i64 (k : Int) ∧ k ≤ (nxs F z).length ∧ LQ W0 Ou Th B spots g (stF th2) th2 l2 lv wx ∧ LOk g F th2 l2 i ∧ Base2 g l2 ∧ i < l2.length ∧ l2[i]? = some z ∧ (∀ u ∈ (nxs F z).take k, th2 u = true)) (fun _ kv _ => (nxs F z).length - (intOf kv).toNat)
      case atStart => exact ⟨0, th, l, rfl, by omega, HL2.out, HOK.out, HB.out, hil, HZ.out, by simp⟩
      case round =>
        clear HL2 HOK HB HZ hil hi1' hll hi hlc1 hlc2
        obtain ⟨k, th2, l2, rfl, hk, hq, hok, hb, hi2, hlz, hkn⟩ := hrel
        have HL := Lib.hid hq
        have HOK := Lib.hid hok
        have HB := Lib.hid hb
        have HLZ := Lib.hid hlz
        have HKN := Lib.hid hkn
        have hll := hok.len
        have hz : l2[i] = z := by
          have := hlz
          rw [List.getElem?_eq_getElem hi2] at this
          exact Option.some.inj this
        have HZE := Lib.hid hz
        obtain ⟨lq, lc, rfl, hlc1, hlc2⟩ := (own_sl hq.row).form
        clear hq hok hb hlz hkn hz
        by_cases hkl : k < (nxs F z).length
        · have hk1 : (k : Int) < ((nxs F z).length : Int) := by omega
          have hfw := HST.out _ HL.out.fr
          obtain ⟨ub, uo, _, e, hubw, dc⟩ := HU.out.cell (by omega)
          cases e
          have d1 := ce_call hfw (dc k (.int .i64 ((nxs F z)[k] : Int)) (by
            have := flat_get nC 1 (fun _ => rfl) (nxs F z) k 0 hkl (by omega)
            simpa using this))
          have hub := Nat.lt_of_lt_of_le hubw hfw.size
          have HUB : Hid (Th ≠ ub ∧ Ou ≠ ub) := ⟨by have := HOT.out.2; omega, by have := HOT.out.1; omega⟩
          have HTK := Lib.hid (List.take_succ_eq_append_getElem hkl)
          have HMK := Lib.hid (List.getElem_mem hkl)
          have hyg := ((HF.out.mem z hzl _).1 (List.getElem_mem hkl)).1
          clear dc hfw
          generalize (nxs F z)[k] = y at *
          have hys : y < spots.length := by have := HLEN.out; omega
          have hys1 : (y : Int) < (spots.length : Int) := by omega
          have t0 := HL.out.th'.cell hys
          have tf := HL.out.th'.frozen y
          have tl := HL.out.th'.lt
          generalize hnm : (nxs F z).length = nm at *
          have HNM := Lib.hid hnm
          clear hnm
          cases hs : th2 y with
          | true =>
            rw [hs] at t0
            have HKN2 : Hid (∀ u ∈ (nxs F z).take (k + 1), th2 u = true) := fun u hu => by
              rw [HTK.out] at hu
              rcases List.mem_append.1 hu with hu | hu
              · exact HKN.out u hu
              · simp at hu
                rw [hu]
                exact hs
            clear hs
            go_wp2
            go_roundw
            case rel => exact ⟨k + 1, th2, l2, by go_num, by omega, HL.out, HOK.out, HB.out, hi2, HLZ.out, HKN2.out⟩
            case measure => simp [intOf]; omega
          | false =>
            rw [hs] at t0
            have hzs : z < spots.length := by have := HLEN.out; omega
            have hzs1 : (z : Int) < (spots.length : Int) := by omega
            obtain ⟨_, hhas, hbump⟩ := HOK.out.step HF.out H1.out HB.out hi2 (by rw [HZE.out]; exact HMK.out) hs
            rw [HZE.out] at hbump
            have hthz : stF th2 z = 2 := by
              unfold stF
              rw [if_pos ((HOK.out.tl z).2 (by rw [← HZE.out]; exact List.getElem_mem hi2))]
            have HOK2 := Lib.hid (HOK.out.put (by omega) hyg hs hhas)
            have HKN2 : Hid (∀ u ∈ (nxs F z).take (k + 1), upd th2 y true u = true) := fun u hu => by
              unfold upd
              split
              · rfl
              · rename_i hne
                rw [HTK.out] at hu
                rcases List.mem_append.1 hu with hu | hu
                · exact HKN.out u hu
                · simp at hu
                  exact absurd hu hne
            have HLZ2 : Hid ((l2 ++ [y])[i]? = some z) := by
              show _ = _
              rw [List.getElem?_append_left hi2]
              exact HLZ.out
            have HBU := Lib.hid hbump
            have HOK0 := Lib.hid (HOK.out.has z (by rw [← HZE.out]; exact List.getElem_mem hi2))
            have HL1 := Lib.hid (HL.out.tell y)
            have d1' : (wr.setCell ⟨Th, y, none⟩ (.bool true)).cell? ⟨ub, uo + k, none⟩ = some (.int .i64 (y : Int)) := ce_set d1 HUB.out.1
            have hub' : ub < (wr.setCell ⟨Th, y, none⟩ (.bool true)).heap.size := by simpa using hub
            obtain ⟨lb, _, e, hlb, c0, _⟩ := own_cellI HL1.out.row hi2
            cases e
            rw [HZE.out] at c0
            have hil2 : (i : Int) < (l2.length : Int) := by omega
            have o0 := HL1.out.cell hzs (k := 0) (by omega) hthz
            have o1 := HL1.out.cell hzs (k := 1) (by omega) hthz
            have o2 := HL1.out.cell hzs (k := 2) (by omega) hthz
            have o3 := HL1.out.cell hzs (k := 3) (by omega) hthz
            have o4 := HL1.out.cell hzs (k := 4) (by omega) hthz
            have o5 := HL1.out.cell hzs (k := 5) (by omega) hthz
            simp only [List.getD_cons_zero, List.getD_cons_succ, Nat.add_zero] at o0 o1 o2 o3 o4 o5
            have hOl := HL1.out.out.lt
            clear hs hhas hbump hthz HL HOK HKN HLZ hyg
            go_upto_region 40 with fail
            clear t0 tf tl d1 hub
            generalize wr.setCell ⟨Th, y, none⟩ (.bool true) = W4 at *
            generalize (spots.getD z (0, 0)).1 = z1 at *
            generalize (spots.getD z (0, 0)).2 = z2 at *
            generalize hrr : (leadOf g z).ring = rr at *
            have HRR := Lib.hid hrr
            clear hrr
            generalize hss : (leadOf g z).steps = ss at *
            generalize hff : (spots.getD (leadOf g z).first (0, 0)) = ff at *
            have HSS := Lib.hid hss
            have HFF := Lib.hid hff
            clear hss hff
            have hs5 : ss < 65536 := by
              have := (leadOf_is (HOK0.out)).steps_lt HGO.out hzl
              rw [HSS.out] at this
              have := HLEN.out
              omega
            go_upto_region 41 with fail
            clear o0 o1 o2 o3 o4 o5 c0 hlb hOl
            have hE := heap_new W4 (.cells #[.int .i64 z1, .int .i64 z2, .bool rr, .int .i64 (ss : Int), .int .i64 ff.1, .int .i64 ff.2] tLd)
            have hEB : B ≤ W4.heap.size := HL1.out.sz
            have hf45 : Fr [] W4 (W4.alloc (.cells #[.int .i64 z1, .int .i64 z2, .bool rr, .int .i64 (ss : Int), .int .i64 ff.1, .int .i64 ff.2] tLd)) := (Fr.refl [] W4).alloc _
            have HL5 := Lib.hid (HL1.out.fr0 hf45)
            have d5 := ce_call hf45 d1'
            have hub5 := Nat.lt_of_lt_of_le hub' hf45.size
            have HUE : Hid (ub < W4.heap.size) := hub'
            clear hf45 d1' hub' HL1
            generalize W4.alloc (.cells #[.int .i64 z1, .int .i64 z2, .bool rr, .int .i64 (ss : Int), .int .i64 ff.1, .int .i64 ff.2] tLd) = W5 at *
            generalize W4.heap.size = E at *
            have HE5 := Lib.hid hE
            have hfw := HST.out _ HL5.out.fr
            have b0 := cell_of (hfw.heap HBX.out (by simp)) 0
            have hGl := lt_of (hfw.heap HBX.out (by simp))
            obtain ⟨ab, ao, _, e, hab, a0, a1⟩ := spots_cell (HAV.out.fr0 hfw) hys
            cases e
            have HSY : Hid (spots.getD y (0, 0) = spots[y]) := by
              show _ = _
              rw [List.getD_eq_getElem?_getD, List.getElem?_eq_getElem hys]
              rfl
            generalize spots[y] = s at *
            have e0 := cell_of hE 0
            have e1 := cell_of hE 1
            have f0 := free_of hE 0
            have f1 := free_of hE 1
            have hEl := lt_of hE
            clear hfw hE
            go_still_tail 10, (by kernel_rfl)
            change wpList _ _ _ _ _ W5.drew
            go_upto_region 42 with fail
            have hf6 : Fr [E] W5 ((W5.setCell ⟨E, 0, none⟩ (.int .i64 s.1)).setCell ⟨E, 1, none⟩ (.int .i64 s.2)).drew := (((Fr.refl [E] W5).setCell (.inl (by simp)) _).setCell (.inl (by simp)) _).drew
            have hE6 : ((W5.setCell ⟨E, 0, none⟩ (.int .i64 s.1)).setCell ⟨E, 1, none⟩ (.int .i64 s.2)).drew.heap[E]? = some (.cells #[.int .i64 s.1, .int .i64 s.2, .bool rr, .int .i64 (ss : Int), .int .i64 ff.1, .int .i64 ff.2] tLd (0, 0)) := set_of (set_of HE5.out 0 (.int .i64 s.1)) 1 (.int .i64 s.2)
            have HL6 := Lib.hid (HL5.out.frE HE5.out hEB hf6)
            have d6 : ((W5.setCell ⟨E, 0, none⟩ (.int .i64 s.1)).setCell ⟨E, 1, none⟩ (.int .i64 s.2)).drew.cell? ⟨ub, uo + k, none⟩ = some (.int .i64 (y : Int)) := (hf6.cell (p := ⟨ub, uo + k, none⟩) hub5 (by have := HUE.out; simp; omega)).trans d5
            have hub6 := Nat.lt_of_lt_of_le hub5 hf6.size
            clear hf6 HL5 d5 hub5 b0 hGl a0 a1 hab e0 e1 f0 f1 hEl HE5
            generalize ((W5.setCell ⟨E, 0, none⟩ (.int .i64 s.1)).setCell ⟨E, 1, none⟩ (.int .i64 s.2)).drew = W6 at *
            have HE6 := Lib.hid hE6
            have e3 := cell_of hE6 3
            have f3 := free_of hE6 3
            have hEl := lt_of hE6
            have hwr : IntKind.i64.wrap ((ss : Int) + 1) = (ss : Int) + 1 := by rw [IntKind.wrap_i64]; omega
            clear hE6
            go_upto_region 43 with fail
            have hf7 : Fr [E] W6 (W6.setCell ⟨E, 3, none⟩ (.int .i64 ((ss : Int) + 1))) := fr_cell _ _ _ _
            have hE7 : (W6.setCell ⟨E, 3, none⟩ (.int .i64 ((ss : Int) + 1))).heap[E]? = some (.cells #[.int .i64 s.1, .int .i64 s.2, .bool rr, .int .i64 ((ss : Int) + 1), .int .i64 ff.1, .int .i64 ff.2] tLd (0, 0)) := set_of HE6.out 3 _
            have HL7 := Lib.hid (HL6.out.frE HE6.out hEB hf7)
            have d7 := (hf7.cell (p := ⟨ub, uo + k, none⟩) hub6 (by have := HUE.out; simp; omega)).trans d6
            have hub7 := Nat.lt_of_lt_of_le hub6 hf7.size
            clear hf7 HL6 d6 hub6 e3 f3 hEl HE6 hwr
            generalize W6.setCell ⟨E, 3, none⟩ (.int .i64 ((ss : Int) + 1)) = W7 at *
            have e0 := cell_of hE7 0
            have e1 := cell_of hE7 1
            have e2 := cell_of hE7 2
            have e3 := cell_of hE7 3
            have e4 := cell_of hE7 4
            have e5 := cell_of hE7 5
            have hEl := lt_of hE7
            have o0 := HL7.out.out.cell (i := y * 6) (by omega)
            have o1 := HL7.out.out.cell (i := y * 6 + 1) (by omega)
            have o2 := HL7.out.out.cell (i := y * 6 + 2) (by omega)
            have o3 := HL7.out.out.cell (i := y * 6 + 3) (by omega)
            have o4 := HL7.out.out.cell (i := y * 6 + 4) (by omega)
            have o5 := HL7.out.out.cell (i := y * 6 + 5) (by omega)
            have q0 := HL7.out.out.frozen (y * 6)
            have q1 := HL7.out.out.frozen (y * 6 + 1)
            have q2 := HL7.out.out.frozen (y * 6 + 2)
            have q3 := HL7.out.out.frozen (y * 6 + 3)
            have q4 := HL7.out.out.frozen (y * 6 + 4)
            have q5 := HL7.out.out.frozen (y * 6 + 5)
            have hOl := HL7.out.out.lt
            have HVS : Hid ([Value.int .i64 s.1, .int .i64 s.2, .bool rr, .int .i64 ((ss : Int) + 1), .int .i64 ff.1, .int .i64 ff.2] = ldC spots y (leadOf g y)) := by
              show _ = _
              rw [HBU.out]
              show _ = [Value.int .i64 (spots.getD y (0, 0)).1, .int .i64 (spots.getD y (0, 0)).2, .bool (leadOf g z).ring, .int .i64 (((leadOf g z).steps + 1 : Nat) : Int), .int .i64 (spots.getD (leadOf g z).first (0, 0)).1, .int .i64 (spots.getD (leadOf g z).first (0, 0)).2]
              rw [HSY.out, HSS.out, HFF.out, HRR.out]
              rfl
            clear hE7
            go_still_tail 6, (by kernel_rfl)
            change wpList _ _ _ _ _ W7.drew
            go_upto_region 44 with fail
            have hL8 := (HL7.out.six HVS.out).congr (stF_upd th2 y)
            have hf8 := fr_six W7 Ou (y * 6) (.int .i64 s.1) (.int .i64 s.2) (.bool rr) (.int .i64 ((ss : Int) + 1)) (.int .i64 ff.1) (.int .i64 ff.2)
            have d8 := (hf8.cell (p := ⟨ub, uo + k, none⟩) hub7 (by simp; exact fun e => HUB.out.2 e.symm)).trans d7
            have hub8 := Nat.lt_of_lt_of_le hub7 hf8.size
            dsimp only [six] at hL8 d8 hub8
            have HL8 := Lib.hid hL8
            have hB8 := hL8.sz
            clear hL8 hf8 o0 o1 o2 o3 o4 o5 q0 q1 q2 q3 q4 q5 e0 e1 e2 e3 e4 e5 hOl hEl d7 hub7 HVS HL7
            generalize ((((((W7.setCell ⟨Ou, y * 6, none⟩ (.int .i64 s.1)).setCell ⟨Ou, y * 6 + 1, none⟩ (.int .i64 s.2)).setCell ⟨Ou, y * 6 + 2, none⟩ (.bool rr)).setCell ⟨Ou, y * 6 + 3, none⟩ (.int .i64 ((ss : Int) + 1))).setCell ⟨Ou, y * 6 + 4, none⟩ (.int .i64 ff.1)).setCell ⟨Ou, y * 6 + 5, none⟩ (.int .i64 ff.2)).drew = W8 at *
            have hown := HL8.out.row.alloc (.cells #[.int .i64 (y : Int)] tI)
            have hl2 : l2.length ≤ 65536 := by have := HLEN.out; omega
            go_wp2_with (at_builtin; refine wpList_append_own _ rfl _ _ 47 rfl B tI i1 _ 1 8 Tryz.underlying47 hi1 hy0 hy1 hy2 rfl (by decide) _ _ _ rfl hown ⟨W8.heap.size, 0, none⟩ 1 1 [.int .i64 (y : Int)] rfl rfl (by have := news_of W8 [.int .i64 (y : Int)] tI; simpa using this) (one_mem rfl) (by unfold maxLen; omega) (by omega) (by simp; omega) ?_; intro lv9 w9 hown9 hgrow _)
            have HL9 := Lib.hid ((HL8.out.fr0 ((Fr.refl [] W8).alloc (.cells #[.int .i64 (y : Int)] tI))).push (l2 := l2 ++ [y]) hgrow (by simpa using hown9))
            go_roundw
            case rel => exact ⟨k + 1, upd th2 y true, l2 ++ [y], by go_num, by omega, HL9.out, HOK2.out, HB.out.more y, by simp; omega, HLZ2.out, HKN2.out⟩
            case measure => simp [intOf]; omega
        · obtain rfl : k = (nxs F z).length := by omega
          have HOK2 := Lib.hid (HOK.out.known hi2 (fun u hu => HKN.out u (by rw [List.take_length]; rw [HZE.out] at hu; exact hu)))
          clear HOK HKN
          generalize (nxs F z).length = nm at *
          go_wp2
          go_roundw
          case rel => exact ⟨i + 1, th2, l2, by go_num, by omega, HL.out, HOK2.out, HB.out⟩
          case measure => simp [intOf]; omega
    · obtain rfl : i = l.length := by omega
      go_wp2
      apply HQ.out
      · exact HL.out
      · exact HOK.out
      · exact HB.out
end
section
open Go.RowKit Go.Shelf Go.Sort Go.Proofs

theorem out_row {Ou B : Nat} {spots : List Sp} {g : Dg} {st : Nat → Nat} {w : World} (h : w.rowIs Ou tLd (spots.length * 6) (outF spots g st)) (h2 : ∀ x, x < spots.length → st x = 2) (hB : B ≤ Ou) (hn : spots.length ≤ 65536) : w.ownsRow B tLd 6 (.slice (some ⟨Ou, 0, none⟩) spots.length spots.length) spots.length (leadsC spots g) := by
  obtain ⟨c, hc, hs, hf⟩ := h
  have hl : (leadsC spots g).length = spots.length * 6 := by
    unfold leadsC
    rw [flat_len _ 6 (fun _ => rfl), List.length_range]
  refine ⟨hl, .inr ⟨Ou, _, c, rfl, hB, hc, Nat.le_refl _, by unfold maxLen; omega, hs, ?_⟩⟩
  apply List.ext_getElem?
  intro i
  by_cases hi : i < spots.length * 6
  · rw [List.getElem?_take_of_lt hi, Array.getElem?_toList, hf i hi]
    have hd : i / 6 < spots.length := by omega
    have hm : i % 6 < 6 := Nat.mod_lt _ (by decide)
    have e : i = i / 6 * 6 + i % 6 := by omega
    unfold leadsC
    conv => rhs; rw [e]
    rw [flat_get _ 6 (fun _ => rfl) _ _ _ (by rw [List.length_range]; exact hd) hm, List.getElem_range]
    unfold outF
    rw [if_pos (h2 _ hd), List.getD_eq_getElem?_getD, List.getElem?_eq_getElem (by simpa using hm)]
    rfl
  · rw [List.getElem?_take_eq_none (by omega), List.getElem?_eq_none (by omega)]
theorem LeadsRes.err {ns : List Nd} {w w1 : World} {e : Ending} (h0 : madeE ns ≠ 0) (he : e = .returned (.tuple #[.slice none 0 0, .int .i64 (madeE ns)])) (hf : Fr [] w w1) : LeadsRes ns w e w1 := by
  refine ⟨.slice none 0 0, ?_, ?_, hf⟩
  · unfold ldE
    rw [if_neg h0]
    exact he
  · unfold ldL
    rw [if_neg h0]
    exact World.ownsRow_nil _ _ _ _
theorem LeadsRes.kind {ns : List Nd} {w w1 : World} {e : Ending} (h0 : madeE ns = 0) (h1 : ∃ x, x < (gSp ns).length ∧ 1 < (nxs (gNx ns) x).length) (he : e = .returned (.tuple #[.slice none 0 0, .int .i64 5])) (hf : Fr [] w w1) : LeadsRes ns w e w1 := by
  refine ⟨.slice none 0 0, ?_, ?_, hf⟩
  · unfold ldE
    rw [if_pos h0, if_pos h1]
    exact he
  · unfold ldL
    rw [if_pos h0, if_pos h1]
    exact World.ownsRow_nil _ _ _ _
theorem LeadsRes.all {ns : List Nd} {w w1 : World} {e : Ending} {sv : Value} (h0 : madeE ns = 0) (h1 : ¬ ∃ x, x < (gSp ns).length ∧ 1 < (nxs (gNx ns) x).length) (he : e = .returned (.tuple #[sv, .int .i64 0])) (h2 : w1.ownsRow w.heap.size tLd 6 sv (gSp ns).length (leadsC (gSp ns) (gNx ns))) (hf : Fr [] w w1) : LeadsRes ns w e w1 := by
  refine ⟨sv, ?_, ?_, hf⟩
  · unfold ldE
    rw [if_pos h0, if_neg h1]
    exact he
  · unfold ldL
    rw [if_pos h0, if_neg h1]
    have e1 : ((List.range (gSp ns).length).map (lxOf (gSp ns) (gNx ns))).flatMap lxC = leadsC (gSp ns) (gNx ns) := by
      rw [List.flatMap_map]
      rfl
    rw [e1, List.length_map, List.length_range]
    exact h2
set_option maxRecDepth 100000 in
set_option maxHeartbeats 6400000 in
theorem rfLeadsC (v : Value) (ns : List Nd) (w : World) (hv : NodesAt w v ns) (hB : ns.length + tot ns ≤ 4194304) : Calls Tryz.prog 15 #[v] w (LeadsRes ns w) := by
  have HV := Lib.hid hv
  obtain ⟨vq, vc, rfl, hv1, hv2⟩ := hv.row.form
  clear hv
  go_enter Tryz.func15, Tryz.ntmps15
  go_wp2_with fail
  refine (rfGraph _ ns w HV.out hB).mono ?_
  rintro e w1 ⟨hf1, ⟨h0, rfl⟩ | ⟨h0, G, rfl, hG⟩⟩
  · have hne : (madeE ns != 0) = true := by simpa using h0
    have hne2 : ¬ madeE ns = 0 := h0
    have HM : Hid (∀ E, E = madeE ns → ∀ w1, Fr [] w w1 → LeadsRes ns w (.returned (.tuple #[.slice none 0 0, .int .i64 E])) w1) := fun E hE w1 hf => by
      subst hE
      exact LeadsRes.err h0 rfl hf
    clear h0
    generalize hE : madeE ns = E at *
    have HEE := Lib.hid hE
    clear hE
    go_wp2
    go_ret2
    exact HM.out _ rfl _ hf1
  · have HF1 := Lib.hid hf1
    have hmo := made_ok h0
    have hlen : (gSp ns).length = (gNx ns).length := by rw [gNx_len, gSp_len]
    have hgl : (gSp ns).length ≤ 65536 := by rw [gSp_len]; exact hmo.1
    have HFO := Lib.hid (gFr_ok (made_nd h0))
    have HO := Lib.hid (gNx_ok ns)
    have HKIND : Hid ((∃ x, x < (gSp ns).length ∧ 1 < (nxs (gNx ns) x).length) → ∀ {w1 : World}, Fr [] w w1 → LeadsRes ns w (.returned (.tuple #[.slice none 0 0, .int .i64 5])) w1) := fun h w1 hf => LeadsRes.kind h0 h rfl hf
    have HALL : Hid ((¬ ∃ x, x < (gSp ns).length ∧ 1 < (nxs (gNx ns) x).length) → ∀ {w1 : World} {sv : Value}, w1.ownsRow w.heap.size tLd 6 sv (gSp ns).length (leadsC (gSp ns) (gNx ns)) → Fr [] w w1 → LeadsRes ns w (.returned (.tuple #[sv, .int .i64 0])) w1) := fun h w1 sv h2 hf => LeadsRes.all h0 h rfl h2 hf
    have HG := Lib.hid hG
    obtain ⟨av, tv, fv, hbx, hav, htv, hfv⟩ := hG.ex
    obtain ⟨aq, ac, rfl, ha1, ha2⟩ := hav.form
    obtain ⟨tq, tc, rfl, htc1, htc2⟩ := htv.form
    have HBX := Lib.hid hbx
    have HTV := Lib.hid htv
    have HLEN := Lib.hid hlen
    clear hG h0 hf1 hmo hbx hav htv hfv hlen ha1 ha2 htc1 htc2
    generalize gSp ns = spots at *
    generalize gNx ns = g at *
    generalize gFr ns = F at *
    have b0 := cell_of HBX.out 0
    have hGl := lt_of HBX.out
    have hmk := mkLd spots.length (by omega)
    have hmk2 := mkB spots.length (by omega)
    go_upto_block 0 with fail
    clear hmk hmk2 b0
    have hrow := (made_ld w1 spots.length spots g)
    have hrow2 := row_fr hrow ((Fr.refl [] _).alloc (.cells (Array.replicate spots.length (.bool false)) tB)) (by simp)
    have hth := row_new (heap_new (w1.alloc (.cells (madeCells ld0.toArray (spots.length * 6)) tLd)) (.cells (Array.replicate spots.length (.bool false)) tB))
    have hF2 : Fr [] w1 ((w1.alloc (.cells (madeCells ld0.toArray (spots.length * 6)) tLd)).alloc (.cells (Array.replicate spots.length (.bool false)) tB)) := ((Fr.refl [] w1).alloc _).alloc _
    have hsz : ((w1.alloc (.cells (madeCells ld0.toArray (spots.length * 6)) tLd)).alloc (.cells (Array.replicate spots.length (.bool false)) tB)).heap.size = w1.heap.size + 2 := by simp
    rw [show (w1.alloc (.cells (madeCells ld0.toArray (spots.length * 6)) tLd)).heap.size = w1.heap.size + 1 by simp] at hth
    generalize (w1.alloc (.cells (madeCells ld0.toArray (spots.length * 6)) tLd)).alloc (.cells (Array.replicate spots.length (.bool false)) tB) = W2 at *
    have hw1 := HF1.out.size
    have HF2 := Lib.hid hF2
    have HROW := Lib.hid hrow2
    have HTH := Lib.hid hth
    have HSZ := Lib.hid hsz
    clear hrow hrow2 hth hF2 hsz
    go_cut [9] (fun _ wx => (∀ x, x < spots.length → (nxs g x).length ≤ 1) ∧ Fr [] W2 wx)
    case first =>
      go_wp2_with fail
      go_loopw [9] (fun iv wr => ∃ k : Nat, iv = .int .i64 (k : Int) ∧ k ≤ spots.length ∧ (∀ x, x < k → (nxs g x).length ≤ 1) ∧ Fr [] W2 wr) (fun iv _ => spots.length - (intOf iv).toNat)
      case atStart => exact ⟨0, rfl, by omega, fun x hx => by omega, Fr.refl _ _⟩
      case round =>
        obtain ⟨k, rfl, hk, h1, hf⟩ := hrel
        have H1 := Lib.hid h1
        clear h1
        by_cases hlt : k < spots.length
        · have hk1 : (k : Int) < (spots.length : Int) := by omega
          have hkg : k < g.length := by have := HLEN.out; omega
          have hkg1 : (k : Int) < (g.length : Int) := by omega
          have hfw := HF2.out.trans0 hf
          obtain ⟨tb, t1, _, u, e, htb, d0, hu⟩ := HTV.out.cell hkg
          cases e
          rw [← nxs_get hkg] at hu
          obtain ⟨uq, uc, rfl, hu1, hu2⟩ := hu.form
          have d0' := ce_call hfw d0
          have htb' := Nat.lt_of_lt_of_le htb hfw.size
          have hbw := hfw.heap HBX.out (by simp)
          have b1 := cell_of hbw 1
          have hGw := lt_of hbw
          clear hu d0 htb hbw
          by_cases h2 : 1 < (nxs g k).length
          · have h2i : 1 < ((nxs g k).length : Int) := by omega
            have HX := Lib.hid (HKIND.out ⟨k, hlt, h2⟩ (HF1.out.trans0 hfw))
            clear h2 hfw
            generalize (nxs g k).length = nm at *
            go_wp2
            go_ret2
            exact HX.out
          · have h2i : ¬ 1 < ((nxs g k).length : Int) := by omega
            have H12 : Hid (∀ x, x < k + 1 → (nxs g x).length ≤ 1) := fun x hx => by
              rcases Nat.lt_or_eq_of_le (Nat.le_of_lt_succ hx) with h | rfl
              · exact H1.out x h
              · omega
            clear h2 hfw H1
            generalize (nxs g k).length = nm at *
            go_wp2
            go_roundw
            case rel => exact ⟨k + 1, by go_num, by omega, H12.out, hf⟩
            case measure => simp [intOf]; omega
        · obtain rfl : k = spots.length := by omega
          go_wp2
          go_meet
          exact ⟨H1.out, hf⟩
    case rest =>
      obtain ⟨h1, hf⟩ := hcut
      have H1 := Lib.hid h1
      have HF3 := Lib.hid (HF2.out.trans0 hf)
      have HG3 := Lib.hid (HG.out.fr0 HF3.out)
      have HF23 := Lib.hid hf
      have HNO : Hid (¬ ∃ x, x < spots.length ∧ 1 < (nxs g x).length) := fun ⟨x, hx, h⟩ => by
        have := H1.out x hx
        omega
      have H1A : Hid (∀ v, (nxs g v).length ≤ 1) := fun v => by
        by_cases hv : v < spots.length
        · exact H1.out v hv
        · unfold nxs
          rw [List.getD_eq_getElem?_getD, List.getElem?_eq_none (by have := HLEN.out; omega)]
          simp
      have hgl2 : g.length ≤ 65536 := by have := HLEN.out; omega
      clear h1 hf
      go_wp2_with fail
      refine (rfRings G spots g F wc HG3.out HFO.out HO.out HLEN.out hgl2).mono ?_
      rintro e w4 ⟨sv, Rn, rfl, hta, hrok, _, hf4, hstay⟩
      have hw4 : wc.heap.size ≤ w4.heap.size := hf4.size
      have hwc := HF23.out.size
      have hw2 := HSZ.out
      have HST4 : Hid (∀ u, Fr [w1.heap.size, w1.heap.size + 1] w4 u → ToAt u sv Rn) := fun u hf => hstay _ u (fun b hb => by
        simp at hb
        rcases hb with rfl | rfl
        · omega
        · omega) hf
      have hQ0 : LQ w4 w1.heap.size (w1.heap.size + 1) w4.heap.size spots g (stF fun _ => false) (fun _ => false) [] (.slice none 0 0) w4 := ⟨row_fr HROW.out (HF23.out.trans0 hf4) (by simp), row_fr HTH.out (HF23.out.trans0 hf4) (by simp), World.ownsRow_nil _ _ _ _, Fr.refl _ _, Nat.le_refl _, by omega, by omega, by omega, rfl⟩
      have HQ0 := Lib.hid hQ0
      have HROK := Lib.hid hrok
      have HF4 := Lib.hid (HF3.out.trans0 hf4)
      clear hta hrok hf4 hstay hQ0
      go_upto_block 2 with fail
      refine leadsRings w1 w4 G w1.heap.size (w1.heap.size + 1) w4.heap.size spots g F Rn sv w4 HG.out HF4.out ⟨Nat.le_refl _, by omega⟩ HLEN.out hgl H1A.out HROK.out HST4.out HQ0.out _ ?_
      intro n10 n12 n13 n14 n53 n54 n55 n56 n57 n58 n59 n60 n61 n62 n63 n64 n65 n66 n67 n68 n69 n70 n71 n72 n73 n74 n75 n76 n77 n78 n79 n80 n81 n82 n83 n84 n85 n86 n87 n88 n89 n90 n91 n92 n93 n94 n95 n96 n97 n98 n99 n100 n101 n102 n103 n104 th5 l5 w5 hL5 hS5
      have HL5 := Lib.hid hL5
      have HS5 := Lib.hid hS5
      clear hL5 hS5 HQ0 HST4
      dsimp only
      go_upto_block 6 with fail
      refine leadsSinks w1 w4 G w1.heap.size (w1.heap.size + 1) w4.heap.size spots g F th5 l5 _ w5 HG.out HF4.out ⟨Nat.le_refl _, by omega⟩ HLEN.out hgl HL5.out HS5.out _ ?_
      intro n10 n15 n105 n106 n107 n108 n109 n110 n111 n112 n113 n114 n115 n116 n117 n118 n119 n120 n121 n122 n123 n124 n125 n126 n127 n128 n129 n130 n131 n132 n133 n134 n135 n136 n137 n138 n139 n140 n141 n142 n143 th6 l6 w6 hL6 hS6
      have HL6 := Lib.hid hL6
      have HOK6 := Lib.hid hS6.ok
      have HB6 : Hid (Base2 g l6) := fun v hv h => h.elim (hS6.rg v hv) (hS6.nn v hv)
      clear hL6 hS6 HL5 HS5
      dsimp only
      go_upto_block 8 with fail
      refine leadsBfs w1 w4 G w1.heap.size (w1.heap.size + 1) w4.heap.size spots g F th6 l6 _ w6 HG.out HF4.out ⟨Nat.le_refl _, by omega⟩ HLEN.out hgl (fun v _ => H1A.out v) HFO.out HO.out HL6.out HOK6.out HB6.out _ ?_
      intro n10 n16 n17 n18 n19 n144 n145 n146 n147 n148 n149 n150 n151 n152 n153 n154 n155 n156 n157 n158 n159 n160 n161 n162 n163 n164 n165 n166 n167 n168 n169 n170 n171 n172 n173 n174 n175 n176 n177 n178 n179 n180 n181 n182 n183 n184 n185 n186 n187 n188 n189 n190 n191 n192 n193 n194 n195 n196 n197 n198 n199 n200 n201 n202 n203 n204 n205 n206 n207 n208 n209 n210 n211 n212 n213 n214 n215 th7 l7 w7 hL7 hOK7 hB7
      have hfull := hOK7.full HFO.out HO.out hB7
      have hrow7 := out_row (B := w.heap.size) hL7.out (fun x hx => by
        unfold stF
        rw [if_pos ((hOK7.tl x).2 (hfull x (by have := HLEN.out; omega)))]) hw1 hgl
      have HEND := Lib.hid (HALL.out HNO.out hrow7 ((HF1.out.trans0 HF4.out).trans hL7.fr (fun x hx => .inr (by
        simp at hx
        rcases hx with rfl | rfl
        · exact hw1
        · omega))))
      clear hfull hrow7 hL7 hOK7 hB7 HL6 HOK6 HB6
      dsimp only
      go_wp2
      go_ret2
      exact HEND.out
end
end Go.Proofs.YtdlpbpohbkcafaaGreat
