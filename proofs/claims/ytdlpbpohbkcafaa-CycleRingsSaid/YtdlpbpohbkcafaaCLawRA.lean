/-
  quadrillelaw21.CycleRings: the places of one ring are marked.
-/
import Derived.Test.YtdlpbpohbkcafaaCSound
import Derived.Test.YtdlpbpohbkcafaaCycP
import Derived.Test.YtdlpbpohbkcafaaCUtil2
import Derived.Test.YtdlpbpohbkcafaaCRingA
namespace Go.Proofs.Ytdlpbpohbkcafaa
open Go.RowKit Go.Shelf Go.Sort Go.Proofs

theorem hd_get (l : List Sp) (h : 0 < l.length) : l[0] = hdS l := by
  cases l with
  | nil => simp at h
  | cons a l => simp [hdS]
theorem cmpR_lt {s t : Sp} (h : ltS s t = true) : cmpR s t = -1 := by unfold cmpR; rw [if_pos h]
/-- What the row of marks holds. -/
def markF (ns : List Nd) (A : List (List Sp)) (j : Nat) : Value := .int .i64 (ringNo A ((atsN ns).getD j (0, 0)) : Int)
set_option maxRecDepth 100000 in
set_option maxHeartbeats 3200000 in
theorem lawMarksIn (wb : World) (Wh k : Nat) (ns : List Nd) (R : List (List Sp)) (C : Nat → Nat → Prop) (v3 v4 : Value) (w : World) {s0 s1 s2 s5 s8 s9 s10 s11 s12 s13 s14 s15 s16 s17 s18 s19 s20 s21 s22 s23 s24 s25 s26 s27 s28 s29 s30 s31 s32 s33 s34 s35 s36 s37 s38 s39 s40 s41 s42 s43 s44 s45 s46 s47 s48 s49 s50 s51 s52 s53 s54 s55 s56 s57 s58 s59 s60 s61 s62 s63 s64 s65 s66 s67 s68 s69 s70 s71 s72 s73 s74 s75 s76 s77 s78 s79 s80 s81 s82 s83 s84 s85 s86 s87 s88 s89 s90 s91 s92 s93 s94 s95 s96 s97 s98 s99 s100 s101 s102 s103 s104 s105 s106 s107 s108 s109 s110 s111 s112 s113 s114 s115 s116 s117 s118 s119 s120 s121 s122 s123 s124 s125 s126 s127 s128 s129 s130 s131 s132 s133 s134 s135 s136 s137 s138 s139 s140 s141 s142 s143 s144 s145 s146 s147 s148 s149 s150 s151 s152 s153 s154 s155 s156 s157 s158 s159 s160 s161 s162 s163 s164 s165 s166 s167 s168 s169 s170 s171 s172 s173 s174 s175 s176 s177 s178 s179 s180 s181 s182 s183 s184 s185 s186 s187 : Value} (hN : NodesAt wb v3 ns) (hR : RowsS wb v4 R) (hRF : RingFacts (atsN ns) C R) (hnd : (atsN ns).Nodup) (hWh : wb.heap.size ≤ Wh) (hlt : k < R.length)
    (hw : w.rowIs Wh tI ns.length (markF ns (R.take k))) (hfr : Fr [] wb w) (Q : Exit → Act → World → Prop)
    (hQ : ∀ (n2 n8 n9 n63 n64 n65 n66 n67 n68 n69 n70 n71 n72 n73 n74 n75 n76 n77 n78 n79 n80 n81 n82 n83 n84 n85 n86 n87 n88 n89 n90 n91 n92 n93 n94 n95 n96 n97 n98 n99 n100 n101 n102 n103 n104 n105 n106 n107 n108 n109 n110 n111 n112 n113 n114 n115 n116 n117 : Value) (w' : World), w'.rowIs Wh tI ns.length (markF ns (R.take (k + 1))) → Fr [] wb w' → Q .normal { tmps := #[s0, s1, n2, v3, v4, s5, .slice (some ⟨Wh, 0, none⟩) ns.length ns.length, .int .i64 (k : Int), n8, n9, s10, s11, s12, s13, s14, s15, s16, s17, s18, s19, s20, s21, s22, s23, s24, s25, s26, s27, s28, s29, s30, s31, s32, s33, s34, s35, s36, s37, s38, s39, s40, s41, s42, s43, s44, s45, s46, s47, s48, s49, s50, s51, s52, s53, s54, s55, s56, s57, s58, s59, s60, s61, s62, n63, n64, n65, n66, n67, n68, n69, n70, n71, n72, n73, n74, n75, n76, n77, n78, n79, n80, n81, n82, n83, n84, n85, n86, n87, n88, n89, n90, n91, n92, n93, n94, n95, n96, n97, n98, n99, n100, n101, n102, n103, n104, n105, n106, n107, n108, n109, n110, n111, n112, n113, n114, n115, n116, n117, s118, s119, s120, s121, s122, s123, s124, s125, s126, s127, s128, s129, s130, s131, s132, s133, s134, s135, s136, s137, s138, s139, s140, s141, s142, s143, s144, s145, s146, s147, s148, s149, s150, s151, s152, s153, s154, s155, s156, s157, s158, s159, s160, s161, s162, s163, s164, s165, s166, s167, s168, s169, s170, s171, s172, s173, s174, s175, s176, s177, s178, s179, s180, s181, s182, s183, s184, s185, s186, s187], defers := [] } w') :
    (subC [1, 1, 1, 1, 1, 1, 0, 1, 0, 0, 1, 0, 0, 1] (Try.f3.body.getD .skip)).wp Try.prog Q { tmps := #[s0, s1, s2, v3, v4, s5, .slice (some ⟨Wh, 0, none⟩) ns.length ns.length, .int .i64 (k : Int), s8, s9, s10, s11, s12, s13, s14, s15, s16, s17, s18, s19, s20, s21, s22, s23, s24, s25, s26, s27, s28, s29, s30, s31, s32, s33, s34, s35, s36, s37, s38, s39, s40, s41, s42, s43, s44, s45, s46, s47, s48, s49, s50, s51, s52, s53, s54, s55, s56, s57, s58, s59, s60, s61, s62, s63, s64, s65, s66, s67, s68, s69, s70, s71, s72, s73, s74, s75, s76, s77, s78, s79, s80, s81, s82, s83, s84, s85, s86, s87, s88, s89, s90, s91, s92, s93, s94, s95, s96, s97, s98, s99, s100, s101, s102, s103, s104, s105, s106, s107, s108, s109, s110, s111, s112, s113, s114, s115, s116, s117, s118, s119, s120, s121, s122, s123, s124, s125, s126, s127, s128, s129, s130, s131, s132, s133, s134, s135, s136, s137, s138, s139, s140, s141, s142, s143, s144, s145, s146, s147, s148, s149, s150, s151, s152, s153, s154, s155, s156, s157, s158, s159, s160, s161, s162, s163, s164, s165, s166, s167, s168, s169, s170, s171, s172, s173, s174, s175, s176, s177, s178, s179, s180, s181, s182, s183, s184, s185, s186, s187], defers := [] } w := by
  have HQ := Lib.hid hQ
  have HN := Lib.hid hN
  have HR := Lib.hid hR
  have HND := Lib.hid hnd
  obtain ⟨sq, sc, rfl, hs1, hs2⟩ := hN.row.form
  obtain ⟨rq, rc, rfl, hr1, hr2⟩ := hR.form
  have hal : (atsN ns).length = ns.length := by simp [atsN]
  have HAL := Lib.hid hal
  have hk1 : (k : Int) < (R.length : Int) := by omega
  have HASC := Lib.hid (hRF.asc _ (List.getElem_mem hlt))
  have HMEM : Hid (∀ s ∈ R[k], s ∈ atsN ns) := hRF.mem _ (List.getElem_mem hlt)
  have HPUT : Hid (∀ q (hq : q < R[k].length), ringNo (R.take k ++ [R[k].take q]) R[k][q] = 0 ∧ ∀ t, ringNo (R.take k ++ [R[k].take (q + 1)]) t = if t = R[k][q] then k + 1 else ringNo (R.take k ++ [R[k].take q]) t) := fun q hq =>
    ringNo_put hRF.apart hlt (List.nodup_iff_pairwise_ne.2 (HASC.out.imp fun {a b} h e => by rw [e] at h; simp [ltS] at h)) hq
  have HNXT : Hid (∀ t, ringNo (R.take k ++ [R[k].take R[k].length]) t = ringNo (R.take (k + 1)) t) := fun t => ringNo_next hlt t
  have HROW : Hid (w.rowIs Wh tI ns.length (markF ns (R.take k ++ [R[k].take 0]))) := hw.congr fun j _ => by
    unfold markF
    rw [List.take_zero, ringNo_nil]
  have hrmax : R.length ≤ 9223372036854775807 := by omega
  clear hQ hN hR hRF hnd hw hal
  obtain ⟨b, off, _, x, e, hb, c0, hx⟩ := HR.out.cell hlt
  cases e
  obtain ⟨xq, xc, rfl, hx1, hx2⟩ := hx.form
  have HX := Lib.hid hx
  have HC0 := Lib.hid c0
  clear hx c0
  generalize hrk : R[k] = r at *
  clear hrk
  show ((Code.region 13 _ _).seq _).wp _ _ _ _
  dsimp only
  go_wp2_with fail
  go_loopw [8] (fun i wr => ∃ q : Nat, i = .int .i64 (q : Int) ∧ q ≤ r.length ∧ wr.rowIs Wh tI ns.length (markF ns (R.take k ++ [r.take q])) ∧ Fr [] wb wr) (fun i _ => r.length - (intOf i).toNat)
  case atStart => exact ⟨0, rfl, by omega, HROW.out, hfr⟩
  case round =>
    obtain ⟨q, rfl, hq, hrow, hf⟩ := hrel
    have HRW := Lib.hid hrow
    have c0 := ce_call hf HC0.out
    have hbl := Nat.lt_of_lt_of_le hb hf.size
    clear hrow
    by_cases hql : q < r.length
    · have hq1 : (q : Int) < (r.length : Int) := by omega
      obtain ⟨b1, o1, _, e, hb1, d0, d1⟩ := spots_cell (HX.out.fr0 hf) hql
      cases e
      obtain ⟨hz, hput⟩ := HPUT.out q hql
      have hin := HMEM.out _ (List.getElem_mem hql)
      obtain ⟨j, hj⟩ : ∃ j, (atsN ns).idxOf r[q] = j := ⟨_, rfl⟩
      have hfi : findI (atsN ns) r[q] = (j : Int) := by unfold findI; rw [if_pos hin, hj]
      have hjl := List.idxOf_lt_length_of_mem hin
      have hjs := List.getElem_idxOf hjl
      simp only [hj] at hjs hjl
      have hjn : j < ns.length := by rw [← HAL.out]; exact hjl
      have hj1 : (j : Int) < (ns.length : Int) := by omega
      have hgd : ∀ i (hi : i < ns.length), (atsN ns).getD i (0, 0) = (atsN ns)[i]'(by rw [HAL.out]; exact hi) := fun i hi => by rw [List.getD_eq_getElem?_getD, List.getElem?_eq_getElem (by rw [HAL.out]; exact hi)]; rfl
      have t0 := HRW.out.cell hjn
      have ht0 : markF ns (R.take k ++ [r.take q]) j = .int .i64 0 := by
        unfold markF
        rw [hgd j hjn, hjs, hz]
        rfl
      rw [ht0] at t0
      have HSET : Hid (∀ i, i < ns.length → (if i = j then (Value.int .i64 ((k : Int) + 1)) else markF ns (R.take k ++ [r.take q]) i) = markF ns (R.take k ++ [r.take (q + 1)]) i) := fun i hi => by
        unfold markF
        rw [hput, hgd i hi]
        by_cases e : i = j
        · subst e
          rw [if_pos rfl, if_pos hjs]
          rfl
        · rw [if_neg e, if_neg (fun h => e ((List.getElem_inj HND.out).1 (h.trans hjs.symm)))]
      have HLTS : Hid (∀ p (hp : p < r.length), p + 1 = q → ltS r[p] r[q] = true) := fun p hp e => List.pairwise_iff_getElem.1 HASC.out p q hp hql (by omega)
      clear hz hput hin hj hjl hjs hgd ht0
      generalize hs : r[q] = s at *
      clear hs
      have t1 := HRW.out.frozen j
      have t2 := HRW.out.lt
      go_wp2_with fail
      refine (findC _ ns s _ (HN.out.fr0 hf).row).mono ?_
      rw [hfi]
      rintro e w3 ⟨rfl, h3⟩
      have hf3 := hf.trans0 h3
      have c0 := ce_call h3 c0
      have d0 := ce_call h3 d0
      have d1 := ce_call h3 d1
      have t0 := ce_call h3 t0
      have HR3 := Lib.hid (row_fr HRW.out h3 (by simp))
      have hbl3 := Nat.lt_of_lt_of_le hbl h3.size
      have hjneg : decide ((j : Int) < 0) = false := decide_eq_false (by omega)
      clear h3 hfi t1 t2
      have hfin : ∀ w4 : World, Fr [] w3 w4 → Fr [] wb (w4.setCell ⟨Wh, j, none⟩ (.int .i64 ((k : Int) + 1))) ∧ (w4.setCell ⟨Wh, j, none⟩ (.int .i64 ((k : Int) + 1))).rowIs Wh tI ns.length (markF ns (R.take k ++ [r.take (q + 1)])) := fun w4 h4 =>
        ⟨(hf3.trans0 h4).setCell (.inr hWh) _, ((row_fr HR3.out h4 (by simp)).set j _).congr HSET.out⟩
      have HFIN := Lib.hid hfin
      clear hfin HSET
      by_cases hq0 : q = 0
      · subst hq0
        simp only [show ((0 : Nat) : Int) = 0 from rfl]
        have HFA := Lib.hid (HFIN.out w3 (Fr.refl [] w3))
        have hrA := HR3.out
        have tf := hrA.frozen j
        have tl := hrA.lt
        clear d0 d1 HLTS hrA
        go_wp2_with fail
        go_quiet (fail)
        go_wp2
        go_roundw
        case rel => exact ⟨1, rfl, by omega, row_fr HFA.out.2 ((Fr.refl [] _).drewN nq) (by simp), HFA.out.1.drewN nq⟩
        case measure => simp [intOf]; omega
      · obtain ⟨p, hp⟩ : ∃ p, p + 1 = q := ⟨q - 1, by omega⟩
        have hpl : p < r.length := by omega
        have hpl1 : (p : Int) < (r.length : Int) := by omega
        have hgt : decide (0 < (q : Int)) = true := decide_eq_true (by omega)
        have hgtn : 0 < q := by omega
        have hgtd : decide (0 < q) = true := decide_eq_true hgtn
        have hwr : IntKind.i64.wrap ((q : Int) - 1) = (p : Int) := by rw [IntKind.wrap_i64]; omega
        have hcmp := cmpR_lt (HLTS.out p hpl hp)
        obtain ⟨_, _, _, e, _, e0, e1⟩ := spots_cell (HX.out.fr0 hf3) hpl
        cases e
        generalize r[p] = sp at *
        have HPQ := Lib.hid hp
        clear hp hq0
        go_wp2_with fail
        go_region_held3 (fun u => u.cell? ⟨b, off + k, none⟩ = some (.slice (some ⟨b1, o1, none⟩) r.length xc) ∧ u.cell? ⟨b1, o1 + q * 2, none⟩ = some (.int .i64 s.1) ∧ u.cell? ⟨b1, o1 + q * 2 + 1, none⟩ = some (.int .i64 s.2) ∧ u.cell? ⟨b1, o1 + p * 2, none⟩ = some (.int .i64 sp.1) ∧ u.cell? ⟨b1, o1 + p * 2 + 1, none⟩ = some (.int .i64 sp.2) ∧ u.cell? ⟨Wh, j, none⟩ = some (.int .i64 0))
          (first | exact ⟨ce_drew c0, ce_drew d0, ce_drew d1, ce_drew e0, ce_drew e1, ce_drew t0⟩ | exact ⟨ce_call hA (ce_drew c0), ce_call hA (ce_drew d0), ce_call hA (ce_drew d1), ce_call hA (ce_drew e0), ce_call hA (ce_drew e1), ce_call hA (ce_drew t0)⟩)
          ((go_at_call 11; refine (refCmp sp s _).mono ?_; rw [hcmp]; rintro e wA ⟨rfl, hA⟩))
        have hfA : Fr [] w3 wA := ((Fr.refl [] w3).drew).transS hA
        have hrA := row_fr HR3.out hfA (by simp)
        have tA := hrA.cell hjn
        have tf := hrA.frozen j
        have tl := hrA.lt
        have HFA := Lib.hid (HFIN.out _ hfA)
        clear hrA hfA hA
        go_wp2
        go_roundw
        case rel => exact ⟨q + 1, by go_num, by omega, HFA.out.2, HFA.out.1⟩
        case measure => simp [intOf]; omega
    · obtain rfl : q = r.length := by omega
      have HE := Lib.hid (HRW.out.congr fun j _ => by unfold markF; rw [HNXT.out])
      clear HRW
      go_wp2
      apply HQ.out
      · exact HE.out
      · exact hf
end Go.Proofs.Ytdlpbpohbkcafaa
