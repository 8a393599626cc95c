/-
  quadrillelaw21.CycleRings: each place of a ring is marked.
-/
import Derived.Test.YtdlpbpohbkcafaaCLawRA
namespace Go.Proofs.Ytdlpbpohbkcafaa
open Go.RowKit Go.Shelf Go.Sort Go.Proofs

set_option maxRecDepth 100000 in
set_option maxHeartbeats 3200000 in
theorem lawMarks (wb : World) (Wh : Nat) (ns : List Nd) (R : List (List Sp)) (C : Nat → Nat → Prop) (v3 v4 : Value) (w : World) {s0 s1 s2 s5 s8 s9 s10 s11 s12 s13 s14 s15 s16 s17 s18 s19 s20 s21 s22 s23 s24 s25 s26 s27 s28 s29 s30 s31 s32 s33 s34 s35 s36 s37 s38 s39 s40 s41 s42 s43 s44 s45 s46 s47 s48 s49 s50 s51 s52 s53 s54 s55 s56 s57 s58 s59 s60 s61 s62 s63 s64 s65 s66 s67 s68 s69 s70 s71 s72 s73 s74 s75 s76 s77 s78 s79 s80 s81 s82 s83 s84 s85 s86 s87 s88 s89 s90 s91 s92 s93 s94 s95 s96 s97 s98 s99 s100 s101 s102 s103 s104 s105 s106 s107 s108 s109 s110 s111 s112 s113 s114 s115 s116 s117 s118 s119 s120 s121 s122 s123 s124 s125 s126 s127 s128 s129 s130 s131 s132 s133 s134 s135 s136 s137 s138 s139 s140 s141 s142 s143 s144 s145 s146 s147 s148 s149 s150 s151 s152 s153 s154 s155 s156 s157 s158 s159 s160 s161 s162 s163 s164 s165 s166 s167 s168 s169 s170 s171 s172 s173 s174 s175 s176 s177 s178 s179 s180 s181 s182 s183 s184 s185 s186 s187 : Value} (hN : NodesAt wb v3 ns) (hR : RowsS wb v4 R) (hRF : RingFacts (atsN ns) C R) (hnd : (atsN ns).Nodup) (hWh : wb.heap.size ≤ Wh)
    (hw : w.rowIs Wh tI ns.length fun _ => .int .i64 0) (hfr : Fr [] wb w) (Q : Exit → Act → World → Prop)
    (hQ : ∀ (n2 n7 n8 n9 n30 n31 n32 n33 n34 n35 n36 n37 n38 n39 n40 n41 n42 n43 n44 n45 n46 n47 n48 n49 n50 n51 n52 n53 n54 n55 n56 n57 n58 n59 n60 n61 n62 n63 n64 n65 n66 n67 n68 n69 n70 n71 n72 n73 n74 n75 n76 n77 n78 n79 n80 n81 n82 n83 n84 n85 n86 n87 n88 n89 n90 n91 n92 n93 n94 n95 n96 n97 n98 n99 n100 n101 n102 n103 n104 n105 n106 n107 n108 n109 n110 n111 n112 n113 n114 n115 n116 n117 : Value) (w' : World), w'.rowIs Wh tI ns.length (markF ns R) → Fr [] wb w' → Q .normal { tmps := #[s0, s1, n2, v3, v4, s5, .slice (some ⟨Wh, 0, none⟩) ns.length ns.length, n7, n8, n9, s10, s11, s12, s13, s14, s15, s16, s17, s18, s19, s20, s21, s22, s23, s24, s25, s26, s27, s28, s29, n30, n31, n32, n33, n34, n35, n36, n37, n38, n39, n40, n41, n42, n43, n44, n45, n46, n47, n48, n49, n50, n51, n52, n53, n54, n55, n56, n57, n58, n59, n60, n61, n62, n63, n64, n65, n66, n67, n68, n69, n70, n71, n72, n73, n74, n75, n76, n77, n78, n79, n80, n81, n82, n83, n84, n85, n86, n87, n88, n89, n90, n91, n92, n93, n94, n95, n96, n97, n98, n99, n100, n101, n102, n103, n104, n105, n106, n107, n108, n109, n110, n111, n112, n113, n114, n115, n116, n117, s118, s119, s120, s121, s122, s123, s124, s125, s126, s127, s128, s129, s130, s131, s132, s133, s134, s135, s136, s137, s138, s139, s140, s141, s142, s143, s144, s145, s146, s147, s148, s149, s150, s151, s152, s153, s154, s155, s156, s157, s158, s159, s160, s161, s162, s163, s164, s165, s166, s167, s168, s169, s170, s171, s172, s173, s174, s175, s176, s177, s178, s179, s180, s181, s182, s183, s184, s185, s186, s187], defers := [] } w') :
    (subC [1, 1, 1, 1, 1, 1, 0, 1] (Try.f3.body.getD .skip)).wp Try.prog Q { tmps := #[s0, s1, s2, v3, v4, s5, .slice (some ⟨Wh, 0, none⟩) ns.length ns.length, .int .i64 0, s8, s9, s10, s11, s12, s13, s14, s15, s16, s17, s18, s19, s20, s21, s22, s23, s24, s25, s26, s27, s28, s29, s30, s31, s32, s33, s34, s35, s36, s37, s38, s39, s40, s41, s42, s43, s44, s45, s46, s47, s48, s49, s50, s51, s52, s53, s54, s55, s56, s57, s58, s59, s60, s61, s62, s63, s64, s65, s66, s67, s68, s69, s70, s71, s72, s73, s74, s75, s76, s77, s78, s79, s80, s81, s82, s83, s84, s85, s86, s87, s88, s89, s90, s91, s92, s93, s94, s95, s96, s97, s98, s99, s100, s101, s102, s103, s104, s105, s106, s107, s108, s109, s110, s111, s112, s113, s114, s115, s116, s117, s118, s119, s120, s121, s122, s123, s124, s125, s126, s127, s128, s129, s130, s131, s132, s133, s134, s135, s136, s137, s138, s139, s140, s141, s142, s143, s144, s145, s146, s147, s148, s149, s150, s151, s152, s153, s154, s155, s156, s157, s158, s159, s160, s161, s162, s163, s164, s165, s166, s167, s168, s169, s170, s171, s172, s173, s174, s175, s176, s177, s178, s179, s180, s181, s182, s183, s184, s185, s186, s187], defers := [] } w := by
  have HQ := Lib.hid hQ
  have HN := Lib.hid hN
  have HR := Lib.hid hR
  have HF := Lib.hid hRF
  have HND := Lib.hid hnd
  have HW := Lib.hid hw
  obtain ⟨sq, sc, rfl, hs1, hs2⟩ := hN.row.form
  obtain ⟨rq, rc, rfl, hr1, hr2⟩ := hR.form
  have hal : (atsN ns).length = ns.length := by simp [atsN]
  have HAL := Lib.hid hal
  clear hQ hN hR hRF hnd hw hal
  show (Code.block 0 _).wp _ _ _ _
  dsimp only
  go_wp2_with fail
  go_loopw [7] (fun i wr => ∃ k : Nat, i = .int .i64 (k : Int) ∧ k ≤ R.length ∧ wr.rowIs Wh tI ns.length (markF ns (R.take k)) ∧ Fr [] wb wr) (fun i _ => R.length - (intOf i).toNat)
  case atStart => exact ⟨0, rfl, by omega, HW.out.congr fun j _ => by simp [markF, ringNo], hfr⟩
  case round =>
    obtain ⟨k, rfl, hk, hrow, hf⟩ := hrel
    have HROW := Lib.hid hrow
    clear hrow
    by_cases hlt : k < R.length
    · have hk1 : (k : Int) < (R.length : Int) := by omega
      obtain ⟨b, off, _, x, e, hb, c0, hx⟩ := (HR.out.fr0 hf).cell hlt
      cases e
      obtain ⟨xq, xc, rfl, hx1, hx2⟩ := hx.form
      have hne := List.length_pos_iff.2 (HF.out.ne _ (List.getElem_mem hlt))
      obtain ⟨b1, o1, _, e, hb1, d0, d1⟩ := spots_cell hx hne
      cases e
      have HX0 : Hid (SpotsAt wr (.slice (some ⟨b1, o1, none⟩) R[k].length xc) R[k]) := hx
      rw [hd_get _ hne] at d0 d1
      have HPREV : Hid (∀ m (hm : m < R.length), m + 1 = k → ltS (hdS R[m]) (hdS R[k]) = true) := fun m hm e => List.pairwise_iff_getElem.1 HF.out.heads m k hm hlt (by omega)
      have hbr : ((R[k].length : Int) == 0) = false := by rw [beq_eq_false_iff_ne]; omega
      have hrl : R[k].length ≤ xc := hx1
      clear hx
      generalize hrk : R[k] = r at *
      generalize hdS r = hd at *
      by_cases hk0 : k = 0
      · subst hk0
        simp only [show ((0 : Nat) : Int) = 0 from rfl]
        have c0' : wr.cell? ⟨b, off, none⟩ = some (.slice (some ⟨b1, o1, none⟩) r.length xc) := c0
        clear hrk c0
        go_wp2_with fail
        go_quiet (fail)
        have hfA : Fr [] wb (wr.drewN nq) := hf.drewN nq
        have hrA := Lib.hid (row_fr HROW.out ((Fr.refl [] wr).drewN nq) (by simp))
        clear HROW HPREV
        go_upto_if 62 with fail
        refine wp_cond_false rfl ?_
        go_step
        simp only [Exit.then]
        go_step
        refine lawMarksIn wb Wh 0 ns R C _ _ (wr.drewN nq) HN.out HR.out HF.out HND.out hWh hlt hrA.out hfA _ ?_
        intros
        rename_i w' hr' hf'
        have HR' := Lib.hid hr'
        clear hr'
        dsimp only
        go_wp2
        go_roundw
        case rel => exact ⟨1, rfl, by omega, HR'.out, hf'⟩
        case measure => simp [intOf]; omega
      · obtain ⟨m, hm⟩ : ∃ m, m + 1 = k := ⟨k - 1, by omega⟩
        have hml : m < R.length := by omega
        have hml1 : (m : Int) < (R.length : Int) := by omega
        have hgt : decide (0 < (k : Int)) = true := decide_eq_true (by omega)
        have hgtn : 0 < k := by omega
        have hgtd : decide (0 < k) = true := decide_eq_true hgtn
        have hwr : IntKind.i64.wrap ((k : Int) - 1) = (m : Int) := by rw [IntKind.wrap_i64]; omega
        obtain ⟨_, _, _, y, e, hby, e0, hy⟩ := (HR.out.fr0 hf).cell hml
        cases e
        have hcmp := cmpR_lt (HPREV.out m hml hm)
        have hney := List.length_pos_iff.2 (HF.out.ne _ (List.getElem_mem hml))
        obtain ⟨yq, yc, rfl, hy1, hy2⟩ := hy.form
        obtain ⟨b2, o2, _, e, hb2, f0, f1⟩ := spots_cell hy hney
        cases e
        rw [hd_get _ hney] at f0 f1
        clear hy
        generalize hdS R[m] = hp at *
        generalize R[m].length = pl at *
        have hpl1 : (0 : Int) < (pl : Int) := by omega
        have hrl1 : (0 : Int) < (r.length : Int) := by omega
        have hMK := Lib.hid hm
        clear hm hk0 hrk
        go_wp2_with fail
        go_region_held3 (fun u => u.cell? ⟨b, off + k, none⟩ = some (.slice (some ⟨b1, o1, none⟩) r.length xc) ∧ u.cell? ⟨b, off + m, none⟩ = some (.slice (some ⟨b2, o2, none⟩) pl yc) ∧ u.cell? ⟨b2, o2, none⟩ = some (.int .i64 hp.1) ∧ u.cell? ⟨b2, o2 + 1, none⟩ = some (.int .i64 hp.2) ∧ u.cell? ⟨b1, o1, none⟩ = some (.int .i64 hd.1) ∧ u.cell? ⟨b1, o1 + 1, none⟩ = some (.int .i64 hd.2))
          (first | exact ⟨ce_drew c0, ce_drew e0, ce_drew f0, ce_drew f1, ce_drew d0, ce_drew d1⟩ | exact ⟨ce_call hA (ce_drew c0), ce_call hA (ce_drew e0), ce_call hA (ce_drew f0), ce_call hA (ce_drew f1), ce_call hA (ce_drew d0), ce_call hA (ce_drew d1)⟩)
          ((go_at_call 11; refine (refCmp hp hd _).mono ?_; rw [hcmp]; rintro e wA ⟨rfl, hA⟩))
        have hA2 : Fr [] wr wA := ((Fr.refl [] wr).drew).transS hA
        have hfA : Fr [] wb wA := hf.trans0 hA2
        have hrA := Lib.hid (row_fr HROW.out (hA2) (by simp))
        clear HROW HPREV
        go_upto_if 62 with fail
        refine wp_cond_false rfl ?_
        go_step
        simp only [Exit.then]
        go_step
        refine lawMarksIn wb Wh k ns R C _ _ wA HN.out HR.out HF.out HND.out hWh hlt hrA.out hfA _ ?_
        intros
        rename_i w' hr' hf'
        have HR' := Lib.hid hr'
        clear hr'
        dsimp only
        go_wp2
        go_roundw
        case rel => exact ⟨k + 1, by go_num, by omega, HR'.out, hf'⟩
        case measure => simp [intOf]; omega
    · obtain rfl : k = R.length := by omega
      rw [List.take_length] at HROW
      go_wp2
      apply HQ.out
      · exact HROW.out
      · exact hf
end Go.Proofs.Ytdlpbpohbkcafaa
