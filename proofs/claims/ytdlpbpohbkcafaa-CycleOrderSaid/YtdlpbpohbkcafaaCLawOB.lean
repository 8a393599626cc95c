/-
  quadrillelaw21.CycleOrder: none could have come earlier; all nodes.
-/
import Derived.Test.YtdlpbpohbkcafaaCLawOA
import Derived.Deep.CutBlock
namespace Go.Proofs.Ytdlpbpohbkcafaa
open Go.RowKit Go.Shelf Go.Sort Go.Proofs

theorem cmpR_ge {s t : Sp} (h : ltS t s = false) : cmpR s t ≤ 0 := by
  unfold cmpR
  split
  · omega
  · split
    · omega
    · rename_i h1 h2
      exfalso
      simp only [Bool.not_eq_true] at h1
      exact h2 (totS s t h1 h)
set_option maxRecDepth 100000 in
set_option maxHeartbeats 3200000 in
theorem ordLeast (wb : World) (Wh i r : Nat) (ns : List Nd) (L : List Sp) (v3 v6 : Value) (w : World) {s0 s1 s2 s4 s5 s7 s9 s10 s12 s13 s14 s16 s17 s18 s19 s20 s21 s22 s23 s24 s25 s26 s27 s28 s29 s30 s31 s32 s33 s34 s35 s36 s37 s38 s39 s40 s41 s42 s43 s44 s45 s46 s47 s48 s49 s50 s51 s52 s53 s54 s55 s56 s57 s58 s59 s60 s61 s62 s63 s64 s65 s66 s67 s68 s69 s70 s71 s72 s73 s74 s75 s76 s77 s78 s79 s80 s81 s82 s83 s84 s85 s86 s87 s88 s89 s90 s91 s92 s93 s94 s95 s96 s97 s98 s99 s100 s101 s102 s103 s104 s105 s106 s107 s108 s109 s110 s111 s112 s113 s114 s115 s116 s117 s118 s119 s120 s121 s122 s123 s124 s125 s126 s127 s128 s129 s130 s131 s132 s133 s134 s135 s136 s137 s138 s139 s140 s141 s142 : Value} (hi : i < ns.length) (hN : NodesAt wb v3 ns) (hL : SpotsAt wb v6 L) (hF : OrdFacts ns L) (hlen : ns.length ≤ 65536)
    (hr1 : ∀ s ∈ ns[i].next, s ∈ atsN ns → L.idxOf s < r) (hw : w.rowIs Wh tI ns.length (whenF ns L L.length)) (hfr : Fr [] wb w) (Q : Exit → Act → World → Prop)
    (hQ : ∀ (n2 n15 n123 n124 n125 n126 n127 n128 n129 n130 n131 n132 n133 n134 n135 n136 n137 n138 n139 n140 n141 n142 : Value) (w' : World), Fr [] w w' → Q .normal { tmps := #[s0, s1, n2, v3, s4, s5, v6, s7, .slice (some ⟨Wh, 0, none⟩) ns.length ns.length, s9, s10, .int .i64 (i : Int), s12, s13, s14, n15, s16, s17, s18, s19, s20, s21, s22, s23, s24, s25, s26, s27, s28, s29, s30, s31, s32, s33, s34, s35, s36, s37, s38, s39, s40, s41, s42, s43, s44, s45, s46, s47, s48, s49, s50, s51, s52, s53, s54, s55, s56, s57, s58, s59, s60, s61, s62, s63, s64, s65, s66, s67, s68, s69, s70, s71, s72, s73, s74, s75, s76, s77, s78, s79, s80, s81, s82, s83, s84, s85, s86, s87, s88, s89, s90, s91, s92, s93, s94, s95, s96, s97, s98, s99, s100, s101, s102, s103, s104, s105, s106, s107, s108, s109, s110, s111, s112, s113, s114, s115, s116, s117, s118, s119, s120, s121, s122, n123, n124, n125, n126, n127, n128, n129, n130, n131, n132, n133, n134, n135, n136, n137, n138, n139, n140, n141, n142], defers := [] } w') :
    (subC [1, 1, 1, 1, 1, 1, 1, 1, 1, 1, 0, 1, 0, 0, 1, 0, 0, 1, 1, 1, 1] (Try.f4.body.getD .skip)).wp Try.prog Q { tmps := #[s0, s1, s2, v3, s4, s5, v6, s7, .slice (some ⟨Wh, 0, none⟩) ns.length ns.length, s9, s10, .int .i64 (i : Int), s12, s13, s14, .int .i64 (r : Int), s16, s17, s18, s19, s20, s21, s22, s23, s24, s25, s26, s27, s28, s29, s30, s31, s32, s33, s34, s35, s36, s37, s38, s39, s40, s41, s42, s43, s44, s45, s46, s47, s48, s49, s50, s51, s52, s53, s54, s55, s56, s57, s58, s59, s60, s61, s62, s63, s64, s65, s66, s67, s68, s69, s70, s71, s72, s73, s74, s75, s76, s77, s78, s79, s80, s81, s82, s83, s84, s85, s86, s87, s88, s89, s90, s91, s92, s93, s94, s95, s96, s97, s98, s99, s100, s101, s102, s103, s104, s105, s106, s107, s108, s109, s110, s111, s112, s113, s114, s115, s116, s117, s118, s119, s120, s121, s122, s123, s124, s125, s126, s127, s128, s129, s130, s131, s132, s133, s134, s135, s136, s137, s138, s139, s140, s141, s142], defers := [] } w := by
  have HQ := Lib.hid hQ
  have HL := Lib.hid hL
  have HW := Lib.hid hw
  obtain ⟨b, off, sc, rfl, hb, c0, c1, _⟩ := hN.cell hi
  obtain ⟨_, _, e, hs1, hs2⟩ := hN.row.form
  cases e
  obtain ⟨lq, lc, rfl, hl1, hl2⟩ := hL.form
  have hi1 : (i : Int) < (ns.length : Int) := by omega
  have hwi := whenF_all hF hi
  have HLE : Hid (∀ m (hm : m < L.length), m < L.idxOf ns[i].at_ → r ≤ m → ltS ns[i].at_ L[m] = false) := fun m hm h1 h2 => hF.least i hi m hm h1 fun s hs hsa => Nat.lt_of_lt_of_le (hr1 s hs hsa) h2
  have hpl : L.idxOf ns[i].at_ < L.length := List.idxOf_lt_length_of_mem ((hF.mem _).2 (by simp only [atsN, List.mem_map]; exact ⟨_, List.getElem_mem hi, rfl⟩))
  have hll := hF.len
  have HI := Lib.hid hi
  have HC0 := Lib.hid c0
  have HC1 := Lib.hid c1
  clear hQ hL hw hN hF hr1 c0 c1
  generalize ns[i].at_ = at_ at *
  generalize hp : L.idxOf at_ = p at *
  clear hp
  have HWI := Lib.hid hwi
  have hp1 : p ≤ 65536 := by omega
  have HLL := Lib.hid hll
  clear hwi hll
  show (Code.block 6 _).wp _ _ _ _
  dsimp only
  go_wp2_with fail
  go_loopw [15] (fun k wr => ∃ m : Nat, k = .int .i64 (m : Int) ∧ r ≤ m ∧ Fr [] w wr) (fun k _ => p - (intOf k).toNat)
  case atStart => exact ⟨r, rfl, Nat.le_refl _, Fr.refl _ _⟩
  case round =>
    obtain ⟨m, rfl, hrm, hf⟩ := hrel
    have t0 := (row_fr HW.out hf (by simp)).cell HI.out
    rw [HWI.out] at t0
    have hsub : IntKind.i64.wrap (((p + 1 : Nat) : Int) - 1) = (p : Int) := by rw [IntKind.wrap_i64]; omega
    have hsub2 : ((p : Int) + 1 - 1) = (p : Int) := by omega
    have d0 := ce_call (hfr.trans0 hf) HC0.out
    have d1 := ce_call (hfr.trans0 hf) HC1.out
    by_cases hlt : m < p
    · have hmp : (m : Int) < (p : Int) := by omega
      have hmL : m < L.length := by omega
      have hmL1 : (m : Int) < (L.length : Int) := by omega
      obtain ⟨b1, o1, _, e, hb1, e0, e1⟩ := spots_cell (HL.out.fr0 (hfr.trans0 hf)) hmL
      cases e
      have hc := cmpR_ge (HLE.out m hmL hlt hrm)
      obtain ⟨c, hcc⟩ : ∃ c, cmpR L[m] at_ = c := ⟨_, rfl⟩
      have hcd : decide (0 < c) = false := decide_eq_false (by rw [← hcc]; omega)
      have HCC := Lib.hid hcc
      have HLT := Lib.hid hlt
      clear hcc hc hlt
      generalize L[m] = s at *
      go_wp2_with fail
      go_region_held3 (fun u => u.cell? ⟨b1, o1 + m * 2, none⟩ = some (.int .i64 s.1) ∧ u.cell? ⟨b1, o1 + m * 2 + 1, none⟩ = some (.int .i64 s.2) ∧ u.cell? ⟨b, off + i * 3, none⟩ = some (.int .i64 at_.1) ∧ u.cell? ⟨b, off + i * 3 + 1, none⟩ = some (.int .i64 at_.2))
        (first | exact ⟨ce_drew e0, ce_drew e1, ce_drew d0, ce_drew d1⟩ | exact ⟨ce_call hA (ce_drew e0), ce_call hA (ce_drew e1), ce_call hA (ce_drew d0), ce_call hA (ce_drew d1)⟩)
        ((go_at_call 11; refine (refCmp s at_ _).mono ?_; rw [HCC.out]; rintro e wA ⟨rfl, hA⟩))
      have HFA := Lib.hid (hf.trans0 (((Fr.refl [] wr).drew).transS hA))
      clear hA
      go_wp2
      go_roundw
      case rel => exact ⟨m + 1, by go_num, by omega, HFA.out⟩
      case measure => simp [intOf]; have := HLT.out; omega
    · have hmp : ¬ (m : Int) < (p : Int) := by omega
      go_wp2
      apply HQ.out
      exact hf
set_option maxRecDepth 100000 in
set_option maxHeartbeats 3200000 in
theorem ordCheck (wb : World) (Wh : Nat) (ns : List Nd) (L : List Sp) (v3 v6 : Value) (w : World) {s0 s1 s2 s4 s5 s7 s9 s10 s12 s13 s14 s15 s16 s17 s18 s19 s20 s21 s22 s23 s24 s25 s26 s27 s28 s29 s30 s31 s32 s33 s34 s35 s36 s37 s38 s39 s40 s41 s42 s43 s44 s45 s46 s47 s48 s49 s50 s51 s52 s53 s54 s55 s56 s57 s58 s59 s60 s61 s62 s63 s64 s65 s66 s67 s68 s69 s70 s71 s72 s73 s74 s75 s76 s77 s78 s79 s80 s81 s82 s83 s84 s85 s86 s87 s88 s89 s90 s91 s92 s93 s94 s95 s96 s97 s98 s99 s100 s101 s102 s103 s104 s105 s106 s107 s108 s109 s110 s111 s112 s113 s114 s115 s116 s117 s118 s119 s120 s121 s122 s123 s124 s125 s126 s127 s128 s129 s130 s131 s132 s133 s134 s135 s136 s137 s138 s139 s140 s141 s142 : Value} (hN : NodesAt wb v3 ns) (hL : SpotsAt wb v6 L) (hF : OrdFacts ns L) (hnd : (atsN ns).Nodup) (hlen : ns.length ≤ 65536)
    (hw : w.rowIs Wh tI ns.length (whenF ns L L.length)) (hfr : Fr [] wb w) (Q : Exit → Act → World → Prop)
    (hQ : ∀ (n2 n11 n12 n13 n14 n15 n82 n83 n84 n85 n86 n87 n88 n89 n90 n91 n92 n93 n94 n95 n96 n97 n98 n99 n100 n101 n102 n103 n104 n105 n106 n107 n108 n109 n110 n111 n112 n113 n114 n115 n116 n117 n118 n119 n120 n121 n122 n123 n124 n125 n126 n127 n128 n129 n130 n131 n132 n133 n134 n135 n136 n137 n138 n139 n140 n141 n142 : Value) (w' : World), Fr [] w w' → Q .normal { tmps := #[s0, s1, n2, v3, s4, s5, v6, s7, .slice (some ⟨Wh, 0, none⟩) ns.length ns.length, s9, s10, n11, n12, n13, n14, n15, s16, s17, s18, s19, s20, s21, s22, s23, s24, s25, s26, s27, s28, s29, s30, s31, s32, s33, s34, s35, s36, s37, s38, s39, s40, s41, s42, s43, s44, s45, s46, s47, s48, s49, s50, s51, s52, s53, s54, s55, s56, s57, s58, s59, s60, s61, s62, s63, s64, s65, s66, s67, s68, s69, s70, s71, s72, s73, s74, s75, s76, s77, s78, s79, s80, s81, n82, n83, n84, n85, n86, n87, n88, n89, n90, n91, n92, n93, n94, n95, n96, n97, n98, n99, n100, n101, n102, n103, n104, n105, n106, n107, n108, n109, n110, n111, n112, n113, n114, n115, n116, n117, n118, n119, n120, n121, n122, n123, n124, n125, n126, n127, n128, n129, n130, n131, n132, n133, n134, n135, n136, n137, n138, n139, n140, n141, n142], defers := [] } w') :
    (subC [1, 1, 1, 1, 1, 1, 1, 1, 1, 1, 0, 1] (Try.f4.body.getD .skip)).wp Try.prog Q { tmps := #[s0, s1, s2, v3, s4, s5, v6, s7, .slice (some ⟨Wh, 0, none⟩) ns.length ns.length, s9, s10, .int .i64 0, s12, s13, s14, s15, s16, s17, s18, s19, s20, s21, s22, s23, s24, s25, s26, s27, s28, s29, s30, s31, s32, s33, s34, s35, s36, s37, s38, s39, s40, s41, s42, s43, s44, s45, s46, s47, s48, s49, s50, s51, s52, s53, s54, s55, s56, s57, s58, s59, s60, s61, s62, s63, s64, s65, s66, s67, s68, s69, s70, s71, s72, s73, s74, s75, s76, s77, s78, s79, s80, s81, s82, s83, s84, s85, s86, s87, s88, s89, s90, s91, s92, s93, s94, s95, s96, s97, s98, s99, s100, s101, s102, s103, s104, s105, s106, s107, s108, s109, s110, s111, s112, s113, s114, s115, s116, s117, s118, s119, s120, s121, s122, s123, s124, s125, s126, s127, s128, s129, s130, s131, s132, s133, s134, s135, s136, s137, s138, s139, s140, s141, s142], defers := [] } w := by
  have HQ := Lib.hid hQ
  have HN := Lib.hid hN
  have HL := Lib.hid hL
  have HF := Lib.hid hF
  have HND := Lib.hid hnd
  have HW := Lib.hid hw
  obtain ⟨sq, sc, rfl, hs1, hs2⟩ := hN.row.form
  clear hQ hN hL hF hnd hw
  show (Code.block 2 _).wp _ _ _ _
  dsimp only
  go_wp2_with fail
  go_loopw [11] (fun i wr => ∃ k : Nat, i = .int .i64 (k : Int) ∧ k ≤ ns.length ∧ Fr [] w wr) (fun i _ => ns.length - (intOf i).toNat)
  case atStart => exact ⟨0, rfl, by omega, Fr.refl _ _⟩
  case round =>
    obtain ⟨i, rfl, hi, hf⟩ := hrel
    by_cases hlt : i < ns.length
    · have hi1 : (i : Int) < (ns.length : Int) := by omega
      have HLT := Lib.hid hlt
      go_upto_block 4 with fail
      refine ordReady Wh i ns L _ _ wr hlt (HN.out.fr0 (hfr.trans0 hf)) HF.out HND.out (row_fr HW.out hf (by simp)) _ ?_
      intros
      rename_i r w2 hr1 hr2 hf2
      have HR1 := Lib.hid hr1
      have hf12 := hf.trans0 hf2
      have hrw := row_fr HW.out hf12 (by simp)
      have HRW := Lib.hid hrw
      have t0 := hrw.cell hlt
      rw [whenF_all HF.out hlt] at t0
      generalize hp : L.idxOf ns[i].at_ = p at *
      have hrp : decide (((p + 1 : Nat) : Int) ≤ (r : Int)) = false := decide_eq_false (by omega)
      have hrp2 : decide ((p : Int) + 1 ≤ (r : Int)) = false := decide_eq_false (by omega)
      have hrp3 : decide (p + 1 ≤ r) = false := decide_eq_false (by omega)
      clear hr1 hrw hp
      dsimp only
      go_upto_block 6 with fail
      refine ordLeast wb Wh i r ns L _ _ w2 HLT.out HN.out HL.out HF.out hlen HR1.out HRW.out (hfr.trans0 hf12) _ ?_
      intros
      rename_i w3 hf3
      have HF3 := Lib.hid (hf12.trans0 hf3)
      clear hf3 t0 hrp hrp2 hrp3 hr2
      dsimp only
      go_wp2
      go_roundw
      case rel => exact ⟨i + 1, by go_num, by have := HLT.out; omega, HF3.out⟩
      case measure => simp [intOf]; have := HLT.out; omega
    · obtain rfl : i = ns.length := by omega
      go_wp2
      apply HQ.out
      exact hf
end Go.Proofs.Ytdlpbpohbkcafaa
