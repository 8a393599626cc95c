/-
  quadrillelaw21.CycleOrder: when each place comes; when a node is ready; none could have come earlier.
-/
import Derived.Test.YtdlpbpohbkcafaaCSound
import Derived.Test.YtdlpbpohbkcafaaCycO
import Derived.Test.YtdlpbpohbkcafaaCUtil2
import Derived.Test.YtdlpbpohbkcafaaCRingA
namespace Go.Proofs.Ytdlpbpohbkcafaa
open Go.RowKit Go.Shelf Go.Sort Go.Proofs

/-- What the row of turns holds, when the first i have come. -/
def whenF (ns : List Nd) (L : List Sp) (i j : Nat) : Value := .int .i64 (if (atsN ns).getD j (0, 0) ∈ L.take i then (L.idxOf ((atsN ns).getD j (0, 0)) + 1 : Nat) else 0 : Nat)
theorem atsN_getD {ns : List Nd} {i : Nat} (hi : i < ns.length) : (atsN ns).getD i (0, 0) = ns[i].at_ := by
  rw [List.getD_eq_getElem?_getD, List.getElem?_eq_getElem (by simpa [atsN] using hi)]
  simp [atsN]
theorem whenF_all {ns : List Nd} {L : List Sp} (hF : OrdFacts ns L) {j : Nat} (hj : j < ns.length) : whenF ns L L.length j = .int .i64 ((L.idxOf ns[j].at_ + 1 : Nat) : Int) := by
  unfold whenF
  rw [List.take_length, atsN_getD hj, if_pos ((hF.mem _).2 (by simp only [atsN, List.mem_map]; exact ⟨_, List.getElem_mem hj, rfl⟩))]
set_option maxRecDepth 100000 in
set_option maxHeartbeats 3200000 in
theorem ordMarks (wb : World) (Wh : Nat) (ns : List Nd) (L : List Sp) (v3 v6 : Value) (w : World) {s0 s1 s2 s4 s5 s7 s10 s11 s12 s13 s14 s15 s16 s17 s18 s19 s20 s21 s22 s23 s24 s25 s26 s27 s28 s29 s30 s31 s32 s33 s34 s35 s36 s37 s38 s39 s40 s41 s42 s43 s44 s45 s46 s47 s48 s49 s50 s51 s52 s53 s54 s55 s56 s57 s58 s59 s60 s61 s62 s63 s64 s65 s66 s67 s68 s69 s70 s71 s72 s73 s74 s75 s76 s77 s78 s79 s80 s81 s82 s83 s84 s85 s86 s87 s88 s89 s90 s91 s92 s93 s94 s95 s96 s97 s98 s99 s100 s101 s102 s103 s104 s105 s106 s107 s108 s109 s110 s111 s112 s113 s114 s115 s116 s117 s118 s119 s120 s121 s122 s123 s124 s125 s126 s127 s128 s129 s130 s131 s132 s133 s134 s135 s136 s137 s138 s139 s140 s141 s142 : Value} (hN : NodesAt wb v3 ns) (hL : SpotsAt wb v6 L) (hF : OrdFacts ns L) (hnd : (atsN ns).Nodup) (hWh : wb.heap.size ≤ Wh)
    (hw : w.rowIs Wh tI ns.length fun _ => .int .i64 0) (hfr : Fr [] wb w) (Q : Exit → Act → World → Prop)
    (hQ : ∀ (n2 n9 n10 n56 n57 n58 n59 n60 n61 n62 n63 n64 n65 n66 n67 n68 n69 n70 n71 n72 n73 n74 n75 n76 n77 n78 n79 n80 n81 : Value) (w' : World), w'.rowIs Wh tI ns.length (whenF ns L L.length) → Fr [] wb w' → Q .normal { tmps := #[s0, s1, n2, v3, s4, s5, v6, s7, .slice (some ⟨Wh, 0, none⟩) ns.length ns.length, n9, n10, s11, s12, s13, s14, s15, s16, s17, s18, s19, s20, s21, s22, s23, s24, s25, s26, s27, s28, s29, s30, s31, s32, s33, s34, s35, s36, s37, s38, s39, s40, s41, s42, s43, s44, s45, s46, s47, s48, s49, s50, s51, s52, s53, s54, s55, n56, n57, n58, n59, n60, n61, n62, n63, n64, n65, n66, n67, n68, n69, n70, n71, n72, n73, n74, n75, n76, n77, n78, n79, n80, n81, s82, s83, s84, s85, s86, s87, s88, s89, s90, s91, s92, s93, s94, s95, s96, s97, s98, s99, s100, s101, s102, s103, s104, s105, s106, s107, s108, s109, s110, s111, s112, s113, s114, s115, s116, s117, s118, s119, s120, s121, s122, s123, s124, s125, s126, s127, s128, s129, s130, s131, s132, s133, s134, s135, s136, s137, s138, s139, s140, s141, s142], defers := [] } w') :
    (subC [1, 1, 1, 1, 1, 1, 1, 1, 1, 0, 1] (Try.f4.body.getD .skip)).wp Try.prog Q { tmps := #[s0, s1, s2, v3, s4, s5, v6, s7, .slice (some ⟨Wh, 0, none⟩) ns.length ns.length, .int .i64 0, s10, s11, s12, s13, s14, s15, s16, s17, s18, s19, s20, s21, s22, s23, s24, s25, s26, s27, s28, s29, s30, s31, s32, s33, s34, s35, s36, s37, s38, s39, s40, s41, s42, s43, s44, s45, s46, s47, s48, s49, s50, s51, s52, s53, s54, s55, s56, s57, s58, s59, s60, s61, s62, s63, s64, s65, s66, s67, s68, s69, s70, s71, s72, s73, s74, s75, s76, s77, s78, s79, s80, s81, s82, s83, s84, s85, s86, s87, s88, s89, s90, s91, s92, s93, s94, s95, s96, s97, s98, s99, s100, s101, s102, s103, s104, s105, s106, s107, s108, s109, s110, s111, s112, s113, s114, s115, s116, s117, s118, s119, s120, s121, s122, s123, s124, s125, s126, s127, s128, s129, s130, s131, s132, s133, s134, s135, s136, s137, s138, s139, s140, s141, s142], defers := [] } w := by
  have HQ := Lib.hid hQ
  have HN := Lib.hid hN
  have HL := Lib.hid hL
  have HF := Lib.hid hF
  have HND := Lib.hid hnd
  obtain ⟨sq, sc, rfl, hs1, hs2⟩ := hN.row.form
  obtain ⟨lq, lc, rfl, hl1, hl2⟩ := hL.form
  have HROW : Hid (w.rowIs Wh tI ns.length (whenF ns L 0)) := hw.congr fun j _ => by simp [whenF]
  have hll : L.length = ns.length := hF.len
  have HLL := Lib.hid hll
  have hlm : L.length ≤ 9223372036854775807 := by omega
  clear hQ hN hL hF hnd hw hll
  show (Code.block 0 _).wp _ _ _ _
  dsimp only
  go_wp2_with fail
  go_loopw [9] (fun i wr => ∃ k : Nat, i = .int .i64 (k : Int) ∧ k ≤ L.length ∧ wr.rowIs Wh tI ns.length (whenF ns L k) ∧ Fr [] wb wr) (fun i _ => L.length - (intOf i).toNat)
  case atStart => exact ⟨0, rfl, by omega, HROW.out, hfr⟩
  case round =>
    obtain ⟨k, rfl, hk, hrow, hf⟩ := hrel
    have HRW := Lib.hid hrow
    clear hrow
    by_cases hlt : k < L.length
    · have hk1 : (k : Int) < (L.length : Int) := by omega
      obtain ⟨b, off, _, e, hb, d0, d1⟩ := spots_cell (HL.out.fr0 hf) hlt
      cases e
      have hin := (HF.out.mem L[k]).1 (List.getElem_mem hlt)
      obtain ⟨j, hj⟩ : ∃ j, (atsN ns).idxOf L[k] = j := ⟨_, rfl⟩
      have hfi : findI (atsN ns) L[k] = (j : Int) := by unfold findI; rw [if_pos hin, hj]
      have hjl := List.idxOf_lt_length_of_mem hin
      have hjs := List.getElem_idxOf hjl
      simp only [hj] at hjs hjl
      have hjn : j < ns.length := by simpa [atsN] using hjl
      have hj1 : (j : Int) < (ns.length : Int) := by omega
      rw [atsN_get] at hjs
      have hik := idx_get HF.out.nd hlt
      have hnt : L[k] ∉ L.take k := fun hm => by
        obtain ⟨i, hi, e⟩ := List.mem_take_iff_getElem.1 hm
        have := (List.getElem_inj HF.out.nd).1 e
        omega
      have t0 := HRW.out.cell hjn
      have ht0 : whenF ns L k j = .int .i64 0 := by
        unfold whenF
        rw [atsN_getD hjn, hjs, if_neg hnt]
        rfl
      rw [ht0] at t0
      have HSET : Hid (∀ i, i < ns.length → (if i = j then (Value.int .i64 ((k : Int) + 1)) else whenF ns L k i) = whenF ns L (k + 1) i) := fun i hi => by
        have hm : (atsN ns).getD i (0, 0) ∈ L.take (k + 1) ↔ (atsN ns).getD i (0, 0) ∈ L.take k ∨ (atsN ns).getD i (0, 0) = L[k] := by rw [List.take_succ_eq_append_getElem hlt, List.mem_append, List.mem_singleton]
        unfold whenF
        by_cases e : i = j
        · subst e
          rw [if_pos rfl, if_pos (hm.2 (.inr (by rw [atsN_getD hi, hjs]))), atsN_getD hi, hjs, hik]
          rfl
        · have hne : ¬ (atsN ns).getD i (0, 0) = L[k] := fun h => by
            rw [atsN_getD hi, ← hjs] at h
            have h2 : (atsN ns)[i]'(by simpa [atsN] using hi) = (atsN ns)[j]'hjl := by rw [atsN_get, atsN_get]; exact h
            exact e ((List.getElem_inj HND.out).1 h2)
          rw [if_neg e]
          by_cases h : (atsN ns).getD i (0, 0) ∈ L.take k
          · rw [if_pos h, if_pos (hm.2 (.inl h))]
          · rw [if_neg h, if_neg (fun h2 => (hm.1 h2).elim h hne)]
      clear hin hj hjl hjs hik hnt ht0
      generalize L[k] = s at *
      have t1 := HRW.out.frozen j
      have t2 := HRW.out.lt
      go_wp2_with fail
      refine (findC _ ns s _ (HN.out.fr0 hf).row).mono ?_
      rw [hfi]
      rintro e w3 ⟨rfl, h3⟩
      have hf3 := hf.trans0 h3
      have t0 := ce_call h3 t0
      have hR3 := row_fr HRW.out h3 (by simp)
      have t1 := hR3.frozen j
      have t2 := hR3.lt
      have hjneg : decide ((j : Int) < 0) = false := decide_eq_false (by omega)
      have HF3 : Hid (Fr [] wb (w3.setCell ⟨Wh, j, none⟩ (.int .i64 ((k : Int) + 1)))) := hf3.setCell (.inr hWh) _
      have HR4 : Hid ((w3.setCell ⟨Wh, j, none⟩ (.int .i64 ((k : Int) + 1))).rowIs Wh tI ns.length (whenF ns L (k + 1))) := (hR3.set j _).congr HSET.out
      clear h3 hfi hR3 HSET d0 d1
      go_wp2
      go_roundw
      case rel => exact ⟨k + 1, by go_num, by omega, HR4.out, HF3.out⟩
      case measure => simp [intOf]; omega
    · obtain rfl : k = L.length := by omega
      go_wp2
      apply HQ.out
      · exact HRW.out
      · exact hf
set_option maxRecDepth 100000 in
set_option maxHeartbeats 3200000 in
theorem ordReady (Wh i : Nat) (ns : List Nd) (L : List Sp) (v3 v6 : Value) (w : World) {s0 s1 s2 s4 s5 s7 s9 s10 s14 s15 s16 s17 s18 s19 s20 s21 s22 s23 s24 s25 s26 s27 s28 s29 s30 s31 s32 s33 s34 s35 s36 s37 s38 s39 s40 s41 s42 s43 s44 s45 s46 s47 s48 s49 s50 s51 s52 s53 s54 s55 s56 s57 s58 s59 s60 s61 s62 s63 s64 s65 s66 s67 s68 s69 s70 s71 s72 s73 s74 s75 s76 s77 s78 s79 s80 s81 s82 s83 s84 s85 s86 s87 s88 s89 s90 s91 s92 s93 s94 s95 s96 s97 s98 s99 s100 s101 s102 s103 s104 s105 s106 s107 s108 s109 s110 s111 s112 s113 s114 s115 s116 s117 s118 s119 s120 s121 s122 s123 s124 s125 s126 s127 s128 s129 s130 s131 s132 s133 s134 s135 s136 s137 s138 s139 s140 s141 s142 : Value} (hi : i < ns.length) (hN : NodesAt w v3 ns) (hF : OrdFacts ns L) (hnd : (atsN ns).Nodup)
    (hw : w.rowIs Wh tI ns.length (whenF ns L L.length)) (Q : Exit → Act → World → Prop)
    (hQ : ∀ (n2 n13 n14 n88 n89 n90 n91 n92 n93 n94 n95 n96 n97 n98 n99 n100 n101 n102 n103 n104 n105 n106 n107 n108 n109 n110 n111 n112 n113 n114 n115 : Value) (r : Nat) (w' : World), (∀ s ∈ ns[i].next, s ∈ atsN ns → L.idxOf s < r) → r ≤ L.idxOf ns[i].at_ → Fr [] w w' → Q .normal { tmps := #[s0, s1, n2, v3, s4, s5, v6, s7, .slice (some ⟨Wh, 0, none⟩) ns.length ns.length, s9, s10, .int .i64 (i : Int), .int .i64 (r : Int), n13, n14, s15, s16, s17, s18, s19, s20, s21, s22, s23, s24, s25, s26, s27, s28, s29, s30, s31, s32, s33, s34, s35, s36, s37, s38, s39, s40, s41, s42, s43, s44, s45, s46, s47, s48, s49, s50, s51, s52, s53, s54, s55, s56, s57, s58, s59, s60, s61, s62, s63, s64, s65, s66, s67, s68, s69, s70, s71, s72, s73, s74, s75, s76, s77, s78, s79, s80, s81, s82, s83, s84, s85, s86, s87, n88, n89, n90, n91, n92, n93, n94, n95, n96, n97, n98, n99, n100, n101, n102, n103, n104, n105, n106, n107, n108, n109, n110, n111, n112, n113, n114, n115, s116, s117, s118, s119, s120, s121, s122, s123, s124, s125, s126, s127, s128, s129, s130, s131, s132, s133, s134, s135, s136, s137, s138, s139, s140, s141, s142], defers := [] } w') :
    (subC [1, 1, 1, 1, 1, 1, 1, 1, 1, 1, 0, 1, 0, 0, 1, 0, 0, 1, 0, 1] (Try.f4.body.getD .skip)).wp Try.prog Q { tmps := #[s0, s1, s2, v3, s4, s5, v6, s7, .slice (some ⟨Wh, 0, none⟩) ns.length ns.length, s9, s10, .int .i64 (i : Int), .int .i64 0, .int .i64 0, s14, s15, s16, s17, s18, s19, s20, s21, s22, s23, s24, s25, s26, s27, s28, s29, s30, s31, s32, s33, s34, s35, s36, s37, s38, s39, s40, s41, s42, s43, s44, s45, s46, s47, s48, s49, s50, s51, s52, s53, s54, s55, s56, s57, s58, s59, s60, s61, s62, s63, s64, s65, s66, s67, s68, s69, s70, s71, s72, s73, s74, s75, s76, s77, s78, s79, s80, s81, s82, s83, s84, s85, s86, s87, s88, s89, s90, s91, s92, s93, s94, s95, s96, s97, s98, s99, s100, s101, s102, s103, s104, s105, s106, s107, s108, s109, s110, s111, s112, s113, s114, s115, s116, s117, s118, s119, s120, s121, s122, s123, s124, s125, s126, s127, s128, s129, s130, s131, s132, s133, s134, s135, s136, s137, s138, s139, s140, s141, s142], defers := [] } w := by
  have HQ := Lib.hid hQ
  have HN := Lib.hid hN
  have HF := Lib.hid hF
  have HND := Lib.hid hnd
  have HW := Lib.hid hw
  obtain ⟨b, off, sc, rfl, hb, _, _, c2⟩ := hN.cell hi
  obtain ⟨_, _, e, hs1, hs2⟩ := hN.row.form
  cases e
  have hnx0 := hN.nx ns[i] (List.getElem_mem hi)
  have HAH : Hid (∀ s ∈ ns[i].next, s ∈ atsN ns → L.idxOf s < L.idxOf ns[i].at_) := hF.ahead i hi
  have hi1 : (i : Int) < (ns.length : Int) := by omega
  clear hQ hN hF hnd hw
  obtain ⟨at_, hat⟩ : ∃ x, ns[i].at_ = x := ⟨_, rfl⟩
  obtain ⟨next, hnx⟩ : ∃ x, ns[i].next = x := ⟨_, rfl⟩
  obtain ⟨na, hna⟩ : ∃ x, ns[i].na = x := ⟨_, rfl⟩
  obtain ⟨nc, hnc⟩ : ∃ x, ns[i].nc = x := ⟨_, rfl⟩
  have HAH2 : Hid (∀ s ∈ next, s ∈ atsN ns → L.idxOf s < L.idxOf at_) := by
    rw [← hat, ← hnx]
    exact HAH.out
  rw [hnx, hna, hnc] at c2 hnx0
  have HNX := Lib.hid hnx0
  have HC2 := Lib.hid c2
  have HAT := Lib.hid hat
  have HNE := Lib.hid hnx
  obtain ⟨_, _, e, hx1, hx2⟩ := HNX.out.form
  cases e
  clear hat hnx hna hnc HAH c2 hnx0
  show (Code.block 4 _).wp _ _ _ _
  dsimp only
  go_wp2_with fail
  go_loopw [12, 13] (fun rv k wr => ∃ q r : Nat, k = .int .i64 (q : Int) ∧ rv = .int .i64 (r : Int) ∧ q ≤ next.length ∧ (∀ s ∈ next.take q, s ∈ atsN ns → L.idxOf s < r) ∧ r ≤ L.idxOf at_ ∧ Fr [] w wr) (fun _ k _ => next.length - (intOf k).toNat)
  case atStart => exact ⟨0, 0, rfl, rfl, by omega, by simp, by omega, Fr.refl _ _⟩
  case round =>
    obtain ⟨q, r, rfl, rfl, hq, hr1, hr2, hf⟩ := hrel
    have HR1 := Lib.hid hr1
    have c2 := ce_call hf HC2.out
    have hbl := Nat.lt_of_lt_of_le hb hf.size
    clear hr1
    by_cases hql : q < next.length
    · have hq1 : (q : Int) < (next.length : Int) := by omega
      obtain ⟨b1, o1, _, e, hb1, d0, d1⟩ := spots_cell (HNX.out.fr0 hf) hql
      cases e
      have HTK := Lib.hid (List.take_succ_eq_append_getElem hql)
      have HAQ : Hid (next[q] ∈ atsN ns → L.idxOf next[q] < L.idxOf at_) := HAH2.out _ (List.getElem_mem hql)
      generalize next[q] = s at *
      by_cases hin : s ∈ atsN ns
      · obtain ⟨j, hj⟩ : ∃ j, (atsN ns).idxOf s = j := ⟨_, rfl⟩
        have hfi : findI (atsN ns) s = (j : Int) := by unfold findI; rw [if_pos hin, hj]
        have hjl := List.idxOf_lt_length_of_mem hin
        have hjs := List.getElem_idxOf hjl
        simp only [hj] at hjs hjl
        have hjn : j < ns.length := by simpa [atsN] using hjl
        have hj1 : (j : Int) < (ns.length : Int) := by omega
        rw [atsN_get] at hjs
        have t0 := (row_fr HW.out hf (by simp)).cell hjn
        rw [whenF_all HF.out hjn, hjs] at t0
        have hlt2 := HAQ.out hin
        have HNEW : Hid (∀ u ∈ next.take (q + 1), u ∈ atsN ns → L.idxOf u < max r (L.idxOf s + 1)) := fun u hu hua => by
          rw [HTK.out] at hu
          rcases List.mem_append.1 hu with hu | hu
          · have := HR1.out u hu hua
            omega
          · rw [List.mem_singleton] at hu
            subst hu
            omega
        clear hin hj hjl hjs HAQ
        generalize L.idxOf s = x at *
        have hmx : max (r : Int) ((x : Int) + 1) = ((max r (x + 1) : Nat) : Int) := by omega
        have hmx2 : max (r : Int) ((x + 1 : Nat) : Int) = ((max r (x + 1) : Nat) : Int) := by omega
        go_wp2_with fail
        refine (findC _ ns s _ (HN.out.fr0 hf).row).mono ?_
        rw [hfi]
        rintro e w3 ⟨rfl, h3⟩
        have hf3 := hf.trans0 h3
        have t0 := ce_call h3 t0
        have hjp : decide ((0 : Int) ≤ (j : Int)) = true := decide_eq_true (by omega)
        clear h3 hfi d0 d1 c2
        go_wp2
        go_roundw
        case rel => exact ⟨q + 1, max r (x + 1), by go_num, by first | rw [hmx] | rw [hmx2] | rfl, by omega, HNEW.out, by omega, hf3⟩
        case measure => simp [intOf]; omega
      · have hfi : findI (atsN ns) s = -1 := by unfold findI; rw [if_neg hin]
        have HNEW : Hid (∀ u ∈ next.take (q + 1), u ∈ atsN ns → L.idxOf u < r) := fun u hu hua => by
          rw [HTK.out] at hu
          rcases List.mem_append.1 hu with hu | hu
          · exact HR1.out u hu hua
          · rw [List.mem_singleton] at hu
            subst hu
            exact absurd hua hin
        clear hin HAQ
        go_wp2_with fail
        refine (findC _ ns s _ (HN.out.fr0 hf).row).mono ?_
        rw [hfi]
        rintro e w3 ⟨rfl, h3⟩
        have hf3 := hf.trans0 h3
        clear h3 hfi d0 d1 c2
        go_wp2
        go_roundw
        case rel => exact ⟨q + 1, r, by go_num, rfl, by omega, HNEW.out, hr2, hf3⟩
        case measure => simp [intOf]; omega
    · obtain rfl : q = next.length := by omega
      rw [List.take_length] at HR1
      go_wp2
      apply HQ.out
      · rw [HNE.out]
        exact HR1.out
      · rw [HAT.out]
        exact hr2
      · exact hf
end Go.Proofs.Ytdlpbpohbkcafaa
