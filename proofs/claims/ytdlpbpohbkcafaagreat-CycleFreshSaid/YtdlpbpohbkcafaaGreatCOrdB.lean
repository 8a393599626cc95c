/-
  cycle.Order: one row of those that wait.
  cycle.Order: the next one.
  cycle.Order.
-/
import Derived.Test.YtdlpbpohbkcafaaGreatCLeadM
import Derived.Test.YtdlpbpohbkcafaaGreatCRingT
import Derived.Deep.LoopGhost
import Derived.Deep.RegionLaw
import Derived.Deep.AppendLies
import Derived.Deep.CutBlock
namespace Go.Proofs.YtdlpbpohbkcafaaGreat
section
section
open Go.RowKit Go.Shelf Go.Sort Go.Proofs

def bkK (g : Dg) (k u : Nat) : List Nat := (List.range k).filter fun v => decide (u ∈ nxs g v)
theorem bkK_succ (g : Dg) (k u : Nat) : bkK g (k + 1) u = bkK g k u ++ if u ∈ nxs g k then [k] else [] := by
  unfold bkK
  rw [List.range_succ, List.filter_append]
  congr 1
  by_cases h : u ∈ nxs g k
  · simp [h]
  · simp [h]
theorem startW_succ (g : Dg) (k : Nat) : (startO g (k + 1)).waits = upd (startO g k).waits k (nxs g k).length := by
  funext v
  simp only [startO, upd]
  by_cases e : v = k
  · rw [if_pos (by omega), if_pos e, e]
  · rw [if_neg e]
    by_cases h : v < k
    · rw [if_pos (by omega), if_pos h]
    · rw [if_neg (by omega), if_neg h]
theorem startH_succ (g : Dg) (k : Nat) : (startO g (k + 1)).heap = if nxs g k = [] then pushL (startO g k).heap k else (startO g k).heap := by
  simp only [startO, List.range_succ, List.foldl_append, List.foldl_cons, List.foldl_nil]
theorem OAt.congr {Wt Bk R B n : Nat} {waits : Nat → Nat} {heap : List Nat} {rows : Nat → Value} {bl bl2 : Nat → List Nat} {hv : Value} {w : World} (h : OAt Wt Bk R B n waits heap rows bl hv w) (e : ∀ u, u < n → bl2 u = bl u) : OAt Wt Bk R B n waits heap rows bl2 hv w :=
  ⟨h.wt, h.bk, fun u hu => by rw [e u hu]; exact h.row u hu, h.sep, h.heap, h.hsep⟩

set_option maxRecDepth 100000 in
set_option maxHeartbeats 3200000 in
theorem orderRow (w1 : World) (g Wt Bk R B k : Nat) (spots : List Sp) (G : Dg) (sv nv hv : Value) (nl nc bn on : Nat) (rows : Nat → Value) (wr : World) {s0 s1 s2 s3 s5 s10 s11 s12 s13 s14 s15 s16 s17 s18 s19 s20 s21 s22 s23 s24 s25 s26 s27 s28 s29 s30 s31 s32 s33 s34 s35 s36 s37 s38 s39 s41 s43 s44 s45 s46 s47 s48 s49 s50 s51 s52 s53 s54 s55 s56 s57 s58 s59 s60 s61 s62 s63 s64 s65 s66 s67 s68 s69 s70 s71 s72 s73 s74 s75 s76 s77 s78 s79 s80 s81 s82 s83 s84 s85 s86 s87 s88 s89 s90 s91 s92 s93 s94 s95 s96 s97 s98 s99 s100 s101 s102 s103 s104 s105 s106 s107 s108 s109 s110 s111 s112 s113 s114 s115 s116 s117 s118 s119 s120 s121 s122 s123 s124 s125 s126 s127 : Value} (K : OBlk Wt Bk R B) (hI : w1.heap.size ≤ Wt ∧ w1.heap.size ≤ Bk ∧ w1.heap.size ≤ B) (hGR : GrAt w1 g spots G sv nv nl nc bn on) (hOKG : OkG G) (hN : OkN G) (hlt : k < spots.length)
    (hA : OAt Wt Bk R B spots.length (startO G k).waits (startO G k).heap rows (bkK G k) hv wr) (hF : Fr [] w1 wr) (hS : B ≤ wr.heap.size) (Q : Exit → Act → World → Prop)
    (hQ : ∀ (n10 n11 n13 n44 n45 n46 n47 n48 n49 n50 n51 n52 n53 n54 n55 n56 n57 n58 n59 n60 n61 n62 n63 n64 n65 n66 n67 n68 n69 n70 n71 n72 n73 n74 n75 n76 hv' : Value) (rows' : Nat → Value) (w' : World), OAt Wt Bk R B spots.length (startO G (k + 1)).waits (startO G (k + 1)).heap rows' (bkK G (k + 1)) hv' w' → Fr [] w1 w' → B ≤ w'.heap.size → Q .normal { tmps := #[s0, s1, s2, s3, .pointer (some ⟨g, 0, none⟩), s5, .int .i64 (spots.length : Int), .slice (some ⟨Wt, 0, none⟩) spots.length spots.length, .slice (some ⟨Bk, 0, none⟩) spots.length spots.length, .pointer (some ⟨R, 0, none⟩), n10, n11, s12, n13, s14, s15, s16, s17, s18, s19, s20, s21, s22, s23, s24, s25, s26, s27, s28, s29, s30, s31, s32, s33, s34, s35, s36, s37, s38, s39, nv, s41, .int .i64 (k : Int), s43, n44, n45, n46, n47, n48, n49, n50, n51, n52, n53, n54, n55, n56, n57, n58, n59, n60, n61, n62, n63, n64, n65, n66, n67, n68, n69, n70, n71, n72, n73, n74, n75, n76, s77, s78, s79, s80, s81, s82, s83, s84, s85, s86, s87, s88, s89, s90, s91, s92, s93, s94, s95, s96, s97, s98, s99, s100, s101, s102, s103, s104, s105, s106, s107, s108, s109, s110, s111, s112, s113, s114, s115, s116, s117, s118, s119, s120, s121, s122, s123, s124, s125, s126, s127], defers := [] } w') :
    (subC [1, 1, 1, 1, 1, 1, 0, 1, 0, 0, 1, 1, 0] (Tryz.f11.body.getD .skip)).wp Tryz.prog Q { tmps := #[s0, s1, s2, s3, .pointer (some ⟨g, 0, none⟩), s5, .int .i64 (spots.length : Int), .slice (some ⟨Wt, 0, none⟩) spots.length spots.length, .slice (some ⟨Bk, 0, none⟩) spots.length spots.length, .pointer (some ⟨R, 0, none⟩), s10, s11, s12, s13, s14, s15, s16, s17, s18, s19, s20, s21, s22, s23, s24, s25, s26, s27, s28, s29, s30, s31, s32, s33, s34, s35, s36, s37, s38, s39, nv, s41, .int .i64 (k : Int), s43, s44, s45, s46, s47, s48, s49, s50, s51, s52, s53, s54, s55, s56, s57, s58, s59, s60, s61, s62, s63, s64, s65, s66, s67, s68, s69, s70, s71, s72, s73, s74, s75, s76, s77, s78, s79, s80, s81, s82, s83, s84, s85, s86, s87, s88, s89, s90, s91, s92, s93, s94, s95, s96, s97, s98, s99, s100, s101, s102, s103, s104, s105, s106, s107, s108, s109, s110, s111, s112, s113, s114, s115, s116, s117, s118, s119, s120, s121, s122, s123, s124, s125, s126, s127], defers := [] } wr := by
  have HQ := Lib.hid hQ
  obtain ⟨rv, hr1, hr2, hr3⟩ := hGR.row k hlt
  obtain ⟨lq, lc, rfl, hl1, hl2⟩ := hr2.form
  have hG1 := hGR.len
  have hnl := hGR.nl
  have hnv := hGR.nv
  subst hnv
  subst hnl
  have hsl := hGR.lt
  have HL := Lib.hid hr2
  have hcr := ce_call hF hr1
  have hk1 : (k : Int) < (spots.length : Int) := by omega
  have HM : Hid (∀ u ∈ nxs G k, u < spots.length) := fun u hu => by rw [← hG1]; exact hOKG.nx hu
  have HND := Lib.hid (hN k)
  have hA1 := hA.putW K k (nxs G k).length
  have HW := Lib.hid (startW_succ G k)
  have HH := Lib.hid (startH_succ G k)
  have HBK := Lib.hid (bkK_succ G k)
  have hhl : (startO G k).heap.length ≤ 65536 := by
    have := nodup_lt (startH_nodup G k) (fun x hx => ((startH_mem G k x).1 hx).1)
    omega
  have wc0 := hA.wt.cell hlt
  have wf0 := hA.wt.frozen k
  have wl0 := hA.wt.lt
  have HA1 := Lib.hid hA1
  clear hA hA1 hQ hr1 hr2 hN
  generalize (startO G k).heap = hp at *
  generalize (startO G k).waits = wt at *
  generalize hnx : nxs G k = l at *
  show (Code.block 1 _).wp _ _ _ _
  dsimp only
  go_upto_block 2 with fail
  have hF1 : Fr [] w1 (wr.setCell ⟨Wt, k, none⟩ (.int .i64 (l.length : Int))) := hF.setCell (.inr hI.1) _
  have hS1 : B ≤ (wr.setCell ⟨Wt, k, none⟩ (.int .i64 (l.length : Int))).heap.size := by simpa using hS
  clear wc0 wf0 wl0 hF hS hcr
  generalize wr.setCell ⟨Wt, k, none⟩ (.int .i64 (l.length : Int)) = W1 at *
  have HGR := Lib.hid hGR
  clear hGR
  have hl3 : l.length ≤ 65536 := hr3
  clear hr3
  obtain ⟨i0, hi0, hz0, hz1, hz2⟩ := info_parts infoInt
  go_cut [13] from 54 to 68 (fun _ wx => ∃ rows', OAt Wt Bk R B spots.length (upd wt k l.length) hp rows' (bkK G (k + 1)) hv wx ∧ Fr [] w1 wx ∧ B ≤ wx.heap.size)
  case first =>
    go_wp2_with fail
    go_loopw [13, 54] (fun _ i wx => ∃ (j : Nat) (rows' : Nat → Value), i = .int .i64 (j : Int) ∧ j ≤ l.length ∧ OAt Wt Bk R B spots.length (upd wt k l.length) hp rows' (fun u => bkK G k u ++ if u ∈ l.take j then [k] else []) hv wx ∧ Fr [] w1 wx ∧ B ≤ wx.heap.size) (fun _ i _ => l.length - (intOf i).toNat)
    case atStart => exact ⟨0, rows, rfl, by omega, HA1.out.congr (fun u _ => by simp), hF1, hS1⟩
    case round =>
      obtain ⟨j, rows', rfl, hj, hAj, hFj, hSj⟩ := hrel
      by_cases hjl : j < l.length
      · obtain ⟨b, off, _, e, hb, c0⟩ := nums_cell (HL.out.fr0 hFj) hjl
        cases e
        have hj1 : (j : Int) < (l.length : Int) := by omega
        have hu := HM.out l[j] (List.getElem_mem hjl)
        have hnt : l[j] ∉ l.take j := fun hm => by
          obtain ⟨i, hi, e⟩ := List.mem_take_iff_getElem.1 hm
          have := (List.getElem_inj HND.out).1 e
          omega
        have HTK := Lib.hid (List.take_succ_eq_append_getElem hjl)
        generalize l[j] = u at *
        have hu1 : (u : Int) < (spots.length : Int) := by omega
        have hbl : (bkK G k u ++ if u ∈ l.take j then [k] else []) = bkK G k u := by simp [hnt]
        have hown := hAj.row u hu
        simp only [hbl] at hown
        have hbkl : (bkK G k u).length ≤ 65536 := by
          unfold bkK
          refine Nat.le_trans (List.length_filter_le _ _) ?_
          rw [List.length_range]
          omega
        obtain ⟨q1, n1, p1, hru⟩ := own_form hown
        have cB := hAj.bk.cell hu
        have lB := hAj.bk.lt
        have HOWN := Lib.hid hown
        have HRU := Lib.hid hru
        rw [hru] at cB
        rw [hru] at hown
        have hown2 := hown.alloc (.cells #[.int .i64 (k : Int)] tI)
        have HAJ := Lib.hid hAj
        have HNT := Lib.hid hnt
        have HBL := Lib.hid hbl
        clear hAj hru hnt hbl hown
        go_wp2_with (at_builtin; refine wpList_append_lies _ rfl _ _ 47 rfl B tI i0 _ 1 8 Tryz.underlying47 hi0 hz0 hz1 hz2 rfl (by decide) _ _ _ rfl hown2 ⟨wr.heap.size, 0, none⟩ 1 1 (nC k) rfl rfl (by have := news_of wr (nC k) tI; simpa using this) (one_mem rfl) (by omega) (by unfold maxLen; omega) (by omega) (by simp; omega) (wr.heap.size + 1) (by simp) ?_; intro gg cap w7 hown7 hgrow hat hlt7; have hB7 := row_fr (row_fr HAJ.out.bk ((Fr.refl [] wr).alloc (.cells #[.int .i64 (k : Int)] tI)) (by simp)) (fr_grown hgrow) (low_not hown2 K.b); have hB7c := hB7.cell hu; have hB7f := hB7.frozen u; have hB7l := hB7.lt)
        have hfa : Fr [] wr (wr.alloc (.cells #[.int .i64 (k : Int)] tI)) := (Fr.refl [] wr).alloc _
        have hgr2 : (wr.alloc (.cells #[.int .i64 (k : Int)] tI)).grownBy w7 (rows' u).ownBlock := by rw [HRU.out]; exact hgrow
        have h8 := (HAJ.out.fr0 hfa).backed K hu (x := k) (v2 := .slice (some ⟨gg, 0, none⟩) ((bkK G k u).length + 1) cap) hgr2 (by
          rw [HBL.out]
          exact hown7) (fun k' hk' => by
            cases hk'
            rcases hat with h | h
            · exact .inl (by rw [HRU.out]; exact h)
            · exact .inr (by simp; omega))
        have h9 := h8.congr (bl2 := fun a => bkK G k a ++ if a ∈ l.take (j + 1) then [k] else []) (fun a _ => by
          simp only [HTK.out, List.mem_append, List.mem_singleton]
          by_cases e : a = u
          · subst e
            simp [upd_same, HNT.out]
          · simp [upd_other e, e])
        have H9 := Lib.hid h9
        have hF9 : Fr [] w1 (w7.setCell ⟨Bk, u, none⟩ (.slice (some ⟨gg, 0, none⟩) ((bkK G k u).length + 1) cap)) := ((hFj.alloc _).grown hgrow (fun k' hk' => .inr (by have := (hown2.lt k' hk').1; omega))).setCell (.inr hI.2.1) _
        have hS9 : B ≤ (w7.setCell ⟨Bk, u, none⟩ (.slice (some ⟨gg, 0, none⟩) ((bkK G k u).length + 1) cap)).heap.size := by
          have := hgrow.size
          simp at this ⊢
          omega
        clear h8 h9 hgr2 hown7 hgrow hat hB7
        go_wp2
        go_roundw
        case rel => exact ⟨j + 1, _, by go_num, by omega, H9.out, hF9, hS9⟩
        case measure => simp [intOf]; omega
      · obtain rfl : j = l.length := by omega
        rw [List.take_length] at hAj
        have HAJ := Lib.hid (hAj.congr (bl2 := bkK G (k + 1)) (fun u _ => HBK.out u))
        clear hAj
        go_wp2
        go_meet
        exact ⟨_, HAJ.out, hFj, hSj⟩
  case rest =>
    obtain ⟨rows2, hA2, hF2, hS2⟩ := hcut
    have HA2 := Lib.hid hA2
    clear hA2
    by_cases h0 : l.length = 0
    · have h0i : (l.length : Int) = 0 := by omega
      have hl0 : l = [] := List.eq_nil_of_length_eq_zero h0
      rw [if_pos hl0] at HH
      have h00 : ((l.length : Int) == 0) = true := by rw [h0i]; rfl
      have HP := Lib.hid (hPush R B hv hp k wc HA2.out.heap hhl hS2)
      clear h0 h0i hl0
      go_wp2_with fail
      refine HP.out.mono ?_
      rintro e w9 ⟨rfl, v1, hH9, hf9, hn9⟩
      have hA9 := HA2.out.heaped K hf9 hH9 hn9
      have HA9 := Lib.hid hA9
      have hF9 : Fr [] w1 w9 := hF2.trans hf9 (fun x hx => .inr (by
        rcases List.mem_cons.1 hx with e | hx
        · rw [e]; have := K.r; omega
        · have := (own_hp HA2.out.heap.row (g := x) (by simpa using hx)).1; omega))
      have hS9 := Nat.le_trans hS2 hf9.size
      clear hA9 hH9 hf9 hn9
      go_wp2
      apply HQ.out
      · rw [HW.out, HH.out]
        exact HA9.out
      · exact hF9
      · exact hS9
    · have h00 : ((l.length : Int) == 0) = false := by rw [beq_eq_false_iff_ne]; omega
      rw [if_neg (fun e => h0 (by rw [e]; rfl))] at HH
      clear h0
      go_wp2
      apply HQ.out
      · rw [HW.out, HH.out]
        exact HA2.out
      · exact hF2
      · exact hS2
end
section
open Go.RowKit Go.Shelf Go.Sort Go.Proofs

theorem OAt.outed {Wt Bk R B n : Nat} {waits : Nat → Nat} {heap : List Nat} {rows : Nat → Value} {bl : Nat → List Nat} {hv ov : Value} {w w1 : World} (K : OBlk Wt Bk R B) (h : OAt Wt Bk R B n waits heap rows bl hv w) {m : Nat} {xs : List Value} (ho : w.ownsRow B tSp 2 ov m xs) (hg : w.grownBy w1 ov.ownBlock) : OAt Wt Bk R B n waits heap rows bl hv w1 :=
  h.frS (fr_grown hg) (low_not ho K.w) (low_not ho K.b) (fun hm => own_box ho h.heap.box (by decide) R (by simpa using hm) rfl) (fun u hu => own_not (h.row u hu) ho (by decide)) (own_not h.heap.row ho (by decide))

set_option maxRecDepth 100000 in
set_option maxHeartbeats 3200000 in
theorem orderNext (w1 : World) (g Wt Bk R B : Nat) (spots : List Sp) (G : Dg) (sv nv hv ov : Value) (nl nc bn on : Nat) (rows : Nat → Value) (s : OS) (wr : World) {s0 s1 s2 s3 s5 s10 s11 s12 s13 s15 s16 s17 s18 s19 s20 s21 s22 s23 s24 s25 s26 s27 s28 s29 s30 s31 s32 s33 s34 s35 s36 s37 s38 s39 s40 s41 s42 s43 s44 s45 s46 s47 s48 s49 s50 s51 s52 s53 s54 s55 s56 s57 s58 s59 s60 s61 s62 s63 s64 s65 s66 s67 s68 s69 s70 s71 s72 s73 s74 s75 s76 s77 s78 s79 s80 s81 s82 s83 s84 s85 s86 s87 s88 s89 s90 s91 s92 s93 s94 s95 s96 s97 s98 s99 s100 s101 s102 s103 s104 s105 s106 s107 s108 s109 s110 s111 s112 s113 s114 s115 s116 s117 s118 s119 s120 s121 s122 s123 s124 s125 s126 s127 : Value} (K : OBlk Wt Bk R B) (hI : w1.heap.size ≤ Wt ∧ w1.heap.size ≤ Bk ∧ w1.heap.size ≤ B) (hGR : GrAt w1 g spots G sv nv nl nc bn on) (hN : OkN G)
    (hA : OAt Wt Bk R B spots.length s.waits s.heap rows (bk G) hv wr) (hO : wr.ownsRow B tSp 2 ov s.out.length ((spotsOf spots s.out).flatMap spC)) (hok : OkO G s.out 0 [] s) (hne : s.heap ≠ []) (hF : Fr [] w1 wr) (hS : B ≤ wr.heap.size) (Q : Exit → Act → World → Prop)
    (hQ : ∀ (n14 n15 n17 n83 n84 n85 n86 n87 n88 n89 n90 n91 n92 n93 n94 n95 n96 n97 n98 n99 n100 n101 n102 n103 n104 n105 n106 n107 n108 n109 n110 n111 n112 n113 n114 n115 n116 n117 n118 n119 n120 n121 n122 hv' : Value) (w' : World), OAt Wt Bk R B spots.length (pop1 G s).waits (pop1 G s).heap rows (bk G) hv' w' → w'.ownsRow B tSp 2 n14 (pop1 G s).out.length ((spotsOf spots (pop1 G s).out).flatMap spC) → Fr [] w1 w' → B ≤ w'.heap.size → Q .normal { tmps := #[s0, s1, s2, s3, .pointer (some ⟨g, 0, none⟩), s5, .int .i64 (spots.length : Int), .slice (some ⟨Wt, 0, none⟩) spots.length spots.length, .slice (some ⟨Bk, 0, none⟩) spots.length spots.length, .pointer (some ⟨R, 0, none⟩), s10, s11, s12, s13, n14, n15, s16, n17, s18, s19, s20, s21, s22, s23, s24, s25, s26, s27, s28, s29, s30, s31, s32, s33, s34, s35, s36, s37, s38, s39, s40, s41, s42, s43, s44, s45, s46, s47, s48, s49, s50, s51, s52, s53, s54, s55, s56, s57, s58, s59, s60, s61, s62, s63, s64, s65, s66, s67, s68, s69, s70, s71, s72, s73, s74, s75, s76, s77, s78, s79, s80, s81, s82, n83, n84, n85, n86, n87, n88, n89, n90, n91, n92, n93, n94, n95, n96, n97, n98, n99, n100, n101, n102, n103, n104, n105, n106, n107, n108, n109, n110, n111, n112, n113, n114, n115, n116, n117, n118, n119, n120, n121, n122, s123, s124, s125, s126, s127], defers := [] } w') :
    (subC [1, 1, 1, 1, 1, 1, 1, 1, 0, 0, 0, 1] (Tryz.f11.body.getD .skip)).wp Tryz.prog Q { tmps := #[s0, s1, s2, s3, .pointer (some ⟨g, 0, none⟩), s5, .int .i64 (spots.length : Int), .slice (some ⟨Wt, 0, none⟩) spots.length spots.length, .slice (some ⟨Bk, 0, none⟩) spots.length spots.length, .pointer (some ⟨R, 0, none⟩), s10, s11, s12, s13, ov, s15, s16, s17, s18, s19, s20, s21, s22, s23, s24, s25, s26, s27, s28, s29, s30, s31, s32, s33, s34, s35, s36, s37, s38, s39, s40, s41, s42, s43, s44, s45, s46, s47, s48, s49, s50, s51, s52, s53, s54, s55, s56, s57, s58, s59, s60, s61, s62, s63, s64, s65, s66, s67, s68, s69, s70, s71, s72, s73, s74, s75, s76, s77, s78, s79, s80, s81, s82, s83, s84, s85, s86, s87, s88, s89, s90, s91, s92, s93, s94, s95, s96, s97, s98, s99, s100, s101, s102, s103, s104, s105, s106, s107, s108, s109, s110, s111, s112, s113, s114, s115, s116, s117, s118, s119, s120, s121, s122, s123, s124, s125, s126, s127], defers := [] } wr := by
  have HQ := Lib.hid hQ
  have hG1 := hGR.len
  have hsl := hGR.lt
  have hlen := hok.heap_len
  have hpos := List.length_pos_iff.2 hne
  obtain ⟨ht1, ht2, ht3⟩ := take_ok hok hne
  have hpl := popL_perm hne
  have HTK := Lib.hid ht1
  have HNO := Lib.hid ht3
  have HP := Lib.hid (hPop R B hv s.heap wr hA.heap (by omega) hpos)
  have HA := Lib.hid hA
  have HO := Lib.hid hO
  have HGR := Lib.hid hGR
  have HOUT : Hid ((pop1 G s).out = s.out ++ [(popL s.heap).2]) := (pop_ok hN hok hne).2
  have HPOP : Hid (pop1 G s = (bk G (popL s.heap).2).foldl dec1 (take1 s)) := rfl
  have hol : s.out.length ≤ 65536 := by omega
  clear hQ hA hO hGR ht1 ht3 hpl hok hlen hpos
  show (Code.block 5 _).wp _ _ _ _
  dsimp only
  go_wp2_with fail
  refine HP.out.mono ?_
  rintro e w3 ⟨rfl, v1, hH3, hf3, hv3⟩
  have hA3 := HA.out.heaped K hf3 hH3 (fun k hk => .inl (by rw [← hv3]; exact hk))
  have hO3 := owns_fr HO.out hf3 (fun k hk hm => by
    rcases List.mem_cons.1 hm with e | hm
    · exact own_box HO.out HA.out.heap.box (by decide) k hk e
    · exact own_not HO.out HA.out.heap.row (by decide) k hk hm)
  have hF3 : Fr [] w1 w3 := hF.trans hf3 (fun x hx => .inr (by
    rcases List.mem_cons.1 hx with e | hx
    · rw [e]; have := K.r; omega
    · have := (own_hp HA.out.heap.row (g := x) (by simpa using hx)).1; omega))
  have hS3 := Nat.le_trans hS hf3.size
  generalize hv0 : (popL s.heap).2 = v0 at *
  generalize hh0 : (popL s.heap).1 = h0 at *
  have HH0 : Hid ((take1 s).heap = h0) := hh0
  have hta : ∀ W : World, (Instr.typeAssert (.iface tI (.int .i64 (v0 : Int))) 20 tI false).run Tryz.prog W = .ok (.int .i64 (v0 : Int)) W := fun _ => by kernel_rfl
  have hvn : v0 < spots.length := by rw [← hG1]; exact ht2
  have hv1 : (v0 : Int) < (spots.length : Int) := by omega
  have c0 := cell_of (hF3.heap HGR.out.hp (by simp)) 0
  obtain ⟨b2, off2, sc, e2, hbl2, d0, d1⟩ := spots_cell (HGR.out.sp.fr0 hF3) hvn
  rw [e2] at c0
  have hsp : spots.getD v0 (0, 0) = spots[v0] := by rw [List.getD_eq_getElem?_getD, List.getElem?_eq_getElem hvn]; rfl
  have HSP : Hid ((spotsOf spots (s.out ++ [v0])).flatMap spC = (spotsOf spots s.out).flatMap spC ++ spC spots[v0]) := by
    show _ = _
    unfold spotsOf
    rw [List.map_append, List.flatMap_append, List.map_cons, List.map_nil, List.flatMap_cons, List.flatMap_nil, List.append_nil, hsp]
  have HE2 := Lib.hid e2
  have HA3 := Lib.hid hA3
  have HO3 := Lib.hid hO3
  clear hH3 hf3 hv3 hA3 hO3 hF hS HP HA HO ht2 hsp e2 hv0 hh0
  generalize spots[v0] = sp at *
  obtain ⟨i0, hi0, hz0, hz1, hz2⟩ := info_parts infoSpot
  have hown2 := HO3.out.alloc (.cells #[.int .i64 sp.1, .int .i64 sp.2] tSp)
  go_upto_region 23 with (at_builtin; refine wpList_append_own _ rfl _ _ 28 rfl B tSp i0 _ 2 16 Tryz.underlying28 hi0 hz0 hz1 hz2 rfl (by decide) _ _ _ rfl hown2 ⟨w3.heap.size, 0, none⟩ 1 1 (spC sp) rfl rfl (by have := news_of w3 (spC sp) tSp; simpa using this) (fun x hx => by simp at hx; rcases hx with rfl | rfl <;> rfl) (by unfold maxLen; omega) (by omega) (by simp; omega) ?_; intro v' w9 hown9 hgrow _)
  have hfa : Fr [] w3 (w3.alloc (.cells #[.int .i64 sp.1, .int .i64 sp.2] tSp)) := (Fr.refl [] w3).alloc _
  have hA9 := (HA3.out.fr0 hfa).outed K hown2 hgrow
  have hF9 : Fr [] w1 w9 := (hF3.trans0 hfa).grown hgrow (fun k hk => .inr (by have := (hown2.lt k hk).1; omega))
  have hS9 : B ≤ w9.heap.size := by
    have := hgrow.size
    simp at this
    omega
  have hO9 : w9.ownsRow B tSp 2 v' (s.out ++ [v0]).length ((spotsOf spots (s.out ++ [v0])).flatMap spC) := by
    rw [HSP.out, List.length_append]
    exact hown9
  have cB := hA9.bk.cell hvn
  have lB := hA9.bk.lt
  obtain ⟨bq, bn2, hbe, hb1, hb2⟩ := (own_sl (hA9.row v0 hvn)).form
  rw [hbe] at cB
  have HBE := Lib.hid hbe
  have HA9 := Lib.hid hA9
  have HO9 := Lib.hid hO9
  have hbl : (bk G v0).length ≤ 65536 := by
    refine Nat.le_trans (List.length_filter_le _ _) ?_
    rw [List.length_range]
    omega
  have HBM : Hid (∀ u ∈ bk G v0, u < spots.length ∧ v0 ∈ nxs G u) := fun u hu => by
    rw [← hG1]
    exact bk_mem.1 hu
  have HBN := Lib.hid (bk_nodup G v0)
  clear hA9 hO9 hown9 hgrow hfa hown2 hbe hF3 hS3 c0 hta d0 d1
  have HB1 : Hid (∀ j, j ≤ (bk G v0).length → OkO G s.out v0 ((bk G v0).take j) (((bk G v0).take j).foldl dec1 (take1 s))) := fun j _ => by
    have := decs_ok hN HNO.out ((bk G v0).take j) [] (take1 s) HTK.out (fun u hu => by
      have h1 := HBM.out u (List.mem_of_mem_take hu)
      exact ⟨by rw [hG1]; exact h1.1, h1.2, by simp⟩) (HBN.out.sublist (List.take_sublist _ _))
    rwa [List.nil_append] at this
  obtain ⟨l, hl⟩ : ∃ l, bk G v0 = l := ⟨_, rfl⟩
  rw [hl] at cB HBE hb1 HPOP hbl HBM HBN HB1
  have HLL := Lib.hid hl
  clear hl
  go_upto_block 6 with fail
  clear cB lB
  go_wp2_with fail
  go_loopw [17, 102] (fun _ i wx => ∃ (j : Nat) (hv' : Value), i = .int .i64 (j : Int) ∧ j ≤ l.length ∧ OAt Wt Bk R B spots.length ((l.take j).foldl dec1 (take1 s)).waits ((l.take j).foldl dec1 (take1 s)).heap rows (bk G) hv' wx ∧ wx.ownsRow B tSp 2 v' (s.out ++ [v0]).length ((spotsOf spots (s.out ++ [v0])).flatMap spC) ∧ Fr [] w1 wx ∧ B ≤ wx.heap.size) (fun _ i _ => l.length - (intOf i).toNat)
  case atStart => exact ⟨0, v1, rfl, by omega, by rw [List.take_zero, List.foldl_nil, HH0.out]; exact HA9.out, HO9.out, hF9, hS9⟩
  case round =>
    obtain ⟨j, hv', rfl, hj, hAj, hOj, hFj, hSj⟩ := hrel
    by_cases hjl : j < l.length
    · have hnum := own_sl (hAj.row v0 hvn)
      rw [HLL.out, HBE.out] at hnum
      obtain ⟨b, off, _, e, hb, c0⟩ := nums_cell hnum hjl
      cases e
      have hj1 : (j : Int) < (l.length : Int) := by omega
      obtain ⟨hu, hvu⟩ := HBM.out l[j] (List.getElem_mem hjl)
      have hokj := HB1.out j hj
      have hnt : l[j] ∉ l.take j := fun hm => by
        obtain ⟨i, hi, e⟩ := List.mem_take_iff_getElem.1 hm
        have := (List.getElem_inj HBN.out).1 e
        omega
      have hpos := (dec_ok hN hokj (by rw [hG1]; exact hu) hvu HNO.out hnt).2
      have hhl : ((l.take j).foldl dec1 (take1 s)).heap.length ≤ 65536 := by
        have := hokj.heap_len
        omega
      have HSN : Hid ((l.take (j + 1)).foldl dec1 (take1 s) = dec1 ((l.take j).foldl dec1 (take1 s)) l[j]) := by
        show _ = _
        rw [List.take_succ_eq_append_getElem hjl, List.foldl_append]
        rfl
      have hxs : ((l.take j).foldl dec1 (take1 s)).waits l[j] ≤ 65536 := by
        rw [hokj.wt _ (by rw [hG1]; exact hu)]
        obtain ⟨_, _, _, h3⟩ := HGR.out.row _ hu
        exact Nat.le_trans (List.length_filter_le _ _) h3
      clear hokj hnt hvu hnum
      generalize l[j] = u at *
      generalize (l.take j).foldl dec1 (take1 s) = sj at *
      obtain ⟨x, hx⟩ : ∃ x, sj.waits u = x + 1 := ⟨sj.waits u - 1, by omega⟩
      have hu1 : (u : Int) < (spots.length : Int) := by omega
      have wc := hAj.wt.cell hu
      have wf := hAj.wt.frozen u
      have wl := hAj.wt.lt
      rw [hx] at wc
      have hwr : wrap64 (x : Int) = (x : Int) := by
        have h1 : x + 1 ≤ 65536 := by rw [← hx]; exact hxs
        unfold wrap64
        omega
      have hA2 := hAj.putW K u x
      have HA2 := Lib.hid hA2
      have HOJ := Lib.hid hOj
      have HX := Lib.hid hx
      have hF2 : Fr [] w1 (wr.setCell ⟨Wt, u, none⟩ (.int .i64 (x : Int))) := hFj.setCell (.inr hI.1) _
      have hS2 : B ≤ (wr.setCell ⟨Wt, u, none⟩ (.int .i64 (x : Int))).heap.size := by simpa using hSj
      have HO2 := Lib.hid (owns_fr hOj (fr_cell wr Wt u (.int .i64 (x : Int))) (own_low hOj K.w))
      clear hA2 hAj hOj hx hpos hxs HOJ hFj hSj
      go_upto_region 27 with fail
      clear hwr wc wf wl
      generalize wr.setCell ⟨Wt, u, none⟩ (.int .i64 (x : Int)) = wx at *
      have wc := HA2.out.wt.cell hu
      rw [upd_same] at wc
      by_cases h0x : x = 0
      · subst h0x
        have wc0 : wx.cell? ⟨Wt, u, none⟩ = some (.int .i64 0) := wc
        clear wc
        have HD : Hid (dec1 sj u = { sj with waits := upd sj.waits u 0, heap := pushL sj.heap u }) := by
          show _ = _
          unfold dec1
          rw [HX.out, if_pos rfl]
        have HP2 := Lib.hid (hPush R B hv' sj.heap u wx HA2.out.heap hhl hS2)
        go_wp2_with fail
        refine HP2.out.mono ?_
        rintro e w5 ⟨rfl, v5, hH5, hf5, hn5⟩
        have hA5 := HA2.out.heaped K hf5 hH5 hn5
        have hO5 := owns_fr HO2.out hf5 (fun k hk hm => by
          rcases List.mem_cons.1 hm with e | hm
          · exact own_box HO2.out HA2.out.heap.box (by decide) k hk e
          · exact own_not HO2.out HA2.out.heap.row (by decide) k hk hm)
        have hF5 : Fr [] w1 w5 := hF2.trans hf5 (fun x hx => .inr (by
          rcases List.mem_cons.1 hx with e | hx
          · rw [e]; have := K.r; omega
          · have := (own_hp HA2.out.heap.row (g := x) (by simpa using hx)).1; omega))
        have hS5 := Nat.le_trans hS2 hf5.size
        have HA5 := Lib.hid hA5
        have HO5 := Lib.hid hO5
        clear hA5 hO5 hH5 hf5 hn5 wc0
        go_wp2
        go_roundw
        case rel => exact ⟨j + 1, v5, by go_num, by omega, by rw [HSN.out, HD.out]; exact HA5.out, HO5.out, hF5, hS5⟩
        case measure => simp [intOf]; omega
      · have HD : Hid (dec1 sj u = { sj with waits := upd sj.waits u x }) := by
          show _ = _
          unfold dec1
          rw [HX.out, if_neg (by omega)]
          rfl
        have h0b : ((x : Int) == 0) = false := by rw [beq_eq_false_iff_ne]; omega
        clear h0x
        go_wp2
        go_roundw
        case rel => exact ⟨j + 1, hv', by go_num, by omega, by rw [HSN.out, HD.out]; exact HA2.out, HO2.out, hF2, hS2⟩
        case measure => simp [intOf]; omega
    · obtain rfl : j = l.length := by omega
      rw [List.take_length, ← HPOP.out] at hAj
      have HAJ := Lib.hid hAj
      have HOJ := Lib.hid hOj
      clear hAj hOj
      go_wp2
      apply HQ.out
      · exact HAJ.out
      · rw [HOUT.out]
        exact HOJ.out
      · exact hFj
      · exact hSj
end
end
section
open Go.RowKit Go.Shelf Go.Sort Go.Proofs

theorem gNx_nd (ns : List Nd) : OkN (gNx ns) := by
  intro v
  unfold nxs
  rw [List.getD_eq_getElem?_getD]
  cases h : (gNx ns)[v]? with
  | none => simp
  | some l =>
    have hm := List.mem_of_getElem? h
    unfold gNx at hm
    obtain ⟨s, _, rfl⟩ := List.mem_map.1 hm
    exact List.Pairwise.filter _ List.nodup_range
def OrderPost (E : Int) (l : List Sp) (G : Dg) (w : World) (e : Ending) (w1 : World) : Prop :=
  Fr [] w w1 ∧ ((E ≠ 0 ∧ e = .returned (.tuple #[.slice none 0 0, .int .i64 E])) ∨
    (E = 0 ∧ (orderT G).length < l.length ∧ e = .returned (.tuple #[.slice none 0 0, .int .i64 3])) ∨
    (E = 0 ∧ ¬ (orderT G).length < l.length ∧ ∃ sv, e = .returned (.tuple #[sv, .int .i64 0]) ∧ w1.ownsRow w.heap.size tSp 2 sv (orderT G).length ((spotsOf l (orderT G)).flatMap spC)))
set_option maxRecDepth 100000 in
set_option maxHeartbeats 6400000 in
theorem orderC (v : Value) (ns : List Nd) (w : World) (hv : NodesAt w v ns) (hB : ns.length + tot ns ≤ 4194304) : Calls Tryz.prog 11 #[v] w (OrderPost (madeE ns) (gSp ns) (gNx ns) w) := by
  have HV := Lib.hid hv
  clear hv
  go_enter Tryz.func11, Tryz.ntmps11
  go_wp2_with fail
  refine (madeC v ns w HV.out hB).mono ?_
  rintro e w1 ⟨hf1, ⟨h0, rfl⟩ | ⟨h0, g, rfl, hG⟩⟩
  · have h0' : ¬ madeE ns = 0 := h0
    go_wp2
    go_ret2
    exact ⟨hf1, .inl ⟨h0, rfl⟩⟩
  · obtain ⟨hn1, hn2, hn3⟩ := made_ok h0
    have HOKG := Lib.hid (gNx_ok ns)
    have HOKN := Lib.hid (gNx_nd ns)
    have HGLE : Hid (∀ l ∈ gNx ns, l.length ≤ 65536) := fun l hl => Nat.le_trans (gNx_le ns l hl) hn1
    have hGl : (gNx ns).length = (gSp ns).length := by rw [gNx_len, gSp_len]
    have hsl : (gSp ns).length ≤ 65536 := by rw [gSp_len]; exact hn1
    have HE := Lib.hid h0
    clear h0
    have HW1 := Lib.hid hf1
    clear hf1
    generalize madeE ns = E at *
    generalize gSp ns = spots at *
    generalize gNx ns = G at *
    obtain ⟨sv, nv, rows, hg, hs, hn, hr⟩ := hG
    obtain ⟨q, c, rfl, hc1, hc2⟩ := hs.form
    obtain ⟨qn, cn, rfl, hn4, hn5⟩ := hn.form
    rw [hGl] at hg
    rw [hGl] at hn
    have HG := Lib.hid hg
    have HS := Lib.hid hs
    have HN := Lib.hid hn
    have HR := Lib.hid hr
    have hgl := lt_of hg
    have hg0 := cell_of hg 0
    clear hg hs hn hr hn1 hn2 hn3 HV hB
    have hmI := mkI spots.length (by omega)
    have hmS := mkSS spots.length (by omega)
    go_upto_region 5 with fail
    go_cut [7, 8] (fun s7 s8 wx => ∃ Wt Bk, s7 = .slice (some ⟨Wt, 0, none⟩) spots.length spots.length ∧ s8 = .slice (some ⟨Bk, 0, none⟩) spots.length spots.length ∧ (Wt < w1.heap.size + 2 ∧ Bk < w1.heap.size + 2 ∧ Wt ≠ Bk) ∧ (w1.heap.size ≤ Wt ∧ w1.heap.size ≤ Bk) ∧ Fr [] w1 wx ∧ w1.heap.size + 2 ≤ wx.heap.size ∧ wx.rowIs Wt tI spots.length (fun _ => .int .i64 0) ∧ wx.rowIs Bk tIS spots.length (fun _ => .slice none 0 0))
    case first =>
      go_region
      all_goals
        go_wp2
        go_meet
        refine ⟨_, _, rfl, rfl, ⟨by omega, by omega, by omega⟩, by omega, (((Fr.refl [] w1).alloc _).alloc _).drew, by simp, row_new ?_, row_new ?_⟩
        all_goals (refine hp_drew ?_; first | (refine hp_new ?_; simp; done) | (refine hp_old (hp_new ?_); simp; done))
    case rest =>
      obtain ⟨Wt, Bk, rfl, rfl, ⟨hb1, hb2, hb3⟩, ⟨hW1, hK1⟩, hf3, hsz, rW, rB⟩ := hcut
      clear hmI hmS hg0
      have hg1 := cell_of (hf3.heap HG.out (by simp)) 1
      have RW := Lib.hid rW
      have RB := Lib.hid rB
      clear rW rB
      have hgl2 : g < wc.heap.size := Nat.lt_of_lt_of_le hgl hf3.size
      go_upto_block 0 with fail
      clear hg1 hgl2
      have hf0 : Fr [] wc ((wc.alloc (.cells #[] tI)).alloc (.cells #[.slice (some ⟨wc.heap.size, 0, none⟩) 0 0] tR)) := ((Fr.refl [] wc).alloc _).alloc _
      have HA0 : Hid (OAt Wt Bk (wc.heap.size + 1) (w1.heap.size + 2) spots.length (startO G 0).waits (startO G 0).heap (fun _ => .slice none 0 0) (bkK G 0) (.slice (some ⟨wc.heap.size, 0, none⟩) 0 0) ((wc.alloc (.cells #[] tI)).alloc (.cells #[.slice (some ⟨wc.heap.size, 0, none⟩) 0 0] tR))) := by
        refine ⟨(row_fr RW.out hf0 (by simp)).congr (fun i _ => by simp [startO]), row_fr RB.out hf0 (by simp), (fun u _ => by simpa [bkK] using World.ownsRow_nil _ _ _ _), (fun u _ u' _ _ k hk => by simp [Value.ownBlock] at hk), ⟨hp_new (by simp), ?_⟩, (fun u _ k hk => by simp [Value.ownBlock] at hk)⟩
        refine ⟨by simp [startO], .inr ⟨wc.heap.size, 0, #[], rfl, hsz, hp_old (hp_new rfl), Nat.zero_le _, by decide, rfl, rfl⟩⟩
      have hF0 := hf3.trans0 hf0
      have hS0 := Nat.le_trans hsz hf0.size
      have hK0 : OBlk Wt Bk (wc.heap.size + 1) (w1.heap.size + 2) := ⟨hb1, hb2, hb3, by omega⟩
      have HK := Lib.hid hK0
      clear RW RB hf0 hK0 hf3 hsz
      generalize (wc.alloc (.cells #[] tI)).alloc (.cells #[.slice (some ⟨wc.heap.size, 0, none⟩) 0 0] tR) = W0 at *
      generalize wc.heap.size + 1 = R at *
      generalize (Value.slice (some ⟨wc.heap.size, 0, none⟩) 0 0) = hv0 at *
      have HGRF : Hid (0 < spots.length → ∃ bn on cx, GrAt w1 g spots G (.slice q spots.length c) (.slice qn spots.length cn) spots.length cx bn on) := by
        intro hpos
        obtain ⟨bn, on, cx, e, hb, hcl⟩ := HN.out.cell (by omega)
        cases e
        refine ⟨bn, on, cn, HG.out, HS.out, rfl, rfl, hGl, fun v hv => ?_, hsl, hb⟩
        have hvG : v < G.length := by omega
        obtain ⟨rv, e1, e2⟩ := HR.out v hvG
        have e3 : nxs G v = G[v] := by unfold nxs; rw [List.getD_eq_getElem?_getD, List.getElem?_eq_getElem hvG]; rfl
        rw [e3]
        exact ⟨rv, hcl v rv e1, e2, HGLE.out _ (List.getElem_mem hvG)⟩
      go_wp2_with fail
      go_loopw [10, 11, 13, 42] (fun _ _ _ i wr => ∃ (k : Nat) (rows : Nat → Value) (hv : Value), i = .int .i64 (k : Int) ∧ k ≤ spots.length ∧ OAt Wt Bk R (w1.heap.size + 2) spots.length (startO G k).waits (startO G k).heap rows (bkK G k) hv wr ∧ Fr [] w1 wr ∧ w1.heap.size + 2 ≤ wr.heap.size) (fun _ _ _ i _ => spots.length - (intOf i).toNat)
      case atStart => exact ⟨0, _, _, rfl, by omega, HA0.out, hF0, hS0⟩
      case round =>
        obtain ⟨k, rws, hv, rfl, hk, hA, hF, hS⟩ := hrel
        have HA := Lib.hid hA
        clear hA
        by_cases hlt : k < spots.length
        · have hk1 : (k : Int) < (spots.length : Int) := by omega
          obtain ⟨bn, on, cx, hGR⟩ := HGRF.out (by omega)
          have HGR2 := Lib.hid hGR
          clear hGR
          go_upto_block 1 with fail
          refine orderRow w1 g Wt Bk R (w1.heap.size + 2) k spots G _ _ hv spots.length cx bn on rws wr HK.out ⟨hW1, hK1, by omega⟩ HGR2.out HOKG.out HOKN.out hlt HA.out hF hS _ ?_
          intros
          rename_i hv' rows' w' hA' hF' hS'
          have HA' := Lib.hid hA'
          clear hA'
          go_wp2
          go_roundw
          case rel => exact ⟨k + 1, rows', hv', by go_num, by omega, HA'.out, hF', hS'⟩
          case measure => simp [intOf]; omega
        · obtain rfl : k = spots.length := by omega
          have hAb := HA.out.congr (bl2 := bk G) (fun u _ => by unfold bk bkK; rw [hGl])
          have HAB := Lib.hid hAb
          have HOK0 : Hid (OkO G [] 0 [] (startO G spots.length)) := by
            have := start_okO G
            rwa [hGl] at this
          have HT0 : Hid ((runO G (spots.length + 1) (startO G spots.length)).out = orderT G) := by
            show _ = _
            unfold orderT
            rw [hGl]
          clear hAb HA HA0
          generalize hst : startO G spots.length = s0 at *
          have hs0 : s0.out = [] := by rw [← hst]; rfl
          have HS0 := Lib.hid hs0
          clear hst hs0
          go_upto_block 4 with fail
          go_wp2_with fail
          go_loopg [14, 15, 17] (spots.length + 1) (fun f ov _ _ wx => ∃ (s : OS) (hv' : Value), (runO G f s).out = orderT G ∧ OkO G s.out 0 [] s ∧ spots.length < s.out.length + f ∧ OAt Wt Bk R (w1.heap.size + 2) spots.length s.waits s.heap rws (bk G) hv' wx ∧ wx.ownsRow (w1.heap.size + 2) tSp 2 ov s.out.length ((spotsOf spots s.out).flatMap spC) ∧ Fr [] w1 wx ∧ w1.heap.size + 2 ≤ wx.heap.size)
          case atStart =>
            refine ⟨s0, hv, HT0.out, by rw [HS0.out]; exact HOK0.out, by omega, HAB.out, ?_, hF, hS⟩
            rw [HS0.out]
            exact World.ownsRow_nil _ _ _ _
          case round =>
            obtain ⟨s, hv', hrun, hok, hf, hA1, hO1, hF1, hS1⟩ := hrel
            have c0 := cell_of hA1.heap.box 0
            obtain ⟨q1, c1, hve, hc5, hc6⟩ := (own_sl hA1.heap.row).form
            have HV := Lib.hid hve
            have hlen := hok.heap_len
            have HA1 := Lib.hid hA1
            have HO1 := Lib.hid hO1
            have HOK := Lib.hid hok
            have hRl := lt_of hA1.heap.box
            clear hve hA1 hO1 hok
            have hsG : G.length = spots.length := hGl
            by_cases hne : s.heap = []
            · have HE1 : Hid (s.out = orderT G) := by
                show _ = _
                rw [← hrun]
                cases gk with
                | zero => rfl
                | succ f => rw [runO, if_pos hne]
              have hz : s.heap.length = 0 := by rw [hne]; rfl
              have hbl : s.out.length ≤ 65536 := by omega
              obtain ⟨oq, oc, rfl, ho1, ho2⟩ := (own_sl HO1.out).form
              clear hrun hne
              by_cases hsh : s.out.length < spots.length
              · go_wp2_with fail
                refine (rLen hv' _ _ _ HV.out _).mono ?_
                rintro e w4 ⟨rfl, rfl⟩
                rw [hz]
                clear hz
                go_wp2
                go_ret2
                refine ⟨HW1.out.trans0 hF1, .inr (.inl ⟨HE.out, by rw [← HE1.out]; exact hsh, rfl⟩)⟩
              · go_wp2_with fail
                refine (rLen hv' _ _ _ HV.out _).mono ?_
                rintro e w4 ⟨rfl, rfl⟩
                rw [hz]
                clear hz
                go_wp2
                go_ret2
                refine ⟨HW1.out.trans0 hF1, .inr (.inr ⟨HE.out, by rw [← HE1.out]; exact hsh, _, rfl, ?_⟩)⟩
                rw [← HE1.out]
                exact owns_mono HO1.out (by have := HW1.out.size; omega)
            · have hpos := List.length_pos_iff.2 hne
              have hp1 : (0 : Int) < (s.heap.length : Int) := by omega
              obtain ⟨f, rfl⟩ : ∃ f, gk = f + 1 := ⟨gk - 1, by omega⟩
              obtain ⟨bn, on, cx, hGR⟩ := HGRF.out (by omega)
              have HGR2 := Lib.hid hGR
              have HRUN : Hid ((runO G f (pop1 G s)).out = orderT G) := by
                rw [runO, if_neg hne] at hrun
                exact hrun
              have HPO := Lib.hid (pop_ok HOKN.out HOK.out hne)
              have HNE := Lib.hid hne
              clear hGR hrun hne
              go_wp2_with fail
              refine (rLen hv' _ _ _ HV.out _).mono ?_
              rintro e w4 ⟨rfl, rfl⟩
              go_upto_block 5 with fail
              refine orderNext w1 g Wt Bk R (w1.heap.size + 2) spots G _ _ hv' _ spots.length cx bn on rws s _ HK.out ⟨hW1, hK1, by omega⟩ HGR2.out HOKN.out HA1.out HO1.out HOK.out HNE.out hF1 hS1 _ ?_
              intros
              rename_i hv2 w' hA' hO' hF' hS'
              have HA' := Lib.hid hA'
              have HO' := Lib.hid hO'
              clear hA' hO'
              go_wp2
              go_roundg f
              case rel => exact ⟨pop1 G s, hv2, HRUN.out, HPO.out.1, by rw [HPO.out.2]; simp; omega, HA'.out, HO'.out, hF', hS'⟩
              case measure => omega
end
end Go.Proofs.YtdlpbpohbkcafaaGreat
