/-
  cycle.Order: one row of those that wait.
-/
import Derived.Test.YtdlpbpohbkcafaaCOrdM
import Derived.Test.YtdlpbpohbkcafaaCRingS
import Derived.Deep.LoopGhost
import Derived.Deep.RegionLaw
import Derived.Deep.AppendLies
import Derived.Deep.CutBlock
namespace Go.Proofs.Ytdlpbpohbkcafaa
open Go.RowKit Go.Shelf Go.Sort Go.Proofs

def bkK (g : Dg) (k u : Nat) : List Nat := (List.range k).filter fun v => decide (u ∈ nxs g v)
theorem bkK_succ (g : Dg) (k u : Nat) : bkK g (k + 1) u = bkK g k u ++ if u ∈ nxs g k then [k] else [] := by
  unfold bkK
  rw [List.range_succ, List.filter_append]
  congr 1
  by_cases h : u ∈ nxs g k
  · simp [h]
  · simp [h]
theorem startW_succ (g : Dg) (k : Nat) : (startO g (k + 1)).waits = upd (startO g k).waits k (nxs g k).length := by
  funext v
  simp only [startO, upd]
  by_cases e : v = k
  · rw [if_pos (by omega), if_pos e, e]
  · rw [if_neg e]
    by_cases h : v < k
    · rw [if_pos (by omega), if_pos h]
    · rw [if_neg (by omega), if_neg h]
theorem startH_succ (g : Dg) (k : Nat) : (startO g (k + 1)).heap = if nxs g k = [] then pushL (startO g k).heap k else (startO g k).heap := by
  simp only [startO, List.range_succ, List.foldl_append, List.foldl_cons, List.foldl_nil]
theorem OAt.congr {Wt Bk R B n : Nat} {waits : Nat → Nat} {heap : List Nat} {rows : Nat → Value} {bl bl2 : Nat → List Nat} {hv : Value} {w : World} (h : OAt Wt Bk R B n waits heap rows bl hv w) (e : ∀ u, u < n → bl2 u = bl u) : OAt Wt Bk R B n waits heap rows bl2 hv w :=
  ⟨h.wt, h.bk, fun u hu => by rw [e u hu]; exact h.row u hu, h.sep, h.heap, h.hsep⟩

set_option maxRecDepth 100000 in
set_option maxHeartbeats 3200000 in
theorem orderRow (w1 : World) (g Wt Bk R B k : Nat) (spots : List Sp) (G : Dg) (sv nv hv : Value) (nl nc bn on : Nat) (rows : Nat → Value) (wr : World) {s0 s1 s2 s3 s5 s10 s11 s12 s13 s14 s15 s16 s17 s18 s19 s20 s21 s22 s23 s24 s25 s26 s27 s28 s29 s30 s31 s32 s33 s34 s35 s36 s37 s38 s39 s41 s43 s44 s45 s46 s47 s48 s49 s50 s51 s52 s53 s54 s55 s56 s57 s58 s59 s60 s61 s62 s63 s64 s65 s66 s67 s68 s69 s70 s71 s72 s73 s74 s75 s76 s77 s78 s79 s80 s81 s82 s83 s84 s85 s86 s87 s88 s89 s90 s91 s92 s93 s94 s95 s96 s97 s98 s99 s100 s101 s102 s103 s104 s105 s106 s107 s108 s109 s110 s111 s112 s113 s114 s115 s116 s117 s118 s119 s120 s121 s122 s123 s124 s125 s126 s127 : Value} (K : OBlk Wt Bk R B) (hI : w1.heap.size ≤ Wt ∧ w1.heap.size ≤ Bk ∧ w1.heap.size ≤ B) (hGR : GrAt w1 g spots G sv nv nl nc bn on) (hOKG : OkG G) (hN : OkN G) (hlt : k < spots.length)
    (hA : OAt Wt Bk R B spots.length (startO G k).waits (startO G k).heap rows (bkK G k) hv wr) (hF : Fr [] w1 wr) (hS : B ≤ wr.heap.size) (Q : Exit → Act → World → Prop)
    (hQ : ∀ (n10 n11 n13 n44 n45 n46 n47 n48 n49 n50 n51 n52 n53 n54 n55 n56 n57 n58 n59 n60 n61 n62 n63 n64 n65 n66 n67 n68 n69 n70 n71 n72 n73 n74 n75 n76 hv' : Value) (rows' : Nat → Value) (w' : World), OAt Wt Bk R B spots.length (startO G (k + 1)).waits (startO G (k + 1)).heap rows' (bkK G (k + 1)) hv' w' → Fr [] w1 w' → B ≤ w'.heap.size → Q .normal { tmps := #[s0, s1, s2, s3, .pointer (some ⟨g, 0, none⟩), s5, .int .i64 (spots.length : Int), .slice (some ⟨Wt, 0, none⟩) spots.length spots.length, .slice (some ⟨Bk, 0, none⟩) spots.length spots.length, .pointer (some ⟨R, 0, none⟩), n10, n11, s12, n13, s14, s15, s16, s17, s18, s19, s20, s21, s22, s23, s24, s25, s26, s27, s28, s29, s30, s31, s32, s33, s34, s35, s36, s37, s38, s39, nv, s41, .int .i64 (k : Int), s43, n44, n45, n46, n47, n48, n49, n50, n51, n52, n53, n54, n55, n56, n57, n58, n59, n60, n61, n62, n63, n64, n65, n66, n67, n68, n69, n70, n71, n72, n73, n74, n75, n76, s77, s78, s79, s80, s81, s82, s83, s84, s85, s86, s87, s88, s89, s90, s91, s92, s93, s94, s95, s96, s97, s98, s99, s100, s101, s102, s103, s104, s105, s106, s107, s108, s109, s110, s111, s112, s113, s114, s115, s116, s117, s118, s119, s120, s121, s122, s123, s124, s125, s126, s127], defers := [] } w') :
    (subC [1, 1, 1, 1, 1, 1, 0, 1, 0, 0, 1, 1, 0] (Try.f14.body.getD .skip)).wp Try.prog Q { tmps := #[s0, s1, s2, s3, .pointer (some ⟨g, 0, none⟩), s5, .int .i64 (spots.length : Int), .slice (some ⟨Wt, 0, none⟩) spots.length spots.length, .slice (some ⟨Bk, 0, none⟩) spots.length spots.length, .pointer (some ⟨R, 0, none⟩), s10, s11, s12, s13, s14, s15, s16, s17, s18, s19, s20, s21, s22, s23, s24, s25, s26, s27, s28, s29, s30, s31, s32, s33, s34, s35, s36, s37, s38, s39, nv, s41, .int .i64 (k : Int), s43, s44, s45, s46, s47, s48, s49, s50, s51, s52, s53, s54, s55, s56, s57, s58, s59, s60, s61, s62, s63, s64, s65, s66, s67, s68, s69, s70, s71, s72, s73, s74, s75, s76, s77, s78, s79, s80, s81, s82, s83, s84, s85, s86, s87, s88, s89, s90, s91, s92, s93, s94, s95, s96, s97, s98, s99, s100, s101, s102, s103, s104, s105, s106, s107, s108, s109, s110, s111, s112, s113, s114, s115, s116, s117, s118, s119, s120, s121, s122, s123, s124, s125, s126, s127], defers := [] } wr := by
  have HQ := Lib.hid hQ
  obtain ⟨rv, hr1, hr2, hr3⟩ := hGR.row k hlt
  obtain ⟨lq, lc, rfl, hl1, hl2⟩ := hr2.form
  have hG1 := hGR.len
  have hnl := hGR.nl
  have hnv := hGR.nv
  subst hnv
  subst hnl
  have hsl := hGR.lt
  have HL := Lib.hid hr2
  have hcr := ce_call hF hr1
  have hk1 : (k : Int) < (spots.length : Int) := by omega
  have HM : Hid (∀ u ∈ nxs G k, u < spots.length) := fun u hu => by rw [← hG1]; exact hOKG.nx hu
  have HND := Lib.hid (hN k)
  have hA1 := hA.putW K k (nxs G k).length
  have HW := Lib.hid (startW_succ G k)
  have HH := Lib.hid (startH_succ G k)
  have HBK := Lib.hid (bkK_succ G k)
  have hhl : (startO G k).heap.length ≤ 65536 := by
    have := nodup_lt (startH_nodup G k) (fun x hx => ((startH_mem G k x).1 hx).1)
    omega
  have wc0 := hA.wt.cell hlt
  have wf0 := hA.wt.frozen k
  have wl0 := hA.wt.lt
  have HA1 := Lib.hid hA1
  clear hA hA1 hQ hr1 hr2 hN
  generalize (startO G k).heap = hp at *
  generalize (startO G k).waits = wt at *
  generalize hnx : nxs G k = l at *
  show (Code.block 1 _).wp _ _ _ _
  dsimp only
  go_upto_block 2 with fail
  have hF1 : Fr [] w1 (wr.setCell ⟨Wt, k, none⟩ (.int .i64 (l.length : Int))) := hF.setCell (.inr hI.1) _
  have hS1 : B ≤ (wr.setCell ⟨Wt, k, none⟩ (.int .i64 (l.length : Int))).heap.size := by simpa using hS
  clear wc0 wf0 wl0 hF hS hcr
  generalize wr.setCell ⟨Wt, k, none⟩ (.int .i64 (l.length : Int)) = W1 at *
  have HGR := Lib.hid hGR
  clear hGR
  have hl3 : l.length ≤ 65536 := hr3
  clear hr3
  obtain ⟨i0, hi0, hz0, hz1, hz2⟩ := info_parts infoInt
  go_cut [13] from 54 to 68 (fun _ wx => ∃ rows', OAt Wt Bk R B spots.length (upd wt k l.length) hp rows' (bkK G (k + 1)) hv wx ∧ Fr [] w1 wx ∧ B ≤ wx.heap.size)
  case first =>
    go_wp2_with fail
    go_loopw [13, 54] (fun _ i wx => ∃ (j : Nat) (rows' : Nat → Value), i = .int .i64 (j : Int) ∧ j ≤ l.length ∧ OAt Wt Bk R B spots.length (upd wt k l.length) hp rows' (fun u => bkK G k u ++ if u ∈ l.take j then [k] else []) hv wx ∧ Fr [] w1 wx ∧ B ≤ wx.heap.size) (fun _ i _ => l.length - (intOf i).toNat)
    case atStart => exact ⟨0, rows, rfl, by omega, HA1.out.congr (fun u _ => by simp), hF1, hS1⟩
    case round =>
      obtain ⟨j, rows', rfl, hj, hAj, hFj, hSj⟩ := hrel
      by_cases hjl : j < l.length
      · obtain ⟨b, off, _, e, hb, c0⟩ := nums_cell (HL.out.fr0 hFj) hjl
        cases e
        have hj1 : (j : Int) < (l.length : Int) := by omega
        have hu := HM.out l[j] (List.getElem_mem hjl)
        have hnt : l[j] ∉ l.take j := fun hm => by
          obtain ⟨i, hi, e⟩ := List.mem_take_iff_getElem.1 hm
          have := (List.getElem_inj HND.out).1 e
          omega
        have HTK := Lib.hid (List.take_succ_eq_append_getElem hjl)
        generalize l[j] = u at *
        have hu1 : (u : Int) < (spots.length : Int) := by omega
        have hbl : (bkK G k u ++ if u ∈ l.take j then [k] else []) = bkK G k u := by simp [hnt]
        have hown := hAj.row u hu
        simp only [hbl] at hown
        have hbkl : (bkK G k u).length ≤ 65536 := by
          unfold bkK
          refine Nat.le_trans (List.length_filter_le _ _) ?_
          rw [List.length_range]
          omega
        obtain ⟨q1, n1, p1, hru⟩ := own_form hown
        have cB := hAj.bk.cell hu
        have lB := hAj.bk.lt
        have HOWN := Lib.hid hown
        have HRU := Lib.hid hru
        rw [hru] at cB
        rw [hru] at hown
        have hown2 := hown.alloc (.cells #[.int .i64 (k : Int)] tI)
        have HAJ := Lib.hid hAj
        have HNT := Lib.hid hnt
        have HBL := Lib.hid hbl
        clear hAj hru hnt hbl hown
        go_wp2_with (at_builtin; refine wpList_append_lies _ rfl _ _ 29 rfl B tI i0 _ 1 8 Try.underlying29 hi0 hz0 hz1 hz2 rfl (by decide) _ _ _ rfl hown2 ⟨wr.heap.size, 0, none⟩ 1 1 (nC k) rfl rfl (by have := news_of wr (nC k) tI; simpa using this) (one_mem rfl) (by omega) (by unfold maxLen; omega) (by omega) (by simp; omega) (wr.heap.size + 1) (by simp) ?_; intro gg cap w7 hown7 hgrow hat hlt7; have hB7 := row_fr (row_fr HAJ.out.bk ((Fr.refl [] wr).alloc (.cells #[.int .i64 (k : Int)] tI)) (by simp)) (fr_grown hgrow) (low_not hown2 K.b); have hB7c := hB7.cell hu; have hB7f := hB7.frozen u; have hB7l := hB7.lt)
        have hfa : Fr [] wr (wr.alloc (.cells #[.int .i64 (k : Int)] tI)) := (Fr.refl [] wr).alloc _
        have hgr2 : (wr.alloc (.cells #[.int .i64 (k : Int)] tI)).grownBy w7 (rows' u).ownBlock := by rw [HRU.out]; exact hgrow
        have h8 := (HAJ.out.fr0 hfa).backed K hu (x := k) (v2 := .slice (some ⟨gg, 0, none⟩) ((bkK G k u).length + 1) cap) hgr2 (by
          rw [HBL.out]
          exact hown7) (fun k' hk' => by
            cases hk'
            rcases hat with h | h
            · exact .inl (by rw [HRU.out]; exact h)
            · exact .inr (by simp; omega))
        have h9 := h8.congr (bl2 := fun a => bkK G k a ++ if a ∈ l.take (j + 1) then [k] else []) (fun a _ => by
          simp only [HTK.out, List.mem_append, List.mem_singleton]
          by_cases e : a = u
          · subst e
            simp [upd_same, HNT.out]
          · simp [upd_other e, e])
        have H9 := Lib.hid h9
        have hF9 : Fr [] w1 (w7.setCell ⟨Bk, u, none⟩ (.slice (some ⟨gg, 0, none⟩) ((bkK G k u).length + 1) cap)) := ((hFj.alloc _).grown hgrow (fun k' hk' => .inr (by have := (hown2.lt k' hk').1; omega))).setCell (.inr hI.2.1) _
        have hS9 : B ≤ (w7.setCell ⟨Bk, u, none⟩ (.slice (some ⟨gg, 0, none⟩) ((bkK G k u).length + 1) cap)).heap.size := by
          have := hgrow.size
          simp at this ⊢
          omega
        clear h8 h9 hgr2 hown7 hgrow hat hB7
        go_wp2
        go_roundw
        case rel => exact ⟨j + 1, _, by go_num, by omega, H9.out, hF9, hS9⟩
        case measure => simp [intOf]; omega
      · obtain rfl : j = l.length := by omega
        rw [List.take_length] at hAj
        have HAJ := Lib.hid (hAj.congr (bl2 := bkK G (k + 1)) (fun u _ => HBK.out u))
        clear hAj
        go_wp2
        go_meet
        exact ⟨_, HAJ.out, hFj, hSj⟩
  case rest =>
    obtain ⟨rows2, hA2, hF2, hS2⟩ := hcut
    have HA2 := Lib.hid hA2
    clear hA2
    by_cases h0 : l.length = 0
    · have h0i : (l.length : Int) = 0 := by omega
      have hl0 : l = [] := List.eq_nil_of_length_eq_zero h0
      rw [if_pos hl0] at HH
      have h00 : ((l.length : Int) == 0) = true := by rw [h0i]; rfl
      have HP := Lib.hid (hPush R B hv hp k wc HA2.out.heap hhl hS2)
      clear h0 h0i hl0
      go_wp2_with fail
      refine HP.out.mono ?_
      rintro e w9 ⟨rfl, v1, hH9, hf9, hn9⟩
      have hA9 := HA2.out.heaped K hf9 hH9 hn9
      have HA9 := Lib.hid hA9
      have hF9 : Fr [] w1 w9 := hF2.trans hf9 (fun x hx => .inr (by
        rcases List.mem_cons.1 hx with e | hx
        · rw [e]; have := K.r; omega
        · have := (own_hp HA2.out.heap.row (g := x) (by simpa using hx)).1; omega))
      have hS9 := Nat.le_trans hS2 hf9.size
      clear hA9 hH9 hf9 hn9
      go_wp2
      apply HQ.out
      · rw [HW.out, HH.out]
        exact HA9.out
      · exact hF9
      · exact hS9
    · have h00 : ((l.length : Int) == 0) = false := by rw [beq_eq_false_iff_ne]; omega
      rw [if_neg (fun e => h0 (by rw [e]; rfl))] at HH
      clear h0
      go_wp2
      apply HQ.out
      · rw [HW.out, HH.out]
        exact HA2.out
      · exact hF2
      · exact hS2
end Go.Proofs.Ytdlpbpohbkcafaa
