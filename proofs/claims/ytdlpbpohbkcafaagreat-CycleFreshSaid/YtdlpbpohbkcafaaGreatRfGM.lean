/-
  quadrilleref21.graph: all nodes go into the tables.
  quadrilleref21.graph: the walk.
-/
import Derived.Test.YtdlpbpohbkcafaaGreatRfGB
import Derived.Test.YtdlpbpohbkcafaaGreatRfT
import Derived.Test.YtdlpbpohbkcafaaGreatRfF
import Derived.Test.YtdlpbpohbkcafaaGreatRfE
import Derived.Test.YtdlpbpohbkcafaaGreatRfGE
namespace Go.Proofs.YtdlpbpohbkcafaaGreat
section
open Go.RowKit Go.Shelf Go.Sort Go.Proofs

def GJ (w0 : World) (G T F B : Nat) (av : Value) (ns : List Nd) (k : Nat) (rows : List Value) (w : World) : Prop := GB w0 G T F B av (gSp ns) rows (tabK ns k) w ∧ B ≤ w.heap.size
set_option maxRecDepth 100000 in
set_option maxHeartbeats 3200000 in
theorem graphNodes (w0 : World) (G T F B : Nat) (v0 av : Value) (ns : List Nd) (rows : List Value) (w : World) {s1 s2 s3 s4 s5 s7 s8 s9 s11 s12 s13 s14 s15 s16 s17 s18 s19 s20 s21 s22 s23 s24 s25 s26 s27 s28 s29 s30 s31 s32 s33 s34 s35 s36 s37 s38 s39 s40 s41 s42 s43 s44 s45 s46 s47 s48 s49 s50 s51 s52 s53 s54 s55 s56 s57 s58 s59 s60 s61 s62 s63 s64 s65 s66 s67 s68 s69 s70 s71 s72 s73 s74 s75 s76 s77 s78 s79 s80 s81 s82 s83 s84 s85 s86 s87 s88 s89 s90 s91 s92 s93 s94 s95 s96 s97 s98 s99 s100 s101 s102 s103 s104 s105 s106 s107 s108 s109 s110 s111 s112 s113 s114 s115 s116 s117 s118 s119 s120 s121 s122 s123 s124 s125 s126 s127 s128 s129 s130 s131 s132 s133 s134 s135 s136 s137 s138 s139 s140 s141 s142 s143 s144 s145 s146 s147 s148 s149 s150 s151 s152 s153 s154 s155 s156 s157 s158 s159 s160 s161 s162 s163 s164 s165 s166 s167 s168 s169 s170 s171 s172 s173 s174 s175 s176 s177 s178 s179 s180 s181 s182 s183 s184 s185 s186 s187 s188 s189 s190 s191 s192 s193 s194 s195 s196 s197 s198 s199 s200 s201 s202 s203 s204 s205 s206 s207 s208 s209 s210 s211 s212 s213 s214 s215 s216 s217 s218 s219 s220 s221 s222 s223 s224 s225 s226 s227 s228 s229 s230 s231 s232 s233 s234 : Value}
    (hN : NodesAt w0 v0 ns) (hJ : GJ w0 G T F B av ns 0 rows w) (hnd : (atsN ns).Nodup) (hl : ns.length ≤ 65536) (ht : tot ns ≤ 1048576) (Q : Exit → Act → World → Prop)
    (hQ : ∀ (n10 n11 n12 n13 n14 n15 n132 n133 n134 n135 n136 n137 n138 n139 n140 n141 n142 n143 n144 n145 n146 n147 n148 n149 n150 n151 n152 n153 n154 n155 n156 n157 n158 n159 n160 n161 n162 n163 n164 n165 n166 n167 n168 n169 n170 n171 n172 n173 n174 n175 n176 n177 n178 n179 n180 n181 n182 n183 n184 n185 n186 n187 n188 n189 n190 n191 n192 n193 n194 n195 n196 n197 n198 n199 n200 n201 n202 n203 n204 n205 n206 n207 n208 n209 n210 n211 n212 n213 n214 n215 n216 n217 n218 n219 n220 n221 n222 n223 n224 n225 n226 n227 n228 n229 n230 n231 n232 n233 : Value) (rows' : List Value) (w' : World), GJ w0 G T F B av ns ns.length rows' w' → Q .normal { tmps := #[v0, s1, s2, s3, s4, s5, .pointer (some ⟨G, 0, none⟩), s7, s8, s9, n10, n11, n12, n13, n14, n15, s16, s17, s18, s19, s20, s21, s22, s23, s24, s25, s26, s27, s28, s29, s30, s31, s32, s33, s34, s35, s36, s37, s38, s39, s40, s41, s42, s43, s44, s45, s46, s47, s48, s49, s50, s51, s52, s53, s54, s55, s56, s57, s58, s59, s60, s61, s62, s63, s64, s65, s66, s67, s68, s69, s70, s71, s72, s73, s74, s75, s76, s77, s78, s79, s80, s81, s82, s83, s84, s85, s86, s87, s88, s89, s90, s91, s92, s93, s94, s95, s96, s97, s98, s99, s100, s101, s102, s103, s104, s105, s106, s107, s108, s109, s110, s111, s112, s113, s114, s115, s116, s117, s118, s119, s120, s121, s122, s123, s124, s125, s126, s127, s128, s129, s130, s131, n132, n133, n134, n135, n136, n137, n138, n139, n140, n141, n142, n143, n144, n145, n146, n147, n148, n149, n150, n151, n152, n153, n154, n155, n156, n157, n158, n159, n160, n161, n162, n163, n164, n165, n166, n167, n168, n169, n170, n171, n172, n173, n174, n175, n176, n177, n178, n179, n180, n181, n182, n183, n184, n185, n186, n187, n188, n189, n190, n191, n192, n193, n194, n195, n196, n197, n198, n199, n200, n201, n202, n203, n204, n205, n206, n207, n208, n209, n210, n211, n212, n213, n214, n215, n216, n217, n218, n219, n220, n221, n222, n223, n224, n225, n226, n227, n228, n229, n230, n231, n232, n233, s234], defers := [] } w') :
    (subC [1, 1, 1, 1, 1, 1, 1, 1, 1, 1, 0, 1] (Tryz.f30.body.getD .skip)).wp Tryz.prog Q { tmps := #[v0, s1, s2, s3, s4, s5, .pointer (some ⟨G, 0, none⟩), s7, s8, s9, .int .i64 0, s11, s12, s13, s14, s15, s16, s17, s18, s19, s20, s21, s22, s23, s24, s25, s26, s27, s28, s29, s30, s31, s32, s33, s34, s35, s36, s37, s38, s39, s40, s41, s42, s43, s44, s45, s46, s47, s48, s49, s50, s51, s52, s53, s54, s55, s56, s57, s58, s59, s60, s61, s62, s63, s64, s65, s66, s67, s68, s69, s70, s71, s72, s73, s74, s75, s76, s77, s78, s79, s80, s81, s82, s83, s84, s85, s86, s87, s88, s89, s90, s91, s92, s93, s94, s95, s96, s97, s98, s99, s100, s101, s102, s103, s104, s105, s106, s107, s108, s109, s110, s111, s112, s113, s114, s115, s116, s117, s118, s119, s120, s121, s122, s123, s124, s125, s126, s127, s128, s129, s130, s131, s132, s133, s134, s135, s136, s137, s138, s139, s140, s141, s142, s143, s144, s145, s146, s147, s148, s149, s150, s151, s152, s153, s154, s155, s156, s157, s158, s159, s160, s161, s162, s163, s164, s165, s166, s167, s168, s169, s170, s171, s172, s173, s174, s175, s176, s177, s178, s179, s180, s181, s182, s183, s184, s185, s186, s187, s188, s189, s190, s191, s192, s193, s194, s195, s196, s197, s198, s199, s200, s201, s202, s203, s204, s205, s206, s207, s208, s209, s210, s211, s212, s213, s214, s215, s216, s217, s218, s219, s220, s221, s222, s223, s224, s225, s226, s227, s228, s229, s230, s231, s232, s233, s234], defers := [] } w := by
  have HQ := Lib.hid hQ
  have HN := Lib.hid hN
  have HJ := Lib.hid hJ
  have HND := Lib.hid hnd
  have HSO := Lib.hid (sortS_lt hnd)
  have hlg : (gSp ns).length ≤ 65536 := by rw [gSp_len]; exact hl
  have HLG := Lib.hid (gSp_len ns)
  have HSN := Lib.hid ((gSp_nodup ns).2 hnd)
  obtain ⟨vq, vc, rfl, hv1, hv2⟩ := hN.row.form
  clear hQ hN hJ hnd
  show (Code.block 8 _).wp _ _ _ _
  dsimp only
  go_wp2_with fail
  go_loopw [10] (fun i wr => ∃ (k : Nat) (rows : List Value), i = .int .i64 (k : Int) ∧ k ≤ ns.length ∧ GJ w0 G T F B av ns k rows wr) (fun i _ => ns.length - (intOf i).toNat)
  case atStart => exact ⟨0, rows, rfl, by omega, HJ.out⟩
  case round =>
    obtain ⟨k, rows, rfl, hk, hJ⟩ := hrel
    have HJR := Lib.hid hJ
    clear hJ HJ
    by_cases hlt : k < ns.length
    · obtain ⟨b, off, _, e, hbl, c0, c1, _⟩ := (HN.out.fr0 HJR.out.1.fr).cell hlt
      cases e
      have hk1 : (k : Int) < (ns.length : Int) := by omega
      have HIN : Hid (ns[k].at_ ∈ gSp ns) := (gSp_mem _ _).2 (List.mem_map.2 ⟨_, List.getElem_mem hlt, rfl⟩)
      have hnl : ns[k].next.length ≤ 1048576 := by
        have h1 := tot_take ns (k + 1)
        rw [List.take_succ_eq_append_getElem hlt, tot_snoc] at h1
        omega
      have HNL := Lib.hid hnl
      have HTE := Lib.hid (tabP_end HND.out hlt)
      have HTZ := Lib.hid (tabP_zero HND.out hlt (sortN (hits (gSp ns) ns[k].next)))
      have HFD := Lib.hid (rfFind G av (.slice (some ⟨T, 0, none⟩) (gSp ns).length (gSp ns).length) (.slice (some ⟨F, 0, none⟩) (gSp ns).length (gSp ns).length) (gSp ns) ns[k].at_ wr HJR.out.1.box (own_sl HJR.out.1.row) HSO.out hlg)
      rw [posI_yes HIN.out] at HFD
      have hix := List.idxOf_lt_length_of_mem HIN.out
      generalize hs : ns[k].at_ = s at *
      clear hs
      generalize hixe : (gSp ns).idxOf s = ix at *
      clear hixe
      go_wp2_with fail
      refine HFD.out.mono ?_
      rintro e w1 ⟨rfl, h1⟩
      go_upto_block 10 with fail
      have HJ1 := Lib.hid (HJR.out.1.fr0 h1)
      have hsz1 := Nat.le_trans HJR.out.2 h1.size
      clear h1 HJR HFD c0 c1
      refine graphHits w0 G k _ av _ _ (gSp ns) ns w1 HN.out HJ1.out.fr HJ1.out.box HJ1.out.row hlg HSO.out hlt (by have := HNL.out; omega) _ ?_
      intros
      rename_i w2 h2 hrow2
      dsimp only
      have hzl := hits_len (gSp ns) ns[k].next
      have HZB : Hid (∀ x ∈ sortN (hits (gSp ns) ns[k].next), x < (gSp ns).length) := fun x hx => ((hits_mem HSN.out).1 ((sortN_perm _).mem_iff.1 hx)).1
      have HZL : Hid ((sortN (hits (gSp ns) ns[k].next)).length ≤ 4000000) := by
        show _ ≤ _
        have := HNL.out
        rw [sortN_len]
        omega
      have hzl2 : (hits (gSp ns) ns[k].next).length < 4611686018427387904 := by have := HNL.out; omega
      generalize hits (gSp ns) ns[k].next = zs at *
      have HROW2 := Lib.hid hrow2
      have HF2 := Lib.hid h2
      clear h2 hrow2 hzl
      go_wp2_with fail
      refine (intsC zs _ hzl2 HROW2.out).mono ?_
      rintro e w3 ⟨rfl, hrow3, hg3⟩
      go_upto_block 12 with fail
      have hf13 : Fr [] w1 w3 := HF2.out.trans (fr_grown hg3) (fun x hx => .inr ((HROW2.out.lt x (by simpa using hx)).1))
      rw [← sortN_len] at hrow3
      have hP := PutJ.mk (LB := w1.heap.size) (n := B) (a := ix) (k := k) (ns := ns) (m := sortN zs) (p := 0) ((HJ1.out.fr0 hf13).congr fun j _ => (HTZ.out j).symm) hrow3 (fun j hj g hg hg2 => by
        have := ((HJ1.out.tw.own j hj).lt g hg).2
        have := (hrow3.lt g hg2).1
        omega) (Nat.le_trans hsz1 hf13.size)
      have HP := Lib.hid hP
      clear hP hrow3 hg3 hf13 HJ1 HTZ
      refine graphPuts w0 G T F B w1.heap.size B ix k av _ (gSp ns) ns (sortN zs) rows w3 HP.out HLG.out hlg (by omega) hix HZB.out (sortN_le zs) HZL.out (Nat.le_refl _) _ ?_
      intros
      rename_i rows' w4 hP4
      have HJ4 : Hid (GJ w0 G T F B av ns (k + 1) rows' w4) := ⟨hP4.gb.congr fun j _ => HTE.out j, hP4.sz⟩
      clear hP4
      dsimp only
      go_wp2
      go_roundw
      case rel => exact ⟨k + 1, rows', by go_num, by omega, HJ4.out⟩
      case measure => simp [intOf]; omega
    · obtain rfl : k = ns.length := by omega
      go_wp2
      apply HQ.out
      exact HJR.out
end
section
open Go.RowKit Go.Shelf Go.Sort Go.Proofs

/-- The document's graph in memory. -/
structure RfG (w : World) (G : Nat) (l : List Sp) (g F : Dg) : Prop where
  ex : ∃ av tv fv, w.heap[G]? = some (.cells #[av, tv, fv] tGr (0, 0)) ∧ SpotsAt w av l ∧ ToAt w tv g ∧ ToAt w fv F
theorem RfG.fr0 {w w1 : World} {G : Nat} {l : List Sp} {g F : Dg} (h : RfG w G l g F) (hf : Fr [] w w1) : RfG w1 G l g F := by
  obtain ⟨av, tv, fv, h1, h2, h3, h4⟩ := h.ex
  exact ⟨av, tv, fv, hf.heap h1 (by simp), h2.fr0 hf, h3.fr0 hf, h4.fr0 hf⟩
def GraphPost (ns : List Nd) (w : World) (e : Ending) (w1 : World) : Prop :=
  Fr [] w w1 ∧ ((madeE ns ≠ 0 ∧ e = .returned (.tuple #[.pointer none, .int .i64 (madeE ns)])) ∨ (madeE ns = 0 ∧ ∃ G, e = .returned (.tuple #[.pointer (some ⟨G, 0, none⟩), .int .i64 0]) ∧ RfG w1 G (gSp ns) (gNx ns) (gFr ns)))
theorem GraphPost.no {ns : List Nd} {w w1 : World} {E : Int} (hf : Fr [] w w1) (hE : madeE ns = E) (h0 : E ≠ 0) : GraphPost ns w (.returned (.tuple #[.pointer none, .int .i64 E])) w1 := by
  subst hE
  exact ⟨hf, .inl ⟨h0, rfl⟩⟩
theorem sortS_ge (l : List Sp) : (sortS l).Pairwise fun x y => ltS y x = false := by
  have := List.pairwise_mergeSort (le := fun a b => !ltS b a) (fun a b c h1 h2 => by
    simp only [ltS, Bool.not_eq_true', decide_eq_false_iff_not] at *; omega) (fun a b => by
    simp only [ltS, Bool.or_eq_true, Bool.not_eq_true', decide_eq_false_iff_not]; omega) l
  exact this.imp fun h => by simpa using h
/-- Both tables, whole. -/
theorem GJ.done {w0 : World} {G T F B : Nat} {av : Value} {ns : List Nd} {rows : List Value} {w : World} (h : GJ w0 G T F B av ns ns.length rows w) (hl : ns.length ≤ 65536) : RfG w G (gSp ns) (gNx ns) (gFr ns) := by
  obtain ⟨⟨hb, hr, ht, _, _⟩, _⟩ := h
  have e := gSp_len ns
  have hlen := ht.len
  rw [e] at hlen
  refine ⟨_, _, _, hb, own_sl hr, ⟨rows.take ns.length, ?_, fun k hk => ?_⟩, ⟨rows.drop ns.length, ?_, fun k hk => ?_⟩⟩
  · rw [e, gNx_len]
    have := ht.t
    rw [e] at this
    exact SlAt.of_block this (by rw [List.length_take]; omega) (by omega)
  · rw [gNx_len] at hk
    have hk2 : k < rows.length := by omega
    refine ⟨rows[k], by rw [List.getElem?_take_of_lt hk, List.getElem?_eq_getElem hk2], ?_⟩
    have := own_sl (ht.own k hk2)
    have e2 : tabK ns ns.length k = (gNx ns)[k]'(by rw [gNx_len]; exact hk) := by
      unfold tabK
      rw [if_pos hk]
      exact doneAt_all (by rw [gNx_len]; exact hk)
    rw [e2] at this
    exact this
  · rw [e, gFr_len]
    have := ht.f
    rw [e] at this
    exact SlAt.of_block this (by rw [List.length_drop]; omega) (by omega)
  · rw [gFr_len] at hk
    have hk2 : ns.length + k < rows.length := by omega
    refine ⟨rows[ns.length + k], by rw [List.getElem?_drop, List.getElem?_eq_getElem hk2], ?_⟩
    have := own_sl (ht.own (ns.length + k) hk2)
    have e2 : tabK ns ns.length (ns.length + k) = (gFr ns)[k]'(by rw [gFr_len]; exact hk) := by
      unfold tabK
      rw [if_neg (by omega), Nat.add_sub_cancel_left, ← nxs_get (by rw [gFr_len]; exact hk), gFr_at hk]
    rw [e2] at this
    exact this
set_option maxRecDepth 100000 in
set_option maxHeartbeats 6400000 in
theorem rfGraph (v : Value) (ns : List Nd) (w : World) (hv : NodesAt w v ns) (hB : ns.length + tot ns ≤ 4194304) : Calls Tryz.prog 30 #[v] w (GraphPost ns w) := by
  have HV := Lib.hid hv
  obtain ⟨vq, vc, rfl, hc1, hc2⟩ := hv.row.form
  clear hv
  go_enter Tryz.func30, Tryz.ntmps30
  go_upto_block 0 with fail
  refine graphSum w _ ns _ w HV.out (Fr.refl [] w) hB _ ?_
  intros
  rename_i wa hfa
  dsimp only
  by_cases h2 : 65536 < ns.length ∨ 1048576 < tot ns
  · have HE : Hid (madeE ns = 2) := by show _ = _; unfold madeE; rw [if_pos h2]
    by_cases h65 : (65536 : Int) < (ns.length : Int)
    · clear h2
      generalize tot ns = t at *
      go_wp2
      go_ret2
      exact GraphPost.no hfa HE.out (by decide)
    · have hab : (1048576 : Int) < (tot ns : Int) := by omega
      clear h2
      generalize tot ns = t at *
      go_wp2
      go_ret2
      exact GraphPost.no hfa HE.out (by decide)
  · have h65 : ¬ (65536 : Int) < (ns.length : Int) := by omega
    have hab : ¬ (1048576 : Int) < (tot ns : Int) := by omega
    have hn65 : ns.length ≤ 65536 := by omega
    have HT : Hid (tot ns ≤ 1048576) := by show _ ≤ _; omega
    have HE0 : Hid (ns.any badN = false → (atsN ns).Nodup → madeE ns = 0) := fun h3 h4 => by
      unfold madeE
      rw [if_neg h2, if_neg (by rw [h3]; decide), if_neg (fun h => h h4)]
    have HE1 : Hid (ns.any badN = false → ¬ (atsN ns).Nodup → madeE ns = 1) := fun h3 h4 => by
      unfold madeE
      rw [if_neg h2, if_neg (by rw [h3]; decide)]
      exact if_pos h4
    have HE10 : Hid (ns.any badN = true → madeE ns = 10) := fun h3 => by
      unfold madeE
      rw [if_neg h2, if_pos h3]
    clear h2
    generalize tot ns = t at hB hab ⊢
    go_upto_block 2 with fail
    clear hab
    have hG := heap_new wa (.cells #[.slice none 0 0, .slice none 0 0, .slice none 0 0] tGr)
    have hW : Fr [] w (wa.alloc (.cells #[.slice none 0 0, .slice none 0 0, .slice none 0 0] tGr)) := hfa.alloc _
    have hGW : (wa.alloc (.cells #[.slice none 0 0, .slice none 0 0, .slice none 0 0] tGr)).heap.size = wa.heap.size + 1 := by simp
    have hwG := hfa.size
    generalize wa.alloc (.cells #[.slice none 0 0, .slice none 0 0, .slice none 0 0] tGr) = W at *
    generalize wa.heap.size = G at *
    have HW := Lib.hid hW
    have HGW := Lib.hid hGW
    have HG := Lib.hid hG
    clear hW hfa hGW hG
    refine graphMay w W G _ ns HV.out HW.out HG.out HGW.out hwG hn65 _ ?_ ?_
    · intros
      rename_i w2 sv hbad hbx hrow hf2
      dsimp only
      have HBAD := Lib.hid hbad
      have HBX := Lib.hid hbx
      have hal : (atsN ns).length = ns.length := by simp [atsN]
      have HAL := Lib.hid hal
      rw [← hal] at hrow
      have HROW := Lib.hid (owns_mono hrow (Nat.zero_le _))
      have HLO := Lib.hid hrow.lt
      have HF2 := Lib.hid (HW.out.trans hf2 (fun x hx => by rw [List.mem_singleton] at hx; exact .inr (by omega)))
      have hal2 : (atsN ns).length ≤ 65536 := by omega
      clear hbad hbx hrow hf2 hal HG
      go_wp2_with fail
      refine (grSort G sv _ _ (atsN ns) w2 HBX.out HROW.out hal2).mono ?_
      rintro e w3 ⟨rfl, hbx3, hrow3, hf3⟩
      have hF3 : Fr [] w w3 := HF2.out.trans hf3 (fun x hx => by
        rcases List.mem_cons.1 hx with rfl | hx
        · exact .inr hwG
        · refine .inr ?_
          have := (HLO.out x (by simpa using hx)).1
          omega)
      have HBX3 := Lib.hid hbx3
      have hrow4 : w3.ownsRow 0 tSp 2 sv (gSp ns).length ((gSp ns).flatMap spC) := by rw [gSp_len, ← HAL.out]; exact hrow3
      have HROW3 := Lib.hid hrow4
      have HF3 := Lib.hid hF3
      have HSLO : Hid (∀ g, sv.ownBlock = some g → G + 1 ≤ g) := fun g hg => (HLO.out g hg).1
      clear hbx3 hrow3 hf3 hF3 hrow4 HBX HROW HLO HF2
      go_upto_block 6 with fail
      refine graphTwice G sv _ _ (gSp ns) w3 HBX3.out (own_sl HROW3.out) (sortS_ge _) (by rw [gSp_len]; exact hn65) _ ?_ ?_
      · intros
        rename_i w4 hnd hf4
        dsimp only
        have HND := Lib.hid ((gSp_nodup ns).1 hnd)
        have HE := Lib.hid (HE0.out HBAD.out HND.out)
        have hbx4 := hf4.heap HBX3.out (by simp)
        have HROW4 := Lib.hid (owns_fr HROW3.out hf4 (by simp))
        have HF4 := Lib.hid (HF3.out.trans0 hf4)
        have hlg : (gSp ns).length ≤ 65536 := by rw [gSp_len]; exact hn65
        obtain ⟨sq, sc, rfl, hs1, hs2⟩ := (own_sl HROW4.out).form
        have b0 := cell_of hbx4 0
        have b1 := cell_of hbx4 1
        have b2 := cell_of hbx4 2
        have f1 := free_of hbx4 1
        have f2 := free_of hbx4 2
        have hGl := lt_of hbx4
        have hmk := mkSS (gSp ns).length (by omega)
        have HB4 := Lib.hid hbx4
        clear hbx4 hnd hf4 HF3 HROW3 HBX3
        go_upto_block 8 with fail
        clear b0 b1 b2 f1 f2 hmk
        have hF5 : Fr [G] w4 ((((w4.setCell ⟨G, 1, none⟩ (.slice (some ⟨w4.heap.size, 0, none⟩) (gSp ns).length (gSp ns).length)).setCell ⟨G, 2, none⟩ (.slice (some ⟨w4.heap.size + 1, 0, none⟩) (gSp ns).length (gSp ns).length)).alloc (.cells (Array.replicate (gSp ns).length (.slice none 0 0)) tSI)).alloc (.cells (Array.replicate (gSp ns).length (.slice none 0 0)) tSI)) := ((((Fr.refl [G] w4).setCell (.inl (by simp)) _).setCell (.inl (by simp)) _).alloc _).alloc _
        have hbox := hp_old (o := .cells (Array.replicate (gSp ns).length (.slice none 0 0)) tSI) (hp_old (o := .cells (Array.replicate (gSp ns).length (.slice none 0 0)) tSI) (set_of (set_of HB4.out 1 (.slice (some ⟨w4.heap.size, 0, none⟩) (gSp ns).length (gSp ns).length)) 2 (.slice (some ⟨w4.heap.size + 1, 0, none⟩) (gSp ns).length (gSp ns).length)))
        have hT5 : ((((w4.setCell ⟨G, 1, none⟩ (.slice (some ⟨w4.heap.size, 0, none⟩) (gSp ns).length (gSp ns).length)).setCell ⟨G, 2, none⟩ (.slice (some ⟨w4.heap.size + 1, 0, none⟩) (gSp ns).length (gSp ns).length)).alloc (.cells (Array.replicate (gSp ns).length (.slice none 0 0)) tSI)).alloc (.cells (Array.replicate (gSp ns).length (.slice none 0 0)) tSI)).heap[w4.heap.size]? = some (.cells (Array.replicate (gSp ns).length (.slice none 0 0)) tSI (0, 0)) := hp_old (hp_new (by simp))
        have hF5' : ((((w4.setCell ⟨G, 1, none⟩ (.slice (some ⟨w4.heap.size, 0, none⟩) (gSp ns).length (gSp ns).length)).setCell ⟨G, 2, none⟩ (.slice (some ⟨w4.heap.size + 1, 0, none⟩) (gSp ns).length (gSp ns).length)).alloc (.cells (Array.replicate (gSp ns).length (.slice none 0 0)) tSI)).alloc (.cells (Array.replicate (gSp ns).length (.slice none 0 0)) tSI)).heap[w4.heap.size + 1]? = some (.cells (Array.replicate (gSp ns).length (.slice none 0 0)) tSI (0, 0)) := hp_new (by simp)
        have hsz5 : w4.heap.size + 2 ≤ ((((w4.setCell ⟨G, 1, none⟩ (.slice (some ⟨w4.heap.size, 0, none⟩) (gSp ns).length (gSp ns).length)).setCell ⟨G, 2, none⟩ (.slice (some ⟨w4.heap.size + 1, 0, none⟩) (gSp ns).length (gSp ns).length)).alloc (.cells (Array.replicate (gSp ns).length (.slice none 0 0)) tSI)).alloc (.cells (Array.replicate (gSp ns).length (.slice none 0 0)) tSI)).heap.size := by simp
        generalize ((((w4.setCell ⟨G, 1, none⟩ (.slice (some ⟨w4.heap.size, 0, none⟩) (gSp ns).length (gSp ns).length)).setCell ⟨G, 2, none⟩ (.slice (some ⟨w4.heap.size + 1, 0, none⟩) (gSp ns).length (gSp ns).length)).alloc (.cells (Array.replicate (gSp ns).length (.slice none 0 0)) tSI)).alloc (.cells (Array.replicate (gSp ns).length (.slice none 0 0)) tSI)) = W5 at *
        have hw04 := HF4.out.size
        have hrow5 := owns_fr HROW4.out hF5 (fun g hg hm => by
          rw [List.mem_singleton] at hm
          have := HSLO.out g hg
          omega)
        have hJ : GJ w G w4.heap.size (w4.heap.size + 1) (w4.heap.size + 2) (.slice sq (gSp ns).length sc) ns 0 (List.replicate ((gSp ns).length + (gSp ns).length) (.slice none 0 0)) W5 := ⟨⟨hbox, hrow5, (Tw.start hT5 hF5' (by omega)).congr fun j _ => (tabK_zero ns j).symm, HF4.out.trans hF5 (fun x hx => by rw [List.mem_singleton] at hx; exact .inr (by omega)), by omega, by omega, by omega⟩, hsz5⟩
        have HJ := Lib.hid hJ
        clear hF5 hbox hT5 hF5' hsz5 hw04 hrow5 hJ HB4 HROW4 HSLO
        refine graphNodes w G w4.heap.size (w4.heap.size + 1) (w4.heap.size + 2) _ _ ns _ W5 HV.out HJ.out HND.out hn65 HT.out _ ?_
        intros
        rename_i rows' w6 hJ6
        have HJ6 := Lib.hid hJ6
        clear hJ6
        dsimp only
        go_wp2
        go_ret2
        exact ⟨HJ6.out.1.fr, .inr ⟨HE.out, G, rfl, HJ6.out.done hn65⟩⟩
      · intros
        rename_i w4 hnd hf4
        have HE := Lib.hid (HE1.out HBAD.out (fun h => hnd ((gSp_nodup ns).2 h)))
        clear hnd
        dsimp only [Exit.then, Exit.inBlock]
        go_ret2
        exact GraphPost.no (HF3.out.trans0 hf4) HE.out (by decide)
    · intros
      rename_i w2 hbad hf2
      have HE := Lib.hid (HE10.out hbad)
      clear hbad
      dsimp only [Exit.then, Exit.inBlock]
      go_ret2
      exact GraphPost.no (HW.out.trans hf2 (fun x hx => by rw [List.mem_singleton] at hx; exact .inr (by omega))) HE.out (by decide)
end
end Go.Proofs.YtdlpbpohbkcafaaGreat
