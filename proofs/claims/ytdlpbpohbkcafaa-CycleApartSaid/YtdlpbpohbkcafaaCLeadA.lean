/-
  cycle.Leads: the way from one place on.
-/
import Derived.Test.YtdlpbpohbkcafaaCLeadM
import Derived.Test.YtdlpbpohbkcafaaCRingS
import Derived.Test.YtdlpbpohbkcafaaCOrdM
import Derived.Deep.LoopGhost
import Derived.Deep.CutBlock
namespace Go.Proofs.Ytdlpbpohbkcafaa
open Go.RowKit Go.Shelf Go.Sort Go.Proofs

/-- A way that has come to its end. -/
structure WayIs (G : Dg) (st0 st : Nat → Nat) (W L : List Nat) (n a v : Nat) : Prop where
  w : OkW G st0 st W n
  way : Way G W L
  vlt : v < n
  fin : (L = [] ∧ W ≠ []) ∨ (L = [v] ∧ st v ≠ 0)
  from' : a ∈ W ∨ st0 a = 2

set_option maxRecDepth 100000 in
set_option maxHeartbeats 3200000 in
theorem leadsWay (w1 : World) (g Ou St B a : Nat) (spots : List Sp) (G : Dg) (st0 : Nat → Nat) (sv nv : Value) (nl nc bn on : Nat) (w : World) {s0 s1 s2 s3 s5 s6 s7 s11 s14 s15 s16 s17 s18 s19 s20 s21 s22 s23 s24 s25 s26 s27 s28 s29 s30 s31 s32 s33 s34 s35 s36 s37 s38 s39 s40 s41 s42 s43 s44 s45 s46 s47 s48 s49 s50 s51 s52 s53 s54 s55 s56 s57 s58 s59 s60 s61 s62 s63 s64 s65 s66 s67 s68 s69 s70 s71 s72 s73 s74 s75 s76 s77 s78 s79 s80 s81 s82 s83 s84 s85 s86 s87 s88 s89 s90 s91 s92 s93 s94 s95 s96 s97 s98 s99 s100 s101 s102 s103 s104 s105 s106 s107 s108 s109 s110 s111 s112 s113 s114 s115 s116 s117 s118 s119 s120 s121 s122 s123 s124 s125 s126 s127 s128 s129 s130 s131 s132 s133 s134 s135 s136 s137 s138 s139 s140 s141 s142 s143 s144 s145 s146 s147 s148 s149 s150 s151 s152 s153 s154 s155 s156 s157 s158 s159 s160 s161 s162 s163 s164 s165 s166 s167 s168 s169 s170 s171 s172 s173 s174 s175 s176 s177 s178 s179 s180 s181 s182 s183 s184 s185 s186 s187 s188 s189 s190 s191 s192 s193 s194 s195 s196 s197 s198 s199 s200 s201 : Value} (K : LBlk Ou St B) (hI : w1.heap.size ≤ Ou ∧ w1.heap.size ≤ St ∧ w1.heap.size ≤ B)
    (hGR : GrAt w1 g spots G sv nv nl nc bn on) (hG : OkG G) (h1 : ∀ x, x < spots.length → (nxs G x).length ≤ 1) (hst : ∀ x, x < spots.length → st0 x = 0 ∨ st0 x = 2) (ha : a < spots.length)
    (hA : LAt Ou St spots.length spots G st0 w) (hF : Fr [] w1 w) (hS : B ≤ w.heap.size) (Q : Exit → Act → World → Prop)
    (hQ : ∀ (n12 n56 n57 n58 n59 n60 n61 n62 n63 n64 n65 n66 n67 n68 n69 n70 n71 n72 n73 n74 n75 n76 n77 n78 n79 n80 n81 n82 n83 n84 n85 : Value) (v : Nat) (W L : List Nat) (st : Nat → Nat) (w' : World), WayIs G st0 st W L spots.length a v → LAt Ou St spots.length spots G st w' → w'.ownsRow B tI 1 n12 W.length (W.flatMap nC) → Fr [] w1 w' → B ≤ w'.heap.size → Q .normal { tmps := #[s0, s1, s2, s3, .pointer (some ⟨g, 0, none⟩), s5, s6, s7, .int .i64 (spots.length : Int), .slice (some ⟨Ou, 0, none⟩) spots.length spots.length, .slice (some ⟨St, 0, none⟩) spots.length spots.length, s11, n12, .int .i64 (v : Int), s14, s15, s16, s17, s18, s19, s20, s21, s22, s23, s24, s25, s26, s27, s28, s29, s30, s31, s32, s33, s34, s35, s36, s37, s38, s39, s40, s41, s42, s43, s44, s45, s46, s47, s48, s49, s50, s51, s52, s53, s54, s55, n56, n57, n58, n59, n60, n61, n62, n63, n64, n65, n66, n67, n68, n69, n70, n71, n72, n73, n74, n75, n76, n77, n78, n79, n80, n81, n82, n83, n84, n85, s86, s87, s88, s89, s90, s91, s92, s93, s94, s95, s96, s97, s98, s99, s100, s101, s102, s103, s104, s105, s106, s107, s108, s109, s110, s111, s112, s113, s114, s115, s116, s117, s118, s119, s120, s121, s122, s123, s124, s125, s126, s127, s128, s129, s130, s131, s132, s133, s134, s135, s136, s137, s138, s139, s140, s141, s142, s143, s144, s145, s146, s147, s148, s149, s150, s151, s152, s153, s154, s155, s156, s157, s158, s159, s160, s161, s162, s163, s164, s165, s166, s167, s168, s169, s170, s171, s172, s173, s174, s175, s176, s177, s178, s179, s180, s181, s182, s183, s184, s185, s186, s187, s188, s189, s190, s191, s192, s193, s194, s195, s196, s197, s198, s199, s200, s201], defers := [] } w') :
    (subC [1, 1, 1, 1, 1, 1, 1, 0, 1, 0, 0, 1, 1, 0, 0, 1, 1, 1, 0] (Try.f15.body.getD .skip)).wp Try.prog Q { tmps := #[s0, s1, s2, s3, .pointer (some ⟨g, 0, none⟩), s5, s6, s7, .int .i64 (spots.length : Int), .slice (some ⟨Ou, 0, none⟩) spots.length spots.length, .slice (some ⟨St, 0, none⟩) spots.length spots.length, s11, .slice none 0 0, .int .i64 (a : Int), s14, s15, s16, s17, s18, s19, s20, s21, s22, s23, s24, s25, s26, s27, s28, s29, s30, s31, s32, s33, s34, s35, s36, s37, s38, s39, s40, s41, s42, s43, s44, s45, s46, s47, s48, s49, s50, s51, s52, s53, s54, s55, s56, s57, s58, s59, s60, s61, s62, s63, s64, s65, s66, s67, s68, s69, s70, s71, s72, s73, s74, s75, s76, s77, s78, s79, s80, s81, s82, s83, s84, s85, s86, s87, s88, s89, s90, s91, s92, s93, s94, s95, s96, s97, s98, s99, s100, s101, s102, s103, s104, s105, s106, s107, s108, s109, s110, s111, s112, s113, s114, s115, s116, s117, s118, s119, s120, s121, s122, s123, s124, s125, s126, s127, s128, s129, s130, s131, s132, s133, s134, s135, s136, s137, s138, s139, s140, s141, s142, s143, s144, s145, s146, s147, s148, s149, s150, s151, s152, s153, s154, s155, s156, s157, s158, s159, s160, s161, s162, s163, s164, s165, s166, s167, s168, s169, s170, s171, s172, s173, s174, s175, s176, s177, s178, s179, s180, s181, s182, s183, s184, s185, s186, s187, s188, s189, s190, s191, s192, s193, s194, s195, s196, s197, s198, s199, s200, s201], defers := [] } w := by
  have HQ := Lib.hid hQ
  have HA := Lib.hid hA
  have HG := Lib.hid hG
  have H1 := Lib.hid h1
  have HST := Lib.hid hst
  have hG1 := hGR.len
  have hnl := hGR.nl
  have hnv := hGR.nv
  subst hnv
  subst hnl
  have hsl := hGR.lt
  have HGR := Lib.hid hGR
  clear hQ hA hG h1 hst hGR
  show (Code.block 4 _).wp _ _ _ _
  dsimp only
  obtain ⟨i0, hi0, hz0, hz1, hz2⟩ := info_parts infoInt
  go_wp2_with fail
  go_loopg [12, 13] spots.length (fun fu wv vv wr => ∃ (v : Nat) (W : List Nat) (st : Nat → Nat), vv = .int .i64 (v : Int) ∧ v < spots.length ∧ W.length + fu = spots.length ∧ OkW G st0 st W spots.length ∧ Way G W [v] ∧ (a ∈ W ∨ (W = [] ∧ v = a)) ∧ LAt Ou St spots.length spots G st wr ∧ wr.ownsRow B tI 1 wv W.length (W.flatMap nC) ∧ Fr [] w1 wr ∧ B ≤ wr.heap.size)
  case atStart => exact ⟨a, [], st0, rfl, ha, by simp, OkW.nil _ _ _, Way.nil _ _, .inr ⟨rfl, rfl⟩, HA.out, World.ownsRow_nil _ _ _ _, hF, hS⟩
  case round =>
    obtain ⟨v, W, st, rfl, hv, hfu, hW, hWay, hfrom, hAr, hOr, hFr, hSr⟩ := hrel
    have hv1 : (v : Int) < (spots.length : Int) := by omega
    have t0 := hAr.state.cell hv
    have t1 := hAr.state.frozen v
    have t2 := hAr.state.lt
    have HW := Lib.hid hW
    have HWAY := Lib.hid hWay
    have HFROM := Lib.hid hfrom
    have HAR := Lib.hid hAr
    have HOR := Lib.hid hOr
    clear hW hWay hfrom hAr hOr
    by_cases h0 : st v = 0
    · have t0' : wr.cell? ⟨St, v, none⟩ = some (.int .i64 0) := by rw [t0, h0]; rfl
      have hWl : W.length < spots.length := by
        have h3 : (W ++ [v]).Nodup := (HW.out.snoc h0 hv).nd
        have := nodup_lt h3 (n := spots.length) (HW.out.snoc h0 hv).lt
        simp at this
        omega
      obtain ⟨f, rfl⟩ : ∃ f, gk = f + 1 := ⟨gk - 1, by omega⟩
      have hA1 := HAR.out.one K.os (v := v) (by omega)
      have HA1 := Lib.hid hA1
      have HO1 := Lib.hid (owns_fr HOR.out (fr_cell wr St v (.int .i64 1)) (own_low HOR.out K.s))
      have hF1 : Fr [] w1 (wr.setCell ⟨St, v, none⟩ (.int .i64 1)) := hFr.setCell (.inr hI.2.1) _
      have hS1 : B ≤ (wr.setCell ⟨St, v, none⟩ (.int .i64 1)).heap.size := by simpa using hSr
      have HW1 := Lib.hid (HW.out.snoc h0 hv)
      have HWAY1 := Lib.hid HWAY.out.snoc
      have HF1 : Hid (a ∈ W ++ [v]) := by
        show _ ∈ _
        rcases HFROM.out with h | ⟨_, rfl⟩
        · exact List.mem_append_left _ h
        · simp
      clear hA1 t0 h0 HAR HOR hFr hSr HW HWAY HFROM
      go_upto_region 20 with fail
      clear t0' t1 t2
      generalize wr.setCell ⟨St, v, none⟩ (.int .i64 1) = WA at *
      have hown2 := HO1.out.alloc (.cells #[.int .i64 (v : Int)] tI)
      go_upto_region 21 with (at_builtin; refine wpList_append_own _ rfl _ _ 29 rfl B tI i0 _ 1 8 Try.underlying29 hi0 hz0 hz1 hz2 rfl (by decide) _ _ _ rfl hown2 ⟨WA.heap.size, 0, none⟩ 1 1 (nC v) rfl rfl (by have := news_of WA (nC v) tI; simpa using this) (one_mem rfl) (by unfold maxLen; omega) (by omega) (by simp; omega) ?_; intro v' w9 hown9 hgrow _)
      have hfa : Fr [] WA (WA.alloc (.cells #[.int .i64 (v : Int)] tI)) := (Fr.refl [] WA).alloc _
      have HA9 := Lib.hid ((HA1.out.fr hfa (by simp) (by simp)).fr (fr_grown hgrow) (low_not hown2 K.o) (low_not hown2 K.s))
      have hF9 : Fr [] w1 w9 := (hF1.trans0 hfa).grown hgrow (fun k hk => .inr (by have := (hown2.lt k hk).1; omega))
      have hS9 : B ≤ w9.heap.size := by
        have := hgrow.size
        simp at this
        omega
      have HO9 : Hid (w9.ownsRow B tI 1 v' (W ++ [v]).length ((W ++ [v]).flatMap nC)) := by
        show World.ownsRow _ _ _ _ _ _ _
        rw [List.length_append, List.flatMap_append]
        simpa using hown9
      have hlen2 : (W ++ [v]).length = W.length + 1 := by simp
      obtain ⟨rv, hr1, hr2, hr3⟩ := HGR.out.row v hv
      obtain ⟨lq, lc, rfl, hl1, hl2⟩ := hr2.form
      have hcr := ce_call hF9 hr1
      have cg := cell_of (hF9.heap HGR.out.hp (by simp)) 1
      have hl1' := H1.out v hv
      have HR2 := Lib.hid hr2
      have HNX : Hid (∀ u ∈ nxs G v, u < spots.length) := fun u hu => by rw [← hG1]; exact HG.out.nx hu
      have hbl := Nat.lt_of_lt_of_le HGR.out.bl hF9.size
      clear hfa hown2 hown9 hgrow HA1 HO1 hF1 hS1 hr1 hr2 hr3
      generalize hW2 : W ++ [v] = W2 at *
      clear hW2
      by_cases hz : (nxs G v).length = 0
      · have hzi : ((nxs G v).length : Int) = 0 := by omega
        have hzn := List.eq_nil_of_length_eq_zero hz
        rw [hzn] at HWAY1
        have hne : W2 ≠ [] := by
          intro e
          rw [e] at hlen2
          simp at hlen2
        have HWI : Hid (WayIs G st0 (upd st v 1) W2 [] spots.length a v) := ⟨HW1.out, HWAY1.out, hv, .inl ⟨rfl, hne⟩, .inl HF1.out⟩
        rw [hzn] at hcr
        clear hz hzi hzn hne
        go_wp2_with fail
        apply HQ.out
        · exact HWI.out
        · exact HA9.out
        · exact HO9.out
        · exact hF9
        · exact hS9
      · obtain ⟨u, hu⟩ : ∃ u, nxs G v = [u] := List.length_eq_one_iff.1 (by omega)
        rw [hu] at HWAY1 hcr HR2 HNX
        have hun := HNX.out u (by simp)
        obtain ⟨b, off, _, e, hb, c0⟩ := nums_cell (HR2.out.fr0 hF9) (k := 0) (by simp)
        cases e
        have c0' : w9.cell? ⟨b, off, none⟩ = some (.int .i64 (u : Int)) := c0
        clear hz hu hl1 hl2 hl1' c0
        go_wp2_with fail
        go_roundg f
        case rel => exact ⟨u, W2, upd st v 1, rfl, hun, by omega, HW1.out, HWAY1.out, .inl HF1.out, HA9.out, HO9.out, hF9, hS9⟩
        case measure => omega
    · have hb0 : ((st v : Int) == 0) = false := by rw [beq_eq_false_iff_ne]; omega
      have HWI : Hid (WayIs G st0 st W [v] spots.length a v) := ⟨HW.out, HWAY.out, hv, .inr ⟨rfl, h0⟩, by
        rcases HFROM.out with h | ⟨h, rfl⟩
        · exact .inl h
        · subst h
          have := HW.out.rest v (by simp)
          have h2 := HST.out v hv
          exact .inr (by omega)⟩
      clear h0
      go_wp2_with fail
      apply HQ.out
      · exact HWI.out
      · exact HAR.out
      · exact HOR.out
      · exact hFr
      · exact hSr
end Go.Proofs.Ytdlpbpohbkcafaa
