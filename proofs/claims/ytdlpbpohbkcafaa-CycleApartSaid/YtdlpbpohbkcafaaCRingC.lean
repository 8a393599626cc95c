/-
  cycle.Rings: a ring is told.
-/
import Derived.Test.YtdlpbpohbkcafaaCRingA
import Derived.OwnWalk
namespace Go.Proofs.Ytdlpbpohbkcafaa
open Go.RowKit Go.Shelf Go.Sort Go.Proofs

theorem infoTS : (Try.prog.info? tS).map (fun i => (i.zero, i.size, i.bytes)) = some (some (.slice none 0 0), 1, 24) := by kernel_rfl

set_option maxRecDepth 100000 in
set_option maxHeartbeats 3200000 in
theorem ringsTell (w1 : World) (g I L O B : Nat) (spots : List Sp) (s : TS) (part : List Nat) (c p r t pv sv nv : Value) (vs : List Value) (w : World) {s0 s1 s2 s3 s5 s13 s15 s16 s17 s18 s19 s21 s22 s23 s24 s25 s26 s27 s28 s29 s30 s31 s32 s33 s34 s35 s36 s37 s38 s39 s40 s41 s42 s43 s44 s45 s46 s47 s48 s49 s50 s51 s52 s53 s54 s55 s56 s57 s58 s59 s60 s61 s62 s63 s64 s65 s66 s67 s68 s69 s70 s71 s72 s73 s74 s75 s76 s77 s78 s79 s80 s81 s82 s83 s84 s85 s86 s87 s88 s89 s90 s91 s92 s93 s94 s95 s96 s97 s98 s99 s100 s101 s102 s103 s104 s105 s106 s107 s108 s109 s110 s111 s112 s113 s114 s115 s116 s117 s118 s119 s120 s121 s122 s123 s124 s125 s126 s127 s128 s129 s130 s131 s132 s133 s134 s135 s136 s137 s138 s139 s140 s141 s142 s143 s144 s145 s146 s147 s148 s149 s150 s151 s152 s153 s154 s155 s156 s157 s158 s159 s160 s161 s162 s163 s164 s165 s166 s167 s168 s169 s170 s171 s172 s173 s174 s175 s176 s177 s178 s179 s180 s181 s182 s183 s184 s185 s186 s187 s188 s189 s190 s191 s192 s193 s194 s195 s196 s197 s198 s199 s200 s201 s202 s203 s204 s205 s206 s207 s208 s209 s210 s211 s212 s213 s214 s215 s216 s217 s218 s219 s220 s221 s222 s223 s224 s225 s226 s227 s228 s229 s230 s231 s232 s233 s234 s235 s236 s237 s238 s239 s240 s241 s242 s243 s244 s245 s246 s247 s248 s249 s250 s251 s252 : Value} (K : Blk I L O B) (hB : w1.heap.size ≤ B)
    (hc : c = .int .i64 (s.count : Int)) (hA : TSAt I L O B spots.length spots s p r t vs w) (hF : Fr [] w1 w) (hS : B ≤ w.heap.size) (hg : w1.heap[g]? = some (.cells #[sv, nv] tG (0, 0))) (hs : SpotsAt w1 sv spots) (hp : NumsAt w pv part) (hlt : ∀ x ∈ part, x < spots.length) (hpl : part.length ≤ 65536) (hvl : vs.length ≤ 65536)
    (Q : Exit → Act → World → Prop)
    (hQ : ∀ (n12 n23 n24 n26 n219 n220 n221 n222 n223 n224 n225 n226 n227 n228 n229 n230 n231 n232 n233 n234 n235 n236 n237 n238 n239 n240 n241 n242 n243 n244 n245 : Value) (vs' : List Value) (w' : World), RRel w1 I L O B spots { s with rings := s.rings ++ [sortN part] } c p n12 t vs' w' → Q .normal { tmps := #[s0, s1, s2, s3, .pointer (some ⟨g, 0, none⟩), s5, .int .i64 (spots.length : Int), .slice (some ⟨I, 0, none⟩) spots.length spots.length, .slice (some ⟨L, 0, none⟩) spots.length spots.length, .slice (some ⟨O, 0, none⟩) spots.length spots.length, c, p, n12, s13, t, s15, s16, s17, s18, s19, pv, s21, s22, n23, n24, s25, n26, s27, s28, s29, s30, s31, s32, s33, s34, s35, s36, s37, s38, s39, s40, s41, s42, s43, s44, s45, s46, s47, s48, s49, s50, s51, s52, s53, s54, s55, s56, s57, s58, s59, s60, s61, s62, s63, s64, s65, s66, s67, s68, s69, s70, s71, s72, s73, s74, s75, s76, s77, s78, s79, s80, s81, s82, s83, s84, s85, s86, s87, s88, s89, s90, s91, s92, s93, s94, s95, s96, s97, s98, s99, s100, s101, s102, s103, s104, s105, s106, s107, s108, s109, s110, s111, s112, s113, s114, s115, s116, s117, s118, s119, s120, s121, s122, s123, s124, s125, s126, s127, s128, s129, s130, s131, s132, s133, s134, s135, s136, s137, s138, s139, s140, s141, s142, s143, s144, s145, s146, s147, s148, s149, s150, s151, s152, s153, s154, s155, s156, s157, s158, s159, s160, s161, s162, s163, s164, s165, s166, s167, s168, s169, s170, s171, s172, s173, s174, s175, s176, s177, s178, s179, s180, s181, s182, s183, s184, s185, s186, s187, s188, s189, s190, s191, s192, s193, s194, s195, s196, s197, s198, s199, s200, s201, s202, s203, s204, s205, s206, s207, s208, s209, s210, s211, s212, s213, s214, s215, s216, s217, s218, n219, n220, n221, n222, n223, n224, n225, n226, n227, n228, n229, n230, n231, n232, n233, n234, n235, n236, n237, n238, n239, n240, n241, n242, n243, n244, n245, s246, s247, s248, s249, s250, s251, s252], defers := [] } w') :
    (subC [1, 1, 1, 1, 1, 1, 1, 1, 0, 1, 0, 0, 1, 1, 0, 0, 1, 1, 1, 0, 0, 1, 0, 1, 1, 1, 1, 1, 1, 1, 1, 1, 1, 0, 1, 2] (Try.f9.body.getD .skip)).wp Try.prog Q { tmps := #[s0, s1, s2, s3, .pointer (some ⟨g, 0, none⟩), s5, .int .i64 (spots.length : Int), .slice (some ⟨I, 0, none⟩) spots.length spots.length, .slice (some ⟨L, 0, none⟩) spots.length spots.length, .slice (some ⟨O, 0, none⟩) spots.length spots.length, c, p, r, s13, t, s15, s16, s17, s18, s19, pv, s21, s22, s23, s24, s25, s26, s27, s28, s29, s30, s31, s32, s33, s34, s35, s36, s37, s38, s39, s40, s41, s42, s43, s44, s45, s46, s47, s48, s49, s50, s51, s52, s53, s54, s55, s56, s57, s58, s59, s60, s61, s62, s63, s64, s65, s66, s67, s68, s69, s70, s71, s72, s73, s74, s75, s76, s77, s78, s79, s80, s81, s82, s83, s84, s85, s86, s87, s88, s89, s90, s91, s92, s93, s94, s95, s96, s97, s98, s99, s100, s101, s102, s103, s104, s105, s106, s107, s108, s109, s110, s111, s112, s113, s114, s115, s116, s117, s118, s119, s120, s121, s122, s123, s124, s125, s126, s127, s128, s129, s130, s131, s132, s133, s134, s135, s136, s137, s138, s139, s140, s141, s142, s143, s144, s145, s146, s147, s148, s149, s150, s151, s152, s153, s154, s155, s156, s157, s158, s159, s160, s161, s162, s163, s164, s165, s166, s167, s168, s169, s170, s171, s172, s173, s174, s175, s176, s177, s178, s179, s180, s181, s182, s183, s184, s185, s186, s187, s188, s189, s190, s191, s192, s193, s194, s195, s196, s197, s198, s199, s200, s201, s202, s203, s204, s205, s206, s207, s208, s209, s210, s211, s212, s213, s214, s215, s216, s217, s218, s219, s220, s221, s222, s223, s224, s225, s226, s227, s228, s229, s230, s231, s232, s233, s234, s235, s236, s237, s238, s239, s240, s241, s242, s243, s244, s245, s246, s247, s248, s249, s250, s251, s252], defers := [] } w := by
  have HQ := Lib.hid hQ
  clear hQ
  obtain ⟨pq, pc, rfl, hp1, hp2⟩ := hp.form
  have HP := Lib.hid hp
  have HA := Lib.hid hA
  have HG := Lib.hid hg
  have HS := Lib.hid hs
  have HLT := Lib.hid hlt
  have HC := Lib.hid hc
  obtain ⟨sq, sc, rfl, hs1, hs2⟩ := hs.form
  clear hp hA hg hs hlt hc
  show ((Code.region 41 _ _).seq _).wp _ _ _ _
  dsimp only
  go_wp2_with fail
  refine (valuesN _ _ _ _ rfl _).mono ?_
  rintro e w3 ⟨rfl, rfl⟩
  have h3 : Fr [] w (w.alloc (.cells #[.slice pq part.length pc] 29)) := (Fr.refl [] w).alloc _
  have hb3 : (w.alloc (.cells #[.slice pq part.length pc] 29)).cell? ⟨w.heap.size, 0, none⟩ = some (.slice pq part.length pc) := cell_of (heap_new w _) 0
  generalize w.alloc (.cells #[.slice pq part.length pc] 29) = W3 at *
  generalize hws : w.heap.size = Bx at *
  go_wp2_with fail
  refine (sortedN Bx _ part _ hb3 (HP.out.fr0 h3) (by omega)).mono ?_
  rintro e w4 ⟨lv, rfl, hown, h4⟩
  have h5 := h3.trans0 h4
  have hll : (sortN part).length ≤ 65536 := by rw [sortN_len]; exact hpl
  have HML : Hid (∀ x ∈ sortN part, x < spots.length) := fun x hx => HLT.out x (mem_sortN.1 hx)
  have hsl4 := own_sl hown
  obtain ⟨lq, lc, rfl, hl1, hl2⟩ := hsl4.form
  have HL := Lib.hid hsl4
  clear hsl4 hown h3 h4 hb3
  generalize hlN : sortN part = l at *
  obtain ⟨i1, hi1, hy0, hy1, hy2⟩ := info_parts infoSpot
  have hll2 : (l.length : Int) ≤ 65536 := by omega
  go_upto_block 7 with (at_make; refine wpList_make_own _ rfl _ _ 30 rfl w4.heap.size tSp i1 _ 2 Try.underlying30 hi1 hy0 hy1 .i64 .i64 _ l.length rfl rfl rfl (by rw [hy2]; omega) (by unfold maxLen; omega) (Nat.le_refl _) ?_; intro w5 hown5 hgr5)
  have h45 : Fr [] w4 w5 := (Fr.refl [] w4).grown hgr5 (fun k hk => by cases hk)
  have hw04 := h5.size
  rw [hws] at hw04
  have H5 := Lib.hid h5
  have HF4 := Lib.hid (hF.trans0 h5)
  clear hgr5 h5
  go_cut [24, 26] from 219 to 245 (fun s24 _ wx => Fr [] w4 wx ∧ wx.ownsRow w4.heap.size tSp 2 s24 l.length (l.flatMap fun k => spC (spots.getD k (0, 0))))
  case first =>
    go_wp2_with fail
    go_loopw [24, 26, 227] (fun s24 _ i wx => ∃ j : Nat, i = .int .i64 (j : Int) ∧ j ≤ l.length ∧ Fr [] w4 wx ∧ wx.ownsRow w4.heap.size tSp 2 s24 j ((l.take j).flatMap fun k => spC (spots.getD k (0, 0)))) (fun _ _ i _ => l.length - (intOf i).toNat)
    case atStart => exact ⟨0, rfl, by omega, h45, by simpa using hown5⟩
    case round =>
      obtain ⟨j, rfl, hj, hf, hown⟩ := hrel
      by_cases hjl : j < l.length
      · obtain ⟨b, off, _, e, hb, c0⟩ := nums_cell (HL.out.fr0 hf) hjl
        cases e
        have hj1 : (j : Int) < (l.length : Int) := by omega
        have hx := HML.out l[j] (List.getElem_mem hjl)
        have HTK : Hid ((l.take (j + 1)).flatMap (fun k => spC (spots.getD k (0, 0))) = (l.take j).flatMap (fun k => spC (spots.getD k (0, 0))) ++ spC (spots.getD l[j] (0, 0))) := by
          show _ = _
          rw [List.take_succ_eq_append_getElem hjl, List.flatMap_append]
          simp only [List.flatMap_cons, List.flatMap_nil, List.append_nil]
        generalize l[j] = x at *
        have hx1 : (x : Int) < (spots.length : Int) := by omega
        obtain ⟨b2, off2, _, e2, hbl2, d0, d1⟩ := spots_cell (HS.out.fr0 (HF4.out.trans0 hf)) hx
        cases e2
        have hgd : spots.getD x (0, 0) = spots[x] := by rw [List.getD_eq_getElem?_getD, List.getElem?_eq_getElem hx]; rfl
        rw [hgd] at HTK
        clear hgd
        generalize spots[x] = sp at *
        have hg0 := cell_of ((HF4.out.trans0 hf).heap HG.out (by simp)) 0
        have hown2 := hown.alloc (.cells #[.int .i64 sp.1, .int .i64 sp.2] tSp)
        have hwf := hf.size
        go_wp2_with (at_builtin; refine wpList_append_own _ rfl _ _ 30 rfl w4.heap.size tSp i1 _ 2 16 Try.underlying30 hi1 hy0 hy1 hy2 rfl (by decide) _ _ _ rfl hown2 ⟨wr.heap.size, 0, none⟩ 1 1 (spC sp) rfl rfl (by have := news_of wr (spC sp) tSp; simpa using this) (fun x hx => by simp at hx; rcases hx with rfl | rfl <;> rfl) (by unfold maxLen; omega) (by omega) (by simp; omega) ?_; intro v' w9 hown9 hgrow _)
        go_roundw
        case rel => exact ⟨j + 1, by go_num, by omega, (hf.alloc _).grown hgrow (fun k hk => .inr (hown2.lt k hk).1), by rw [HTK.out]; exact hown9⟩
        case measure => simp [intOf]; omega
      · obtain rfl : j = l.length := by omega
        rw [List.take_length] at hown
        go_wp2
        go_meet
        exact ⟨hf, hown⟩
  case rest =>
    obtain ⟨hf, hown⟩ := hcut
    obtain ⟨i2, hi2, hz0, hz1, hz2⟩ := info_parts infoTS
    have hAc := HA.out.fr0 (H5.out.trans0 hf)
    obtain ⟨vq, vn, vc, rfl⟩ := own_form hown
    have hsep : ∀ a ∈ vs, ∀ k, a.ownBlock = some k → (Value.slice vq vn vc).ownBlock ≠ some k := by
      intro a ha k hk hk2
      obtain ⟨r0, _, hr0⟩ := HA.out.rings.mem ha
      have h1 := (hr0.lt k hk).2
      have h2 := (hown.lt k hk2).1
      omega
    have hRA : RingAt B spots wc (.slice vq vn vc) l := owns_mono hown (by omega)
    have hwcs := (H5.out.trans0 hf).size
    rw [hws] at hwcs
    have hown2 := hAc.rg.alloc (.cells #[.slice vq vn vc] tS)
    go_wp2_with (at_builtin; refine wpList_append_own _ rfl _ _ 25 rfl B tS i2 _ 1 24 Try.underlying25 hi2 hz0 hz1 hz2 rfl (by decide) _ _ _ rfl hown2 ⟨wc.heap.size, 0, none⟩ 1 1 [.slice vq vn vc] rfl rfl (by have := news_of wc [.slice vq vn vc] tS; simpa using this) (one_mem rfl) (by unfold maxLen; omega) (by omega) (by simp; omega) ?_; intro v' w9 hown9 hgrow _)
    apply HQ.out
    have hfa : Fr [] wc (wc.alloc (.cells #[.slice vq vn vc] tS)) := (Fr.refl [] wc).alloc _
    have h6 := (hAc.fr0 hfa).putRing K (r := l) (owns_fr hRA hfa (by simp)) hsep hgrow hown9
    refine ⟨HC.out, h6, ?_, ?_⟩
    · exact ((HF4.out.trans0 hf).trans0 hfa).grown hgrow (fun k hk => .inr (by have := (hown2.lt k hk).1; omega))
    · have := hgrow.size
      simp at this
      omega
end Go.Proofs.Ytdlpbpohbkcafaa
