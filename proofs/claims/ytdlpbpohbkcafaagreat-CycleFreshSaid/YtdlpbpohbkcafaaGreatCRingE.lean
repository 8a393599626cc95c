/-
  cycle.Rings: a ring is told.
  cycle.Rings: a ring is done.
  cycle.Rings: back by one.
-/
import Derived.Test.YtdlpbpohbkcafaaGreatCRingB
import Derived.OwnWalk
namespace Go.Proofs.YtdlpbpohbkcafaaGreat
section
section
open Go.RowKit Go.Shelf Go.Sort Go.Proofs

theorem infoTS : (Tryz.prog.info? tS).map (fun i => (i.zero, i.size, i.bytes)) = some (some (.slice none 0 0), 1, 24) := by kernel_rfl

set_option maxRecDepth 100000 in
set_option maxHeartbeats 3200000 in
theorem ringsTell (w1 : World) (g I L O B : Nat) (spots : List Sp) (s : TS) (part : List Nat) (c p r t pv sv nv : Value) (vs : List Value) (w : World) {s0 s1 s2 s3 s5 s13 s15 s16 s17 s18 s19 s21 s22 s23 s24 s25 s26 s27 s28 s29 s30 s31 s32 s33 s34 s35 s36 s37 s38 s39 s40 s41 s42 s43 s44 s45 s46 s47 s48 s49 s50 s51 s52 s53 s54 s55 s56 s57 s58 s59 s60 s61 s62 s63 s64 s65 s66 s67 s68 s69 s70 s71 s72 s73 s74 s75 s76 s77 s78 s79 s80 s81 s82 s83 s84 s85 s86 s87 s88 s89 s90 s91 s92 s93 s94 s95 s96 s97 s98 s99 s100 s101 s102 s103 s104 s105 s106 s107 s108 s109 s110 s111 s112 s113 s114 s115 s116 s117 s118 s119 s120 s121 s122 s123 s124 s125 s126 s127 s128 s129 s130 s131 s132 s133 s134 s135 s136 s137 s138 s139 s140 s141 s142 s143 s144 s145 s146 s147 s148 s149 s150 s151 s152 s153 s154 s155 s156 s157 s158 s159 s160 s161 s162 s163 s164 s165 s166 s167 s168 s169 s170 s171 s172 s173 s174 s175 s176 s177 s178 s179 s180 s181 s182 s183 s184 s185 s186 s187 s188 s189 s190 s191 s192 s193 s194 s195 s196 s197 s198 s199 s200 s201 s202 s203 s204 s205 s206 s207 s208 s209 s210 s211 s212 s213 s214 s215 s216 s217 s218 s219 s220 s221 s222 s223 s224 s225 s226 s227 s228 s229 s230 s231 s232 s233 s234 s235 s236 s237 s238 s239 s240 s241 s242 s243 s244 s245 s246 s247 s248 s249 s250 s251 s252 : Value} (K : Blk I L O B) (hB : w1.heap.size ≤ B)
    (hc : c = .int .i64 (s.count : Int)) (hA : TSAt I L O B spots.length spots s p r t vs w) (hF : Fr [] w1 w) (hS : B ≤ w.heap.size) (hg : w1.heap[g]? = some (.cells #[sv, nv] tG (0, 0))) (hs : SpotsAt w1 sv spots) (hp : NumsAt w pv part) (hlt : ∀ x ∈ part, x < spots.length) (hpl : part.length ≤ 65536) (hvl : vs.length ≤ 65536)
    (Q : Exit → Act → World → Prop)
    (hQ : ∀ (n12 n23 n24 n26 n219 n220 n221 n222 n223 n224 n225 n226 n227 n228 n229 n230 n231 n232 n233 n234 n235 n236 n237 n238 n239 n240 n241 n242 n243 n244 n245 : Value) (vs' : List Value) (w' : World), RRel w1 I L O B spots { s with rings := s.rings ++ [sortN part] } c p n12 t vs' w' → Q .normal { tmps := #[s0, s1, s2, s3, .pointer (some ⟨g, 0, none⟩), s5, .int .i64 (spots.length : Int), .slice (some ⟨I, 0, none⟩) spots.length spots.length, .slice (some ⟨L, 0, none⟩) spots.length spots.length, .slice (some ⟨O, 0, none⟩) spots.length spots.length, c, p, n12, s13, t, s15, s16, s17, s18, s19, pv, s21, s22, n23, n24, s25, n26, s27, s28, s29, s30, s31, s32, s33, s34, s35, s36, s37, s38, s39, s40, s41, s42, s43, s44, s45, s46, s47, s48, s49, s50, s51, s52, s53, s54, s55, s56, s57, s58, s59, s60, s61, s62, s63, s64, s65, s66, s67, s68, s69, s70, s71, s72, s73, s74, s75, s76, s77, s78, s79, s80, s81, s82, s83, s84, s85, s86, s87, s88, s89, s90, s91, s92, s93, s94, s95, s96, s97, s98, s99, s100, s101, s102, s103, s104, s105, s106, s107, s108, s109, s110, s111, s112, s113, s114, s115, s116, s117, s118, s119, s120, s121, s122, s123, s124, s125, s126, s127, s128, s129, s130, s131, s132, s133, s134, s135, s136, s137, s138, s139, s140, s141, s142, s143, s144, s145, s146, s147, s148, s149, s150, s151, s152, s153, s154, s155, s156, s157, s158, s159, s160, s161, s162, s163, s164, s165, s166, s167, s168, s169, s170, s171, s172, s173, s174, s175, s176, s177, s178, s179, s180, s181, s182, s183, s184, s185, s186, s187, s188, s189, s190, s191, s192, s193, s194, s195, s196, s197, s198, s199, s200, s201, s202, s203, s204, s205, s206, s207, s208, s209, s210, s211, s212, s213, s214, s215, s216, s217, s218, n219, n220, n221, n222, n223, n224, n225, n226, n227, n228, n229, n230, n231, n232, n233, n234, n235, n236, n237, n238, n239, n240, n241, n242, n243, n244, n245, s246, s247, s248, s249, s250, s251, s252], defers := [] } w') :
    (subC [1, 1, 1, 1, 1, 1, 1, 1, 0, 1, 0, 0, 1, 1, 0, 0, 1, 1, 1, 0, 0, 1, 0, 1, 1, 1, 1, 1, 1, 1, 1, 1, 1, 0, 1, 2] (Tryz.f8.body.getD .skip)).wp Tryz.prog Q { tmps := #[s0, s1, s2, s3, .pointer (some ⟨g, 0, none⟩), s5, .int .i64 (spots.length : Int), .slice (some ⟨I, 0, none⟩) spots.length spots.length, .slice (some ⟨L, 0, none⟩) spots.length spots.length, .slice (some ⟨O, 0, none⟩) spots.length spots.length, c, p, r, s13, t, s15, s16, s17, s18, s19, pv, s21, s22, s23, s24, s25, s26, s27, s28, s29, s30, s31, s32, s33, s34, s35, s36, s37, s38, s39, s40, s41, s42, s43, s44, s45, s46, s47, s48, s49, s50, s51, s52, s53, s54, s55, s56, s57, s58, s59, s60, s61, s62, s63, s64, s65, s66, s67, s68, s69, s70, s71, s72, s73, s74, s75, s76, s77, s78, s79, s80, s81, s82, s83, s84, s85, s86, s87, s88, s89, s90, s91, s92, s93, s94, s95, s96, s97, s98, s99, s100, s101, s102, s103, s104, s105, s106, s107, s108, s109, s110, s111, s112, s113, s114, s115, s116, s117, s118, s119, s120, s121, s122, s123, s124, s125, s126, s127, s128, s129, s130, s131, s132, s133, s134, s135, s136, s137, s138, s139, s140, s141, s142, s143, s144, s145, s146, s147, s148, s149, s150, s151, s152, s153, s154, s155, s156, s157, s158, s159, s160, s161, s162, s163, s164, s165, s166, s167, s168, s169, s170, s171, s172, s173, s174, s175, s176, s177, s178, s179, s180, s181, s182, s183, s184, s185, s186, s187, s188, s189, s190, s191, s192, s193, s194, s195, s196, s197, s198, s199, s200, s201, s202, s203, s204, s205, s206, s207, s208, s209, s210, s211, s212, s213, s214, s215, s216, s217, s218, s219, s220, s221, s222, s223, s224, s225, s226, s227, s228, s229, s230, s231, s232, s233, s234, s235, s236, s237, s238, s239, s240, s241, s242, s243, s244, s245, s246, s247, s248, s249, s250, s251, s252], defers := [] } w := by
  have HQ := Lib.hid hQ
  clear hQ
  obtain ⟨pq, pc, rfl, hp1, hp2⟩ := hp.form
  have HP := Lib.hid hp
  have HA := Lib.hid hA
  have HG := Lib.hid hg
  have HS := Lib.hid hs
  have HLT := Lib.hid hlt
  have HC := Lib.hid hc
  obtain ⟨sq, sc, rfl, hs1, hs2⟩ := hs.form
  clear hp hA hg hs hlt hc
  show ((Code.region 41 _ _).seq _).wp _ _ _ _
  dsimp only
  go_wp2_with fail
  refine (valuesN _ _ _ _ rfl _).mono ?_
  rintro e w3 ⟨rfl, rfl⟩
  have h3 : Fr [] w (w.alloc (.cells #[.slice pq part.length pc] 47)) := (Fr.refl [] w).alloc _
  have hb3 : (w.alloc (.cells #[.slice pq part.length pc] 47)).cell? ⟨w.heap.size, 0, none⟩ = some (.slice pq part.length pc) := cell_of (heap_new w _) 0
  generalize w.alloc (.cells #[.slice pq part.length pc] 47) = W3 at *
  generalize hws : w.heap.size = Bx at *
  go_wp2_with fail
  refine (sortedN Bx _ part _ hb3 (HP.out.fr0 h3) (by omega)).mono ?_
  rintro e w4 ⟨lv, rfl, hown, h4⟩
  have h5 := h3.trans0 h4
  have hll : (sortN part).length ≤ 65536 := by rw [sortN_len]; exact hpl
  have HML : Hid (∀ x ∈ sortN part, x < spots.length) := fun x hx => HLT.out x (mem_sortN.1 hx)
  have hsl4 := own_sl hown
  obtain ⟨lq, lc, rfl, hl1, hl2⟩ := hsl4.form
  have HL := Lib.hid hsl4
  clear hsl4 hown h3 h4 hb3
  generalize hlN : sortN part = l at *
  obtain ⟨i1, hi1, hy0, hy1, hy2⟩ := info_parts infoSpot
  have hll2 : (l.length : Int) ≤ 65536 := by omega
  go_upto_block 7 with (at_make; refine wpList_make_own _ rfl _ _ 28 rfl w4.heap.size tSp i1 _ 2 Tryz.underlying28 hi1 hy0 hy1 .i64 .i64 _ l.length rfl rfl rfl (by rw [hy2]; omega) (by unfold maxLen; omega) (Nat.le_refl _) ?_; intro w5 hown5 hgr5)
  have h45 : Fr [] w4 w5 := (Fr.refl [] w4).grown hgr5 (fun k hk => by cases hk)
  have hw04 := h5.size
  rw [hws] at hw04
  have H5 := Lib.hid h5
  have HF4 := Lib.hid (hF.trans0 h5)
  clear hgr5 h5
  go_cut [24, 26] from 219 to 245 (fun s24 _ wx => Fr [] w4 wx ∧ wx.ownsRow w4.heap.size tSp 2 s24 l.length (l.flatMap fun k => spC (spots.getD k (0, 0))))
  case first =>
    go_wp2_with fail
    go_loopw [24, 26, 227] (fun s24 _ i wx => ∃ j : Nat, i = .int .i64 (j : Int) ∧ j ≤ l.length ∧ Fr [] w4 wx ∧ wx.ownsRow w4.heap.size tSp 2 s24 j ((l.take j).flatMap fun k => spC (spots.getD k (0, 0)))) (fun _ _ i _ => l.length - (intOf i).toNat)
    case atStart => exact ⟨0, rfl, by omega, h45, by simpa using hown5⟩
    case round =>
      obtain ⟨j, rfl, hj, hf, hown⟩ := hrel
      by_cases hjl : j < l.length
      · obtain ⟨b, off, _, e, hb, c0⟩ := nums_cell (HL.out.fr0 hf) hjl
        cases e
        have hj1 : (j : Int) < (l.length : Int) := by omega
        have hx := HML.out l[j] (List.getElem_mem hjl)
        have HTK : Hid ((l.take (j + 1)).flatMap (fun k => spC (spots.getD k (0, 0))) = (l.take j).flatMap (fun k => spC (spots.getD k (0, 0))) ++ spC (spots.getD l[j] (0, 0))) := by
          show _ = _
          rw [List.take_succ_eq_append_getElem hjl, List.flatMap_append]
          simp only [List.flatMap_cons, List.flatMap_nil, List.append_nil]
        generalize l[j] = x at *
        have hx1 : (x : Int) < (spots.length : Int) := by omega
        obtain ⟨b2, off2, _, e2, hbl2, d0, d1⟩ := spots_cell (HS.out.fr0 (HF4.out.trans0 hf)) hx
        cases e2
        have hgd : spots.getD x (0, 0) = spots[x] := by rw [List.getD_eq_getElem?_getD, List.getElem?_eq_getElem hx]; rfl
        rw [hgd] at HTK
        clear hgd
        generalize spots[x] = sp at *
        have hg0 := cell_of ((HF4.out.trans0 hf).heap HG.out (by simp)) 0
        have hown2 := hown.alloc (.cells #[.int .i64 sp.1, .int .i64 sp.2] tSp)
        have hwf := hf.size
        go_wp2_with (at_builtin; refine wpList_append_own _ rfl _ _ 28 rfl w4.heap.size tSp i1 _ 2 16 Tryz.underlying28 hi1 hy0 hy1 hy2 rfl (by decide) _ _ _ rfl hown2 ⟨wr.heap.size, 0, none⟩ 1 1 (spC sp) rfl rfl (by have := news_of wr (spC sp) tSp; simpa using this) (fun x hx => by simp at hx; rcases hx with rfl | rfl <;> rfl) (by unfold maxLen; omega) (by omega) (by simp; omega) ?_; intro v' w9 hown9 hgrow _)
        go_roundw
        case rel => exact ⟨j + 1, by go_num, by omega, (hf.alloc _).grown hgrow (fun k hk => .inr (hown2.lt k hk).1), by rw [HTK.out]; exact hown9⟩
        case measure => simp [intOf]; omega
      · obtain rfl : j = l.length := by omega
        rw [List.take_length] at hown
        go_wp2
        go_meet
        exact ⟨hf, hown⟩
  case rest =>
    obtain ⟨hf, hown⟩ := hcut
    obtain ⟨i2, hi2, hz0, hz1, hz2⟩ := info_parts infoTS
    have hAc := HA.out.fr0 (H5.out.trans0 hf)
    obtain ⟨vq, vn, vc, rfl⟩ := own_form hown
    have hsep : ∀ a ∈ vs, ∀ k, a.ownBlock = some k → (Value.slice vq vn vc).ownBlock ≠ some k := by
      intro a ha k hk hk2
      obtain ⟨r0, _, hr0⟩ := HA.out.rings.mem ha
      have h1 := (hr0.lt k hk).2
      have h2 := (hown.lt k hk2).1
      omega
    have hRA : RingAt B spots wc (.slice vq vn vc) l := owns_mono hown (by omega)
    have hwcs := (H5.out.trans0 hf).size
    rw [hws] at hwcs
    have hown2 := hAc.rg.alloc (.cells #[.slice vq vn vc] tS)
    go_wp2_with (at_builtin; refine wpList_append_own _ rfl _ _ 32 rfl B tS i2 _ 1 24 Tryz.underlying32 hi2 hz0 hz1 hz2 rfl (by decide) _ _ _ rfl hown2 ⟨wc.heap.size, 0, none⟩ 1 1 [.slice vq vn vc] rfl rfl (by have := news_of wc [.slice vq vn vc] tS; simpa using this) (one_mem rfl) (by unfold maxLen; omega) (by omega) (by simp; omega) ?_; intro v' w9 hown9 hgrow _)
    apply HQ.out
    have hfa : Fr [] wc (wc.alloc (.cells #[.slice vq vn vc] tS)) := (Fr.refl [] wc).alloc _
    have h6 := (hAc.fr0 hfa).putRing K (r := l) (owns_fr hRA hfa (by simp)) hsep hgrow hown9
    refine ⟨HC.out, h6, ?_, ?_⟩
    · exact ((HF4.out.trans0 hf).trans0 hfa).grown hgrow (fun k hk => .inr (by have := (hown2.lt k hk).1; omega))
    · have := hgrow.size
      simp at this
      omega
end
section
open Go.RowKit Go.Shelf Go.Sort Go.Proofs

theorem own_drop {w : World} {B g c k : Nat} {e : TypeId} {l : List Nat} (h : w.ownsRow B e 1 (.slice (some ⟨g, 0, none⟩) l.length c) l.length (l.flatMap nC)) (hk : k ≤ l.length) : NumsAt w (.slice (some ⟨g, k, none⟩) (l.drop k).length (c - k)) (l.drop k) := by
  have hs := own_sl h
  rcases h.2 with ⟨h', _⟩ | ⟨g', cap', cur, h', hb, hg, hnc, hcm, hcs, htake⟩
  · simp at h'
  · simp only [Value.slice.injEq, Option.some.injEq, Addr.mk.injEq, and_true, true_and] at h'
    obtain ⟨rfl, rfl⟩ := h'
    refine ⟨by rw [flat_len nC 1 (fun _ => rfl)], ⟨_, _, rfl, by rw [List.length_drop]; omega, by unfold maxLen at hcm; omega⟩, fun _ => ⟨g, k, c - k, rfl, lt_of hg, fun j x hx => ?_⟩⟩
    have e : (l.drop k).flatMap nC = (l.flatMap nC).drop k := by
      rw [nC_iC, nC_iC, ← List.map_drop, ← List.map_drop]
    rw [e, List.getElem?_drop] at hx
    exact take_cells hg htake (k + j) x hx

set_option maxRecDepth 100000 in
set_option maxHeartbeats 3200000 in
theorem ringsClose (w1 : World) (g I L O B v : Nat) (spots : List Sp) (G : Dg) (s : TS) (p r t sv nv rv : Value) (nl nc bn on : Nat) (vs : List Value) (w : World) {s0 s1 s2 s3 s5 s13 s15 s17 s18 s19 s20 s21 s22 s23 s24 s25 s26 s27 s28 s29 s30 s31 s32 s33 s34 s35 s36 s37 s38 s39 s40 s41 s42 s43 s44 s45 s46 s47 s48 s49 s50 s51 s52 s53 s54 s55 s56 s57 s58 s59 s60 s61 s62 s63 s64 s65 s66 s67 s68 s69 s70 s71 s72 s73 s74 s75 s76 s77 s78 s79 s80 s81 s82 s83 s84 s85 s86 s87 s88 s89 s90 s91 s92 s93 s94 s95 s96 s97 s98 s99 s100 s101 s102 s103 s104 s105 s106 s107 s108 s109 s110 s111 s112 s113 s114 s115 s116 s117 s118 s119 s120 s121 s122 s123 s124 s125 s126 s127 s128 s129 s130 s131 s132 s133 s134 s135 s136 s137 s138 s139 s140 s141 s142 s143 s144 s145 s146 s147 s148 s149 s150 s151 s152 s153 s154 s155 s156 s157 s158 s159 s160 s161 s162 s163 s164 s165 s166 s167 s168 s169 s170 s171 s172 s173 s174 s175 s176 s177 s178 s179 s180 s181 s182 s183 s184 s185 s186 s187 s188 s189 s190 s191 s192 s193 s194 s195 s196 s197 s198 s199 s200 s201 s202 s203 s204 s205 s206 s207 s208 s209 s210 s211 s212 s213 s214 s215 s216 s217 s218 s219 s220 s221 s222 s223 s224 s225 s226 s227 s228 s229 s230 s231 s232 s233 s234 s235 s236 s237 s238 s239 s240 s241 s242 s243 s244 s245 s246 s247 s248 s249 s250 s251 s252 : Value} (K : Blk I L O B) (hI : w1.heap.size ≤ I ∧ w1.heap.size ≤ L ∧ w1.heap.size ≤ O ∧ w1.heap.size ≤ B)
    (hA : TSAt I L O B spots.length spots s p r t vs w) (hF : Fr [] w1 w) (hS : B ≤ w.heap.size) (hg : w1.heap[g]? = some (.cells #[sv, nv] tG (0, 0))) (hs : SpotsAt w1 sv spots) (hnv : nv = .slice (some ⟨bn, on, none⟩) nl nc ∧ v < nl ∧ nl ≤ 65536) (hrc : w1.cell? ⟨bn, on + v, none⟩ = some rv) (hrv : NumsAt w1 rv (nxs G v))
    (hvm : v ∈ s.pile) (hpl : s.pile.length ≤ 65536) (hpn : ∀ x ∈ s.pile, x < spots.length) (hvl : vs.length ≤ 65536) (hlow : s.low v = s.index v)
    (Q : Exit → Act → World → Prop)
    (hQ : ∀ (n11 n12 n19 n20 n22 n23 n24 n26 n189 n190 n191 n192 n193 n194 n195 n196 n197 n198 n199 n200 n201 n202 n203 n204 n205 n206 n207 n208 n209 n210 n211 n212 n213 n214 n215 n216 n217 n218 n219 n220 n221 n222 n223 n224 n225 n226 n227 n228 n229 n230 n231 n232 n233 n234 n235 n236 n237 n238 n239 n240 n241 n242 n243 n244 n245 n246 n247 n248 : Value) (vs' : List Value) (w' : World), RRel w1 I L O B spots (close1 G v s) (.int .i64 (s.count : Int)) n11 n12 t vs' w' → Q .normal { tmps := #[s0, s1, s2, s3, .pointer (some ⟨g, 0, none⟩), s5, .int .i64 (spots.length : Int), .slice (some ⟨I, 0, none⟩) spots.length spots.length, .slice (some ⟨L, 0, none⟩) spots.length spots.length, .slice (some ⟨O, 0, none⟩) spots.length spots.length, .int .i64 (s.count : Int), n11, n12, s13, t, s15, .int .i64 (v : Int), s17, s18, n19, n20, s21, n22, n23, n24, s25, n26, s27, s28, s29, s30, s31, s32, s33, s34, s35, s36, s37, s38, s39, s40, s41, s42, s43, s44, s45, s46, s47, s48, s49, s50, s51, s52, s53, s54, s55, s56, s57, s58, s59, s60, s61, s62, s63, s64, s65, s66, s67, s68, s69, s70, s71, s72, s73, s74, s75, s76, s77, s78, s79, s80, s81, s82, s83, s84, s85, s86, s87, s88, s89, s90, s91, s92, s93, s94, s95, s96, s97, s98, s99, s100, s101, s102, s103, s104, s105, s106, s107, s108, s109, s110, s111, s112, s113, s114, s115, s116, s117, s118, s119, s120, s121, s122, s123, s124, s125, s126, s127, s128, s129, s130, s131, s132, s133, s134, s135, s136, s137, s138, s139, s140, s141, s142, s143, s144, s145, s146, s147, s148, s149, s150, s151, s152, s153, s154, s155, s156, s157, s158, s159, s160, s161, s162, s163, s164, s165, s166, s167, s168, s169, s170, s171, s172, s173, s174, s175, s176, s177, s178, s179, s180, s181, s182, s183, s184, s185, s186, s187, s188, n189, n190, n191, n192, n193, n194, n195, n196, n197, n198, n199, n200, n201, n202, n203, n204, n205, n206, n207, n208, n209, n210, n211, n212, n213, n214, n215, n216, n217, n218, n219, n220, n221, n222, n223, n224, n225, n226, n227, n228, n229, n230, n231, n232, n233, n234, n235, n236, n237, n238, n239, n240, n241, n242, n243, n244, n245, n246, n247, n248, s249, s250, s251, s252], defers := [] } w') :
    (subC [1, 1, 1, 1, 1, 1, 1, 1, 0, 1, 0, 0, 1, 1, 0, 0, 1, 1, 1, 0, 0, 1, 0, 1, 1, 1, 1, 1, 1, 1] (Tryz.f8.body.getD .skip)).wp Tryz.prog Q { tmps := #[s0, s1, s2, s3, .pointer (some ⟨g, 0, none⟩), s5, .int .i64 (spots.length : Int), .slice (some ⟨I, 0, none⟩) spots.length spots.length, .slice (some ⟨L, 0, none⟩) spots.length spots.length, .slice (some ⟨O, 0, none⟩) spots.length spots.length, .int .i64 (s.count : Int), p, r, s13, t, s15, .int .i64 (v : Int), s17, s18, s19, s20, s21, s22, s23, s24, s25, s26, s27, s28, s29, s30, s31, s32, s33, s34, s35, s36, s37, s38, s39, s40, s41, s42, s43, s44, s45, s46, s47, s48, s49, s50, s51, s52, s53, s54, s55, s56, s57, s58, s59, s60, s61, s62, s63, s64, s65, s66, s67, s68, s69, s70, s71, s72, s73, s74, s75, s76, s77, s78, s79, s80, s81, s82, s83, s84, s85, s86, s87, s88, s89, s90, s91, s92, s93, s94, s95, s96, s97, s98, s99, s100, s101, s102, s103, s104, s105, s106, s107, s108, s109, s110, s111, s112, s113, s114, s115, s116, s117, s118, s119, s120, s121, s122, s123, s124, s125, s126, s127, s128, s129, s130, s131, s132, s133, s134, s135, s136, s137, s138, s139, s140, s141, s142, s143, s144, s145, s146, s147, s148, s149, s150, s151, s152, s153, s154, s155, s156, s157, s158, s159, s160, s161, s162, s163, s164, s165, s166, s167, s168, s169, s170, s171, s172, s173, s174, s175, s176, s177, s178, s179, s180, s181, s182, s183, s184, s185, s186, s187, s188, s189, s190, s191, s192, s193, s194, s195, s196, s197, s198, s199, s200, s201, s202, s203, s204, s205, s206, s207, s208, s209, s210, s211, s212, s213, s214, s215, s216, s217, s218, s219, s220, s221, s222, s223, s224, s225, s226, s227, s228, s229, s230, s231, s232, s233, s234, s235, s236, s237, s238, s239, s240, s241, s242, s243, s244, s245, s246, s247, s248, s249, s250, s251, s252], defers := [] } w := by
  have HQ := Lib.hid hQ
  clear hQ
  obtain ⟨gp, cp, rfl, hgp1, hgp2⟩ := hA.pile.form (List.length_pos_of_mem hvm)
  have hi := List.idxOf_lt_length_of_mem hvm
  have hidx : idxN s.pile v = (s.pile.idxOf v : Int) := by unfold idxN; rw [if_pos hvm]
  obtain ⟨_, _, e0, hcp1, hcp2⟩ := (own_sl hA.pile).form
  cases e0
  obtain ⟨rfl, hnl, hnl2⟩ := hnv
  have HCL : Hid (close1 G v s = { s with on := (s.pile.drop (s.pile.idxOf v)).foldl (fun o u => upd o u false) s.on, rings := if 1 < (s.pile.drop (s.pile.idxOf v)).length ∨ v ∈ nxs G v then s.rings ++ [sortN (s.pile.drop (s.pile.idxOf v))] else s.rings, pile := s.pile.take (s.pile.idxOf v) }) := by
    show _ = _
    unfold close1
    rw [if_neg (fun hc => hc hlow)]
  have HPD := Lib.hid (own_drop hA.pile (Nat.le_of_lt hi))
  have HPN : Hid (∀ x ∈ s.pile.drop (s.pile.idxOf v), x < spots.length) := fun x hx => hpn x (List.mem_of_mem_drop hx)
  have hdl : (s.pile.drop (s.pile.idxOf v)).length = s.pile.length - s.pile.idxOf v := List.length_drop
  have HP := Lib.hid (own_sl hA.pile)
  have HA := Lib.hid hA
  have HG := Lib.hid hg
  have HSP := Lib.hid hs
  have HRC := Lib.hid hrc
  have HRV := Lib.hid hrv
  clear hA hg hs hrc hrv hpn hlow
  show ((Code.region 33 _ _).seq _).wp _ _ _ _
  dsimp only
  go_wp2_with fail
  refine (indexN _ s.pile v _ HP.out).mono ?_
  rw [hidx]
  rintro e w3 ⟨rfl, h3⟩
  generalize hk0 : s.pile.idxOf v = k0 at *
  generalize hpt : s.pile.drop k0 = part at *
  have hk1 : (k0 : Int) ≤ (s.pile.length : Int) := by omega
  have hk2 : (s.pile.length : Int) ≤ (cp : Int) := by omega
  have hk3 : (k0 : Int) ≤ (cp : Int) := by omega
  have hk4 : (cp : Int) ≤ 9223372036854775807 := by omega
  go_upto_block 5 with fail
  rw [← hdl]
  have hptl : part.length ≤ 65536 := by omega
  clear hdl
  have HA3 := Lib.hid (HA.out.fr0 h3)
  have hF3 := hF.trans0 h3
  have hS3 : B ≤ w3.heap.size := Nat.le_trans hS h3.size
  clear HP HPD h3 hF hS HA
  have HPT := Lib.hid hpt
  clear hpt
  go_cut [22] from 195 to 204 (fun _ wx => TSAt I L O B spots.length spots { s with on := part.foldl (fun o u => upd o u false) s.on } (.slice (some ⟨gp, 0, none⟩) s.pile.length cp) r t vs wx ∧ Fr [] w1 wx ∧ B ≤ wx.heap.size)
  case first =>
    go_wp2_with fail
    go_loopw [22, 197] (fun _ i wx => ∃ j : Nat, i = .int .i64 (j : Int) ∧ j ≤ part.length ∧ TSAt I L O B spots.length spots { s with on := (part.take j).foldl (fun o u => upd o u false) s.on } (.slice (some ⟨gp, 0, none⟩) s.pile.length cp) r t vs wx ∧ Fr [] w1 wx ∧ B ≤ wx.heap.size) (fun _ i _ => part.length - (intOf i).toNat)
    case atStart => exact ⟨0, rfl, by omega, HA3.out, hF3, hS3⟩
    case round =>
      obtain ⟨j, rfl, hj, hAj, hFj, hSj⟩ := hrel
      by_cases hjl : j < part.length
      · have hnp : NumsAt wr (.slice (some ⟨gp, k0, none⟩) part.length (cp - k0)) part := by
          have := own_drop (k := k0) hAj.pile (Nat.le_of_lt hi)
          simp only [HPT.out] at this
          exact this
        obtain ⟨b, off, _, e, hb, c0⟩ := nums_cell hnp hjl
        cases e
        have hj1 : (j : Int) < (part.length : Int) := by omega
        have hx := HPN.out part[j] (List.getElem_mem hjl)
        have HTK : Hid ((part.take (j + 1)).foldl (fun o u => upd o u false) s.on = upd ((part.take j).foldl (fun o u => upd o u false) s.on) part[j] false) := by
          show _ = _
          rw [List.take_succ_eq_append_getElem hjl, List.foldl_append]
          rfl
        generalize part[j] = x at *
        have hx1 : (x : Int) < (spots.length : Int) := by omega
        have oc := hAj.on.cell hx
        have of := hAj.on.frozen x
        have ol := hAj.on.lt
        have h6 := hAj.putOn K x false
        have HAJ := Lib.hid h6
        clear hAj hnp h6
        go_wp2
        go_roundw
        case rel => exact ⟨j + 1, by go_num, by omega, by rw [HTK.out]; exact HAJ.out, hFj.setCell (.inr hI.2.2.1) _, by simpa using hSj⟩
        case measure => simp [intOf]; omega
      · obtain rfl : j = part.length := by omega
        rw [List.take_length] at hAj
        go_wp2
        go_meet
        exact ⟨hAj, hFj, hSj⟩
  case rest =>
    obtain ⟨hA4, hF4, hS4⟩ := hcut
    have HA4 := Lib.hid hA4
    clear hA4 HA3
    go_upto_region 40 with fail
    have cg := cell_of (hF4.heap HG.out (by simp)) 1
    have cr := ce_call hF4 HRC.out
    have hv1 : (v : Int) < (nl : Int) := by omega
    go_cut [218] from 205 to 217 (fun b wx => b = .bool (decide (1 < part.length ∨ v ∈ nxs G v)) ∧ TSAt I L O B spots.length spots { s with on := part.foldl (fun o u => upd o u false) s.on } (.slice (some ⟨gp, 0, none⟩) s.pile.length cp) r t vs wx ∧ Fr [] w1 wx ∧ B ≤ wx.heap.size)
    case first =>
      by_cases h1 : 1 < part.length
      · have h1' : (1 : Int) < (part.length : Int) := by omega
        have HT : Hid (decide (1 < part.length ∨ v ∈ nxs G v) = true) := decide_eq_true (.inl h1)
        go_wp2
        go_meet
        exact ⟨by rw [HT.out], HA4.out, hF4, hS4⟩
      · have h1' : ¬ (1 : Int) < (part.length : Int) := by omega
        have HT : Hid (decide (1 < part.length ∨ v ∈ nxs G v) = decide (v ∈ nxs G v)) := by
          show _ = _
          rw [decide_eq_decide]
          exact ⟨fun h => h.resolve_left h1, .inr⟩
        go_wp2_with fail
        refine (containsN rv (nxs G v) v _ (HRV.out.fr0 hF4)).mono ?_
        rintro e w5 ⟨rfl, h5⟩
        go_wp2
        go_meet
        exact ⟨by rw [HT.out], HA4.out.fr0 h5, hF4.trans0 h5, Nat.le_trans hS4 h5.size⟩
    case rest =>
      clear cg cr hF4 hS4 HA4
      obtain ⟨rfl, hA5, hF5, hS5⟩ := hcut
      go_upto_if 218 with fail
      have hk5 : (k0 : Int) ≤ (cp : Int) := by omega
      by_cases hc : 1 < part.length ∨ v ∈ nxs G v
      · rw [decide_eq_true hc]
        have hnp : NumsAt wc (.slice (some ⟨gp, k0, none⟩) part.length (cp - k0)) part := by
          have := own_drop (k := k0) hA5.pile (Nat.le_of_lt hi)
          simp only [HPT.out] at this
          exact this
        refine wp_cond_true rfl ?_
        refine ringsTell w1 g I L O B spots _ part _ _ _ _ _ _ _ vs wc K hI.2.2.2 rfl hA5 hF5 hS5 HG.out HSP.out hnp HPN.out (by omega) hvl _ ?_
        intros
        rename_i vs' w' hR
        obtain ⟨_, hA6, hF6, hS6⟩ := hR
        have h7 := hA6.cut K (m := k0) (Nat.le_of_lt hi)
        have H7 := Lib.hid h7
        rw [if_pos hc] at HCL
        clear hA5 hA6 hnp h7
        go_wp2
        apply HQ.out
        exact ⟨by rw [HCL.out], by rw [HCL.out]; exact H7.out, hF6, hS6⟩
      · rw [decide_eq_false hc]
        have h7 := hA5.cut K (m := k0) (Nat.le_of_lt hi)
        have H7 := Lib.hid h7
        rw [if_neg hc] at HCL
        clear hA5 h7
        go_wp2
        apply HQ.out
        exact ⟨by rw [HCL.out], by rw [HCL.out]; exact H7.out, hF5, hS5⟩
end
end
section
open Go.RowKit Go.Shelf Go.Sort Go.Proofs

set_option maxRecDepth 100000 in
set_option maxHeartbeats 3200000 in
theorem ringsBack (w1 : World) (g I L O B v j gw cw : Nat) (spots : List Sp) (rest : List (Nat × Nat)) (G : Dg) (s : TS) (p r sv nv rv : Value) (nl nc bn on : Nat) (vs : List Value) (w : World) {s0 s1 s2 s3 s5 s13 s15 s17 s18 s19 s20 s21 s22 s23 s24 s25 s26 s27 s28 s29 s30 s31 s32 s33 s34 s35 s36 s37 s38 s39 s40 s41 s42 s43 s44 s45 s46 s47 s48 s49 s50 s51 s52 s53 s54 s55 s56 s57 s58 s59 s60 s61 s62 s63 s64 s65 s66 s67 s68 s69 s70 s71 s72 s73 s74 s75 s76 s77 s78 s79 s80 s81 s82 s83 s84 s85 s86 s87 s88 s89 s90 s91 s92 s93 s94 s95 s96 s97 s98 s99 s100 s101 s102 s103 s104 s105 s106 s107 s108 s109 s110 s111 s112 s113 s114 s115 s116 s117 s118 s119 s120 s121 s122 s123 s124 s125 s126 s127 s128 s129 s130 s131 s132 s133 s134 s135 s136 s137 s138 s139 s140 s141 s142 s143 s144 s145 s146 s147 s148 s149 s150 s151 s152 s153 s154 s155 s156 s157 s158 s159 s160 s161 s162 s163 s164 s165 s166 s167 s168 s169 s170 s171 s172 s173 s174 s175 s176 s177 s178 s179 s180 s181 s182 s183 s184 s185 s186 s187 s188 s189 s190 s191 s192 s193 s194 s195 s196 s197 s198 s199 s200 s201 s202 s203 s204 s205 s206 s207 s208 s209 s210 s211 s212 s213 s214 s215 s216 s217 s218 s219 s220 s221 s222 s223 s224 s225 s226 s227 s228 s229 s230 s231 s232 s233 s234 s235 s236 s237 s238 s239 s240 s241 s242 s243 s244 s245 s246 s247 s248 s249 s250 s251 s252 : Value} (K : Blk I L O B) (hI : w1.heap.size ≤ I ∧ w1.heap.size ≤ L ∧ w1.heap.size ≤ O ∧ w1.heap.size ≤ B)
    (hA : TSAt I L O B spots.length spots s p r (.slice (some ⟨gw, 0, none⟩) (rest.length + 1) cw) vs w) (hF : Fr [] w1 w) (hS : B ≤ w.heap.size) (hw : s.way = (v, j) :: rest) (hg : w1.heap[g]? = some (.cells #[sv, nv] tG (0, 0))) (hs : SpotsAt w1 sv spots) (hnv : nv = .slice (some ⟨bn, on, none⟩) nl nc ∧ v < nl ∧ nl ≤ 65536) (hrc : w1.cell? ⟨bn, on + v, none⟩ = some rv) (hrv : NumsAt w1 rv (nxs G v))
    (hv : v < spots.length) (hup : ∀ q ∈ rest, q.1 < spots.length) (hrl : rest.length ≤ 65536) (hvm : v ∈ s.pile) (hpl : s.pile.length ≤ 65536) (hpn : ∀ x ∈ s.pile, x < spots.length) (hvl : vs.length ≤ 65536)
    (Q : Exit → Act → World → Prop)
    (hQ : ∀ (n11 n12 n14 n18 n19 n20 n22 n23 n24 n26 n153 n154 n155 n156 n157 n158 n159 n160 n161 n162 n163 n164 n165 n166 n167 n168 n169 n170 n171 n172 n173 n174 n175 n176 n177 n178 n179 n180 n181 n182 n183 n184 n185 n186 n187 n188 n189 n190 n191 n192 n193 n194 n195 n196 n197 n198 n199 n200 n201 n202 n203 n204 n205 n206 n207 n208 n209 n210 n211 n212 n213 n214 n215 n216 n217 n218 n219 n220 n221 n222 n223 n224 n225 n226 n227 n228 n229 n230 n231 n232 n233 n234 n235 n236 n237 n238 n239 n240 n241 n242 n243 n244 n245 n246 n247 n248 : Value) (vs' : List Value) (w' : World), RRel w1 I L O B spots (close1 G v (back1 v rest s)) (.int .i64 (s.count : Int)) n11 n12 n14 vs' w' → Q .normal { tmps := #[s0, s1, s2, s3, .pointer (some ⟨g, 0, none⟩), s5, .int .i64 (spots.length : Int), .slice (some ⟨I, 0, none⟩) spots.length spots.length, .slice (some ⟨L, 0, none⟩) spots.length spots.length, .slice (some ⟨O, 0, none⟩) spots.length spots.length, .int .i64 (s.count : Int), n11, n12, s13, n14, s15, .int .i64 (v : Int), s17, n18, n19, n20, s21, n22, n23, n24, s25, n26, s27, s28, s29, s30, s31, s32, s33, s34, s35, s36, s37, s38, s39, s40, s41, s42, s43, s44, s45, s46, s47, s48, s49, s50, s51, s52, s53, s54, s55, s56, s57, s58, s59, s60, s61, s62, s63, s64, s65, s66, s67, s68, s69, s70, s71, s72, s73, s74, s75, s76, s77, s78, s79, s80, s81, s82, s83, s84, s85, s86, s87, s88, s89, s90, s91, s92, s93, s94, s95, s96, s97, s98, s99, s100, s101, s102, s103, s104, s105, s106, s107, s108, s109, s110, s111, s112, s113, s114, s115, s116, s117, s118, s119, s120, s121, s122, s123, s124, s125, s126, s127, s128, s129, s130, s131, s132, s133, s134, s135, s136, s137, s138, s139, s140, s141, s142, s143, s144, s145, s146, s147, s148, s149, s150, s151, s152, n153, n154, n155, n156, n157, n158, n159, n160, n161, n162, n163, n164, n165, n166, n167, n168, n169, n170, n171, n172, n173, n174, n175, n176, n177, n178, n179, n180, n181, n182, n183, n184, n185, n186, n187, n188, n189, n190, n191, n192, n193, n194, n195, n196, n197, n198, n199, n200, n201, n202, n203, n204, n205, n206, n207, n208, n209, n210, n211, n212, n213, n214, n215, n216, n217, n218, n219, n220, n221, n222, n223, n224, n225, n226, n227, n228, n229, n230, n231, n232, n233, n234, n235, n236, n237, n238, n239, n240, n241, n242, n243, n244, n245, n246, n247, n248, s249, s250, s251, s252], defers := [] } w' ∧ Q (.exit 3) { tmps := #[s0, s1, s2, s3, .pointer (some ⟨g, 0, none⟩), s5, .int .i64 (spots.length : Int), .slice (some ⟨I, 0, none⟩) spots.length spots.length, .slice (some ⟨L, 0, none⟩) spots.length spots.length, .slice (some ⟨O, 0, none⟩) spots.length spots.length, .int .i64 (s.count : Int), n11, n12, s13, n14, s15, .int .i64 (v : Int), s17, n18, n19, n20, s21, n22, n23, n24, s25, n26, s27, s28, s29, s30, s31, s32, s33, s34, s35, s36, s37, s38, s39, s40, s41, s42, s43, s44, s45, s46, s47, s48, s49, s50, s51, s52, s53, s54, s55, s56, s57, s58, s59, s60, s61, s62, s63, s64, s65, s66, s67, s68, s69, s70, s71, s72, s73, s74, s75, s76, s77, s78, s79, s80, s81, s82, s83, s84, s85, s86, s87, s88, s89, s90, s91, s92, s93, s94, s95, s96, s97, s98, s99, s100, s101, s102, s103, s104, s105, s106, s107, s108, s109, s110, s111, s112, s113, s114, s115, s116, s117, s118, s119, s120, s121, s122, s123, s124, s125, s126, s127, s128, s129, s130, s131, s132, s133, s134, s135, s136, s137, s138, s139, s140, s141, s142, s143, s144, s145, s146, s147, s148, s149, s150, s151, s152, n153, n154, n155, n156, n157, n158, n159, n160, n161, n162, n163, n164, n165, n166, n167, n168, n169, n170, n171, n172, n173, n174, n175, n176, n177, n178, n179, n180, n181, n182, n183, n184, n185, n186, n187, n188, n189, n190, n191, n192, n193, n194, n195, n196, n197, n198, n199, n200, n201, n202, n203, n204, n205, n206, n207, n208, n209, n210, n211, n212, n213, n214, n215, n216, n217, n218, n219, n220, n221, n222, n223, n224, n225, n226, n227, n228, n229, n230, n231, n232, n233, n234, n235, n236, n237, n238, n239, n240, n241, n242, n243, n244, n245, n246, n247, n248, s249, s250, s251, s252], defers := [] } w') :
    (subC [1, 1, 1, 1, 1, 1, 1, 1, 0, 1, 0, 0, 1, 1, 0, 0, 1, 1, 1, 0, 0, 1, 0, 1, 1, 1, 1] (Tryz.f8.body.getD .skip)).wp Tryz.prog Q { tmps := #[s0, s1, s2, s3, .pointer (some ⟨g, 0, none⟩), s5, .int .i64 (spots.length : Int), .slice (some ⟨I, 0, none⟩) spots.length spots.length, .slice (some ⟨L, 0, none⟩) spots.length spots.length, .slice (some ⟨O, 0, none⟩) spots.length spots.length, .int .i64 (s.count : Int), p, r, s13, .slice (some ⟨gw, 0, none⟩) (rest.length + 1) cw, s15, .int .i64 (v : Int), s17, s18, s19, s20, s21, s22, s23, s24, s25, s26, s27, s28, s29, s30, s31, s32, s33, s34, s35, s36, s37, s38, s39, s40, s41, s42, s43, s44, s45, s46, s47, s48, s49, s50, s51, s52, s53, s54, s55, s56, s57, s58, s59, s60, s61, s62, s63, s64, s65, s66, s67, s68, s69, s70, s71, s72, s73, s74, s75, s76, s77, s78, s79, s80, s81, s82, s83, s84, s85, s86, s87, s88, s89, s90, s91, s92, s93, s94, s95, s96, s97, s98, s99, s100, s101, s102, s103, s104, s105, s106, s107, s108, s109, s110, s111, s112, s113, s114, s115, s116, s117, s118, s119, s120, s121, s122, s123, s124, s125, s126, s127, s128, s129, s130, s131, s132, s133, s134, s135, s136, s137, s138, s139, s140, s141, s142, s143, s144, s145, s146, s147, s148, s149, s150, s151, s152, s153, s154, s155, s156, s157, s158, s159, s160, s161, s162, s163, s164, s165, s166, s167, s168, s169, s170, s171, s172, s173, s174, s175, s176, s177, s178, s179, s180, s181, s182, s183, s184, s185, s186, s187, s188, s189, s190, s191, s192, s193, s194, s195, s196, s197, s198, s199, s200, s201, s202, s203, s204, s205, s206, s207, s208, s209, s210, s211, s212, s213, s214, s215, s216, s217, s218, s219, s220, s221, s222, s223, s224, s225, s226, s227, s228, s229, s230, s231, s232, s233, s234, s235, s236, s237, s238, s239, s240, s241, s242, s243, s244, s245, s246, s247, s248, s249, s250, s251, s252], defers := [] } w := by
  have HQ := Lib.hid hQ
  have HG := Lib.hid hg
  have HSP := Lib.hid hs
  have HRC := Lib.hid hrc
  have HRV := Lib.hid hrv
  have HUP := Lib.hid hup
  have HNV := Lib.hid hnv
  have HPN := Lib.hid hpn
  clear hQ hg hs hrc hrv hup hnv hpn
  obtain ⟨gw', cw', e0, hgB, hgl, w0, wj, fw, hcw, hcm⟩ := hA.top hw
  cases e0
  have hA1 := hA.pop K hw
  have HA1 := Lib.hid hA1
  clear hA hA1 wj fw w0 
  have hc1 : (rest.length : Int) ≤ (cw : Int) := by omega
  have hc2 : (cw : Int) ≤ 9223372036854775807 := by omega
  show ((Code.region 28 _ _).seq _).wp _ _ _ _
  dsimp only
  go_upto_if 160 with fail
  go_cut [18] from 161 to 179 (fun _ wx => TSAt I L O B spots.length spots (back1 v rest s) p r (.slice (some ⟨gw, 0, none⟩) rest.length cw) vs wx ∧ Fr [] w1 wx ∧ B ≤ wx.heap.size)
  case first =>
    cases rest with
    | nil =>
      have h0 : ¬ (0 : Int) < 0 := by omega
      go_wp2
      go_meet
      exact ⟨HA1.out, hF, hS⟩
    | cons q rr =>
      obtain ⟨up, k⟩ := q
      have hu := HUP.out (up, k) (by simp)
      simp only at hu
      have hu1 : (up : Int) < (spots.length : Int) := by omega
      have hv1 : (v : Int) < (spots.length : Int) := by omega
      obtain ⟨gw', cw', e0, hgB', hgl', w0, wj, fw, hcw', hcm'⟩ := HA1.out.top rfl
      simp only [List.length_cons, Value.slice.injEq, Option.some.injEq, Addr.mk.injEq, and_true, true_and] at e0
      obtain ⟨rfl, rfl⟩ := e0
      have lv := HA1.out.lo.cell hv
      have lu := HA1.out.lo.cell hu
      have lf := HA1.out.lo.frozen up
      have ll := HA1.out.lo.lt
      simp only at lv lu
      have hmin : min (s.low up : Int) (s.low v : Int) = ((min (s.low up) (s.low v) : Nat) : Int) := by omega
      have h5 := HA1.out.putLo K up (min (s.low up) (s.low v))
      have H5 := Lib.hid h5
      clear h5 hw
      simp only [List.length_cons] at *
      have hr1 : IntKind.i64.wrap ((rr.length : Int) + 1 - 1) = (rr.length : Int) := by rw [IntKind.wrap_i64]; omega
      go_upto_region 31 with fail
      go_region
      go_wp2
      go_meet
      exact ⟨H5.out.fr0 ((Fr.refl [] _).drew), (hF.setCell (.inr hI.2.1) _).drew, by show B ≤ (w.setCell _ _).heap.size; simpa using hS⟩
  case rest =>
    obtain ⟨hA2, hF2, hS2⟩ := hcut
    have hiv := hA2.ix.cell hv
    have hlv := hA2.lo.cell hv
    have hv1 : (v : Int) < (spots.length : Int) := by omega
    have HA2 := Lib.hid hA2
    have HBP := Lib.hid (back1_pile v rest s)
    have HBC := Lib.hid (back1_count v rest s)
    clear hA2 HA1
    generalize back1 v rest s = sb at *
    by_cases hl : sb.low v = sb.index v
    · rw [hl] at hlv
      go_upto_region 32 with fail
      go_region
      go_upto_if 188 with fail
      refine wp_cond_false rfl ?_
      go_step
      simp only [Exit.then]
      go_step
      rw [← HBC.out]
      refine ringsClose w1 g I L O B v spots G sb p r _ sv nv rv nl nc bn on vs _ K hI (HA2.out.fr0 ((Fr.refl [] wc).drew)) hF2.drew hS2 HG.out HSP.out HNV.out HRC.out HRV.out (by rw [HBP.out]; exact hvm) (by rw [HBP.out]; exact hpl) (by rw [HBP.out]; exact HPN.out) hvl hl _ ?_
      intros
      rename_i vs' w' hR
      rw [HBC.out] at hR ⊢
      exact (HQ.out _ _ _ _ _ _ _ _ _ _ _ _ _ _ _ _ _ _ _ _ _ _ _ _ _ _ _ _ _ _ _ _ _ _ _ _ _ _ _ _ _ _ _ _ _ _ _ _ _ _ _ _ _ _ _ _ _ _ _ _ _ _ _ _ _ _ _ _ _ _ _ _ _ _ _ _ _ _ _ _ _ _ _ _ _ _ _ _ _ _ _ _ _ _ _ _ _ _ _ _ _ _ _ _ _ _ vs' w' hR).1
    · have hl' : ((sb.low v : Int) == (sb.index v : Int)) = false := by rw [beq_eq_false_iff_ne]; omega
      have hl2 : ((sb.low v : Int) != (sb.index v : Int)) = true := by rw [bne_iff_ne]; omega
      have HC : Hid (close1 G v sb = sb) := by show _ = _; unfold close1; rw [if_pos hl]
      go_upto_region 32 with fail
      go_region
      go_upto_if 188 with fail
      go_wp2
      refine (HQ.out _ _ _ _ _ _ _ _ _ _ _ _ _ _ _ _ _ _ _ _ _ _ _ _ _ _ _ _ _ _ _ _ _ _ _ _ _ _ _ _ _ _ _ _ _ _ _ _ _ _ _ _ _ _ _ _ _ _ _ _ _ _ _ _ _ _ _ _ _ _ _ _ _ _ _ _ _ _ _ _ _ _ _ _ _ _ _ _ _ _ _ _ _ _ _ _ _ _ _ _ _ _ _ _ _ _ vs _ ?_).2
      rw [HC.out]
      exact ⟨by rw [HBC.out], HA2.out.fr0 ((Fr.refl [] wc).drew), hF2.drew, hS2⟩
end
end Go.Proofs.YtdlpbpohbkcafaaGreat
