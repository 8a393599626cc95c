/-
  cycle.Leads: the way from one place on.
  cycle.Leads: back along the way.
-/
import Derived.Test.YtdlpbpohbkcafaaGreatCLeadM
import Derived.Test.YtdlpbpohbkcafaaGreatCRingT
import Derived.Deep.LoopGhost
import Derived.Deep.CutBlock
import Derived.StillTailTactics
import Derived.Deep.RegionLaw
namespace Go.Proofs.YtdlpbpohbkcafaaGreat
section
open Go.RowKit Go.Shelf Go.Sort Go.Proofs

/-- A way that has come to its end. -/
structure WayIs (G : Dg) (st0 st : Nat → Nat) (W L : List Nat) (n a v : Nat) : Prop where
  w : OkW G st0 st W n
  way : Way G W L
  vlt : v < n
  fin : (L = [] ∧ W ≠ []) ∨ (L = [v] ∧ st v ≠ 0)
  from' : a ∈ W ∨ st0 a = 2

set_option maxRecDepth 100000 in
set_option maxHeartbeats 3200000 in
theorem leadsWay (w1 : World) (g Ou St B a : Nat) (spots : List Sp) (G : Dg) (st0 : Nat → Nat) (sv nv : Value) (nl nc bn on : Nat) (w : World) {s0 s1 s2 s3 s5 s6 s7 s11 s14 s15 s16 s17 s18 s19 s20 s21 s22 s23 s24 s25 s26 s27 s28 s29 s30 s31 s32 s33 s34 s35 s36 s37 s38 s39 s40 s41 s42 s43 s44 s45 s46 s47 s48 s49 s50 s51 s52 s53 s54 s55 s56 s57 s58 s59 s60 s61 s62 s63 s64 s65 s66 s67 s68 s69 s70 s71 s72 s73 s74 s75 s76 s77 s78 s79 s80 s81 s82 s83 s84 s85 s86 s87 s88 s89 s90 s91 s92 s93 s94 s95 s96 s97 s98 s99 s100 s101 s102 s103 s104 s105 s106 s107 s108 s109 s110 s111 s112 s113 s114 s115 s116 s117 s118 s119 s120 s121 s122 s123 s124 s125 s126 s127 s128 s129 s130 s131 s132 s133 s134 s135 s136 s137 s138 s139 s140 s141 s142 s143 s144 s145 s146 s147 s148 s149 s150 s151 s152 s153 s154 s155 s156 s157 s158 s159 s160 s161 s162 s163 s164 s165 s166 s167 s168 s169 s170 s171 s172 s173 s174 s175 s176 s177 s178 s179 s180 s181 s182 s183 s184 s185 s186 s187 s188 s189 s190 s191 s192 s193 s194 s195 s196 s197 s198 s199 s200 s201 : Value} (K : LBlk Ou St B) (hI : w1.heap.size ≤ Ou ∧ w1.heap.size ≤ St ∧ w1.heap.size ≤ B)
    (hGR : GrAt w1 g spots G sv nv nl nc bn on) (hG : OkG G) (h1 : ∀ x, x < spots.length → (nxs G x).length ≤ 1) (hst : ∀ x, x < spots.length → st0 x = 0 ∨ st0 x = 2) (ha : a < spots.length)
    (hA : LAt Ou St spots.length spots G st0 w) (hF : Fr [] w1 w) (hS : B ≤ w.heap.size) (Q : Exit → Act → World → Prop)
    (hQ : ∀ (n12 n56 n57 n58 n59 n60 n61 n62 n63 n64 n65 n66 n67 n68 n69 n70 n71 n72 n73 n74 n75 n76 n77 n78 n79 n80 n81 n82 n83 n84 n85 : Value) (v : Nat) (W L : List Nat) (st : Nat → Nat) (w' : World), WayIs G st0 st W L spots.length a v → LAt Ou St spots.length spots G st w' → w'.ownsRow B tI 1 n12 W.length (W.flatMap nC) → Fr [] w1 w' → B ≤ w'.heap.size → Q .normal { tmps := #[s0, s1, s2, s3, .pointer (some ⟨g, 0, none⟩), s5, s6, s7, .int .i64 (spots.length : Int), .slice (some ⟨Ou, 0, none⟩) spots.length spots.length, .slice (some ⟨St, 0, none⟩) spots.length spots.length, s11, n12, .int .i64 (v : Int), s14, s15, s16, s17, s18, s19, s20, s21, s22, s23, s24, s25, s26, s27, s28, s29, s30, s31, s32, s33, s34, s35, s36, s37, s38, s39, s40, s41, s42, s43, s44, s45, s46, s47, s48, s49, s50, s51, s52, s53, s54, s55, n56, n57, n58, n59, n60, n61, n62, n63, n64, n65, n66, n67, n68, n69, n70, n71, n72, n73, n74, n75, n76, n77, n78, n79, n80, n81, n82, n83, n84, n85, s86, s87, s88, s89, s90, s91, s92, s93, s94, s95, s96, s97, s98, s99, s100, s101, s102, s103, s104, s105, s106, s107, s108, s109, s110, s111, s112, s113, s114, s115, s116, s117, s118, s119, s120, s121, s122, s123, s124, s125, s126, s127, s128, s129, s130, s131, s132, s133, s134, s135, s136, s137, s138, s139, s140, s141, s142, s143, s144, s145, s146, s147, s148, s149, s150, s151, s152, s153, s154, s155, s156, s157, s158, s159, s160, s161, s162, s163, s164, s165, s166, s167, s168, s169, s170, s171, s172, s173, s174, s175, s176, s177, s178, s179, s180, s181, s182, s183, s184, s185, s186, s187, s188, s189, s190, s191, s192, s193, s194, s195, s196, s197, s198, s199, s200, s201], defers := [] } w') :
    (subC [1, 1, 1, 1, 1, 1, 1, 0, 1, 0, 0, 1, 1, 0, 0, 1, 1, 1, 0] (Tryz.f14.body.getD .skip)).wp Tryz.prog Q { tmps := #[s0, s1, s2, s3, .pointer (some ⟨g, 0, none⟩), s5, s6, s7, .int .i64 (spots.length : Int), .slice (some ⟨Ou, 0, none⟩) spots.length spots.length, .slice (some ⟨St, 0, none⟩) spots.length spots.length, s11, .slice none 0 0, .int .i64 (a : Int), s14, s15, s16, s17, s18, s19, s20, s21, s22, s23, s24, s25, s26, s27, s28, s29, s30, s31, s32, s33, s34, s35, s36, s37, s38, s39, s40, s41, s42, s43, s44, s45, s46, s47, s48, s49, s50, s51, s52, s53, s54, s55, s56, s57, s58, s59, s60, s61, s62, s63, s64, s65, s66, s67, s68, s69, s70, s71, s72, s73, s74, s75, s76, s77, s78, s79, s80, s81, s82, s83, s84, s85, s86, s87, s88, s89, s90, s91, s92, s93, s94, s95, s96, s97, s98, s99, s100, s101, s102, s103, s104, s105, s106, s107, s108, s109, s110, s111, s112, s113, s114, s115, s116, s117, s118, s119, s120, s121, s122, s123, s124, s125, s126, s127, s128, s129, s130, s131, s132, s133, s134, s135, s136, s137, s138, s139, s140, s141, s142, s143, s144, s145, s146, s147, s148, s149, s150, s151, s152, s153, s154, s155, s156, s157, s158, s159, s160, s161, s162, s163, s164, s165, s166, s167, s168, s169, s170, s171, s172, s173, s174, s175, s176, s177, s178, s179, s180, s181, s182, s183, s184, s185, s186, s187, s188, s189, s190, s191, s192, s193, s194, s195, s196, s197, s198, s199, s200, s201], defers := [] } w := by
  have HQ := Lib.hid hQ
  have HA := Lib.hid hA
  have HG := Lib.hid hG
  have H1 := Lib.hid h1
  have HST := Lib.hid hst
  have hG1 := hGR.len
  have hnl := hGR.nl
  have hnv := hGR.nv
  subst hnv
  subst hnl
  have hsl := hGR.lt
  have HGR := Lib.hid hGR
  clear hQ hA hG h1 hst hGR
  show (Code.block 4 _).wp _ _ _ _
  dsimp only
  obtain ⟨i0, hi0, hz0, hz1, hz2⟩ := info_parts infoInt
  go_wp2_with fail
  go_loopg [12, 13] spots.length (fun fu wv vv wr => ∃ (v : Nat) (W : List Nat) (st : Nat → Nat), vv = .int .i64 (v : Int) ∧ v < spots.length ∧ W.length + fu = spots.length ∧ OkW G st0 st W spots.length ∧ Way G W [v] ∧ (a ∈ W ∨ (W = [] ∧ v = a)) ∧ LAt Ou St spots.length spots G st wr ∧ wr.ownsRow B tI 1 wv W.length (W.flatMap nC) ∧ Fr [] w1 wr ∧ B ≤ wr.heap.size)
  case atStart => exact ⟨a, [], st0, rfl, ha, by simp, OkW.nil _ _ _, Way.nil _ _, .inr ⟨rfl, rfl⟩, HA.out, World.ownsRow_nil _ _ _ _, hF, hS⟩
  case round =>
    obtain ⟨v, W, st, rfl, hv, hfu, hW, hWay, hfrom, hAr, hOr, hFr, hSr⟩ := hrel
    have hv1 : (v : Int) < (spots.length : Int) := by omega
    have t0 := hAr.state.cell hv
    have t1 := hAr.state.frozen v
    have t2 := hAr.state.lt
    have HW := Lib.hid hW
    have HWAY := Lib.hid hWay
    have HFROM := Lib.hid hfrom
    have HAR := Lib.hid hAr
    have HOR := Lib.hid hOr
    clear hW hWay hfrom hAr hOr
    by_cases h0 : st v = 0
    · have t0' : wr.cell? ⟨St, v, none⟩ = some (.int .i64 0) := by rw [t0, h0]; rfl
      have hWl : W.length < spots.length := by
        have h3 : (W ++ [v]).Nodup := (HW.out.snoc h0 hv).nd
        have := nodup_lt h3 (n := spots.length) (HW.out.snoc h0 hv).lt
        simp at this
        omega
      obtain ⟨f, rfl⟩ : ∃ f, gk = f + 1 := ⟨gk - 1, by omega⟩
      have hA1 := HAR.out.one K.os (v := v) (by omega)
      have HA1 := Lib.hid hA1
      have HO1 := Lib.hid (owns_fr HOR.out (fr_cell wr St v (.int .i64 1)) (own_low HOR.out K.s))
      have hF1 : Fr [] w1 (wr.setCell ⟨St, v, none⟩ (.int .i64 1)) := hFr.setCell (.inr hI.2.1) _
      have hS1 : B ≤ (wr.setCell ⟨St, v, none⟩ (.int .i64 1)).heap.size := by simpa using hSr
      have HW1 := Lib.hid (HW.out.snoc h0 hv)
      have HWAY1 := Lib.hid HWAY.out.snoc
      have HF1 : Hid (a ∈ W ++ [v]) := by
        show _ ∈ _
        rcases HFROM.out with h | ⟨_, rfl⟩
        · exact List.mem_append_left _ h
        · simp
      clear hA1 t0 h0 HAR HOR hFr hSr HW HWAY HFROM
      go_upto_region 20 with fail
      clear t0' t1 t2
      generalize wr.setCell ⟨St, v, none⟩ (.int .i64 1) = WA at *
      have hown2 := HO1.out.alloc (.cells #[.int .i64 (v : Int)] tI)
      go_upto_region 21 with (at_builtin; refine wpList_append_own _ rfl _ _ 47 rfl B tI i0 _ 1 8 Tryz.underlying47 hi0 hz0 hz1 hz2 rfl (by decide) _ _ _ rfl hown2 ⟨WA.heap.size, 0, none⟩ 1 1 (nC v) rfl rfl (by have := news_of WA (nC v) tI; simpa using this) (one_mem rfl) (by unfold maxLen; omega) (by omega) (by simp; omega) ?_; intro v' w9 hown9 hgrow _)
      have hfa : Fr [] WA (WA.alloc (.cells #[.int .i64 (v : Int)] tI)) := (Fr.refl [] WA).alloc _
      have HA9 := Lib.hid ((HA1.out.fr hfa (by simp) (by simp)).fr (fr_grown hgrow) (low_not hown2 K.o) (low_not hown2 K.s))
      have hF9 : Fr [] w1 w9 := (hF1.trans0 hfa).grown hgrow (fun k hk => .inr (by have := (hown2.lt k hk).1; omega))
      have hS9 : B ≤ w9.heap.size := by
        have := hgrow.size
        simp at this
        omega
      have HO9 : Hid (w9.ownsRow B tI 1 v' (W ++ [v]).length ((W ++ [v]).flatMap nC)) := by
        show World.ownsRow _ _ _ _ _ _ _
        rw [List.length_append, List.flatMap_append]
        simpa using hown9
      have hlen2 : (W ++ [v]).length = W.length + 1 := by simp
      obtain ⟨rv, hr1, hr2, hr3⟩ := HGR.out.row v hv
      obtain ⟨lq, lc, rfl, hl1, hl2⟩ := hr2.form
      have hcr := ce_call hF9 hr1
      have cg := cell_of (hF9.heap HGR.out.hp (by simp)) 1
      have hl1' := H1.out v hv
      have HR2 := Lib.hid hr2
      have HNX : Hid (∀ u ∈ nxs G v, u < spots.length) := fun u hu => by rw [← hG1]; exact HG.out.nx hu
      have hbl := Nat.lt_of_lt_of_le HGR.out.bl hF9.size
      clear hfa hown2 hown9 hgrow HA1 HO1 hF1 hS1 hr1 hr2 hr3
      generalize hW2 : W ++ [v] = W2 at *
      clear hW2
      by_cases hz : (nxs G v).length = 0
      · have hzi : ((nxs G v).length : Int) = 0 := by omega
        have hzn := List.eq_nil_of_length_eq_zero hz
        rw [hzn] at HWAY1
        have hne : W2 ≠ [] := by
          intro e
          rw [e] at hlen2
          simp at hlen2
        have HWI : Hid (WayIs G st0 (upd st v 1) W2 [] spots.length a v) := ⟨HW1.out, HWAY1.out, hv, .inl ⟨rfl, hne⟩, .inl HF1.out⟩
        rw [hzn] at hcr
        clear hz hzi hzn hne
        go_wp2_with fail
        apply HQ.out
        · exact HWI.out
        · exact HA9.out
        · exact HO9.out
        · exact hF9
        · exact hS9
      · obtain ⟨u, hu⟩ : ∃ u, nxs G v = [u] := List.length_eq_one_iff.1 (by omega)
        rw [hu] at HWAY1 hcr HR2 HNX
        have hun := HNX.out u (by simp)
        obtain ⟨b, off, _, e, hb, c0⟩ := nums_cell (HR2.out.fr0 hF9) (k := 0) (by simp)
        cases e
        have c0' : w9.cell? ⟨b, off, none⟩ = some (.int .i64 (u : Int)) := c0
        clear hz hu hl1 hl2 hl1' c0
        go_wp2_with fail
        go_roundg f
        case rel => exact ⟨u, W2, upd st v 1, rfl, hun, by omega, HW1.out, HWAY1.out, .inl HF1.out, HA9.out, HO9.out, hF9, hS9⟩
        case measure => omega
    · have hb0 : ((st v : Int) == 0) = false := by rw [beq_eq_false_iff_ne]; omega
      have HWI : Hid (WayIs G st0 st W [v] spots.length a v) := ⟨HW.out, HWAY.out, hv, .inr ⟨rfl, h0⟩, by
        rcases HFROM.out with h | ⟨h, rfl⟩
        · exact .inl h
        · subst h
          have := HW.out.rest v (by simp)
          have h2 := HST.out v hv
          exact .inr (by omega)⟩
      clear h0
      go_wp2_with fail
      apply HQ.out
      · exact HWI.out
      · exact HAR.out
      · exact HOR.out
      · exact hFr
      · exact hSr
end
section
open Go.RowKit Go.Shelf Go.Sort Go.Proofs

/-- What the box for the end holds. -/
def EndAt (E : Nat) (x0 x1 : Value) (r : Bool) (s : Int) (f : Sp) (w : World) : Prop := w.heap[E]? = some (.cells #[x0, x1, .bool r, .int .i64 s, .int .i64 f.1, .int .i64 f.2] tLd (0, 0))

/-- A lead is the end's, a step further. -/
def Ends (G : Dg) (spots : List Sp) (a : Nat) (r : Bool) (s : Int) (f : Sp) : Prop := (leadOf G a).ring = r ∧ ((leadOf G a).steps : Int) = s + 1 ∧ spots.getD (leadOf G a).first (0, 0) = f
def EndsAt (G : Dg) (spots : List Sp) (W : List Nat) (j : Nat) (r : Bool) (s : Int) (f : Sp) : Prop := 0 < j → Ends G spots (W.getD (j - 1) 0) r s f
/-- Those ahead of k, one by one. -/
def Steps (G : Dg) (W : List Nat) (k : Nat) : Prop := ∀ j, j + 1 < k → leadOf G (W.getD j 0) = bump (leadOf G (W.getD (j + 1) 0))

theorem EndAt.put {E : Nat} {y0 y1 : Value} {r : Bool} {s : Int} {f : Sp} {w : World} (h : EndAt E y0 y1 r s f w) (a b : Value) : EndAt E a b r s f ((w.setCell ⟨E, 0, none⟩ a).setCell ⟨E, 1, none⟩ b) := by
  unfold EndAt at *
  rw [set_of (set_of h 0 a) 1 b]
  rfl
theorem told_succ {W : List Nat} {i : Nat} (hi : i < W.length) (st : Nat → Nat) : (fun a => if a ∈ W.drop i then 2 else st a) = upd (fun a => if a ∈ W.drop (i + 1) then 2 else st a) W[i] 2 := by
  funext a
  have hm : a ∈ W.drop i ↔ a = W[i] ∨ a ∈ W.drop (i + 1) := by rw [List.drop_eq_getElem_cons hi, List.mem_cons]
  simp only [upd, hm]
  by_cases e : a = W[i]
  · rw [if_pos e, if_pos (.inl e)]
  · rw [if_neg e]
    by_cases h : a ∈ W.drop (i + 1)
    · rw [if_pos h, if_pos (.inr h)]
    · rw [if_neg h, if_neg (fun h2 => h2.elim e h)]

set_option maxRecDepth 100000 in
set_option maxHeartbeats 3200000 in
theorem leadsBack (w1 : World) (g Ou St B E k : Nat) (spots : List Sp) (G : Dg) (st : Nat → Nat) (W : List Nat) (wv sv nv x0 x1 : Value) (r : Bool) (s : Int) (f : Sp) (w : World) {s0 s1 s2 s3 s5 s6 s7 s11 s13 s14 s17 s18 s19 s20 s21 s22 s23 s24 s25 s26 s27 s28 s29 s30 s31 s32 s33 s34 s35 s36 s37 s38 s39 s40 s41 s42 s43 s44 s45 s46 s47 s48 s49 s50 s51 s52 s53 s54 s55 s56 s57 s58 s59 s60 s61 s62 s63 s64 s65 s66 s67 s68 s69 s70 s71 s72 s73 s74 s75 s76 s77 s78 s79 s80 s81 s82 s83 s84 s85 s86 s87 s88 s89 s90 s91 s92 s93 s94 s95 s96 s97 s98 s99 s100 s101 s102 s103 s104 s105 s106 s107 s108 s109 s110 s111 s112 s113 s114 s115 s116 s117 s118 s119 s120 s121 s122 s123 s124 s125 s126 s127 s128 s129 s130 s131 s132 s133 s134 s135 s136 s137 s138 s139 s140 s141 s142 s143 s144 s145 s146 s147 s148 s149 s150 s151 s152 s153 s154 s155 s156 s157 s158 s159 s160 s161 s162 s163 s164 s165 s166 s167 s168 s169 s170 s171 s172 s173 s174 s175 s176 s177 s178 s179 s180 s181 s182 s183 s184 s185 s186 s187 s188 s189 s190 s191 s192 s193 s194 s195 s196 s197 s198 s199 s200 s201 : Value} (K : LBlk Ou St B) (hI : w1.heap.size ≤ Ou ∧ w1.heap.size ≤ St ∧ w1.heap.size ≤ B)
    (hg : w1.heap[g]? = some (.cells #[sv, nv] tG (0, 0))) (hs : SpotsAt w1 sv spots) (hn : spots.length ≤ 65536)
    (hA : LAt Ou St spots.length spots G (fun a => if a ∈ W.drop k then 2 else st a) w) (hO : w.ownsRow B tI 1 wv W.length (W.flatMap nC)) (hE : EndAt E x0 x1 r s f w) (hEB : B ≤ E)
    (hk : k ≤ W.length) (hWl : ∀ a ∈ W, a < spots.length) (hWn : W.Nodup) (hst : ∀ a ∈ W, (leadOf G a).steps ≤ 65536)
    (hC : Steps G W k) (hL : EndsAt G spots W k r s f)
    (hF : Fr [] w1 w) (hS : B ≤ w.heap.size) (Q : Exit → Act → World → Prop)
    (hQ : ∀ (n20 n166 n167 n168 n169 n170 n171 n172 n173 n174 n175 n176 n177 n178 n179 n180 n181 n182 n183 n184 n185 n186 n187 n188 n189 n190 n191 n192 n193 n194 n195 n196 n197 n198 n199 : Value) (w' : World), LAt Ou St spots.length spots G (fun a => if a ∈ W then 2 else st a) w' → Fr [] w1 w' → B ≤ w'.heap.size → Q .normal { tmps := #[s0, s1, s2, s3, .pointer (some ⟨g, 0, none⟩), s5, s6, s7, .int .i64 (spots.length : Int), .slice (some ⟨Ou, 0, none⟩) spots.length spots.length, .slice (some ⟨St, 0, none⟩) spots.length spots.length, s11, wv, s13, s14, .int .i64 (k : Int), .pointer (some ⟨E, 0, none⟩), s17, s18, s19, n20, s21, s22, s23, s24, s25, s26, s27, s28, s29, s30, s31, s32, s33, s34, s35, s36, s37, s38, s39, s40, s41, s42, s43, s44, s45, s46, s47, s48, s49, s50, s51, s52, s53, s54, s55, s56, s57, s58, s59, s60, s61, s62, s63, s64, s65, s66, s67, s68, s69, s70, s71, s72, s73, s74, s75, s76, s77, s78, s79, s80, s81, s82, s83, s84, s85, s86, s87, s88, s89, s90, s91, s92, s93, s94, s95, s96, s97, s98, s99, s100, s101, s102, s103, s104, s105, s106, s107, s108, s109, s110, s111, s112, s113, s114, s115, s116, s117, s118, s119, s120, s121, s122, s123, s124, s125, s126, s127, s128, s129, s130, s131, s132, s133, s134, s135, s136, s137, s138, s139, s140, s141, s142, s143, s144, s145, s146, s147, s148, s149, s150, s151, s152, s153, s154, s155, s156, s157, s158, s159, s160, s161, s162, s163, s164, s165, n166, n167, n168, n169, n170, n171, n172, n173, n174, n175, n176, n177, n178, n179, n180, n181, n182, n183, n184, n185, n186, n187, n188, n189, n190, n191, n192, n193, n194, n195, n196, n197, n198, n199, s200, s201], defers := [] } w') :
    (subC [1, 1, 1, 1, 1, 1, 1, 0, 1, 0, 0, 1, 1, 0, 0, 1, 1, 1, 1, 1, 1, 1, 1, 1] (Tryz.f14.body.getD .skip)).wp Tryz.prog Q { tmps := #[s0, s1, s2, s3, .pointer (some ⟨g, 0, none⟩), s5, s6, s7, .int .i64 (spots.length : Int), .slice (some ⟨Ou, 0, none⟩) spots.length spots.length, .slice (some ⟨St, 0, none⟩) spots.length spots.length, s11, wv, s13, s14, .int .i64 (k : Int), .pointer (some ⟨E, 0, none⟩), s17, s18, s19, s20, s21, s22, s23, s24, s25, s26, s27, s28, s29, s30, s31, s32, s33, s34, s35, s36, s37, s38, s39, s40, s41, s42, s43, s44, s45, s46, s47, s48, s49, s50, s51, s52, s53, s54, s55, s56, s57, s58, s59, s60, s61, s62, s63, s64, s65, s66, s67, s68, s69, s70, s71, s72, s73, s74, s75, s76, s77, s78, s79, s80, s81, s82, s83, s84, s85, s86, s87, s88, s89, s90, s91, s92, s93, s94, s95, s96, s97, s98, s99, s100, s101, s102, s103, s104, s105, s106, s107, s108, s109, s110, s111, s112, s113, s114, s115, s116, s117, s118, s119, s120, s121, s122, s123, s124, s125, s126, s127, s128, s129, s130, s131, s132, s133, s134, s135, s136, s137, s138, s139, s140, s141, s142, s143, s144, s145, s146, s147, s148, s149, s150, s151, s152, s153, s154, s155, s156, s157, s158, s159, s160, s161, s162, s163, s164, s165, s166, s167, s168, s169, s170, s171, s172, s173, s174, s175, s176, s177, s178, s179, s180, s181, s182, s183, s184, s185, s186, s187, s188, s189, s190, s191, s192, s193, s194, s195, s196, s197, s198, s199, s200, s201], defers := [] } w := by
  have HQ := Lib.hid hQ
  have HG := Lib.hid hg
  have HS := Lib.hid hs
  have HA := Lib.hid hA
  have HO := Lib.hid hO
  have HE := Lib.hid hE
  have HWL := Lib.hid hWl
  have HWN := Lib.hid hWn
  have HST := Lib.hid hst
  have HC := Lib.hid hC
  have HL := Lib.hid hL
  obtain ⟨wq, wc, rfl, hw1, hw2⟩ := (own_sl hO).form
  obtain ⟨sq, sc, rfl, hs1, hs2⟩ := hs.form
  have hWle : W.length ≤ 65536 := Nat.le_trans (nodup_lt hWn hWl) hn
  clear hQ hg hs hA hO hE hWl hWn hst hC hL
  show ((Code.region 40 _ _).seq _).wp _ _ _ _
  dsimp only
  go_wp2_with fail
  go_loopw [20] (fun i wr => ∃ (j : Nat) (y0 y1 : Value) (s' : Int), i = .int .i64 ((j : Int) - 1) ∧ j ≤ k ∧ LAt Ou St spots.length spots G (fun a => if a ∈ W.drop j then 2 else st a) wr ∧ EndAt E y0 y1 r s' f wr ∧ wr.ownsRow B tI 1 (.slice wq W.length wc) W.length (W.flatMap nC) ∧ Fr [] w1 wr ∧ B ≤ wr.heap.size ∧ EndsAt G spots W j r s' f) (fun i _ => (intOf i + 1).toNat)
  case atStart => exact ⟨k, x0, x1, s, rfl, Nat.le_refl _, HA.out, HE.out, HO.out, hF, hS, HL.out⟩
  case round =>
    obtain ⟨j, y0, y1, s', rfl, hj, hAj, hEj, hOj, hFj, hSj, hLj⟩ := hrel
    have HAJ := Lib.hid hAj
    have HOJ := Lib.hid hOj
    have HLJ := Lib.hid hLj
    have HEJ := Lib.hid hEj
    clear hAj hOj hLj hEj
    by_cases h0 : j = 0
    · subst h0
      have HA0 : Hid (LAt Ou St spots.length spots G (fun a => if a ∈ W then 2 else st a) wr) := by
        have := HAJ.out
        rw [List.drop_zero] at this
        exact this
      have em : ((0 : Nat) : Int) - 1 = -1 := rfl
      simp only [em]
      go_wp2
      apply HQ.out
      · exact HA0.out
      · exact hFj
      · exact hSj
    · obtain ⟨i, rfl⟩ : ∃ i, j = i + 1 := ⟨j - 1, by omega⟩
      have em : ((i + 1 : Nat) : Int) - 1 = (i : Int) := by omega
      simp only [em]
      have hi : i < W.length := by omega
      have hi1 : (i : Int) < (W.length : Int) := by omega
      obtain ⟨wb, wo, _, e, hwb, cw⟩ := nums_cell (own_sl HOJ.out) hi
      cases e
      have hu := HWL.out W[i] (List.getElem_mem hi)
      have HU := Lib.hid (List.getElem_mem hi)
      have HLI : Hid (Ends G spots W[i] r s' f) := by
        have := HLJ.out (Nat.succ_pos i)
        rwa [Nat.add_sub_cancel, List.getD_eq_getElem?_getD, List.getElem?_eq_getElem hi] at this
      have HSI := Lib.hid (told_succ hi st)
      have HNX : Hid (EndsAt G spots W i r (s' + 1) f) := fun h => by
        have h1 := HC.out (i - 1) (by omega)
        rw [show i - 1 + 1 = i by omega] at h1
        have e2 : W.getD i 0 = W[i] := by rw [List.getD_eq_getElem?_getD, List.getElem?_eq_getElem hi]; rfl
        rw [e2] at h1
        obtain ⟨k1, k2, k3⟩ := HLI.out
        unfold Ends
        rw [h1]
        exact ⟨k1, by show (((leadOf G W[i]).steps + 1 : Nat) : Int) = _; omega, k3⟩
      have hs3 := HST.out W[i] (List.getElem_mem hi)
      have hs4 := HLI.out.2.1
      have hsl : -1 ≤ s' := by omega
      have hsh : s' ≤ 65535 := by omega
      have HCE : Hid (∀ a b : Value, a = .int .i64 (spots.getD W[i] (0, 0)).1 → b = .int .i64 (spots.getD W[i] (0, 0)).2 → [a, b, .bool r, .int .i64 (s' + 1), .int .i64 f.1, .int .i64 f.2] = ldC spots W[i] (leadOf G W[i])) := fun a b ha hb => by
        obtain ⟨k1, k2, k3⟩ := HLI.out
        rw [ha, hb, ← k1, ← k2, ← k3]
      clear hs3 hs4 HLI HLJ
      generalize hui : W[i] = u at *
      have HUI := Lib.hid hui
      clear hui
      have hu1 : (u : Int) < (spots.length : Int) := by omega
      have hEc := cell_of HEJ.out
      have hEf := free_of HEJ.out
      have hEl := lt_of HEJ.out
      have cE3 := hEc 3
      have fE3 := hEf 3
      clear hEc hEf
      go_upto_region 44 with fail
      have hfA : Fr [E] wr (wr.setCell ⟨E, 3, none⟩ (.int .i64 (s' + 1))) := fr_cell wr E 3 _
      have hEA := set_of HEJ.out 3 (.int .i64 (s' + 1))
      have hEA' : EndAt E y0 y1 r (s' + 1) f (wr.setCell ⟨E, 3, none⟩ (.int .i64 (s' + 1))) := by
        unfold EndAt
        rw [hEA]
        rfl
      have hneE : ∀ k', (Value.slice (some ⟨wb, wo, none⟩) W.length wc).ownBlock = some k' → k' ∉ [E] := fun k' hk' hm => own_box HOJ.out HEJ.out (by decide) k' hk' (by simpa using hm)
      have hOA := Lib.hid (owns_fr HOJ.out hfA hneE)
      have hAA := Lib.hid (HAJ.out.fr hfA (by have := K.o; simp; omega) (by have := K.s; simp; omega))
      have hFA : Fr [] w1 (wr.setCell ⟨E, 3, none⟩ (.int .i64 (s' + 1))) := hFj.setCell (.inr (by show w1.heap.size ≤ E; omega)) _
      have hSA : B ≤ (wr.setCell ⟨E, 3, none⟩ (.int .i64 (s' + 1))).heap.size := by simpa using hSj
      clear hEA hfA cE3 fE3 hEl HAJ HOJ HEJ hFj hSj cw hwb
      generalize wr.setCell ⟨E, 3, none⟩ (.int .i64 (s' + 1)) = WA at *
      have HEA := Lib.hid hEA'
      have c0 := cell_of (hFA.heap HG.out (by simp)) 0
      obtain ⟨_, _, _, e, hwb, cw⟩ := nums_cell (own_sl hOA.out) hi
      cases e
      rw [HUI.out] at cw
      obtain ⟨b2, off2, _, e2, hbl2, d0, d1⟩ := spots_cell (HS.out.fr0 hFA) hu
      cases e2
      have HGD : Hid (spots.getD u (0, 0) = spots[u]) := by
        show _ = _
        rw [List.getD_eq_getElem?_getD, List.getElem?_eq_getElem hu]
        rfl
      generalize spots[u] = sp at *
      have hEf := free_of hEA'
      have hEc := cell_of hEA'
      have hEl := lt_of hEA'
      have e0 := hEc 0
      have e1 := hEc 1
      have f0 := hEf 0
      have f1 := hEf 1
      clear hEA' hEf hEc hneE
      go_still_tail 11, (by kernel_rfl)
      change wpList _ _ _ _ _ WA.drew
      go_upto_region 45 with fail
      have hfB : Fr [E] WA ((WA.setCell ⟨E, 0, none⟩ (.int .i64 sp.1)).setCell ⟨E, 1, none⟩ (.int .i64 sp.2)).drew := (((Fr.refl [E] WA).setCell (.inl (by simp)) _).setCell (.inl (by simp)) _).drew
      have hEB : EndAt E (.int .i64 sp.1) (.int .i64 sp.2) r (s' + 1) f ((WA.setCell ⟨E, 0, none⟩ (.int .i64 sp.1)).setCell ⟨E, 1, none⟩ (.int .i64 sp.2)).drew := HEA.out.put _ _
      have hneE : ∀ k', (Value.slice (some ⟨wb, wo, none⟩) W.length wc).ownBlock = some k' → k' ∉ [E] := fun k' hk' hm => own_box hOA.out HEA.out (by decide) k' hk' (by simpa using hm)
      have hOB := Lib.hid (owns_fr hOA.out hfB hneE)
      have hAB := Lib.hid (hAA.out.fr hfB (by have := K.o; simp; omega) (by have := K.s; simp; omega))
      have hFB := hFA.trans hfB (by simp; omega)
      have hSB := Nat.le_trans hSA hfB.size
      clear hfB c0 e0 e1 f0 f1 hEl cw hwb hAA hOA hFA hSA d0 d1 HEA hbl2 hneE
      generalize ((WA.setCell ⟨E, 0, none⟩ (.int .i64 sp.1)).setCell ⟨E, 1, none⟩ (.int .i64 sp.2)).drew = WB at *
      obtain ⟨_, _, _, e, hwb, cw⟩ := nums_cell (own_sl hOB.out) hi
      cases e
      rw [HUI.out] at cw
      have hEc := cell_of hEB
      have hEl := lt_of hEB
      have e0 := hEc 0
      have e1 := hEc 1
      have e2 := hEc 2
      have e3 := hEc 3
      have e4 := hEc 4
      have e5 := hEc 5
      have HEB := Lib.hid hEB
      have o0 := hAB.out.out.cell (i := u * 6) (by omega)
      have o1 := hAB.out.out.cell (i := u * 6 + 1) (by omega)
      have o2 := hAB.out.out.cell (i := u * 6 + 2) (by omega)
      have o3 := hAB.out.out.cell (i := u * 6 + 3) (by omega)
      have o4 := hAB.out.out.cell (i := u * 6 + 4) (by omega)
      have o5 := hAB.out.out.cell (i := u * 6 + 5) (by omega)
      have q0 := hAB.out.out.frozen (u * 6)
      have q1 := hAB.out.out.frozen (u * 6 + 1)
      have q2 := hAB.out.out.frozen (u * 6 + 2)
      have q3 := hAB.out.out.frozen (u * 6 + 3)
      have q4 := hAB.out.out.frozen (u * 6 + 4)
      have q5 := hAB.out.out.frozen (u * 6 + 5)
      clear hEc hEB
      go_still_tail 7, (by kernel_rfl)
      change wpList _ _ _ _ _ WB.drew
      go_upto_region 46 with fail
      have hfC := fr_six WB Ou (u * 6) (.int .i64 sp.1) (.int .i64 sp.2) (.bool r) (.int .i64 (s' + 1)) (.int .i64 f.1) (.int .i64 f.2)
      rw [HGD.out] at HCE
      have hTL := hAB.out.told6 K.os (HCE.out _ _ rfl rfl)
      dsimp only [six] at hfC hTL
      have HTL := Lib.hid hTL
      clear hTL
      have hOC := Lib.hid (owns_fr hOB.out hfC (own_low hOB.out K.o))
      have hsC := row_fr hAB.out.state hfC (by have := K.os; simp; omega)
      have hFC := hFB.trans hfC (by simp; omega)
      have hSC := Nat.le_trans hSB hfC.size
      have hEC : EndAt E (.int .i64 sp.1) (.int .i64 sp.2) r (s' + 1) f _ := hfC.heap HEB.out (by have := K.o; simp; omega)
      clear hfC hAB hOB hFB hSB HEB o0 o1 o2 o3 o4 o5 q0 q1 q2 q3 q4 q5 e0 e1 e2 e3 e4 e5 hEl cw hwb
      generalize (((((((WB.setCell ⟨Ou, u * 6, none⟩ (.int .i64 sp.1)).setCell ⟨Ou, u * 6 + 1, none⟩ (.int .i64 sp.2)).setCell ⟨Ou, u * 6 + 2, none⟩ (.bool r)).setCell ⟨Ou, u * 6 + 3, none⟩ (.int .i64 (s' + 1))).setCell ⟨Ou, u * 6 + 4, none⟩ (.int .i64 f.1)).setCell ⟨Ou, u * 6 + 5, none⟩ (.int .i64 f.2)).drew) = WC at *
      obtain ⟨_, _, _, e, hwb, cw⟩ := nums_cell (own_sl hOC.out) hi
      cases e
      rw [HUI.out] at cw
      have t0 := hsC.cell hu
      have t1 := hsC.frozen u
      have t2 := hsC.lt
      have hfD : Fr [St] WC (WC.setCell ⟨St, u, none⟩ (.int .i64 2)) := fr_cell _ _ _ _
      have HED : Hid (EndAt E (.int .i64 sp.1) (.int .i64 sp.2) r (s' + 1) f (WC.setCell ⟨St, u, none⟩ (.int .i64 2))) := hfD.heap hEC (by have := K.s; simp; omega)
      have HOD := Lib.hid (owns_fr hOC.out hfD (own_low hOC.out K.s))
      have hFD := hFC.trans hfD (by simp; omega)
      have hSD := Nat.le_trans hSC hfD.size
      have HTD : Hid (LAt Ou St spots.length spots G (fun a => if a ∈ W.drop i then 2 else st a) (WC.setCell ⟨St, u, none⟩ (.int .i64 2))) := by
        rw [HSI.out]
        exact HTL.out
      clear hsC hEC hfD
      go_wp2_with fail
      go_roundw
      case rel => exact ⟨i, _, _, s' + 1, rfl, by omega, HTD.out, HED.out, HOD.out, hFD, hSD, HNX.out⟩
      case measure => simp [intOf]
end
end Go.Proofs.YtdlpbpohbkcafaaGreat
