/-
  cycle.Leads: what the way's end is.
  cycle.Leads.
-/
import Derived.Test.YtdlpbpohbkcafaaGreatCLeadA
import Derived.Test.YtdlpbpohbkcafaaGreatCLib
import Derived.Test.YtdlpbpohbkcafaaGreatCRingE
import Derived.Deep.CutBlock
namespace Go.Proofs.YtdlpbpohbkcafaaGreat
section
open Go.RowKit Go.Shelf Go.Sort Go.Proofs

/-- The least of a list. -/
def IsMin (l : List Nat) (m : Nat) : Prop := m ∈ l ∧ ∀ a ∈ l, m ≤ a
theorem isMin_ex : ∀ {l : List Nat}, l ≠ [] → ∃ m, IsMin l m
  | [], h => absurd rfl h
  | [a], _ => ⟨a, by simp, by simp⟩
  | a :: b :: l, _ => by
    obtain ⟨m, h1, h2⟩ := isMin_ex (l := b :: l) (by simp)
    by_cases h : a ≤ m
    · refine ⟨a, by simp, fun x hx => ?_⟩
      rcases List.mem_cons.1 hx with rfl | hx
      · exact Nat.le_refl _
      · exact Nat.le_trans h (h2 x hx)
    · refine ⟨m, List.mem_cons_of_mem _ h1, fun x hx => ?_⟩
      rcases List.mem_cons.1 hx with rfl | hx
      · omega
      · exact h2 x hx
theorem IsMin.same {l : List Nat} {a b : Nat} (h : IsMin l a) (k : IsMin l b) : a = b := Nat.le_antisymm (h.2 _ k.1) (k.2 _ h.1)
theorem IsMin.snoc {l : List Nat} {m x : Nat} (h : IsMin l m) : IsMin (l ++ [x]) (min m x) := by
  refine ⟨?_, fun a ha => ?_⟩
  · by_cases hx : m ≤ x
    · rw [Nat.min_eq_left hx]
      exact List.mem_append_left _ h.1
    · rw [Nat.min_eq_right (by omega)]
      simp
  · rcases List.mem_append.1 ha with ha | ha
    · have := h.2 a ha
      omega
    · rw [List.mem_singleton] at ha
      omega
theorem minN (v : Value) (l : List Nat) (m : Nat) (w : World) (hl : NumsAt w v l) (hm : IsMin l m) : Calls Tryz.prog 37 #[v] w fun e w1 => e = .returned (.int .i64 (m : Int)) ∧ Fr [] w w1 := by
  have HL := Lib.hid hl
  have HM := Lib.hid hm
  have hpos := List.length_pos_of_mem hm.1
  obtain ⟨q, c, rfl, hc1, hc⟩ := hl.form
  have hll : (l.length : Int) ≤ 9223372036854775807 := by omega
  have hl1 : 1 ≤ (l.length : Int) := by omega
  obtain ⟨b, off, _, e, hb, c0⟩ := nums_cell HL.out hpos
  cases e
  have c0' : w.cell? ⟨b, off, none⟩ = some (.int .i64 (l[0] : Int)) := c0
  have H0 : Hid (IsMin (l.take 1) l[0]) := by
    show IsMin _ _
    rw [List.take_succ_eq_append_getElem hpos]
    exact ⟨by simp, by simp⟩
  clear hl hm c0
  generalize l[0] = x0 at *
  go_enter Tryz.func37, Tryz.ntmps37
  go_wp2_with fail
  go_loopw [3, 4] (fun mv i wr => ∃ k y : Nat, i = .int .i64 (k : Int) ∧ mv = .int .i64 (y : Int) ∧ k ≤ l.length ∧ IsMin (l.take k) y ∧ Fr [] w wr) (fun _ i _ => l.length - (intOf i).toNat)
  case atStart => exact ⟨1, x0, rfl, rfl, by omega, H0.out, Fr.refl _ _⟩
  case round =>
    obtain ⟨k, y, rfl, rfl, hk, hy, hf⟩ := hrel
    have HY := Lib.hid hy
    clear hy
    by_cases hlt : k < l.length
    · obtain ⟨_, _, _, e, hbk, c1⟩ := nums_cell (HL.out.fr0 hf) hlt
      cases e
      have hk1 : (k : Int) < (l.length : Int) := by omega
      have HT := Lib.hid (List.take_succ_eq_append_getElem hlt)
      generalize l[k] = z at *
      have HS := Lib.hid (HY.out.snoc (x := z))
      have hmin : min (y : Int) (z : Int) = ((min y z : Nat) : Int) := by omega
      go_wp2
      go_roundw
      case rel => exact ⟨k + 1, min y z, by go_num, by first | rw [hmin] | rfl, by omega, by rw [HT.out]; exact HS.out, hf⟩
      case measure => simp [intOf]; omega
    · obtain rfl : k = l.length := by omega
      rw [List.take_length] at HY
      have HE : Hid (y = m) := HY.out.same HM.out
      go_wp2
      go_ret
      exact ⟨by rw [HE.out]; rfl, hf⟩
/-- What is known at a way's end. -/
structure EndOk (G : Dg) (spots : List Sp) (W : List Nat) (k : Nat) (r : Bool) (s : Int) (f : Sp) : Prop where
  le : k ≤ W.length
  steps : Steps G W k
  ends : EndsAt G spots W k r s f
  has : ∀ a ∈ W, HasL G a
section
variable {G : Dg} {spots : List Sp} {st0 st : Nat → Nat} {W : List Nat} {n a v : Nat}
theorem getD_at {W : List Nat} {j : Nat} (h : j < W.length) : W.getD j 0 = W[j] := by rw [List.getD_eq_getElem?_getD, List.getElem?_eq_getElem h]; rfl
theorem steps_of (hD : OkD G st0) {L : List Nat} (h : OkW G st0 st W n) (hW : Way G W L) {k : Nat} (hk : k ≤ W.length) (hL : ∀ u ∈ L, u ∈ W.drop k ∨ st0 u = 2) (hh : ∀ a ∈ W, HasL G a) : Steps G W k := by
  intro j hj
  rw [getD_at (by omega), getD_at (by omega)]
  exact (h.ahead hD hW hk hL (by omega) (by omega) (hh _ (List.getElem_mem _))).2
theorem end_sink (hD : OkD G st0) (h : OkW G st0 st W n) (hW : Way G W []) (h0 : W ≠ []) : EndOk G spots W W.length false (-1) (spots.getD (W.getD (W.length - 1) 0) (0, 0)) := by
  have hp := List.length_pos_iff.2 h0
  obtain ⟨h1, h2⟩ := h.sink hD hW hp
  refine ⟨Nat.le_refl _, steps_of hD h hW (Nat.le_refl _) (by simp) h2, fun _ => ?_, h2⟩
  rw [getD_at (by omega)]
  unfold Ends
  rw [h1]
  exact ⟨rfl, rfl, rfl⟩
theorem end_told (hD : OkD G st0) (h : OkW G st0 st W n) (hW : Way G W [v]) (h0 : W ≠ []) (hv : st0 v = 2) : EndOk G spots W W.length (leadOf G v).ring ((leadOf G v).steps : Int) (spots.getD (leadOf G v).first (0, 0)) := by
  have hp := List.length_pos_iff.2 h0
  obtain ⟨h1, h2⟩ := h.told hD hW hv hp
  refine ⟨Nat.le_refl _, steps_of hD h hW (Nat.le_refl _) (fun u hu => .inr (by rw [List.mem_singleton] at hu; rw [hu]; exact hv)) h2, fun _ => ?_, h2⟩
  rw [getD_at (by omega)]
  unfold Ends
  rw [h1]
  exact ⟨rfl, rfl, rfl⟩
theorem end_ring (hD : OkD G st0) (h : OkW G st0 st W n) (hW : Way G W [v]) (hv : v ∈ W) {m : Nat} (hm : IsMin (W.drop (W.idxOf v)) m) : EndOk G spots W (W.idxOf v) true 0 (spots.getD m (0, 0)) ∧ ∀ a ∈ W.drop (W.idxOf v), leadOf G a = ⟨true, 0, m⟩ := by
  have hk := List.idxOf_lt_length_of_mem hv
  have he := List.getElem_idxOf hk
  obtain ⟨h1, h2⟩ := h.ring hD hW hk he hm.1 hm.2
  have hdm : v ∈ W.drop (W.idxOf v) := by
    rw [List.mem_iff_getElem]
    refine ⟨0, by rw [List.length_drop]; omega, ?_⟩
    rw [List.getElem_drop]
    simp
  have hL : ∀ u ∈ [v], u ∈ W.drop (W.idxOf v) ∨ st0 u = 2 := fun u hu => .inl (by
    rw [List.mem_singleton] at hu
    rw [hu]
    exact hdm)
  refine ⟨⟨by omega, steps_of hD h hW (by omega) hL h2, fun h0 => ?_, h2⟩, h1⟩
  have h3 := (h.ahead hD hW (Nat.le_of_lt hk) hL (j := W.idxOf v - 1) (by omega) (by omega) (h2 _ (List.getElem_mem _))).2
  have h4 : leadOf G (W[W.idxOf v - 1 + 1]'(by omega)) = ⟨true, 0, m⟩ := h1 _ (by
    have e : W[W.idxOf v - 1 + 1]'(by omega) = v := by
      have : W.idxOf v - 1 + 1 = W.idxOf v := by omega
      simp only [this]
      exact he
    rw [e]
    exact hdm)
  rw [getD_at (by omega)]
  unfold Ends
  rw [h3, h4]
  exact ⟨rfl, rfl, rfl⟩
theorem WayIs.in_or {G : Dg} {L : List Nat} (h : WayIs G st0 st W L n a v) (hL : L = [v]) (hst : ∀ x, x < n → st0 x = 0 ∨ st0 x = 2) : (st v = 1 ∧ v ∈ W) ∨ (st v = 2 ∧ st0 v = 2 ∧ v ∉ W) := by
  by_cases hv : v ∈ W
  · exact .inl ⟨(h.w.one v hv).1, hv⟩
  · have e := h.w.rest v hv
    rcases h.fin with ⟨h1, _⟩ | ⟨_, h2⟩
    · rw [hL] at h1; cases h1
    · have := hst v h.vlt
      exact .inr ⟨by omega, by omega, hv⟩
end

/-- The box's six cells, set one by one. -/
abbrev sixE (w : World) (E : Nat) (x0 x1 x2 x3 x4 x5 : Value) : World := (((((w.setCell ⟨E, 0, none⟩ x0).setCell ⟨E, 1, none⟩ x1).setCell ⟨E, 2, none⟩ x2).setCell ⟨E, 3, none⟩ x3).setCell ⟨E, 4, none⟩ x4).setCell ⟨E, 5, none⟩ x5
theorem EndAt.set6 {E : Nat} {x0 x1 : Value} {r : Bool} {s : Int} {f : Sp} {w : World} (h : EndAt E x0 x1 r s f w) (a b : Value) (r' : Bool) (s' : Int) (f' : Sp) : EndAt E a b r' s' f' (sixE w E a b (.bool r') (.int .i64 s') (.int .i64 f'.1) (.int .i64 f'.2)) := by
  unfold EndAt at *
  have h1 := set_of (set_of (set_of (set_of (set_of (set_of h 0 a) 1 b) 2 (.bool r')) 3 (.int .i64 s')) 4 (.int .i64 f'.1)) 5 (.int .i64 f'.2)
  rw [h1]
  rfl
theorem fr_sixE (w : World) (E : Nat) (x0 x1 x2 x3 x4 x5 : Value) : Fr [E] w (sixE w E x0 x1 x2 x3 x4 x5) :=
  ((((((Fr.refl [E] w).setCell (.inl (by simp)) _).setCell (.inl (by simp)) _).setCell (.inl (by simp)) _).setCell (.inl (by simp)) _).setCell (.inl (by simp)) _).setCell (.inl (by simp)) _
theorem drop_all (W : List Nat) (st : Nat → Nat) : (fun a => if a ∈ W.drop W.length then 2 else st a) = st := by
  funext a
  simp

set_option maxRecDepth 100000 in
set_option maxHeartbeats 3200000 in
theorem leadsEnd (w1 : World) (g Ou St B E a v : Nat) (spots : List Sp) (G : Dg) (st0 st : Nat → Nat) (W L : List Nat) (wv sv nv : Value) (nl nc bn on : Nat) (w : World) {s0 s1 s2 s3 s5 s6 s7 s11 s17 s18 s19 s20 s21 s22 s23 s24 s25 s26 s27 s28 s29 s30 s31 s32 s33 s34 s35 s36 s37 s38 s39 s40 s41 s42 s43 s44 s45 s46 s47 s48 s49 s50 s51 s52 s53 s54 s55 s56 s57 s58 s59 s60 s61 s62 s63 s64 s65 s66 s67 s68 s69 s70 s71 s72 s73 s74 s75 s76 s77 s78 s79 s80 s81 s82 s83 s84 s85 s86 s87 s88 s89 s90 s91 s92 s93 s94 s95 s96 s97 s98 s99 s100 s101 s102 s103 s104 s105 s106 s107 s108 s109 s110 s111 s112 s113 s114 s115 s116 s117 s118 s119 s120 s121 s122 s123 s124 s125 s126 s127 s128 s129 s130 s131 s132 s133 s134 s135 s136 s137 s138 s139 s140 s141 s142 s143 s144 s145 s146 s147 s148 s149 s150 s151 s152 s153 s154 s155 s156 s157 s158 s159 s160 s161 s162 s163 s164 s165 s166 s167 s168 s169 s170 s171 s172 s173 s174 s175 s176 s177 s178 s179 s180 s181 s182 s183 s184 s185 s186 s187 s188 s189 s190 s191 s192 s193 s194 s195 s196 s197 s198 s199 s200 s201 : Value} (K : LBlk Ou St B) (hI : w1.heap.size ≤ Ou ∧ w1.heap.size ≤ St ∧ w1.heap.size ≤ B)
    (hGR : GrAt w1 g spots G sv nv nl nc bn on) (hG : OkG G) (hst : ∀ x, x < spots.length → st0 x = 0 ∨ st0 x = 2) (hD : OkD G st0) (hW : WayIs G st0 st W L spots.length a v) (h0 : W ≠ [])
    (hA : LAt Ou St spots.length spots G st w) (hO : w.ownsRow B tI 1 wv W.length (W.flatMap nC)) (hE : EndAt E (.int .i64 0) (.int .i64 0) false 0 (0, 0) w) (hEB : B ≤ E)
    (hF : Fr [] w1 w) (hS : B ≤ w.heap.size) (Q : Exit → Act → World → Prop)
    (hQ : ∀ (n17 n19 n97 n98 n99 n100 n101 n102 n103 n104 n105 n106 n107 n108 n109 n110 n111 n112 n113 n114 n115 n116 n117 n118 n119 n120 n121 n122 n123 n124 n125 n126 n127 n128 n129 n130 n131 n132 n133 n134 n135 n136 n137 n138 n139 n140 n141 n142 n143 n144 n145 n146 n147 n148 n149 n150 n151 n152 n153 n154 n155 n156 n157 n158 n159 n160 n161 n162 n163 n164 n165 : Value) (k : Nat) (x0 x1 : Value) (r : Bool) (s : Int) (f : Sp) (w' : World), EndOk G spots W k r s f → LAt Ou St spots.length spots G (fun a => if a ∈ W.drop k then 2 else st a) w' → w'.ownsRow B tI 1 wv W.length (W.flatMap nC) → EndAt E x0 x1 r s f w' → Fr [] w1 w' → B ≤ w'.heap.size → Q .normal { tmps := #[s0, s1, s2, s3, .pointer (some ⟨g, 0, none⟩), s5, s6, s7, .int .i64 (spots.length : Int), .slice (some ⟨Ou, 0, none⟩) spots.length spots.length, .slice (some ⟨St, 0, none⟩) spots.length spots.length, s11, wv, .int .i64 (v : Int), .int .i64 (W.getD (W.length - 1) 0 : Nat), .int .i64 (k : Int), .pointer (some ⟨E, 0, none⟩), n17, s18, n19, s20, s21, s22, s23, s24, s25, s26, s27, s28, s29, s30, s31, s32, s33, s34, s35, s36, s37, s38, s39, s40, s41, s42, s43, s44, s45, s46, s47, s48, s49, s50, s51, s52, s53, s54, s55, s56, s57, s58, s59, s60, s61, s62, s63, s64, s65, s66, s67, s68, s69, s70, s71, s72, s73, s74, s75, s76, s77, s78, s79, s80, s81, s82, s83, s84, s85, s86, s87, s88, s89, s90, s91, s92, s93, s94, s95, s96, n97, n98, n99, n100, n101, n102, n103, n104, n105, n106, n107, n108, n109, n110, n111, n112, n113, n114, n115, n116, n117, n118, n119, n120, n121, n122, n123, n124, n125, n126, n127, n128, n129, n130, n131, n132, n133, n134, n135, n136, n137, n138, n139, n140, n141, n142, n143, n144, n145, n146, n147, n148, n149, n150, n151, n152, n153, n154, n155, n156, n157, n158, n159, n160, n161, n162, n163, n164, n165, s166, s167, s168, s169, s170, s171, s172, s173, s174, s175, s176, s177, s178, s179, s180, s181, s182, s183, s184, s185, s186, s187, s188, s189, s190, s191, s192, s193, s194, s195, s196, s197, s198, s199, s200, s201], defers := [] } w') :
    (subC [1, 1, 1, 1, 1, 1, 1, 0, 1, 0, 0, 1, 1, 0, 0, 1, 1, 1, 1, 1, 1, 1, 1, 0] (Tryz.f14.body.getD .skip)).wp Tryz.prog Q { tmps := #[s0, s1, s2, s3, .pointer (some ⟨g, 0, none⟩), s5, s6, s7, .int .i64 (spots.length : Int), .slice (some ⟨Ou, 0, none⟩) spots.length spots.length, .slice (some ⟨St, 0, none⟩) spots.length spots.length, s11, wv, .int .i64 (v : Int), .int .i64 (W.getD (W.length - 1) 0 : Nat), .int .i64 (W.length : Int), .pointer (some ⟨E, 0, none⟩), s17, s18, s19, s20, s21, s22, s23, s24, s25, s26, s27, s28, s29, s30, s31, s32, s33, s34, s35, s36, s37, s38, s39, s40, s41, s42, s43, s44, s45, s46, s47, s48, s49, s50, s51, s52, s53, s54, s55, s56, s57, s58, s59, s60, s61, s62, s63, s64, s65, s66, s67, s68, s69, s70, s71, s72, s73, s74, s75, s76, s77, s78, s79, s80, s81, s82, s83, s84, s85, s86, s87, s88, s89, s90, s91, s92, s93, s94, s95, s96, s97, s98, s99, s100, s101, s102, s103, s104, s105, s106, s107, s108, s109, s110, s111, s112, s113, s114, s115, s116, s117, s118, s119, s120, s121, s122, s123, s124, s125, s126, s127, s128, s129, s130, s131, s132, s133, s134, s135, s136, s137, s138, s139, s140, s141, s142, s143, s144, s145, s146, s147, s148, s149, s150, s151, s152, s153, s154, s155, s156, s157, s158, s159, s160, s161, s162, s163, s164, s165, s166, s167, s168, s169, s170, s171, s172, s173, s174, s175, s176, s177, s178, s179, s180, s181, s182, s183, s184, s185, s186, s187, s188, s189, s190, s191, s192, s193, s194, s195, s196, s197, s198, s199, s200, s201], defers := [] } w := by
  have HQ := Lib.hid hQ
  have HA := Lib.hid hA
  have HG := Lib.hid hG
  have HST := Lib.hid hst
  have HD := Lib.hid hD
  have HW := Lib.hid hW
  have HO := Lib.hid hO
  have HE := Lib.hid hE
  have hG1 := hGR.len
  have hnl := hGR.nl
  have hnv := hGR.nv
  subst hnv
  subst hnl
  have hsl := hGR.lt
  have hpos := List.length_pos_iff.2 h0
  have hlm : W.getD (W.length - 1) 0 ∈ W := by rw [getD_at (by omega)]; exact List.getElem_mem _
  have hln := hW.w.lt _ hlm
  obtain ⟨rv, hr1, hr2, hr3⟩ := hGR.row _ hln
  obtain ⟨lq, lc, rfl, hl1, hl2⟩ := hr2.form
  have hcr := ce_call hF hr1
  have cg1 := cell_of (hF.heap hGR.hp (by simp)) 1
  have cg0 := cell_of (hF.heap hGR.hp (by simp)) 0
  have hnx : nxs G (W.getD (W.length - 1) 0) = L := by
    rw [getD_at (by omega), hW.way _ (by omega), dif_neg (by omega)]
  rw [hnx] at hcr hr2 hr3
  have hL1 : L = [] ∨ L = [v] := by
    rcases hW.fin with h | h
    · exact .inl h.1
    · exact .inr h.1
  have H0 := Lib.hid h0
  have hvn := hW.vlt
  have HGR := Lib.hid hGR
  have hWl : W.length ≤ spots.length := nodup_lt hW.w.nd hW.w.lt
  obtain ⟨b2, off2, sc, e2, hbl2, d0, d1⟩ := spots_cell (hGR.sp.fr0 hF) hln
  rw [e2] at cg0
  have HE2 := Lib.hid e2
  have hbl := Nat.lt_of_lt_of_le hGR.bl hF.size
  have hln1 : ((W.getD (W.length - 1) 0 : Nat) : Int) < (spots.length : Int) := by omega
  have hvn1 : (v : Int) < (spots.length : Int) := by omega
  have hge : spots.getD (W.getD (W.length - 1) 0) (0, 0) = spots[W.getD (W.length - 1) 0] := by rw [List.getD_eq_getElem?_getD, List.getElem?_eq_getElem hln]; rfl
  have HGE := Lib.hid hge
  clear hQ hA hG hst hD hW hO hE hGR hlm hr1 hnx h0 e2 hge
  generalize spots[W.getD (W.length - 1) 0] = sp at *
  have HSP : Hid (sp = spots.getD (W.getD (W.length - 1) 0) (0, 0)) := HGE.out.symm
  generalize hla : W.getD (W.length - 1) 0 = la at *
  have HLA := Lib.hid hla
  clear hla HGE
  show (Code.block 6 _).wp _ _ _ _
  dsimp only
  rcases hL1 with rfl | rfl
  · have hES : Hid (EndOk G spots W W.length false (-1) sp) := by
      have := end_sink (spots := spots) HD.out HW.out.w HW.out.way H0.out
      rw [HLA.out, ← HSP.out] at this
      exact this
    have hEc := cell_of HE.out
    have e0 := hEc 0
    have e1 := hEc 1
    have e2 := hEc 2
    have e3 := hEc 3
    have e4 := hEc 4
    have e5 := hEc 5
    have hEf := free_of HE.out
    have f0 := hEf 0
    have f1 := hEf 1
    have f2 := hEf 2
    have f3 := hEf 3
    have f4 := hEf 4
    have f5 := hEf 5
    have hEl := lt_of HE.out
    clear hEc hEf
    go_wp2_with fail
    have hne : ∀ k', wv.ownBlock = some k' → k' ∉ [E] := fun k' hk' hm => own_box HO.out HE.out (by decide) k' hk' (by simpa using hm)
    have hf6 := fr_sixE w E (.int .i64 0) (.int .i64 0) (.bool false) (.int .i64 (-1)) (.int .i64 sp.1) (.int .i64 sp.2)
    apply HQ.out
    · exact hES.out
    · rw [drop_all]
      exact HA.out.fr hf6 (by have := K.o; simp; omega) (by have := K.s; simp; omega)
    · exact owns_fr HO.out hf6 hne
    · exact HE.out.set6 _ _ false (-1) sp
    · exact hF.trans hf6 (by simp; omega)
    · exact Nat.le_trans hS hf6.size
  · have t0 := HA.out.state.cell hvn
    have hl1v : ([v].length : Int) = 1 := rfl
    rcases HW.out.in_or rfl HST.out with ⟨hs1, hvW⟩ | ⟨hs2, hs0, hvW⟩
    · rw [hs1] at t0
      have t0' : w.cell? ⟨St, v, none⟩ = some (.int .i64 1) := t0
      obtain ⟨gp, cp, rfl, hgp1, hgp2⟩ := HO.out.form hpos
      obtain ⟨_, _, ec, hcp1, hcp2⟩ := (own_sl HO.out).form
      cases ec
      have hki := List.idxOf_lt_length_of_mem hvW
      have hidx : idxN W v = (W.idxOf v : Int) := by unfold idxN; rw [if_pos hvW]
      have hdm : v ∈ W.drop (W.idxOf v) := by
        rw [List.mem_iff_getElem]
        refine ⟨0, by rw [List.length_drop]; omega, ?_⟩
        rw [List.getElem_drop]
        simp
      obtain ⟨m, hm⟩ := isMin_ex (l := W.drop (W.idxOf v)) (fun e => by rw [e] at hdm; simp at hdm)
      obtain ⟨hER, hLD⟩ := end_ring (spots := spots) HD.out HW.out.w HW.out.way hvW hm
      have HER := Lib.hid hER
      have HLD := Lib.hid hLD
      have HM := Lib.hid hm
      have HDM := Lib.hid hdm
      have hmn : m < spots.length := HW.out.w.lt _ (List.mem_of_mem_drop hm.1)
      have HPN : Hid (∀ x ∈ W.drop (W.idxOf v), x < spots.length) := fun x hx => HW.out.w.lt _ (List.mem_of_mem_drop hx)
      have HPD := Lib.hid (own_drop HO.out (Nat.le_of_lt hki))
      have hdl : (W.drop (W.idxOf v)).length = W.length - W.idxOf v := List.length_drop
      have HP := Lib.hid (own_sl HO.out)
      have HPW : Hid (∀ x ∈ W.drop (W.idxOf v), x ∈ W) := fun x hx => List.mem_of_mem_drop hx
      clear t0 hs1 hvW hm hER hLD hdm
      go_wp2_with fail
      refine (indexN _ W v _ HP.out).mono ?_
      rw [hidx]
      rintro e w3 ⟨rfl, h3⟩
      clear hidx
      generalize hk0 : W.idxOf v = k0 at *
      clear hk0
      generalize hpt : W.drop k0 = part at *
      have HPT := Lib.hid hpt
      clear hpt
      have hk1 : (k0 : Int) ≤ (W.length : Int) := by omega
      have hk2 : (W.length : Int) ≤ (cp : Int) := by omega
      have hk3 : (k0 : Int) ≤ (cp : Int) := by omega
      have hk4 : (cp : Int) ≤ 9223372036854775807 := by omega
      go_wp2_with fail
      rw [← hdl]
      refine (minN _ part m _ (HPD.out.fr0 h3) HM.out).mono ?_
      rintro e w4 ⟨rfl, h4⟩
      go_upto_block 7 with fail
      rw [← hdl]
      have hptl : part.length ≤ 65536 := by omega
      have h34 := h3.trans0 h4
      have HA4 := Lib.hid (HA.out.fr h34 (by simp) (by simp))
      have HO4 := Lib.hid (owns_fr HO.out h34 (by simp))
      have HE4 : Hid (EndAt E (.int .i64 0) (.int .i64 0) false 0 (0, 0) w4) := h34.heap HE.out (by simp)
      have hF4 := hF.trans0 h34
      have hS4 : B ≤ w4.heap.size := Nat.le_trans hS h34.size
      clear hdl h3 h4 h34 HPD HP hcr cg1 cg0 d0 d1 t0' HA HO HE hF hS
      have HSV : Hid (SpotsAt w1 (.slice (some ⟨b2, off2, none⟩) spots.length sc) spots) := by
        have := HGR.out.sp
        rw [HE2.out] at this
        exact this
      have HGG : Hid (w1.heap[g]? = some (.cells #[.slice (some ⟨b2, off2, none⟩) spots.length sc, .slice (some ⟨bn, on, none⟩) spots.length nc] tG (0, 0))) := by
        have := HGR.out.hp
        rw [HE2.out] at this
        exact this
      have hmn1 : (m : Int) < (spots.length : Int) := by omega
      go_wp2_with fail
      go_loopw [19, 136] (fun _ i wx => ∃ j : Nat, i = .int .i64 (j : Int) ∧ j ≤ part.length ∧ LAt Ou St spots.length spots G (fun x => if x ∈ part.take j then 2 else st x) wx ∧ wx.ownsRow B tI 1 (.slice (some ⟨gp, 0, none⟩) W.length cp) W.length (W.flatMap nC) ∧ EndAt E (.int .i64 0) (.int .i64 0) false 0 (0, 0) wx ∧ Fr [] w1 wx ∧ B ≤ wx.heap.size) (fun _ i _ => part.length - (intOf i).toNat)
      case atStart => exact ⟨0, rfl, by omega, by simpa using HA4.out, HO4.out, HE4.out, hF4, hS4⟩
      case round =>
        obtain ⟨j, rfl, hj, hAj, hOj, hEj, hFj, hSj⟩ := hrel
        have HAJ := Lib.hid hAj
        have HOJ := Lib.hid hOj
        have HEJ := Lib.hid hEj
        clear hAj hOj hEj
        by_cases hjl : j < part.length
        · have hnp : NumsAt wr (.slice (some ⟨gp, k0, none⟩) part.length (cp - k0)) part := by
            have := own_drop HOJ.out (Nat.le_of_lt hki)
            rw [HPT.out] at this
            exact this
          obtain ⟨_, _, _, ec, hb, c0⟩ := nums_cell hnp hjl
          cases ec
          have hj1 : (j : Int) < (part.length : Int) := by omega
          have hu := HPN.out part[j] (List.getElem_mem hjl)
          have HLU := Lib.hid (HLD.out part[j] (List.getElem_mem hjl))
          have HTK := Lib.hid (List.take_succ_eq_append_getElem hjl)
          clear hnp
          generalize part[j] = u at *
          have hu1 : (u : Int) < (spots.length : Int) := by omega
          have HSU : Hid ((fun x => if x ∈ part.take (j + 1) then 2 else st x) = upd (fun x => if x ∈ part.take j then 2 else st x) u 2) := by
            show _ = _
            funext x
            have hm : x ∈ part.take (j + 1) ↔ x ∈ part.take j ∨ x = u := by rw [HTK.out, List.mem_append, List.mem_singleton]
            simp only [upd, hm]
            by_cases e : x = u
            · rw [if_pos (.inr e), if_pos e]
            · rw [if_neg e]
              by_cases h : x ∈ part.take j
              · rw [if_pos h, if_pos (.inl h)]
              · rw [if_neg h, if_neg (fun h2 => h2.elim h e)]
          have cgg := cell_of (hFj.heap HGG.out (by simp)) 0
          obtain ⟨_, _, _, e1, hbl2', d0, d1⟩ := spots_cell (HSV.out.fr0 hFj) hu
          cases e1
          obtain ⟨_, _, _, e1, _, p0, p1⟩ := spots_cell (HSV.out.fr0 hFj) hmn
          cases e1
          have HGU : Hid (spots.getD u (0, 0) = spots[u]) := by
            show _ = _
            rw [List.getD_eq_getElem?_getD, List.getElem?_eq_getElem hu]
            rfl
          have HGM : Hid (spots.getD m (0, 0) = spots[m]) := by
            show _ = _
            rw [List.getD_eq_getElem?_getD, List.getElem?_eq_getElem hmn]
            rfl
          generalize spots[u] = su at *
          generalize spots[m] = sm at *
          have HVS : Hid ([.int .i64 su.1, .int .i64 su.2, .bool true, .int .i64 0, .int .i64 sm.1, .int .i64 sm.2] = ldC spots u (leadOf G u)) := by
            show _ = _
            rw [HLU.out]
            rw [show ldC spots u ⟨true, 0, m⟩ = [.int .i64 (spots.getD u (0, 0)).1, .int .i64 (spots.getD u (0, 0)).2, .bool true, .int .i64 0, .int .i64 (spots.getD m (0, 0)).1, .int .i64 (spots.getD m (0, 0)).2] from rfl, HGU.out, HGM.out]
          have o0 := HAJ.out.out.cell (i := u * 6) (by omega)
          have o1 := HAJ.out.out.cell (i := u * 6 + 1) (by omega)
          have o2 := HAJ.out.out.cell (i := u * 6 + 2) (by omega)
          have o3 := HAJ.out.out.cell (i := u * 6 + 3) (by omega)
          have o4 := HAJ.out.out.cell (i := u * 6 + 4) (by omega)
          have o5 := HAJ.out.out.cell (i := u * 6 + 5) (by omega)
          have q0 := HAJ.out.out.frozen (u * 6)
          have q1 := HAJ.out.out.frozen (u * 6 + 1)
          have q2 := HAJ.out.out.frozen (u * 6 + 2)
          have q3 := HAJ.out.out.frozen (u * 6 + 3)
          have q4 := HAJ.out.out.frozen (u * 6 + 4)
          have q5 := HAJ.out.out.frozen (u * 6 + 5)
          go_upto_region 36 with fail
          go_still_tail 18, (by kernel_rfl)
          change wpList _ _ _ _ _ wr.drew
          go_upto_region 37 with fail
          have hfC := fr_six wr Ou (u * 6) (.int .i64 su.1) (.int .i64 su.2) (.bool true) (.int .i64 0) (.int .i64 sm.1) (.int .i64 sm.2)
          have hTL := HAJ.out.told6 K.os HVS.out
          dsimp only [six] at hfC hTL
          have HTL := Lib.hid hTL
          clear hTL
          have hOC := Lib.hid (owns_fr HOJ.out hfC (own_low HOJ.out K.o))
          have hsC := row_fr HAJ.out.state hfC (by have := K.os; simp; omega)
          have hFC := hFj.trans hfC (by simp; omega)
          have hSC := Nat.le_trans hSj hfC.size
          have hEC : EndAt E (.int .i64 0) (.int .i64 0) false 0 (0, 0) _ := hfC.heap HEJ.out (by have := K.o; simp; omega)
          clear hfC HAJ HOJ HEJ hFj hSj o0 o1 o2 o3 o4 o5 q0 q1 q2 q3 q4 q5 cgg d0 d1 p0 p1 c0
          generalize (((((((wr.setCell ⟨Ou, u * 6, none⟩ (.int .i64 su.1)).setCell ⟨Ou, u * 6 + 1, none⟩ (.int .i64 su.2)).setCell ⟨Ou, u * 6 + 2, none⟩ (.bool true)).setCell ⟨Ou, u * 6 + 3, none⟩ (.int .i64 0)).setCell ⟨Ou, u * 6 + 4, none⟩ (.int .i64 sm.1)).setCell ⟨Ou, u * 6 + 5, none⟩ (.int .i64 sm.2)).drew) = WC at *
          have t0 := hsC.cell hu
          have t1 := hsC.frozen u
          have t2 := hsC.lt
          have hfD : Fr [St] WC (WC.setCell ⟨St, u, none⟩ (.int .i64 2)) := fr_cell _ _ _ _
          have HED : Hid (EndAt E (.int .i64 0) (.int .i64 0) false 0 (0, 0) (WC.setCell ⟨St, u, none⟩ (.int .i64 2))) := hfD.heap hEC (by have := K.s; simp; omega)
          have HOD := Lib.hid (owns_fr hOC.out hfD (own_low hOC.out K.s))
          have hFD := hFC.trans hfD (by simp; omega)
          have hSD := Nat.le_trans hSC hfD.size
          have HTD : Hid (LAt Ou St spots.length spots G (fun x => if x ∈ part.take (j + 1) then 2 else st x) (WC.setCell ⟨St, u, none⟩ (.int .i64 2))) := by
            rw [HSU.out]
            exact HTL.out
          clear hsC hEC hfD
          go_wp2_with fail
          go_roundw
          case rel => exact ⟨j + 1, by go_num, by omega, HTD.out, HOD.out, HED.out, hFD, hSD⟩
          case measure => simp [intOf]; omega
        · obtain rfl : j = part.length := by omega
          have hAL := HAJ.out
          rw [List.take_length] at hAL
          have hv2 : (fun x => if x ∈ part then 2 else st x) v = 2 := by simp only [HDM.out, if_true]
          have hlv := HLD.out v HDM.out
          have o0 : wr.cell? ⟨Ou, v * 6, none⟩ = some (.int .i64 (spots.getD v (0, 0)).1) := hAL.cell (k := 0) hvn (by omega) hv2
          have o1 : wr.cell? ⟨Ou, v * 6 + 1, none⟩ = some (.int .i64 (spots.getD v (0, 0)).2) := hAL.cell (k := 1) hvn (by omega) hv2
          have o2 : wr.cell? ⟨Ou, v * 6 + 2, none⟩ = some (.bool true) := by
            have := hAL.cell (k := 2) hvn (by omega) hv2
            rwa [hlv] at this
          have o3 : wr.cell? ⟨Ou, v * 6 + 3, none⟩ = some (.int .i64 0) := by
            have := hAL.cell (k := 3) hvn (by omega) hv2
            rwa [hlv] at this
          have o4 : wr.cell? ⟨Ou, v * 6 + 4, none⟩ = some (.int .i64 (spots.getD m (0, 0)).1) := by
            have := hAL.cell (k := 4) hvn (by omega) hv2
            rwa [hlv] at this
          have o5 : wr.cell? ⟨Ou, v * 6 + 5, none⟩ = some (.int .i64 (spots.getD m (0, 0)).2) := by
            have := hAL.cell (k := 5) hvn (by omega) hv2
            rwa [hlv] at this
          have HAL := Lib.hid hAL
          have HDR : Hid (W.drop k0 = part) := HPT.out
          clear hAL hv2 hlv HAJ
          generalize spots.getD m (0, 0) = f at *
          generalize spots.getD v (0, 0) = sv' at *
          have hEc := cell_of HEJ.out
          have e0 := hEc 0
          have e1 := hEc 1
          have e2 := hEc 2
          have e3 := hEc 3
          have e4 := hEc 4
          have e5 := hEc 5
          have hEf := free_of HEJ.out
          have f0 := hEf 0
          have f1 := hEf 1
          have f2 := hEf 2
          have f3 := hEf 3
          have f4 := hEf 4
          have f5 := hEf 5
          have hEl := lt_of HEJ.out
          clear hEc hEf
          go_wp2_with fail
          have hne : ∀ k', (Value.slice (some ⟨gp, 0, none⟩) W.length cp).ownBlock = some k' → k' ∉ [E] := fun k' hk' hm => own_box HOJ.out HEJ.out (by decide) k' hk' (by simpa using hm)
          have hf6 := fr_sixE wr E (.int .i64 sv'.1) (.int .i64 sv'.2) (.bool true) (.int .i64 0) (.int .i64 f.1) (.int .i64 f.2)
          apply HQ.out
          · exact HER.out
          · rw [HDR.out]
            exact HAL.out.fr hf6 (by have := K.o; simp; omega) (by have := K.s; simp; omega)
          · exact owns_fr HOJ.out hf6 hne
          · exact HEJ.out.set6 _ _ true 0 f
          · exact hFj.trans hf6 (by simp; omega)
          · exact Nat.le_trans hSj hf6.size
    · rw [hs2] at t0
      have t0' : w.cell? ⟨St, v, none⟩ = some (.int .i64 2) := t0
      have hET : Hid (EndOk G spots W W.length (leadOf G v).ring ((leadOf G v).steps : Int) (spots.getD (leadOf G v).first (0, 0))) := end_told (spots := spots) HD.out HW.out.w HW.out.way H0.out hs0
      have o0 : w.cell? ⟨Ou, v * 6, none⟩ = some (.int .i64 (spots.getD v (0, 0)).1) := HA.out.cell (k := 0) hvn (by omega) hs2
      have o1 : w.cell? ⟨Ou, v * 6 + 1, none⟩ = some (.int .i64 (spots.getD v (0, 0)).2) := HA.out.cell (k := 1) hvn (by omega) hs2
      have o2 : w.cell? ⟨Ou, v * 6 + 2, none⟩ = some (.bool (leadOf G v).ring) := HA.out.cell (k := 2) hvn (by omega) hs2
      have o3 : w.cell? ⟨Ou, v * 6 + 3, none⟩ = some (.int .i64 ((leadOf G v).steps : Int)) := HA.out.cell (k := 3) hvn (by omega) hs2
      have o4 : w.cell? ⟨Ou, v * 6 + 4, none⟩ = some (.int .i64 (spots.getD (leadOf G v).first (0, 0)).1) := HA.out.cell (k := 4) hvn (by omega) hs2
      have o5 : w.cell? ⟨Ou, v * 6 + 5, none⟩ = some (.int .i64 (spots.getD (leadOf G v).first (0, 0)).2) := HA.out.cell (k := 5) hvn (by omega) hs2
      clear t0 hs2 hs0 hvW
      generalize (leadOf G v).ring = r at *
      generalize ((leadOf G v).steps : Int) = s at *
      generalize spots.getD (leadOf G v).first (0, 0) = f at *
      generalize spots.getD v (0, 0) = sv' at *
      have hEc := cell_of HE.out
      have e0 := hEc 0
      have e1 := hEc 1
      have e2 := hEc 2
      have e3 := hEc 3
      have e4 := hEc 4
      have e5 := hEc 5
      have hEf := free_of HE.out
      have f0 := hEf 0
      have f1 := hEf 1
      have f2 := hEf 2
      have f3 := hEf 3
      have f4 := hEf 4
      have f5 := hEf 5
      have hEl := lt_of HE.out
      clear hEc hEf
      go_wp2_with fail
      have hne : ∀ k', wv.ownBlock = some k' → k' ∉ [E] := fun k' hk' hm => own_box HO.out HE.out (by decide) k' hk' (by simpa using hm)
      have hf6 := fr_sixE w E (.int .i64 sv'.1) (.int .i64 sv'.2) (.bool r) (.int .i64 s) (.int .i64 f.1) (.int .i64 f.2)
      apply HQ.out
      · exact hET.out
      · rw [drop_all]
        exact HA.out.fr hf6 (by have := K.o; simp; omega) (by have := K.s; simp; omega)
      · exact owns_fr HO.out hf6 hne
      · exact HE.out.set6 _ _ r s f
      · exact hF.trans hf6 (by simp; omega)
      · exact Nat.le_trans hS hf6.size
end
section
open Go.RowKit Go.Shelf Go.Sort Go.Proofs

/-- The leads of all, as a row has them. -/
noncomputable def leadsC (l : List Sp) (G : Dg) : List Value := (List.range l.length).flatMap fun v => ldC l v (leadOf G v)
def LeadsPost (E : Int) (l : List Sp) (G : Dg) (w : World) (e : Ending) (w1 : World) : Prop :=
  Fr [] w w1 ∧ ((E ≠ 0 ∧ e = .returned (.tuple #[.slice none 0 0, .int .i64 E])) ∨
    (E = 0 ∧ (∃ x, x < l.length ∧ 1 < (nxs G x).length) ∧ e = .returned (.tuple #[.slice none 0 0, .int .i64 5])) ∨
    (E = 0 ∧ (∀ x, x < l.length → (nxs G x).length ≤ 1 ∧ HasL G x) ∧ ∃ sv, e = .returned (.tuple #[sv, .int .i64 0]) ∧ w1.ownsRow w.heap.size tLd 6 sv l.length (leadsC l G)))
theorem LAt.row {Ou St B : Nat} {spots : List Sp} {g : Dg} {st : Nat → Nat} {w : World} (h : LAt Ou St spots.length spots g st w) (h2 : ∀ x, x < spots.length → st x = 2) (hB : B ≤ Ou) (hn : spots.length ≤ 65536) : w.ownsRow B tLd 6 (.slice (some ⟨Ou, 0, none⟩) spots.length spots.length) spots.length (leadsC spots g) := by
  obtain ⟨c, hc, hs, hf⟩ := h.out
  have hl : (leadsC spots g).length = spots.length * 6 := by
    unfold leadsC
    rw [flat_len _ 6 (fun _ => rfl), List.length_range]
  refine ⟨hl, .inr ⟨Ou, _, c, rfl, hB, hc, Nat.le_refl _, by unfold maxLen; omega, hs, ?_⟩⟩
  apply List.ext_getElem?
  intro i
  by_cases hi : i < spots.length * 6
  · rw [List.getElem?_take_of_lt hi, Array.getElem?_toList, hf i hi]
    have hd : i / 6 < spots.length := by omega
    have hm : i % 6 < 6 := Nat.mod_lt _ (by decide)
    have e : i = i / 6 * 6 + i % 6 := by omega
    unfold leadsC
    conv => rhs; rw [e]
    rw [flat_get _ 6 (fun _ => rfl) _ _ _ (by rw [List.length_range]; exact hd) hm, List.getElem_range]
    unfold outF
    rw [if_pos (h2 _ hd), List.getD_eq_getElem?_getD, List.getElem?_eq_getElem (by simpa using hm)]
    rfl
  · rw [List.getElem?_take_eq_none (by omega), List.getElem?_eq_none (by omega)]

set_option maxRecDepth 100000 in
set_option maxHeartbeats 6400000 in
theorem leadsC' (v : Value) (ns : List Nd) (w : World) (hv : NodesAt w v ns) (hB : ns.length + tot ns ≤ 4194304) : Calls Tryz.prog 14 #[v] w (LeadsPost (madeE ns) (gSp ns) (gNx ns) w) := by
  have HV := Lib.hid hv
  clear hv
  go_enter Tryz.func14, Tryz.ntmps14
  go_wp2_with fail
  refine (madeC v ns w HV.out hB).mono ?_
  rintro e w1 ⟨hf1, ⟨h0, rfl⟩ | ⟨h0, g, rfl, hG⟩⟩
  · have h0' : ¬ madeE ns = 0 := h0
    go_wp2
    go_ret2
    exact ⟨hf1, .inl ⟨h0, rfl⟩⟩
  · obtain ⟨hn1, hn2, hn3⟩ := made_ok h0
    have HOKG := Lib.hid (gNx_ok ns)
    have HGLE : Hid (∀ l ∈ gNx ns, l.length ≤ 65536) := fun l hl => Nat.le_trans (gNx_le ns l hl) hn1
    have hGl : (gNx ns).length = (gSp ns).length := by rw [gNx_len, gSp_len]
    have hsl : (gSp ns).length ≤ 65536 := by rw [gSp_len]; exact hn1
    have HE := Lib.hid h0
    clear h0
    have HW1 := Lib.hid hf1
    clear hf1
    generalize madeE ns = E at *
    generalize gSp ns = spots at *
    generalize gNx ns = G at *
    obtain ⟨sv, nv, rows, hg, hs, hn, hr⟩ := hG
    obtain ⟨q, c, rfl, hc1, hc2⟩ := hs.form
    obtain ⟨qn, cn, rfl, hn4, hn5⟩ := hn.form
    rw [hGl] at hg
    rw [hGl] at hn
    have HG := Lib.hid hg
    have HS := Lib.hid hs
    have HN := Lib.hid hn
    have HR := Lib.hid hr
    have hgl := lt_of hg
    have hg1 := cell_of hg 1
    clear hg hs hn hr hn1 hn2 hn3 HV hB
    have HGRF : Hid (0 < spots.length → ∃ bn on cx, GrAt w1 g spots G (.slice q spots.length c) (.slice qn spots.length cn) spots.length cx bn on) := by
      intro hpos
      obtain ⟨bn, on, cx, e, hb, hcl⟩ := HN.out.cell (by omega)
      cases e
      refine ⟨bn, on, cn, HG.out, HS.out, rfl, rfl, hGl, fun v hv => ?_, hsl, hb⟩
      have hvG : v < G.length := by omega
      obtain ⟨rv, e1, e2⟩ := HR.out v hvG
      have e3 : nxs G v = G[v] := by unfold nxs; rw [List.getD_eq_getElem?_getD, List.getElem?_eq_getElem hvG]; rfl
      rw [e3]
      exact ⟨rv, hcl v rv e1, e2, HGLE.out _ (List.getElem_mem hvG)⟩
    have hmI := mkI spots.length (by omega)
    have hmL := mkLd spots.length (by omega)
    go_upto_block 0 with fail
    clear hg1
    go_cut [34] (fun _ wx => (∀ x, x < spots.length → (nxs G x).length ≤ 1) ∧ Fr [] w1 wx)
    case first =>
      go_wp2_with fail
      go_loopw [34] (fun i wr => ∃ k : Nat, i = .int .i64 (k : Int) ∧ k ≤ spots.length ∧ (∀ x, x < k → (nxs G x).length ≤ 1) ∧ Fr [] w1 wr) (fun i _ => spots.length - (intOf i).toNat)
      case atStart => exact ⟨0, rfl, by omega, fun x hx => by omega, Fr.refl _ _⟩
      case round =>
        obtain ⟨k, rfl, hk, h1, hf⟩ := hrel
        have H1 := Lib.hid h1
        clear h1
        by_cases hlt : k < spots.length
        · have hk1 : (k : Int) < (spots.length : Int) := by omega
          obtain ⟨bn, on, cx, hGR⟩ := HGRF.out (by omega)
          have hnv := hGR.nv
          cases hnv
          obtain ⟨rv, hr1, hr2, hr3⟩ := hGR.row k hlt
          obtain ⟨lq, lc, rfl, hl1, hl2⟩ := hr2.form
          have hcr := ce_call hf hr1
          have hbl := Nat.lt_of_lt_of_le hGR.bl hf.size
          clear hr1 hr2 hGR
          by_cases h2 : 1 < (nxs G k).length
          · have h2i : 1 < ((nxs G k).length : Int) := by omega
            have HX : Hid (∃ x, x < spots.length ∧ 1 < (nxs G x).length) := ⟨k, hlt, h2⟩
            clear h2
            go_wp2
            go_ret2
            exact ⟨HW1.out.trans0 hf, .inr (.inl ⟨HE.out, HX.out, rfl⟩)⟩
          · have h2i : ((nxs G k).length : Int) ≤ 1 := by omega
            have HX : Hid (∀ x, x < k + 1 → (nxs G x).length ≤ 1) := fun x hx => by
              by_cases e : x = k
              · rw [e]; omega
              · exact H1.out x (by omega)
            clear h2
            go_wp2
            go_roundw
            case rel => exact ⟨k + 1, by go_num, by omega, HX.out, hf⟩
            case measure => simp [intOf]; omega
        · obtain rfl : k = spots.length := by omega
          go_wp2
          go_meet
          exact ⟨H1.out, hf⟩
    case rest =>
      obtain ⟨h1, hf3⟩ := hcut
      have H1 := Lib.hid h1
      have hg0 := cell_of (hf3.heap HG.out (by simp)) 0
      have hgl3 := Nat.lt_of_lt_of_le hgl hf3.size
      clear h1
      go_upto_block 2 with fail
      have hf0 : Fr [] wc ((wc.alloc (.cells (madeCells ld0.toArray (spots.length * 6)) tLd)).alloc (.cells (Array.replicate spots.length (.int .i64 0)) tI)) := ((Fr.refl [] wc).alloc _).alloc _
      have hA0 : LAt wc.heap.size (wc.heap.size + 1) spots.length spots G (fun _ => 0) ((wc.alloc (.cells (madeCells ld0.toArray (spots.length * 6)) tLd)).alloc (.cells (Array.replicate spots.length (.int .i64 0)) tI)) :=
        ⟨row_new (hp_new (by simp)), (made_ld wc spots.length spots G).alloc _⟩
      have hS0 : wc.heap.size + 2 ≤ ((wc.alloc (.cells (madeCells ld0.toArray (spots.length * 6)) tLd)).alloc (.cells (Array.replicate spots.length (.int .i64 0)) tI)).heap.size := by simp
      have HA0 := Lib.hid hA0
      have hF0 := hf3.trans0 hf0
      have hw13 := hf3.size
      clear hf0 hA0 hg0 hgl3 hmI hmL hf3
      generalize (wc.alloc (.cells (madeCells ld0.toArray (spots.length * 6)) tLd)).alloc (.cells (Array.replicate spots.length (.int .i64 0)) tI) = W0 at *
      generalize wc.heap.size = Ou at *
      have K : LBlk Ou (Ou + 1) (Ou + 2) := ⟨by omega, by omega, by omega⟩
      have HD0 : Hid (OkD G fun _ => 0) := ⟨fun _ h => absurd (show (0 : Nat) = 2 from h) (by decide), fun _ h => absurd (show (0 : Nat) = 2 from h) (by decide)⟩
      go_wp2_with fail
      go_loopw [52] (fun i wr => ∃ (k : Nat) (st : Nat → Nat), i = .int .i64 (k : Int) ∧ k ≤ spots.length ∧ LAt Ou (Ou + 1) spots.length spots G st wr ∧ OkD G st ∧ (∀ x, x < spots.length → st x = 0 ∨ st x = 2) ∧ (∀ x, x < k → st x = 2) ∧ Fr [] w1 wr ∧ Ou + 2 ≤ wr.heap.size) (fun i _ => spots.length - (intOf i).toNat)
      case atStart => exact ⟨0, _, rfl, by omega, HA0.out, HD0.out, fun _ _ => .inl rfl, fun x hx => by omega, hF0, hS0⟩
      case round =>
        obtain ⟨k, st, rfl, hk, hA, hD, hst, hdn, hF, hS⟩ := hrel
        have HA := Lib.hid hA
        have HD := Lib.hid hD
        have HST := Lib.hid hst
        have HDN := Lib.hid hdn
        clear hA hD hst hdn
        by_cases hlt : k < spots.length
        · have hk1 : (k : Int) < (spots.length : Int) := by omega
          obtain ⟨bn, on, cx, hGR⟩ := HGRF.out (by omega)
          have HGR := Lib.hid hGR
          have hnv := hGR.nv
          cases hnv
          clear hGR
          go_upto_block 4 with fail
          refine leadsWay w1 g Ou (Ou + 1) (Ou + 2) k spots G st _ _ spots.length cn bn on _ K ⟨by omega, by omega, by omega⟩ HGR.out HOKG.out H1.out HST.out hlt HA.out hF hS _ ?_
          intros
          rename_i v' W L st' w' hWI hA' hO' hF' hS'
          obtain ⟨wq, wcp, rfl, hwc1, hwc2⟩ := (own_sl hO').form
          have HWI := Lib.hid hWI
          have HA' := Lib.hid hA'
          have HO' := Lib.hid hO'
          have hvn := hWI.vlt
          have hWl : W.length ≤ spots.length := nodup_lt hWI.w.nd hWI.w.lt
          clear hWI hA' hO' HA hF hS
          by_cases hW0 : W.length = 0
          · have hWn := List.eq_nil_of_length_eq_zero hW0
            have hWi : (W.length : Int) = 0 := by omega
            have HS1 : Hid (st' = st) := by
              show _ = _
              funext x
              exact HWI.out.w.rest x (by rw [hWn]; simp)
            have HDN1 : Hid (∀ x, x < k + 1 → st x = 2) := fun x hx => by
              by_cases e : x = k
              · rw [e]
                rcases HWI.out.from' with h | h
                · rw [hWn] at h; simp at h
                · exact h
              · exact HDN.out x (by omega)
            clear hW0 hWn
            go_wp2
            go_roundw
            case rel => exact ⟨k + 1, st, by go_num, by omega, by rw [← HS1.out]; exact HA'.out, HD.out, HST.out, HDN1.out, hF', hS'⟩
            case measure => simp [intOf]; omega
          · have hWi : ((W.length : Int) == 0) = false := by rw [beq_eq_false_iff_ne]; omega
            obtain ⟨m, hm⟩ : ∃ m, W.length = m + 1 := ⟨W.length - 1, by omega⟩
            have hm1 : (W.length : Int) - 1 = (m : Int) := by omega
            have hml : m < W.length := by omega
            have hml1 : (m : Int) < (W.length : Int) := by omega
            obtain ⟨b, off, _, e, hb, c0⟩ := nums_cell (own_sl HO'.out) hml
            cases e
            have hge : W[m] = W.getD (W.length - 1) 0 := by rw [← getD_at hml]; congr 1; omega
            rw [hge] at c0
            have HWNE : Hid (W ≠ []) := fun e => hW0 (by rw [e]; rfl)
            clear hge hW0 hm
            go_upto_block 6 with fail
            have hfa : Fr [] w' (w'.alloc (.cells #[.int .i64 0, .int .i64 0, .bool false, .int .i64 0, .int .i64 0, .int .i64 0] tLd)) := (Fr.refl [] w').alloc _
            refine leadsEnd w1 g Ou (Ou + 1) (Ou + 2) w'.heap.size k v' spots G st st' W L _ _ _ spots.length cn bn on _ K ⟨by omega, by omega, by omega⟩ HGR.out HOKG.out HST.out HD.out HWI.out HWNE.out (HA'.out.fr hfa (by simp) (by simp)) (owns_fr HO'.out hfa (by simp)) (hp_new rfl) hS' (hF'.trans0 hfa) (Nat.le_trans hS' hfa.size) _ ?_
            intros
            rename_i kk x0 x1 r s f w2 hEO hA2 hO2 hE2 hF2 hS2
            dsimp only
            simp only [Exit.then]
            go_step
            have hstp : ∀ x ∈ W, (leadOf G x).steps ≤ 65536 := fun x hx => by
              have h1 := (leadOf_is (hEO.has x hx)).steps_lt HOKG.out (by rw [hGl]; exact HWI.out.w.lt x hx)
              omega
            have hLL : ∀ u ∈ L, u ∈ W ∨ st u = 2 := fun u hu => by
              rcases HWI.out.fin with ⟨h1, _⟩ | ⟨h1, h2⟩
              · rw [h1] at hu; simp at hu
              · rw [h1, List.mem_singleton] at hu
                rw [hu]
                rcases HWI.out.in_or h1 HST.out with h3 | h3
                · exact .inl h3.2
                · exact .inr h3.2.1
            have HD3 := Lib.hid (HD.out.done HWI.out.way hLL hEO.has)
            have HSE : Hid ((fun x => if x ∈ W then 2 else st' x) = fun x => if x ∈ W then 2 else st x) := by
              show _ = _
              funext x
              by_cases e : x ∈ W
              · rw [if_pos e, if_pos e]
              · rw [if_neg e, if_neg e]
                exact HWI.out.w.rest x e
            have HST3 : Hid (∀ x, x < spots.length → (if x ∈ W then 2 else st x) = 0 ∨ (if x ∈ W then 2 else st x) = 2) := fun x hx => by
              by_cases e : x ∈ W
              · rw [if_pos e]; exact .inr rfl
              · rw [if_neg e]; exact HST.out x hx
            have HDN3 : Hid (∀ x, x < k + 1 → (if x ∈ W then 2 else st x) = 2) := fun x hx => by
              by_cases e : x ∈ W
              · rw [if_pos e]
              · rw [if_neg e]
                by_cases e2 : x = k
                · rcases HWI.out.from' with h | h
                  · rw [← e2] at h; exact absurd h e
                  · rw [e2]; exact h
                · exact HDN.out x (by omega)
            refine leadsBack w1 g Ou (Ou + 1) (Ou + 2) w'.heap.size kk spots G st' W _ _ _ x0 x1 r s f w2 K ⟨by omega, by omega, by omega⟩ HG.out HS.out hsl hA2 hO2 hE2 hS' hEO.le HWI.out.w.lt HWI.out.w.nd hstp hEO.steps hEO.ends hF2 hS2 _ ?_
            intros
            rename_i w3 hA3 hF3 hS3
            rw [HSE.out] at hA3
            have HA3 := Lib.hid hA3
            clear hA3 hEO hA2 hO2 hE2 hF2 hS2 hstp hLL
            dsimp only
            go_wp2
            go_roundw
            case rel => exact ⟨k + 1, _, by go_num, by omega, HA3.out, HD3.out, HST3.out, HDN3.out, hF3, hS3⟩
            case measure => simp [intOf]; omega
        · obtain rfl : k = spots.length := by omega
          have HROW := Lib.hid (HA.out.row HDN.out (Nat.le_refl _) hsl)
          have HHAS : Hid (∀ x, x < spots.length → (nxs G x).length ≤ 1 ∧ HasL G x) := fun x hx => ⟨H1.out x hx, HD.out.has x (HDN.out x hx)⟩
          go_wp2
          go_ret2
          exact ⟨HW1.out.trans0 hF, .inr (.inr ⟨HE.out, HHAS.out, _, rfl, owns_mono HROW.out (by have := HW1.out.size; omega)⟩)⟩
end
end Go.Proofs.YtdlpbpohbkcafaaGreat
