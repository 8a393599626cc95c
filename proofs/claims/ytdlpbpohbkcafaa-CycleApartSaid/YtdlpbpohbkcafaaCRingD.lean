/-
  cycle.Rings: a ring is done.
-/
import Derived.Test.YtdlpbpohbkcafaaCRingC
namespace Go.Proofs.Ytdlpbpohbkcafaa
open Go.RowKit Go.Shelf Go.Sort Go.Proofs

theorem own_drop {w : World} {B g c k : Nat} {e : TypeId} {l : List Nat} (h : w.ownsRow B e 1 (.slice (some ⟨g, 0, none⟩) l.length c) l.length (l.flatMap nC)) (hk : k ≤ l.length) : NumsAt w (.slice (some ⟨g, k, none⟩) (l.drop k).length (c - k)) (l.drop k) := by
  have hs := own_sl h
  rcases h.2 with ⟨h', _⟩ | ⟨g', cap', cur, h', hb, hg, hnc, hcm, hcs, htake⟩
  · simp at h'
  · simp only [Value.slice.injEq, Option.some.injEq, Addr.mk.injEq, and_true, true_and] at h'
    obtain ⟨rfl, rfl⟩ := h'
    refine ⟨by rw [flat_len nC 1 (fun _ => rfl)], ⟨_, _, rfl, by rw [List.length_drop]; omega, by unfold maxLen at hcm; omega⟩, fun _ => ⟨g, k, c - k, rfl, lt_of hg, fun j x hx => ?_⟩⟩
    have e : (l.drop k).flatMap nC = (l.flatMap nC).drop k := by
      rw [nC_iC, nC_iC, ← List.map_drop, ← List.map_drop]
    rw [e, List.getElem?_drop] at hx
    exact take_cells hg htake (k + j) x hx

set_option maxRecDepth 100000 in
set_option maxHeartbeats 3200000 in
theorem ringsClose (w1 : World) (g I L O B v : Nat) (spots : List Sp) (G : Dg) (s : TS) (p r t sv nv rv : Value) (nl nc bn on : Nat) (vs : List Value) (w : World) {s0 s1 s2 s3 s5 s13 s15 s17 s18 s19 s20 s21 s22 s23 s24 s25 s26 s27 s28 s29 s30 s31 s32 s33 s34 s35 s36 s37 s38 s39 s40 s41 s42 s43 s44 s45 s46 s47 s48 s49 s50 s51 s52 s53 s54 s55 s56 s57 s58 s59 s60 s61 s62 s63 s64 s65 s66 s67 s68 s69 s70 s71 s72 s73 s74 s75 s76 s77 s78 s79 s80 s81 s82 s83 s84 s85 s86 s87 s88 s89 s90 s91 s92 s93 s94 s95 s96 s97 s98 s99 s100 s101 s102 s103 s104 s105 s106 s107 s108 s109 s110 s111 s112 s113 s114 s115 s116 s117 s118 s119 s120 s121 s122 s123 s124 s125 s126 s127 s128 s129 s130 s131 s132 s133 s134 s135 s136 s137 s138 s139 s140 s141 s142 s143 s144 s145 s146 s147 s148 s149 s150 s151 s152 s153 s154 s155 s156 s157 s158 s159 s160 s161 s162 s163 s164 s165 s166 s167 s168 s169 s170 s171 s172 s173 s174 s175 s176 s177 s178 s179 s180 s181 s182 s183 s184 s185 s186 s187 s188 s189 s190 s191 s192 s193 s194 s195 s196 s197 s198 s199 s200 s201 s202 s203 s204 s205 s206 s207 s208 s209 s210 s211 s212 s213 s214 s215 s216 s217 s218 s219 s220 s221 s222 s223 s224 s225 s226 s227 s228 s229 s230 s231 s232 s233 s234 s235 s236 s237 s238 s239 s240 s241 s242 s243 s244 s245 s246 s247 s248 s249 s250 s251 s252 : Value} (K : Blk I L O B) (hI : w1.heap.size ≤ I ∧ w1.heap.size ≤ L ∧ w1.heap.size ≤ O ∧ w1.heap.size ≤ B)
    (hA : TSAt I L O B spots.length spots s p r t vs w) (hF : Fr [] w1 w) (hS : B ≤ w.heap.size) (hg : w1.heap[g]? = some (.cells #[sv, nv] tG (0, 0))) (hs : SpotsAt w1 sv spots) (hnv : nv = .slice (some ⟨bn, on, none⟩) nl nc ∧ v < nl ∧ nl ≤ 65536) (hrc : w1.cell? ⟨bn, on + v, none⟩ = some rv) (hrv : NumsAt w1 rv (nxs G v))
    (hvm : v ∈ s.pile) (hpl : s.pile.length ≤ 65536) (hpn : ∀ x ∈ s.pile, x < spots.length) (hvl : vs.length ≤ 65536) (hlow : s.low v = s.index v)
    (Q : Exit → Act → World → Prop)
    (hQ : ∀ (n11 n12 n19 n20 n22 n23 n24 n26 n189 n190 n191 n192 n193 n194 n195 n196 n197 n198 n199 n200 n201 n202 n203 n204 n205 n206 n207 n208 n209 n210 n211 n212 n213 n214 n215 n216 n217 n218 n219 n220 n221 n222 n223 n224 n225 n226 n227 n228 n229 n230 n231 n232 n233 n234 n235 n236 n237 n238 n239 n240 n241 n242 n243 n244 n245 n246 n247 n248 : Value) (vs' : List Value) (w' : World), RRel w1 I L O B spots (close1 G v s) (.int .i64 (s.count : Int)) n11 n12 t vs' w' → Q .normal { tmps := #[s0, s1, s2, s3, .pointer (some ⟨g, 0, none⟩), s5, .int .i64 (spots.length : Int), .slice (some ⟨I, 0, none⟩) spots.length spots.length, .slice (some ⟨L, 0, none⟩) spots.length spots.length, .slice (some ⟨O, 0, none⟩) spots.length spots.length, .int .i64 (s.count : Int), n11, n12, s13, t, s15, .int .i64 (v : Int), s17, s18, n19, n20, s21, n22, n23, n24, s25, n26, s27, s28, s29, s30, s31, s32, s33, s34, s35, s36, s37, s38, s39, s40, s41, s42, s43, s44, s45, s46, s47, s48, s49, s50, s51, s52, s53, s54, s55, s56, s57, s58, s59, s60, s61, s62, s63, s64, s65, s66, s67, s68, s69, s70, s71, s72, s73, s74, s75, s76, s77, s78, s79, s80, s81, s82, s83, s84, s85, s86, s87, s88, s89, s90, s91, s92, s93, s94, s95, s96, s97, s98, s99, s100, s101, s102, s103, s104, s105, s106, s107, s108, s109, s110, s111, s112, s113, s114, s115, s116, s117, s118, s119, s120, s121, s122, s123, s124, s125, s126, s127, s128, s129, s130, s131, s132, s133, s134, s135, s136, s137, s138, s139, s140, s141, s142, s143, s144, s145, s146, s147, s148, s149, s150, s151, s152, s153, s154, s155, s156, s157, s158, s159, s160, s161, s162, s163, s164, s165, s166, s167, s168, s169, s170, s171, s172, s173, s174, s175, s176, s177, s178, s179, s180, s181, s182, s183, s184, s185, s186, s187, s188, n189, n190, n191, n192, n193, n194, n195, n196, n197, n198, n199, n200, n201, n202, n203, n204, n205, n206, n207, n208, n209, n210, n211, n212, n213, n214, n215, n216, n217, n218, n219, n220, n221, n222, n223, n224, n225, n226, n227, n228, n229, n230, n231, n232, n233, n234, n235, n236, n237, n238, n239, n240, n241, n242, n243, n244, n245, n246, n247, n248, s249, s250, s251, s252], defers := [] } w') :
    (subC [1, 1, 1, 1, 1, 1, 1, 1, 0, 1, 0, 0, 1, 1, 0, 0, 1, 1, 1, 0, 0, 1, 0, 1, 1, 1, 1, 1, 1, 1] (Try.f9.body.getD .skip)).wp Try.prog Q { tmps := #[s0, s1, s2, s3, .pointer (some ⟨g, 0, none⟩), s5, .int .i64 (spots.length : Int), .slice (some ⟨I, 0, none⟩) spots.length spots.length, .slice (some ⟨L, 0, none⟩) spots.length spots.length, .slice (some ⟨O, 0, none⟩) spots.length spots.length, .int .i64 (s.count : Int), p, r, s13, t, s15, .int .i64 (v : Int), s17, s18, s19, s20, s21, s22, s23, s24, s25, s26, s27, s28, s29, s30, s31, s32, s33, s34, s35, s36, s37, s38, s39, s40, s41, s42, s43, s44, s45, s46, s47, s48, s49, s50, s51, s52, s53, s54, s55, s56, s57, s58, s59, s60, s61, s62, s63, s64, s65, s66, s67, s68, s69, s70, s71, s72, s73, s74, s75, s76, s77, s78, s79, s80, s81, s82, s83, s84, s85, s86, s87, s88, s89, s90, s91, s92, s93, s94, s95, s96, s97, s98, s99, s100, s101, s102, s103, s104, s105, s106, s107, s108, s109, s110, s111, s112, s113, s114, s115, s116, s117, s118, s119, s120, s121, s122, s123, s124, s125, s126, s127, s128, s129, s130, s131, s132, s133, s134, s135, s136, s137, s138, s139, s140, s141, s142, s143, s144, s145, s146, s147, s148, s149, s150, s151, s152, s153, s154, s155, s156, s157, s158, s159, s160, s161, s162, s163, s164, s165, s166, s167, s168, s169, s170, s171, s172, s173, s174, s175, s176, s177, s178, s179, s180, s181, s182, s183, s184, s185, s186, s187, s188, s189, s190, s191, s192, s193, s194, s195, s196, s197, s198, s199, s200, s201, s202, s203, s204, s205, s206, s207, s208, s209, s210, s211, s212, s213, s214, s215, s216, s217, s218, s219, s220, s221, s222, s223, s224, s225, s226, s227, s228, s229, s230, s231, s232, s233, s234, s235, s236, s237, s238, s239, s240, s241, s242, s243, s244, s245, s246, s247, s248, s249, s250, s251, s252], defers := [] } w := by
  have HQ := Lib.hid hQ
  clear hQ
  obtain ⟨gp, cp, rfl, hgp1, hgp2⟩ := hA.pile.form (List.length_pos_of_mem hvm)
  have hi := List.idxOf_lt_length_of_mem hvm
  have hidx : idxN s.pile v = (s.pile.idxOf v : Int) := by unfold idxN; rw [if_pos hvm]
  obtain ⟨_, _, e0, hcp1, hcp2⟩ := (own_sl hA.pile).form
  cases e0
  obtain ⟨rfl, hnl, hnl2⟩ := hnv
  have HCL : Hid (close1 G v s = { s with on := (s.pile.drop (s.pile.idxOf v)).foldl (fun o u => upd o u false) s.on, rings := if 1 < (s.pile.drop (s.pile.idxOf v)).length ∨ v ∈ nxs G v then s.rings ++ [sortN (s.pile.drop (s.pile.idxOf v))] else s.rings, pile := s.pile.take (s.pile.idxOf v) }) := by
    show _ = _
    unfold close1
    rw [if_neg (fun hc => hc hlow)]
  have HPD := Lib.hid (own_drop hA.pile (Nat.le_of_lt hi))
  have HPN : Hid (∀ x ∈ s.pile.drop (s.pile.idxOf v), x < spots.length) := fun x hx => hpn x (List.mem_of_mem_drop hx)
  have hdl : (s.pile.drop (s.pile.idxOf v)).length = s.pile.length - s.pile.idxOf v := List.length_drop
  have HP := Lib.hid (own_sl hA.pile)
  have HA := Lib.hid hA
  have HG := Lib.hid hg
  have HSP := Lib.hid hs
  have HRC := Lib.hid hrc
  have HRV := Lib.hid hrv
  clear hA hg hs hrc hrv hpn hlow
  show ((Code.region 33 _ _).seq _).wp _ _ _ _
  dsimp only
  go_wp2_with fail
  refine (indexN _ s.pile v _ HP.out).mono ?_
  rw [hidx]
  rintro e w3 ⟨rfl, h3⟩
  generalize hk0 : s.pile.idxOf v = k0 at *
  generalize hpt : s.pile.drop k0 = part at *
  have hk1 : (k0 : Int) ≤ (s.pile.length : Int) := by omega
  have hk2 : (s.pile.length : Int) ≤ (cp : Int) := by omega
  have hk3 : (k0 : Int) ≤ (cp : Int) := by omega
  have hk4 : (cp : Int) ≤ 9223372036854775807 := by omega
  go_upto_block 5 with fail
  rw [← hdl]
  have hptl : part.length ≤ 65536 := by omega
  clear hdl
  have HA3 := Lib.hid (HA.out.fr0 h3)
  have hF3 := hF.trans0 h3
  have hS3 : B ≤ w3.heap.size := Nat.le_trans hS h3.size
  clear HP HPD h3 hF hS HA
  have HPT := Lib.hid hpt
  clear hpt
  go_cut [22] from 195 to 204 (fun _ wx => TSAt I L O B spots.length spots { s with on := part.foldl (fun o u => upd o u false) s.on } (.slice (some ⟨gp, 0, none⟩) s.pile.length cp) r t vs wx ∧ Fr [] w1 wx ∧ B ≤ wx.heap.size)
  case first =>
    go_wp2_with fail
    go_loopw [22, 197] (fun _ i wx => ∃ j : Nat, i = .int .i64 (j : Int) ∧ j ≤ part.length ∧ TSAt I L O B spots.length spots { s with on := (part.take j).foldl (fun o u => upd o u false) s.on } (.slice (some ⟨gp, 0, none⟩) s.pile.length cp) r t vs wx ∧ Fr [] w1 wx ∧ B ≤ wx.heap.size) (fun _ i _ => part.length - (intOf i).toNat)
    case atStart => exact ⟨0, rfl, by omega, HA3.out, hF3, hS3⟩
    case round =>
      obtain ⟨j, rfl, hj, hAj, hFj, hSj⟩ := hrel
      by_cases hjl : j < part.length
      · have hnp : NumsAt wr (.slice (some ⟨gp, k0, none⟩) part.length (cp - k0)) part := by
          have := own_drop (k := k0) hAj.pile (Nat.le_of_lt hi)
          simp only [HPT.out] at this
          exact this
        obtain ⟨b, off, _, e, hb, c0⟩ := nums_cell hnp hjl
        cases e
        have hj1 : (j : Int) < (part.length : Int) := by omega
        have hx := HPN.out part[j] (List.getElem_mem hjl)
        have HTK : Hid ((part.take (j + 1)).foldl (fun o u => upd o u false) s.on = upd ((part.take j).foldl (fun o u => upd o u false) s.on) part[j] false) := by
          show _ = _
          rw [List.take_succ_eq_append_getElem hjl, List.foldl_append]
          rfl
        generalize part[j] = x at *
        have hx1 : (x : Int) < (spots.length : Int) := by omega
        have oc := hAj.on.cell hx
        have of := hAj.on.frozen x
        have ol := hAj.on.lt
        have h6 := hAj.putOn K x false
        have HAJ := Lib.hid h6
        clear hAj hnp h6
        go_wp2
        go_roundw
        case rel => exact ⟨j + 1, by go_num, by omega, by rw [HTK.out]; exact HAJ.out, hFj.setCell (.inr hI.2.2.1) _, by simpa using hSj⟩
        case measure => simp [intOf]; omega
      · obtain rfl : j = part.length := by omega
        rw [List.take_length] at hAj
        go_wp2
        go_meet
        exact ⟨hAj, hFj, hSj⟩
  case rest =>
    obtain ⟨hA4, hF4, hS4⟩ := hcut
    have HA4 := Lib.hid hA4
    clear hA4 HA3
    go_upto_region 40 with fail
    have cg := cell_of (hF4.heap HG.out (by simp)) 1
    have cr := ce_call hF4 HRC.out
    have hv1 : (v : Int) < (nl : Int) := by omega
    go_cut [218] from 205 to 217 (fun b wx => b = .bool (decide (1 < part.length ∨ v ∈ nxs G v)) ∧ TSAt I L O B spots.length spots { s with on := part.foldl (fun o u => upd o u false) s.on } (.slice (some ⟨gp, 0, none⟩) s.pile.length cp) r t vs wx ∧ Fr [] w1 wx ∧ B ≤ wx.heap.size)
    case first =>
      by_cases h1 : 1 < part.length
      · have h1' : (1 : Int) < (part.length : Int) := by omega
        have HT : Hid (decide (1 < part.length ∨ v ∈ nxs G v) = true) := decide_eq_true (.inl h1)
        go_wp2
        go_meet
        exact ⟨by rw [HT.out], HA4.out, hF4, hS4⟩
      · have h1' : ¬ (1 : Int) < (part.length : Int) := by omega
        have HT : Hid (decide (1 < part.length ∨ v ∈ nxs G v) = decide (v ∈ nxs G v)) := by
          show _ = _
          rw [decide_eq_decide]
          exact ⟨fun h => h.resolve_left h1, .inr⟩
        go_wp2_with fail
        refine (containsN rv (nxs G v) v _ (HRV.out.fr0 hF4)).mono ?_
        rintro e w5 ⟨rfl, h5⟩
        go_wp2
        go_meet
        exact ⟨by rw [HT.out], HA4.out.fr0 h5, hF4.trans0 h5, Nat.le_trans hS4 h5.size⟩
    case rest =>
      clear cg cr hF4 hS4 HA4
      obtain ⟨rfl, hA5, hF5, hS5⟩ := hcut
      go_upto_if 218 with fail
      have hk5 : (k0 : Int) ≤ (cp : Int) := by omega
      by_cases hc : 1 < part.length ∨ v ∈ nxs G v
      · rw [decide_eq_true hc]
        have hnp : NumsAt wc (.slice (some ⟨gp, k0, none⟩) part.length (cp - k0)) part := by
          have := own_drop (k := k0) hA5.pile (Nat.le_of_lt hi)
          simp only [HPT.out] at this
          exact this
        refine wp_cond_true rfl ?_
        refine ringsTell w1 g I L O B spots _ part _ _ _ _ _ _ _ vs wc K hI.2.2.2 rfl hA5 hF5 hS5 HG.out HSP.out hnp HPN.out (by omega) hvl _ ?_
        intros
        rename_i vs' w' hR
        obtain ⟨_, hA6, hF6, hS6⟩ := hR
        have h7 := hA6.cut K (m := k0) (Nat.le_of_lt hi)
        have H7 := Lib.hid h7
        rw [if_pos hc] at HCL
        clear hA5 hA6 hnp h7
        go_wp2
        apply HQ.out
        exact ⟨by rw [HCL.out], by rw [HCL.out]; exact H7.out, hF6, hS6⟩
      · rw [decide_eq_false hc]
        have h7 := hA5.cut K (m := k0) (Nat.le_of_lt hi)
        have H7 := Lib.hid h7
        rw [if_neg hc] at HCL
        clear hA5 h7
        go_wp2
        apply HQ.out
        exact ⟨by rw [HCL.out], by rw [HCL.out]; exact H7.out, hF5, hS5⟩
end Go.Proofs.Ytdlpbpohbkcafaa
