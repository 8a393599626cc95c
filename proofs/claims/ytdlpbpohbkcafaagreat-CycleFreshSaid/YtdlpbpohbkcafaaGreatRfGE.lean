/-
  quadrilleref21.graph: a drawn region that grows a table's row (printed by wip/gen_rfgr.py).
  quadrilleref21.graph: the sum of the nodes' entries; all places may be; no place twice.
-/
import Derived.Test.YtdlpbpohbkcafaaGreatRfT
import Derived.Test.YtdlpbpohbkcafaaGreatRegW
import Derived.Test.YtdlpbpohbkcafaaGreatCRingB
import Derived.Deep.AppendLies
import Derived.Deep.RegionHeld3
namespace Go.Proofs.YtdlpbpohbkcafaaGreat
section
open Go.RowKit Go.Proofs

set_option maxRecDepth 100000 in
set_option maxHeartbeats 6400000 in
theorem graphR19 (G b off k nl vc B m : Nat) (s : Sp) (xs : List Value) (q1 : Option Addr) (n1 p1 : Nat) (w : World) {s1 s2 s3 s4 s5 s8 s9 s10 s11 s12 s13 s14 s15 s16 s17 s18 s19 s20 s21 s22 s23 s24 s25 s26 s27 s28 s29 s30 s31 s32 s33 s34 s35 s36 s37 s38 s39 s40 s41 s42 s43 s44 s45 s46 s47 s48 s49 s50 s51 s52 s53 s54 s55 s56 s57 s58 s59 s60 s61 s62 s63 s64 s65 s66 s67 s68 s69 s70 s71 s72 s73 s74 s75 s76 s77 s78 s79 s80 s81 s82 s83 s84 s85 s86 s87 s88 s89 s90 s91 s92 s93 s94 s95 s96 s97 s98 s99 s100 s101 s102 s103 s104 s105 s106 s107 s108 s109 s110 s111 s112 s113 s114 s115 s116 s117 s118 s119 s120 s121 s122 s123 s124 s125 s126 s127 s128 s129 s130 s131 s132 s133 s134 s135 s136 s137 s138 s139 s140 s141 s142 s143 s144 s145 s146 s147 s148 s149 s150 s151 s152 s153 s154 s155 s156 s157 s158 s159 s160 s161 s162 s163 s164 s165 s166 s167 s168 s169 s170 s171 s172 s173 s174 s175 s176 s177 s178 s179 s180 s181 s182 s183 s184 s185 s186 s187 s188 s189 s190 s191 s192 s193 s194 s195 s196 s197 s198 s199 s200 s201 s202 s203 s204 s205 s206 s207 s208 s209 s210 s211 s212 s213 s214 s215 s216 s217 s218 s219 s220 s221 s222 s223 s224 s225 s226 s227 s228 s229 s230 s231 s232 s233 s234 : Value} (AP : Nat → Nat → World → Prop) (Ph : World → Prop) (hP0 : Ph w.drew) (hP1 : Ph (w.drew.alloc (.cells #[.int .i64 s.1, .int .i64 s.2] tSp))) (hP2 : ∀ g cap u, AP g cap u → Ph u)
    (i0 : TypeInfo) (hi0 : Tryz.prog.info? tSp = some i0) (hz0 : i0.zero = some (.agg #[.int .i64 0, .int .i64 0])) (hz1 : i0.size = 2) (hz2 : i0.bytes = 16) (HOWN : Hid ((w.drew.alloc (.cells #[.int .i64 s.1, .int .i64 s.2] tSp)).ownsRow B tSp 2 (.slice q1 n1 p1) m xs)) (hm : m ≤ 4194304) (hB : B ≤ w.heap.size)
    (HCs : Hid (∀ u, Ph u → u.cell? ⟨G, 0, none⟩ = some (.slice q1 n1 p1))) (HFs : Hid (∀ u, Ph u → u.frozen? ⟨G, 0, none⟩ = false)) (HN : Hid (∀ u, Ph u → u.cell? ⟨b, off + k * 3, none⟩ = some (.int .i64 s.1) ∧ u.cell? ⟨b, off + k * 3 + 1, none⟩ = some (.int .i64 s.2))) (hk : (k : Int) < (nl : Int))
    (hAP : ∀ g cap (u : World), u.ownsRow B tSp 2 (.slice (some ⟨g, 0, none⟩) (m + 1) cap) (m + 1) (xs ++ spC s) → (w.drew.alloc (.cells #[.int .i64 s.1, .int .i64 s.2] tSp)).grownBy u (Value.slice q1 n1 p1).ownBlock → ((Value.slice q1 n1 p1).ownBlock = some g ∨ g = w.heap.size + 1) → AP g cap u)
    (Q : Exit → Act → World → Prop) (hend : ∀ (s72 s73 s74 s75 s76 s77 s78 s79 s80 s81 s82 s83 s84 s85 : Value) (g cap : Nat) (u : World), AP g cap u → Q .normal { tmps := #[.slice (some ⟨b, off, none⟩) nl vc, s1, s2, s3, s4, s5, .pointer (some ⟨G, 0, none⟩), .int .i64 (k : Int), s8, s9, s10, s11, s12, s13, s14, s15, s16, s17, s18, s19, s20, s21, s22, s23, s24, s25, s26, s27, s28, s29, s30, s31, s32, s33, s34, s35, s36, s37, s38, s39, s40, s41, s42, s43, s44, s45, s46, s47, s48, s49, s50, s51, s52, s53, s54, s55, s56, s57, s58, s59, s60, s61, s62, s63, s64, s65, s66, s67, s68, s69, s70, s71, s72, s73, s74, s75, s76, s77, s78, s79, s80, s81, s82, s83, s84, s85, s86, s87, s88, s89, s90, s91, s92, s93, s94, s95, s96, s97, s98, s99, s100, s101, s102, s103, s104, s105, s106, s107, s108, s109, s110, s111, s112, s113, s114, s115, s116, s117, s118, s119, s120, s121, s122, s123, s124, s125, s126, s127, s128, s129, s130, s131, s132, s133, s134, s135, s136, s137, s138, s139, s140, s141, s142, s143, s144, s145, s146, s147, s148, s149, s150, s151, s152, s153, s154, s155, s156, s157, s158, s159, s160, s161, s162, s163, s164, s165, s166, s167, s168, s169, s170, s171, s172, s173, s174, s175, s176, s177, s178, s179, s180, s181, s182, s183, s184, s185, s186, s187, s188, s189, s190, s191, s192, s193, s194, s195, s196, s197, s198, s199, s200, s201, s202, s203, s204, s205, s206, s207, s208, s209, s210, s211, s212, s213, s214, s215, s216, s217, s218, s219, s220, s221, s222, s223, s224, s225, s226, s227, s228, s229, s230, s231, s232, s233, s234], defers := [] } (u.setCell ⟨G, 0, none⟩ (.slice (some ⟨g, 0, none⟩) (m + 1) cap))) :
    (subC [1, 1, 1, 1, 1, 0, 1, 0, 0, 1, 0, 0, 1, 1] (Tryz.f30.body.getD .skip)).wp Tryz.prog Q { tmps := #[.slice (some ⟨b, off, none⟩) nl vc, s1, s2, s3, s4, s5, .pointer (some ⟨G, 0, none⟩), .int .i64 (k : Int), s8, s9, s10, s11, s12, s13, s14, s15, s16, s17, s18, s19, s20, s21, s22, s23, s24, s25, s26, s27, s28, s29, s30, s31, s32, s33, s34, s35, s36, s37, s38, s39, s40, s41, s42, s43, s44, s45, s46, s47, s48, s49, s50, s51, s52, s53, s54, s55, s56, s57, s58, s59, s60, s61, s62, s63, s64, s65, s66, s67, s68, s69, s70, s71, s72, s73, s74, s75, s76, s77, s78, s79, s80, s81, s82, s83, s84, s85, s86, s87, s88, s89, s90, s91, s92, s93, s94, s95, s96, s97, s98, s99, s100, s101, s102, s103, s104, s105, s106, s107, s108, s109, s110, s111, s112, s113, s114, s115, s116, s117, s118, s119, s120, s121, s122, s123, s124, s125, s126, s127, s128, s129, s130, s131, s132, s133, s134, s135, s136, s137, s138, s139, s140, s141, s142, s143, s144, s145, s146, s147, s148, s149, s150, s151, s152, s153, s154, s155, s156, s157, s158, s159, s160, s161, s162, s163, s164, s165, s166, s167, s168, s169, s170, s171, s172, s173, s174, s175, s176, s177, s178, s179, s180, s181, s182, s183, s184, s185, s186, s187, s188, s189, s190, s191, s192, s193, s194, s195, s196, s197, s198, s199, s200, s201, s202, s203, s204, s205, s206, s207, s208, s209, s210, s211, s212, s213, s214, s215, s216, s217, s218, s219, s220, s221, s222, s223, s224, s225, s226, s227, s228, s229, s230, s231, s232, s233, s234], defers := [] } w := by
  refine wp_region_inv2 (fun Lq aq uq => ∃ s72 s73 s74 s75 s76 s77 s78 s79 s80 s81 s82 s83 s84 s85 : Value, aq = ({ tmps := #[.slice (some ⟨b, off, none⟩) nl vc, s1, s2, s3, s4, s5, .pointer (some ⟨G, 0, none⟩), .int .i64 (k : Int), s8, s9, s10, s11, s12, s13, s14, s15, s16, s17, s18, s19, s20, s21, s22, s23, s24, s25, s26, s27, s28, s29, s30, s31, s32, s33, s34, s35, s36, s37, s38, s39, s40, s41, s42, s43, s44, s45, s46, s47, s48, s49, s50, s51, s52, s53, s54, s55, s56, s57, s58, s59, s60, s61, s62, s63, s64, s65, s66, s67, s68, s69, s70, s71, s72, s73, s74, s75, s76, s77, s78, s79, s80, s81, s82, s83, s84, s85, s86, s87, s88, s89, s90, s91, s92, s93, s94, s95, s96, s97, s98, s99, s100, s101, s102, s103, s104, s105, s106, s107, s108, s109, s110, s111, s112, s113, s114, s115, s116, s117, s118, s119, s120, s121, s122, s123, s124, s125, s126, s127, s128, s129, s130, s131, s132, s133, s134, s135, s136, s137, s138, s139, s140, s141, s142, s143, s144, s145, s146, s147, s148, s149, s150, s151, s152, s153, s154, s155, s156, s157, s158, s159, s160, s161, s162, s163, s164, s165, s166, s167, s168, s169, s170, s171, s172, s173, s174, s175, s176, s177, s178, s179, s180, s181, s182, s183, s184, s185, s186, s187, s188, s189, s190, s191, s192, s193, s194, s195, s196, s197, s198, s199, s200, s201, s202, s203, s204, s205, s206, s207, s208, s209, s210, s211, s212, s213, s214, s215, s216, s217, s218, s219, s220, s221, s222, s223, s224, s225, s226, s227, s228, s229, s230, s231, s232, s233, s234], defers := [] } : Act) ∧ (RegW w.drew (w.drew.alloc (.cells #[.int .i64 s.1, .int .i64 s.2] tSp)) AP (fun g cap => .slice (some ⟨g, 0, none⟩) (m + 1) cap) (fun g cap u => u.setCell ⟨G, 0, none⟩ (.slice (some ⟨g, 0, none⟩) (m + 1) cap)) (Lq 10) (Lq 11) (Lq 14) s83 uq ∧ (Lq 14 = true → Lq 4 = true ∧ Lq 9 = true ∧ Lq 10 = true)) ∧ (Lq 0 = true → s72 = .pointer (some ⟨G, 0, none⟩)) ∧ (Lq 1 = true → s73 = .pointer (some ⟨G, 0, none⟩)) ∧ (Lq 2 = true → s74 = .pointer (some ⟨G, 0, none⟩)) ∧ (Lq 3 = true → s75 = .pointer (some ⟨G, 0, none⟩)) ∧ (Lq 4 = true → s76 = .slice q1 n1 p1) ∧ (Lq 5 = true → s77 = .slice (some ⟨b, off, none⟩) nl vc) ∧ (Lq 6 = true → s78 = .int .i64 (k : Int)) ∧ (Lq 7 = true → s79 = .pointer (some ⟨b, off + k * 3, none⟩)) ∧ (Lq 8 = true → s80 = .pointer (some ⟨b, off + k * 3, none⟩)) ∧ (Lq 9 = true → s81 = .agg #[.int .i64 s.1, .int .i64 s.2]) ∧ (Lq 10 = true → s82 = .slice (some ⟨w.heap.size, 0, none⟩) 1 1) ∧ (Lq 12 = true → s84 = .pointer (some ⟨G, 0, none⟩)) ∧ (Lq 13 = true → s85 = .pointer (some ⟨G, 0, none⟩))) rfl (by kernel_rfl) ?_ ?_ ?_
  · exact ⟨_, _, _, _, _, _, _, _, _, _, _, _, _, _, rfl, ⟨RegW.start _ _ _ _ _ _, (fun h => by cases h)⟩, (fun h => by cases h), (fun h => by cases h), (fun h => by cases h), (fun h => by cases h), (fun h => by cases h), (fun h => by cases h), (fun h => by cases h), (fun h => by cases h), (fun h => by cases h), (fun h => by cases h), (fun h => by cases h), (fun h => by cases h), (fun h => by cases h)⟩
  · intro q hq
    have hq : q < 15 := hq
    rcases (by omega : q = 0 ∨ q = 1 ∨ q = 2 ∨ q = 3 ∨ q = 4 ∨ q = 5 ∨ q = 6 ∨ q = 7 ∨ q = 8 ∨ q = 9 ∨ q = 10 ∨ q = 11 ∨ q = 12 ∨ q = 13 ∨ q = 14) with rfl | rfl | rfl | rfl | rfl | rfl | rfl | rfl | rfl | rfl | rfl | rfl | rfl | rfl | rfl
    · rintro Lq aq uq ⟨s72, s73, s74, s75, s76, s77, s78, s79, s80, s81, s82, s83, s84, s85, rfl, ⟨hW, hS⟩, h0, h1, h2, h3, h4, h5, h6, h7, h8, h9, h10, h12, h13⟩ hL hdep
      refine wpOp_step rfl (fun K hK => ?_)
      go_simp
      exact hK _ _ ⟨_, _, _, _, _, _, _, _, _, _, _, _, _, _, rfl, ⟨hW, hS⟩, fun _ => rfl, h1, h2, h3, h4, h5, h6, h7, h8, h9, h10, h12, h13⟩
    · rintro Lq aq uq ⟨s72, s73, s74, s75, s76, s77, s78, s79, s80, s81, s82, s83, s84, s85, rfl, ⟨hW, hS⟩, h0, h1, h2, h3, h4, h5, h6, h7, h8, h9, h10, h12, h13⟩ hL hdep
      refine wpOp_step rfl (fun K hK => ?_)
      go_simp
      exact hK _ _ ⟨_, _, _, _, _, _, _, _, _, _, _, _, _, _, rfl, ⟨hW, hS⟩, h0, fun _ => rfl, h2, h3, h4, h5, h6, h7, h8, h9, h10, h12, h13⟩
    · rintro Lq aq uq ⟨s72, s73, s74, s75, s76, s77, s78, s79, s80, s81, s82, s83, s84, s85, rfl, ⟨hW, hS⟩, h0, h1, h2, h3, h4, h5, h6, h7, h8, h9, h10, h12, h13⟩ hL hdep
      have d1 := h1 (hdep _ rfl ⟨1, .data⟩ (by simp) rfl)
      subst d1
      refine wpOp_step rfl (fun K hK => ?_)
      go_simp
      exact hK _ _ ⟨_, _, _, _, _, _, _, _, _, _, _, _, _, _, rfl, ⟨hW, hS⟩, h0, h1, fun _ => rfl, h3, h4, h5, h6, h7, h8, h9, h10, h12, h13⟩
    · rintro Lq aq uq ⟨s72, s73, s74, s75, s76, s77, s78, s79, s80, s81, s82, s83, s84, s85, rfl, ⟨hW, hS⟩, h0, h1, h2, h3, h4, h5, h6, h7, h8, h9, h10, h12, h13⟩ hL hdep
      have d2 := h2 (hdep _ rfl ⟨2, .data⟩ (by simp) rfl)
      subst d2
      refine wpOp_step rfl (fun K hK => ?_)
      go_simp
      exact hK _ _ ⟨_, _, _, _, _, _, _, _, _, _, _, _, _, _, rfl, ⟨hW, hS⟩, h0, h1, h2, fun _ => rfl, h4, h5, h6, h7, h8, h9, h10, h12, h13⟩
    · rintro Lq aq uq ⟨s72, s73, s74, s75, s76, s77, s78, s79, s80, s81, s82, s83, s84, s85, rfl, ⟨hW, hS⟩, h0, h1, h2, h3, h4, h5, h6, h7, h8, h9, h10, h12, h13⟩ hL hdep
      have d3 := h3 (hdep _ rfl ⟨3, .data⟩ (by simp) rfl)
      have hnS : Lq 14 = false := by
        cases e : Lq 14 with
        | false => rfl
        | true => exact absurd (hS e) (by simp [hL])
      have hph := hW.phase hP0 hP1 hP2 hnS
      have hc := HCs.out uq hph
      subst d3
      refine wpOp_step rfl (fun K hK => ?_)
      go_simp
      exact hK _ _ ⟨_, _, _, _, _, _, _, _, _, _, _, _, _, _, rfl, ⟨hW, fun h => by rw [show Lq 14 = true from h] at hnS; cases hnS⟩, h0, h1, h2, h3, fun _ => rfl, h5, h6, h7, h8, h9, h10, h12, h13⟩
    · rintro Lq aq uq ⟨s72, s73, s74, s75, s76, s77, s78, s79, s80, s81, s82, s83, s84, s85, rfl, ⟨hW, hS⟩, h0, h1, h2, h3, h4, h5, h6, h7, h8, h9, h10, h12, h13⟩ hL hdep
      refine wpOp_step rfl (fun K hK => ?_)
      go_simp
      exact hK _ _ ⟨_, _, _, _, _, _, _, _, _, _, _, _, _, _, rfl, ⟨hW, hS⟩, h0, h1, h2, h3, h4, fun _ => rfl, h6, h7, h8, h9, h10, h12, h13⟩
    · rintro Lq aq uq ⟨s72, s73, s74, s75, s76, s77, s78, s79, s80, s81, s82, s83, s84, s85, rfl, ⟨hW, hS⟩, h0, h1, h2, h3, h4, h5, h6, h7, h8, h9, h10, h12, h13⟩ hL hdep
      refine wpOp_step rfl (fun K hK => ?_)
      go_simp
      exact hK _ _ ⟨_, _, _, _, _, _, _, _, _, _, _, _, _, _, rfl, ⟨hW, hS⟩, h0, h1, h2, h3, h4, h5, fun _ => rfl, h7, h8, h9, h10, h12, h13⟩
    · rintro Lq aq uq ⟨s72, s73, s74, s75, s76, s77, s78, s79, s80, s81, s82, s83, s84, s85, rfl, ⟨hW, hS⟩, h0, h1, h2, h3, h4, h5, h6, h7, h8, h9, h10, h12, h13⟩ hL hdep
      have d5 := h5 (hdep _ rfl ⟨5, .data⟩ (by simp) rfl)
      have d6 := h6 (hdep _ rfl ⟨6, .data⟩ (by simp) rfl)
      subst d5
      subst d6
      refine wpOp_step rfl (fun K hK => ?_)
      go_simp
      exact hK _ _ ⟨_, _, _, _, _, _, _, _, _, _, _, _, _, _, rfl, ⟨hW, hS⟩, h0, h1, h2, h3, h4, h5, h6, fun _ => rfl, h8, h9, h10, h12, h13⟩
    · rintro Lq aq uq ⟨s72, s73, s74, s75, s76, s77, s78, s79, s80, s81, s82, s83, s84, s85, rfl, ⟨hW, hS⟩, h0, h1, h2, h3, h4, h5, h6, h7, h8, h9, h10, h12, h13⟩ hL hdep
      have d7 := h7 (hdep _ rfl ⟨7, .data⟩ (by simp) rfl)
      subst d7
      refine wpOp_step rfl (fun K hK => ?_)
      go_simp
      exact hK _ _ ⟨_, _, _, _, _, _, _, _, _, _, _, _, _, _, rfl, ⟨hW, hS⟩, h0, h1, h2, h3, h4, h5, h6, h7, fun _ => rfl, h9, h10, h12, h13⟩
    · rintro Lq aq uq ⟨s72, s73, s74, s75, s76, s77, s78, s79, s80, s81, s82, s83, s84, s85, rfl, ⟨hW, hS⟩, h0, h1, h2, h3, h4, h5, h6, h7, h8, h9, h10, h12, h13⟩ hL hdep
      have d8 := h8 (hdep _ rfl ⟨8, .data⟩ (by simp) rfl)
      have hnS : Lq 14 = false := by
        cases e : Lq 14 with
        | false => rfl
        | true => exact absurd (hS e) (by simp [hL])
      have hph := hW.phase hP0 hP1 hP2 hnS
      obtain ⟨hc, hc2⟩ := HN.out uq hph
      subst d8
      refine wpOp_step rfl (fun K hK => ?_)
      go_simp
      exact hK _ _ ⟨_, _, _, _, _, _, _, _, _, _, _, _, _, _, rfl, ⟨hW, fun h => by rw [show Lq 14 = true from h] at hnS; cases hnS⟩, h0, h1, h2, h3, h4, h5, h6, h7, h8, fun _ => rfl, h10, h12, h13⟩
    · rintro Lq aq uq ⟨s72, s73, s74, s75, s76, s77, s78, s79, s80, s81, s82, s83, s84, s85, rfl, ⟨hW, hS⟩, h0, h1, h2, h3, h4, h5, h6, h7, h8, h9, h10, h12, h13⟩ hL hdep
      have d9 := h9 (hdep _ rfl ⟨9, .data⟩ (by simp) rfl)
      have hnS : Lq 14 = false := by
        cases e : Lq 14 with
        | false => rfl
        | true => exact absurd (hS e) (by simp [hL])
      have hu := hW.before hL
      subst hu
      subst d9
      refine wpOp_step rfl (fun K hK => ?_)
      go_simp
      exact hK _ _ ⟨_, _, _, _, _, _, _, _, _, _, _, _, _, _, rfl, ⟨hW.lay hL rfl, fun h => by rw [show Lq 14 = true from h] at hnS; cases hnS⟩, h0, h1, h2, h3, h4, h5, h6, h7, h8, h9, fun _ => rfl, h12, h13⟩
    · rintro Lq aq uq ⟨s72, s73, s74, s75, s76, s77, s78, s79, s80, s81, s82, s83, s84, s85, rfl, ⟨hW, hS⟩, h0, h1, h2, h3, h4, h5, h6, h7, h8, h9, h10, h12, h13⟩ hL hdep
      have d4 := h4 (hdep _ rfl ⟨4, .data⟩ (by simp) rfl)
      have d10 := h10 (hdep _ rfl ⟨10, .data⟩ (by simp) rfl)
      have lA : Lq 10 = true := hdep _ rfl ⟨10, .data⟩ (by simp) rfl
      have hu := hW.laid lA hL
      subst hu
      subst d4
      subst d10
      refine wpOp_step rfl (fun K hK => ?_)
      refine step_append_lies _ rfl _ _ _ rfl B tSp i0 _ 2 16 Tryz.underlying28 hi0 hz0 hz1 hz2 rfl (by omega) (.slice q1 n1 p1) m xs rfl HOWN.out ⟨w.heap.size, 0, none⟩ 1 1 (spC s) rfl rfl (World.news_of_block (cs := (spC s).toArray) (t := tSp) (fr := (0, 0)) (heap_alloc_new w.drew _)) (by simp [Value.oneCell']) (by omega) (by unfold maxLen; omega) (by omega) (by simp; omega) (w.heap.size + 1) (by simp) ?_
      intro g cap u hown hgrow hat hlt
      refine hK _ _ ⟨_, _, _, _, _, _, _, _, _, _, _, _, _, _, rfl, ⟨hW.grow lA hL (hAP g cap u hown hgrow hat) rfl, hS⟩, h0, h1, h2, h3, h4, h5, h6, h7, h8, h9, h10, h12, h13⟩
    · rintro Lq aq uq ⟨s72, s73, s74, s75, s76, s77, s78, s79, s80, s81, s82, s83, s84, s85, rfl, ⟨hW, hS⟩, h0, h1, h2, h3, h4, h5, h6, h7, h8, h9, h10, h12, h13⟩ hL hdep
      have d0 := h0 (hdep _ rfl ⟨0, .data⟩ (by simp) rfl)
      subst d0
      refine wpOp_step rfl (fun K hK => ?_)
      go_simp
      exact hK _ _ ⟨_, _, _, _, _, _, _, _, _, _, _, _, _, _, rfl, ⟨hW, hS⟩, h0, h1, h2, h3, h4, h5, h6, h7, h8, h9, h10, fun _ => rfl, h13⟩
    · rintro Lq aq uq ⟨s72, s73, s74, s75, s76, s77, s78, s79, s80, s81, s82, s83, s84, s85, rfl, ⟨hW, hS⟩, h0, h1, h2, h3, h4, h5, h6, h7, h8, h9, h10, h12, h13⟩ hL hdep
      have d12 := h12 (hdep _ rfl ⟨12, .data⟩ (by simp) rfl)
      subst d12
      refine wpOp_step rfl (fun K hK => ?_)
      go_simp
      exact hK _ _ ⟨_, _, _, _, _, _, _, _, _, _, _, _, _, _, rfl, ⟨hW, hS⟩, h0, h1, h2, h3, h4, h5, h6, h7, h8, h9, h10, h12, fun _ => rfl⟩
    · rintro Lq aq uq ⟨s72, s73, s74, s75, s76, s77, s78, s79, s80, s81, s82, s83, s84, s85, rfl, ⟨hW, hS⟩, h0, h1, h2, h3, h4, h5, h6, h7, h8, h9, h10, h12, h13⟩ hL hdep
      have d13 := h13 (hdep _ rfl ⟨13, .data⟩ (by simp) rfl)
      have lP : Lq 11 = true := hdep _ rfl ⟨11, .data⟩ (by simp) rfl
      obtain ⟨g, cap, hap, dP⟩ := hW.grown lP hL
      have l4 : Lq 4 = true := hdep _ rfl ⟨4, .phase⟩ (by simp) rfl
      have l9 : Lq 9 = true := hdep _ rfl ⟨9, .phase⟩ (by simp) rfl
      have l10 : Lq 10 = true := hdep _ rfl ⟨10, .phase⟩ (by simp) rfl
      have hph := hP2 _ _ _ hap
      have hcs := HCs.out uq hph
      have hfs := HFs.out uq hph
      subst dP
      subst d13
      refine wpOp_step rfl (fun K hK => ?_)
      go_simp
      exact hK _ _ ⟨_, _, _, _, _, _, _, _, _, _, _, _, _, _, rfl, ⟨hW.store lP hL hap, fun _ => ⟨l4, l9, l10⟩⟩, (by first | exact h0 | exact fun _ => rfl), (by first | exact h1 | exact fun _ => rfl), (by first | exact h2 | exact fun _ => rfl), (by first | exact h3 | exact fun _ => rfl), (by first | exact h4 | exact fun _ => rfl), (by first | exact h5 | exact fun _ => rfl), (by first | exact h6 | exact fun _ => rfl), (by first | exact h7 | exact fun _ => rfl), (by first | exact h8 | exact fun _ => rfl), (by first | exact h9 | exact fun _ => rfl), (by first | exact h10 | exact fun _ => rfl), (by first | exact h12 | exact fun _ => rfl), (by first | exact h13 | exact fun _ => rfl)⟩
  · rintro L a u hAll ⟨s72, s73, s74, s75, s76, s77, s78, s79, s80, s81, s82, s83, s84, s85, rfl, ⟨hW, hS⟩, h0, h1, h2, h3, h4, h5, h6, h7, h8, h9, h10, h12, h13⟩
    obtain ⟨g, cap, u2, hap, rfl⟩ := hW.stored (hAll 14 (by decide))
    exact hend _ _ _ _ _ _ _ _ _ _ _ _ _ _ g cap u2 hap
end
section
open Go.RowKit Go.Shelf Go.Sort Go.Proofs

abbrev grN : List Value := [.slice none 0 0, .slice none 0 0]
set_option maxRecDepth 100000 in
set_option maxHeartbeats 3200000 in
theorem graphSum (w0 : World) (v0 : Value) (ns : List Nd) (g6 : Value) (w : World) {s1 s2 s3 s7 s8 s9 s10 s11 s12 s13 s14 s15 s16 s17 s18 s19 s20 s21 s22 s23 s24 s25 s26 s27 s28 s29 s30 s31 s32 s33 s34 s35 s36 s37 s38 s39 s40 s41 s42 s43 s44 s45 s46 s47 s48 s49 s50 s51 s52 s53 s54 s55 s56 s57 s58 s59 s60 s61 s62 s63 s64 s65 s66 s67 s68 s69 s70 s71 s72 s73 s74 s75 s76 s77 s78 s79 s80 s81 s82 s83 s84 s85 s86 s87 s88 s89 s90 s91 s92 s93 s94 s95 s96 s97 s98 s99 s100 s101 s102 s103 s104 s105 s106 s107 s108 s109 s110 s111 s112 s113 s114 s115 s116 s117 s118 s119 s120 s121 s122 s123 s124 s125 s126 s127 s128 s129 s130 s131 s132 s133 s134 s135 s136 s137 s138 s139 s140 s141 s142 s143 s144 s145 s146 s147 s148 s149 s150 s151 s152 s153 s154 s155 s156 s157 s158 s159 s160 s161 s162 s163 s164 s165 s166 s167 s168 s169 s170 s171 s172 s173 s174 s175 s176 s177 s178 s179 s180 s181 s182 s183 s184 s185 s186 s187 s188 s189 s190 s191 s192 s193 s194 s195 s196 s197 s198 s199 s200 s201 s202 s203 s204 s205 s206 s207 s208 s209 s210 s211 s212 s213 s214 s215 s216 s217 s218 s219 s220 s221 s222 s223 s224 s225 s226 s227 s228 s229 s230 s231 s232 s233 s234 : Value} (hN : NodesAt w0 v0 ns) (hfr : Fr [] w0 w) (hB : ns.length + tot ns ≤ 4194304) (Q : Exit → Act → World → Prop)
    (hQ : ∀ (n5 n16 n17 n18 n19 n20 n21 n22 n23 n24 n25 n26 n27 n28 n29 : Value) (w' : World), Fr [] w0 w' → Q .normal { tmps := #[v0, s1, s2, s3, .int .i64 (tot ns : Int), n5, g6, s7, s8, s9, s10, s11, s12, s13, s14, s15, n16, n17, n18, n19, n20, n21, n22, n23, n24, n25, n26, n27, n28, n29, s30, s31, s32, s33, s34, s35, s36, s37, s38, s39, s40, s41, s42, s43, s44, s45, s46, s47, s48, s49, s50, s51, s52, s53, s54, s55, s56, s57, s58, s59, s60, s61, s62, s63, s64, s65, s66, s67, s68, s69, s70, s71, s72, s73, s74, s75, s76, s77, s78, s79, s80, s81, s82, s83, s84, s85, s86, s87, s88, s89, s90, s91, s92, s93, s94, s95, s96, s97, s98, s99, s100, s101, s102, s103, s104, s105, s106, s107, s108, s109, s110, s111, s112, s113, s114, s115, s116, s117, s118, s119, s120, s121, s122, s123, s124, s125, s126, s127, s128, s129, s130, s131, s132, s133, s134, s135, s136, s137, s138, s139, s140, s141, s142, s143, s144, s145, s146, s147, s148, s149, s150, s151, s152, s153, s154, s155, s156, s157, s158, s159, s160, s161, s162, s163, s164, s165, s166, s167, s168, s169, s170, s171, s172, s173, s174, s175, s176, s177, s178, s179, s180, s181, s182, s183, s184, s185, s186, s187, s188, s189, s190, s191, s192, s193, s194, s195, s196, s197, s198, s199, s200, s201, s202, s203, s204, s205, s206, s207, s208, s209, s210, s211, s212, s213, s214, s215, s216, s217, s218, s219, s220, s221, s222, s223, s224, s225, s226, s227, s228, s229, s230, s231, s232, s233, s234], defers := [] } w') :
    (subC [1, 1, 0, 1] (Tryz.f30.body.getD .skip)).wp Tryz.prog Q { tmps := #[v0, s1, s2, s3, .int .i64 0, .int .i64 0, g6, s7, s8, s9, s10, s11, s12, s13, s14, s15, s16, s17, s18, s19, s20, s21, s22, s23, s24, s25, s26, s27, s28, s29, s30, s31, s32, s33, s34, s35, s36, s37, s38, s39, s40, s41, s42, s43, s44, s45, s46, s47, s48, s49, s50, s51, s52, s53, s54, s55, s56, s57, s58, s59, s60, s61, s62, s63, s64, s65, s66, s67, s68, s69, s70, s71, s72, s73, s74, s75, s76, s77, s78, s79, s80, s81, s82, s83, s84, s85, s86, s87, s88, s89, s90, s91, s92, s93, s94, s95, s96, s97, s98, s99, s100, s101, s102, s103, s104, s105, s106, s107, s108, s109, s110, s111, s112, s113, s114, s115, s116, s117, s118, s119, s120, s121, s122, s123, s124, s125, s126, s127, s128, s129, s130, s131, s132, s133, s134, s135, s136, s137, s138, s139, s140, s141, s142, s143, s144, s145, s146, s147, s148, s149, s150, s151, s152, s153, s154, s155, s156, s157, s158, s159, s160, s161, s162, s163, s164, s165, s166, s167, s168, s169, s170, s171, s172, s173, s174, s175, s176, s177, s178, s179, s180, s181, s182, s183, s184, s185, s186, s187, s188, s189, s190, s191, s192, s193, s194, s195, s196, s197, s198, s199, s200, s201, s202, s203, s204, s205, s206, s207, s208, s209, s210, s211, s212, s213, s214, s215, s216, s217, s218, s219, s220, s221, s222, s223, s224, s225, s226, s227, s228, s229, s230, s231, s232, s233, s234], defers := [] } w := by
  have HQ := Lib.hid hQ
  have HN := Lib.hid hN
  obtain ⟨vq, vc, rfl, hv1, hv2⟩ := hN.row.form
  clear hQ hN
  show (Code.block 0 _).wp _ _ _ _
  dsimp only
  go_wp2_with fail
  go_loopw [4, 5] (fun s i wr => ∃ k : Nat, i = .int .i64 (k : Int) ∧ s = .int .i64 (tot (ns.take k) : Int) ∧ k ≤ ns.length ∧ Fr [] w0 wr) (fun _ i _ => ns.length - (intOf i).toNat)
  case atStart => exact ⟨0, rfl, by simp [tot], by omega, hfr⟩
  case round =>
    obtain ⟨k, rfl, rfl, hk, hf⟩ := hrel
    by_cases hlt : k < ns.length
    · have hk1 : (k : Int) < (ns.length : Int) := by omega
      obtain ⟨b, off, _, e, hbl, _, _, c2⟩ := (HN.out.fr0 hf).cell hlt
      cases e
      have hts : tot (ns.take (k + 1)) = tot (ns.take k) + ns[k].next.length := by rw [List.take_succ_eq_append_getElem hlt, tot_snoc]
      have htk := tot_take ns (k + 1)
      have HTS := Lib.hid hts
      rw [hts] at htk
      clear hts
      generalize ns[k].next.length = m at *
      generalize ns[k].na = na at *
      generalize ns[k].nc = nc at *
      generalize hsm : tot (ns.take k) = s at *
      clear hsm
      have hwr : IntKind.i64.wrap ((s : Int) + (m : Int)) = ((s + m : Nat) : Int) := by rw [IntKind.wrap_i64]; omega
      go_wp2
      go_roundw
      case rel => exact ⟨k + 1, by go_num, by first | rw [HTS.out]; rfl | (rw [HTS.out]; go_num), by omega, hf⟩
      case measure => simp [intOf]; omega
    · obtain rfl : k = ns.length := by omega
      rw [List.take_length]
      go_wp2
      apply HQ.out
      exact hf
set_option maxRecDepth 100000 in
set_option maxHeartbeats 6400000 in
theorem graphMay (w0 W : World) (G : Nat) (v0 : Value) (ns : List Nd) {s1 s2 s3 s4 s5 s8 s9 s10 s11 s12 s13 s14 s15 s16 s17 s18 s19 s20 s21 s22 s23 s24 s25 s26 s27 s28 s29 s30 s31 s32 s33 s34 s35 s36 s37 s38 s39 s40 s41 s42 s43 s44 s45 s46 s47 s48 s49 s50 s51 s52 s53 s54 s55 s56 s57 s58 s59 s60 s61 s62 s63 s64 s65 s66 s67 s68 s69 s70 s71 s72 s73 s74 s75 s76 s77 s78 s79 s80 s81 s82 s83 s84 s85 s86 s87 s88 s89 s90 s91 s92 s93 s94 s95 s96 s97 s98 s99 s100 s101 s102 s103 s104 s105 s106 s107 s108 s109 s110 s111 s112 s113 s114 s115 s116 s117 s118 s119 s120 s121 s122 s123 s124 s125 s126 s127 s128 s129 s130 s131 s132 s133 s134 s135 s136 s137 s138 s139 s140 s141 s142 s143 s144 s145 s146 s147 s148 s149 s150 s151 s152 s153 s154 s155 s156 s157 s158 s159 s160 s161 s162 s163 s164 s165 s166 s167 s168 s169 s170 s171 s172 s173 s174 s175 s176 s177 s178 s179 s180 s181 s182 s183 s184 s185 s186 s187 s188 s189 s190 s191 s192 s193 s194 s195 s196 s197 s198 s199 s200 s201 s202 s203 s204 s205 s206 s207 s208 s209 s210 s211 s212 s213 s214 s215 s216 s217 s218 s219 s220 s221 s222 s223 s224 s225 s226 s227 s228 s229 s230 s231 s232 s233 s234 : Value} (hN : NodesAt w0 v0 ns) (hW : Fr [] w0 W) (hG : W.heap[G]? = some (.cells #[.slice none 0 0, .slice none 0 0, .slice none 0 0] tGr (0, 0))) (hG1 : W.heap.size = G + 1) (hG0 : w0.heap.size ≤ G) (hl : ns.length ≤ 65536) (Q : Exit → Act → World → Prop)
    (hQ : ∀ (n2 n3 n7 n8 n39 n40 n41 n42 n43 n44 n45 n46 n47 n48 n49 n50 n51 n52 n53 n54 n55 n56 n57 n58 n59 n60 n61 n62 n63 n64 n65 n66 n67 n68 n69 n70 n71 n72 n73 n74 n75 n76 n77 n78 n79 n80 n81 n82 n83 n84 n85 : Value) (w' : World) (sv : Value), ns.any badN = false → w'.heap[G]? = some (.cells #[sv, .slice none 0 0, .slice none 0 0] tGr (0, 0)) → w'.ownsRow (G + 1) tSp 2 sv ns.length ((atsN ns).flatMap spC) → Fr [G] W w' → Q .normal { tmps := #[v0, s1, n2, n3, s4, s5, .pointer (some ⟨G, 0, none⟩), n7, n8, s9, s10, s11, s12, s13, s14, s15, s16, s17, s18, s19, s20, s21, s22, s23, s24, s25, s26, s27, s28, s29, s30, s31, s32, s33, s34, s35, s36, s37, s38, n39, n40, n41, n42, n43, n44, n45, n46, n47, n48, n49, n50, n51, n52, n53, n54, n55, n56, n57, n58, n59, n60, n61, n62, n63, n64, n65, n66, n67, n68, n69, n70, n71, n72, n73, n74, n75, n76, n77, n78, n79, n80, n81, n82, n83, n84, n85, s86, s87, s88, s89, s90, s91, s92, s93, s94, s95, s96, s97, s98, s99, s100, s101, s102, s103, s104, s105, s106, s107, s108, s109, s110, s111, s112, s113, s114, s115, s116, s117, s118, s119, s120, s121, s122, s123, s124, s125, s126, s127, s128, s129, s130, s131, s132, s133, s134, s135, s136, s137, s138, s139, s140, s141, s142, s143, s144, s145, s146, s147, s148, s149, s150, s151, s152, s153, s154, s155, s156, s157, s158, s159, s160, s161, s162, s163, s164, s165, s166, s167, s168, s169, s170, s171, s172, s173, s174, s175, s176, s177, s178, s179, s180, s181, s182, s183, s184, s185, s186, s187, s188, s189, s190, s191, s192, s193, s194, s195, s196, s197, s198, s199, s200, s201, s202, s203, s204, s205, s206, s207, s208, s209, s210, s211, s212, s213, s214, s215, s216, s217, s218, s219, s220, s221, s222, s223, s224, s225, s226, s227, s228, s229, s230, s231, s232, s233, s234], defers := [] } w')
    (hR : ∀ (n7 n8 n39 n40 n41 n42 n43 n44 n45 n46 n47 n48 n49 n50 n51 n52 n53 n54 n55 n56 n57 n58 n59 n60 n61 n62 n63 n64 n65 n66 n67 n68 n69 n70 n71 n72 n73 n74 n75 n76 n77 n78 n79 n80 n81 n82 n83 n84 n85 : Value) (w' : World), ns.any badN = true → Fr [G] W w' → Q .ret { tmps := #[v0, s1, .pointer none, .int .i64 10, s4, s5, .pointer (some ⟨G, 0, none⟩), n7, n8, s9, s10, s11, s12, s13, s14, s15, s16, s17, s18, s19, s20, s21, s22, s23, s24, s25, s26, s27, s28, s29, s30, s31, s32, s33, s34, s35, s36, s37, s38, n39, n40, n41, n42, n43, n44, n45, n46, n47, n48, n49, n50, n51, n52, n53, n54, n55, n56, n57, n58, n59, n60, n61, n62, n63, n64, n65, n66, n67, n68, n69, n70, n71, n72, n73, n74, n75, n76, n77, n78, n79, n80, n81, n82, n83, n84, n85, s86, s87, s88, s89, s90, s91, s92, s93, s94, s95, s96, s97, s98, s99, s100, s101, s102, s103, s104, s105, s106, s107, s108, s109, s110, s111, s112, s113, s114, s115, s116, s117, s118, s119, s120, s121, s122, s123, s124, s125, s126, s127, s128, s129, s130, s131, s132, s133, s134, s135, s136, s137, s138, s139, s140, s141, s142, s143, s144, s145, s146, s147, s148, s149, s150, s151, s152, s153, s154, s155, s156, s157, s158, s159, s160, s161, s162, s163, s164, s165, s166, s167, s168, s169, s170, s171, s172, s173, s174, s175, s176, s177, s178, s179, s180, s181, s182, s183, s184, s185, s186, s187, s188, s189, s190, s191, s192, s193, s194, s195, s196, s197, s198, s199, s200, s201, s202, s203, s204, s205, s206, s207, s208, s209, s210, s211, s212, s213, s214, s215, s216, s217, s218, s219, s220, s221, s222, s223, s224, s225, s226, s227, s228, s229, s230, s231, s232, s233, s234], defers := [] } w') :
    (subC [1, 1, 1, 1, 1, 0, 1] (Tryz.f30.body.getD .skip)).wp Tryz.prog Q { tmps := #[v0, s1, s2, s3, s4, s5, .pointer (some ⟨G, 0, none⟩), .int .i64 0, s8, s9, s10, s11, s12, s13, s14, s15, s16, s17, s18, s19, s20, s21, s22, s23, s24, s25, s26, s27, s28, s29, s30, s31, s32, s33, s34, s35, s36, s37, s38, s39, s40, s41, s42, s43, s44, s45, s46, s47, s48, s49, s50, s51, s52, s53, s54, s55, s56, s57, s58, s59, s60, s61, s62, s63, s64, s65, s66, s67, s68, s69, s70, s71, s72, s73, s74, s75, s76, s77, s78, s79, s80, s81, s82, s83, s84, s85, s86, s87, s88, s89, s90, s91, s92, s93, s94, s95, s96, s97, s98, s99, s100, s101, s102, s103, s104, s105, s106, s107, s108, s109, s110, s111, s112, s113, s114, s115, s116, s117, s118, s119, s120, s121, s122, s123, s124, s125, s126, s127, s128, s129, s130, s131, s132, s133, s134, s135, s136, s137, s138, s139, s140, s141, s142, s143, s144, s145, s146, s147, s148, s149, s150, s151, s152, s153, s154, s155, s156, s157, s158, s159, s160, s161, s162, s163, s164, s165, s166, s167, s168, s169, s170, s171, s172, s173, s174, s175, s176, s177, s178, s179, s180, s181, s182, s183, s184, s185, s186, s187, s188, s189, s190, s191, s192, s193, s194, s195, s196, s197, s198, s199, s200, s201, s202, s203, s204, s205, s206, s207, s208, s209, s210, s211, s212, s213, s214, s215, s216, s217, s218, s219, s220, s221, s222, s223, s224, s225, s226, s227, s228, s229, s230, s231, s232, s233, s234], defers := [] } W := by
  have HQ := Lib.hid hQ
  have HR := Lib.hid hR
  have HN := Lib.hid hN
  have HW := Lib.hid hW
  have HG1 := Lib.hid hG1
  obtain ⟨vq, vc, rfl, hv1, hv2⟩ := hN.row.form
  obtain ⟨i0, hi0, hz0, hz1, hz2⟩ := info_parts infoSpot
  clear hQ hR hN hW hG1
  show (Code.block 2 _).wp _ _ _ _
  dsimp only
  go_wp2_with fail
  go_loopw [7] (fun i wr => ∃ k : Nat, i = .int .i64 (k : Int) ∧ k ≤ ns.length ∧ (ns.take k).any badN = false ∧ Fr [G] W wr ∧ ∃ sv, wr.heap[G]? = some (.cells #[sv, .slice none 0 0, .slice none 0 0] tGr (0, 0)) ∧ wr.ownsRow (G + 1) tSp 2 sv k ((atsN (ns.take k)).flatMap spC)) (fun i _ => ns.length - (intOf i).toNat)
  case atStart => exact ⟨0, rfl, by omega, by simp, Fr.refl _ _, _, hG, World.ownsRow_nil _ _ _ _⟩
  case round =>
    obtain ⟨k, rfl, hk, hbad, hf, sv, hGr, hown⟩ := hrel
    have HBAD := Lib.hid hbad
    clear hbad hG
    by_cases hlt : k < ns.length
    · have HFW := Lib.hid (HW.out.trans hf (fun x hx => by rw [List.mem_singleton] at hx; exact .inr (by omega)))
      obtain ⟨b, off, _, e, hbl, c0, c1, c2⟩ := (HN.out.fr0 HFW.out).cell hlt
      cases e
      have hk1 : (k : Int) < (ns.length : Int) := by omega
      have hnx := (HN.out.fr0 HFW.out).nx ns[k] (List.getElem_mem hlt)
      obtain ⟨_, _, _, hn1, hn2⟩ := hnx.form
      have HNX := Lib.hid hnx
      have HFB : Hid (b < G + 1) := by
        show b < G + 1
        obtain ⟨_, _, _, e', hb', _⟩ := HN.out.cell hlt
        cases e'
        omega
      have HT := Lib.hid (List.take_succ_eq_append_getElem hlt)
      have HIN := Lib.hid (List.getElem_mem hlt)
      generalize ns[k] = n at *
      obtain ⟨q1, n1, p1, rfl⟩ := own_form hown
      have HG := Lib.hid hGr
      have HOWN := Lib.hid hown
      have hglt := lt_of hGr
      have HF := Lib.hid hf
      clear hGr hown hnx hf
      cases hm : mayS n.at_.1 n.at_.2 with
      | false =>
        have HB : Hid (ns.any badN = true) := List.any_eq_true.2 ⟨n, HIN.out, by unfold badN; rw [hm]; rfl⟩
        go_wp2_with fail
        refine (refMay _ _).mono ?_
        rw [hm]
        rintro e w3 ⟨rfl, h3⟩
        clear hm
        go_wp2
        apply HR.out
        · exact HB.out
        · exact HF.out.trans0 h3
      | true =>
        have HM := Lib.hid hm
        go_wp2_with fail
        refine (refMay _ _).mono ?_
        rw [hm]
        rintro e w3 ⟨rfl, h3⟩
        have h4 : Fr [] wr w3 := h3
        have HG3 := Lib.hid (h4.heap HG.out (by simp))
        have HOWN3 := Lib.hid (owns_fr HOWN.out h4 (by simp))
        have HN3 := Lib.hid (HNX.out.fr0 h4)
        have HF3 := Lib.hid (HF.out.trans0 h4)
        have c03 := ce_call h4 c0
        have c13 := ce_call h4 c1
        have c23 := ce_call h4 c2
        have hbl3 := Nat.lt_of_lt_of_le hbl h4.size
        clear h3 hm c0 c1 c2 hbl HG HOWN HNX HF h4 HFW
        go_upto_block 4 with fail
        go_cut [8] from 52 to 71 (fun _ wx => (n.next.any fun s => !mayS s.1 s.2) = false ∧ Fr [] w3 wx)
        case first =>
          go_wp2_with fail
          go_loopw [8] (fun i wx => ∃ j : Nat, i = .int .i64 (j : Int) ∧ j ≤ n.next.length ∧ ((n.next.take j).any fun s => !mayS s.1 s.2) = false ∧ Fr [] w3 wx) (fun i _ => n.next.length - (intOf i).toNat)
          case atStart => exact ⟨0, rfl, by omega, by simp, Fr.refl _ _⟩
          case round =>
            obtain ⟨j, rfl, hj, hb, hfx⟩ := hrel
            have HBJ := Lib.hid hb
            clear hb
            have d0 := ce_call hfx c03
            have d1 := ce_call hfx c13
            have d2 := ce_call hfx c23
            have hblx := Nat.lt_of_lt_of_le hbl3 hfx.size
            by_cases hjl : j < n.next.length
            · have hj1 : (j : Int) < (n.next.length : Int) := by omega
              obtain ⟨b2, o2, _, e2, hb2, e0, e1⟩ := spots_cell (HN3.out.fr0 hfx) hjl
              have e21 : n.na = some ⟨b2, o2, none⟩ := by injection e2
              rw [e21] at d2
              have HTJ := Lib.hid (List.take_succ_eq_append_getElem hjl)
              have HIJ := Lib.hid (List.getElem_mem hjl)
              clear e2 e21
              generalize n.next[j] = s at *
              cases hms : mayS s.1 s.2 with
              | false =>
                have HB : Hid (ns.any badN = true) := List.any_eq_true.2 ⟨n, HIN.out, by
                  unfold badN
                  rw [Bool.or_eq_true]
                  exact .inr (List.any_eq_true.2 ⟨s, HIJ.out, by rw [hms]; rfl⟩)⟩
                go_wp2_with fail
                refine (refMay _ _).mono ?_
                rw [hms]
                rintro e w5 ⟨rfl, h5⟩
                clear hms
                go_wp2
                apply HR.out
                · exact HB.out
                · exact HF3.out.trans0 (hfx.trans0 h5)
              | true =>
                have HMS : Hid (((n.next.take (j + 1)).any fun s => !mayS s.1 s.2) = false) := by
                  show _ = _
                  rw [HTJ.out, List.any_append, HBJ.out]
                  simp [hms]
                go_wp2_with fail
                refine (refMay _ _).mono ?_
                rw [hms]
                rintro e w5 ⟨rfl, h5⟩
                clear hms
                have HF5 := Lib.hid (hfx.trans0 h5)
                go_wp2
                go_roundw
                case rel => exact ⟨j + 1, by go_num, by omega, HMS.out, HF5.out⟩
                case measure => simp [intOf]; omega
            · obtain rfl : j = n.next.length := by omega
              rw [List.take_length] at HBJ
              go_wp2
              go_meet
              exact ⟨HBJ.out, hfx⟩
        case rest =>
          obtain ⟨hbb, hfx⟩ := hcut
          have HNB : Hid (badN n = false) := by
            show _ = _
            unfold badN
            rw [HM.out, hbb]
            rfl
          have hGr5 := hfx.heap HG3.out (by simp)
          have hown5 := owns_fr HOWN3.out hfx (by simp)
          have HFC := Lib.hid (HF3.out.trans0 hfx)
          have HG5 := Lib.hid hGr5
          have hgc0 := cell_of hGr5 0
          have hgf := free_of hGr5 0
          have hgl5 := lt_of hGr5
          have d0 := ce_call hfx c03
          have d1 := ce_call hfx c13
          have hblx := Nat.lt_of_lt_of_le hbl3 hfx.size
          have hGo : some G ≠ (Value.slice q1 n1 p1).ownBlock := fun e => by have := (hown5.lt G e.symm).1; omega
          have hBs : G + 1 ≤ wc.heap.size := by omega
          clear hGr5 hbb hfx c03 c13 c23 hbl3 HG3 HOWN3 HN3 HF3
          have HNG : Hid (∀ S : List Nat, (∀ x ∈ S, (Value.slice q1 n1 p1).ownBlock = some x) → G ∉ S) := fun S hS hm => hGo (hS G hm).symm
          have HOW5 := Lib.hid hown5
          have HNC : Hid (∀ (S : List Nat) (u : World), (∀ x ∈ S, G + 1 ≤ x) → Fr S wc u → u.cell? ⟨b, off + k * 3, none⟩ = some (.int .i64 n.at_.1) ∧ u.cell? ⟨b, off + k * 3 + 1, none⟩ = some (.int .i64 n.at_.2)) := fun S u hS hf => by
            have hb : b ∉ S := fun hm => by
              have := hS b hm
              have := (HFB.out)
              omega
            exact ⟨(hf.cell (p := ⟨b, off + k * 3, none⟩) hblx hb).trans d0, (hf.cell (p := ⟨b, off + k * 3 + 1, none⟩) hblx hb).trans d1⟩
          clear hown5 hgc0 hgf d0 d1 hGo
          go_wp2_with fail
          refine graphR19 G b off k ns.length vc (G + 1) k n.at_ ((atsN (ns.take k)).flatMap spC) q1 n1 p1 wc (fun g cap u => u.ownsRow (G + 1) tSp 2 (.slice (some ⟨g, 0, none⟩) (k + 1) cap) (k + 1) ((atsN (ns.take k)).flatMap spC ++ spC n.at_) ∧ (wc.drew.alloc (.cells #[.int .i64 n.at_.1, .int .i64 n.at_.2] tSp)).grownBy u (Value.slice q1 n1 p1).ownBlock) (fun u => ∃ S : List Nat, Fr S wc u ∧ ∀ x ∈ S, (Value.slice q1 n1 p1).ownBlock = some x) ⟨[], (Fr.refl [] wc).drew, by simp⟩ ⟨[], ((Fr.refl [] wc).drew).alloc _, by simp⟩ (fun g cap u hap => ⟨(Value.slice q1 n1 p1).ownBlock.toList, (((Fr.refl _ wc).drew).alloc _).grown hap.2 (fun k hk => .inl (by rw [hk]; simp)), fun b hb => by simpa using hb⟩) i0 hi0 hz0 hz1 hz2 (Lib.hid ((owns_fr HOW5.out (Fr.refl [] wc).drew (by simp)).alloc _)) (by omega) hBs (Lib.hid fun u ⟨S, hf, hS⟩ => cell_of (hf.heap HG5.out (HNG.out S hS)) 0) (Lib.hid fun u ⟨S, hf, hS⟩ => free_of (hf.heap HG5.out (HNG.out S hS)) 0) (Lib.hid fun u ⟨S, hf, hS⟩ => HNC.out S u (fun x hx => (HOW5.out.lt x (hS x hx)).1) hf) hk1 (fun g cap u h1 h2 _ => ⟨h1, h2⟩) _ ?_
          intros
          rename_i gg cap w7 hap
          have hf7 : Fr (Value.slice q1 n1 p1).ownBlock.toList wc w7 := (((Fr.refl _ wc).drew).alloc _).grown hap.2 (fun k hk => .inl (by rw [hk]; simp))
          have hfin : Hid (Fr [G] W w7) := HFC.out.trans hf7 (fun x hx => .inr (by have := (HOW5.out.lt x (by simpa using hx)).1; have := HG1.out; omega))
          have HG7 := Lib.hid (hf7.heap HG5.out (HNG.out _ fun x hx => by simpa using hx))
          have HO7 := Lib.hid hap.1
          clear hap hf7
          dsimp only
          go_wp2
          go_roundw
          case rel =>
            refine ⟨k + 1, by go_num, by omega, ?_, hfin.out.setCell (.inl (by simp)) _, _, set_of HG7.out 0 _, ?_⟩
            · rw [HT.out, List.any_append, HBAD.out]
              simpa using HNB.out
            · rw [HT.out]
              have e : (atsN (ns.take k ++ [n])).flatMap spC = (atsN (ns.take k)).flatMap spC ++ spC n.at_ := by simp [atsN]
              rw [e]
              exact owns_fr HO7.out ((Fr.refl [G] w7).setCell (.inl (by simp)) _) (fun g hg => by simp; have := (HO7.out.lt g hg).1; omega)
          case measure => simp [intOf]; omega
    · obtain rfl : k = ns.length := by omega
      rw [List.take_length] at *
      have HOWN := Lib.hid hown
      have HG := Lib.hid hGr
      clear hown hGr
      go_wp2
      apply HQ.out
      · exact HBAD.out
      · exact HG.out
      · exact HOWN.out
      · exact hf
end
end Go.Proofs.YtdlpbpohbkcafaaGreat
