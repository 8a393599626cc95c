/-
  quadrilleref21.graph: a drawn region that grows a table's row (printed by wip/gen_rfgr.py).
-/
import Derived.Test.YtdlpbpohbkcafaaGreatRfT
import Derived.Test.YtdlpbpohbkcafaaGreatRegW
import Derived.Test.YtdlpbpohbkcafaaGreatCRingB
import Derived.Deep.AppendLies
namespace Go.Proofs.YtdlpbpohbkcafaaGreat
open Go.RowKit Go.Proofs

set_option maxRecDepth 100000 in
set_option maxHeartbeats 6400000 in
theorem graphR45 (G T B a p v gl cl ml n : Nat) (q1 : Option Addr) (n1 p1 : Nat) (La : List Nat) (w : World) {s0 s1 s2 s3 s4 s5 s7 s8 s9 s10 s13 s14 s16 s17 s18 s19 s20 s21 s22 s23 s24 s25 s26 s27 s28 s29 s30 s31 s32 s33 s34 s35 s36 s37 s38 s39 s40 s41 s42 s43 s44 s45 s46 s47 s48 s49 s50 s51 s52 s53 s54 s55 s56 s57 s58 s59 s60 s61 s62 s63 s64 s65 s66 s67 s68 s69 s70 s71 s72 s73 s74 s75 s76 s77 s78 s79 s80 s81 s82 s83 s84 s85 s86 s87 s88 s89 s90 s91 s92 s93 s94 s95 s96 s97 s98 s99 s100 s101 s102 s103 s104 s105 s106 s107 s108 s109 s110 s111 s112 s113 s114 s115 s116 s117 s118 s119 s120 s121 s122 s123 s124 s125 s126 s127 s128 s129 s130 s131 s132 s133 s134 s135 s136 s137 s138 s139 s140 s141 s142 s143 s144 s145 s146 s147 s148 s149 s150 s151 s152 s153 s154 s155 s156 s157 s158 s159 s160 s161 s162 s163 s164 s165 s166 s167 s168 s169 s170 s171 s172 s173 s174 s175 s176 s177 s178 s179 s180 s181 s182 s183 s184 s185 s186 s187 s188 s189 s190 s191 s192 s193 s194 s195 s196 s197 s198 s199 s200 s201 s202 s203 s204 s205 s206 s207 s208 s209 s210 s211 s212 s213 s214 s215 s216 s217 s218 s219 s220 s221 s222 s223 s224 s225 s226 s227 s228 s229 s230 s231 s232 s233 s234 : Value} (AP : Nat → Nat → World → Prop) (Ph : World → Prop) (hP0 : Ph w.drew) (hP1 : Ph (w.drew.alloc (.cells #[.int .i64 (a : Int)] tI))) (hP2 : ∀ g cap u, AP g cap u → Ph u)
    (i0 : TypeInfo) (hi0 : Tryz.prog.info? tI = some i0) (hz0 : i0.zero = some (.int .i64 0)) (hz1 : i0.size = 1) (hz2 : i0.bytes = 8) (HOWN : Hid ((w.drew.alloc (.cells #[.int .i64 (a : Int)] tI)).ownsRow B tI 1 (.slice q1 n1 p1) La.length (La.flatMap nC))) (hLa : La.length ≤ 4194304) (hB : B ≤ w.heap.size)
    (HB : Hid (∀ u, Ph u → u.cell? ⟨G, 2, none⟩ = some (.slice (some ⟨T, 0, none⟩) n n))) (HCs : Hid (∀ u, Ph u → u.cell? ⟨T, v, none⟩ = some (.slice q1 n1 p1))) (HFs : Hid (∀ u, Ph u → u.frozen? ⟨T, v, none⟩ = false)) (HL : Hid (∀ u, Ph u → u.cell? ⟨gl, p, none⟩ = some (.int .i64 (v : Int)))) (ha : (v : Int) < (n : Int)) (hp : (p : Int) < (ml : Int))
    (hAP : ∀ g cap (u : World), u.ownsRow B tI 1 (.slice (some ⟨g, 0, none⟩) (La.length + 1) cap) (La.length + 1) (La.flatMap nC ++ nC a) → (w.drew.alloc (.cells #[.int .i64 (a : Int)] tI)).grownBy u (Value.slice q1 n1 p1).ownBlock → ((Value.slice q1 n1 p1).ownBlock = some g ∨ g = w.heap.size + 1) → AP g cap u)
    (Q : Exit → Act → World → Prop) (hend : ∀ (s212 s213 s214 s215 s216 s217 s218 s219 s220 s221 s222 s223 s224 s225 s226 s227 s228 s229 s230 s231 s232 s233 : Value) (g cap : Nat) (u : World), AP g cap u → Q .normal { tmps := #[s0, s1, s2, s3, s4, s5, .pointer (some ⟨G, 0, none⟩), s7, s8, s9, s10, .int .i64 (a : Int), .slice (some ⟨gl, 0, none⟩) ml cl, s13, s14, .int .i64 (p : Int), s16, s17, s18, s19, s20, s21, s22, s23, s24, s25, s26, s27, s28, s29, s30, s31, s32, s33, s34, s35, s36, s37, s38, s39, s40, s41, s42, s43, s44, s45, s46, s47, s48, s49, s50, s51, s52, s53, s54, s55, s56, s57, s58, s59, s60, s61, s62, s63, s64, s65, s66, s67, s68, s69, s70, s71, s72, s73, s74, s75, s76, s77, s78, s79, s80, s81, s82, s83, s84, s85, s86, s87, s88, s89, s90, s91, s92, s93, s94, s95, s96, s97, s98, s99, s100, s101, s102, s103, s104, s105, s106, s107, s108, s109, s110, s111, s112, s113, s114, s115, s116, s117, s118, s119, s120, s121, s122, s123, s124, s125, s126, s127, s128, s129, s130, s131, s132, s133, s134, s135, s136, s137, s138, s139, s140, s141, s142, s143, s144, s145, s146, s147, s148, s149, s150, s151, s152, s153, s154, s155, s156, s157, s158, s159, s160, s161, s162, s163, s164, s165, s166, s167, s168, s169, s170, s171, s172, s173, s174, s175, s176, s177, s178, s179, s180, s181, s182, s183, s184, s185, s186, s187, s188, s189, s190, s191, s192, s193, s194, s195, s196, s197, s198, s199, s200, s201, s202, s203, s204, s205, s206, s207, s208, s209, s210, s211, s212, s213, s214, s215, s216, s217, s218, s219, s220, s221, s222, s223, s224, s225, s226, s227, s228, s229, s230, s231, s232, s233, s234], defers := [] } (u.setCell ⟨T, v, none⟩ (.slice (some ⟨g, 0, none⟩) (La.length + 1) cap))) :
    (subC [1, 1, 1, 1, 1, 1, 1, 1, 1, 1, 0, 1, 0, 0, 1, 0, 0, 1, 1, 1, 1, 1, 0, 0, 1, 0, 0, 1, 2, 1] (Tryz.f30.body.getD .skip)).wp Tryz.prog Q { tmps := #[s0, s1, s2, s3, s4, s5, .pointer (some ⟨G, 0, none⟩), s7, s8, s9, s10, .int .i64 (a : Int), .slice (some ⟨gl, 0, none⟩) ml cl, s13, s14, .int .i64 (p : Int), s16, s17, s18, s19, s20, s21, s22, s23, s24, s25, s26, s27, s28, s29, s30, s31, s32, s33, s34, s35, s36, s37, s38, s39, s40, s41, s42, s43, s44, s45, s46, s47, s48, s49, s50, s51, s52, s53, s54, s55, s56, s57, s58, s59, s60, s61, s62, s63, s64, s65, s66, s67, s68, s69, s70, s71, s72, s73, s74, s75, s76, s77, s78, s79, s80, s81, s82, s83, s84, s85, s86, s87, s88, s89, s90, s91, s92, s93, s94, s95, s96, s97, s98, s99, s100, s101, s102, s103, s104, s105, s106, s107, s108, s109, s110, s111, s112, s113, s114, s115, s116, s117, s118, s119, s120, s121, s122, s123, s124, s125, s126, s127, s128, s129, s130, s131, s132, s133, s134, s135, s136, s137, s138, s139, s140, s141, s142, s143, s144, s145, s146, s147, s148, s149, s150, s151, s152, s153, s154, s155, s156, s157, s158, s159, s160, s161, s162, s163, s164, s165, s166, s167, s168, s169, s170, s171, s172, s173, s174, s175, s176, s177, s178, s179, s180, s181, s182, s183, s184, s185, s186, s187, s188, s189, s190, s191, s192, s193, s194, s195, s196, s197, s198, s199, s200, s201, s202, s203, s204, s205, s206, s207, s208, s209, s210, s211, s212, s213, s214, s215, s216, s217, s218, s219, s220, s221, s222, s223, s224, s225, s226, s227, s228, s229, s230, s231, s232, s233, s234], defers := [] } w := by
  refine wp_region_inv2 (fun Lq aq uq => ∃ s212 s213 s214 s215 s216 s217 s218 s219 s220 s221 s222 s223 s224 s225 s226 s227 s228 s229 s230 s231 s232 s233 : Value, aq = ({ tmps := #[s0, s1, s2, s3, s4, s5, .pointer (some ⟨G, 0, none⟩), s7, s8, s9, s10, .int .i64 (a : Int), .slice (some ⟨gl, 0, none⟩) ml cl, s13, s14, .int .i64 (p : Int), s16, s17, s18, s19, s20, s21, s22, s23, s24, s25, s26, s27, s28, s29, s30, s31, s32, s33, s34, s35, s36, s37, s38, s39, s40, s41, s42, s43, s44, s45, s46, s47, s48, s49, s50, s51, s52, s53, s54, s55, s56, s57, s58, s59, s60, s61, s62, s63, s64, s65, s66, s67, s68, s69, s70, s71, s72, s73, s74, s75, s76, s77, s78, s79, s80, s81, s82, s83, s84, s85, s86, s87, s88, s89, s90, s91, s92, s93, s94, s95, s96, s97, s98, s99, s100, s101, s102, s103, s104, s105, s106, s107, s108, s109, s110, s111, s112, s113, s114, s115, s116, s117, s118, s119, s120, s121, s122, s123, s124, s125, s126, s127, s128, s129, s130, s131, s132, s133, s134, s135, s136, s137, s138, s139, s140, s141, s142, s143, s144, s145, s146, s147, s148, s149, s150, s151, s152, s153, s154, s155, s156, s157, s158, s159, s160, s161, s162, s163, s164, s165, s166, s167, s168, s169, s170, s171, s172, s173, s174, s175, s176, s177, s178, s179, s180, s181, s182, s183, s184, s185, s186, s187, s188, s189, s190, s191, s192, s193, s194, s195, s196, s197, s198, s199, s200, s201, s202, s203, s204, s205, s206, s207, s208, s209, s210, s211, s212, s213, s214, s215, s216, s217, s218, s219, s220, s221, s222, s223, s224, s225, s226, s227, s228, s229, s230, s231, s232, s233, s234], defers := [] } : Act) ∧ (RegW w.drew (w.drew.alloc (.cells #[.int .i64 (a : Int)] tI)) AP (fun g cap => .slice (some ⟨g, 0, none⟩) (La.length + 1) cap) (fun g cap u => u.setCell ⟨T, v, none⟩ (.slice (some ⟨g, 0, none⟩) (La.length + 1) cap)) (Lq 19) (Lq 20) (Lq 22) s232 uq ∧ (Lq 22 = true → Lq 3 = true ∧ Lq 7 = true ∧ Lq 11 = true ∧ Lq 15 = true ∧ Lq 17 = true ∧ Lq 19 = true)) ∧ (Lq 0 = true → s212 = .pointer (some ⟨G, 0, none⟩)) ∧ (Lq 1 = true → s213 = .pointer (some ⟨G, 0, none⟩)) ∧ (Lq 2 = true → s214 = .pointer (some ⟨G, 2, none⟩)) ∧ (Lq 3 = true → s215 = .slice (some ⟨T, 0, none⟩) n n) ∧ (Lq 4 = true → s216 = .slice (some ⟨gl, 0, none⟩) ml cl) ∧ (Lq 5 = true → s217 = .int .i64 (p : Int)) ∧ (Lq 6 = true → s218 = .pointer (some ⟨gl, p, none⟩)) ∧ (Lq 7 = true → s219 = .int .i64 (v : Int)) ∧ (Lq 8 = true → s220 = .pointer (some ⟨G, 0, none⟩)) ∧ (Lq 9 = true → s221 = .pointer (some ⟨G, 0, none⟩)) ∧ (Lq 10 = true → s222 = .pointer (some ⟨G, 2, none⟩)) ∧ (Lq 11 = true → s223 = .slice (some ⟨T, 0, none⟩) n n) ∧ (Lq 12 = true → s224 = .slice (some ⟨gl, 0, none⟩) ml cl) ∧ (Lq 13 = true → s225 = .int .i64 (p : Int)) ∧ (Lq 14 = true → s226 = .pointer (some ⟨gl, p, none⟩)) ∧ (Lq 15 = true → s227 = .int .i64 (v : Int)) ∧ (Lq 16 = true → s228 = .pointer (some ⟨T, v, none⟩)) ∧ (Lq 17 = true → s229 = .slice q1 n1 p1) ∧ (Lq 18 = true → s230 = .int .i64 (a : Int)) ∧ (Lq 19 = true → s231 = .slice (some ⟨w.heap.size, 0, none⟩) 1 1) ∧ (Lq 21 = true → s233 = .pointer (some ⟨T, v, none⟩))) rfl (by kernel_rfl) ?_ ?_ ?_
  · exact ⟨_, _, _, _, _, _, _, _, _, _, _, _, _, _, _, _, _, _, _, _, _, _, rfl, ⟨RegW.start _ _ _ _ _ _, (fun h => by cases h)⟩, (fun h => by cases h), (fun h => by cases h), (fun h => by cases h), (fun h => by cases h), (fun h => by cases h), (fun h => by cases h), (fun h => by cases h), (fun h => by cases h), (fun h => by cases h), (fun h => by cases h), (fun h => by cases h), (fun h => by cases h), (fun h => by cases h), (fun h => by cases h), (fun h => by cases h), (fun h => by cases h), (fun h => by cases h), (fun h => by cases h), (fun h => by cases h), (fun h => by cases h), (fun h => by cases h)⟩
  · intro q hq
    have hq : q < 23 := hq
    rcases (by omega : q = 0 ∨ q = 1 ∨ q = 2 ∨ q = 3 ∨ q = 4 ∨ q = 5 ∨ q = 6 ∨ q = 7 ∨ q = 8 ∨ q = 9 ∨ q = 10 ∨ q = 11 ∨ q = 12 ∨ q = 13 ∨ q = 14 ∨ q = 15 ∨ q = 16 ∨ q = 17 ∨ q = 18 ∨ q = 19 ∨ q = 20 ∨ q = 21 ∨ q = 22) with rfl | rfl | rfl | rfl | rfl | rfl | rfl | rfl | rfl | rfl | rfl | rfl | rfl | rfl | rfl | rfl | rfl | rfl | rfl | rfl | rfl | rfl | rfl
    · rintro Lq aq uq ⟨s212, s213, s214, s215, s216, s217, s218, s219, s220, s221, s222, s223, s224, s225, s226, s227, s228, s229, s230, s231, s232, s233, rfl, ⟨hW, hS⟩, h0, h1, h2, h3, h4, h5, h6, h7, h8, h9, h10, h11, h12, h13, h14, h15, h16, h17, h18, h19, h21⟩ hL hdep
      refine wpOp_step rfl (fun K hK => ?_)
      go_simp
      exact hK _ _ ⟨_, _, _, _, _, _, _, _, _, _, _, _, _, _, _, _, _, _, _, _, _, _, rfl, ⟨hW, hS⟩, fun _ => rfl, h1, h2, h3, h4, h5, h6, h7, h8, h9, h10, h11, h12, h13, h14, h15, h16, h17, h18, h19, h21⟩
    · rintro Lq aq uq ⟨s212, s213, s214, s215, s216, s217, s218, s219, s220, s221, s222, s223, s224, s225, s226, s227, s228, s229, s230, s231, s232, s233, rfl, ⟨hW, hS⟩, h0, h1, h2, h3, h4, h5, h6, h7, h8, h9, h10, h11, h12, h13, h14, h15, h16, h17, h18, h19, h21⟩ hL hdep
      have d0 := h0 (hdep _ rfl ⟨0, .data⟩ (by simp) rfl)
      subst d0
      refine wpOp_step rfl (fun K hK => ?_)
      go_simp
      exact hK _ _ ⟨_, _, _, _, _, _, _, _, _, _, _, _, _, _, _, _, _, _, _, _, _, _, rfl, ⟨hW, hS⟩, h0, fun _ => rfl, h2, h3, h4, h5, h6, h7, h8, h9, h10, h11, h12, h13, h14, h15, h16, h17, h18, h19, h21⟩
    · rintro Lq aq uq ⟨s212, s213, s214, s215, s216, s217, s218, s219, s220, s221, s222, s223, s224, s225, s226, s227, s228, s229, s230, s231, s232, s233, rfl, ⟨hW, hS⟩, h0, h1, h2, h3, h4, h5, h6, h7, h8, h9, h10, h11, h12, h13, h14, h15, h16, h17, h18, h19, h21⟩ hL hdep
      have d1 := h1 (hdep _ rfl ⟨1, .data⟩ (by simp) rfl)
      subst d1
      refine wpOp_step rfl (fun K hK => ?_)
      go_simp
      exact hK _ _ ⟨_, _, _, _, _, _, _, _, _, _, _, _, _, _, _, _, _, _, _, _, _, _, rfl, ⟨hW, hS⟩, h0, h1, fun _ => rfl, h3, h4, h5, h6, h7, h8, h9, h10, h11, h12, h13, h14, h15, h16, h17, h18, h19, h21⟩
    · rintro Lq aq uq ⟨s212, s213, s214, s215, s216, s217, s218, s219, s220, s221, s222, s223, s224, s225, s226, s227, s228, s229, s230, s231, s232, s233, rfl, ⟨hW, hS⟩, h0, h1, h2, h3, h4, h5, h6, h7, h8, h9, h10, h11, h12, h13, h14, h15, h16, h17, h18, h19, h21⟩ hL hdep
      have d2 := h2 (hdep _ rfl ⟨2, .data⟩ (by simp) rfl)
      have hnS : Lq 22 = false := by
        cases e : Lq 22 with
        | false => rfl
        | true => exact absurd (hS e) (by simp [hL])
      have hph := hW.phase hP0 hP1 hP2 hnS
      have hc := HB.out uq hph
      subst d2
      refine wpOp_step rfl (fun K hK => ?_)
      go_simp
      exact hK _ _ ⟨_, _, _, _, _, _, _, _, _, _, _, _, _, _, _, _, _, _, _, _, _, _, rfl, ⟨hW, fun h => by rw [show Lq 22 = true from h] at hnS; cases hnS⟩, h0, h1, h2, fun _ => rfl, h4, h5, h6, h7, h8, h9, h10, h11, h12, h13, h14, h15, h16, h17, h18, h19, h21⟩
    · rintro Lq aq uq ⟨s212, s213, s214, s215, s216, s217, s218, s219, s220, s221, s222, s223, s224, s225, s226, s227, s228, s229, s230, s231, s232, s233, rfl, ⟨hW, hS⟩, h0, h1, h2, h3, h4, h5, h6, h7, h8, h9, h10, h11, h12, h13, h14, h15, h16, h17, h18, h19, h21⟩ hL hdep
      refine wpOp_step rfl (fun K hK => ?_)
      go_simp
      exact hK _ _ ⟨_, _, _, _, _, _, _, _, _, _, _, _, _, _, _, _, _, _, _, _, _, _, rfl, ⟨hW, hS⟩, h0, h1, h2, h3, fun _ => rfl, h5, h6, h7, h8, h9, h10, h11, h12, h13, h14, h15, h16, h17, h18, h19, h21⟩
    · rintro Lq aq uq ⟨s212, s213, s214, s215, s216, s217, s218, s219, s220, s221, s222, s223, s224, s225, s226, s227, s228, s229, s230, s231, s232, s233, rfl, ⟨hW, hS⟩, h0, h1, h2, h3, h4, h5, h6, h7, h8, h9, h10, h11, h12, h13, h14, h15, h16, h17, h18, h19, h21⟩ hL hdep
      refine wpOp_step rfl (fun K hK => ?_)
      go_simp
      exact hK _ _ ⟨_, _, _, _, _, _, _, _, _, _, _, _, _, _, _, _, _, _, _, _, _, _, rfl, ⟨hW, hS⟩, h0, h1, h2, h3, h4, fun _ => rfl, h6, h7, h8, h9, h10, h11, h12, h13, h14, h15, h16, h17, h18, h19, h21⟩
    · rintro Lq aq uq ⟨s212, s213, s214, s215, s216, s217, s218, s219, s220, s221, s222, s223, s224, s225, s226, s227, s228, s229, s230, s231, s232, s233, rfl, ⟨hW, hS⟩, h0, h1, h2, h3, h4, h5, h6, h7, h8, h9, h10, h11, h12, h13, h14, h15, h16, h17, h18, h19, h21⟩ hL hdep
      have d4 := h4 (hdep _ rfl ⟨4, .data⟩ (by simp) rfl)
      have d5 := h5 (hdep _ rfl ⟨5, .data⟩ (by simp) rfl)
      subst d4
      subst d5
      refine wpOp_step rfl (fun K hK => ?_)
      go_simp
      exact hK _ _ ⟨_, _, _, _, _, _, _, _, _, _, _, _, _, _, _, _, _, _, _, _, _, _, rfl, ⟨hW, hS⟩, h0, h1, h2, h3, h4, h5, fun _ => rfl, h7, h8, h9, h10, h11, h12, h13, h14, h15, h16, h17, h18, h19, h21⟩
    · rintro Lq aq uq ⟨s212, s213, s214, s215, s216, s217, s218, s219, s220, s221, s222, s223, s224, s225, s226, s227, s228, s229, s230, s231, s232, s233, rfl, ⟨hW, hS⟩, h0, h1, h2, h3, h4, h5, h6, h7, h8, h9, h10, h11, h12, h13, h14, h15, h16, h17, h18, h19, h21⟩ hL hdep
      have d6 := h6 (hdep _ rfl ⟨6, .data⟩ (by simp) rfl)
      have hnS : Lq 22 = false := by
        cases e : Lq 22 with
        | false => rfl
        | true => exact absurd (hS e) (by simp [hL])
      have hph := hW.phase hP0 hP1 hP2 hnS
      have hc := HL.out uq hph
      subst d6
      refine wpOp_step rfl (fun K hK => ?_)
      go_simp
      exact hK _ _ ⟨_, _, _, _, _, _, _, _, _, _, _, _, _, _, _, _, _, _, _, _, _, _, rfl, ⟨hW, fun h => by rw [show Lq 22 = true from h] at hnS; cases hnS⟩, h0, h1, h2, h3, h4, h5, h6, fun _ => rfl, h8, h9, h10, h11, h12, h13, h14, h15, h16, h17, h18, h19, h21⟩
    · rintro Lq aq uq ⟨s212, s213, s214, s215, s216, s217, s218, s219, s220, s221, s222, s223, s224, s225, s226, s227, s228, s229, s230, s231, s232, s233, rfl, ⟨hW, hS⟩, h0, h1, h2, h3, h4, h5, h6, h7, h8, h9, h10, h11, h12, h13, h14, h15, h16, h17, h18, h19, h21⟩ hL hdep
      refine wpOp_step rfl (fun K hK => ?_)
      go_simp
      exact hK _ _ ⟨_, _, _, _, _, _, _, _, _, _, _, _, _, _, _, _, _, _, _, _, _, _, rfl, ⟨hW, hS⟩, h0, h1, h2, h3, h4, h5, h6, h7, fun _ => rfl, h9, h10, h11, h12, h13, h14, h15, h16, h17, h18, h19, h21⟩
    · rintro Lq aq uq ⟨s212, s213, s214, s215, s216, s217, s218, s219, s220, s221, s222, s223, s224, s225, s226, s227, s228, s229, s230, s231, s232, s233, rfl, ⟨hW, hS⟩, h0, h1, h2, h3, h4, h5, h6, h7, h8, h9, h10, h11, h12, h13, h14, h15, h16, h17, h18, h19, h21⟩ hL hdep
      have d8 := h8 (hdep _ rfl ⟨8, .data⟩ (by simp) rfl)
      subst d8
      refine wpOp_step rfl (fun K hK => ?_)
      go_simp
      exact hK _ _ ⟨_, _, _, _, _, _, _, _, _, _, _, _, _, _, _, _, _, _, _, _, _, _, rfl, ⟨hW, hS⟩, h0, h1, h2, h3, h4, h5, h6, h7, h8, fun _ => rfl, h10, h11, h12, h13, h14, h15, h16, h17, h18, h19, h21⟩
    · rintro Lq aq uq ⟨s212, s213, s214, s215, s216, s217, s218, s219, s220, s221, s222, s223, s224, s225, s226, s227, s228, s229, s230, s231, s232, s233, rfl, ⟨hW, hS⟩, h0, h1, h2, h3, h4, h5, h6, h7, h8, h9, h10, h11, h12, h13, h14, h15, h16, h17, h18, h19, h21⟩ hL hdep
      have d9 := h9 (hdep _ rfl ⟨9, .data⟩ (by simp) rfl)
      subst d9
      refine wpOp_step rfl (fun K hK => ?_)
      go_simp
      exact hK _ _ ⟨_, _, _, _, _, _, _, _, _, _, _, _, _, _, _, _, _, _, _, _, _, _, rfl, ⟨hW, hS⟩, h0, h1, h2, h3, h4, h5, h6, h7, h8, h9, fun _ => rfl, h11, h12, h13, h14, h15, h16, h17, h18, h19, h21⟩
    · rintro Lq aq uq ⟨s212, s213, s214, s215, s216, s217, s218, s219, s220, s221, s222, s223, s224, s225, s226, s227, s228, s229, s230, s231, s232, s233, rfl, ⟨hW, hS⟩, h0, h1, h2, h3, h4, h5, h6, h7, h8, h9, h10, h11, h12, h13, h14, h15, h16, h17, h18, h19, h21⟩ hL hdep
      have d10 := h10 (hdep _ rfl ⟨10, .data⟩ (by simp) rfl)
      have hnS : Lq 22 = false := by
        cases e : Lq 22 with
        | false => rfl
        | true => exact absurd (hS e) (by simp [hL])
      have hph := hW.phase hP0 hP1 hP2 hnS
      have hc := HB.out uq hph
      subst d10
      refine wpOp_step rfl (fun K hK => ?_)
      go_simp
      exact hK _ _ ⟨_, _, _, _, _, _, _, _, _, _, _, _, _, _, _, _, _, _, _, _, _, _, rfl, ⟨hW, fun h => by rw [show Lq 22 = true from h] at hnS; cases hnS⟩, h0, h1, h2, h3, h4, h5, h6, h7, h8, h9, h10, fun _ => rfl, h12, h13, h14, h15, h16, h17, h18, h19, h21⟩
    · rintro Lq aq uq ⟨s212, s213, s214, s215, s216, s217, s218, s219, s220, s221, s222, s223, s224, s225, s226, s227, s228, s229, s230, s231, s232, s233, rfl, ⟨hW, hS⟩, h0, h1, h2, h3, h4, h5, h6, h7, h8, h9, h10, h11, h12, h13, h14, h15, h16, h17, h18, h19, h21⟩ hL hdep
      refine wpOp_step rfl (fun K hK => ?_)
      go_simp
      exact hK _ _ ⟨_, _, _, _, _, _, _, _, _, _, _, _, _, _, _, _, _, _, _, _, _, _, rfl, ⟨hW, hS⟩, h0, h1, h2, h3, h4, h5, h6, h7, h8, h9, h10, h11, fun _ => rfl, h13, h14, h15, h16, h17, h18, h19, h21⟩
    · rintro Lq aq uq ⟨s212, s213, s214, s215, s216, s217, s218, s219, s220, s221, s222, s223, s224, s225, s226, s227, s228, s229, s230, s231, s232, s233, rfl, ⟨hW, hS⟩, h0, h1, h2, h3, h4, h5, h6, h7, h8, h9, h10, h11, h12, h13, h14, h15, h16, h17, h18, h19, h21⟩ hL hdep
      refine wpOp_step rfl (fun K hK => ?_)
      go_simp
      exact hK _ _ ⟨_, _, _, _, _, _, _, _, _, _, _, _, _, _, _, _, _, _, _, _, _, _, rfl, ⟨hW, hS⟩, h0, h1, h2, h3, h4, h5, h6, h7, h8, h9, h10, h11, h12, fun _ => rfl, h14, h15, h16, h17, h18, h19, h21⟩
    · rintro Lq aq uq ⟨s212, s213, s214, s215, s216, s217, s218, s219, s220, s221, s222, s223, s224, s225, s226, s227, s228, s229, s230, s231, s232, s233, rfl, ⟨hW, hS⟩, h0, h1, h2, h3, h4, h5, h6, h7, h8, h9, h10, h11, h12, h13, h14, h15, h16, h17, h18, h19, h21⟩ hL hdep
      have d12 := h12 (hdep _ rfl ⟨12, .data⟩ (by simp) rfl)
      have d13 := h13 (hdep _ rfl ⟨13, .data⟩ (by simp) rfl)
      subst d12
      subst d13
      refine wpOp_step rfl (fun K hK => ?_)
      go_simp
      exact hK _ _ ⟨_, _, _, _, _, _, _, _, _, _, _, _, _, _, _, _, _, _, _, _, _, _, rfl, ⟨hW, hS⟩, h0, h1, h2, h3, h4, h5, h6, h7, h8, h9, h10, h11, h12, h13, fun _ => rfl, h15, h16, h17, h18, h19, h21⟩
    · rintro Lq aq uq ⟨s212, s213, s214, s215, s216, s217, s218, s219, s220, s221, s222, s223, s224, s225, s226, s227, s228, s229, s230, s231, s232, s233, rfl, ⟨hW, hS⟩, h0, h1, h2, h3, h4, h5, h6, h7, h8, h9, h10, h11, h12, h13, h14, h15, h16, h17, h18, h19, h21⟩ hL hdep
      have d14 := h14 (hdep _ rfl ⟨14, .data⟩ (by simp) rfl)
      have hnS : Lq 22 = false := by
        cases e : Lq 22 with
        | false => rfl
        | true => exact absurd (hS e) (by simp [hL])
      have hph := hW.phase hP0 hP1 hP2 hnS
      have hc := HL.out uq hph
      subst d14
      refine wpOp_step rfl (fun K hK => ?_)
      go_simp
      exact hK _ _ ⟨_, _, _, _, _, _, _, _, _, _, _, _, _, _, _, _, _, _, _, _, _, _, rfl, ⟨hW, fun h => by rw [show Lq 22 = true from h] at hnS; cases hnS⟩, h0, h1, h2, h3, h4, h5, h6, h7, h8, h9, h10, h11, h12, h13, h14, fun _ => rfl, h16, h17, h18, h19, h21⟩
    · rintro Lq aq uq ⟨s212, s213, s214, s215, s216, s217, s218, s219, s220, s221, s222, s223, s224, s225, s226, s227, s228, s229, s230, s231, s232, s233, rfl, ⟨hW, hS⟩, h0, h1, h2, h3, h4, h5, h6, h7, h8, h9, h10, h11, h12, h13, h14, h15, h16, h17, h18, h19, h21⟩ hL hdep
      have d11 := h11 (hdep _ rfl ⟨11, .data⟩ (by simp) rfl)
      have d15 := h15 (hdep _ rfl ⟨15, .data⟩ (by simp) rfl)
      subst d11
      subst d15
      refine wpOp_step rfl (fun K hK => ?_)
      go_simp
      exact hK _ _ ⟨_, _, _, _, _, _, _, _, _, _, _, _, _, _, _, _, _, _, _, _, _, _, rfl, ⟨hW, hS⟩, h0, h1, h2, h3, h4, h5, h6, h7, h8, h9, h10, h11, h12, h13, h14, h15, fun _ => rfl, h17, h18, h19, h21⟩
    · rintro Lq aq uq ⟨s212, s213, s214, s215, s216, s217, s218, s219, s220, s221, s222, s223, s224, s225, s226, s227, s228, s229, s230, s231, s232, s233, rfl, ⟨hW, hS⟩, h0, h1, h2, h3, h4, h5, h6, h7, h8, h9, h10, h11, h12, h13, h14, h15, h16, h17, h18, h19, h21⟩ hL hdep
      have d16 := h16 (hdep _ rfl ⟨16, .data⟩ (by simp) rfl)
      have hnS : Lq 22 = false := by
        cases e : Lq 22 with
        | false => rfl
        | true => exact absurd (hS e) (by simp [hL])
      have hph := hW.phase hP0 hP1 hP2 hnS
      have hc := HCs.out uq hph
      subst d16
      refine wpOp_step rfl (fun K hK => ?_)
      go_simp
      exact hK _ _ ⟨_, _, _, _, _, _, _, _, _, _, _, _, _, _, _, _, _, _, _, _, _, _, rfl, ⟨hW, fun h => by rw [show Lq 22 = true from h] at hnS; cases hnS⟩, h0, h1, h2, h3, h4, h5, h6, h7, h8, h9, h10, h11, h12, h13, h14, h15, h16, fun _ => rfl, h18, h19, h21⟩
    · rintro Lq aq uq ⟨s212, s213, s214, s215, s216, s217, s218, s219, s220, s221, s222, s223, s224, s225, s226, s227, s228, s229, s230, s231, s232, s233, rfl, ⟨hW, hS⟩, h0, h1, h2, h3, h4, h5, h6, h7, h8, h9, h10, h11, h12, h13, h14, h15, h16, h17, h18, h19, h21⟩ hL hdep
      refine wpOp_step rfl (fun K hK => ?_)
      go_simp
      exact hK _ _ ⟨_, _, _, _, _, _, _, _, _, _, _, _, _, _, _, _, _, _, _, _, _, _, rfl, ⟨hW, hS⟩, h0, h1, h2, h3, h4, h5, h6, h7, h8, h9, h10, h11, h12, h13, h14, h15, h16, h17, fun _ => rfl, h19, h21⟩
    · rintro Lq aq uq ⟨s212, s213, s214, s215, s216, s217, s218, s219, s220, s221, s222, s223, s224, s225, s226, s227, s228, s229, s230, s231, s232, s233, rfl, ⟨hW, hS⟩, h0, h1, h2, h3, h4, h5, h6, h7, h8, h9, h10, h11, h12, h13, h14, h15, h16, h17, h18, h19, h21⟩ hL hdep
      have d18 := h18 (hdep _ rfl ⟨18, .data⟩ (by simp) rfl)
      have hnS : Lq 22 = false := by
        cases e : Lq 22 with
        | false => rfl
        | true => exact absurd (hS e) (by simp [hL])
      have hu := hW.before hL
      subst hu
      subst d18
      refine wpOp_step rfl (fun K hK => ?_)
      go_simp
      exact hK _ _ ⟨_, _, _, _, _, _, _, _, _, _, _, _, _, _, _, _, _, _, _, _, _, _, rfl, ⟨hW.lay hL rfl, fun h => by rw [show Lq 22 = true from h] at hnS; cases hnS⟩, h0, h1, h2, h3, h4, h5, h6, h7, h8, h9, h10, h11, h12, h13, h14, h15, h16, h17, h18, fun _ => rfl, h21⟩
    · rintro Lq aq uq ⟨s212, s213, s214, s215, s216, s217, s218, s219, s220, s221, s222, s223, s224, s225, s226, s227, s228, s229, s230, s231, s232, s233, rfl, ⟨hW, hS⟩, h0, h1, h2, h3, h4, h5, h6, h7, h8, h9, h10, h11, h12, h13, h14, h15, h16, h17, h18, h19, h21⟩ hL hdep
      have d17 := h17 (hdep _ rfl ⟨17, .data⟩ (by simp) rfl)
      have d19 := h19 (hdep _ rfl ⟨19, .data⟩ (by simp) rfl)
      have lA : Lq 19 = true := hdep _ rfl ⟨19, .data⟩ (by simp) rfl
      have hu := hW.laid lA hL
      subst hu
      subst d17
      subst d19
      refine wpOp_step rfl (fun K hK => ?_)
      refine step_append_lies _ rfl _ _ _ rfl B tI i0 _ 1 8 Tryz.underlying47 hi0 hz0 hz1 hz2 rfl (by omega) (.slice q1 n1 p1) La.length (La.flatMap nC) rfl HOWN.out ⟨w.heap.size, 0, none⟩ 1 1 (nC a) rfl rfl (World.news_of_block (cs := (nC a).toArray) (t := tI) (fr := (0, 0)) (heap_alloc_new w.drew _)) (by simp [Value.oneCell']) (by omega) (by unfold maxLen; omega) (by omega) (by simp; omega) (w.heap.size + 1) (by simp) ?_
      intro g cap u hown hgrow hat hlt
      refine hK _ _ ⟨_, _, _, _, _, _, _, _, _, _, _, _, _, _, _, _, _, _, _, _, _, _, rfl, ⟨hW.grow lA hL (hAP g cap u hown hgrow hat) rfl, hS⟩, h0, h1, h2, h3, h4, h5, h6, h7, h8, h9, h10, h11, h12, h13, h14, h15, h16, h17, h18, h19, h21⟩
    · rintro Lq aq uq ⟨s212, s213, s214, s215, s216, s217, s218, s219, s220, s221, s222, s223, s224, s225, s226, s227, s228, s229, s230, s231, s232, s233, rfl, ⟨hW, hS⟩, h0, h1, h2, h3, h4, h5, h6, h7, h8, h9, h10, h11, h12, h13, h14, h15, h16, h17, h18, h19, h21⟩ hL hdep
      have d3 := h3 (hdep _ rfl ⟨3, .data⟩ (by simp) rfl)
      have d7 := h7 (hdep _ rfl ⟨7, .data⟩ (by simp) rfl)
      subst d3
      subst d7
      refine wpOp_step rfl (fun K hK => ?_)
      go_simp
      exact hK _ _ ⟨_, _, _, _, _, _, _, _, _, _, _, _, _, _, _, _, _, _, _, _, _, _, rfl, ⟨hW, hS⟩, h0, h1, h2, h3, h4, h5, h6, h7, h8, h9, h10, h11, h12, h13, h14, h15, h16, h17, h18, h19, fun _ => rfl⟩
    · rintro Lq aq uq ⟨s212, s213, s214, s215, s216, s217, s218, s219, s220, s221, s222, s223, s224, s225, s226, s227, s228, s229, s230, s231, s232, s233, rfl, ⟨hW, hS⟩, h0, h1, h2, h3, h4, h5, h6, h7, h8, h9, h10, h11, h12, h13, h14, h15, h16, h17, h18, h19, h21⟩ hL hdep
      have d21 := h21 (hdep _ rfl ⟨21, .data⟩ (by simp) rfl)
      have lP : Lq 20 = true := hdep _ rfl ⟨20, .data⟩ (by simp) rfl
      obtain ⟨g, cap, hap, dP⟩ := hW.grown lP hL
      have l3 : Lq 3 = true := hdep _ rfl ⟨3, .phase⟩ (by simp) rfl
      have l7 : Lq 7 = true := hdep _ rfl ⟨7, .phase⟩ (by simp) rfl
      have l11 : Lq 11 = true := hdep _ rfl ⟨11, .phase⟩ (by simp) rfl
      have l15 : Lq 15 = true := hdep _ rfl ⟨15, .phase⟩ (by simp) rfl
      have l17 : Lq 17 = true := hdep _ rfl ⟨17, .phase⟩ (by simp) rfl
      have l19 : Lq 19 = true := hdep _ rfl ⟨19, .phase⟩ (by simp) rfl
      have hph := hP2 _ _ _ hap
      have hcs := HCs.out uq hph
      have hfs := HFs.out uq hph
      subst dP
      subst d21
      refine wpOp_step rfl (fun K hK => ?_)
      go_simp
      exact hK _ _ ⟨_, _, _, _, _, _, _, _, _, _, _, _, _, _, _, _, _, _, _, _, _, _, rfl, ⟨hW.store lP hL hap, fun _ => ⟨l3, l7, l11, l15, l17, l19⟩⟩, (by first | exact h0 | exact fun _ => rfl), (by first | exact h1 | exact fun _ => rfl), (by first | exact h2 | exact fun _ => rfl), (by first | exact h3 | exact fun _ => rfl), (by first | exact h4 | exact fun _ => rfl), (by first | exact h5 | exact fun _ => rfl), (by first | exact h6 | exact fun _ => rfl), (by first | exact h7 | exact fun _ => rfl), (by first | exact h8 | exact fun _ => rfl), (by first | exact h9 | exact fun _ => rfl), (by first | exact h10 | exact fun _ => rfl), (by first | exact h11 | exact fun _ => rfl), (by first | exact h12 | exact fun _ => rfl), (by first | exact h13 | exact fun _ => rfl), (by first | exact h14 | exact fun _ => rfl), (by first | exact h15 | exact fun _ => rfl), (by first | exact h16 | exact fun _ => rfl), (by first | exact h17 | exact fun _ => rfl), (by first | exact h18 | exact fun _ => rfl), (by first | exact h19 | exact fun _ => rfl), (by first | exact h21 | exact fun _ => rfl)⟩
  · rintro L a u hAll ⟨s212, s213, s214, s215, s216, s217, s218, s219, s220, s221, s222, s223, s224, s225, s226, s227, s228, s229, s230, s231, s232, s233, rfl, ⟨hW, hS⟩, h0, h1, h2, h3, h4, h5, h6, h7, h8, h9, h10, h11, h12, h13, h14, h15, h16, h17, h18, h19, h21⟩
    obtain ⟨g, cap, u2, hap, rfl⟩ := hW.stored (hAll 22 (by decide))
    exact hend _ _ _ _ _ _ _ _ _ _ _ _ _ _ _ _ _ _ _ _ _ _ g cap u2 hap
end Go.Proofs.YtdlpbpohbkcafaaGreat
