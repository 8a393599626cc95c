/-
  quadrillelaw22's (*pair).keep: the lists of its own.
-/
import Derived.Test.YtldppdafgbipjaaLent
import Derived.Test.YtldppdafgbipjaaReads
namespace Go.Proofs.Ytldppdafgbipjaa
open Go.RowKit

set_option maxRecDepth 100000 in
set_option maxHeartbeats 6400000 in
theorem keepA (PB OB : Nat) (ov : Value) (da va : Option Addr) (dc vc : Nat) (ds : List Sp) (vs : List V) (W0 : World)
    (HD : Hid (SpotsAt W0 (.slice da ds.length dc) ds)) (HV : Hid (ValsAt W0 (.slice va vs.length vc) vs)) (HL : Hid (ds.length ≤ 65536)) (HLV : Hid (vs.length ≤ 65536))
    (hd0 : W0.cell? ⟨OB, 7, none⟩ = some (.slice da ds.length dc)) (hx0 : W0.cell? ⟨OB, 8, none⟩ = some (.slice va vs.length vc)) (Q : Exit → Act → World → Prop)
    (hend : ∀ (g1 cap1 g2 cap2 : Nat) (u : World) (s12 s13 s15 s16 s17 s18 s19 s21 s22 s23 : Value), Fr [] W0 u → u.ownsRow W0.heap.size tSp 2 (.slice (some ⟨g1, 0, none⟩) (ds.length + 2) cap1) (ds.length + 2) ((ds ++ marks).flatMap spC) →
      u.ownsRow W0.heap.size tVa 3 (.slice (some ⟨g2, 0, none⟩) (vs.length + 1) cap2) (vs.length + 1) (vs.flatMap vC ++ [.int .i64 1, .int .i64 (-99), .string ⟨#[]⟩]) → Q .normal { tmps := #[.pointer (some ⟨PB, 0, none⟩), ov, undef, .pointer (some ⟨OB, 0, none⟩), .bool false, .slice (some ⟨g1, 0, none⟩) ds.length cap1, .slice (some ⟨g2, 0, none⟩) vs.length cap2, undef, undef, undef, undef, undef, s12, s13, .slice (some ⟨g1, 0, none⟩) ds.length cap1, s15, s16, s17, s18, s19, .slice (some ⟨g2, 0, none⟩) (vs.length + 1) cap2, s21, s22, s23, .slice (some ⟨g2, 0, none⟩) vs.length cap2, undef, undef, undef, undef, undef, undef, undef, undef, undef, undef, undef, undef, undef, undef, undef, undef, undef, undef, undef, undef, undef, undef, undef, undef, undef, undef, undef, undef, undef, undef, undef, undef, undef, undef, undef, undef, undef, undef, undef, undef, undef, undef, undef, undef, undef, undef, undef, undef, undef, undef, undef, undef, undef, undef, undef, undef, undef, undef, undef, undef, undef, undef, undef, undef, undef, undef, undef, undef, undef, undef, undef], defers := [] } u) :
    (subC [1, 0] (Try.f91.body.getD .skip)).wp Try.prog Q { tmps := #[.pointer (some ⟨PB, 0, none⟩), ov, undef, .pointer (some ⟨OB, 0, none⟩), .bool false, undef, undef, undef, undef, undef, undef, undef, undef, undef, undef, undef, undef, undef, undef, undef, undef, undef, undef, undef, undef, undef, undef, undef, undef, undef, undef, undef, undef, undef, undef, undef, undef, undef, undef, undef, undef, undef, undef, undef, undef, undef, undef, undef, undef, undef, undef, undef, undef, undef, undef, undef, undef, undef, undef, undef, undef, undef, undef, undef, undef, undef, undef, undef, undef, undef, undef, undef, undef, undef, undef, undef, undef, undef, undef, undef, undef, undef, undef, undef, undef, undef, undef, undef, undef, undef, undef, undef, undef, undef, undef, undef], defers := [] } W0 := by
  obtain ⟨i0, hi0, hz0, hz1, hz2⟩ := info_parts infoVal
  refine wp_region_inv (fun L a u => Fr [] W0 u ∧ ∃ s5 s6 s12 s13 s14 s15 s16 s17 s18 s19 s20 s21 s22 s23 s24 : Value, a = ({ tmps := #[.pointer (some ⟨PB, 0, none⟩), ov, undef, .pointer (some ⟨OB, 0, none⟩), .bool false, s5, s6, undef, undef, undef, undef, undef, s12, s13, s14, s15, s16, s17, s18, s19, s20, s21, s22, s23, s24, undef, undef, undef, undef, undef, undef, undef, undef, undef, undef, undef, undef, undef, undef, undef, undef, undef, undef, undef, undef, undef, undef, undef, undef, undef, undef, undef, undef, undef, undef, undef, undef, undef, undef, undef, undef, undef, undef, undef, undef, undef, undef, undef, undef, undef, undef, undef, undef, undef, undef, undef, undef, undef, undef, undef, undef, undef, undef, undef, undef, undef, undef, undef, undef, undef, undef, undef, undef, undef, undef, undef], defers := [] } : Act) ∧ (L 0 = true → s12 = .pointer (some ⟨OB, 7, none⟩)) ∧ (L 1 = true → s13 = .slice da ds.length dc) ∧ (L 2 = true → (∃ g cap, s14 = .slice (some ⟨g, 0, none⟩) ds.length cap ∧ u.ownsRow W0.heap.size tSp 2 (.slice (some ⟨g, 0, none⟩) (ds.length + 2) cap) (ds.length + 2) ((ds ++ marks).flatMap spC))) ∧ (L 3 = true → s15 = .pointer (some ⟨OB, 8, none⟩)) ∧ (L 4 = true → s16 = .slice va vs.length vc) ∧ (L 5 = true → (L 8 = false → u.ownsRow W0.heap.size tVa 3 s17 vs.length (vs.flatMap vC))) ∧ (L 6 = true → s18 = .agg #[.int .i64 1, .int .i64 (-99), .string ⟨#[]⟩]) ∧ (L 7 = true → (L 8 = false → ∃ b, s19 = .slice (some ⟨b, 0, none⟩) 1 1 ∧ u.heap[b]? = some (.cells #[.int .i64 1, .int .i64 (-99), .string ⟨#[]⟩] tVa (0, 0)))) ∧ (L 8 = true → (∃ g cap, s20 = .slice (some ⟨g, 0, none⟩) (vs.length + 1) cap ∧ u.ownsRow W0.heap.size tVa 3 (.slice (some ⟨g, 0, none⟩) (vs.length + 1) cap) (vs.length + 1) (vs.flatMap vC ++ [.int .i64 1, .int .i64 (-99), .string ⟨#[]⟩]))) ∧ (L 9 = true → s21 = .pointer (some ⟨OB, 8, none⟩)) ∧ (L 10 = true → s22 = .slice va vs.length vc) ∧ (L 11 = true → s23 = .int .i64 (vs.length : Int)) ∧ (L 12 = true → (L 8 = true ∧ ∃ g cap, s20 = .slice (some ⟨g, 0, none⟩) (vs.length + 1) cap ∧ s24 = .slice (some ⟨g, 0, none⟩) vs.length cap)) ∧ (L 13 = true → (s5 = s14 ∧ L 2 = true)) ∧ (L 14 = true → (s6 = s24 ∧ L 12 = true))) rfl (by kernel_rfl) ?_ ?_ ?_
  · exact ⟨(Fr.refl _ _).drew, undef, undef, undef, undef, undef, undef, undef, undef, undef, undef, undef, undef, undef, undef, undef, rfl, by simp, by simp, by simp, by simp, by simp, by simp, by simp, by simp, by simp, by simp, by simp, by simp, by simp, by simp, by simp⟩
  · intro i hi
    have hi : i < 15 := hi
    rcases (by omega : i = 0 ∨ i = 1 ∨ i = 2 ∨ i = 3 ∨ i = 4 ∨ i = 5 ∨ i = 6 ∨ i = 7 ∨ i = 8 ∨ i = 9 ∨ i = 10 ∨ i = 11 ∨ i = 12 ∨ i = 13 ∨ i = 14) with rfl | rfl | rfl | rfl | rfl | rfl | rfl | rfl | rfl | rfl | rfl | rfl | rfl | rfl | rfl
    · rintro L a u ⟨hF, s5, s6, s12, s13, s14, s15, s16, s17, s18, s19, s20, s21, s22, s23, s24, rfl, h0, h1, h2, h3, h4, h5, h6, h7, h8, h9, h10, h11, h12, h13, h14⟩ hL hdep
      refine wpOp_step rfl (fun K hK => ?_)
      go_simp
      have hU := Fr.refl [] u
      exact hK _ _ ⟨hF.trans0 hU, _, _, _, _, _, _, _, _, _, _, _, _, _, _, _, rfl, fun _ => rfl, fun h => h1 (by simpa using h), fun h => by obtain ⟨g, cap, e1, e2⟩ := h2 (by simpa using h); exact ⟨g, cap, e1, owns_fr e2 hU (by simp)⟩, fun h => h3 (by simpa using h), fun h => h4 (by simpa using h), fun h h8 => owns_fr (h5 (by simpa using h) (by simpa using h8)) hU (by simp), fun h => h6 (by simpa using h), fun h h8 => by obtain ⟨b, e1, e2⟩ := h7 (by simpa using h) (by simpa using h8); exact ⟨b, e1, hU.heap e2 (by simp)⟩, fun h => by obtain ⟨g, cap, e1, e2⟩ := h8 (by simpa using h); exact ⟨g, cap, e1, owns_fr e2 hU (by simp)⟩, fun h => h9 (by simpa using h), fun h => h10 (by simpa using h), fun h => h11 (by simpa using h), fun h => by obtain ⟨e0, e1⟩ := h12 (by simpa using h); exact ⟨by simp [e0], e1⟩, fun h => by obtain ⟨e0, e1⟩ := h13 (by simpa using h); exact ⟨e0, by simp [e1]⟩, fun h => by obtain ⟨e0, e1⟩ := h14 (by simpa using h); exact ⟨e0, by simp [e1]⟩⟩
    · rintro L a u ⟨hF, s5, s6, s12, s13, s14, s15, s16, s17, s18, s19, s20, s21, s22, s23, s24, rfl, h0, h1, h2, h3, h4, h5, h6, h7, h8, h9, h10, h11, h12, h13, h14⟩ hL hdep
      have d0 := h0 (hdep _ rfl ⟨0, .data⟩ (by simp) rfl)
      subst d0
      have c0 : u.cell? ⟨OB, 7, none⟩ = some (.slice da ds.length dc) := ce_call hF hd0
      refine wpOp_step rfl (fun K hK => ?_)
      go_simp
      have hU := Fr.refl [] u
      exact hK _ _ ⟨hF.trans0 hU, _, _, _, _, _, _, _, _, _, _, _, _, _, _, _, rfl, fun h => h0 (by simpa using h), fun _ => rfl, fun h => by obtain ⟨g, cap, e1, e2⟩ := h2 (by simpa using h); exact ⟨g, cap, e1, owns_fr e2 hU (by simp)⟩, fun h => h3 (by simpa using h), fun h => h4 (by simpa using h), fun h h8 => owns_fr (h5 (by simpa using h) (by simpa using h8)) hU (by simp), fun h => h6 (by simpa using h), fun h h8 => by obtain ⟨b, e1, e2⟩ := h7 (by simpa using h) (by simpa using h8); exact ⟨b, e1, hU.heap e2 (by simp)⟩, fun h => by obtain ⟨g, cap, e1, e2⟩ := h8 (by simpa using h); exact ⟨g, cap, e1, owns_fr e2 hU (by simp)⟩, fun h => h9 (by simpa using h), fun h => h10 (by simpa using h), fun h => h11 (by simpa using h), fun h => by obtain ⟨e0, e1⟩ := h12 (by simpa using h); exact ⟨by simp [e0], e1⟩, fun h => by obtain ⟨e0, e1⟩ := h13 (by simpa using h); exact ⟨e0, by simp [e1]⟩, fun h => by obtain ⟨e0, e1⟩ := h14 (by simpa using h); exact ⟨e0, by simp [e1]⟩⟩
    · rintro L a u ⟨hF, s5, s6, s12, s13, s14, s15, s16, s17, s18, s19, s20, s21, s22, s23, s24, rfl, h0, h1, h2, h3, h4, h5, h6, h7, h8, h9, h10, h11, h12, h13, h14⟩ hL hdep
      have d1 := h1 (hdep _ rfl ⟨1, .data⟩ (by simp) rfl)
      subst d1
      refine wpOp_step rfl (fun K hK => ?_)
      go_simp
      refine (lentC _ ds u (HD.out.fr0 hF) HL.out).mono ?_
      rintro e u2 ⟨g, cap, rfl, hown, hC⟩
      have hU := hC
      exact hK _ _ ⟨hF.trans0 hU, _, _, _, _, _, _, _, _, _, _, _, _, _, _, _, rfl, fun h => h0 (by simpa using h), fun h => h1 (by simpa using h), fun _ => ⟨g, cap, rfl, owns_mono hown hF.size⟩, fun h => h3 (by simpa using h), fun h => h4 (by simpa using h), fun h h8 => owns_fr (h5 (by simpa using h) (by simpa using h8)) hU (by simp), fun h => h6 (by simpa using h), fun h h8 => by obtain ⟨b, e1, e2⟩ := h7 (by simpa using h) (by simpa using h8); exact ⟨b, e1, hU.heap e2 (by simp)⟩, fun h => by obtain ⟨g, cap, e1, e2⟩ := h8 (by simpa using h); exact ⟨g, cap, e1, owns_fr e2 hU (by simp)⟩, fun h => h9 (by simpa using h), fun h => h10 (by simpa using h), fun h => h11 (by simpa using h), fun h => by obtain ⟨e0, e1⟩ := h12 (by simpa using h); exact ⟨by simp [e0], e1⟩, fun h => by have h0 := h13 (by simpa using h); simp [hL] at h0, fun h => by obtain ⟨e0, e1⟩ := h14 (by simpa using h); exact ⟨e0, by simp [e1]⟩⟩
    · rintro L a u ⟨hF, s5, s6, s12, s13, s14, s15, s16, s17, s18, s19, s20, s21, s22, s23, s24, rfl, h0, h1, h2, h3, h4, h5, h6, h7, h8, h9, h10, h11, h12, h13, h14⟩ hL hdep
      refine wpOp_step rfl (fun K hK => ?_)
      go_simp
      have hU := Fr.refl [] u
      exact hK _ _ ⟨hF.trans0 hU, _, _, _, _, _, _, _, _, _, _, _, _, _, _, _, rfl, fun h => h0 (by simpa using h), fun h => h1 (by simpa using h), fun h => by obtain ⟨g, cap, e1, e2⟩ := h2 (by simpa using h); exact ⟨g, cap, e1, owns_fr e2 hU (by simp)⟩, fun _ => rfl, fun h => h4 (by simpa using h), fun h h8 => owns_fr (h5 (by simpa using h) (by simpa using h8)) hU (by simp), fun h => h6 (by simpa using h), fun h h8 => by obtain ⟨b, e1, e2⟩ := h7 (by simpa using h) (by simpa using h8); exact ⟨b, e1, hU.heap e2 (by simp)⟩, fun h => by obtain ⟨g, cap, e1, e2⟩ := h8 (by simpa using h); exact ⟨g, cap, e1, owns_fr e2 hU (by simp)⟩, fun h => h9 (by simpa using h), fun h => h10 (by simpa using h), fun h => h11 (by simpa using h), fun h => by obtain ⟨e0, e1⟩ := h12 (by simpa using h); exact ⟨by simp [e0], e1⟩, fun h => by obtain ⟨e0, e1⟩ := h13 (by simpa using h); exact ⟨e0, by simp [e1]⟩, fun h => by obtain ⟨e0, e1⟩ := h14 (by simpa using h); exact ⟨e0, by simp [e1]⟩⟩
    · rintro L a u ⟨hF, s5, s6, s12, s13, s14, s15, s16, s17, s18, s19, s20, s21, s22, s23, s24, rfl, h0, h1, h2, h3, h4, h5, h6, h7, h8, h9, h10, h11, h12, h13, h14⟩ hL hdep
      have d3 := h3 (hdep _ rfl ⟨3, .data⟩ (by simp) rfl)
      subst d3
      have c0 : u.cell? ⟨OB, 8, none⟩ = some (.slice va vs.length vc) := ce_call hF hx0
      refine wpOp_step rfl (fun K hK => ?_)
      go_simp
      have hU := Fr.refl [] u
      exact hK _ _ ⟨hF.trans0 hU, _, _, _, _, _, _, _, _, _, _, _, _, _, _, _, rfl, fun h => h0 (by simpa using h), fun h => h1 (by simpa using h), fun h => by obtain ⟨g, cap, e1, e2⟩ := h2 (by simpa using h); exact ⟨g, cap, e1, owns_fr e2 hU (by simp)⟩, fun h => h3 (by simpa using h), fun _ => rfl, fun h h8 => owns_fr (h5 (by simpa using h) (by simpa using h8)) hU (by simp), fun h => h6 (by simpa using h), fun h h8 => by obtain ⟨b, e1, e2⟩ := h7 (by simpa using h) (by simpa using h8); exact ⟨b, e1, hU.heap e2 (by simp)⟩, fun h => by obtain ⟨g, cap, e1, e2⟩ := h8 (by simpa using h); exact ⟨g, cap, e1, owns_fr e2 hU (by simp)⟩, fun h => h9 (by simpa using h), fun h => h10 (by simpa using h), fun h => h11 (by simpa using h), fun h => by obtain ⟨e0, e1⟩ := h12 (by simpa using h); exact ⟨by simp [e0], e1⟩, fun h => by obtain ⟨e0, e1⟩ := h13 (by simpa using h); exact ⟨e0, by simp [e1]⟩, fun h => by obtain ⟨e0, e1⟩ := h14 (by simpa using h); exact ⟨e0, by simp [e1]⟩⟩
    · rintro L a u ⟨hF, s5, s6, s12, s13, s14, s15, s16, s17, s18, s19, s20, s21, s22, s23, s24, rfl, h0, h1, h2, h3, h4, h5, h6, h7, h8, h9, h10, h11, h12, h13, h14⟩ hL hdep
      have d4 := h4 (hdep _ rfl ⟨4, .data⟩ (by simp) rfl)
      subst d4
      refine wpOp_step rfl (fun K hK => ?_)
      refine step_copyV (R := vs) (u := u) rfl _ rfl rfl (HV.out.fr0 hF) HLV.out ?_
      intro v2 u2 hv2 hC
      have hU := hC
      exact hK _ _ ⟨hF.trans0 hU, _, _, _, _, _, _, _, _, _, _, _, _, _, _, _, rfl, fun h => h0 (by simpa using h), fun h => h1 (by simpa using h), fun h => by obtain ⟨g, cap, e1, e2⟩ := h2 (by simpa using h); exact ⟨g, cap, e1, owns_fr e2 hU (by simp)⟩, fun h => h3 (by simpa using h), fun h => h4 (by simpa using h), fun _ _ => owns_mono hv2 hF.size, fun h => h6 (by simpa using h), fun h h8 => by obtain ⟨b, e1, e2⟩ := h7 (by simpa using h) (by simpa using h8); exact ⟨b, e1, hU.heap e2 (by simp)⟩, fun h => by obtain ⟨g, cap, e1, e2⟩ := h8 (by simpa using h); exact ⟨g, cap, e1, owns_fr e2 hU (by simp)⟩, fun h => h9 (by simpa using h), fun h => h10 (by simpa using h), fun h => h11 (by simpa using h), fun h => by obtain ⟨e0, e1⟩ := h12 (by simpa using h); exact ⟨by simp [e0], e1⟩, fun h => by obtain ⟨e0, e1⟩ := h13 (by simpa using h); exact ⟨e0, by simp [e1]⟩, fun h => by obtain ⟨e0, e1⟩ := h14 (by simpa using h); exact ⟨e0, by simp [e1]⟩⟩
    · rintro L a u ⟨hF, s5, s6, s12, s13, s14, s15, s16, s17, s18, s19, s20, s21, s22, s23, s24, rfl, h0, h1, h2, h3, h4, h5, h6, h7, h8, h9, h10, h11, h12, h13, h14⟩ hL hdep
      refine wpOp_step rfl (fun K hK => ?_)
      go_simp
      refine (numC (-99) u).mono ?_
      rintro e u2 ⟨rfl, hC⟩
      have hU := hC
      exact hK _ _ ⟨hF.trans0 hU, _, _, _, _, _, _, _, _, _, _, _, _, _, _, _, rfl, fun h => h0 (by simpa using h), fun h => h1 (by simpa using h), fun h => by obtain ⟨g, cap, e1, e2⟩ := h2 (by simpa using h); exact ⟨g, cap, e1, owns_fr e2 hU (by simp)⟩, fun h => h3 (by simpa using h), fun h => h4 (by simpa using h), fun h h8 => owns_fr (h5 (by simpa using h) (by simpa using h8)) hU (by simp), fun _ => rfl, fun h h8 => by obtain ⟨b, e1, e2⟩ := h7 (by simpa using h) (by simpa using h8); exact ⟨b, e1, hU.heap e2 (by simp)⟩, fun h => by obtain ⟨g, cap, e1, e2⟩ := h8 (by simpa using h); exact ⟨g, cap, e1, owns_fr e2 hU (by simp)⟩, fun h => h9 (by simpa using h), fun h => h10 (by simpa using h), fun h => h11 (by simpa using h), fun h => by obtain ⟨e0, e1⟩ := h12 (by simpa using h); exact ⟨by simp [e0], e1⟩, fun h => by obtain ⟨e0, e1⟩ := h13 (by simpa using h); exact ⟨e0, by simp [e1]⟩, fun h => by obtain ⟨e0, e1⟩ := h14 (by simpa using h); exact ⟨e0, by simp [e1]⟩⟩
    · rintro L a u ⟨hF, s5, s6, s12, s13, s14, s15, s16, s17, s18, s19, s20, s21, s22, s23, s24, rfl, h0, h1, h2, h3, h4, h5, h6, h7, h8, h9, h10, h11, h12, h13, h14⟩ hL hdep
      have d6 := h6 (hdep _ rfl ⟨6, .data⟩ (by simp) rfl)
      subst d6
      refine wpOp_step rfl (fun K hK => ?_)
      go_simp
      have hU := (Fr.refl [] u).alloc (.cells #[.int .i64 1, .int .i64 (-99), .string ⟨#[]⟩] tVa)
      exact hK _ _ ⟨hF.trans0 hU, _, _, _, _, _, _, _, _, _, _, _, _, _, _, _, rfl, fun h => h0 (by simpa using h), fun h => h1 (by simpa using h), fun h => by obtain ⟨g, cap, e1, e2⟩ := h2 (by simpa using h); exact ⟨g, cap, e1, owns_fr e2 hU (by simp)⟩, fun h => h3 (by simpa using h), fun h => h4 (by simpa using h), fun h h8 => owns_fr (h5 (by simpa using h) (by simpa using h8)) hU (by simp), fun h => h6 (by simpa using h), fun _ _ => ⟨_, rfl, heap_new u _⟩, fun h => by obtain ⟨g, cap, e1, e2⟩ := h8 (by simpa using h); exact ⟨g, cap, e1, owns_fr e2 hU (by simp)⟩, fun h => h9 (by simpa using h), fun h => h10 (by simpa using h), fun h => h11 (by simpa using h), fun h => by obtain ⟨e0, e1⟩ := h12 (by simpa using h); exact ⟨by simp [e0], e1⟩, fun h => by obtain ⟨e0, e1⟩ := h13 (by simpa using h); exact ⟨e0, by simp [e1]⟩, fun h => by obtain ⟨e0, e1⟩ := h14 (by simpa using h); exact ⟨e0, by simp [e1]⟩⟩
    · rintro L a u ⟨hF, s5, s6, s12, s13, s14, s15, s16, s17, s18, s19, s20, s21, s22, s23, s24, rfl, h0, h1, h2, h3, h4, h5, h6, h7, h8, h9, h10, h11, h12, h13, h14⟩ hL hdep
      have d5 := h5 (hdep _ rfl ⟨5, .data⟩ (by simp) rfl) hL
      obtain ⟨b, e19, hb⟩ := h7 (hdep _ rfl ⟨7, .data⟩ (by simp) rfl) hL
      subst e19
      have hcb := cell_of hb
      have hlv := HLV.out
      refine wpOp_step rfl (fun K hK => ?_)
      refine step_append_lies u rfl _ _ 36 rfl W0.heap.size tVa i0 _ 3 32 Try.underlying36 hi0 hz0 hz1 hz2 rfl (by omega) s17 vs.length (vs.flatMap vC) rfl d5 ⟨b, 0, none⟩ 1 1 [.int .i64 1, .int .i64 (-99), .string ⟨#[]⟩] rfl rfl ?_ (by simp [Value.oneCell']) (by omega) (by unfold maxLen; omega) (by omega) hF.size u.heap.size rfl ?_
      · intro j x hj
        have e : (⟨b, 0, none⟩ : Addr).add j = ⟨b, j, none⟩ := by
          unfold Addr.add
          split
          · rename_i h0; subst h0; rfl
          · simp
        rw [e, hcb]
        simpa using hj
      · intro g cap u2 hown2 hgrow _ _
        have hU : Fr s17.ownBlock.toList u u2 := (Fr.refl _ u).grown hgrow (fun k hk => .inl (by rw [hk]; simp))
        have hbl : ∀ k ∈ s17.ownBlock.toList, ∀ cur, u.heap[k]? ≠ some (.cells cur tSp (0, 0)) := by
          intro k hk cur hc
          rw [Option.mem_toList] at hk
          have hk2 : s17.ownBlock = some k := hk
          rcases d5.2 with ⟨e, _⟩ | ⟨g3, _, cur3, e, _, hc3, _⟩
          · rw [e] at hk2; cases hk2
          · rw [e] at hk2
            cases hk2
            rw [hc3] at hc
            injection hc with hc
            injection hc with _ h2 _
            cases h2
        exact hK _ _ ⟨hF.grown hgrow (fun k hk => .inr (d5.lt k hk).1), _, _, _, _, _, _, _, _, _, _, _, _, _, _, _, rfl, fun h => h0 (by simpa using h), fun h => h1 (by simpa using h), fun h => by obtain ⟨g, cap, e1, e2⟩ := h2 (by simpa using h); exact ⟨g, cap, e1, owns_frT e2 hU hbl⟩, fun h => h3 (by simpa using h), fun h => h4 (by simpa using h), fun _ h8 => by simp at h8, fun h => h6 (by simpa using h), fun _ h8 => by simp at h8, fun _ => ⟨g, cap, rfl, hown2⟩, fun h => h9 (by simpa using h), fun h => h10 (by simpa using h), fun h => h11 (by simpa using h), fun h => by have h0 := h12 (by simpa using h); simp [hL] at h0, fun h => by obtain ⟨e0, e1⟩ := h13 (by simpa using h); exact ⟨e0, by simp [e1]⟩, fun h => by obtain ⟨e0, e1⟩ := h14 (by simpa using h); exact ⟨e0, by simp [e1]⟩⟩
    · rintro L a u ⟨hF, s5, s6, s12, s13, s14, s15, s16, s17, s18, s19, s20, s21, s22, s23, s24, rfl, h0, h1, h2, h3, h4, h5, h6, h7, h8, h9, h10, h11, h12, h13, h14⟩ hL hdep
      refine wpOp_step rfl (fun K hK => ?_)
      go_simp
      have hU := Fr.refl [] u
      exact hK _ _ ⟨hF.trans0 hU, _, _, _, _, _, _, _, _, _, _, _, _, _, _, _, rfl, fun h => h0 (by simpa using h), fun h => h1 (by simpa using h), fun h => by obtain ⟨g, cap, e1, e2⟩ := h2 (by simpa using h); exact ⟨g, cap, e1, owns_fr e2 hU (by simp)⟩, fun h => h3 (by simpa using h), fun h => h4 (by simpa using h), fun h h8 => owns_fr (h5 (by simpa using h) (by simpa using h8)) hU (by simp), fun h => h6 (by simpa using h), fun h h8 => by obtain ⟨b, e1, e2⟩ := h7 (by simpa using h) (by simpa using h8); exact ⟨b, e1, hU.heap e2 (by simp)⟩, fun h => by obtain ⟨g, cap, e1, e2⟩ := h8 (by simpa using h); exact ⟨g, cap, e1, owns_fr e2 hU (by simp)⟩, fun _ => rfl, fun h => h10 (by simpa using h), fun h => h11 (by simpa using h), fun h => by obtain ⟨e0, e1⟩ := h12 (by simpa using h); exact ⟨by simp [e0], e1⟩, fun h => by obtain ⟨e0, e1⟩ := h13 (by simpa using h); exact ⟨e0, by simp [e1]⟩, fun h => by obtain ⟨e0, e1⟩ := h14 (by simpa using h); exact ⟨e0, by simp [e1]⟩⟩
    · rintro L a u ⟨hF, s5, s6, s12, s13, s14, s15, s16, s17, s18, s19, s20, s21, s22, s23, s24, rfl, h0, h1, h2, h3, h4, h5, h6, h7, h8, h9, h10, h11, h12, h13, h14⟩ hL hdep
      have d9 := h9 (hdep _ rfl ⟨9, .data⟩ (by simp) rfl)
      subst d9
      have c0 : u.cell? ⟨OB, 8, none⟩ = some (.slice va vs.length vc) := ce_call hF hx0
      refine wpOp_step rfl (fun K hK => ?_)
      go_simp
      have hU := Fr.refl [] u
      exact hK _ _ ⟨hF.trans0 hU, _, _, _, _, _, _, _, _, _, _, _, _, _, _, _, rfl, fun h => h0 (by simpa using h), fun h => h1 (by simpa using h), fun h => by obtain ⟨g, cap, e1, e2⟩ := h2 (by simpa using h); exact ⟨g, cap, e1, owns_fr e2 hU (by simp)⟩, fun h => h3 (by simpa using h), fun h => h4 (by simpa using h), fun h h8 => owns_fr (h5 (by simpa using h) (by simpa using h8)) hU (by simp), fun h => h6 (by simpa using h), fun h h8 => by obtain ⟨b, e1, e2⟩ := h7 (by simpa using h) (by simpa using h8); exact ⟨b, e1, hU.heap e2 (by simp)⟩, fun h => by obtain ⟨g, cap, e1, e2⟩ := h8 (by simpa using h); exact ⟨g, cap, e1, owns_fr e2 hU (by simp)⟩, fun h => h9 (by simpa using h), fun _ => rfl, fun h => h11 (by simpa using h), fun h => by obtain ⟨e0, e1⟩ := h12 (by simpa using h); exact ⟨by simp [e0], e1⟩, fun h => by obtain ⟨e0, e1⟩ := h13 (by simpa using h); exact ⟨e0, by simp [e1]⟩, fun h => by obtain ⟨e0, e1⟩ := h14 (by simpa using h); exact ⟨e0, by simp [e1]⟩⟩
    · rintro L a u ⟨hF, s5, s6, s12, s13, s14, s15, s16, s17, s18, s19, s20, s21, s22, s23, s24, rfl, h0, h1, h2, h3, h4, h5, h6, h7, h8, h9, h10, h11, h12, h13, h14⟩ hL hdep
      have d10 := h10 (hdep _ rfl ⟨10, .data⟩ (by simp) rfl)
      subst d10
      refine wpOp_step rfl (fun K hK => ?_)
      go_simp
      have hU := Fr.refl [] u
      exact hK _ _ ⟨hF.trans0 hU, _, _, _, _, _, _, _, _, _, _, _, _, _, _, _, rfl, fun h => h0 (by simpa using h), fun h => h1 (by simpa using h), fun h => by obtain ⟨g, cap, e1, e2⟩ := h2 (by simpa using h); exact ⟨g, cap, e1, owns_fr e2 hU (by simp)⟩, fun h => h3 (by simpa using h), fun h => h4 (by simpa using h), fun h h8 => owns_fr (h5 (by simpa using h) (by simpa using h8)) hU (by simp), fun h => h6 (by simpa using h), fun h h8 => by obtain ⟨b, e1, e2⟩ := h7 (by simpa using h) (by simpa using h8); exact ⟨b, e1, hU.heap e2 (by simp)⟩, fun h => by obtain ⟨g, cap, e1, e2⟩ := h8 (by simpa using h); exact ⟨g, cap, e1, owns_fr e2 hU (by simp)⟩, fun h => h9 (by simpa using h), fun h => h10 (by simpa using h), fun _ => rfl, fun h => by obtain ⟨e0, e1⟩ := h12 (by simpa using h); exact ⟨by simp [e0], e1⟩, fun h => by obtain ⟨e0, e1⟩ := h13 (by simpa using h); exact ⟨e0, by simp [e1]⟩, fun h => by obtain ⟨e0, e1⟩ := h14 (by simpa using h); exact ⟨e0, by simp [e1]⟩⟩
    · rintro L a u ⟨hF, s5, s6, s12, s13, s14, s15, s16, s17, s18, s19, s20, s21, s22, s23, s24, rfl, h0, h1, h2, h3, h4, h5, h6, h7, h8, h9, h10, h11, h12, h13, h14⟩ hL hdep
      have d8 := h8 (hdep _ rfl ⟨8, .data⟩ (by simp) rfl)
      have d11 := h11 (hdep _ rfl ⟨11, .data⟩ (by simp) rfl)
      obtain ⟨g, cap, rfl, hown⟩ := d8
      subst d11
      have hcp2 : vs.length ≤ cap := Nat.le_of_succ_le (own_cap hown).1
      have hcp3 : (vs.length : Int) ≤ (cap : Int) := Int.ofNat_le.2 hcp2
      refine wpOp_step rfl (fun K hK => ?_)
      go_simp
      have hU := Fr.refl [] u
      exact hK _ _ ⟨hF.trans0 hU, _, _, _, _, _, _, _, _, _, _, _, _, _, _, _, rfl, fun h => h0 (by simpa using h), fun h => h1 (by simpa using h), fun h => by obtain ⟨g, cap, e1, e2⟩ := h2 (by simpa using h); exact ⟨g, cap, e1, owns_fr e2 hU (by simp)⟩, fun h => h3 (by simpa using h), fun h => h4 (by simpa using h), fun h h8 => owns_fr (h5 (by simpa using h) (by simpa using h8)) hU (by simp), fun h => h6 (by simpa using h), fun h h8 => by obtain ⟨b, e1, e2⟩ := h7 (by simpa using h) (by simpa using h8); exact ⟨b, e1, hU.heap e2 (by simp)⟩, fun h => by obtain ⟨g, cap, e1, e2⟩ := h8 (by simpa using h); exact ⟨g, cap, e1, owns_fr e2 hU (by simp)⟩, fun h => h9 (by simpa using h), fun h => h10 (by simpa using h), fun h => h11 (by simpa using h), fun _ => ⟨by simp [hdep _ rfl ⟨8, .data⟩ (by simp) rfl], g, cap, rfl, rfl⟩, fun h => by obtain ⟨e0, e1⟩ := h13 (by simpa using h); exact ⟨e0, by simp [e1]⟩, fun h => by have h0 := h14 (by simpa using h); simp [hL] at h0⟩
    · rintro L a u ⟨hF, s5, s6, s12, s13, s14, s15, s16, s17, s18, s19, s20, s21, s22, s23, s24, rfl, h0, h1, h2, h3, h4, h5, h6, h7, h8, h9, h10, h11, h12, h13, h14⟩ hL hdep
      have e2 := hdep _ rfl ⟨2, .data⟩ (by simp) rfl
      refine wpOp_step rfl (fun K hK => ?_)
      go_simp
      have hU := Fr.refl [] u
      exact hK _ _ ⟨hF.trans0 hU, _, _, _, _, _, _, _, _, _, _, _, _, _, _, _, rfl, fun h => h0 (by simpa using h), fun h => h1 (by simpa using h), fun h => by obtain ⟨g, cap, e1, e2⟩ := h2 (by simpa using h); exact ⟨g, cap, e1, owns_fr e2 hU (by simp)⟩, fun h => h3 (by simpa using h), fun h => h4 (by simpa using h), fun h h8 => owns_fr (h5 (by simpa using h) (by simpa using h8)) hU (by simp), fun h => h6 (by simpa using h), fun h h8 => by obtain ⟨b, e1, e2⟩ := h7 (by simpa using h) (by simpa using h8); exact ⟨b, e1, hU.heap e2 (by simp)⟩, fun h => by obtain ⟨g, cap, e1, e2⟩ := h8 (by simpa using h); exact ⟨g, cap, e1, owns_fr e2 hU (by simp)⟩, fun h => h9 (by simpa using h), fun h => h10 (by simpa using h), fun h => h11 (by simpa using h), fun h => by obtain ⟨e0, e1⟩ := h12 (by simpa using h); exact ⟨by simp [e0], e1⟩, fun _ => ⟨rfl, by simp [e2]⟩, fun h => by obtain ⟨e0, e1⟩ := h14 (by simpa using h); exact ⟨e0, by simp [e1]⟩⟩
    · rintro L a u ⟨hF, s5, s6, s12, s13, s14, s15, s16, s17, s18, s19, s20, s21, s22, s23, s24, rfl, h0, h1, h2, h3, h4, h5, h6, h7, h8, h9, h10, h11, h12, h13, h14⟩ hL hdep
      have e12 := hdep _ rfl ⟨12, .data⟩ (by simp) rfl
      refine wpOp_step rfl (fun K hK => ?_)
      go_simp
      have hU := Fr.refl [] u
      exact hK _ _ ⟨hF.trans0 hU, _, _, _, _, _, _, _, _, _, _, _, _, _, _, _, rfl, fun h => h0 (by simpa using h), fun h => h1 (by simpa using h), fun h => by obtain ⟨g, cap, e1, e2⟩ := h2 (by simpa using h); exact ⟨g, cap, e1, owns_fr e2 hU (by simp)⟩, fun h => h3 (by simpa using h), fun h => h4 (by simpa using h), fun h h8 => owns_fr (h5 (by simpa using h) (by simpa using h8)) hU (by simp), fun h => h6 (by simpa using h), fun h h8 => by obtain ⟨b, e1, e2⟩ := h7 (by simpa using h) (by simpa using h8); exact ⟨b, e1, hU.heap e2 (by simp)⟩, fun h => by obtain ⟨g, cap, e1, e2⟩ := h8 (by simpa using h); exact ⟨g, cap, e1, owns_fr e2 hU (by simp)⟩, fun h => h9 (by simpa using h), fun h => h10 (by simpa using h), fun h => h11 (by simpa using h), fun h => by obtain ⟨e0, e1⟩ := h12 (by simpa using h); exact ⟨by simp [e0], e1⟩, fun h => by obtain ⟨e0, e1⟩ := h13 (by simpa using h); exact ⟨e0, by simp [e1]⟩, fun _ => ⟨rfl, by simp [e12]⟩⟩
  · rintro L a u hAll ⟨hFend, s5, s6, s12, s13, s14, s15, s16, s17, s18, s19, s20, s21, s22, s23, s24, rfl, h0, h1, h2, h3, h4, h5, h6, h7, h8, h9, h10, h11, h12, h13, h14⟩
    obtain ⟨g1, cap1, rfl, a1⟩ := h2 (hAll 2 (by decide))
    obtain ⟨g2, cap2, rfl, a2⟩ := h8 (hAll 8 (by decide))
    obtain ⟨_, g3, cap3, e3, rfl⟩ := h12 (hAll 12 (by decide))
    cases e3
    obtain ⟨rfl, _⟩ := h13 (hAll 13 (by decide))
    obtain ⟨rfl, _⟩ := h14 (hAll 14 (by decide))
    exact hend g1 cap1 g2 cap2 u _ _ _ _ _ _ _ _ _ _ hFend a1 a2
end Go.Proofs.Ytldppdafgbipjaa
