/-
  quadrillelaw7's (*pair).plays: every call is as the document says; the walk of GridAll.
-/
import Derived.Test.YtldppdafgbipjaaGoes
import Derived.Test.YtldppdafgbipjaaBegun7
import Derived.Deep.CutBlock
import Derived.Deep.DeepCutAuto
namespace Go.Proofs.Ytldppdafgbipjaa
open Go.RowKit

theorem drop7D (rb : Nat) (vA vX : Value) (R : List (Sp × Int)) (s : Sp) (w : World) (h : RIn w rb vA vX R R) (hR : Srt R) (hl : R.length ≤ 65536) :
    Calls Try.prog 74 #[.pointer (some ⟨rb, 0, none⟩), spV s] w fun e w1 => e = .returned (.bool (getS s R).isSome) ∧ ∃ vA' vX', RIn w1 rb vA' vX' (refD s R) (refD s R) ∧ Turns rb vA vX w vA' vX' w1 := by
  refine (drop7 rb vA vX R s w h hR hl).mono ?_
  rintro e w1 ⟨he, vA', vX', hk, ht⟩
  refine ⟨he, vA', vX', ?_, ht⟩
  unfold refD
  by_cases hg : (getS s R).isSome = true
  · rw [if_pos hg] at hk ⊢
    exact hk
  · rw [if_neg hg] at hk ⊢
    exact hk
/-- The table turned, then the document's. -/
theorem two {tb mb rb : Nat} {vA vX vA2 vX2 : Value} {W w1 w2 : World} (h1 : Fr [tb, mb] W w1) (h2 : Fr (rBl rb vA vX) w1 w2) (hb : ∀ g ∈ rBl rb vA2 vX2, g ∈ rBl rb vA vX ∨ w1.heap.size ≤ g) :
    Fr (tb :: mb :: rBl rb vA vX) W w2 ∧ ∀ g ∈ rBl rb vA2 vX2, g ∈ rBl rb vA vX ∨ W.heap.size ≤ g := by
  have s1 : Fr (tb :: mb :: rBl rb vA vX) W w1 := h1.mono (fun k hk => .inl (by simp at hk; rcases hk with rfl | rfl <;> simp))
  have s2 : Fr (tb :: mb :: rBl rb vA vX) w1 w2 := h2.mono (fun k hk => .inl (by simp [hk]))
  refine ⟨s1.transS s2, fun g hg => ?_⟩
  rcases hb g hg with h | h
  · exact .inl h
  · exact .inr (Nat.le_trans h1.size h)

set_option maxRecDepth 100000 in
set_option maxHeartbeats 3200000 in
theorem plays7 (pb tb mb rb : Nat) (vA vX : Value) (l R : List (Sp × Int)) (o : Op7) (w : World) (hp : w.heap[pb]? = some (.cells #[.pointer (some ⟨tb, 0, none⟩), .pointer (some ⟨rb, 0, none⟩)] 52 (0, 0)))
    (hpS : pb ∉ tb :: mb :: rBl rb vA vX) (hX : TX w tb mb rb vA vX l R) :
    Calls Try.prog 22 #[.pointer (some ⟨pb, 0, none⟩), o.val] w fun e w1 => e = .returned (.bool true) ∧
      ∃ vA' vX' l' R', TX w1 tb mb rb vA' vX' l' R' ∧ Fr (tb :: mb :: rBl rb vA vX) w w1 ∧ ∀ g ∈ rBl rb vA' vX', g ∈ rBl rb vA vX ∨ w.heap.size ≤ g := by
  have HX := Lib.hid hX
  have HPS := Lib.hid hpS
  clear hX hpS
  go_enter Try.func22, Try.ntmps22
  go_upto_block 0 with fail
  have h0 : Fr [] w (w.alloc (.cells #[.int .i64 o.k, .int .i64 o.s.1, .int .i64 o.s.2, .int .i64 o.x, .int .i64 o.a.t, .int .i64 o.a.l, .int .i64 o.a.b, .int .i64 o.a.r, .bool o.on] 56)) := (Fr.refl [] w).alloc _
  have hOB := heap_new w (.cells #[.int .i64 o.k, .int .i64 o.s.1, .int .i64 o.s.2, .int .i64 o.x, .int .i64 o.a.t, .int .i64 o.a.l, .int .i64 o.a.b, .int .i64 o.a.r, .bool o.on] 56)
  generalize w.alloc (.cells #[.int .i64 o.k, .int .i64 o.s.1, .int .i64 o.s.2, .int .i64 o.x, .int .i64 o.a.t, .int .i64 o.a.l, .int .i64 o.a.b, .int .i64 o.a.r, .bool o.on] 56) = W at *
  obtain ⟨OB, hOBe⟩ : ∃ OB, w.heap.size = OB := ⟨_, rfl⟩
  rw [hOBe] at hOB ⊢
  have c0 : W.cell? ⟨pb, 0, none⟩ = some (.pointer (some ⟨tb, 0, none⟩)) := cell_of (h0.heap hp (by simp)) 0
  have c1 : W.cell? ⟨pb, 1, none⟩ = some (.pointer (some ⟨rb, 0, none⟩)) := cell_of (h0.heap hp (by simp)) 1
  have o0 : W.cell? ⟨OB, 0, none⟩ = some (.int .i64 o.k) := cell_of hOB 0
  have o1 : W.cell? ⟨OB, 1, none⟩ = some (.int .i64 o.s.1) := cell_of hOB 1
  have o2 : W.cell? ⟨OB, 2, none⟩ = some (.int .i64 o.s.2) := cell_of hOB 2
  have o3 : W.cell? ⟨OB, 3, none⟩ = some (.int .i64 o.x) := cell_of hOB 3
  have hXW := HX.out.fr0 h0
  have HXW := Lib.hid hXW
  have hOS : OB ∉ tb :: mb :: rBl rb vA vX := by
    intro hm
    have h1 := HX.out.ref.lt
    have h2 := lt_of HX.out.tab.tab
    obtain ⟨es, clock, hmap, _⟩ := HX.out.tab.map
    have h3 := lt_of hmap
    simp only [List.mem_cons] at hm
    rcases hm with h | h | h
    · omega
    · omega
    · have := h1 _ h
      omega
  have HOS := Lib.hid hOS
  have HP := Lib.hid hp
  have H0 := Lib.hid h0
  have HZ := Lib.hid h0.size
  have HPW := Lib.hid (h0.heap hp (by simp))
  have HOBL := Lib.hid (lt_of hOB)
  have HOBE := Lib.hid hOB
  clear hXW hOS hp h0 hOBe hOB
  have hHB : ∀ b ∈ [pb, OB], b ∉ [tb, mb] ∧ b ∉ rBl rb vA vX := by
    intro b hb
    simp only [List.mem_cons, List.not_mem_nil, or_false] at hb
    rcases hb with rfl | rfl
    · have := HPS.out
      simp only [List.mem_cons, not_or] at this
      exact ⟨by simp [this.1, this.2.1], this.2.2⟩
    · have := HOS.out
      simp only [List.mem_cons, not_or] at this
      exact ⟨by simp [this.1, this.2.1], this.2.2⟩
  have HHB := Lib.hid hHB
  have HAP := Lib.hid (TR.apart HXW.out.tab HXW.out.ref)
  have HLW := Lib.hid (show R.length ≤ 65536 by rw [HXW.out.asc.len]; exact HXW.out.le)
  clear hHB
  go_cut [15] (fun _ wx => ∃ vA' vX' l' R', TX wx tb mb rb vA' vX' l' R' ∧ Fr (tb :: mb :: rBl rb vA vX) W wx ∧ ∀ g ∈ rBl rb vA' vX', g ∈ rBl rb vA vX ∨ W.heap.size ≤ g)
  case first =>
    by_cases k1 : o.k = 1
    · obtain ⟨E, hE⟩ : ∃ E, setE o.s l = E := ⟨_, rfl⟩
      have HE := Lib.hid hE
      have HE2 := Lib.hid (show setE o.s R = E by rw [HXW.out.asc.setE]; exact hE)
      clear hE
      go_wp2_with fail
      go_region_held3 (fun u => u.cell? ⟨pb, 0, none⟩ = some (.pointer (some ⟨tb, 0, none⟩)) ∧ u.cell? ⟨OB, 1, none⟩ = some (.int .i64 o.s.1) ∧ u.cell? ⟨OB, 2, none⟩ = some (.int .i64 o.s.2) ∧ u.cell? ⟨OB, 3, none⟩ = some (.int .i64 o.x))
        (((try dsimp only); (repeat (first | with_reducible assumption | with_reducible refine And.intro ?_ ?_ | with_reducible refine ce_drew ?_ | with_reducible refine ce_old ?_ | (with_reducible refine ceS hC1 (HHB.out _ (by simp)).1 ?_)))))
        ((go_at_call 24; refine (set_int tb mb o.s o.x l _ (HXW.out.tab.fr ((Fr.refl [] W).drew) (by simp) (by simp))).mono ?_; rw [HE.out]; rintro e w1 ⟨rfl, hT1, hC1⟩))
      have hD1 : Fr [tb, mb] W w1 := ((Fr.refl [tb, mb] W).drew).transS hC1
      have c0 : w1.cell? ⟨pb, 0, none⟩ = some (.pointer (some ⟨tb, 0, none⟩)) := ceS hD1 (HHB.out pb (by simp)).1 c0
      have c1 : w1.cell? ⟨pb, 1, none⟩ = some (.pointer (some ⟨rb, 0, none⟩)) := ceS hD1 (HHB.out pb (by simp)).1 c1
      have o1 : w1.cell? ⟨OB, 1, none⟩ = some (.int .i64 o.s.1) := ceS hD1 (HHB.out OB (by simp)).1 o1
      have o2 : w1.cell? ⟨OB, 2, none⟩ = some (.int .i64 o.s.2) := ceS hD1 (HHB.out OB (by simp)).1 o2
      have o3 : w1.cell? ⟨OB, 3, none⟩ = some (.int .i64 o.x) := ceS hD1 (HHB.out OB (by simp)).1 o3
      have HT1 := Lib.hid hT1
      have HD1 := Lib.hid hD1
      have HR1 := Lib.hid (HXW.out.ref.frS hD1 HAP.out)
      clear hT1 hC1 hD1 o0
      go_wp2_with fail
      go_region_held3 (fun u => u.cell? ⟨pb, 1, none⟩ = some (.pointer (some ⟨rb, 0, none⟩)) ∧ u.cell? ⟨OB, 1, none⟩ = some (.int .i64 o.s.1) ∧ u.cell? ⟨OB, 2, none⟩ = some (.int .i64 o.s.2) ∧ u.cell? ⟨OB, 3, none⟩ = some (.int .i64 o.x))
        (((try dsimp only); (repeat (first | with_reducible assumption | with_reducible refine And.intro ?_ ?_ | with_reducible refine ce_drew ?_ | with_reducible refine ce_old ?_ | (with_reducible refine ceS hC2 (HHB.out _ (by simp)).2 ?_)))))
        ((go_at_call 71; refine (set7 rb vA vX R o.s o.x _ (HR1.out.fr ((Fr.refl [] w1).drew)) HXW.out.asc.srt HLW.out).mono ?_; rw [HE2.out]; rintro e w2 ⟨rfl, vA2, vX2, hR2, hC2, hB2⟩))
      have hD2 : Fr (rBl rb vA vX) w1 w2 := ((Fr.refl _ w1).drew).transS hC2
      have HR2 := Lib.hid hR2
      have HB2 := Lib.hid hB2
      have HD2 := Lib.hid hD2
      have HT2 := Lib.hid (HT1.out.fr hD2 (fun hm => HAP.out _ hm (by simp)) (fun hm => HAP.out _ hm (by simp)))
      clear hR2 hC2 hB2 hD2 c0 c1 o1 o2 o3
      go_wp2_with fail
      go_meet
      exact ⟨vA2, vX2, _, _, ⟨HT2.out, HR2.out, HXW.out.asc.setL o.s o.x, setL_len HXW.out.le⟩, two HD1.out HD2.out HB2.out⟩
    by_cases k2 : o.k = 2
    · obtain ⟨E, hE⟩ : ∃ E, getS o.s l = E := ⟨_, rfl⟩
      have HE := Lib.hid hE
      have HE2 := Lib.hid (show getS o.s R = E by rw [HXW.out.asc.get]; exact hE)
      clear hE
      go_wp2_with fail
      go_region_held3 (fun u => u.cell? ⟨pb, 0, none⟩ = some (.pointer (some ⟨tb, 0, none⟩)) ∧ u.cell? ⟨OB, 1, none⟩ = some (.int .i64 o.s.1) ∧ u.cell? ⟨OB, 2, none⟩ = some (.int .i64 o.s.2))
        (((try dsimp only); (repeat (first | with_reducible assumption | with_reducible refine And.intro ?_ ?_ | with_reducible refine ce_drew ?_ | with_reducible refine ce_old ?_ | (with_reducible refine ceS hC1 (by simp) ?_)))))
        ((go_at_call 29; refine (get_int tb mb o.s l _ (HXW.out.tab.fr ((Fr.refl [] W).drew) (by simp) (by simp))).mono ?_; rw [HE.out]; rintro e w1 ⟨rfl, hC1⟩))
      have hD1 : Fr [] W w1 := ((Fr.refl [] W).drew).trans0 hC1
      have c0 : w1.cell? ⟨pb, 0, none⟩ = some (.pointer (some ⟨tb, 0, none⟩)) := ceS hD1 (by simp) c0
      have c1 : w1.cell? ⟨pb, 1, none⟩ = some (.pointer (some ⟨rb, 0, none⟩)) := ceS hD1 (by simp) c1
      have o1 : w1.cell? ⟨OB, 1, none⟩ = some (.int .i64 o.s.1) := ceS hD1 (by simp) o1
      have o2 : w1.cell? ⟨OB, 2, none⟩ = some (.int .i64 o.s.2) := ceS hD1 (by simp) o2
      have o3 : w1.cell? ⟨OB, 3, none⟩ = some (.int .i64 o.x) := ceS hD1 (by simp) o3
      have HX1 := Lib.hid (HXW.out.fr0 hD1)
      have HD1 := Lib.hid hD1
      clear hC1 hD1 o0
      go_wp2_with fail
      go_region_held3 (fun u => u.cell? ⟨pb, 1, none⟩ = some (.pointer (some ⟨rb, 0, none⟩)) ∧ u.cell? ⟨OB, 1, none⟩ = some (.int .i64 o.s.1) ∧ u.cell? ⟨OB, 2, none⟩ = some (.int .i64 o.s.2))
        (((try dsimp only); (repeat (first | with_reducible assumption | with_reducible refine And.intro ?_ ?_ | with_reducible refine ce_drew ?_ | with_reducible refine ce_old ?_ | (with_reducible refine ceS hC2 (by simp) ?_)))))
        ((go_at_call 72; refine (get7 rb vA vX R o.s _ (HX1.out.ref.fr ((Fr.refl [] w1).drew)) HXW.out.asc.srt HLW.out).mono ?_; rw [HE2.out]; rintro e w2 ⟨rfl, hC2⟩))
      have hD2 : Fr [] w1 w2 := ((Fr.refl [] w1).drew).trans0 hC2
      have HX2 := Lib.hid (HX1.out.fr0 hD2)
      have HD2 := Lib.hid (HD1.out.trans0 hD2)
      clear hC2 hD2 c0 c1 o1 o2 o3
      go_wp2_with fail
      go_meet
      exact ⟨vA, vX, l, R, HX2.out, HD2.out.mono (fun _ h => nomatch h), fun g hg => .inl hg⟩
    by_cases k3 : o.k = 3
    · obtain ⟨E, hE⟩ : ∃ E, (getS o.s l).isSome = E := ⟨_, rfl⟩
      have HE := Lib.hid hE
      have HE2 := Lib.hid (show (getS o.s R).isSome = E by rw [HXW.out.asc.get]; exact hE)
      clear hE
      go_wp2_with fail
      go_region_held3 (fun u => u.cell? ⟨pb, 0, none⟩ = some (.pointer (some ⟨tb, 0, none⟩)) ∧ u.cell? ⟨OB, 1, none⟩ = some (.int .i64 o.s.1) ∧ u.cell? ⟨OB, 2, none⟩ = some (.int .i64 o.s.2))
        (((try dsimp only); (repeat (first | with_reducible assumption | with_reducible refine And.intro ?_ ?_ | with_reducible refine ce_drew ?_ | with_reducible refine ce_old ?_ | (with_reducible refine ceS hC1 (HHB.out _ (by simp)).1 ?_)))))
        ((go_at_call 73; refine (drop_int tb mb o.s l _ (HXW.out.tab.fr ((Fr.refl [] W).drew) (by simp) (by simp))).mono ?_; rw [HE.out]; rintro e w1 ⟨rfl, hT1, hC1⟩))
      have hD1 : Fr [tb, mb] W w1 := ((Fr.refl [tb, mb] W).drew).transS hC1
      have c0 : w1.cell? ⟨pb, 0, none⟩ = some (.pointer (some ⟨tb, 0, none⟩)) := ceS hD1 (HHB.out pb (by simp)).1 c0
      have c1 : w1.cell? ⟨pb, 1, none⟩ = some (.pointer (some ⟨rb, 0, none⟩)) := ceS hD1 (HHB.out pb (by simp)).1 c1
      have o1 : w1.cell? ⟨OB, 1, none⟩ = some (.int .i64 o.s.1) := ceS hD1 (HHB.out OB (by simp)).1 o1
      have o2 : w1.cell? ⟨OB, 2, none⟩ = some (.int .i64 o.s.2) := ceS hD1 (HHB.out OB (by simp)).1 o2
      have o3 : w1.cell? ⟨OB, 3, none⟩ = some (.int .i64 o.x) := ceS hD1 (HHB.out OB (by simp)).1 o3
      have HT1 := Lib.hid hT1
      have HD1 := Lib.hid hD1
      have HR1 := Lib.hid (HXW.out.ref.frS hD1 HAP.out)
      clear hT1 hC1 hD1 o0
      go_wp2_with fail
      go_region_held3 (fun u => u.cell? ⟨pb, 1, none⟩ = some (.pointer (some ⟨rb, 0, none⟩)) ∧ u.cell? ⟨OB, 1, none⟩ = some (.int .i64 o.s.1) ∧ u.cell? ⟨OB, 2, none⟩ = some (.int .i64 o.s.2))
        (((try dsimp only); (repeat (first | with_reducible assumption | with_reducible refine And.intro ?_ ?_ | with_reducible refine ce_drew ?_ | with_reducible refine ce_old ?_ | (with_reducible refine ceS hC2 (HHB.out _ (by simp)).2 ?_)))))
        ((go_at_call 74; refine (drop7D rb vA vX R o.s _ (HR1.out.fr ((Fr.refl [] w1).drew)) HXW.out.asc.srt HLW.out).mono ?_; rw [HE2.out]; rintro e w2 ⟨rfl, vA2, vX2, hR2, hC2, hB2⟩))
      have hD2 : Fr (rBl rb vA vX) w1 w2 := ((Fr.refl _ w1).drew).transS hC2
      have HR2 := Lib.hid hR2
      have HB2 := Lib.hid hB2
      have HD2 := Lib.hid hD2
      have HT2 := Lib.hid (HT1.out.fr hD2 (fun hm => HAP.out _ hm (by simp)) (fun hm => HAP.out _ hm (by simp)))
      clear hR2 hC2 hB2 hD2 c0 c1 o1 o2 o3
      go_wp2_with fail
      go_meet
      exact ⟨vA2, vX2, _, _, ⟨HT2.out, HR2.out, HXW.out.asc.delD HXW.out.tab.nodup o.s, delS_len o.s HXW.out.le⟩, two HD1.out HD2.out HB2.out⟩
    by_cases k4 : o.k = 4
    · have o4 : W.cell? ⟨OB, 4, none⟩ = some (.int .i64 o.a.t) := cell_of HOBE.out 4
      have o5 : W.cell? ⟨OB, 5, none⟩ = some (.int .i64 o.a.l) := cell_of HOBE.out 5
      have o6 : W.cell? ⟨OB, 6, none⟩ = some (.int .i64 o.a.b) := cell_of HOBE.out 6
      have o7 : W.cell? ⟨OB, 7, none⟩ = some (.int .i64 o.a.r) := cell_of HOBE.out 7
      have o8 : W.cell? ⟨OB, 8, none⟩ = some (.bool o.on) := cell_of HOBE.out 8
      go_wp2_with (go_at_call 23; refine (callsIn_wide.1 (goes7 pb tb mb rb vA vX l R ⟨4, o.s, o.x, o.a, o.on⟩ _ HPW.out HPS.out HXW.out)).mono ?_; rintro e w1 ⟨rfl, vA1, vX1, l1, R1, hX1, hF1, hB1⟩)
      go_meet
      exact ⟨vA1, vX1, l1, R1, hX1, hF1, hB1⟩
    by_cases k5 : o.k = 5
    · have o4 : W.cell? ⟨OB, 4, none⟩ = some (.int .i64 o.a.t) := cell_of HOBE.out 4
      have o5 : W.cell? ⟨OB, 5, none⟩ = some (.int .i64 o.a.l) := cell_of HOBE.out 5
      have o6 : W.cell? ⟨OB, 6, none⟩ = some (.int .i64 o.a.b) := cell_of HOBE.out 6
      have o7 : W.cell? ⟨OB, 7, none⟩ = some (.int .i64 o.a.r) := cell_of HOBE.out 7
      have o8 : W.cell? ⟨OB, 8, none⟩ = some (.bool o.on) := cell_of HOBE.out 8
      go_wp2_with (go_at_call 23; refine (callsIn_wide.1 (goes7 pb tb mb rb vA vX l R ⟨5, o.s, o.x, o.a, o.on⟩ _ HPW.out HPS.out HXW.out)).mono ?_; rintro e w1 ⟨rfl, vA1, vX1, l1, R1, hX1, hF1, hB1⟩)
      go_meet
      exact ⟨vA1, vX1, l1, R1, hX1, hF1, hB1⟩
    go_wp2_with fail
    go_meet
    exact ⟨vA, vX, l, R, HXW.out, Fr.refl _ W, fun g hg => .inl hg⟩
  case rest =>
    obtain ⟨vA', vX', l', R', hXE, hFE, hBE⟩ := hcut
    obtain ⟨qe, ce, eq0⟩ := (RIs.of_owns hXE.ref.at').form
    subst eq0
    have z0 : wc.cell? ⟨rb, 0, none⟩ = some (.slice qe R'.length ce) := cell_of hXE.ref.tab 0
    have c0 : wc.cell? ⟨pb, 0, none⟩ = some (.pointer (some ⟨tb, 0, none⟩)) := ceS hFE HPS.out c0
    have c1 : wc.cell? ⟨pb, 1, none⟩ = some (.pointer (some ⟨rb, 0, none⟩)) := ceS hFE HPS.out c1
    have HLEN := Lib.hid hXE.asc.len
    have HXE := Lib.hid hXE
    have HFE := Lib.hid hFE
    have HBE := Lib.hid hBE
    clear hXE hFE hBE o0 o1 o2 o3
    go_wp2_with fail
    go_region_held3 (fun u => u.cell? ⟨pb, 0, none⟩ = some (.pointer (some ⟨tb, 0, none⟩)) ∧ u.cell? ⟨pb, 1, none⟩ = some (.pointer (some ⟨rb, 0, none⟩)) ∧ u.cell? ⟨rb, 0, none⟩ = some (.slice qe R'.length ce))
      (((try dsimp only); (repeat (first | with_reducible assumption | with_reducible refine And.intro ?_ ?_ | with_reducible refine ce_drew ?_ | with_reducible refine ce_old ?_ | (with_reducible refine ceS hCe (by simp) ?_)))))
      ((go_at_call 31; refine (len_int tb mb l' _ (HXE.out.tab.fr ((Fr.refl [] wc).drew) (by simp) (by simp))).mono ?_; rw [← HLEN.out]; rintro e we ⟨rfl, hCe⟩))
    have hDe : Fr [] wc we := ((Fr.refl [] wc).drew).trans0 hCe
    go_wp2_with fail
    have hFF := ((H0.out.mono (fun _ h => nomatch h)).transS HFE.out).trans0 hDe
    go_ret
    refine ⟨rfl, _, _, _, _, HXE.out.fr0 hDe, hFF, fun g hg => ?_⟩
    rcases HBE.out g hg with h | h
    · exact .inl h
    · exact .inr (Nat.le_trans HZ.out h)

abbrev opC (o : Op7) : List Value := [.int .i64 o.k, .int .i64 o.s.1, .int .i64 o.s.2, .int .i64 o.x, .int .i64 o.a.t, .int .i64 o.a.l, .int .i64 o.a.b, .int .i64 o.a.r, .bool o.on]
abbrev OpsAt (w : World) (v : Value) (ops : List Op7) : Prop := SlAt w v 9 ops.length (ops.flatMap opC)

theorem TX.lt {w : World} {tb mb rb : Nat} {vA vX : Value} {l R : List (Sp × Int)} (h : TX w tb mb rb vA vX l R) : ∀ g ∈ tb :: mb :: rBl rb vA vX, g < w.heap.size := by
  intro g hg
  simp only [List.mem_cons] at hg
  rcases hg with rfl | rfl | hg
  · exact lt_of h.tab.tab
  · exact h.tab.map.lt
  · exact h.ref.lt g hg
/-- Two pairs, apart. -/
structure Two (N : Nat) (w : World) (pa ta ma ra pb tb mb rb : Nat) : Prop where
  ex : ∃ vA vX l R vB vY l2 R2, TX w ta ma ra vA vX l R ∧ TX w tb mb rb vB vY l2 R2 ∧
    (∀ g ∈ ta :: ma :: rBl ra vA vX, g ∉ tb :: mb :: rBl rb vB vY ∧ N ≤ g ∧ g ≠ pa ∧ g ≠ pb) ∧ (∀ g ∈ tb :: mb :: rBl rb vB vY, N ≤ g ∧ g ≠ pa ∧ g ≠ pb)
  pA : w.heap[pa]? = some (.cells #[.pointer (some ⟨ta, 0, none⟩), .pointer (some ⟨ra, 0, none⟩)] 52 (0, 0))
  pB : w.heap[pb]? = some (.cells #[.pointer (some ⟨tb, 0, none⟩), .pointer (some ⟨rb, 0, none⟩)] 52 (0, 0))
theorem Two.symm {N : Nat} {w : World} {pa ta ma ra pb tb mb rb : Nat} (h : Two N w pa ta ma ra pb tb mb rb) : Two N w pb tb mb rb pa ta ma ra := by
  obtain ⟨⟨vA, vX, l, R, vB, vY, l2, R2, hA, hB, h1, h2⟩, pA, pB⟩ := h
  exact ⟨⟨vB, vY, l2, R2, vA, vX, l, R, hB, hA, fun g hg => ⟨fun hm => (h1 g hm).1 hg, (h2 g hg).1, (h2 g hg).2.2, (h2 g hg).2.1⟩, fun g hg => ⟨(h1 g hg).2.1, (h1 g hg).2.2.2, (h1 g hg).2.2.1⟩⟩, pB, pA⟩
theorem Two.fr0 {N : Nat} {w w1 : World} {pa ta ma ra pb tb mb rb : Nat} (h : Two N w pa ta ma ra pb tb mb rb) (hf : Fr [] w w1) : Two N w1 pa ta ma ra pb tb mb rb := by
  obtain ⟨⟨vA, vX, l, R, vB, vY, l2, R2, hA, hB, h1, h2⟩, pA, pB⟩ := h
  exact ⟨⟨vA, vX, l, R, vB, vY, l2, R2, hA.fr0 hf, hB.fr0 hf, h1, h2⟩, hf.heap pA (by simp), hf.heap pB (by simp)⟩
/-- The first pair turned. -/
theorem Two.turn {N : Nat} {w w1 : World} {pa ta ma ra pb tb mb rb : Nat} {vA vX vB vY : Value} {l2 R2 : List (Sp × Int)} (hB : TX w tb mb rb vB vY l2 R2)
    (h1 : ∀ g ∈ ta :: ma :: rBl ra vA vX, g ∉ tb :: mb :: rBl rb vB vY ∧ N ≤ g ∧ g ≠ pa ∧ g ≠ pb) (h2 : ∀ g ∈ tb :: mb :: rBl rb vB vY, N ≤ g ∧ g ≠ pa ∧ g ≠ pb)
    (pA : w.heap[pa]? = some (.cells #[.pointer (some ⟨ta, 0, none⟩), .pointer (some ⟨ra, 0, none⟩)] 52 (0, 0)))
    (pB : w.heap[pb]? = some (.cells #[.pointer (some ⟨tb, 0, none⟩), .pointer (some ⟨rb, 0, none⟩)] 52 (0, 0)))
    (hN : N ≤ w.heap.size) (hx : ∃ vA' vX' l' R', TX w1 ta ma ra vA' vX' l' R' ∧ Fr (ta :: ma :: rBl ra vA vX) w w1 ∧ ∀ g ∈ rBl ra vA' vX', g ∈ rBl ra vA vX ∨ w.heap.size ≤ g) :
    Two N w1 pa ta ma ra pb tb mb rb ∧ ∃ S, Fr S w w1 ∧ ∀ g ∈ S, N ≤ g := by
  obtain ⟨vA', vX', l', R', hA', hf, hb⟩ := hx
  have la := lt_of pA
  have lb := lt_of pB
  have hlt := hB.lt
  refine ⟨⟨⟨vA', vX', l', R', vB, vY, l2, R2, hA', hB.frS hf (fun g hg hm => (h1 g hm).1 hg), fun g hg => ?_, h2⟩, hf.heap pA (fun hm => (h1 pa hm).2.2.1 rfl), hf.heap pB (fun hm => (h1 pb hm).2.2.2 rfl)⟩, _, hf, fun g hg => (h1 g hg).2.1⟩
  have hold : g ∈ ta :: ma :: rBl ra vA vX ∨ w.heap.size ≤ g := by
    simp only [List.mem_cons] at hg ⊢
    rcases hg with h | h | h
    · exact .inl (.inl h)
    · exact .inl (.inr (.inl h))
    · rcases hb g h with h | h
      · exact .inl (.inr (.inr h))
      · exact .inr h
  rcases hold with h | h
  · exact h1 g h
  · exact ⟨fun hm => by have := hlt g hm; omega, by omega, by omega, by omega⟩
theorem Two.plays {N : Nat} {w : World} {pa ta ma ra pb tb mb rb : Nat} (h : Two N w pa ta ma ra pb tb mb rb) (hN : N ≤ w.heap.size) (o : Op7) :
    Calls Try.prog 22 #[.pointer (some ⟨pa, 0, none⟩), o.val] w fun e w1 => e = .returned (.bool true) ∧ Two N w1 pa ta ma ra pb tb mb rb ∧ ∃ S, Fr S w w1 ∧ ∀ g ∈ S, N ≤ g := by
  obtain ⟨⟨vA, vX, l, R, vB, vY, l2, R2, hA, hB, h1, h2⟩, pA, pB⟩ := h
  exact (plays7 pa ta ma ra vA vX l R o w pA (fun hm => (h1 pa hm).2.2.1 rfl) hA).mono fun e w1 ⟨he, hx⟩ => ⟨he, Two.turn hB h1 h2 pA pB hN hx⟩
theorem Two.goes {N : Nat} {w : World} {pa ta ma ra pb tb mb rb : Nat} (h : Two N w pa ta ma ra pb tb mb rb) (hN : N ≤ w.heap.size) (o : Op7) :
    Calls Try.prog 23 #[.pointer (some ⟨pa, 0, none⟩), o.val] w fun e w1 => e = .returned (.bool true) ∧ Two N w1 pa ta ma ra pb tb mb rb ∧ ∃ S, Fr S w w1 ∧ ∀ g ∈ S, N ≤ g := by
  obtain ⟨⟨vA, vX, l, R, vB, vY, l2, R2, hA, hB, h1, h2⟩, pA, pB⟩ := h
  exact (callsIn_wide.1 (goes7 pa ta ma ra vA vX l R o w pA (fun hm => (h1 pa hm).2.2.1 rfl) hA)).mono fun e w1 ⟨he, hx⟩ => ⟨he, Two.turn hB h1 h2 pA pB hN hx⟩
theorem RIn.empty {w : World} {rb : Nat} (h : w.heap[rb]? = some (.cells #[.slice none 0 0, .slice none 0 0] 50 (0, 0))) : RIn w rb (.slice none 0 0) (.slice none 0 0) [] [] :=
  ⟨h, ⟨rfl, .inl ⟨rfl, rfl⟩⟩, ⟨rfl, .inl ⟨rfl, rfl⟩⟩⟩
theorem TX.empty {w : World} {tb mb rb : Nat} (ht : TabIs 148 (fun x : Int => .int .i64 x) w tb mb []) (h : w.heap[rb]? = some (.cells #[.slice none 0 0, .slice none 0 0] 50 (0, 0))) :
    TX w tb mb rb (.slice none 0 0) (.slice none 0 0) [] [] := ⟨ht, RIn.empty h, Asc.nil, by simp⟩

set_option maxRecDepth 100000 in
set_option maxHeartbeats 6400000 in
theorem gridAll_walk (v0 : Value) (ops : List Op7) (w : World) (hsp : OpsAt w v0 ops) : Calls Try.prog 5 #[v0] w fun e w1 => e = .returned (.bool true) ∧ Fr [] w w1 := by
  have HSP := Lib.hid hsp
  obtain ⟨da, dc, rfl, hdc1, hdc2⟩ := hsp.form
  clear hsp
  go_enter Try.func5, Try.ntmps5
  go_wp2_with fail
  refine (begun7 _).mono ?_
  rintro e w1 ⟨rfl, h1⟩
  go_wp2_with fail
  refine (new_int _).mono ?_
  rintro e w2 ⟨ta, ma, rfl, hta, hma, hTA, h2⟩
  go_wp2_with fail
  have h3 : Fr [] w2 ((w2.alloc (.cells #[.slice none 0 0, .slice none 0 0] 50)).alloc (.cells #[.pointer (some ⟨ta, 0, none⟩), .pointer (some ⟨w2.heap.size, 0, none⟩)] 52)) := ((Fr.refl [] w2).alloc _).alloc _
  have hRA : ((w2.alloc (.cells #[.slice none 0 0, .slice none 0 0] 50)).alloc (.cells #[.pointer (some ⟨ta, 0, none⟩), .pointer (some ⟨w2.heap.size, 0, none⟩)] 52)).heap[w2.heap.size]? = some (.cells #[.slice none 0 0, .slice none 0 0] 50 (0, 0)) := hp_old (heap_new w2 _)
  have hPA : ((w2.alloc (.cells #[.slice none 0 0, .slice none 0 0] 50)).alloc (.cells #[.pointer (some ⟨ta, 0, none⟩), .pointer (some ⟨w2.heap.size, 0, none⟩)] 52)).heap[w2.heap.size + 1]? = some (.cells #[.pointer (some ⟨ta, 0, none⟩), .pointer (some ⟨w2.heap.size, 0, none⟩)] 52 (0, 0)) := hp_new (by simp)
  generalize (w2.alloc (.cells #[.slice none 0 0, .slice none 0 0] 50)).alloc (.cells #[.pointer (some ⟨ta, 0, none⟩), .pointer (some ⟨w2.heap.size, 0, none⟩)] 52) = W3 at *
  have hXA := TX.empty (hTA.fr h3 (by simp) (by simp)) hRA
  have lta := lt_of hTA.tab
  have lma := hTA.map.lt
  have f12 := h1.trans0 h2
  have z12 := f12.size
  obtain ⟨ra, hra⟩ : ∃ ra, w2.heap.size = ra := ⟨_, rfl⟩
  rw [hra] at hRA hPA hXA lta lma z12 ⊢
  have gta : w.heap.size ≤ ta := Nat.le_trans h1.size hta
  have gma : w.heap.size ≤ ma := Nat.le_trans h1.size hma
  clear hTA h1 h2 hta hma
  have HXA := Lib.hid hXA
  have F3 := Lib.hid (f12.trans0 h3)
  clear hXA f12 h3 hRA
  refine (new_int _).mono ?_
  rintro e w4 ⟨tb, mb, rfl, htb, hmb, hTB, h4⟩
  go_wp2_with fail
  have h5 : Fr [] w4 ((w4.alloc (.cells #[.slice none 0 0, .slice none 0 0] 50)).alloc (.cells #[.pointer (some ⟨tb, 0, none⟩), .pointer (some ⟨w4.heap.size, 0, none⟩)] 52)) := ((Fr.refl [] w4).alloc _).alloc _
  have hRB : ((w4.alloc (.cells #[.slice none 0 0, .slice none 0 0] 50)).alloc (.cells #[.pointer (some ⟨tb, 0, none⟩), .pointer (some ⟨w4.heap.size, 0, none⟩)] 52)).heap[w4.heap.size]? = some (.cells #[.slice none 0 0, .slice none 0 0] 50 (0, 0)) := hp_old (heap_new w4 _)
  have hPB : ((w4.alloc (.cells #[.slice none 0 0, .slice none 0 0] 50)).alloc (.cells #[.pointer (some ⟨tb, 0, none⟩), .pointer (some ⟨w4.heap.size, 0, none⟩)] 52)).heap[w4.heap.size + 1]? = some (.cells #[.pointer (some ⟨tb, 0, none⟩), .pointer (some ⟨w4.heap.size, 0, none⟩)] 52 (0, 0)) := hp_new (by simp)
  generalize (w4.alloc (.cells #[.slice none 0 0, .slice none 0 0] 50)).alloc (.cells #[.pointer (some ⟨tb, 0, none⟩), .pointer (some ⟨w4.heap.size, 0, none⟩)] 52) = W5 at *
  have hXB := TX.empty (hTB.fr h5 (by simp) (by simp)) hRB
  have ltb := lt_of hTB.tab
  have lmb := hTB.map.lt
  obtain ⟨rb, hrb⟩ : ∃ rb, w4.heap.size = rb := ⟨_, rfl⟩
  have z34 := h4.size
  have lpa := lt_of hPA
  rw [hrb] at hRB hPB hXB ltb lmb z34 ⊢
  have hTwo : Two w.heap.size W5 (ra + 1) ta ma ra (rb + 1) tb mb rb := by
    refine ⟨⟨_, _, _, _, _, _, _, _, (HXA.out.fr0 h4).fr0 h5, hXB, ?_, ?_⟩, h5.heap (h4.heap hPA (by simp)) (by simp), hPB⟩
    · intro g hg
      simp only [rBl, List.mem_cons, List.mem_append, Option.mem_toList, Value.ownBlock, reduceCtorEq, or_false, not_or] at hg ⊢
      omega
    · intro g hg
      simp only [rBl, List.mem_cons, List.mem_append, Option.mem_toList, Value.ownBlock, reduceCtorEq, or_false] at hg
      omega
  have HTwo := Lib.hid hTwo
  have F5 := Lib.hid ((F3.out.trans0 h4).trans0 h5)
  clear hTwo hXB hPB hRB hTB h4 h5 hPA HXA htb hmb ltb lmb lta lma gta gma z12 z34 lpa hra hrb F3
  go_wp2_with fail
  go_loopw [5] (fun i wr => ∃ (k : Nat), i = .int .i64 (k : Int) ∧ k ≤ ops.length ∧ Two w.heap.size wr (ra + 1) ta ma ra (rb + 1) tb mb rb ∧ Fr [] w wr) (fun i _ => ops.length - (intOf i).toNat)
  case atStart => exact ⟨0, rfl, by omega, HTwo.out, F5.out⟩
  case round =>
    obtain ⟨k, rfl, hk, hT, hfr⟩ := hrel
    have HT := Lib.hid hT
    have HFR := Lib.hid hfr
    clear hT hfr
    by_cases hlt : (k : Int) < (ops.length : Int)
    · obtain ⟨b, off, c, ec, hb, hc⟩ := HSP.out.cell (by omega)
      cases ec
      have hka : k < ops.length := by omega
      obtain ⟨o, hoe⟩ : ∃ o, ops[k] = o := ⟨_, rfl⟩
      have c0 : wr.cell? ⟨b, off + k * 9, none⟩ = some (.int .i64 o.k) := (HFR.out.cell (p := ⟨b, off + k * 9, none⟩) hb (by simp)).trans (hc (k * 9 + 0) _ (by rw [flat_get opC 9 (fun _ => rfl) ops k 0 hka (by omega), hoe]; rfl))
      have c1 : wr.cell? ⟨b, off + k * 9 + 1, none⟩ = some (.int .i64 o.s.1) := (HFR.out.cell (p := ⟨b, off + k * 9 + 1, none⟩) hb (by simp)).trans (hc (k * 9 + 1) _ (by rw [flat_get opC 9 (fun _ => rfl) ops k 1 hka (by omega), hoe]; rfl))
      have c2 : wr.cell? ⟨b, off + k * 9 + 2, none⟩ = some (.int .i64 o.s.2) := (HFR.out.cell (p := ⟨b, off + k * 9 + 2, none⟩) hb (by simp)).trans (hc (k * 9 + 2) _ (by rw [flat_get opC 9 (fun _ => rfl) ops k 2 hka (by omega), hoe]; rfl))
      have c3 : wr.cell? ⟨b, off + k * 9 + 3, none⟩ = some (.int .i64 o.x) := (HFR.out.cell (p := ⟨b, off + k * 9 + 3, none⟩) hb (by simp)).trans (hc (k * 9 + 3) _ (by rw [flat_get opC 9 (fun _ => rfl) ops k 3 hka (by omega), hoe]; rfl))
      have c4 : wr.cell? ⟨b, off + k * 9 + 4, none⟩ = some (.int .i64 o.a.t) := (HFR.out.cell (p := ⟨b, off + k * 9 + 4, none⟩) hb (by simp)).trans (hc (k * 9 + 4) _ (by rw [flat_get opC 9 (fun _ => rfl) ops k 4 hka (by omega), hoe]; rfl))
      have c5 : wr.cell? ⟨b, off + k * 9 + 5, none⟩ = some (.int .i64 o.a.l) := (HFR.out.cell (p := ⟨b, off + k * 9 + 5, none⟩) hb (by simp)).trans (hc (k * 9 + 5) _ (by rw [flat_get opC 9 (fun _ => rfl) ops k 5 hka (by omega), hoe]; rfl))
      have c6 : wr.cell? ⟨b, off + k * 9 + 6, none⟩ = some (.int .i64 o.a.b) := (HFR.out.cell (p := ⟨b, off + k * 9 + 6, none⟩) hb (by simp)).trans (hc (k * 9 + 6) _ (by rw [flat_get opC 9 (fun _ => rfl) ops k 6 hka (by omega), hoe]; rfl))
      have c7 : wr.cell? ⟨b, off + k * 9 + 7, none⟩ = some (.int .i64 o.a.r) := (HFR.out.cell (p := ⟨b, off + k * 9 + 7, none⟩) hb (by simp)).trans (hc (k * 9 + 7) _ (by rw [flat_get opC 9 (fun _ => rfl) ops k 7 hka (by omega), hoe]; rfl))
      have c8 : wr.cell? ⟨b, off + k * 9 + 8, none⟩ = some (.bool o.on) := (HFR.out.cell (p := ⟨b, off + k * 9 + 8, none⟩) hb (by simp)).trans (hc (k * 9 + 8) _ (by rw [flat_get opC 9 (fun _ => rfl) ops k 8 hka (by omega), hoe]; rfl))
      have hbr : b < wr.heap.size := Nat.lt_of_lt_of_le hb HFR.out.size
      have hw1 : IntKind.i64.wrap ((k : Int) + 1) = (k : Int) + 1 := by rw [IntKind.wrap_i64]; omega
      have hk0 : (0 : Int) ≤ (k : Int) := by omega
      clear hc hoe
      cases hon : o.on
      · rw [hon] at c8
        go_wp2_with (go_at_call 22; refine (HT.out.plays HFR.out.size ⟨o.k, o.s, o.x, o.a, false⟩).mono ?_; rintro e wz ⟨rfl, hT, S, hF, hS⟩)
        go_roundw
        case rel => exact ⟨k + 1, by go_num, by omega, hT, HFR.out.trans hF (fun g hg => .inr (hS g hg))⟩
        case measure => simp [intOf]; omega
      · rw [hon] at c8
        go_wp2_with (go_at_call 22; refine (HT.out.symm.plays HFR.out.size ⟨o.k, o.s, o.x, o.a, true⟩).mono ?_; rintro e wz ⟨rfl, hT, S, hF, hS⟩)
        go_roundw
        case rel => exact ⟨k + 1, by go_num, by omega, hT.symm, HFR.out.trans hF (fun g hg => .inr (hS g hg))⟩
        case measure => simp [intOf]; omega
    · go_wp2_with fail
      refine (HT.out.goes HFR.out.size ⟨4, (0, 0), -9, ⟨0, 0, 0, 0⟩, false⟩).mono ?_
      rintro e wy ⟨rfl, hT1, S1, hF1, hS1⟩
      have HT1 := Lib.hid hT1
      have HF1 := Lib.hid (HFR.out.trans hF1 (fun g hg => .inr (hS1 g hg)))
      clear hT1 hF1 hS1
      go_wp2_with fail
      refine (HT1.out.symm.goes HF1.out.size ⟨4, (0, 0), -9, ⟨0, 0, 0, 0⟩, false⟩).mono ?_
      rintro e wz ⟨rfl, hT2, S2, hF2, hS2⟩
      have HF2 := Lib.hid (HF1.out.trans hF2 (fun g hg => .inr (hS2 g hg)))
      clear hT2 hF2 hS2
      go_wp2_with fail
      go_ret
      exact ⟨rfl, HF2.out⟩
end Go.Proofs.Ytldppdafgbipjaa
