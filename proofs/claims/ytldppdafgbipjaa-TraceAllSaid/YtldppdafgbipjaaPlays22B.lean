/-
  quadrillelaw22's (*pair).plays: Dep, Same, Drop.
-/
import Derived.Test.YtldppdafgbipjaaKeep22M
import Derived.Deep.RegionHeld3
import Derived.Test.YtldppdafgbipjaaStoreAll
namespace Go.Proofs.Ytldppdafgbipjaa
open Go.RowKit

set_option maxRecDepth 100000 in
set_option maxHeartbeats 6400000 in
theorem plays3 (PB p tb mb rp T : Nat) (dd : Int) (m n : List (Sp × Tr)) (on : Int) (s : Sp) (v : V) (da va : Option Addr) (dn dc vn vc : Nat) (i : Int) (w : World) (hP : w.heap[PB]? = some (.cells #[.pointer (some ⟨p, 0, none⟩), .pointer (some ⟨rp, 0, none⟩)] tPr (0, 0)))
    (hS : StIs w p tb mb dd m) (hR : RefIs w rp T dd n) (hs : getS s m = getS s n) (hi0 : -9223372036854775808 ≤ i) (hi1 : i ≤ 9223372036854775807) :
    Calls Try.prog 54 #[.pointer (some ⟨PB, 0, none⟩), .agg #[.int .i64 3, .int .i64 on, .int .i64 s.1, .int .i64 s.2, .int .i64 v.k, .int .i64 v.n, .string v.s, .slice da dn dc, .slice va vn vc, .int .i64 i]] w fun e w1 => e = .returned (.bool true) ∧ Fr [] w w1 := by
  have HS := Lib.hid hS
  have HR := Lib.hid hR
  have HE := Lib.hid hs
  have HP := Lib.hid hP
  obtain ⟨x, hx⟩ : ∃ x, (entO (getS s m) i).1.at_ = x := ⟨_, rfl⟩
  obtain ⟨er, her⟩ : ∃ er, (entO (getS s m) i).2 = er := ⟨_, rfl⟩
  have HXX := Lib.hid hx
  have HER := Lib.hid her
  clear hS hR hs hP hx her
  go_enter Try.func54, Try.ntmps54
  go_wp2_with fail
  have h0 : Fr [] w (w.alloc (.cells #[.int .i64 3, .int .i64 on, .int .i64 s.1, .int .i64 s.2, .int .i64 v.k, .int .i64 v.n, .string v.s, .slice da dn dc, .slice va vn vc, .int .i64 i] tOp)) := (Fr.refl [] w).alloc _
  have hOB := heap_new w (.cells #[.int .i64 3, .int .i64 on, .int .i64 s.1, .int .i64 s.2, .int .i64 v.k, .int .i64 v.n, .string v.s, .slice da dn dc, .slice va vn vc, .int .i64 i] tOp)
  have hPB := h0.heap HP.out (by simp)
  generalize w.alloc (.cells #[.int .i64 3, .int .i64 on, .int .i64 s.1, .int .i64 s.2, .int .i64 v.k, .int .i64 v.n, .string v.s, .slice da dn dc, .slice va vn vc, .int .i64 i] tOp) = W at *
  generalize w.heap.size = OB at *
  have p0 : W.cell? ⟨PB, 0, none⟩ = some (.pointer (some ⟨p, 0, none⟩)) := cell_of hPB 0
  have p1 : W.cell? ⟨PB, 1, none⟩ = some (.pointer (some ⟨rp, 0, none⟩)) := cell_of hPB 1
  have o2 : W.cell? ⟨OB, 2, none⟩ = some (.int .i64 s.1) := cell_of hOB 2
  have o3 : W.cell? ⟨OB, 3, none⟩ = some (.int .i64 s.2) := cell_of hOB 3
  have o9 : W.cell? ⟨OB, 9, none⟩ = some (.int .i64 i) := cell_of hOB 9
  have HF := Lib.hid h0
  have hPl := lt_of hPB
  have hOl := lt_of hOB
  have hnP : W.heap.size ≠ PB := by omega
  have hnO : W.heap.size ≠ OB := by omega
  clear hOB hPB h0 hPl hOl
  go_upto_region 11 with fail
  go_cut [11, 12] (fun s6 s7 wx => s7 = .int .i64 er ∧ ∃ D, s6 = .pointer (some ⟨D, 0, none⟩) ∧ wx.heap[D]? = some (.cells #[.int .i64 x.1, .int .i64 x.2] tSp (0, 0)) ∧ Fr [] W wx)
  case first =>
    go_region_held3 (fun u => u.cell? ⟨PB, 0, none⟩ = some (.pointer (some ⟨p, 0, none⟩)) ∧ u.cell? ⟨OB, 2, none⟩ = some (.int .i64 s.1) ∧ u.cell? ⟨OB, 3, none⟩ = some (.int .i64 s.2) ∧ u.cell? ⟨OB, 9, none⟩ = some (.int .i64 i))
      (first | with_reducible exact ⟨p0, o2, o3, o9⟩ | with_reducible exact ⟨ce_drew p0, ce_drew o2, ce_drew o3, ce_drew o9⟩ | with_reducible exact ⟨ce_old p0, ce_old o2, ce_old o3, ce_old o9⟩ | with_reducible exact ⟨ce_drew (ce_old p0), ce_drew (ce_old o2), ce_drew (ce_old o3), ce_drew (ce_old o9)⟩ | with_reducible exact hS3 | with_reducible exact ⟨ce_old hS3.1, ce_old hS3.2.1, ce_old hS3.2.2.1, ce_old hS3.2.2.2⟩ | with_reducible exact ⟨ce_set (ce_set hS3.1 hnP) hnP, ce_set (ce_set hS3.2.1 hnO) hnO, ce_set (ce_set hS3.2.2.1 hnO) hnO, ce_set (ce_set hS3.2.2.2 hnO) hnO⟩)
      ((go_at_call 19; refine (traceDep p tb mb dd s i m _ (by first | exact HS.out.fr0 (HF.out.drew) | exact HS.out.fr0 ((HF.out.alloc _).drew)) hi0 hi1).mono ?_; rw [HXX.out, HER.out]; rintro e w3 ⟨rfl, h3⟩; (try (have hbn := h3.heap (show ((W.alloc (.cells #[.int .i64 0, .int .i64 0] tSp)).drew).heap[W.heap.size]? = _ from heap_new W _) (by simp); have hbnc := cell_of hbn; have hbnf := free_of hbn; have hbnl := lt_of hbn)); have h4 : Fr [] W w3 := (by first | exact ((Fr.refl [] W).drew).transS h3 | exact (((Fr.refl [] W).alloc _).drew).transS h3); have hS3 : w3.cell? ⟨PB, 0, none⟩ = some (.pointer (some ⟨p, 0, none⟩)) ∧ w3.cell? ⟨OB, 2, none⟩ = some (.int .i64 s.1) ∧ w3.cell? ⟨OB, 3, none⟩ = some (.int .i64 s.2) ∧ w3.cell? ⟨OB, 9, none⟩ = some (.int .i64 i) := ⟨ce_call h4 p0, ce_call h4 o2, ce_call h4 o3, ce_call h4 o9⟩))
    all_goals
      go_wp2_with fail
      go_meet
      first
        | exact ⟨rfl, _, rfl, heap_new _ _, h4.alloc _⟩
        | exact ⟨rfl, _, rfl, set_of (set_of hbn 0 _) 1 _, (h4.setCell (.inr (Nat.le_refl _)) _).setCell (.inr (Nat.le_refl _)) _⟩
  case rest =>
    obtain ⟨rfl, D, rfl, hD, hWx⟩ := hcut
    have p1 := ce_call hWx p1
    have o2 := ce_call hWx o2
    have o3 := ce_call hWx o3
    have o9 := ce_call hWx o9
    have HF := Lib.hid (HF.out.trans0 hWx)
    have hPl : PB < wc.heap.size := World.block_lt_of_cell? wc _ p1
    have hOl : OB < wc.heap.size := World.block_lt_of_cell? wc _ o2
    have hnP : wc.heap.size ≠ PB := by omega
    have hnO : wc.heap.size ≠ OB := by omega
    clear hWx hPl hOl p0
    have HD := Lib.hid hD
    clear hD
    generalize wc = W at *
    go_upto_region 12 with fail
    go_cut [13, 14] (fun s6 s7 wx => s7 = .int .i64 er ∧ ∃ E, s6 = .pointer (some ⟨E, 0, none⟩) ∧ wx.heap[E]? = some (.cells #[.int .i64 x.1, .int .i64 x.2] tSp (0, 0)) ∧ Fr [] W wx)
    case first =>
      go_region_held3 (fun u => u.cell? ⟨PB, 1, none⟩ = some (.pointer (some ⟨rp, 0, none⟩)) ∧ u.cell? ⟨OB, 2, none⟩ = some (.int .i64 s.1) ∧ u.cell? ⟨OB, 3, none⟩ = some (.int .i64 s.2) ∧ u.cell? ⟨OB, 9, none⟩ = some (.int .i64 i))
        (first | with_reducible exact ⟨p1, o2, o3, o9⟩ | with_reducible exact ⟨ce_drew p1, ce_drew o2, ce_drew o3, ce_drew o9⟩ | with_reducible exact ⟨ce_old p1, ce_old o2, ce_old o3, ce_old o9⟩ | with_reducible exact ⟨ce_drew (ce_old p1), ce_drew (ce_old o2), ce_drew (ce_old o3), ce_drew (ce_old o9)⟩ | with_reducible exact hS3 | with_reducible exact ⟨ce_old hS3.1, ce_old hS3.2.1, ce_old hS3.2.2.1, ce_old hS3.2.2.2⟩ | with_reducible exact ⟨ce_set (ce_set hS3.1 hnP) hnP, ce_set (ce_set hS3.2.1 hnO) hnO, ce_set (ce_set hS3.2.2.1 hnO) hnO, ce_set (ce_set hS3.2.2.2 hnO) hnO⟩)
        ((go_at_call 94; refine (refDep rp T dd s i n _ (by first | exact HR.out.fr0 (HF.out.drew) | exact HR.out.fr0 ((HF.out.alloc _).drew))).mono ?_; rw [← HE.out, HXX.out, HER.out]; rintro e w3 ⟨rfl, h3⟩; (try (have hbn := h3.heap (show ((W.alloc (.cells #[.int .i64 0, .int .i64 0] tSp)).drew).heap[W.heap.size]? = _ from heap_new W _) (by simp); have hbnc := cell_of hbn; have hbnf := free_of hbn; have hbnl := lt_of hbn)); have h4 : Fr [] W w3 := (by first | exact ((Fr.refl [] W).drew).transS h3 | exact (((Fr.refl [] W).alloc _).drew).transS h3); have hS3 : w3.cell? ⟨PB, 1, none⟩ = some (.pointer (some ⟨rp, 0, none⟩)) ∧ w3.cell? ⟨OB, 2, none⟩ = some (.int .i64 s.1) ∧ w3.cell? ⟨OB, 3, none⟩ = some (.int .i64 s.2) ∧ w3.cell? ⟨OB, 9, none⟩ = some (.int .i64 i) := ⟨ce_call h4 p1, ce_call h4 o2, ce_call h4 o3, ce_call h4 o9⟩))
      all_goals
        go_wp2_with fail
        go_meet
        first
          | exact ⟨rfl, _, rfl, heap_new _ _, h4.alloc _⟩
          | exact ⟨rfl, _, rfl, set_of (set_of hbn 0 _) 1 _, (h4.setCell (.inr (Nat.le_refl _)) _).setCell (.inr (Nat.le_refl _)) _⟩
    case rest =>
      obtain ⟨rfl, E, rfl, hE, hWx⟩ := hcut
      have hD := hWx.heap HD.out (by simp)
      have d0 := cell_of hD
      have e0 := cell_of hE
      have hF := HF.out.trans0 hWx
      clear hnP hnO hWx hD hE
      go_wp2
      go_ret
      exact ⟨rfl, hF⟩

set_option maxRecDepth 100000 in
set_option maxHeartbeats 6400000 in
theorem plays4 (PB p tb mb rp T : Nat) (dd : Int) (m n : List (Sp × Tr)) (on : Int) (s : Sp) (v : V) (da va : Option Addr) (dn dc vn vc : Nat) (i : Int) (w : World) (hP : w.heap[PB]? = some (.cells #[.pointer (some ⟨p, 0, none⟩), .pointer (some ⟨rp, 0, none⟩)] tPr (0, 0)))
    (hS : StIs w p tb mb dd m) (hR : RefIs w rp T dd n) (hs : getS s m = getS s n) (hi0 : -9223372036854775808 ≤ i) (hi1 : i ≤ 9223372036854775807) (hvs : v.s.size ≤ 9223372036854775807) (hg : Good dd m) :
    Calls Try.prog 54 #[.pointer (some ⟨PB, 0, none⟩), .agg #[.int .i64 4, .int .i64 on, .int .i64 s.1, .int .i64 s.2, .int .i64 v.k, .int .i64 v.n, .string v.s, .slice da dn dc, .slice va vn vc, .int .i64 i]] w fun e w1 => e = .returned (.bool true) ∧ Fr [] w w1 := by
  have HS := Lib.hid hS
  have HR := Lib.hid hR
  have HE := Lib.hid hs
  have HP := Lib.hid hP
  have HG : Hid (∀ e ∈ esO (getS s n), e.v.s.size ≤ 9223372036854775807 ∧ e.sum = sumV e.v dd) := by
    show ∀ e ∈ esO (getS s n), _
    rw [← hs]
    intro e he
    cases ht : getS s m with
    | none => rw [ht] at he; cases he
    | some t =>
      rw [ht] at he
      have := (hg.at_ s t ht).2.2 e he
      have h2 := mayV_size this.1
      exact ⟨by omega, this.2⟩
  obtain ⟨r1, hr1⟩ : ∃ x, (sameO dd (getS s m) i v).1 = x := ⟨_, rfl⟩
  obtain ⟨r2, hr2⟩ : ∃ x, (sameO dd (getS s m) i v).2.1 = x := ⟨_, rfl⟩
  obtain ⟨r3, hr3⟩ : ∃ x, (sameO dd (getS s m) i v).2.2 = x := ⟨_, rfl⟩
  have H1 := Lib.hid hr1
  have H2 := Lib.hid hr2
  have H3 := Lib.hid hr3
  clear hS hR hs hP hr1 hr2 hr3 hg
  go_enter Try.func54, Try.ntmps54
  go_wp2_with fail
  have h0 : Fr [] w (w.alloc (.cells #[.int .i64 4, .int .i64 on, .int .i64 s.1, .int .i64 s.2, .int .i64 v.k, .int .i64 v.n, .string v.s, .slice da dn dc, .slice va vn vc, .int .i64 i] tOp)) := (Fr.refl [] w).alloc _
  have hOB := heap_new w (.cells #[.int .i64 4, .int .i64 on, .int .i64 s.1, .int .i64 s.2, .int .i64 v.k, .int .i64 v.n, .string v.s, .slice da dn dc, .slice va vn vc, .int .i64 i] tOp)
  have hPB := h0.heap HP.out (by simp)
  generalize w.alloc (.cells #[.int .i64 4, .int .i64 on, .int .i64 s.1, .int .i64 s.2, .int .i64 v.k, .int .i64 v.n, .string v.s, .slice da dn dc, .slice va vn vc, .int .i64 i] tOp) = W at *
  generalize w.heap.size = OB at *
  have p0 : W.cell? ⟨PB, 0, none⟩ = some (.pointer (some ⟨p, 0, none⟩)) := cell_of hPB 0
  have p1 : W.cell? ⟨PB, 1, none⟩ = some (.pointer (some ⟨rp, 0, none⟩)) := cell_of hPB 1
  have o2 : W.cell? ⟨OB, 2, none⟩ = some (.int .i64 s.1) := cell_of hOB 2
  have o3 : W.cell? ⟨OB, 3, none⟩ = some (.int .i64 s.2) := cell_of hOB 3
  have o4 : W.cell? ⟨OB, 4, none⟩ = some (.int .i64 v.k) := cell_of hOB 4
  have o5 : W.cell? ⟨OB, 5, none⟩ = some (.int .i64 v.n) := cell_of hOB 5
  have o6 : W.cell? ⟨OB, 6, none⟩ = some (.string v.s) := cell_of hOB 6
  have o9 : W.cell? ⟨OB, 9, none⟩ = some (.int .i64 i) := cell_of hOB 9
  have HF := Lib.hid h0
  clear hOB hPB h0
  go_upto_region 15 with fail
  go_cut [15, 16, 17] (fun s5 s6 s7 wx => s5 = .bool r1 ∧ s6 = .bool r2 ∧ s7 = .int .i64 r3 ∧ Fr [] W wx)
  case first =>
    go_region_held3 (fun u => u.cell? ⟨PB, 0, none⟩ = some (.pointer (some ⟨p, 0, none⟩)) ∧ u.cell? ⟨OB, 2, none⟩ = some (.int .i64 s.1) ∧ u.cell? ⟨OB, 3, none⟩ = some (.int .i64 s.2) ∧ u.cell? ⟨OB, 4, none⟩ = some (.int .i64 v.k) ∧ u.cell? ⟨OB, 5, none⟩ = some (.int .i64 v.n) ∧ u.cell? ⟨OB, 6, none⟩ = some (.string v.s) ∧ u.cell? ⟨OB, 9, none⟩ = some (.int .i64 i))
      (first | with_reducible exact ⟨p0, o2, o3, o4, o5, o6, o9⟩ | with_reducible exact ⟨ce_drew p0, ce_drew o2, ce_drew o3, ce_drew o4, ce_drew o5, ce_drew o6, ce_drew o9⟩ | with_reducible exact hS3)
      ((go_at_call 17; refine (traceSame p tb mb dd s i v m _ (HS.out.fr0 (HF.out.drew)) hi0 hi1 hvs).mono ?_; rw [H1.out, H2.out, H3.out]; rintro e w3 ⟨rfl, h3⟩; have h4 : Fr [] W w3 := ((Fr.refl [] W).drew).transS h3; have hS3 : w3.cell? ⟨PB, 0, none⟩ = some (.pointer (some ⟨p, 0, none⟩)) ∧ w3.cell? ⟨OB, 2, none⟩ = some (.int .i64 s.1) ∧ w3.cell? ⟨OB, 3, none⟩ = some (.int .i64 s.2) ∧ w3.cell? ⟨OB, 4, none⟩ = some (.int .i64 v.k) ∧ w3.cell? ⟨OB, 5, none⟩ = some (.int .i64 v.n) ∧ w3.cell? ⟨OB, 6, none⟩ = some (.string v.s) ∧ w3.cell? ⟨OB, 9, none⟩ = some (.int .i64 i) := ⟨ce_call h4 p0, ce_call h4 o2, ce_call h4 o3, ce_call h4 o4, ce_call h4 o5, ce_call h4 o6, ce_call h4 o9⟩))
    all_goals
      go_wp2_with fail
      go_meet
      exact ⟨rfl, rfl, rfl, h4⟩
  case rest =>
    obtain ⟨rfl, rfl, rfl, hWx⟩ := hcut
    have p1 := ce_call hWx p1
    have o2 := ce_call hWx o2
    have o3 := ce_call hWx o3
    have o4 := ce_call hWx o4
    have o5 := ce_call hWx o5
    have o6 := ce_call hWx o6
    have o9 := ce_call hWx o9
    have HF := Lib.hid (HF.out.trans0 hWx)
    clear hWx p0
    generalize wc = W at *
    go_upto_region 16 with fail
    go_cut [18, 19, 20] (fun s5 s6 s7 wx => s5 = .bool r1 ∧ s6 = .bool r2 ∧ s7 = .int .i64 r3 ∧ Fr [] W wx)
    case first =>
      go_region_held3 (fun u => u.cell? ⟨PB, 1, none⟩ = some (.pointer (some ⟨rp, 0, none⟩)) ∧ u.cell? ⟨OB, 2, none⟩ = some (.int .i64 s.1) ∧ u.cell? ⟨OB, 3, none⟩ = some (.int .i64 s.2) ∧ u.cell? ⟨OB, 4, none⟩ = some (.int .i64 v.k) ∧ u.cell? ⟨OB, 5, none⟩ = some (.int .i64 v.n) ∧ u.cell? ⟨OB, 6, none⟩ = some (.string v.s) ∧ u.cell? ⟨OB, 9, none⟩ = some (.int .i64 i))
        (first | with_reducible exact ⟨p1, o2, o3, o4, o5, o6, o9⟩ | with_reducible exact ⟨ce_drew p1, ce_drew o2, ce_drew o3, ce_drew o4, ce_drew o5, ce_drew o6, ce_drew o9⟩ | with_reducible exact hS3)
        ((go_at_call 95; refine (refSameO rp T dd s i v n _ (HR.out.fr0 (HF.out.drew)) hvs HG.out).mono ?_; rw [← HE.out, H1.out, H2.out, H3.out]; rintro e w3 ⟨rfl, h3⟩; have h4 : Fr [] W w3 := ((Fr.refl [] W).drew).transS h3; have hS3 : w3.cell? ⟨PB, 1, none⟩ = some (.pointer (some ⟨rp, 0, none⟩)) ∧ w3.cell? ⟨OB, 2, none⟩ = some (.int .i64 s.1) ∧ w3.cell? ⟨OB, 3, none⟩ = some (.int .i64 s.2) ∧ w3.cell? ⟨OB, 4, none⟩ = some (.int .i64 v.k) ∧ w3.cell? ⟨OB, 5, none⟩ = some (.int .i64 v.n) ∧ w3.cell? ⟨OB, 6, none⟩ = some (.string v.s) ∧ w3.cell? ⟨OB, 9, none⟩ = some (.int .i64 i) := ⟨ce_call h4 p1, ce_call h4 o2, ce_call h4 o3, ce_call h4 o4, ce_call h4 o5, ce_call h4 o6, ce_call h4 o9⟩))
      all_goals
        go_wp2_with fail
        go_meet
        exact ⟨rfl, rfl, rfl, h4⟩
    case rest =>
      obtain ⟨rfl, rfl, rfl, hWx⟩ := hcut
      have hF := HF.out.trans0 hWx
      clear hWx
      go_wp2
      go_ret
      exact ⟨rfl, hF⟩

set_option maxRecDepth 100000 in
set_option maxHeartbeats 6400000 in
theorem plays5 (N PB p tb mb rp T : Nat) (dd : Int) (m n : List (Sp × Tr)) (on : Int) (s : Sp) (v : V) (da va : Option Addr) (dn dc vn vc : Nat) (i : Int) (w : World) (hP : w.heap[PB]? = some (.cells #[.pointer (some ⟨p, 0, none⟩), .pointer (some ⟨rp, 0, none⟩)] tPr (0, 0))) (hI : PairIs N w p tb mb rp T dd m n) :
    Calls Try.prog 54 #[.pointer (some ⟨PB, 0, none⟩), .agg #[.int .i64 5, .int .i64 on, .int .i64 s.1, .int .i64 s.2, .int .i64 v.k, .int .i64 v.n, .string v.s, .slice da dn dc, .slice va vn vc, .int .i64 i]] w fun e w1 => e = .returned (.bool true) ∧ PairIs N w1 p tb mb rp T dd (delS s m) (delS s n) ∧ Fr [tb, mb, T] w w1 := by
  have HI := Lib.hid hI
  have HP := Lib.hid hP
  obtain ⟨ok, hok⟩ : ∃ ok, (getS s m).isSome = ok := ⟨_, rfl⟩
  have HOK := Lib.hid hok
  have HOK2 : Hid ((getS s n).isSome = ok) := by show _ = _; rw [← hI.sm s]; exact hok
  clear hI hP hok
  go_enter Try.func54, Try.ntmps54
  go_wp2_with fail
  have h0 : Fr [] w (w.alloc (.cells #[.int .i64 5, .int .i64 on, .int .i64 s.1, .int .i64 s.2, .int .i64 v.k, .int .i64 v.n, .string v.s, .slice da dn dc, .slice va vn vc, .int .i64 i] tOp)) := (Fr.refl [] w).alloc _
  have hOB := heap_new w (.cells #[.int .i64 5, .int .i64 on, .int .i64 s.1, .int .i64 s.2, .int .i64 v.k, .int .i64 v.n, .string v.s, .slice da dn dc, .slice va vn vc, .int .i64 i] tOp)
  have hPB := h0.heap HP.out (by simp)
  generalize w.alloc (.cells #[.int .i64 5, .int .i64 on, .int .i64 s.1, .int .i64 s.2, .int .i64 v.k, .int .i64 v.n, .string v.s, .slice da dn dc, .slice va vn vc, .int .i64 i] tOp) = W at *
  generalize w.heap.size = OB at *
  have hPc := cell_of hPB
  have hOc := cell_of hOB
  have HSW := Lib.hid (HI.out.st.fr0 h0)
  have HRW := Lib.hid (HI.out.rf.fr0 h0)
  have HOB := Lib.hid hOB
  have HPB := Lib.hid hPB
  have HF := Lib.hid h0
  clear hOB hPB h0
  go_still_tail 6, (by kernel_rfl)
  change wpList _ _ _ _ _ W.drew
  have hdr : Fr [] W W.drew := (Fr.refl [] W).drew
  go_wp2_with (go_at_call 50; refine (storeDrop p tb mb dd s m _ (HSW.out.fr0 hdr)).mono ?_; rw [HOK.out]; rintro e w3 ⟨rfl, hS3, h3'⟩)
  have h3 : Fr [tb, mb] W w3 := (hdr.mono (by simp)).transS h3'
  have HS3 := Lib.hid hS3
  have HR3 := Lib.hid (HRW.out.frSt HSW.out HI.out.ne h3)
  have hP3 := h3.heap HPB.out (HSW.out.off HPB.out (by decide))
  have hO3 := h3.heap HOB.out (HSW.out.off HOB.out (by decide))
  have hPc := cell_of hP3
  have hOc := cell_of hO3
  have H3 := Lib.hid h3
  clear hS3 hP3 hO3 h3 h3' hdr
  go_wp2_with fail
  go_still_tail 6, (by kernel_rfl)
  change wpList _ _ _ _ _ w3.drew
  have hdr : Fr [] w3 w3.drew := (Fr.refl [] w3).drew
  go_wp2_with (go_at_call 96; refine (refDrop rp T dd s n _ (HR3.out.fr0 hdr)).mono ?_; rw [HOK2.out]; rintro e w4 ⟨rfl, hR4, h4'⟩)
  have h4 : Fr [T] w3 w4 := (hdr.mono (by simp)).transS h4'
  have HR4 := Lib.hid hR4
  have HS4 := Lib.hid (HS3.out.frRef HR3.out HI.out.ne h4)
  have H4 : Hid (Fr [tb, mb, T] w w4) := by
    show Fr _ _ _
    refine (((HF.out.mono (by simp)).transS H3.out).mono (fun x hx => ?_)).trans h4 (fun x hx => ?_)
    · simp only [List.mem_cons, List.not_mem_nil, or_false] at hx ⊢
      rcases hx with rfl | rfl <;> simp
    · rw [List.mem_singleton] at hx; simp [hx]
  clear hR4 h4 h4' hdr
  go_wp2
  go_ret
  exact ⟨rfl, ⟨HS4.out, HR4.out, HI.out.sm.del HI.out.gm.nd HI.out.rf.nodup s, HI.out.gm.del s, HI.out.ne, HI.out.n1, HI.out.n2, HI.out.n3⟩, H4.out⟩
end Go.Proofs.Ytldppdafgbipjaa
