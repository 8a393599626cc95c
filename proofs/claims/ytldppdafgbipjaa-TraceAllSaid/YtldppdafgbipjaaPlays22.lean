/-
  quadrillelaw22's (*pair).plays: the reading calls.
-/
import Derived.Test.YtldppdafgbipjaaKeep22M
import Derived.Deep.RegionHeld3
namespace Go.Proofs.Ytldppdafgbipjaa
open Go.RowKit

abbrev pairC (p rp : Nat) : Obj := .cells #[.pointer (some ⟨p, 0, none⟩), .pointer (some ⟨rp, 0, none⟩)] tPr

set_option maxRecDepth 100000 in
set_option maxHeartbeats 6400000 in
theorem plays2 (PB p tb mb rp T : Nat) (dd : Int) (m n : List (Sp × Tr)) (on : Int) (s : Sp) (v : V) (da va : Option Addr) (dn dc vn vc : Nat) (i : Int) (w : World) (hP : w.heap[PB]? = some (pairC p rp))
    (hS : StIs w p tb mb dd m) (hR : RefIs w rp T dd n) (hs : getS s m = getS s n) :
    Calls Try.prog 54 #[.pointer (some ⟨PB, 0, none⟩), .agg #[.int .i64 2, .int .i64 on, .int .i64 s.1, .int .i64 s.2, .int .i64 v.k, .int .i64 v.n, .string v.s, .slice da dn dc, .slice va vn vc, .int .i64 i]] w fun e w1 => e = .returned (.bool true) ∧ Fr [] w w1 := by
  have HS := Lib.hid hS
  have HR := Lib.hid hR
  have HE := Lib.hid hs
  have HP := Lib.hid hP
  obtain ⟨x, hx⟩ : ∃ x, valO (getS s m) = x := ⟨_, rfl⟩
  obtain ⟨ok, hok⟩ : ∃ ok, (getS s m).isSome = ok := ⟨_, rfl⟩
  obtain ⟨ln, hln⟩ : ∃ ln, lenO (getS s m) = ln := ⟨_, rfl⟩
  have HXX := Lib.hid hx
  have HOK := Lib.hid hok
  have HLN := Lib.hid hln
  clear hS hR hs hP hx hok hln
  go_enter Try.func54, Try.ntmps54
  go_wp2_with fail
  have h0 : Fr [] w (w.alloc (.cells #[.int .i64 2, .int .i64 on, .int .i64 s.1, .int .i64 s.2, .int .i64 v.k, .int .i64 v.n, .string v.s, .slice da dn dc, .slice va vn vc, .int .i64 i] tOp)) := (Fr.refl [] w).alloc _
  have hOB := heap_new w (.cells #[.int .i64 2, .int .i64 on, .int .i64 s.1, .int .i64 s.2, .int .i64 v.k, .int .i64 v.n, .string v.s, .slice da dn dc, .slice va vn vc, .int .i64 i] tOp)
  have hPB := h0.heap HP.out (by simp)
  generalize w.alloc (.cells #[.int .i64 2, .int .i64 on, .int .i64 s.1, .int .i64 s.2, .int .i64 v.k, .int .i64 v.n, .string v.s, .slice da dn dc, .slice va vn vc, .int .i64 i] tOp) = W at *
  generalize w.heap.size = OB at *
  have p0 : W.cell? ⟨PB, 0, none⟩ = some (.pointer (some ⟨p, 0, none⟩)) := cell_of hPB 0
  have p1 : W.cell? ⟨PB, 1, none⟩ = some (.pointer (some ⟨rp, 0, none⟩)) := cell_of hPB 1
  have o2 : W.cell? ⟨OB, 2, none⟩ = some (.int .i64 s.1) := cell_of hOB 2
  have o3 : W.cell? ⟨OB, 3, none⟩ = some (.int .i64 s.2) := cell_of hOB 3
  have HF := Lib.hid h0
  have hPl := lt_of hPB
  have hOl := lt_of hOB
  have hnP : W.heap.size ≠ PB := by omega
  have hnO : W.heap.size ≠ OB := by omega
  clear hOB hPB h0 hPl hOl
  go_upto_region 6 with fail
  go_cut [6, 7] (fun s6 s7 wx => s7 = .bool ok ∧ ∃ D, s6 = .pointer (some ⟨D, 0, none⟩) ∧ wx.heap[D]? = some (.cells #[.int .i64 x.k, .int .i64 x.n, .string x.s] tVa (0, 0)) ∧ Fr [] W wx)
  case first =>
    go_region_held3 (fun u => u.cell? ⟨PB, 0, none⟩ = some (.pointer (some ⟨p, 0, none⟩)) ∧ u.cell? ⟨OB, 2, none⟩ = some (.int .i64 s.1) ∧ u.cell? ⟨OB, 3, none⟩ = some (.int .i64 s.2))
      (first | with_reducible exact ⟨p0, o2, o3⟩ | with_reducible exact ⟨ce_drew p0, ce_drew o2, ce_drew o3⟩ | with_reducible exact ⟨ce_old p0, ce_old o2, ce_old o3⟩ | with_reducible exact ⟨ce_drew (ce_old p0), ce_drew (ce_old o2), ce_drew (ce_old o3)⟩ | with_reducible exact hS3 | with_reducible exact ⟨ce_old hS3.1, ce_old hS3.2.1, ce_old hS3.2.2⟩ | with_reducible exact ⟨ce_set (ce_set (ce_set hS3.1 hnP) hnP) hnP, ce_set (ce_set (ce_set hS3.2.1 hnO) hnO) hnO, ce_set (ce_set (ce_set hS3.2.2 hnO) hnO) hnO⟩)
      ((go_at_call 48; refine (traceValue p tb mb dd s m _ (by first | exact HS.out.fr0 (HF.out.drew) | exact HS.out.fr0 ((HF.out.alloc _).drew))).mono ?_; rw [HXX.out, HOK.out]; rintro e w3 ⟨rfl, h3⟩; (try (have hbn := h3.heap (show ((W.alloc (.cells #[.int .i64 0, .int .i64 0, .string ⟨#[]⟩] tVa)).drew).heap[W.heap.size]? = _ from heap_new W _) (by simp); have hbnc := cell_of hbn; have hbnf := free_of hbn; have hbnl := lt_of hbn)); have h4 : Fr [] W w3 := (by first | exact ((Fr.refl [] W).drew).transS h3 | exact (((Fr.refl [] W).alloc _).drew).transS h3); have hS3 : w3.cell? ⟨PB, 0, none⟩ = some (.pointer (some ⟨p, 0, none⟩)) ∧ w3.cell? ⟨OB, 2, none⟩ = some (.int .i64 s.1) ∧ w3.cell? ⟨OB, 3, none⟩ = some (.int .i64 s.2) := ⟨ce_call h4 p0, ce_call h4 o2, ce_call h4 o3⟩))
    all_goals
      go_wp2_with fail
      go_meet
      first
        | exact ⟨rfl, _, rfl, heap_new _ _, h4.alloc _⟩
        | exact ⟨rfl, _, rfl, set_of (set_of (set_of hbn 0 _) 1 _) 2 _, ((h4.setCell (.inr (Nat.le_refl _)) _).setCell (.inr (Nat.le_refl _)) _).setCell (.inr (Nat.le_refl _)) _⟩
  case rest =>
    obtain ⟨rfl, D, rfl, hD, hWx⟩ := hcut
    have p0 := ce_call hWx p0
    have p1 := ce_call hWx p1
    have o2 := ce_call hWx o2
    have o3 := ce_call hWx o3
    have HF := Lib.hid (HF.out.trans0 hWx)
    have hPl : PB < wc.heap.size := World.block_lt_of_cell? wc _ p0
    have hOl : OB < wc.heap.size := World.block_lt_of_cell? wc _ o2
    have hnP : wc.heap.size ≠ PB := by omega
    have hnO : wc.heap.size ≠ OB := by omega
    clear hWx hPl hOl
    have HD := Lib.hid hD
    clear hD
    generalize wc = W at *
    go_upto_region 7 with fail
    go_cut [8, 9] (fun s6 s7 wx => s7 = .bool ok ∧ ∃ E, s6 = .pointer (some ⟨E, 0, none⟩) ∧ wx.heap[E]? = some (.cells #[.int .i64 x.k, .int .i64 x.n, .string x.s] tVa (0, 0)) ∧ Fr [] W wx)
    case first =>
      go_region_held3 (fun u => u.cell? ⟨PB, 1, none⟩ = some (.pointer (some ⟨rp, 0, none⟩)) ∧ u.cell? ⟨OB, 2, none⟩ = some (.int .i64 s.1) ∧ u.cell? ⟨OB, 3, none⟩ = some (.int .i64 s.2))
        (first | with_reducible exact ⟨p1, o2, o3⟩ | with_reducible exact ⟨ce_drew p1, ce_drew o2, ce_drew o3⟩ | with_reducible exact ⟨ce_old p1, ce_old o2, ce_old o3⟩ | with_reducible exact ⟨ce_drew (ce_old p1), ce_drew (ce_old o2), ce_drew (ce_old o3)⟩ | with_reducible exact hS3 | with_reducible exact ⟨ce_old hS3.1, ce_old hS3.2.1, ce_old hS3.2.2⟩ | with_reducible exact ⟨ce_set (ce_set (ce_set hS3.1 hnP) hnP) hnP, ce_set (ce_set (ce_set hS3.2.1 hnO) hnO) hnO, ce_set (ce_set (ce_set hS3.2.2 hnO) hnO) hnO⟩)
        ((go_at_call 92; refine (refValue rp T dd s n _ (by first | exact HR.out.fr0 (HF.out.drew) | exact HR.out.fr0 ((HF.out.alloc _).drew))).mono ?_; rw [← HE.out, HXX.out, HOK.out]; rintro e w3 ⟨rfl, h3⟩; (try (have hbn := h3.heap (show ((W.alloc (.cells #[.int .i64 0, .int .i64 0, .string ⟨#[]⟩] tVa)).drew).heap[W.heap.size]? = _ from heap_new W _) (by simp); have hbnc := cell_of hbn; have hbnf := free_of hbn; have hbnl := lt_of hbn)); have h4 : Fr [] W w3 := (by first | exact ((Fr.refl [] W).drew).transS h3 | exact (((Fr.refl [] W).alloc _).drew).transS h3); have hS3 : w3.cell? ⟨PB, 1, none⟩ = some (.pointer (some ⟨rp, 0, none⟩)) ∧ w3.cell? ⟨OB, 2, none⟩ = some (.int .i64 s.1) ∧ w3.cell? ⟨OB, 3, none⟩ = some (.int .i64 s.2) := ⟨ce_call h4 p1, ce_call h4 o2, ce_call h4 o3⟩))
      all_goals
        go_wp2_with fail
        go_meet
        first
          | exact ⟨rfl, _, rfl, heap_new _ _, h4.alloc _⟩
          | exact ⟨rfl, _, rfl, set_of (set_of (set_of hbn 0 _) 1 _) 2 _, ((h4.setCell (.inr (Nat.le_refl _)) _).setCell (.inr (Nat.le_refl _)) _).setCell (.inr (Nat.le_refl _)) _⟩
    case rest =>
      obtain ⟨rfl, E, rfl, hE, hWx⟩ := hcut
      have p0 := ce_call hWx p0
      have p1 := ce_call hWx p1
      have o2 := ce_call hWx o2
      have o3 := ce_call hWx o3
      have HF := Lib.hid (HF.out.trans0 hWx)
      have HD := Lib.hid (hWx.heap HD.out (by simp))
      have HEE := Lib.hid hE
      clear hWx hnP hnO hE
      generalize wc = W at *
      go_upto_region 8 with fail
      go_cut [10] (fun s6 wx => s6 = .int .i64 (ln : Int) ∧ Fr [] W wx)
      case first =>
        go_region_held3 (fun u => u.cell? ⟨PB, 1, none⟩ = some (.pointer (some ⟨rp, 0, none⟩)) ∧ u.cell? ⟨OB, 2, none⟩ = some (.int .i64 s.1) ∧ u.cell? ⟨OB, 3, none⟩ = some (.int .i64 s.2))
          (first | with_reducible exact ⟨p1, o2, o3⟩ | with_reducible exact ⟨ce_drew p1, ce_drew o2, ce_drew o3⟩ | with_reducible exact hS3)
          ((go_at_call 93; refine (refLen rp T dd s n _ (HR.out.fr0 (HF.out.drew))).mono ?_; rw [← HE.out, HLN.out]; rintro e w3 ⟨rfl, h3⟩; have h4 : Fr [] W w3 := ((Fr.refl [] W).drew).transS h3; have hS3 : w3.cell? ⟨PB, 1, none⟩ = some (.pointer (some ⟨rp, 0, none⟩)) ∧ w3.cell? ⟨OB, 2, none⟩ = some (.int .i64 s.1) ∧ w3.cell? ⟨OB, 3, none⟩ = some (.int .i64 s.2) := ⟨ce_call h4 p1, ce_call h4 o2, ce_call h4 o3⟩))
        all_goals
          go_wp2_with fail
          go_meet
          exact ⟨rfl, h4⟩
      case rest =>
        obtain ⟨rfl, hWx⟩ := hcut
        have p0 := ce_call hWx p0
        have o2 := ce_call hWx o2
        have o3 := ce_call hWx o3
        have HF := Lib.hid (HF.out.trans0 hWx)
        have hD := hWx.heap HD.out (by simp)
        have hE := hWx.heap HEE.out (by simp)
        have d0 : wc.cell? ⟨D, 0, none⟩ = some (.int .i64 x.k) := cell_of hD 0
        have d1 : wc.cell? ⟨D, 1, none⟩ = some (.int .i64 x.n) := cell_of hD 1
        have d2 : wc.cell? ⟨D, 2, none⟩ = some (.string x.s) := cell_of hD 2
        have e0 : wc.cell? ⟨E, 0, none⟩ = some (.int .i64 x.k) := cell_of hE 0
        have e1 : wc.cell? ⟨E, 1, none⟩ = some (.int .i64 x.n) := cell_of hE 1
        have e2 : wc.cell? ⟨E, 2, none⟩ = some (.string x.s) := cell_of hE 2
        clear hWx hD hE p1
        generalize wc = W at *
        go_upto_region 9 with fail
        go_cut [4] (fun s6 wx => s6 = .bool true ∧ Fr [] W wx)
        case first =>
          go_region_held3 (fun u => u.cell? ⟨PB, 0, none⟩ = some (.pointer (some ⟨p, 0, none⟩)) ∧ u.cell? ⟨OB, 2, none⟩ = some (.int .i64 s.1) ∧ u.cell? ⟨OB, 3, none⟩ = some (.int .i64 s.2) ∧ u.cell? ⟨D, 0, none⟩ = some (.int .i64 x.k) ∧ u.cell? ⟨D, 1, none⟩ = some (.int .i64 x.n) ∧ u.cell? ⟨D, 2, none⟩ = some (.string x.s) ∧ u.cell? ⟨E, 0, none⟩ = some (.int .i64 x.k) ∧ u.cell? ⟨E, 1, none⟩ = some (.int .i64 x.n) ∧ u.cell? ⟨E, 2, none⟩ = some (.string x.s))
            (first | with_reducible exact ⟨p0, o2, o3, d0, d1, d2, e0, e1, e2⟩ | with_reducible exact ⟨ce_drew p0, ce_drew o2, ce_drew o3, ce_drew d0, ce_drew d1, ce_drew d2, ce_drew e0, ce_drew e1, ce_drew e2⟩ | with_reducible exact hS3)
            ((go_at_call 18; refine (traceLen p tb mb dd s m _ (HS.out.fr0 (HF.out.drew))).mono ?_; rw [HLN.out]; rintro e w3 ⟨rfl, h3⟩; have h4 : Fr [] W w3 := ((Fr.refl [] W).drew).transS h3; have hS3 : w3.cell? ⟨PB, 0, none⟩ = some (.pointer (some ⟨p, 0, none⟩)) ∧ w3.cell? ⟨OB, 2, none⟩ = some (.int .i64 s.1) ∧ w3.cell? ⟨OB, 3, none⟩ = some (.int .i64 s.2) ∧ w3.cell? ⟨D, 0, none⟩ = some (.int .i64 x.k) ∧ w3.cell? ⟨D, 1, none⟩ = some (.int .i64 x.n) ∧ w3.cell? ⟨D, 2, none⟩ = some (.string x.s) ∧ w3.cell? ⟨E, 0, none⟩ = some (.int .i64 x.k) ∧ w3.cell? ⟨E, 1, none⟩ = some (.int .i64 x.n) ∧ w3.cell? ⟨E, 2, none⟩ = some (.string x.s) := ⟨ce_call h4 p0, ce_call h4 o2, ce_call h4 o3, ce_call h4 d0, ce_call h4 d1, ce_call h4 d2, ce_call h4 e0, ce_call h4 e1, ce_call h4 e2⟩))
          all_goals
            go_wp2_with fail
            go_meet
            exact ⟨rfl, h4⟩
        case rest =>
          obtain ⟨rfl, hWx⟩ := hcut
          go_wp2
          go_ret
          exact ⟨rfl, HF.out.trans0 hWx⟩
end Go.Proofs.Ytldppdafgbipjaa
