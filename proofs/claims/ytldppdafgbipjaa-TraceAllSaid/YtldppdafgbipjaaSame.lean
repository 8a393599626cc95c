/-
  Contract of trace.Store.Same.
-/
import Derived.Test.YtldppdafgbipjaaStore
namespace Go.Proofs.Ytldppdafgbipjaa
open Go.RowKit

/-- What Same answers. -/
def sameO (dd : Int) (o : Option Tr) (i : Int) (v : V) : Bool × Bool × Int :=
  if (entO o i).2 ≠ 0 then (false, false, (entO o i).2)
  else if mayV v = false then (false, false, 24)
  else (decide (sumV v dd = (entO o i).1.sum) && sameVB (entO o i).1.v v, decide (sumV v dd = (entO o i).1.sum), 0)

set_option maxRecDepth 100000 in
set_option maxHeartbeats 1600000 in
theorem traceSame (p tb mb : Nat) (dd : Int) (s : Sp) (i : Int) (v : V) (m : List (Sp × Tr)) (w : World) (h : StIs w p tb mb dd m) (hi1 : -9223372036854775808 ≤ i) (hi2 : i ≤ 9223372036854775807) (hvs : v.s.size ≤ 9223372036854775807) :
    Calls Try.prog 17 #[.pointer (some ⟨p, 0, none⟩), spV s, .int .i64 i, v.val] w fun e w1 =>
      e = .returned (.tuple #[.bool (sameO dd (getS s m) i v).1, .bool (sameO dd (getS s m) i v).2.1, .int .i64 (sameO dd (getS s m) i v).2.2]) ∧ Fr [] w w1 := by
  have HS := Lib.hid h
  have hwd := h.wd
  have hp := h.st
  have HP := Lib.hid hp
  clear h hp
  obtain ⟨r, hr⟩ : ∃ r, entO (getS s m) i = r := ⟨_, rfl⟩
  have HR := Lib.hid hr
  clear hr
  go_enter Try.func17, Try.ntmps17
  go_wp2_with fail
  refine (traceEntry p tb mb dd s i m _ ?hs hi1 hi2).mono ?_
  case hs => exact HS.out.fr0 (((Fr.refl [] w).alloc _).alloc _)
  rw [HR.out]
  rintro e w1 ⟨rfl, h1⟩
  obtain ⟨h2, hb1, hb2, hz⟩ := h1.new2 (by simp)
  clear h1
  have hc2 := cell_of hb2
  by_cases hr0 : r.2 = 0
  · have hrb : (r.2 != 0) = false := by rw [bne_eq_false_iff_eq]; exact hr0
    have HR0 := Lib.hid hr0
    clear hr0
    go_wp2_with fail
    have hW1 : Fr [] w1 (w1.alloc (.cells #[.int .i64 r.1.at_.1, .int .i64 r.1.at_.2, .int .i64 r.1.v.k, .int .i64 r.1.v.n, .string r.1.v.s, .int .u64 r.1.sum] tE)) := (Fr.refl [] w1).alloc _
    have hbE := heap_new w1 (.cells #[.int .i64 r.1.at_.1, .int .i64 r.1.at_.2, .int .i64 r.1.v.k, .int .i64 r.1.v.n, .string r.1.v.s, .int .u64 r.1.sum] tE)
    refine (valueMay v _ hvs).mono ?_
    cases hmv : mayV v with
    | false =>
      have HMV := Lib.hid hmv
      clear hmv
      rintro e w2 ⟨rfl, h3⟩
      go_wp2
      go_ret3
      refine ⟨?_, h2.trans0 (hW1.trans0 h3)⟩
      unfold sameO
      rw [HR.out, if_neg (by rw [HR0.out]; simp), if_pos HMV.out]
      rfl
    | true =>
      have HMV := Lib.hid hmv
      clear hmv
      rintro e w2 ⟨rfl, h3⟩
      have h4 : Fr [] w1 w2 := hW1.trans0 h3
      have hbE2 := h3.heap hbE (by simp)
      have hb22 := h4.heap hb2 (by simp)
      have hp2 := (h2.trans0 h4).heap HP.out (by simp)
      generalize w1.heap.size = E at *
      have hEc := cell_of hbE2
      have hvc := cell_of hb22
      have hpc := cell_of hp2
      clear hbE h3 hb1 hb2 hc2 hW1
      go_wp2_with fail
      have hB1 := lt_of hb22
      have hpl := lt_of hp2
      have hv0 : w2.cell? ⟨w.heap.size + 1, 0, none⟩ = some (.int .i64 v.k) := hvc 0
      have hv1 : w2.cell? ⟨w.heap.size + 1, 1, none⟩ = some (.int .i64 v.n) := hvc 1
      have hv2 : w2.cell? ⟨w.heap.size + 1, 2, none⟩ = some (.string v.s) := hvc 2
      have hp0 : w2.cell? ⟨p, 0, none⟩ = some (.int .i64 dd) := hpc 0
      go_region_held3 (fun u => u.cell? ⟨w.heap.size + 1, 0, none⟩ = some (.int .i64 v.k) ∧ u.cell? ⟨w.heap.size + 1, 1, none⟩ = some (.int .i64 v.n) ∧ u.cell? ⟨w.heap.size + 1, 2, none⟩ = some (.string v.s) ∧ u.cell? ⟨p, 0, none⟩ = some (.int .i64 dd))
        (first | exact ⟨hv0, hv1, hv2, hp0⟩ | exact hS3)
        ((go_at_call 58; refine (hashSum v dd _ hvs hwd.1 hwd.2).mono ?_; rintro e w3 ⟨rfl, h3⟩; have h5 : Fr [] w2 w3 := ((Fr.refl [] w2).drew).transS h3; have hS3 : w3.cell? ⟨w.heap.size + 1, 0, none⟩ = some (.int .i64 v.k) ∧ w3.cell? ⟨w.heap.size + 1, 1, none⟩ = some (.int .i64 v.n) ∧ w3.cell? ⟨w.heap.size + 1, 2, none⟩ = some (.string v.s) ∧ w3.cell? ⟨p, 0, none⟩ = some (.int .i64 dd) := ⟨(h5.cell (p := ⟨w.heap.size + 1, 0, none⟩) hB1 (by simp)).trans hv0, (h5.cell (p := ⟨w.heap.size + 1, 1, none⟩) hB1 (by simp)).trans hv1, (h5.cell (p := ⟨w.heap.size + 1, 2, none⟩) hB1 (by simp)).trans hv2, (h5.cell (p := ⟨p, 0, none⟩) hpl (by simp)).trans hp0⟩))
      have hbE3 := h5.heap hbE2 (by simp)
      have hb23 := h5.heap hb22 (by simp)
      have hEc3 := cell_of hbE3
      have hvc3 := cell_of hb23
      have hfr := (h2.trans0 h4).trans0 h5
      clear hEc hvc hpc hv0 hv1 hv2 hp0 hS3 hbE2 hb22 hp2 hbE3 hb23
      have hO : Hid (sameO dd (getS s m) i v = (decide (sumV v dd = r.1.sum) && sameVB r.1.v v, decide (sumV v dd = r.1.sum), 0)) := by
        show sameO dd (getS s m) i v = _
        unfold sameO
        rw [HR.out, if_neg (by rw [HR0.out]; simp), if_neg (by rw [HMV.out]; simp)]
      by_cases hq : sumV v dd = r.1.sum
      · have hqb : (sumV v dd == r.1.sum) = true := by rw [beq_iff_eq]; exact hq
        have HQ := Lib.hid hq
        clear hq
        go_wp2_with fail
        refine (valueSame r.1.v v _).mono ?_
        rintro e w4 ⟨rfl, h6⟩
        go_wp2
        go_ret3
        refine ⟨?_, hfr.trans0 h6⟩
        rw [hO.out, HQ.out]
        simp
      · have hqb : (sumV v dd == r.1.sum) = false := by rw [beq_eq_false_iff_ne]; exact hq
        have HQ := Lib.hid hq
        clear hq
        go_wp2
        go_ret3
        refine ⟨?_, hfr⟩
        rw [hO.out, decide_eq_false HQ.out]
        simp
  · have hrb : (r.2 != 0) = true := by rw [bne_iff_ne]; exact hr0
    go_wp2
    go_ret3
    refine ⟨?_, h2.alloc _⟩
    unfold sameO
    rw [HR.out, if_pos hr0]
    rfl
end Go.Proofs.Ytldppdafgbipjaa
