/-
  Contracts of trace.Store's Value, Len, Dep, and of num.
-/
import Derived.Test.YtldppdafgbipjaaStore
namespace Go.Proofs.Ytldppdafgbipjaa
open Go.RowKit

def v0 : V := ⟨0, 0, ⟨#[]⟩⟩
def valO (o : Option Tr) : V := match o with | none => v0 | some t => t.v
def lenO (o : Option Tr) : Nat := match o with | none => 0 | some t => t.es.length

theorem getD_match {w : World} {ls : List (Sp × Seen)} {m : List (Sp × Tr)} (h : Match w ls m) (s : Sp) : (getS s ls).isSome = (getS s m).isSome ∧ ((getS s ls).getD seen0).v = valO (getS s m) ∧ ((getS s ls).getD seen0).n = lenO (getS s m) := by
  rcases h.get s with ⟨h1, h2⟩ | ⟨x, t, h1, h2, h3⟩
  · rw [h1, h2]
    exact ⟨rfl, rfl, rfl⟩
  · rw [h1, h2]
    exact ⟨rfl, h3.v, h3.n⟩

set_option maxRecDepth 100000 in
set_option maxHeartbeats 1600000 in
theorem traceValue (p tb mb : Nat) (dd : Int) (s : Sp) (m : List (Sp × Tr)) (w : World) (h : StIs w p tb mb dd m) :
    Calls Try.prog 48 #[.pointer (some ⟨p, 0, none⟩), spV s] w fun e w1 => e = .returned (.tuple #[(valO (getS s m)).val, .bool (getS s m).isSome]) ∧ Fr [] w w1 := by
  obtain ⟨hst, _, ls, hT, hM⟩ := h
  have hp1 := cell_of hst 1
  have hpl := lt_of hst
  have HT := Lib.hid hT
  obtain ⟨x, hx⟩ : ∃ x, (getS s ls).getD seen0 = x := ⟨_, rfl⟩
  obtain ⟨ok, ho⟩ : ∃ ok, (getS s ls).isSome = ok := ⟨_, rfl⟩
  have HX := Lib.hid hx
  have HO := Lib.hid ho
  have HM := Lib.hid hM
  clear hT hst hx ho hM
  go_enter Try.func48, Try.ntmps48
  go_wp2_with fail
  have hW : Fr [] w ((w.alloc (.cells #[.int .i64 s.1, .int .i64 s.2] 26)).alloc (.cells #[.int .i64 0, .int .i64 0, .string ⟨#[]⟩] 23)) := ((Fr.refl [] w).alloc _).alloc _
  have hb1 := ((Fr.refl [] _).alloc (.cells #[.int .i64 0, .int .i64 0, .string ⟨#[]⟩] 23)).heap (heap_new w (.cells #[.int .i64 s.1, .int .i64 s.2] 26)) (by simp)
  have hb2 := heap_new (w.alloc (.cells #[.int .i64 s.1, .int .i64 s.2] 26)) (.cells #[.int .i64 0, .int .i64 0, .string ⟨#[]⟩] 23)
  rw [World.size_alloc] at hb2
  have hp1 : (_ : World).cell? ⟨p, 1, none⟩ = some (.pointer (some ⟨tb, 0, none⟩)) := (hW.cell (p := ⟨p, 1, none⟩) hpl (by simp)).trans hp1
  have hpW := Nat.lt_of_lt_of_le hpl hW.size
  have hTW := Lib.hid (HT.out.fr hW (by simp) (by simp))
  generalize (w.alloc (.cells #[.int .i64 s.1, .int .i64 s.2] 26)).alloc (.cells #[.int .i64 0, .int .i64 0, .string ⟨#[]⟩] 23) = W at *
  have hB := lt_of hb2
  have hB0 := lt_of hb1
  have hbc0 : W.cell? ⟨w.heap.size, 0, none⟩ = some (.int .i64 s.1) := cell_of hb1 0
  have hbc1 : W.cell? ⟨w.heap.size, 1, none⟩ = some (.int .i64 s.2) := cell_of hb1 1
  have HB2 := Lib.hid hb2
  generalize hBe : w.heap.size = B at *
  have HBe := Lib.hid hBe
  clear hBe hpl hb1 hb2
  have hnp : W.heap.size ≠ p := by omega
  have hnB : W.heap.size ≠ B := by omega
  go_cut [6, 7] (fun s1 s2 wx => s2 = .bool ok ∧ ∃ D, s1 = .pointer (some ⟨D, 0, none⟩) ∧ wx.heap[D]? = some (.cells #[.int .i64 x.v.k, .int .i64 x.v.n, .string x.v.s, .slice x.p x.n x.c] 122 (0, 0)) ∧ Fr [] W wx)
  case first =>
    go_region_held3 (fun u => u.cell? ⟨p, 1, none⟩ = some (.pointer (some ⟨tb, 0, none⟩)) ∧ u.cell? ⟨B, 0, none⟩ = some (.int .i64 s.1) ∧ u.cell? ⟨B, 1, none⟩ = some (.int .i64 s.2))
      (((try dsimp only); refine ⟨?_, ?_, ?_⟩ <;> ((try rw [World.cell?_drew]); first | with_reducible exact hp1 | with_reducible exact hbc0 | with_reducible exact hbc1 | with_reducible exact (al hpW).trans hp1 | with_reducible exact (al hB0).trans hbc0 | with_reducible exact (al hB0).trans hbc1 | with_reducible exact hS3.1 | with_reducible exact hS3.2.1 | with_reducible exact hS3.2.2 | with_reducible exact (al hpw3).trans hS3.1 | with_reducible exact (al hBw3).trans hS3.2.1 | with_reducible exact (al hBw3).trans hS3.2.2 | with_reducible exact (st1 hnp).trans ((st1 hnp).trans ((st1 hnp).trans ((st1 hnp).trans hS3.1))) | with_reducible exact (st1 hnB).trans ((st1 hnB).trans ((st1 hnB).trans ((st1 hnB).trans hS3.2.1))) | with_reducible exact (st1 hnB).trans ((st1 hnB).trans ((st1 hnB).trans ((st1 hnB).trans hS3.2.2))))))
      ((go_at_call 63; refine (getT tb mb s ls _ (by first | exact hTW.out.fr ((Fr.refl [] W).drew) (by simp) (by simp) | exact hTW.out.fr (((Fr.refl [] W).alloc _).drew) (by simp) (by simp))).mono ?_; rw [HX.out, HO.out]; rintro e w3 ⟨rfl, h3⟩; (try (have hbn := h3.heap (show ((W.alloc (.cells #[.int .i64 0, .int .i64 0, .string ⟨#[]⟩, .slice none 0 0] 122)).drew).heap[W.heap.size]? = _ from heap_new W _) (by simp); have hbnc := cell_of hbn; have hbnf := free_of hbn; have hbnl := lt_of hbn)); have h4 : Fr [] W w3 := (by first | exact ((Fr.refl [] W).drew).transS h3 | exact (((Fr.refl [] W).alloc _).drew).transS h3); have hpw3 : p < w3.heap.size := Nat.lt_of_lt_of_le hpW h4.size; have hBw3 : B < w3.heap.size := Nat.lt_of_lt_of_le hB0 h4.size; have hS3 : w3.cell? ⟨p, 1, none⟩ = some (.pointer (some ⟨tb, 0, none⟩)) ∧ w3.cell? ⟨B, 0, none⟩ = some (.int .i64 s.1) ∧ w3.cell? ⟨B, 1, none⟩ = some (.int .i64 s.2) := ⟨(h4.cell (p := ⟨p, 1, none⟩) hpW (by simp)).trans hp1, (h4.cell (p := ⟨B, 0, none⟩) hB0 (by simp)).trans hbc0, (h4.cell (p := ⟨B, 1, none⟩) hB0 (by simp)).trans hbc1⟩))
    all_goals
      go_wp2_with fail
      go_meet
    · exact ⟨rfl, _, rfl, heap_new _ _, h4.alloc _⟩
    · exact ⟨rfl, _, rfl, set_of (set_of (set_of (set_of hbn 0 _) 1 _) 2 _) 3 _, (((h4.setCell (.inr (Nat.le_refl _)) _).setCell (.inr (Nat.le_refl _)) _).setCell (.inr (Nat.le_refl _)) _).setCell (.inr (Nat.le_refl _)) _⟩
  case rest =>
    obtain ⟨rfl, D, rfl, hD, hWx⟩ := hcut
    have hb2x := hWx.heap HB2.out (by simp)
    have hB2c := cell_of hb2x
    have hB2f := free_of hb2x
    have hDc := cell_of hD
    have hfin : Fr [] w wc := hW.trans0 hWx
    go_wp2
    refine bodyPost_ret (v := .tuple #[x.v.val, .bool ok]) (by simp [results, Try.results48, go_sem, hB2c]) rfl ⟨?_, ?_⟩
    · have hg := getD_match HM.out s
      rw [HX.out, HO.out] at hg
      rw [← hg.1, ← hg.2.1]
    · refine (((hfin.setCell ?_ _).setCell ?_ _).setCell ?_ _)
      all_goals exact .inr (by rw [HBe.out]; simp)

set_option maxRecDepth 100000 in
set_option maxHeartbeats 1600000 in
theorem traceLen (p tb mb : Nat) (dd : Int) (s : Sp) (m : List (Sp × Tr)) (w : World) (h : StIs w p tb mb dd m) :
    Calls Try.prog 18 #[.pointer (some ⟨p, 0, none⟩), spV s] w fun e w1 => e = .returned (.int .i64 (lenO (getS s m) : Int)) ∧ Fr [] w w1 := by
  obtain ⟨hst, _, ls, hT, hM⟩ := h
  have hp1 := cell_of hst 1
  have hpl := lt_of hst
  have HT := Lib.hid hT
  obtain ⟨x, hx⟩ : ∃ x, (getS s ls).getD seen0 = x := ⟨_, rfl⟩
  obtain ⟨ok, ho⟩ : ∃ ok, (getS s ls).isSome = ok := ⟨_, rfl⟩
  have HX := Lib.hid hx
  have HO := Lib.hid ho
  have HM := Lib.hid hM
  clear hT hst hx ho hM
  go_enter Try.func18, Try.ntmps18
  go_wp2_with fail
  have hW : Fr [] w (w.alloc (.cells #[.int .i64 s.1, .int .i64 s.2] 26)) := (Fr.refl [] w).alloc _
  have hb1 := heap_new w (.cells #[.int .i64 s.1, .int .i64 s.2] 26)
  have hp1 : (_ : World).cell? ⟨p, 1, none⟩ = some (.pointer (some ⟨tb, 0, none⟩)) := (hW.cell (p := ⟨p, 1, none⟩) hpl (by simp)).trans hp1
  have hpW := Nat.lt_of_lt_of_le hpl hW.size
  have hTW := Lib.hid (HT.out.fr hW (by simp) (by simp))
  generalize w.alloc (.cells #[.int .i64 s.1, .int .i64 s.2] 26) = W at *
  have hB0 := lt_of hb1
  have hbc0 : W.cell? ⟨w.heap.size, 0, none⟩ = some (.int .i64 s.1) := cell_of hb1 0
  have hbc1 : W.cell? ⟨w.heap.size, 1, none⟩ = some (.int .i64 s.2) := cell_of hb1 1
  generalize w.heap.size = B at *
  clear hpl hb1
  have hnp : W.heap.size ≠ p := by omega
  have hnB : W.heap.size ≠ B := by omega
  go_cut [5, 6] (fun s1 s2 wx => s2 = .bool ok ∧ ∃ D, s1 = .pointer (some ⟨D, 0, none⟩) ∧ wx.heap[D]? = some (.cells #[.int .i64 x.v.k, .int .i64 x.v.n, .string x.v.s, .slice x.p x.n x.c] 122 (0, 0)) ∧ Fr [] W wx)
  case first =>
    go_region_held3 (fun u => u.cell? ⟨p, 1, none⟩ = some (.pointer (some ⟨tb, 0, none⟩)) ∧ u.cell? ⟨B, 0, none⟩ = some (.int .i64 s.1) ∧ u.cell? ⟨B, 1, none⟩ = some (.int .i64 s.2))
      (((try dsimp only); refine ⟨?_, ?_, ?_⟩ <;> ((try rw [World.cell?_drew]); first | with_reducible exact hp1 | with_reducible exact hbc0 | with_reducible exact hbc1 | with_reducible exact (al hpW).trans hp1 | with_reducible exact (al hB0).trans hbc0 | with_reducible exact (al hB0).trans hbc1 | with_reducible exact hS3.1 | with_reducible exact hS3.2.1 | with_reducible exact hS3.2.2 | with_reducible exact (al hpw3).trans hS3.1 | with_reducible exact (al hBw3).trans hS3.2.1 | with_reducible exact (al hBw3).trans hS3.2.2 | with_reducible exact (st1 hnp).trans ((st1 hnp).trans ((st1 hnp).trans ((st1 hnp).trans hS3.1))) | with_reducible exact (st1 hnB).trans ((st1 hnB).trans ((st1 hnB).trans ((st1 hnB).trans hS3.2.1))) | with_reducible exact (st1 hnB).trans ((st1 hnB).trans ((st1 hnB).trans ((st1 hnB).trans hS3.2.2))))))
      ((go_at_call 63; refine (getT tb mb s ls _ (by first | exact hTW.out.fr ((Fr.refl [] W).drew) (by simp) (by simp) | exact hTW.out.fr (((Fr.refl [] W).alloc _).drew) (by simp) (by simp))).mono ?_; rw [HX.out, HO.out]; rintro e w3 ⟨rfl, h3⟩; (try (have hbn := h3.heap (show ((W.alloc (.cells #[.int .i64 0, .int .i64 0, .string ⟨#[]⟩, .slice none 0 0] 122)).drew).heap[W.heap.size]? = _ from heap_new W _) (by simp); have hbnc := cell_of hbn; have hbnf := free_of hbn; have hbnl := lt_of hbn)); have h4 : Fr [] W w3 := (by first | exact ((Fr.refl [] W).drew).transS h3 | exact (((Fr.refl [] W).alloc _).drew).transS h3); have hpw3 : p < w3.heap.size := Nat.lt_of_lt_of_le hpW h4.size; have hBw3 : B < w3.heap.size := Nat.lt_of_lt_of_le hB0 h4.size; have hS3 : w3.cell? ⟨p, 1, none⟩ = some (.pointer (some ⟨tb, 0, none⟩)) ∧ w3.cell? ⟨B, 0, none⟩ = some (.int .i64 s.1) ∧ w3.cell? ⟨B, 1, none⟩ = some (.int .i64 s.2) := ⟨(h4.cell (p := ⟨p, 1, none⟩) hpW (by simp)).trans hp1, (h4.cell (p := ⟨B, 0, none⟩) hB0 (by simp)).trans hbc0, (h4.cell (p := ⟨B, 1, none⟩) hB0 (by simp)).trans hbc1⟩))
    all_goals
      go_wp2_with fail
      go_meet
    · exact ⟨rfl, _, rfl, heap_new _ _, h4.alloc _⟩
    · exact ⟨rfl, _, rfl, set_of (set_of (set_of (set_of hbn 0 _) 1 _) 2 _) 3 _, (((h4.setCell (.inr (Nat.le_refl _)) _).setCell (.inr (Nat.le_refl _)) _).setCell (.inr (Nat.le_refl _)) _).setCell (.inr (Nat.le_refl _)) _⟩
  case rest =>
    obtain ⟨rfl, D, rfl, hD, hWx⟩ := hcut
    have hDc := cell_of hD
    have hfin : Fr [] w wc := hW.trans0 hWx
    go_wp2
    go_ret
    refine ⟨?_, hfin⟩
    have hg := getD_match HM.out s
    rw [HX.out, HO.out] at hg
    rw [← hg.2.2]
    rfl

set_option maxRecDepth 100000 in
theorem traceDep (p tb mb : Nat) (dd : Int) (s : Sp) (i : Int) (m : List (Sp × Tr)) (w : World) (h : StIs w p tb mb dd m) (hi1 : -9223372036854775808 ≤ i) (hi2 : i ≤ 9223372036854775807) :
    Calls Try.prog 19 #[.pointer (some ⟨p, 0, none⟩), spV s, .int .i64 i] w fun e w1 => e = .returned (.tuple #[spV (entO (getS s m) i).1.at_, .int .i64 (entO (getS s m) i).2]) ∧ Fr [] w w1 := by
  have HS := Lib.hid h
  clear h
  obtain ⟨r, hr⟩ : ∃ r, entO (getS s m) i = r := ⟨_, rfl⟩
  have HR := Lib.hid hr
  clear hr
  go_enter Try.func19, Try.ntmps19
  go_wp2_with fail
  refine (traceEntry p tb mb dd s i m _ ?hs hi1 hi2).mono ?_
  case hs => exact HS.out.fr0 (((Fr.refl [] w).alloc _).alloc _)
  rw [HR.out]
  rintro e w1 ⟨rfl, h1⟩
  obtain ⟨h2, hb1, hb2, hz⟩ := h1.new2 (by simp)
  clear h1
  have hc2 := cell_of hb2
  have hf2 := free_of hb2
  go_wp2
  refine bodyPost_ret (v := .tuple #[spV r.1.at_, .int .i64 r.2]) (by simp [results, Try.results19, go_sem, hc2, hz]) rfl ⟨by rw [HR.out], ?_⟩
  exact (((h2.setCell (.inr (by simp)) _).setCell (.inr (by simp)) _).alloc _)

theorem numC (n : Int) (w : World) : Calls Try.prog 16 #[.int .i64 n] w fun e w1 => e = .returned (V.mk 1 n ⟨#[]⟩).val ∧ Fr [] w w1 := by
  go_enter Try.func16, Try.ntmps16
  go_wp2
  refine bodyPost_ret (v := (V.mk 1 n ⟨#[]⟩).val) (by simp [results, Try.results16, go_sem]) rfl ⟨rfl, (Fr.refl _ _).alloc _⟩
end Go.Proofs.Ytldppdafgbipjaa
