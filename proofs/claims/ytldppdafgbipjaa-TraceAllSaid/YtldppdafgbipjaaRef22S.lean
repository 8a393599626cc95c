/-
  The document's trace store: contract of Same.
-/
import Derived.Test.YtldppdafgbipjaaRef22R
namespace Go.Proofs.Ytldppdafgbipjaa
open Go.RowKit
attribute [local go_sem] ob_alloc ob_alloc2 ob_alloc3 ob_alloc4 ob_drew ob_drewN ob_setCell

set_option maxRecDepth 100000 in
theorem refSame_no (p T : Nat) (dd : Int) (s : Sp) (i : Int) (v : V) (m : List (Sp × Tr)) (w : World) (h : RefIs w p T dd m) (hE : (entO (getS s m) i).2 ≠ 0) :
    Calls Try.prog 95 #[.pointer (some ⟨p, 0, none⟩), spV s, .int .i64 i, v.val] w fun e w1 => e = .returned (.tuple #[.bool false, .bool false, .int .i64 (entO (getS s m) i).2]) ∧ Fr [] w w1 := by
  have HS := Lib.hid h
  obtain ⟨E, he⟩ : ∃ E, (entO (getS s m) i).2 = E := ⟨_, rfl⟩
  rw [he] at hE ⊢
  have hrb : (E != 0) = true := by rw [bne_iff_ne]; exact hE
  have HE := Lib.hid he
  clear h hE he
  go_enter Try.func95, Try.ntmps95
  go_wp2_with fail
  refine (refEntry p T dd s i m _ ?hs).mono ?_
  case hs => exact HS.out.fr0 (((Fr.refl [] w).alloc _).alloc _)
  rw [HE.out]
  rintro e w1 ⟨rfl, h1⟩
  go_wp2
  go_ret3
  exact ⟨rfl, (((Fr.refl [] w).alloc _).alloc _).transS h1⟩

set_option maxRecDepth 100000 in
theorem refSame_bad (p T : Nat) (dd : Int) (s : Sp) (i : Int) (v : V) (m : List (Sp × Tr)) (w : World) (h : RefIs w p T dd m) (hE : (entO (getS s m) i).2 = 0) (hvs : v.s.size ≤ 9223372036854775807) (hv : mayV v = false) :
    Calls Try.prog 95 #[.pointer (some ⟨p, 0, none⟩), spV s, .int .i64 i, v.val] w fun e w1 => e = .returned (.tuple #[.bool false, .bool false, .int .i64 24]) ∧ Fr [] w w1 := by
  have HS := Lib.hid h
  have HE := Lib.hid hE
  have HV := Lib.hid hv
  clear h hE hv
  go_enter Try.func95, Try.ntmps95
  go_wp2_with fail
  refine (refEntry p T dd s i m _ ?hs).mono ?_
  case hs => exact HS.out.fr0 (((Fr.refl [] w).alloc _).alloc _)
  rw [HE.out]
  rintro e w1 ⟨rfl, h1⟩
  obtain ⟨h2, hb1, hb2, hz⟩ := h1.new2 (by simp)
  clear h1
  have hc2 := cell_of hb2
  go_wp2_with fail
  refine (refMay v _ hvs).mono ?_
  rw [HV.out]
  rintro e w2 ⟨rfl, h3⟩
  go_wp2
  go_ret3
  exact ⟨rfl, h2.trans0 h3⟩

set_option maxRecDepth 100000 in
set_option maxHeartbeats 1600000 in
theorem refSame_in (p T : Nat) (dd : Int) (s : Sp) (k : Nat) (v x : V) (m : List (Sp × Tr)) (w : World) (es : Array MapEntry) (clock : Nat) (a b : Int) (t : ByteArray) (dp : Option Addr) (g off : Nat) (n dc : Nat) (xc : Nat)
    (h : RefIs w p T dd m) (hE : (entO (getS s m) (k : Int)).2 = 0) (hvs : v.s.size ≤ 9223372036854775807) (hv : mayV v = true) (hxs : x.s.size ≤ 9223372036854775807)
    (hb : ob w T = some (.map es clock)) (hlm : T < w.heap.size)
    (hlook : ∀ W : World, ob W T = some (.map es clock) → (Instr.lookup tM (.map (some T)) (spV s) false).run Try.prog W = .ok (.agg #[.int .i64 a, .int .i64 b, .string t, .slice dp n dc, .slice (some ⟨g, off, none⟩) n xc]) W) (hk : k < n)
    (hg : g < w.heap.size) (c0 : w.cell? ⟨g, off + k * 3, none⟩ = some (.int .i64 x.k)) (c1 : w.cell? ⟨g, off + k * 3 + 1, none⟩ = some (.int .i64 x.n)) (c2 : w.cell? ⟨g, off + k * 3 + 2, none⟩ = some (.string x.s)) :
    Calls Try.prog 95 #[.pointer (some ⟨p, 0, none⟩), spV s, .int .i64 (k : Int), v.val] w fun e w1 => e = .returned (.tuple #[.bool (sameVB x v), .bool (sumV x dd == sumV v dd), .int .i64 0]) ∧ Fr [] w w1 := by
  have HS := Lib.hid h
  have HE := Lib.hid hE
  have HV := Lib.hid hv
  have hst := h.st
  have hwd := h.wd
  have HP := Lib.hid hst
  clear h hE hv hst
  go_enter Try.func95, Try.ntmps95
  go_wp2_with fail
  refine (refEntry p T dd s (k : Int) m _ ?hs).mono ?_
  case hs => exact HS.out.fr0 (((Fr.refl [] w).alloc _).alloc _)
  rw [HE.out]
  rintro e w1 ⟨rfl, h1⟩
  obtain ⟨h2, hb1, hb2, hz⟩ := h1.new2 (by simp)
  clear h1
  have hc2 := cell_of hb2
  go_wp2_with fail
  refine (refMay v _ hvs).mono ?_
  rw [HV.out]
  rintro e w2 ⟨rfl, h3⟩
  have hF := h2.trans0 h3
  have h0 : w2.cell? ⟨p, 1, none⟩ = some (.map (some T)) := cell_of (hF.heap HP.out (by simp)) 1
  have hlt := lt_of (hF.heap HP.out (by simp))
  have c0 := (hF.cell (p := ⟨g, off + k * 3, none⟩) hg (by simp)).trans c0
  have c1 := (hF.cell (p := ⟨g, off + k * 3 + 1, none⟩) hg (by simp)).trans c1
  have c2 := (hF.cell (p := ⟨g, off + k * 3 + 2, none⟩) hg (by simp)).trans c2
  have hb : ob w2 T = some (.map es clock) := (hF.block T hlm (by simp)).trans hb
  have hlm := lt_of hb
  have hB1 := h3.heap hb1 (by simp)
  have hB2 := h3.heap hb2 (by simp)
  have hc1 := cell_of hB1
  have hc2 := cell_of hB2
  have hk1 : (k : Int) < (n : Int) := by omega
  have hk2 : (0 : Int) ≤ (k : Int) := by omega
  have hlt1 : ∀ k, p < w2.heap.size + k := fun k => by omega
  have hlm1 : ∀ k, T < w2.heap.size + k := fun k => by omega
  have hBl := lt_of hB2
  have hBl0 : w.heap.size < w2.heap.size := by omega
  have hBl1 : ∀ k, w.heap.size < w2.heap.size + k := fun k => by omega
  have hgl : g < w2.heap.size := Nat.lt_of_lt_of_le hg hF.size
  have hgl1 : ∀ k, g < w2.heap.size + k := fun k => by omega
  have hfld := fld2 a b t (.slice dp n dc) (.slice (some ⟨g, off, none⟩) n xc)
  clear hb1 hb2 h2 h3 hg
  go_wp2_with fail
  go_region
  have hF3 : Fr [] w2 ((w2.alloc (.cells #[.int .i64 x.k, .int .i64 x.n, .string x.s] tVa)).drew) := ((Fr.refl [] w2).alloc _).drew
  have hbX : ((w2.alloc (.cells #[.int .i64 x.k, .int .i64 x.n, .string x.s] tVa)).drew).heap[w2.heap.size]? = some (.cells #[.int .i64 x.k, .int .i64 x.n, .string x.s] tVa (0, 0)) := heap_new w2 _
  have hB2 := hF3.heap hB2 (by simp)
  have hF := hF.trans0 hF3
  have hPc := hF.heap HP.out (by simp)
  generalize (w2.alloc (.cells #[.int .i64 x.k, .int .i64 x.n, .string x.s] tVa)).drew = W at *
  generalize w2.heap.size = X at *
  clear hF3 h0 hlt c0 c1 c2 hb hlm hB1 hc1 hc2 hk1 hk2 hlt1 hlm1 hBl hBl0 hBl1 hgl hgl1 hfld hlook
  have hXl := lt_of hbX
  have hVl := lt_of hB2
  have hPl := lt_of hPc
  have hx0 : W.cell? ⟨X, 0, none⟩ = some (.int .i64 x.k) := cell_of hbX 0
  have hx1 : W.cell? ⟨X, 1, none⟩ = some (.int .i64 x.n) := cell_of hbX 1
  have hx2 : W.cell? ⟨X, 2, none⟩ = some (.string x.s) := cell_of hbX 2
  have hv0 : W.cell? ⟨w.heap.size + 1, 0, none⟩ = some (.int .i64 v.k) := cell_of hB2 0
  have hv1 : W.cell? ⟨w.heap.size + 1, 1, none⟩ = some (.int .i64 v.n) := cell_of hB2 1
  have hv2 : W.cell? ⟨w.heap.size + 1, 2, none⟩ = some (.string v.s) := cell_of hB2 2
  have hp0 : W.cell? ⟨p, 0, none⟩ = some (.int .i64 dd) := cell_of hPc 0
  go_upto_region 8 with fail
  go_cut [14] (fun s14 wx => s14 = .int .u64 (sumV x dd) ∧ Fr [] W wx)
  case first =>
    go_region_held3 (fun u => u.cell? ⟨X, 0, none⟩ = some (.int .i64 x.k) ∧ u.cell? ⟨X, 1, none⟩ = some (.int .i64 x.n) ∧ u.cell? ⟨X, 2, none⟩ = some (.string x.s) ∧ u.cell? ⟨p, 0, none⟩ = some (.int .i64 dd))
      (first | exact ⟨hx0, hx1, hx2, hp0⟩ | exact hS3)
      ((go_at_call 121; refine (refSum x dd _ hxs hwd.1 hwd.2).mono ?_; rintro e w3 ⟨rfl, h3⟩; have h5 : Fr [] W w3 := ((Fr.refl [] W).drew).transS h3; have hS3 : w3.cell? ⟨X, 0, none⟩ = some (.int .i64 x.k) ∧ w3.cell? ⟨X, 1, none⟩ = some (.int .i64 x.n) ∧ w3.cell? ⟨X, 2, none⟩ = some (.string x.s) ∧ w3.cell? ⟨p, 0, none⟩ = some (.int .i64 dd) := ⟨ce_call h5 hx0, ce_call h5 hx1, ce_call h5 hx2, ce_call h5 hp0⟩))
    go_wp2_with fail
    go_meet
    exact ⟨rfl, h5⟩
  case rest =>
    obtain ⟨rfl, hWx⟩ := hcut
    have hx0 := ce_call hWx hx0
    have hx1 := ce_call hWx hx1
    have hx2 := ce_call hWx hx2
    have hv0 := ce_call hWx hv0
    have hv1 := ce_call hWx hv1
    have hv2 := ce_call hWx hv2
    have hp0 := ce_call hWx hp0
    have hF := hF.trans0 hWx
    clear hWx hbX hB2 hPc
    go_upto_region 9 with fail
    go_cut [16] (fun s16 wx => s16 = .int .u64 (sumV v dd) ∧ Fr [] wc wx)
    case first =>
      go_region_held3 (fun u => u.cell? ⟨w.heap.size + 1, 0, none⟩ = some (.int .i64 v.k) ∧ u.cell? ⟨w.heap.size + 1, 1, none⟩ = some (.int .i64 v.n) ∧ u.cell? ⟨w.heap.size + 1, 2, none⟩ = some (.string v.s) ∧ u.cell? ⟨p, 0, none⟩ = some (.int .i64 dd))
        (first | exact ⟨hv0, hv1, hv2, hp0⟩ | exact hS3)
        ((go_at_call 121; refine (refSum v dd _ hvs hwd.1 hwd.2).mono ?_; rintro e w3 ⟨rfl, h3⟩; have h5 : Fr [] wc w3 := ((Fr.refl [] wc).drew).transS h3; have hS3 : w3.cell? ⟨w.heap.size + 1, 0, none⟩ = some (.int .i64 v.k) ∧ w3.cell? ⟨w.heap.size + 1, 1, none⟩ = some (.int .i64 v.n) ∧ w3.cell? ⟨w.heap.size + 1, 2, none⟩ = some (.string v.s) ∧ w3.cell? ⟨p, 0, none⟩ = some (.int .i64 dd) := ⟨ce_call h5 hv0, ce_call h5 hv1, ce_call h5 hv2, ce_call h5 hp0⟩))
      go_wp2_with fail
      go_meet
      exact ⟨rfl, h5⟩
    case rest =>
      obtain ⟨rfl, hWy⟩ := hcut
      have hx0 := ce_call hWy hx0
      have hx1 := ce_call hWy hx1
      have hx2 := ce_call hWy hx2
      have hv0 := ce_call hWy hv0
      have hv1 := ce_call hWy hv1
      have hv2 := ce_call hWy hv2
      have hF := hF.trans0 hWy
      go_wp2_with fail
      refine (refSame x v _).mono ?_
      rintro e w4 ⟨rfl, h6⟩
      go_wp2
      go_ret3
      exact ⟨rfl, hF.trans0 h6⟩

theorem refSameO (p T : Nat) (dd : Int) (s : Sp) (i : Int) (v : V) (m : List (Sp × Tr)) (w : World) (h : RefIs w p T dd m) (hvs : v.s.size ≤ 9223372036854775807)
    (hG : ∀ e ∈ esO (getS s m), e.v.s.size ≤ 9223372036854775807 ∧ e.sum = sumV e.v dd) :
    Calls Try.prog 95 #[.pointer (some ⟨p, 0, none⟩), spV s, .int .i64 i, v.val] w fun e w1 =>
      e = .returned (.tuple #[.bool (sameO dd (getS s m) i v).1, .bool (sameO dd (getS s m) i v).2.1, .int .i64 (sameO dd (getS s m) i v).2.2]) ∧ Fr [] w w1 := by
  unfold sameO
  by_cases hE : (entO (getS s m) i).2 = 0
  · rw [if_neg (by rw [hE]; simp)]
    cases hv : mayV v with
    | false =>
      rw [if_pos rfl]
      exact refSame_bad p T dd s i v m w h hE hvs hv
    | true =>
      rw [if_neg (by simp)]
      obtain ⟨k, rfl, hk, hkn, he⟩ := entO_in hE
      obtain ⟨es, clock, dp, dc, xp, xc, L⟩ := h.look s
      obtain ⟨g, off, c, e, hg, hc⟩ := L.xs.cell (by omega)
      cases e
      have hkl : k < ((esO (getS s m)).map (·.v)).length := by rw [List.length_map]; exact hk
      have hd : ((esO (getS s m)).map (·.v))[k] = (esO (getS s m))[k].v := List.getElem_map _
      have c0 := hc (k * 3 + 0) _ (by rw [flat_get vC 3 (fun _ => rfl) _ k 0 hkl (by omega), hd]; rfl)
      have c1 := hc (k * 3 + 1) _ (by rw [flat_get vC 3 (fun _ => rfl) _ k 1 hkl (by omega), hd]; rfl)
      have c2 := hc (k * 3 + 2) _ (by rw [flat_get vC 3 (fun _ => rfl) _ k 2 hkl (by omega), hd]; rfl)
      obtain ⟨hs1, hs2⟩ := hG _ (List.getElem_mem hk)
      refine (refSame_in p T dd s k v _ m w es clock _ _ _ dp g off _ dc xc h hE hvs hv hs1 L.hb (lt_of L.hb) L.l0 hkn hg c0 c1 c2).mono ?_
      rintro e w1 ⟨rfl, hf⟩
      refine ⟨?_, hf⟩
      rw [he, hs2]
      generalize hx : (esO (getS s m))[k].v = x
      have e1 : (sumV x dd == sumV v dd) = decide (sumV v dd = sumV x dd) := by
        rw [Bool.eq_iff_iff, beq_iff_eq, decide_eq_true_iff]
        exact eq_comm
      rw [e1]
      cases hsm : sameVB x v with
      | false => simp
      | true =>
        have hxv : bytesV x = bytesV v := by
          obtain ⟨k1, n1, s1⟩ := x
          obtain ⟨k2, n2, s2⟩ := v
          simp only [sameVB, decide_eq_true_eq] at hsm
          obtain ⟨rfl, rfl, hs⟩ := hsm
          rw [ByteArray.toList_eq, ByteArray.toList_eq] at hs
          have : s1 = s2 := by
            obtain ⟨⟨d1⟩⟩ := s1
            obtain ⟨⟨d2⟩⟩ := s2
            simp only at hs
            rw [hs]
          rw [this]
        have : sumV v dd = sumV x dd := by unfold sumV; rw [hxv]
        simp [this]
  · rw [if_pos hE]
    exact refSame_no p T dd s i v m w h hE
end Go.Proofs.Ytldppdafgbipjaa
