/-
  quadrillelaw22's (*pair).plays, whole; (*pair).all.
-/
import Derived.Test.YtldppdafgbipjaaPlays22
import Derived.Test.YtldppdafgbipjaaPlays22B
import Derived.Test.YtldppdafgbipjaaPlays22C
namespace Go.Proofs.Ytldppdafgbipjaa
open Go.RowKit

theorem OpOk.fr0 {N : Nat} {w w1 : World} {o : Op22} (h : OpOk N w o) (hf : Fr [] w w1) : OpOk N w1 o := ⟨h.ds.fr0 hf, h.vs.fr0 hf, h.dlow, h.vlow, h.sz, h.szs, h.dl, h.vl, h.i0, h.i1⟩
theorem PairIs.fr0 {N : Nat} {w w1 : World} {p tb mb rp T : Nat} {dd : Int} {m n : List (Sp × Tr)} (h : PairIs N w p tb mb rp T dd m n) (hf : Fr [] w w1) : PairIs N w1 p tb mb rp T dd m n :=
  ⟨h.st.fr0 hf, h.rf.fr0 hf, h.sm, h.gm, h.ne, h.n1, h.n2, h.n3⟩

set_option maxRecDepth 100000 in
theorem plays1 (N PB p tb mb rp T : Nat) (dd : Int) (m n : List (Sp × Tr)) (o : Op22) (w : World) (hk : o.k = 1) (hP : w.heap[PB]? = some (.cells #[.pointer (some ⟨p, 0, none⟩), .pointer (some ⟨rp, 0, none⟩)] tPr (0, 0)))
    (hN : N ≤ w.heap.size) (hI : PairIs N w p tb mb rp T dd m n) (hO : OpOk N w o) :
    Calls Try.prog 54 #[.pointer (some ⟨PB, 0, none⟩), o.val] w fun e w1 => e = .returned (.bool true) ∧
      PairIs N w1 p tb mb rp T dd (keepL dd o.s o.v o.ds o.vs m) (keepL dd o.s o.v o.ds o.vs n) ∧ Fr [tb, mb, T] w w1 := by
  have HI := Lib.hid hI
  have HO := Lib.hid hO
  have HP := Lib.hid hP
  obtain ⟨k, on, s, v, da, dc, ds, va, vc, vs, i⟩ := o
  subst hk
  clear hI hO hP
  go_enter Try.func54, Try.ntmps54
  go_wp2_with fail
  refine (keep22 N PB p tb mb rp T dd m n ⟨1, on, s, v, da, dc, ds, va, vc, vs, i⟩ _ (((Fr.refl [] w).alloc _).heap HP.out (by simp)) (by rw [World.size_alloc]; omega) (HI.out.fr0 ((Fr.refl [] w).alloc _)) (HO.out.fr0 ((Fr.refl [] w).alloc _))).mono ?_
  rintro e w1 ⟨rfl, h1, h2⟩
  have h3 := ((Fr.refl [] w).alloc (.cells #[.int .i64 1, .int .i64 on, .int .i64 s.1, .int .i64 s.2, .int .i64 v.k, .int .i64 v.n, .string v.s, .slice da ds.length dc, .slice va vs.length vc, .int .i64 i] tOp)).mono (T := [tb, mb, T]) (by simp) |>.transS h2
  have H1 := Lib.hid h1
  have H3 := Lib.hid h3
  clear h1 h2 h3
  go_wp2
  go_ret
  exact ⟨rfl, H1.out, H3.out⟩

set_option maxRecDepth 100000 in
theorem plays0 (PB : Nat) (k on : Int) (s : Sp) (v : V) (da va : Option Addr) (dn dc vn vc : Nat) (i : Int) (w : World) (h1 : (k == 1) = false) (h2 : (k == 2) = false) (h3 : (k == 3) = false) (h4 : (k == 4) = false) (h5 : (k == 5) = false) (h6 : (k == 6) = false) :
    Calls Try.prog 54 #[.pointer (some ⟨PB, 0, none⟩), .agg #[.int .i64 k, .int .i64 on, .int .i64 s.1, .int .i64 s.2, .int .i64 v.k, .int .i64 v.n, .string v.s, .slice da dn dc, .slice va vn vc, .int .i64 i]] w fun e w1 => e = .returned (.bool true) ∧ Fr [] w w1 := by
  go_enter Try.func54, Try.ntmps54
  go_wp2
  go_ret
  exact ⟨rfl, (Fr.refl [] w).alloc _⟩

theorem plays22 (N PB p tb mb rp T : Nat) (dd : Int) (m n : List (Sp × Tr)) (o : Op22) (w : World) (hP : w.heap[PB]? = some (.cells #[.pointer (some ⟨p, 0, none⟩), .pointer (some ⟨rp, 0, none⟩)] tPr (0, 0)))
    (hN : N ≤ w.heap.size) (hI : PairIs N w p tb mb rp T dd m n) (hO : OpOk N w o) :
    Calls Try.prog 54 #[.pointer (some ⟨PB, 0, none⟩), o.val] w fun e w1 => e = .returned (.bool true) ∧ ∃ m' n', PairIs N w1 p tb mb rp T dd m' n' ∧ Fr [tb, mb, T] w w1 := by
  have rd : ∀ {e : Ending} {w1 : World}, (e = .returned (.bool true) ∧ Fr [] w w1) → e = .returned (.bool true) ∧ ∃ m' n', PairIs N w1 p tb mb rp T dd m' n' ∧ Fr [tb, mb, T] w w1 := fun h => ⟨h.1, m, n, hI.fr0 h.2, h.2.mono (by simp)⟩
  obtain ⟨k, on, s, v, da, dc, ds, va, vc, vs, i⟩ := o
  by_cases h1 : k = 1
  · exact (plays1 N PB p tb mb rp T dd m n _ w h1 hP hN hI hO).mono fun e w1 h => ⟨h.1, _, _, h.2.1, h.2.2⟩
  by_cases h2 : k = 2
  · subst h2
    exact (plays2 PB p tb mb rp T dd m n on s v da va ds.length dc vs.length vc i w hP hI.st hI.rf (hI.sm s)).mono fun e w1 h => rd h
  by_cases h3 : k = 3
  · subst h3
    exact (plays3 PB p tb mb rp T dd m n on s v da va ds.length dc vs.length vc i w hP hI.st hI.rf (hI.sm s) hO.i0 hO.i1).mono fun e w1 h => rd h
  by_cases h4 : k = 4
  · subst h4
    exact (plays4 PB p tb mb rp T dd m n on s v da va ds.length dc vs.length vc i w hP hI.st hI.rf (hI.sm s) hO.i0 hO.i1 hO.sz hI.gm).mono fun e w1 h => rd h
  by_cases h5 : k = 5
  · subst h5
    exact (plays5 N PB p tb mb rp T dd m n on s v da va ds.length dc vs.length vc i w hP hI).mono fun e w1 h => ⟨h.1, _, _, h.2.1, h.2.2⟩
  by_cases h6 : k = 6
  · subst h6
    exact (plays6 N PB p tb mb rp T dd m n on s v da va ds.length dc vs.length vc i w hP hI).mono fun e w1 h => rd h
  exact (plays0 PB k on s v da va ds.length dc vs.length vc i w (beq_eq_false_iff_ne.2 h1) (beq_eq_false_iff_ne.2 h2) (beq_eq_false_iff_ne.2 h3) (beq_eq_false_iff_ne.2 h4) (beq_eq_false_iff_ne.2 h5) (beq_eq_false_iff_ne.2 h6)).mono fun e w1 h => rd h

set_option maxRecDepth 100000 in
set_option maxHeartbeats 3200000 in
theorem all22 (N PB p tb mb rp T : Nat) (dd : Int) (m n : List (Sp × Tr)) (w : World) (hP : w.heap[PB]? = some (.cells #[.pointer (some ⟨p, 0, none⟩), .pointer (some ⟨rp, 0, none⟩)] tPr (0, 0))) (hI : PairIs N w p tb mb rp T dd m n) :
    Calls Try.prog 55 #[.pointer (some ⟨PB, 0, none⟩)] w fun e w1 => e = .returned (.bool true) ∧ Fr [] w w1 := by
  have HI := Lib.hid hI
  have HP := Lib.hid hP
  have hkeys : Hid (sortS (n.map (·.1)) = sortS (m.map (·.1))) := Lib.hid (hI.sm.sort hI.gm.nd hI.rf.nodup).symm
  have hlen : (sortS (m.map (·.1))).length ≤ 65536 := by rw [(sortS_perm _).length_eq, List.length_map]; exact hI.gm.le
  have hGn : Hid (n.length ≤ 65536) := Lib.hid (hI.gm.same hI.sm hI.rf.nodup).le
  have hGm := Lib.hid hI.gm.le
  generalize hL : sortS (m.map (·.1)) = L at *
  have HL := Lib.hid hL
  have hPc := cell_of hP
  clear hI hP hL
  go_enter Try.func55, Try.ntmps55
  go_wp2_with fail
  refine (refAll rp T dd n _ HI.out.rf hGn.out).mono ?_
  rw [hkeys.out]
  rintro e w1 ⟨v1, rfl, hr1, _, h1⟩
  have hPc := cell_of (h1.heap HP.out (by simp))
  go_wp2_with fail
  refine (storeAll p tb mb dd m _ (HI.out.st.fr0 h1) hGm.out).mono ?_
  rw [HL.out]
  rintro e w2 ⟨v2, rfl, hr2, h2⟩
  have h12 := h1.trans0 h2
  go_wp2_with fail
  refine (spotsC _ _ L _ (SlAt.of_owns hr2) (hr1.fr0 h2)).mono ?_
  rintro e w3 ⟨rfl, h3⟩
  have hs1 := (hr1.fr0 h2).fr0 h3
  obtain ⟨q1, c1, rfl, _, _⟩ := hs1.form
  have HS1 := Lib.hid hs1
  have HF := Lib.hid (h12.trans0 h3)
  have hll : (L.length : Int) ≤ 65536 := by omega
  clear hr1 hr2 h1 h2 h12 h3 hs1 hPc
  go_wp2_with fail
  go_loopw [5, 6, 7, 8, 9] (fun i _ _ _ _ wr => ∃ k : Nat, i = .int .i64 (k : Int) ∧ k ≤ L.length ∧ Fr [] w3 wr) (fun i _ _ _ _ _ => L.length - (intOf i).toNat)
  case atStart => exact ⟨0, rfl, by omega, Fr.refl _ _⟩
  case round =>
    obtain ⟨k, rfl, hk, hf⟩ := hrel
    by_cases hlt : k < L.length
    · obtain ⟨b, off, _, e, hb, a0, a1⟩ := spots_cells (HS1.out.fr0 hf) hlt
      cases e
      have hk1 : (k : Int) < (L.length : Int) := by omega
      have hk2 : (0 : Int) ≤ (k : Int) := by omega
      generalize L[k] = s at *
      have HW := Lib.hid (HF.out.trans0 hf)
      have HFR := Lib.hid hf
      clear hf
      go_wp2_with fail
      refine (plays2 PB p tb mb rp T dd m n 0 s ⟨0, 0, ⟨#[]⟩⟩ none none 0 0 0 0 0 _ (HW.out.heap HP.out (by simp)) (HI.out.st.fr0 HW.out) (HI.out.rf.fr0 HW.out) (HI.out.sm s)).mono ?_
      rintro e w5 ⟨rfl, h5⟩
      have a0 := ce_call h5 a0
      have a1 := ce_call h5 a1
      have HW5 := Lib.hid (HW.out.trans0 h5)
      have hPB := HW5.out.heap HP.out (by simp)
      have p1 : w5.cell? ⟨PB, 1, none⟩ = some (.pointer (some ⟨rp, 0, none⟩)) := cell_of hPB 1
      have HF5 := Lib.hid (HFR.out.trans0 h5)
      obtain ⟨ln, hln⟩ : ∃ ln, lenO (getS s n) = ln := ⟨_, rfl⟩
      have HLN := Lib.hid hln
      clear hPB h5 hln
      go_upto_region 11 with fail
      go_cut [7] (fun s7 wx => s7 = .int .i64 (ln : Int) ∧ Fr [] w5 wx)
      case first =>
        go_region_held3 (fun u => u.cell? ⟨PB, 1, none⟩ = some (.pointer (some ⟨rp, 0, none⟩)) ∧ u.cell? ⟨b, off + k * 2, none⟩ = some (.int .i64 s.1) ∧ u.cell? ⟨b, off + k * 2 + 1, none⟩ = some (.int .i64 s.2))
          (first | with_reducible exact ⟨p1, a0, a1⟩ | with_reducible exact ⟨ce_drew p1, ce_drew a0, ce_drew a1⟩ | with_reducible exact hS3)
          ((go_at_call 93; refine (refLen rp T dd s n _ ((HI.out.rf.fr0 HW5.out).fr0 ((Fr.refl [] w5).drew))).mono ?_; rw [HLN.out]; rintro e w6 ⟨rfl, h6⟩; have h4 : Fr [] w5 w6 := ((Fr.refl [] w5).drew).transS h6; have hS3 : w6.cell? ⟨PB, 1, none⟩ = some (.pointer (some ⟨rp, 0, none⟩)) ∧ w6.cell? ⟨b, off + k * 2, none⟩ = some (.int .i64 s.1) ∧ w6.cell? ⟨b, off + k * 2 + 1, none⟩ = some (.int .i64 s.2) := ⟨ce_call h4 p1, ce_call h4 a0, ce_call h4 a1⟩))
        all_goals
          go_wp2_with fail
          go_meet
          exact ⟨rfl, h4⟩
      case rest =>
        obtain ⟨rfl, hWx⟩ := hcut
        have HW6 := Lib.hid (HW5.out.trans0 hWx)
        have a0 := ce_call hWx a0
        have a1 := ce_call hWx a1
        have HF6 := Lib.hid (HF5.out.trans0 hWx)
        clear hWx p1
        go_wp2_with fail
        go_loopw [8, 9] (fun j _ wx => ∃ q : Nat, j = .int .i64 (q : Int) ∧ q ≤ 100 ∧ Fr [] wc wx) (fun j _ _ => 100 - (intOf j).toNat)
        case atStart => exact ⟨0, rfl, by omega, Fr.refl _ _⟩
        case round =>
          obtain ⟨q, rfl, hq, hfx⟩ := hrel
          have a0 := ce_call hfx a0
          have a1 := ce_call hfx a1
          have HW7 := Lib.hid (HW6.out.trans0 hfx)
          by_cases hq1 : (q : Int) < (ln : Int)
          · by_cases hq2 : (q : Int) < 100
            · go_wp2_with fail
              refine (plays3 PB p tb mb rp T dd m n 0 s ⟨0, 0, ⟨#[]⟩⟩ none none 0 0 0 0 (q : Int) _ (HW7.out.heap HP.out (by simp)) (HI.out.st.fr0 HW7.out) (HI.out.rf.fr0 HW7.out) (HI.out.sm s) (by omega) (by omega)).mono ?_
              rintro e w8 ⟨rfl, h8⟩
              go_wp2
              go_roundw
              case rel => exact ⟨q + 1, by go_num, by omega, hfx.trans0 h8⟩
              case measure => simp [intOf]; omega
            · go_wp2
              go_roundw
              case rel => exact ⟨k + 1, by go_num, by omega, HF6.out.trans0 hfx⟩
              case measure => simp [intOf]; omega
          · go_wp2
            go_roundw
            case rel => exact ⟨k + 1, by go_num, by omega, HF6.out.trans0 hfx⟩
            case measure => simp [intOf]; omega
    · obtain rfl : k = L.length := by omega
      go_wp2
      go_ret
      exact ⟨rfl, HF.out.trans0 hf⟩
end Go.Proofs.Ytldppdafgbipjaa
