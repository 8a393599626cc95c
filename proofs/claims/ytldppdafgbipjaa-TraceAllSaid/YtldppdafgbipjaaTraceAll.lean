/-
  The walk of quadrillelaw22.TraceAll.
-/
import Derived.Test.YtldppdafgbipjaaTwo22
import Derived.Test.YtldppdafgbipjaaBegun22
import Derived.Test.YtldppdafgbipjaaTraceAllNo
namespace Go.Proofs.Ytldppdafgbipjaa
open Go.RowKit

abbrev opC22 (o : Op22) : List Value := [.int .i64 o.k, .int .i64 o.on, .int .i64 o.s.1, .int .i64 o.s.2, .int .i64 o.v.k, .int .i64 o.v.n, .string o.v.s, .slice o.da o.ds.length o.dc, .slice o.va o.vs.length o.vc, .int .i64 o.i]
abbrev Ops22 (w : World) (v : Value) (ops : List Op22) : Prop := SlAt w v 10 ops.length (ops.flatMap opC22)
/-- What a call of the script brings along. -/
structure RawOk (w : World) (o : Op22) : Prop where
  ds : SpotsAt w (.slice o.da o.ds.length o.dc) o.ds
  vs : ValsAt w (.slice o.va o.vs.length o.vc) o.vs
  sz : o.v.s.size ≤ 9223372036854775807
  szs : ∀ x ∈ o.vs, x.s.size ≤ 9223372036854775807
  i0 : -9223372036854775808 ≤ o.i
  i1 : o.i ≤ 9223372036854775807
/-- The lists cut. -/
abbrev cutO (o : Op22) : Op22 := { o with ds := o.ds.take 3000, vs := o.vs.take 3000 }
theorem SlAt.cutL {α : Type} {w : World} {a : Option Addr} {c size : Nat} (f : α → List Value) (hf : ∀ x, (f x).length = size) {l : List α} (h : SlAt w (.slice a l.length c) size l.length (l.flatMap f)) (k : Nat) : SlAt w (.slice a (l.take k).length c) size (l.take k).length ((l.take k).flatMap f) := by
  rcases Nat.eq_zero_or_pos l.length with h0 | h0
  · have := List.eq_nil_of_length_eq_zero h0
    subst this
    simpa using h
  · obtain ⟨b, off, c', e, _, _⟩ := h.cell h0
    cases e
    have h1 := SlAt.front h (l.take k).length (by rw [List.length_take]; omega)
    rw [flat_take f size hf] at h1
    have e : l.take (l.take k).length = l.take k := by rw [List.length_take, ← List.take_take, List.take_length]
    rwa [e] at h1
theorem RawOk.cut {w : World} {o : Op22} (h : RawOk w o) : OpOk w.heap.size w (cutO o) := by
  have h1 := SlAt.cutL spC (fun _ => rfl) h.ds 3000
  have h2 := SlAt.cutL vC (fun _ => rfl) h.vs 3000
  refine ⟨h1, h2, h1.lowA, h2.lowA, h.sz, fun x hx => h.szs x (List.mem_of_mem_take hx), ?_, ?_, h.i0, h.i1⟩
  · show (o.ds.take 3000).length ≤ 65536
    rw [List.length_take]; omega
  · show (o.vs.take 3000).length ≤ 65536
    rw [List.length_take]; omega

theorem pair0 (N : Nat) (w : World) (p tb mb rp T : Nat) (dd : Int) (hS : StIs w p tb mb dd []) (hR : RefIs w rp T dd []) (hne : mb ≠ T) (h1 : N ≤ tb) (h2 : N ≤ mb) (h3 : N ≤ T) : PairIs N w p tb mb rp T dd [] [] :=
  ⟨hS, hR, fun _ => rfl, Good.nil dd, hne, h1, h2, h3⟩

set_option maxRecDepth 100000 in
set_option maxHeartbeats 6400000 in
theorem traceAll_ok (one two : Int) (v0 : Value) (ops : List Op22) (w : World) (hsp : Ops22 w v0 ops) (hop : ∀ o ∈ ops, RawOk w o) (h1 : 0 ≤ one ∧ one ≤ 64) (h2 : 0 ≤ two ∧ two ≤ 64) : Calls Try.prog 11 #[.int .i64 one, .int .i64 two, v0] w fun e w1 => e = .returned (.bool true) ∧ Fr [] w w1 := by
  have HSP := Lib.hid hsp
  have HOP := Lib.hid hop
  obtain ⟨da, dc, rfl, hdc1, hdc2⟩ := hsp.form
  clear hsp hop
  obtain ⟨ha1, ha2⟩ := h1
  obtain ⟨hb1, hb2⟩ := h2
  go_enter Try.func11, Try.ntmps11
  go_wp2_with fail
  refine (begun22 _).mono ?_
  rintro e w1 ⟨rfl, f1⟩
  go_wp2_with fail
  have f1' : Fr [] w ((w1.alloc (.cells #[.pointer none, .pointer none] tPr)).alloc (.cells #[.pointer none, .pointer none] tPr)) := (f1.alloc _).alloc _
  have hA : ((w1.alloc (.cells #[.pointer none, .pointer none] tPr)).alloc (.cells #[.pointer none, .pointer none] tPr)).heap[w1.heap.size]? = some (.cells #[.pointer none, .pointer none] tPr (0, 0)) := hp_old (heap_new w1 _)
  have hB : ((w1.alloc (.cells #[.pointer none, .pointer none] tPr)).alloc (.cells #[.pointer none, .pointer none] tPr)).heap[w1.heap.size + 1]? = some (.cells #[.pointer none, .pointer none] tPr (0, 0)) := hp_new (by simp)
  have hzA := f1.size
  generalize (w1.alloc (.cells #[.pointer none, .pointer none] tPr)).alloc (.cells #[.pointer none, .pointer none] tPr) = W at *
  generalize w1.heap.size = A at *
  have hBl := lt_of hB
  clear f1
  refine (traceNew one _ ha1 ha2).mono ?_
  rintro e w2 ⟨p, tb, mb, rfl, _, ht, hm, hS, f2⟩
  have hA := f2.heap hA (by simp)
  have hB := f2.heap hB (by simp)
  have f1 := f1'.trans0 f2
  have hAc := cell_of hA
  have hAf := free_of hA
  have u2 : Fr [A] w2 (w2.setCell ⟨A, 0, none⟩ (.pointer (some ⟨p, 0, none⟩))) := (Fr.refl [A] w2).setCell (.inl (by simp)) _
  have hA' := set_of hA 0 (.pointer (some ⟨p, 0, none⟩))
  have hB' := u2.heap hB (by simp)
  have hS' := hS.frP hA u2
  have hz2 : (w2.setCell ⟨A, 0, none⟩ (.pointer (some ⟨p, 0, none⟩))).heap.size = w2.heap.size := by simp [World.setCell]
  obtain ⟨ct, kt⟩ := hS'.ltb
  obtain ⟨em, cm, km⟩ := hS'.lmb
  have lt1 := lt_of kt
  have lm1 := lt_of km
  have F2 : Fr [] w (w2.setCell ⟨A, 0, none⟩ (.pointer (some ⟨p, 0, none⟩))) := f1.trans u2 (by simp; omega)
  have hz1 := f2.size
  clear f1' f2 hS f1 u2 kt km
  go_wp2_with fail
  clear hA hB hAc hAf
  generalize w2.setCell ⟨A, 0, none⟩ (.pointer (some ⟨p, 0, none⟩)) = U2 at *
  refine (refNew one _ ha1 ha2).mono ?_
  rintro e w3 ⟨rp, T, rfl, _, hT, hR, f3⟩
  have hA := f3.heap hA' (by simp)
  have hB := f3.heap hB' (by simp)
  have hS := hS'.fr0 f3
  have f1 := F2.trans0 f3
  have hAc := cell_of hA
  have hAf := free_of hA
  have u3 : Fr [A] w3 (w3.setCell ⟨A, 1, none⟩ (.pointer (some ⟨rp, 0, none⟩))) := (Fr.refl [A] w3).setCell (.inl (by simp)) _
  have hA2 := set_of hA 1 (.pointer (some ⟨rp, 0, none⟩))
  have hB2 := u3.heap hB (by simp)
  have hI := pair0 w.heap.size _ p tb mb rp T one (hS.frP hA u3) (hR.frP hA u3) (by omega) (by have := F2.size; omega) (by have := F2.size; omega) (by have := F2.size; omega)
  have hz3 : (w3.setCell ⟨A, 1, none⟩ (.pointer (some ⟨rp, 0, none⟩))).heap.size = w3.heap.size := by simp [World.setCell]
  have F3 : Fr [] w (w3.setCell ⟨A, 1, none⟩ (.pointer (some ⟨rp, 0, none⟩))) := f1.trans u3 (by simp; omega)
  have HI := Lib.hid hI
  have hz4 := f3.size
  obtain ⟨eT, cT, kT⟩ := hR.lT
  have lT1 := lt_of kT
  clear hS' F2 f3 hS hR f1 u3 hA' hB' hI kT
  go_wp2_with fail
  clear hA hB hAc hAf
  generalize w3.setCell ⟨A, 1, none⟩ (.pointer (some ⟨rp, 0, none⟩)) = U3 at *
  refine (traceNew two _ hb1 hb2).mono ?_
  rintro e w4 ⟨q, ub, nb, rfl, _, hub, hnb, hS, f2⟩
  have hA := f2.heap hA2 (by simp)
  have hB := f2.heap hB2 (by simp)
  have hI := HI.out.fr0 f2
  have f1 := F3.trans0 f2
  have hBc := cell_of hB
  have hBf := free_of hB
  have u2 : Fr [A + 1] w4 (w4.setCell ⟨A + 1, 0, none⟩ (.pointer (some ⟨q, 0, none⟩))) := (Fr.refl [A + 1] w4).setCell (.inl (by simp)) _
  have hB' := set_of hB 0 (.pointer (some ⟨q, 0, none⟩))
  have hA' := u2.heap hA (by simp)
  have hS' := hS.frP hB u2
  have HI := Lib.hid (hI.frP hB u2)
  have hz5 : (w4.setCell ⟨A + 1, 0, none⟩ (.pointer (some ⟨q, 0, none⟩))).heap.size = w4.heap.size := by simp [World.setCell]
  obtain ⟨ct2, kt2⟩ := hS'.ltb
  obtain ⟨em2, cm2, km2⟩ := hS'.lmb
  have lt2 := lt_of kt2
  have lm2 := lt_of km2
  have F4 : Fr [] w (w4.setCell ⟨A + 1, 0, none⟩ (.pointer (some ⟨q, 0, none⟩))) := f1.trans u2 (by simp; omega)
  have hz6 := f2.size
  clear f2 hS f1 u2 kt2 km2 hI hA2 hB2
  go_wp2_with fail
  clear hA hB hBc hBf
  generalize w4.setCell ⟨A + 1, 0, none⟩ (.pointer (some ⟨q, 0, none⟩)) = U4 at *
  refine (refNew two _ hb1 hb2).mono ?_
  rintro e w5 ⟨rq, U, rfl, _, hUU, hR, f3⟩
  have hA := f3.heap hA' (by simp)
  have hB := f3.heap hB' (by simp)
  have hS := hS'.fr0 f3
  have hI := HI.out.fr0 f3
  have f1 := F4.trans0 f3
  have hBc := cell_of hB
  have hBf := free_of hB
  have u3 : Fr [A + 1] w5 (w5.setCell ⟨A + 1, 1, none⟩ (.pointer (some ⟨rq, 0, none⟩))) := (Fr.refl [A + 1] w5).setCell (.inl (by simp)) _
  have hB2 := set_of hB 1 (.pointer (some ⟨rq, 0, none⟩))
  have hA2 := u3.heap hA (by simp)
  have hJ := pair0 w.heap.size _ q ub nb rq U two (hS.frP hB u3) (hR.frP hB u3) (by omega) (by have := F4.size; omega) (by have := F4.size; omega) (by have := F4.size; omega)
  have F5 := Lib.hid (f1.trans u3 (by simp; omega) : Fr [] w (w5.setCell ⟨A + 1, 1, none⟩ (.pointer (some ⟨rq, 0, none⟩))))
  have HT := Lib.hid (⟨⟨p, tb, mb, rp, T, one, [], [], q, ub, nb, rq, U, two, [], [], ⟨hA2, hI.frP hB u3⟩, ⟨hB2, hJ⟩, fun g hg hm => by
    simp only [List.mem_cons, List.not_mem_nil, or_false] at hg hm
    omega⟩, by omega, by omega, by omega⟩ : Two22 w.heap.size _ A (A + 1))
  have HA2 := Lib.hid hA2
  have HB2 := Lib.hid hB2
  have hAc := cell_of hA
  have hne : A + 1 ≠ A := by omega
  clear hS' F4 f3 hS hR f1 u3 hA' hB' hI hJ HI hA2 hB2 hA
  go_upto_region 11 with fail
  clear hB hBc hBf hAc hne
  generalize w5.setCell ⟨A + 1, 1, none⟩ (.pointer (some ⟨rq, 0, none⟩)) = W9 at *
  go_wp2_with fail
  clear hz1 hz2 hz3 hz4 hz5 hz6 lt1 lm1 lt2 lm2 lT1 ht hm hT hub hnb hUU hBl hzA HA2 HB2
  go_loopw [13, 14, 15, 16, 17] (fun i _ _ _ _ wr => ∃ k : Nat, i = .int .i64 (k : Int) ∧ k ≤ ops.length ∧ Two22 w.heap.size wr A (A + 1) ∧ Fr [] w wr) (fun i _ _ _ _ _ => ops.length - (intOf i).toNat)
  case atStart => exact ⟨0, rfl, by omega, HT.out, F5.out⟩
  case round =>
    obtain ⟨k, rfl, hk, hT, hfr⟩ := hrel
    have HT := Lib.hid hT
    have HFR := Lib.hid hfr
    have hzr := hfr.size
    clear hT hfr
    by_cases hlt : (k : Int) < (ops.length : Int)
    · obtain ⟨b, off, c, ec, hb, hc⟩ := HSP.out.cell (by omega)
      cases ec
      have hka : k < ops.length := by omega
      obtain ⟨o, hoe⟩ : ∃ o, ops[k] = o := ⟨_, rfl⟩
      have HRO : Hid (RawOk w o) := by show RawOk w o; rw [← hoe]; exact HOP.out _ (List.getElem_mem hka)
      have c0 : wr.cell? ⟨b, off + k * 10, none⟩ = some (.int .i64 o.k) := (HFR.out.cell (p := ⟨b, off + k * 10, none⟩) hb (by simp)).trans (hc (k * 10 + 0) _ (by rw [flat_get opC22 10 (fun _ => rfl) ops k 0 hka (by omega), hoe]; rfl))
      have c1 : wr.cell? ⟨b, off + k * 10 + 1, none⟩ = some (.int .i64 o.on) := (HFR.out.cell (p := ⟨b, off + k * 10 + 1, none⟩) hb (by simp)).trans (hc (k * 10 + 1) _ (by rw [flat_get opC22 10 (fun _ => rfl) ops k 1 hka (by omega), hoe]; rfl))
      have c2 : wr.cell? ⟨b, off + k * 10 + 2, none⟩ = some (.int .i64 o.s.1) := (HFR.out.cell (p := ⟨b, off + k * 10 + 2, none⟩) hb (by simp)).trans (hc (k * 10 + 2) _ (by rw [flat_get opC22 10 (fun _ => rfl) ops k 2 hka (by omega), hoe]; rfl))
      have c3 : wr.cell? ⟨b, off + k * 10 + 3, none⟩ = some (.int .i64 o.s.2) := (HFR.out.cell (p := ⟨b, off + k * 10 + 3, none⟩) hb (by simp)).trans (hc (k * 10 + 3) _ (by rw [flat_get opC22 10 (fun _ => rfl) ops k 3 hka (by omega), hoe]; rfl))
      have c4 : wr.cell? ⟨b, off + k * 10 + 4, none⟩ = some (.int .i64 o.v.k) := (HFR.out.cell (p := ⟨b, off + k * 10 + 4, none⟩) hb (by simp)).trans (hc (k * 10 + 4) _ (by rw [flat_get opC22 10 (fun _ => rfl) ops k 4 hka (by omega), hoe]; rfl))
      have c5 : wr.cell? ⟨b, off + k * 10 + 5, none⟩ = some (.int .i64 o.v.n) := (HFR.out.cell (p := ⟨b, off + k * 10 + 5, none⟩) hb (by simp)).trans (hc (k * 10 + 5) _ (by rw [flat_get opC22 10 (fun _ => rfl) ops k 5 hka (by omega), hoe]; rfl))
      have c6 : wr.cell? ⟨b, off + k * 10 + 6, none⟩ = some (.string o.v.s) := (HFR.out.cell (p := ⟨b, off + k * 10 + 6, none⟩) hb (by simp)).trans (hc (k * 10 + 6) _ (by rw [flat_get opC22 10 (fun _ => rfl) ops k 6 hka (by omega), hoe]; rfl))
      have c7 : wr.cell? ⟨b, off + k * 10 + 7, none⟩ = some (.slice o.da o.ds.length o.dc) := (HFR.out.cell (p := ⟨b, off + k * 10 + 7, none⟩) hb (by simp)).trans (hc (k * 10 + 7) _ (by rw [flat_get opC22 10 (fun _ => rfl) ops k 7 hka (by omega), hoe]; rfl))
      have c8 : wr.cell? ⟨b, off + k * 10 + 8, none⟩ = some (.slice o.va o.vs.length o.vc) := (HFR.out.cell (p := ⟨b, off + k * 10 + 8, none⟩) hb (by simp)).trans (hc (k * 10 + 8) _ (by rw [flat_get opC22 10 (fun _ => rfl) ops k 8 hka (by omega), hoe]; rfl))
      have c9 : wr.cell? ⟨b, off + k * 10 + 9, none⟩ = some (.int .i64 o.i) := (HFR.out.cell (p := ⟨b, off + k * 10 + 9, none⟩) hb (by simp)).trans (hc (k * 10 + 9) _ (by rw [flat_get opC22 10 (fun _ => rfl) ops k 9 hka (by omega), hoe]; rfl))
      have hw1 : IntKind.i64.wrap ((k : Int) + 1) = (k : Int) + 1 := by rw [IntKind.wrap_i64]; omega
      have hk0 : (0 : Int) ≤ (k : Int) := by omega
      obtain ⟨dl, hdl⟩ : ∃ dl, o.ds.take 3000 = dl := ⟨_, rfl⟩
      obtain ⟨vl, hvl⟩ : ∃ vl, o.vs.take 3000 = vl := ⟨_, rfl⟩
      have HOK : Hid (OpOk w.heap.size w { o with ds := dl, vs := vl }) := by
        show OpOk _ _ _
        rw [← hdl, ← hvl]
        exact HRO.out.cut
      have HDL := Lib.hid hdl
      have HVL := Lib.hid hvl
      clear hc hoe hka hdl hvl
      go_upto_if 105 with fail
      clear c0 c1 c2 c3 c4 c5 c6 c7 c8 c9
      have hOB := heap_new wr (.cells #[.int .i64 o.k, .int .i64 o.on, .int .i64 o.s.1, .int .i64 o.s.2, .int .i64 o.v.k, .int .i64 o.v.n, .string o.v.s, .slice o.da o.ds.length o.dc, .slice o.va o.vs.length o.vc, .int .i64 o.i] tOp)
      have hW0 : Fr [] wr (wr.alloc (.cells #[.int .i64 o.k, .int .i64 o.on, .int .i64 o.s.1, .int .i64 o.s.2, .int .i64 o.v.k, .int .i64 o.v.n, .string o.v.s, .slice o.da o.ds.length o.dc, .slice o.va o.vs.length o.vc, .int .i64 o.i] tOp)) := (Fr.refl [] wr).alloc _
      generalize wr.alloc (.cells #[.int .i64 o.k, .int .i64 o.on, .int .i64 o.s.1, .int .i64 o.s.2, .int .i64 o.v.k, .int .i64 o.v.n, .string o.v.s, .slice o.da o.ds.length o.dc, .slice o.va o.vs.length o.vc, .int .i64 o.i] tOp) = W0 at *
      go_cut [14] (fun s14 wx => s14 = .pointer (some ⟨wr.heap.size, 0, none⟩) ∧ wx.heap[wr.heap.size]? = some (.cells #[.int .i64 o.k, .int .i64 o.on, .int .i64 o.s.1, .int .i64 o.s.2, .int .i64 o.v.k, .int .i64 o.v.n, .string o.v.s, .slice o.da dl.length o.dc, .slice o.va o.vs.length o.vc, .int .i64 o.i] tOp (0, 0)) ∧ Fr [] wr wx)
      case first =>
        have hcc := cell_of hOB
        have hff := free_of hOB
        by_cases hbig : (3000 : Int) < (o.ds.length : Int)
        · obtain ⟨b1, o1, _, e, _, _⟩ := HRO.out.ds.cell (by omega)
          have hdl := HRO.out.ds.form
          obtain ⟨_, _, e1, hd1, hd2⟩ := hdl
          injection e with e2 e3 e4
          injection e1 with e5 e6 e7
          have hle : 3000 ≤ o.dc := by omega
          have hle2 : (3000 : Int) ≤ (o.dc : Int) := by omega
          have e0 : dl.length = 3000 := by rw [← HDL.out, List.length_take]; omega
          rw [e2] at hcc
          clear e3 e4 e5 e6 e7 hd1 hd2
          go_wp2
          go_meet
          refine ⟨rfl, ?_, hW0.setCell (.inr (Nat.le_refl _)) _⟩
          rw [e0, e2]
          exact set_of hOB 7 _
        · have e0 : dl = o.ds := HDL.out.symm.trans (List.take_of_length_le (by omega))
          clear hcc hff
          go_wp2
          go_meet
          exact ⟨rfl, by rw [e0]; exact hOB, hW0⟩
      case rest =>
        obtain ⟨rfl, hOB, hW0⟩ := hcut
        have hcc := cell_of hOB
        go_upto_if 113 with fail
        clear hcc
        generalize wc = W0 at *
        go_cut [14] (fun s14 wx => s14 = .pointer (some ⟨wr.heap.size, 0, none⟩) ∧ wx.heap[wr.heap.size]? = some (.cells #[.int .i64 o.k, .int .i64 o.on, .int .i64 o.s.1, .int .i64 o.s.2, .int .i64 o.v.k, .int .i64 o.v.n, .string o.v.s, .slice o.da dl.length o.dc, .slice o.va vl.length o.vc, .int .i64 o.i] tOp (0, 0)) ∧ Fr [] wr wx)
        case first =>
          have hcc := cell_of hOB
          have hff := free_of hOB
          by_cases hbig : (3000 : Int) < (o.vs.length : Int)
          · obtain ⟨b1, o1, _, e, _, _⟩ := HRO.out.vs.cell (by omega)
            have hdl := HRO.out.vs.form
            obtain ⟨_, _, e1, hd1, hd2⟩ := hdl
            injection e with e2 e3 e4
            injection e1 with e5 e6 e7
            have hle : 3000 ≤ o.vc := by omega
            have hle2 : (3000 : Int) ≤ (o.vc : Int) := by omega
            have e0 : vl.length = 3000 := by rw [← HVL.out, List.length_take]; omega
            rw [e2] at hcc
            clear e3 e4 e5 e6 e7 hd1 hd2
            go_wp2
            go_meet
            refine ⟨rfl, ?_, hW0.setCell (.inr (Nat.le_refl _)) _⟩
            rw [e0, e2]
            exact set_of hOB 8 _
          · have e0 : vl = o.vs := HVL.out.symm.trans (List.take_of_length_le (by omega))
            clear hcc hff
            go_wp2
            go_meet
            exact ⟨rfl, by rw [e0]; exact hOB, hW0⟩
        case rest =>
          obtain ⟨rfl, hOB, hW0⟩ := hcut
          have hcc := cell_of hOB
          have HT0 := Lib.hid (HT.out.fr0 hW0)
          have HF0 := Lib.hid (HFR.out.trans0 hW0)
          have HO0 := Lib.hid (HOK.out.fr0 (HFR.out.trans0 hW0))
          have hz0 := hW0.size
          clear hOB hW0
          generalize wr.heap.size = OB at *
          generalize wc = W0 at *
          have hN : w.heap.size ≤ W0.heap.size := HF0.out.size
          go_upto_if 122 with fail
          go_cut [15, 16] (fun s15 s16 wx => ∃ P Q, s15 = .pointer (some ⟨P, 0, none⟩) ∧ s16 = .pointer (some ⟨Q, 0, none⟩) ∧ (P = A ∧ Q = A + 1 ∨ P = A + 1 ∧ Q = A) ∧ wx = W0)
          case first =>
            by_cases hon : o.on = 0
            · have hon1 : (o.on != 0) = false := by rw [hon]; rfl
              clear hcc hon
              go_wp2
              go_meet
              exact ⟨_, _, rfl, rfl, .inl ⟨rfl, rfl⟩, rfl⟩
            · have hon1 : (o.on != 0) = true := by rw [bne_iff_ne]; exact hon
              clear hcc hon
              go_wp2
              go_meet
              exact ⟨_, _, rfl, rfl, .inr ⟨rfl, rfl⟩, rfl⟩
          case rest =>
            obtain ⟨P, Q, rfl, rfl, hPQ, hwc⟩ := hcut
            rw [hwc]
            clear hwc
            have hT2 : Two22 w.heap.size W0 P Q := by
              rcases hPQ with ⟨rfl, rfl⟩ | ⟨rfl, rfl⟩
              · exact HT0.out
              · exact HT0.out.symm
            have back : ∀ w9 : World, Two22 w.heap.size w9 P Q → Two22 w.heap.size w9 A (A + 1) := fun w9 h => by
              rcases hPQ with ⟨rfl, rfl⟩ | ⟨rfl, rfl⟩
              · exact h
              · exact h.symm
            have BACK := Lib.hid back
            have HT2 := Lib.hid hT2
            clear hT2 back hPQ HT0
            go_upto_if 127 with fail
            by_cases hk7 : o.k = 7
            · have hk7b : (o.k == 7) = true := by rw [beq_iff_eq]; exact hk7
              clear hcc hk7
              obtain ⟨⟨p', tb', mb', rp', T', dd', m', n', q', ub', nb', rq', U', d2', m2', n2', hHA, hHB, hd⟩, hne, nP, nQ⟩ := HT2.out
              have hPc := cell_of hHA.pr
              have HHA := Lib.hid hHA
              have HQ0 := Lib.hid hHB.pr
              have hmay := hHA.pi.gm.mem
              have HMAY := Lib.hid hmay
              have hle := hHA.pi.gm.le
              have hne2 : Q ≠ P := fun e => hne e.symm
              clear hHA hHB hd hmay
              go_wp2_with fail
              refine (storeCopy p' tb' mb' dd' m' _ HHA.out.pi.st hle HMAY.out).mono ?_
              rintro e w6 ⟨p2, tb2, mb2, rfl, bp, bt, bm, hS2, f6⟩
              have hQ6 := f6.heap HQ0.out (by simp)
              have hQc := cell_of hQ6
              have hQf := free_of hQ6
              have hPc := cell_of (f6.heap HHA.out.pr (by simp))
              have u6 : Fr [Q] w6 (w6.setCell ⟨Q, 0, none⟩ (.pointer (some ⟨p2, 0, none⟩))) := (Fr.refl [Q] w6).setCell (.inl (by simp)) _
              have hQ7 := set_of hQ6 0 (.pointer (some ⟨p2, 0, none⟩))
              have hP7 := u6.heap (f6.heap HHA.out.pr (by simp)) (by simpa using hne)
              have hS7 := hS2.frP hQ6 u6
              have hR7 := (HHA.out.pi.rf.fr0 f6).frP hQ6 u6
              have g7 : Fr [Q] W0 (w6.setCell ⟨Q, 0, none⟩ (.pointer (some ⟨p2, 0, none⟩))) := (f6.mono (by simp)).transS u6
              have hz6 : (w6.setCell ⟨Q, 0, none⟩ (.pointer (some ⟨p2, 0, none⟩))).heap.size = w6.heap.size := by simp [World.setCell]
              have hz7 := f6.size
              obtain ⟨em9, cm9, km9⟩ := hS7.lmb
              have lm9 := lt_of km9
              clear f6 u6 hS2 km9
              go_wp2_with fail
              clear hQ6 hQc hQf hPc
              generalize w6.setCell ⟨Q, 0, none⟩ (.pointer (some ⟨p2, 0, none⟩)) = U6 at *
              refine (refCopy rp' T' dd' n' _ hR7).mono ?_
              rintro e w7 ⟨rp2, T2, n2, rfl, br, bT, hR8, hs8, f8⟩
              have hQ8 := f8.heap hQ7 (by simp)
              have hQc := cell_of hQ8
              have hQf := free_of hQ8
              have u8 : Fr [Q] w7 (w7.setCell ⟨Q, 1, none⟩ (.pointer (some ⟨rp2, 0, none⟩))) := (Fr.refl [Q] w7).setCell (.inl (by simp)) _
              have hQ9 := set_of hQ8 1 (.pointer (some ⟨rp2, 0, none⟩))
              have g9 : Fr [Q] W0 (w7.setCell ⟨Q, 1, none⟩ (.pointer (some ⟨rp2, 0, none⟩))) := (g7.trans0 f8).transS u8
              have hTN := Lib.hid (Two22.copied HHA.out HQ0.out g9 hQ9 ((hS7.fr0 f8).frP hQ8 u8) (hR8.frP hQ8 u8) hs8 bt bm (by omega) (by omega) hN hne nP nQ)
              have hFN := Lib.hid (HF0.out.trans g9 (fun x hx => by rw [List.mem_singleton] at hx; omega))
              clear g7 g9 f8 u8 hR8 hR7 hS7 hP7 hQ7 hQ9 hQ8
              go_wp2
              go_roundw
              case rel => exact ⟨k + 1, by go_num, by omega, BACK.out _ hTN.out, hFN.out⟩
              case measure => simp [intOf]; omega
            · have hk7b : (o.k == 7) = false := by rw [beq_eq_false_iff_ne]; exact hk7
              clear hk7
              go_wp2_with fail
              refine (HT2.out.plays hN { o with ds := dl, vs := vl } HO0.out).mono ?_
              rintro e w6 ⟨rfl, hT6, S, hf6, hS6⟩
              have hFN := Lib.hid (HF0.out.trans hf6 (fun x hx => .inr (hS6 x hx)))
              have HT6 := Lib.hid hT6
              clear hcc hf6 hS6 hT6
              go_wp2
              go_roundw
              case rel => exact ⟨k + 1, by go_num, by omega, BACK.out _ HT6.out, hFN.out⟩
              case measure => simp [intOf]; omega
    · obtain rfl : k = ops.length := by omega
      obtain ⟨⟨p', tb', mb', rp', T', dd', m', n', q', ub', nb', rq', U', d2', m2', n2', hHA, hHB, _⟩, _, _, _⟩ := HT.out
      have HHA := Lib.hid hHA
      have HHB := Lib.hid hHB
      clear hHA hHB
      go_wp2_with fail
      refine (all22 w.heap.size A p' tb' mb' rp' T' dd' m' n' _ HHA.out.pr HHA.out.pi).mono ?_
      rintro e w6 ⟨rfl, f6⟩
      go_wp2_with fail
      refine (all22 w.heap.size (A + 1) q' ub' nb' rq' U' d2' m2' n2' _ (f6.heap HHB.out.pr (by simp)) (HHB.out.pi.fr0 f6)).mono ?_
      rintro e w7 ⟨rfl, f7⟩
      have hFN := HFR.out.trans0 (f6.trans0 f7)
      clear f6 f7
      go_wp2
      go_ret
      exact ⟨rfl, hFN⟩

theorem traceAll_walk (one two : Int) (v0 : Value) (ops : List Op22) (w : World) (hsp : Ops22 w v0 ops) (hop : ∀ o ∈ ops, RawOk w o) : Calls Try.prog 11 #[.int .i64 one, .int .i64 two, v0] w fun e w1 => e = .returned (.bool true) ∧ Fr [] w w1 := by
  by_cases h : (0 ≤ one ∧ one ≤ 64) ∧ (0 ≤ two ∧ two ≤ 64)
  · exact traceAll_ok one two v0 ops w hsp hop h.1 h.2
  · exact traceAll_no one two v0 w h
end Go.Proofs.Ytldppdafgbipjaa
