/-
  Arguments, opened: a slice of slices of nodes.
  quadrillelaw21.CycleAll: the walk.
-/
import Derived.Test.YtdlpbpohbkcafaaGreatCApA
import Derived.Deep.CondSized
import Derived.Test.YtdlpbpohbkcafaaGreatCApR
import Derived.Test.YtdlpbpohbkcafaaGreatRfLW
import Derived.Test.YtdlpbpohbkcafaaGreatRfO
namespace Go.Proofs.YtdlpbpohbkcafaaGreat
section
open Go.ChangeShapes Go.WideShapes Go.ChangeAt Go.RowKit Go.Joins Go.Deep

/-- One list of nodes, as a row has it. -/
structure GNs where
  na : Option Addr
  nc : Nat
  ns : List Nd
abbrev grC (x : GNs) : List Value := [.slice x.na x.ns.length x.nc]
structure GraphsAt (w : World) (v : Value) (gs : List GNs) : Prop where
  row : SlAt w v 1 gs.length (gs.flatMap grC)
  nodes : ∀ x ∈ gs, NodesAt w (.slice x.na x.ns.length x.nc) x.ns ∧ Small x.ns
theorem GraphsAt.fr0 {w w1 : World} {v : Value} {gs : List GNs} (h : GraphsAt w v gs) (hf : Fr [] w w1) : GraphsAt w1 v gs := ⟨h.row.fr0 hf, fun x hx => ⟨(h.nodes x hx).1.fr0 hf, (h.nodes x hx).2⟩⟩
theorem GraphsAt.cell {w : World} {v : Value} {gs : List GNs} (h : GraphsAt w v gs) {k : Nat} (hk : k < gs.length) : ∃ b off c, v = .slice (some ⟨b, off, none⟩) gs.length c ∧ b < w.heap.size ∧ w.cell? ⟨b, off + k, none⟩ = some (.slice gs[k].na gs[k].ns.length gs[k].nc) := by
  obtain ⟨b, off, c, e, hb, hc⟩ := h.row.cell (by omega)
  refine ⟨b, off, c, e, hb, hc k _ ?_⟩
  have := flat_get grC 1 (fun _ => rfl) gs k 0 hk (by omega)
  simpa using this
theorem Tryz.cellsLN : Tryz.prog.cellsOf 24 = 1 := by kernel_rfl
section
variable {H : Type} {enc : TypeId × Value → H} {W : World}
set_option maxRecDepth 100000 in
theorem open_slNW {spare : Nat → Bool} {held : Bool} {n : Nat} {v : Value} {y : DataW H × List MemPlace} (h : DataW.trod enc Tryz.prog W 0 spare held n 24 [v] = some y) (hw : Wt 24 y.1) : ∃ x : GNs, [v] = grC x ∧ NodesAt W (.slice x.na x.ns.length x.nc) x.ns ∧ Small x.ns := by
  rcases open_slice Tryz.underlying24 h with ⟨hc, _⟩ | ⟨a, len, cap, m, n, D, Pl, hc, _, hl, hm, hmm, hy, hall⟩
  · cases hc
    exact ⟨⟨none, 0, []⟩, rfl, ⟨SlAt.nil W 3, by simp⟩, by simp, by simp⟩
  · cases hc
    subst hy
    have hlen := hw.len Tryz.underlying24 (by decide) Tryz.bytesNd
    rw [List.length_map, List.length_range] at hlen
    have hel : ∀ i, i < len → Wt tNd (D i) := fun i hi => hw.el Tryz.underlying24 (List.mem_map.2 ⟨i, List.mem_range.2 hi, rfl⟩)
    have hlm : len ≤ m := by rw [hmm]; split <;> omega
    rw [Tryz.cellsN] at hall
    obtain ⟨ns, h1, h2⟩ := slAt_ofP ndC (fun nd => SpotsAt W (.slice nd.na nd.next.length nd.nc) nd.next ∧ nd.next.length ≤ 1125899906842624) (size := 3) (fun _ => rfl) (by decide) hl hm (fun i hi => by
      obtain ⟨cs', h1, h2⟩ := hall i (by omega)
      obtain ⟨_, hlen, _⟩ := World.cells?_some h1
      obtain ⟨nd, rfl, h3⟩ := open_nodeW hlen h2 (hel i hi)
      exact ⟨nd, h1, h3⟩)
    obtain ⟨_, _, e, _, _⟩ := h1.form
    cases e
    exact ⟨⟨some a, cap, ns⟩, rfl, ⟨h1, fun nd hn => (h2 nd hn).1⟩, reach_small hlen, fun nd hn => (h2 nd hn).2⟩
set_option maxRecDepth 100000 in
theorem open_graphsW {r : Reach} {b0 : Nat} {v : Value} {d : DataW H} {p : List MemPlace}
    (hv : Value.okWide Tryz.prog W r b0 22 v) (h : DataW.Trod enc Tryz.prog W 0 (fun _ => true) true 22 v d p) (hw : Wt 22 d) : ∃ gs : List GNs, GraphsAt W v gs := by
  obtain ⟨pa, len, cap, rfl⟩ := okWide_slice Tryz.underlying22 hv
  obtain ⟨fuel, hf⟩ := h
  simp only [Value.cells] at hf
  rcases open_slice Tryz.underlying22 hf with ⟨hc, _⟩ | ⟨a, len', cap', m, n, D, Pl, hc, _, hl, hm, hmm, hy, hall⟩
  · simp only [List.cons.injEq, and_true, Value.slice.injEq] at hc
    obtain ⟨rfl, rfl, rfl⟩ := hc
    exact ⟨[], SlAt.nil W 1, by simp⟩
  · simp only [List.cons.injEq, and_true, Value.slice.injEq] at hc
    obtain ⟨rfl, rfl, rfl⟩ := hc
    simp only [Prod.mk.injEq] at hy
    obtain ⟨rfl, _⟩ := hy
    have hel : ∀ i, i < len → Wt 24 (D i) := fun i hi => hw.el Tryz.underlying22 (List.mem_map.2 ⟨i, List.mem_range.2 hi, rfl⟩)
    simp only [if_true] at hmm
    subst hmm
    rw [Tryz.cellsLN] at hall
    obtain ⟨gs, h1, h2⟩ := slAt_ofP grC (fun x => NodesAt W (.slice x.na x.ns.length x.nc) x.ns ∧ Small x.ns) (size := 1) (fun _ => rfl) (by decide) hl hm (fun i hi => by
      obtain ⟨cs', h1, h2⟩ := hall i (by omega)
      obtain ⟨_, hlen, _⟩ := World.cells?_some h1
      match cs', hlen with
      | [c0], _ =>
        obtain ⟨x, e, h3⟩ := open_slNW h2 (hel i hi)
        exact ⟨x, e ▸ h1, h3⟩)
    obtain ⟨_, _, e, _, _⟩ := h1.form
    cases e
    exact ⟨gs, h1, h2⟩
end
end
section
open Go.RowKit Go.Shelf Go.Sort Go.Proofs

theorem eqRT (va vb : Value) (l : List (List Sp)) (w : World) (ha : RowsS w va l) (hb : RowsS w vb l) : Calls Tryz.prog 10 #[va, vb] w fun e w1 => e = .returned (.bool true) ∧ Fr [] w w1 := by
  have := eqRingsC va vb l l w ha hb
  rwa [decide_eq_true rfl] at this
theorem eqST (va vb : Value) (l : List Sp) (w : World) (ha : SpotsAt w va l) (hb : SpotsAt w vb l) : Calls Tryz.prog 13 #[va, vb] w fun e w1 => e = .returned (.bool true) ∧ Fr [] w w1 := by
  have := eqC va vb l l w ha hb
  rwa [decide_eq_true rfl] at this
theorem eqLT (va vb : Value) (l : List Lx) (w : World) (ha : LeadsAt w va l) (hb : LeadsAt w vb l) : Calls Tryz.prog 16 #[va, vb] w fun e w1 => e = .returned (.bool true) ∧ Fr [] w w1 := by
  have := eqLeadsC va vb l l w ha hb
  rwa [decide_eq_true rfl] at this
set_option maxRecDepth 100000 in
set_option maxHeartbeats 6400000 in
theorem cycleAll_walk (v : Value) (gs : List GNs) (w : World) (hv : GraphsAt w v gs) : Calls Tryz.prog 3 #[v] w fun e w1 => e = .returned (.bool true) ∧ Fr [] w w1 := by
  obtain ⟨vq, vc, rfl, hv1, hv2⟩ := hv.row.form
  have HV := Lib.hid hv
  clear hv
  go_enter Tryz.func3, Tryz.ntmps3
  go_wp2_with fail
  refine (begun21 _).mono ?_
  rintro e w1 ⟨rfl, h1⟩
  have H1 := Lib.hid h1
  clear h1
  go_wp2_with fail
  go_loopw [3, 4] (fun nv iv wr => ∃ i n : Nat, iv = .int .i64 (i : Int) ∧ nv = .int .i64 (n : Int) ∧ i ≤ gs.length ∧ n ≤ 4194304 ∧ Fr [] w wr) (fun _ iv _ => gs.length - (intOf iv).toNat)
  case atStart => exact ⟨0, 0, rfl, rfl, by omega, by omega, H1.out⟩
  case round =>
    obtain ⟨i, n, rfl, rfl, hi, hn, hf⟩ := hrel
    by_cases hlt : i < gs.length
    · have hi1 : (i : Int) < (gs.length : Int) := by omega
      obtain ⟨b, off, _, e, hb, c0⟩ := (HV.out.fr0 hf).cell hlt
      cases e
      obtain ⟨hnodes, hsm⟩ := (HV.out.fr0 hf).nodes gs[i] (List.getElem_mem hlt)
      generalize gs[i] = g at *
      obtain ⟨na, nc, ns⟩ := g
      simp only at c0 hnodes hsm
      have HNO := Lib.hid hnodes
      have HSM := Lib.hid hsm
      have HF := Lib.hid hf
      clear hnodes hsm hf
      go_wp2_with fail
      refine (lightC _ ns 2097152 _ HNO.out HSM.out (by omega)).mono ?_
      rintro e w2 ⟨bb, rfl, hbb, h2⟩
      have H2 := Lib.hid h2
      have HBB := Lib.hid hbb
      clear h2 hbb
      cases bb with
      | false =>
        go_wp2
        go_roundw
        case rel => exact ⟨i + 1, n, by go_num, rfl, by omega, by omega, HF.out.trans0 H2.out⟩
        case measure => simp [intOf]; omega
      | true =>
        have hbd := HBB.out rfl
        have HBD := Lib.hid hbd
        have hnl : ns.length ≤ 2097152 := by omega
        have hwr : IntKind.i64.wrap ((n : Int) + 100) = (n : Int) + 100 := by rw [IntKind.wrap_i64]; omega
        have hwr2 : IntKind.i64.wrap ((n : Int) + 100 + (ns.length : Int)) = (n : Int) + 100 + (ns.length : Int) := by rw [IntKind.wrap_i64]; omega
        have HN2 := Lib.hid (HNO.out.fr0 H2.out)
        have HF2 := Lib.hid (HF.out.trans0 H2.out)
        clear HBB hbd
        go_upto_block 2 with fail
        clear hwr hwr2
        go_cut [3] (fun nv wx => nv = .int .i64 ((n + 100 + ns.length + tot ns : Nat) : Int) ∧ Fr [] w2 wx)
        case first =>
          go_wp2_with fail
          go_loopw [3, 6] (fun nv kv wr => ∃ k : Nat, kv = .int .i64 (k : Int) ∧ nv = .int .i64 ((n + 100 + ns.length + tot (ns.take k) : Nat) : Int) ∧ k ≤ ns.length ∧ Fr [] w2 wr) (fun _ kv _ => ns.length - (intOf kv).toNat)
          case atStart => exact ⟨0, rfl, by simp [tot], by omega, Fr.refl _ _⟩
          case round =>
            obtain ⟨k, rfl, rfl, hk, hfx⟩ := hrel
            by_cases hkl : k < ns.length
            · have hk1 : (k : Int) < (ns.length : Int) := by omega
              obtain ⟨nb, no, _, e, hnb, _, _, d2⟩ := (HN2.out.fr0 hfx).cell hkl
              cases e
              have hts : tot (ns.take (k + 1)) = tot (ns.take k) + ns[k].next.length := by rw [List.take_succ_eq_append_getElem hkl, tot_snoc]
              have htk := tot_take ns (k + 1)
              rw [hts] at htk
              have htb : tot ns ≤ 2097152 := by have := HBD.out; omega
              have HTS := Lib.hid hts
              clear hts
              generalize ns[k].next.length = m at *
              generalize hsm : tot (ns.take k) = s at *
              clear hsm
              have hwr : IntKind.i64.wrap (((n + 100 + ns.length + s : Nat) : Int) + (m : Int)) = ((n + 100 + ns.length + (s + m) : Nat) : Int) := by rw [IntKind.wrap_i64]; omega
              generalize hq : n + 100 + ns.length + s = q at *
              have HQ := Lib.hid hq
              clear hq
              go_wp2
              go_roundw
              case rel => exact ⟨k + 1, by go_num, by rw [HTS.out]; first | rfl | go_num | (congr 1; omega), by omega, hfx⟩
              case measure => simp [intOf]; omega
            · obtain rfl : k = ns.length := by omega
              rw [List.take_length]
              generalize n + 100 + ns.length + tot ns = q at *
              go_wp2
              go_meet
              exact ⟨rfl, hfx⟩
        case rest =>
          obtain ⟨rfl, hfx⟩ := hcut
          have HF3 := Lib.hid (HF2.out.trans0 hfx)
          have HN3 := Lib.hid (HN2.out.fr0 hfx)
          have hB4 : ns.length + tot ns ≤ 4194304 := by have := HBD.out; omega
          have HB4 := Lib.hid hB4
          clear hfx hB4
          generalize hq : n + 100 + ns.length + tot ns = q at *
          clear hq
          by_cases hbig : 4194304 < q
          · have hbig1 : (4194304 : Int) < (q : Int) := by omega
            go_wp2
            go_ret
            exact ⟨rfl, HF3.out⟩
          · have hbig1 : ¬ (4194304 : Int) < (q : Int) := by omega
            have hq4 : q ≤ 4194304 := by omega
            clear hbig
            go_wp2_with fail
            refine (twinC _ ns _ HN3.out HB4.out).mono ?_
            rintro e w4 ⟨tv, ls, rfl, htw, hera, h4⟩
            have HTW := Lib.hid htw
            have HERA := Lib.hid hera
            have H4 := Lib.hid (HF3.out.trans0 h4)
            have HN4 := Lib.hid (HN3.out.fr0 h4)
            have hlb : ls.length + tot ls ≤ 4194304 := by
              have h := HB4.out
              rw [tot_era, ← era_len ns, ← hera, ← tot_era, era_len] at h
              exact h
            have HLB := Lib.hid hlb
            have HEQ := Lib.hid (era_E hera)
            clear htw hera h4 hlb
            go_wp2_with fail
            refine (ringsU _ ls _ HTW.out.nodes HLB.out).mono ?_
            rintro e w5 ⟨rv, vs, rfl, hrv, htl, h5⟩
            have hrs := rowsS_of hrv htl
            obtain ⟨q1, q2, q3, q4', q5, q6⟩ := HEQ.out
            rw [q2] at hrs
            rw [q1]
            have HRV := Lib.hid hrs
            have HQ3 := Lib.hid q3
            have HQ4 := Lib.hid q4'
            have HQ5 := Lib.hid q5
            have HQ6 := Lib.hid q6
            have H5 := Lib.hid h5
            clear hrv htl h5 hrs q1 q2 q3 q4' q5 q6 HEQ
            go_wp2_with fail
            refine (rfRingsC _ ns _ (HN4.out.fr0 H5.out) HB4.out).mono ?_
            rintro e w6 ⟨sv, vs2, rfl, hrv, htl, h6⟩
            have HSV := Lib.hid (rowsS_of hrv htl)
            have H6 := Lib.hid h6
            have hne : ((madeE ns != madeE ns)) = false := by simp
            clear hrv htl h6
            generalize madeE ns = E at *
            obtain ⟨_, _, rfl, _, _⟩ := HRV.out.form
            obtain ⟨_, _, rfl, _, _⟩ := HSV.out.form
            go_wp2_with fail
            refine (eqRT _ _ (ringsL ns) _ (HRV.out.fr0 H6.out) HSV.out).mono ?_
            rintro e w7 ⟨rfl, h7⟩
            have H7 := Lib.hid (H5.out.trans0 (H6.out.trans0 h7))
            clear h7 hne H5 H6 HRV HSV
            go_wp2_with fail
            refine (orderU _ ls _ (HTW.out.nodes.fr0 H7.out) HLB.out).mono ?_
            rintro e w8 ⟨ov, rfl, hov, h8⟩
            rw [HQ4.out] at hov
            rw [HQ3.out]
            have HOV := Lib.hid (own_sl hov)
            have H8 := Lib.hid h8
            clear hov h8
            go_wp2_with fail
            refine (rfOrderC _ ns _ (HN4.out.fr0 (H7.out.trans0 H8.out)) HB4.out).mono ?_
            rintro e w9 ⟨pv, rfl, hpv, h9⟩
            have HPV := Lib.hid (own_sl hpv)
            have H9 := Lib.hid h9
            have hne : ((ordE ns != ordE ns)) = false := by simp
            clear hpv h9
            generalize ordE ns = E2 at *
            obtain ⟨_, _, rfl, _, _⟩ := HOV.out.form
            obtain ⟨_, _, rfl, _, _⟩ := HPV.out.form
            go_wp2_with fail
            refine (eqST _ _ (ordL ns) _ (HOV.out.fr0 H9.out) HPV.out).mono ?_
            rintro e w10 ⟨rfl, h10⟩
            have H10 := Lib.hid (H7.out.trans0 (H8.out.trans0 (H9.out.trans0 h10)))
            clear h10 hne H7 H8 H9 HOV HPV
            go_wp2_with fail
            refine (leadsU _ ls _ (HTW.out.nodes.fr0 H10.out) HLB.out).mono ?_
            rintro e w11 ⟨dv, rfl, hdv, h11⟩
            rw [HQ6.out] at hdv
            rw [HQ5.out]
            have HDV := Lib.hid (own_sl hdv)
            have H11 := Lib.hid h11
            clear hdv h11
            go_wp2_with fail
            refine (rfLeadsC _ ns _ (HN4.out.fr0 (H10.out.trans0 H11.out)) HB4.out).mono ?_
            rintro e w12 ⟨yv, rfl, hyv, h12⟩
            have HYV := Lib.hid (own_sl hyv)
            have H12 := Lib.hid h12
            have hne : ((ldE ns != ldE ns)) = false := by simp
            clear hyv h12
            generalize ldE ns = E3 at *
            obtain ⟨_, _, rfl, _, _⟩ := HDV.out.form
            obtain ⟨_, _, rfl, _, _⟩ := HYV.out.form
            go_wp2_with fail
            refine (eqLT _ _ (ldL ns) _ (HDV.out.fr0 H12.out) HYV.out).mono ?_
            rintro e w13 ⟨rfl, h13⟩
            have H13 := Lib.hid (H10.out.trans0 (H11.out.trans0 (H12.out.trans0 h13)))
            clear h13 H10 H11 H12 HDV HYV
            go_wp2_with fail
            refine (keptC _ _ ls ns _ w13 (HTW.out.fr0 H13.out) (HN4.out.fr0 H13.out) HERA.out HB4.out).mono ?_
            rintro e w14 ⟨rfl, h14⟩
            have H14 := Lib.hid (H4.out.trans0 (H13.out.trans0 h14))
            clear h14 H13 hne
            go_wp2
            go_roundw
            case rel => exact ⟨i + 1, q, by go_num, rfl, by omega, hq4, H14.out⟩
            case measure => simp [intOf]; omega
    · go_wp2
      go_ret
      exact ⟨rfl, hf⟩
end
end Go.Proofs.YtdlpbpohbkcafaaGreat
