/-
  The walk of quadrillelaw7.GridOrder, 2000 places at most.
-/
import Derived.Test.YtldppdafgbipjaaOrderJ
namespace Go.Proofs.Ytldppdafgbipjaa
open Go.RowKit Go.Shelf
attribute [local go_sem] Oper.semAt_some

set_option maxRecDepth 100000 in
set_option maxHeartbeats 6400000 in
theorem gridOrder_A (v0 : Value) (ats : List Sp) (a : Ar) (w : World) (hsp : SpotsAt w v0 ats) (hN : (ats.length : Int) ≤ 2000) : CallsIn Fence.wide 5 Try.prog 6 #[v0, a.val] w fun e w1 => e = .returned (.bool true) ∧ Fr [] w w1 := by
  obtain ⟨i0, hi, hz0, hz1, hz2⟩ := info_parts infoSpot
  have HSP := Lib.hid hsp
  obtain ⟨da, dc, rfl, hdc1, hdc2⟩ := hsp.form
  clear hsp
  refine callsIn_of_wp_marks Try.func6 rfl trivial ?_ rfl
  simp only [Try.ntmps6, List.size_toArray, List.length_cons, List.length_nil, Nat.reduceAdd, Nat.reduceSub, Array.replicate_succ, Array.replicate_zero, List.push_toArray, List.append_toArray, List.nil_append, List.cons_append]
  gi_wp2_with fail
  have hW0 : Fr [] w (((w.alloc (.cells #[.slice da ats.length dc] 35)).alloc (.cells #[.int .i64 a.t, .int .i64 a.l, .int .i64 a.b, .int .i64 a.r] 54)).alloc (.cells #[.bool false] 4)) := (((Fr.refl [] w).alloc _).alloc _).alloc _
  have hSB : (((w.alloc (.cells #[.slice da ats.length dc] 35)).alloc (.cells #[.int .i64 a.t, .int .i64 a.l, .int .i64 a.b, .int .i64 a.r] 54)).alloc (.cells #[.bool false] 4)).heap[w.heap.size]? = some (.cells #[.slice da ats.length dc] 35 (0, 0)) := hp_old (hp_old (hp_new rfl))
  have hAB : (((w.alloc (.cells #[.slice da ats.length dc] 35)).alloc (.cells #[.int .i64 a.t, .int .i64 a.l, .int .i64 a.b, .int .i64 a.r] 54)).alloc (.cells #[.bool false] 4)).heap[w.heap.size + 1]? = some (.cells #[.int .i64 a.t, .int .i64 a.l, .int .i64 a.b, .int .i64 a.r] 54 (0, 0)) := hp_old (hp_new (by simp))
  have hRB : (((w.alloc (.cells #[.slice da ats.length dc] 35)).alloc (.cells #[.int .i64 a.t, .int .i64 a.l, .int .i64 a.b, .int .i64 a.r] 54)).alloc (.cells #[.bool false] 4)).heap[w.heap.size + 1 + 1]? = some (.cells #[.bool false] 4 (0, 0)) := hp_new (by simp)
  generalize ((w.alloc (.cells #[.slice da ats.length dc] 35)).alloc (.cells #[.int .i64 a.t, .int .i64 a.l, .int .i64 a.b, .int .i64 a.r] 54)).alloc (.cells #[.bool false] 4) = W0 at *
  obtain ⟨SB, hSBe⟩ : ∃ SB, w.heap.size = SB := ⟨_, rfl⟩
  have hSBw : w.heap.size ≤ SB := by omega
  rw [hSBe] at hSB hAB hRB ⊢
  refine ⟨trivial, ?_⟩
  gi_at_call 20
  refine (callsIn_wide.2 (begun7 _)).mono ?_
  rintro e w1 ⟨rfl, h1⟩
  gi_wp2_with fail
  refine ⟨trivial, ?_⟩
  gi_at_call 21
  refine (callsIn_wide.2 (new_int _)).mono ?_
  rintro e w2 ⟨tb, mb, rfl, ht, hm, hT, h2⟩
  gi_wp2_with fail
  have h12 := h1.trans0 h2
  have hW3 : Fr [] W0 (w2.alloc (.cells #[.int .i64 0] 3)) := h12.alloc _
  have hNB := heap_new w2 (.cells #[.int .i64 0] 3)
  have hT3 := Lib.hid (hT.fr ((Fr.refl [] w2).alloc (.cells #[.int .i64 0] 3)) (by simp) (by simp))
  have ltb := lt_of hT.tab
  have lmb := hT.map.lt
  have gtb : SB + 2 < tb := by have := lt_of hRB; have := h1.size; omega
  have gmb : SB + 2 < mb := by have := lt_of hRB; have := h1.size; omega
  have hSB3 := hW3.heap hSB (by simp)
  have hAB3 := hW3.heap hAB (by simp)
  have hRB3 := hW3.heap hRB (by simp)
  have hfw3 : Fr [] w (w2.alloc (.cells #[.int .i64 0] 3)) := hW0.trans0 hW3
  clear h1 h2 hT h12 hW3 hW0 hSB hAB hRB ht hm
  generalize w2.alloc (.cells #[.int .i64 0] 3) = W3 at *
  obtain ⟨NB, hNBe⟩ : ∃ NB, w2.heap.size = NB := ⟨_, rfl⟩
  rw [hNBe] at hNB ltb lmb ⊢
  gi_loopw [7] (fun i wr => ∃ k : Nat, i = .int .i64 (k : Int) ∧ (k : Int) ≤ (ats.length : Int) ∧ (k : Int) ≤ 2000 ∧ TabIs 148 (fun x : Int => .int .i64 x) wr tb mb (insM ((numd ats).take k)) ∧
    wr.heap[NB]? = some (.cells #[.int .i64 (nOf ((numd ats).take k) : Nat)] 3 (0, 0)) ∧ Fr [tb, mb, NB] W3 wr) (fun i _ => (2000 - intOf i).toNat)
  case atStart => exact ⟨0, rfl, by omega, by omega, hT3.out, hNB, Fr.refl _ _⟩
  case round =>
    obtain ⟨k, rfl, hk1, hk2, hTk, hNk, hfr⟩ := hrel
    have HTk := Lib.hid hTk
    have hSBk := hfr.heap hSB3 (by simp; omega)
    have hfw : Fr [] w wr := hfw3.trans hfr (by simp; omega)
    have sb0 : wr.cell? ⟨SB, 0, none⟩ = some (.slice da ats.length dc) := cell_of hSBk 0
    have nb0 := cell_of hNk 0
    have nbf := free_of hNk 0
    clear hTk
    by_cases hlt : (k : Int) < (ats.length : Int) ∧ (k : Int) < 2000
    · obtain ⟨hlt1, hlt2⟩ := hlt
      obtain ⟨b, off, c, ec, hb, hc⟩ := HSP.out.cell (by omega)
      cases ec
      have hka : k < ats.length := by omega
      have c0 : w.cell? ⟨b, off + k * 2, none⟩ = some (.int .i64 ats[k].1) := hc (k * 2 + 0) _ (by rw [flat_get spC 2 (fun _ => rfl) ats k 0 hka (by omega)]; rfl)
      have c1 : w.cell? ⟨b, off + k * 2 + 1, none⟩ = some (.int .i64 ats[k].2) := hc (k * 2 + 1) _ (by rw [flat_get spC 2 (fun _ => rfl) ats k 1 hka (by omega)]; rfl)
      have HTT := Lib.hid (show (numd ats).take (k + 1) = (numd ats).take k ++ [(ats[k], (k : Int))] by
        rw [List.take_succ_eq_append_getElem (by rw [numd_len]; exact hka), numd_get ats k hka])
      have HPR := Lib.hid (insM_props _ _ (rfl : ((numd ats).take k).length = _))
      have HTL := Lib.hid (show ((numd ats).take k).length = k by rw [List.length_take, numd_len]; omega)
      obtain ⟨s, hs⟩ : ∃ s, ats[k] = s := ⟨_, rfl⟩
      rw [hs] at c0 c1 HTT
      have c0 := (hfw.cell (p := ⟨b, off + k * 2, none⟩) hb (by simp)).trans c0
      have c1 := (hfw.cell (p := ⟨b, off + k * 2 + 1, none⟩) hb (by simp)).trans c1
      have hw1 : IntKind.i64.wrap ((k : Int) + 1) = (k : Int) + 1 := by rw [IntKind.wrap_i64]; omega
      have hk0 : (0 : Int) ≤ (k : Int) := by omega
      have hlen : (insM ((numd ats).take k)).length < 65536 := by
        have h1 := HPR.out.2.1
        rw [HTL.out] at h1
        omega
      have HLEN := Lib.hid hlen
      clear hc hs hlen
      gi_wp2_with fail
      refine ⟨trivial, ?_⟩
      gi_at_call 24
      refine (callsIn_wide.2 (set_int tb mb s (k : Int) _ _ HTk.out)).mono ?_
      rw [setE_may HLEN.out]
      rintro e w5 ⟨rfl, hT5, h5⟩
      have hN5 := h5.heap hNk (by simp; omega)
      have nb0 := cell_of hN5 0
      have nbf := free_of hN5 0
      have hf5 : Fr [tb, mb, NB] W3 w5 := hfr.trans h5 (by simp)
      have hNl := lt_of hN5
      cases hm : mayS s.1 s.2
      · have hT6 : TabIs 148 (fun x : Int => .int .i64 x) w5 tb mb (insM ((numd ats).take (k + 1))) := by
          rw [HTT.out, insM_snoc]
          rw [setL_no hm] at hT5
          simpa [hm] using hT5
        have HT6 := Lib.hid hT6
        have hn6 : nOf ((numd ats).take (k + 1)) = nOf ((numd ats).take k) := by
          rw [HTT.out, nOf_snoc]
          simp [hm]
        have HN6 := Lib.hid hn6
        clear hT5 hT6 hm hn6
        gi_wp2
        go_roundw
        case rel => exact ⟨k + 1, by go_num, by omega, by omega, HT6.out, by rw [HN6.out]; exact hN5, hf5⟩
        case measure => simp [intOf]; omega
      · have hT6 : TabIs 148 (fun x : Int => .int .i64 x) w5 tb mb (insM ((numd ats).take (k + 1))) := by
          rw [HTT.out, insM_snoc]
          rw [setL_yes HLEN.out hm] at hT5
          simpa [hm] using hT5
        have HT6 := Lib.hid hT6
        have hn6 : nOf ((numd ats).take (k + 1)) = k + 1 := by
          rw [HTT.out, nOf_snoc, HTL.out]
          simp [hm]
        have HN6 := Lib.hid hn6
        clear hT5 hT6 hm hn6
        gi_wp2
        go_roundw
        case rel =>
          refine ⟨k + 1, by go_num, by omega, by omega, HT6.out.fr ((Fr.refl [NB] w5).setCell (p := ⟨NB, 0, none⟩) (.inl (by simp)) _) (by simp; omega) (by simp; omega), ?_, hf5.setCell (p := ⟨NB, 0, none⟩) (.inl (by simp)) _⟩
          rw [HN6.out]
          exact set_of hN5 0 _
        case measure => simp [intOf]; omega
    · have hex : ¬ ((k : Int) < (ats.length : Int)) := by omega
      have HPR := Lib.hid (insM_props _ _ (rfl : ((numd ats).take k).length = _))
      have HTL := Lib.hid (show ((numd ats).take k).length = k by rw [List.length_take, numd_len]; omega)
      have hnk : nOf ((numd ats).take k) ≤ k := by
        have := nOf_le ((numd ats).take k)
        rwa [HTL.out] at this
      have HNL := Lib.hid (fun j (hj : j < k) (hm : mayS ats[j].1 ats[j].2 = true) => nOf_lt _ _ (rfl : ((numd ats).take k).length = _) j (by rw [HTL.out]; exact hj) (by rw [List.getElem_take, numd_get ats j (by omega)]; exact hm))
      have HZG := Lib.hid (fun j (hj : j < k) => show ((numd ats).take k)[j]'(by rw [HTL.out]; exact hj) = (ats[j], (j : Int)) by rw [List.getElem_take, numd_get ats j (by omega)])
      obtain ⟨M, hM⟩ : ∃ M, insM ((numd ats).take k) = M := ⟨_, rfl⟩
      have HM := Lib.hid hM
      rw [hM] at HTk
      obtain ⟨n, hn⟩ : ∃ n, nOf ((numd ats).take k) = n := ⟨_, rfl⟩
      have HN := Lib.hid hn
      rw [hn] at hNk nb0 hnk
      have hn0 : (0 : Int) ≤ (n : Int) := by omega
      have hn1 : (n : Int) ≤ (ats.length : Int) := by omega
      have hn2 : (n : Int) ≤ (dc : Int) := by omega
      have hn3 : (n : Int) ≤ 2000 := by omega
      have sbf : wr.frozen? ⟨SB, 0, none⟩ = false := free_of hSBk 0
      clear hlt hM hn
      gi_upto_region 10 with fail
      gi_cut [] from 30 (fun wx => ∃ sc, wx.heap[SB]? = some (.cells #[.slice da n sc] 35 (0, 0)) ∧ Fr [SB] wr wx)
      case first =>
        cases da
        all_goals
          gi_wp2_with fail
          gi_meet
          exact ⟨dc, set_of hSBk 0 _, (Fr.refl [SB] wr).setCell (p := ⟨SB, 0, none⟩) (.inl (by simp)) _⟩
      case rest =>
        obtain ⟨sc, hSc, hfc⟩ := hcut
        have hNc := hfc.heap hNk (by simp; omega)
        have HTc := Lib.hid (HTk.out.fr hfc (by simp; omega) (by simp; omega))
        have hAc := hfc.heap (hfr.heap hAB3 (by simp; omega)) (by simp)
        have hRc := hfc.heap (hfr.heap hRB3 (by simp; omega)) (by simp; omega)
        have hfwc : Fr [] w wc := hfw.trans hfc (by simp; omega)
        have hNl := lt_of hNc
        have hTl := lt_of HTc.out.tab
        have hMl := HTc.out.map.lt
        clear hNk hSBk sb0 sbf nb0 nbf HTk hfc
        gi_wp2_with fail
        refine ⟨trivial, ?_⟩
        gi_at_call 25
        refine (callsIn_wide.2 (placeC _ _ _)).mono ?_
        rintro e w4 ⟨rfl, h4⟩
        gi_wp2_with fail
        have hW5 : Fr [] w4 (((w4.alloc (.cells #[.int .i64 (-1), .int .i64 0] 26)).alloc (.cells #[.int .i64 0] 3)).alloc (.cells #[.slice none 0 0] 35)) := (((Fr.refl [] w4).alloc _).alloc _).alloc _
        have hL5 : (((w4.alloc (.cells #[.int .i64 (-1), .int .i64 0] 26)).alloc (.cells #[.int .i64 0] 3)).alloc (.cells #[.slice none 0 0] 35)).heap[w4.heap.size]? = some (.cells #[.int .i64 (-1), .int .i64 0] 26 (0, 0)) := hp_old (hp_old (hp_new rfl))
        have hM5 : (((w4.alloc (.cells #[.int .i64 (-1), .int .i64 0] 26)).alloc (.cells #[.int .i64 0] 3)).alloc (.cells #[.slice none 0 0] 35)).heap[w4.heap.size + 1]? = some (.cells #[.int .i64 0] 3 (0, 0)) := hp_old (hp_new (by simp))
        have hI5 : (((w4.alloc (.cells #[.int .i64 (-1), .int .i64 0] 26)).alloc (.cells #[.int .i64 0] 3)).alloc (.cells #[.slice none 0 0] 35)).heap[w4.heap.size + 1 + 1]? = some (.cells #[.slice none 0 0] 35 (0, 0)) := hp_new (by simp)
        generalize ((w4.alloc (.cells #[.int .i64 (-1), .int .i64 0] 26)).alloc (.cells #[.int .i64 0] 3)).alloc (.cells #[.slice none 0 0] 35) = W5 at *
        have h4z := h4.size
        obtain ⟨LB, hLBe⟩ : ∃ LB, w4.heap.size = LB := ⟨_, rfl⟩
        rw [hLBe] at hL5 hM5 hI5 h4z ⊢
        have hc5 : Fr [] wc W5 := h4.trans0 hW5
        have hML : M.length ≤ 65536 := by
          have h1 := HPR.out.2.1
          rw [HTL.out, HM.out] at h1
          omega
        have HML := Lib.hid hML
        clear hML h4 hW5
        refine ⟨trivial, ?_⟩
        gi_at_call 26
        refine (callsIn_wide.2 (all_int tb mb M _ (HTc.out.fr hc5 (by simp) (by simp)) HML.out)).mono ?_
        rintro e w6 ⟨B, rv, rfl, hI, h6⟩
        have hnd : (M.map (·.1)).Nodup := HTc.out.nodup
        have hRS : ((rowsS 0 (fun _ => true) M (sortS (M.map (·.1)))).map (·.1)).Pairwise fun a b => ltS a b = true := by
          rw [rows_keys]
          exact sortS_lt hnd
        have hRM : ∀ y ∈ rowsS 0 (fun _ => true) M (sortS (M.map (·.1))), getS y.1 M = some y.2 := fun y hy => (rows_mem (fun s hs => (sortS_perm _).mem_iff.1 hs) hy).1
        have hRl : (rowsS 0 (fun _ => true) M (sortS (M.map (·.1)))).length = M.length := by
          have := congrArg List.length (rows_keys (0 : Int) M (sortS (M.map (·.1))))
          rwa [List.length_map, (sortS_perm _).length_eq, List.length_map] at this
        have hRf : (rowsS 0 (hasA a) M (sortS (M.map (·.1)))).map (·.1) = ((rowsS 0 (fun _ => true) M (sortS (M.map (·.1)))).map (·.1)).filter (hasA a) := by rw [rows_keysP, rows_keys]
        have HRF := Lib.hid hRf
        generalize rowsS 0 (fun _ => true) M (sortS (M.map (·.1))) = R at *
        -- what a row says
        have hrow : ∀ y ∈ R, ∃ (L : Nat) (hL : L < ats.length), y.1 = ats[L] ∧ y.2 = (L : Int) ∧ L < n ∧ mayS y.1.1 y.1.2 = true ∧ ∀ j (hj : j < ats.length), L < j → j < n → ats[j] ≠ y.1 := by
          intro y hy
          have h1 := HPR.out.2.2.2.2 y.1 y.2
          rw [HM.out] at h1
          obtain ⟨L, hL, e, hm, hl⟩ := h1 (hRM y hy)
          have hLk : L < k := by rwa [HTL.out] at hL
          rw [HZG.out L hLk] at e
          have e1 : ats[L] = y.1 := congrArg Prod.fst e
          have e2 : (L : Int) = y.2 := congrArg Prod.snd e
          have hln := HNL.out L hLk (by rw [e1]; exact hm)
          rw [HN.out] at hln
          refine ⟨L, by omega, e1.symm, e2.symm, hln, hm, fun j hj hLj hjn => ?_⟩
          have h2 := hl j (by rw [HTL.out]; omega) hLj
          rw [HZG.out j (by omega)] at h2
          exact h2
        have HROW := Lib.hid hrow
        have HRS := Lib.hid hRS
        have HRL := Lib.hid hRl
        have HI := Lib.hid hI
        have hIlt := hI.lt
        have hf6w : Fr [] w w6 := (hfwc.trans0 hc5).trans0 h6
        have hc6 : Fr [] wc w6 := hc5.trans0 h6
        have hL6 := h6.heap hL5 (by simp)
        have hM6 := h6.heap hM5 (by simp)
        have hI6 := h6.heap hI5 (by simp)
        have hS6 := hc6.heap hSc (by simp)
        have hN6 := hc6.heap hNc (by simp)
        have hA6 := hc6.heap hAc (by simp)
        have hR6 := hc6.heap hRc (by simp)
        have HT6 := Lib.hid (HTc.out.fr hc6 (by simp) (by simp))
        have hl6 := lt_of hI6
        have hcz := hc6.size
        have h5I := hI.le
        have h5z : LB + 2 < W5.heap.size := lt_of hI5
        clear hI h6 hL5 hM5 hI5 hSc hNc hAc hRc hc5 hRM hRl hRS hnd hRf hrow
        gi_wp2
        refine range_iterK rfl (by omega) (gf := 107) (lb := #[.pointer (some ⟨B, 0, none⟩)]) rfl trivial (enters_of Try.func107 (by kernel_rfl) rfl) [LB, LB + 1, LB + 2]
          (overK_int 4 (by omega) B rv R _ (fun W W' hk hr => RIs.kept HI.out.own (Nat.le_refl _) (by intro g hg e; have := (HI.out.own.lt _ e).1; simp only [List.mem_cons, List.not_mem_nil, or_false] at hg; omega) hk hr) w6 HI.out.box hIlt (RIs.of_owns HI.out.own) (by have h1 := HRL.out; have h2 := HML.out; omega)) (fun _ => rfl)
          (fun pre W => JOrd LB w6.heap.size a R (pre.map (·.1)) W)
          (fun (_ : Code) (pre : List {x // x ∈ R}) (_ : World) => ¬ pre.map (·.1) <+: R) ?_ (fun _ => ownFrom_pure _ (fun pre : List {x // x ∈ R} => ¬ pre.map (·.1) <+: R)) ⟨(-1, 0), [], _, hL6, hM6, hI6, World.ownsRow_nil _ _ _ _, by simp, fun _ => ⟨rfl, rfl⟩⟩ ?_ ?_ ?_
        · exact JOrd.own (base := w6.heap.size) (a := a) (R := R) (fun pre : List {x // x ∈ R} => pre.map (·.1)) (by omega)
        · intro l pre x W hJ hf
          gi_wp2
          have h0 : Fr [] W (W.alloc (.cells #[.int .i64 x.val.1.1, .int .i64 x.val.1.2] 26)) := (Fr.refl [] W).alloc _
          have hat0 := heap_new W (.cells #[.int .i64 x.val.1.1, .int .i64 x.val.1.2] 26)
          refine ⟨h0, hJ.fr0 h0, ?_⟩
          have hAl : W.heap.size ≥ w6.heap.size := hf.size
          intro l2 pre2 W2 hrel hl2 hr2 hJ2 hf2 hlt2
          have hat := hrel.block hat0
          clear hat0 hrel hJ h0 hf
          obtain ⟨lp, il, v, j1, j2, j3, j4, j5, j6⟩ := hJ2
          obtain ⟨A, hAe⟩ : ∃ A, W.heap.size = A := ⟨_, rfl⟩
          rw [hAe] at hat hAl ⊢
          obtain ⟨L, hLa, e1, e2, hLn, hms, hno⟩ := HROW.out x.1 x.2
          have HNO := Lib.hid hno
          have HJ6 := Lib.hid j6
          obtain ⟨s, hs⟩ : ∃ s, x.1.1 = s := ⟨_, rfl⟩
          have HX1 := Lib.hid hs
          have HX2 := Lib.hid e2
          rw [hs] at e1 hat hms
          rw [e2] at ⊢
          obtain ⟨b, off, c, ec, hb, hc⟩ := HSP.out.cell (by omega)
          cases ec
          have hcell : ∀ j (hj : j < ats.length), w.cell? ⟨b, off + j * 2, none⟩ = some (.int .i64 ats[j].1) ∧ w.cell? ⟨b, off + j * 2 + 1, none⟩ = some (.int .i64 ats[j].2) := fun j hj =>
            ⟨hc (j * 2 + 0) _ (by rw [flat_get spC 2 (fun _ => rfl) ats j 0 hj (by omega)]; rfl), hc (j * 2 + 1) _ (by rw [flat_get spC 2 (fun _ => rfl) ats j 1 hj (by omega)]; rfl)⟩
          have HC := Lib.hid hcell
          have hfw2 : Fr [] w W2 := hf6w.trans hf2 (by have := hf6w.size; simp; omega)
          have cc := HC.out L hLa
          rw [← e1] at cc
          have c0 := (hfw2.cell (p := ⟨b, off + L * 2, none⟩) hb (by simp)).trans cc.1
          have c1 := (hfw2.cell (p := ⟨b, off + L * 2 + 1, none⟩) hb (by simp)).trans cc.2
          have hS2 := hf2.heap hS6 (by simp; omega)
          have hN2 := hf2.heap hN6 (by simp; omega)
          have hA2 := hf2.heap hA6 (by simp; omega)
          have hR2 := hf2.heap hR6 (by simp; omega)
          have a0 : W2.cell? ⟨A, 0, none⟩ = some (.int .i64 s.1) := cell_of hat 0
          have a1 : W2.cell? ⟨A, 1, none⟩ = some (.int .i64 s.2) := cell_of hat 1
          have p0 : W2.cell? ⟨LB, 0, none⟩ = some (.int .i64 lp.1) := cell_of j1 0
          have p1 : W2.cell? ⟨LB, 1, none⟩ = some (.int .i64 lp.2) := cell_of j1 1
          have s0 : W2.cell? ⟨SB, 0, none⟩ = some (.slice (some ⟨b, off, none⟩) n sc) := cell_of hS2 0
          have n0 : W2.cell? ⟨NB, 0, none⟩ = some (.int .i64 (n : Int)) := cell_of hN2 0
          have hL0 : (0 : Int) ≤ (L : Int) := by omega
          have hLi : (L : Int) < (n : Int) := by omega
          have hd2 : decide (n ≤ L) = false := by simp; omega
          have hd1 : decide ((L : Int) < 0) = false := by simp
          have HD1 := Lib.hid hd1
          have HD2 := Lib.hid hd2
          clear hd1 hd2
          have hw1 : IntKind.i64.wrap ((L : Int) + 1) = (L : Int) + 1 := by rw [IntKind.wrap_i64]; omega
          have HE1 := Lib.hid e1
          clear hc hcell cc hs e2 hno j6 e1
          obtain ⟨bb, hbb⟩ : ∃ bb, ltS lp s = bb := ⟨_, rfl⟩
          have HB := Lib.hid hbb
          clear hbb
          cases bb
          · have rb0 := cell_of hR2 0
            have rbf := free_of hR2 0
            gi_wp2_with fail
            refine region_round 21 rfl (fun u => u.cell? ⟨LB, 0, none⟩ = some (.int .i64 lp.1) ∧ u.cell? ⟨LB, 1, none⟩ = some (.int .i64 lp.2) ∧ u.cell? ⟨A, 0, none⟩ = some (.int .i64 s.1) ∧ u.cell? ⟨A, 1, none⟩ = some (.int .i64 s.2) ∧ u.cell? ⟨SB, 0, none⟩ = some (.slice (some ⟨b, off, none⟩) n sc) ∧ u.cell? ⟨NB, 0, none⟩ = some (.int .i64 (n : Int)) ∧ u.cell? ⟨b, off + L * 2, none⟩ = some (.int .i64 s.1) ∧ u.cell? ⟨b, off + L * 2 + 1, none⟩ = some (.int .i64 s.2)) (by kernel_rfl) (by kernel_rfl) (by rintro ⟨_, _, h⟩; exact h) ?_ ?_
            · exact ⟨ce_drew p0, ce_drew p1, ce_drew a0, ce_drew a1, ce_drew s0, ce_drew n0, ce_drew c0, ce_drew c1⟩
            intro hHeld
            refine wpAnyH_take (i := 0) (v := ?_) rfl (by kernel_rfl) (by kernel_rfl) (by kernel_rfl) (fun _ _ _ h => h) (Or.inl ⟨by rfl, ?_⟩) hHeld ?_
            rotate_left
            · (intro w hSw; (try dsimp only at hSw); go_simp; try with_reducible rfl)
            try simp only [Act.put, List.getElem_toArray, List.getElem_cons_zero, List.setIfInBounds_toArray, List.set_cons_zero, List.set_cons_succ]
            refine wpAnyH_take (i := 1) (v := ?_) rfl (by kernel_rfl) (by kernel_rfl) (by kernel_rfl) (fun _ _ _ h => h) (Or.inl ⟨by rfl, ?_⟩) hHeld ?_
            rotate_left
            · (intro w hSw; (try dsimp only at hSw); go_simp; try with_reducible rfl)
            try simp only [Act.put, List.getElem_toArray, List.getElem_cons_zero, List.getElem_cons_succ, List.setIfInBounds_toArray, List.set_cons_zero, List.set_cons_succ]
            refine wpAnyH_ready (rs := [2]) (by kernel_rfl) (by simp) ?_
            refine AllReadyH.cons rfl (fun K hK => ?_) AllReadyH.nil
            go_simp
            refine (aheadC lp s _).mono ?_
            rw [HB.out]
            rintro e wA ⟨rfl, hA⟩
            refine hK.out _ _ ?_ (fun hHeld => ?_)
            · exact ⟨ce_call hA (ce_drew p0), ce_call hA (ce_drew p1), ce_call hA (ce_drew a0), ce_call hA (ce_drew a1), ce_call hA (ce_drew s0), ce_call hA (ce_drew n0), ce_call hA (ce_drew c0), ce_call hA (ce_drew c1)⟩
            clear hK K
            try simp only [Act.put, List.getElem_toArray, List.getElem_cons_zero, List.getElem_cons_succ, List.setIfInBounds_toArray, List.set_cons_zero, List.set_cons_succ]
            refine wpAnyH_take (i := 3) (v := ?_) rfl (by kernel_rfl) (by kernel_rfl) (by kernel_rfl) (fun _ _ _ h => h) (Or.inl ⟨by rfl, ?_⟩) hHeld ?_
            rotate_left
            · (intro w hSw; (try dsimp only at hSw); go_simp; try with_reducible rfl)
            try simp only [Act.put, List.getElem_toArray, List.getElem_cons_zero, List.getElem_cons_succ, List.setIfInBounds_toArray, List.set_cons_zero, List.set_cons_succ]
            refine wpAnyH_take (i := 4) (v := ?_) rfl (by kernel_rfl) (by kernel_rfl) (by kernel_rfl) (fun _ _ _ h => h) (Or.inl ⟨by rfl, ?_⟩) hHeld ?_
            rotate_left
            · (intro w hSw; (try dsimp only at hSw); go_simp; try with_reducible rfl)
            try simp only [Act.put, List.getElem_toArray, List.getElem_cons_zero, List.getElem_cons_succ, List.setIfInBounds_toArray, List.set_cons_zero, List.set_cons_succ]
            refine wpAnyH_take (i := 5) (v := undef) rfl (by kernel_rfl) (by kernel_rfl) (by kernel_rfl) (fun _ _ _ h => h) (Or.inr ⟨by rfl, rfl⟩) hHeld ?_
            try simp only [Act.put, List.getElem_toArray, List.getElem_cons_zero, List.getElem_cons_succ, List.setIfInBounds_toArray, List.set_cons_zero, List.set_cons_succ]
            refine wpAnyH_take (i := 6) (v := undef) rfl (by kernel_rfl) (by kernel_rfl) (by kernel_rfl) (fun _ _ _ h => h) (Or.inr ⟨by rfl, rfl⟩) hHeld ?_
            try simp only [Act.put, List.getElem_toArray, List.getElem_cons_zero, List.getElem_cons_succ, List.setIfInBounds_toArray, List.set_cons_zero, List.set_cons_succ]
            refine wpAnyH_take (i := 7) (v := ?_) rfl (by kernel_rfl) (by kernel_rfl) (by kernel_rfl) (fun _ _ _ h => h) (Or.inl ⟨by rfl, ?_⟩) hHeld ?_
            rotate_left
            · (intro w hSw; (try dsimp only at hSw); go_simp; try with_reducible rfl)
            try simp only [Act.put, List.getElem_toArray, List.getElem_cons_zero, List.getElem_cons_succ, List.setIfInBounds_toArray, List.set_cons_zero, List.set_cons_succ]
            refine wpAnyH_take (i := 8) (v := ?_) rfl (by kernel_rfl) (by kernel_rfl) (by kernel_rfl) (fun _ _ _ h => h) (Or.inl ⟨by rfl, ?_⟩) hHeld ?_
            rotate_left
            · (intro w hSw; (try dsimp only at hSw); go_simp; try with_reducible rfl)
            try simp only [Act.put, List.getElem_toArray, List.getElem_cons_zero, List.getElem_cons_succ, List.setIfInBounds_toArray, List.set_cons_zero, List.set_cons_succ]
            refine wpAnyH_take (i := 9) (v := undef) rfl (by kernel_rfl) (by kernel_rfl) (by kernel_rfl) (fun _ _ _ h => h) (Or.inr ⟨by rfl, rfl⟩) hHeld ?_
            try simp only [Act.put, List.getElem_toArray, List.getElem_cons_zero, List.getElem_cons_succ, List.setIfInBounds_toArray, List.set_cons_zero, List.set_cons_succ]
            refine wpAnyH_take (i := 10) (v := undef) rfl (by kernel_rfl) (by kernel_rfl) (by kernel_rfl) (fun _ _ _ h => h) (Or.inr ⟨by rfl, rfl⟩) hHeld ?_
            try simp only [Act.put, List.getElem_toArray, List.getElem_cons_zero, List.getElem_cons_succ, List.setIfInBounds_toArray, List.set_cons_zero, List.set_cons_succ]
            refine wpAnyH_take (i := 11) (v := undef) rfl (by kernel_rfl) (by kernel_rfl) (by kernel_rfl) (fun _ _ _ h => h) (Or.inr ⟨by rfl, rfl⟩) hHeld ?_
            try simp only [Act.put, List.getElem_toArray, List.getElem_cons_zero, List.getElem_cons_succ, List.setIfInBounds_toArray, List.set_cons_zero, List.set_cons_succ]
            refine wpAnyH_take (i := 12) (v := ?_) rfl (by kernel_rfl) (by kernel_rfl) (by kernel_rfl) (fun _ _ _ h => h) (Or.inl ⟨by rfl, ?_⟩) hHeld ?_
            rotate_left
            · (intro w hSw; (try dsimp only at hSw); go_simp; try with_reducible rfl)
            try simp only [Act.put, List.getElem_toArray, List.getElem_cons_zero, List.getElem_cons_succ, List.setIfInBounds_toArray, List.set_cons_zero, List.set_cons_succ]
            refine wpAnyH_take (i := 13) (v := ?_) rfl (by kernel_rfl) (by kernel_rfl) (by kernel_rfl) (fun _ _ _ h => h) (Or.inl ⟨by rfl, ?_⟩) hHeld ?_
            rotate_left
            · (intro w hSw; (try dsimp only at hSw); go_simp; try with_reducible rfl)
            try simp only [Act.put, List.getElem_toArray, List.getElem_cons_zero, List.getElem_cons_succ, List.setIfInBounds_toArray, List.set_cons_zero, List.set_cons_succ]
            refine wpAnyH_take (i := 14) (v := undef) rfl (by kernel_rfl) (by kernel_rfl) (by kernel_rfl) (fun _ _ _ h => h) (Or.inr ⟨by rfl, rfl⟩) hHeld ?_
            try simp only [Act.put, List.getElem_toArray, List.getElem_cons_zero, List.getElem_cons_succ, List.setIfInBounds_toArray, List.set_cons_zero, List.set_cons_succ]
            refine wpAnyH_take (i := 15) (v := undef) rfl (by kernel_rfl) (by kernel_rfl) (by kernel_rfl) (fun _ _ _ h => h) (Or.inr ⟨by rfl, rfl⟩) hHeld ?_
            try simp only [Act.put, List.getElem_toArray, List.getElem_cons_zero, List.getElem_cons_succ, List.setIfInBounds_toArray, List.set_cons_zero, List.set_cons_succ]
            refine wpAnyH_take (i := 16) (v := undef) rfl (by kernel_rfl) (by kernel_rfl) (by kernel_rfl) (fun _ _ _ h => h) (Or.inr ⟨by rfl, rfl⟩) hHeld ?_
            try simp only [Act.put, List.getElem_toArray, List.getElem_cons_zero, List.getElem_cons_succ, List.setIfInBounds_toArray, List.set_cons_zero, List.set_cons_succ]
            refine wpAnyH_take (i := 17) (v := undef) rfl (by kernel_rfl) (by kernel_rfl) (by kernel_rfl) (fun _ _ _ h => h) (Or.inr ⟨by rfl, rfl⟩) hHeld ?_
            try simp only [Act.put, List.getElem_toArray, List.getElem_cons_zero, List.getElem_cons_succ, List.setIfInBounds_toArray, List.set_cons_zero, List.set_cons_succ]
            refine wpAnyH_take (i := 18) (v := undef) rfl (by kernel_rfl) (by kernel_rfl) (by kernel_rfl) (fun _ _ _ h => h) (Or.inr ⟨by rfl, rfl⟩) hHeld ?_
            try simp only [Act.put, List.getElem_toArray, List.getElem_cons_zero, List.getElem_cons_succ, List.setIfInBounds_toArray, List.set_cons_zero, List.set_cons_succ]
            refine wpAnyH_take (i := 19) (v := undef) rfl (by kernel_rfl) (by kernel_rfl) (by kernel_rfl) (fun _ _ _ h => h) (Or.inr ⟨by rfl, rfl⟩) hHeld ?_
            try simp only [Act.put, List.getElem_toArray, List.getElem_cons_zero, List.getElem_cons_succ, List.setIfInBounds_toArray, List.set_cons_zero, List.set_cons_succ]
            refine wpAnyH_take (i := 20) (v := ?_) rfl (by kernel_rfl) (by kernel_rfl) (by kernel_rfl) (fun _ _ _ h => h) (Or.inl ⟨by rfl, ?_⟩) hHeld ?_
            rotate_left
            · (intro w hSw; (try dsimp only at hSw); go_simp; try with_reducible rfl)
            try simp only [Act.put, List.getElem_toArray, List.getElem_cons_zero, List.getElem_cons_succ, List.setIfInBounds_toArray, List.set_cons_zero, List.set_cons_succ]
            refine wpAnyH_done (by kernel_rfl) ?_ _
            have hWA : Fr [] W2 wA := ((Fr.refl [] W2).drew).trans0 hA
            have hRA := hWA.heap hR2 (by simp)
            have rb0 := cell_of hRA 0
            have rbf := free_of hRA 0
            gi_wp2
            refine ⟨((hWA.mono (by simp) : Fr [SB + 1 + 1] W2 wA).setCell (p := ⟨SB + 1 + 1, 0, none⟩) (.inl (by simp)) _).keepsFrom (by simp; omega), ?_⟩
            show ¬ ((pre2 ++ [x]).map (·.1) <+: R)
            rw [List.map_append, List.map_cons, List.map_nil]
            intro hp
            have h1 := lt_next HRS.out (fun y hy => by obtain ⟨_, _, _, _, _, h, _⟩ := HROW.out y hy; exact h) hp
            obtain ⟨h2, _⟩ := HJ6.out ((List.prefix_append _ _).trans hp)
            rw [← h2, HX1.out, HB.out] at h1
            cases h1
          · gi_wp2_with fail
            refine region_round 21 rfl (fun u => u.cell? ⟨LB, 0, none⟩ = some (.int .i64 lp.1) ∧ u.cell? ⟨LB, 1, none⟩ = some (.int .i64 lp.2) ∧ u.cell? ⟨A, 0, none⟩ = some (.int .i64 s.1) ∧ u.cell? ⟨A, 1, none⟩ = some (.int .i64 s.2) ∧ u.cell? ⟨SB, 0, none⟩ = some (.slice (some ⟨b, off, none⟩) n sc) ∧ u.cell? ⟨NB, 0, none⟩ = some (.int .i64 (n : Int)) ∧ u.cell? ⟨b, off + L * 2, none⟩ = some (.int .i64 s.1) ∧ u.cell? ⟨b, off + L * 2 + 1, none⟩ = some (.int .i64 s.2)) (by kernel_rfl) (by kernel_rfl) (by rintro ⟨_, _, h⟩; exact h) ?_ ?_
            · exact ⟨ce_drew p0, ce_drew p1, ce_drew a0, ce_drew a1, ce_drew s0, ce_drew n0, ce_drew c0, ce_drew c1⟩
            intro hHeld
            refine wpAnyH_take (i := 0) (v := ?_) rfl (by kernel_rfl) (by kernel_rfl) (by kernel_rfl) (fun _ _ _ h => h) (Or.inl ⟨by rfl, ?_⟩) hHeld ?_
            rotate_left
            · (intro w hSw; (try dsimp only at hSw); go_simp; try with_reducible rfl)
            try simp only [Act.put, List.getElem_toArray, List.getElem_cons_zero, List.setIfInBounds_toArray, List.set_cons_zero, List.set_cons_succ]
            refine wpAnyH_take (i := 1) (v := ?_) rfl (by kernel_rfl) (by kernel_rfl) (by kernel_rfl) (fun _ _ _ h => h) (Or.inl ⟨by rfl, ?_⟩) hHeld ?_
            rotate_left
            · (intro w hSw; (try dsimp only at hSw); go_simp; try with_reducible rfl)
            try simp only [Act.put, List.getElem_toArray, List.getElem_cons_zero, List.getElem_cons_succ, List.setIfInBounds_toArray, List.set_cons_zero, List.set_cons_succ]
            refine wpAnyH_ready (rs := [2]) (by kernel_rfl) (by simp) ?_
            refine AllReadyH.cons rfl (fun K hK => ?_) AllReadyH.nil
            go_simp
            refine (aheadC lp s _).mono ?_
            rw [HB.out]
            rintro e wA ⟨rfl, hA⟩
            refine hK.out _ _ ?_ (fun hHeld => ?_)
            · exact ⟨ce_call hA (ce_drew p0), ce_call hA (ce_drew p1), ce_call hA (ce_drew a0), ce_call hA (ce_drew a1), ce_call hA (ce_drew s0), ce_call hA (ce_drew n0), ce_call hA (ce_drew c0), ce_call hA (ce_drew c1)⟩
            clear hK K
            try simp only [Act.put, List.getElem_toArray, List.getElem_cons_zero, List.getElem_cons_succ, List.setIfInBounds_toArray, List.set_cons_zero, List.set_cons_succ]
            refine wpAnyH_take (i := 3) (v := ?_) rfl (by kernel_rfl) (by kernel_rfl) (by kernel_rfl) (fun _ _ _ h => h) (Or.inl ⟨by rfl, ?_⟩) hHeld ?_
            rotate_left
            · (intro w hSw; (try dsimp only at hSw); go_simp; try with_reducible rfl)
            try simp only [Act.put, List.getElem_toArray, List.getElem_cons_zero, List.getElem_cons_succ, List.setIfInBounds_toArray, List.set_cons_zero, List.set_cons_succ]
            refine wpAnyH_take (i := 4) (v := ?_) rfl (by kernel_rfl) (by kernel_rfl) (by kernel_rfl) (fun _ _ _ h => h) (Or.inl ⟨by rfl, ?_⟩) hHeld ?_
            rotate_left
            · (intro w hSw; (try dsimp only at hSw); go_simp; try with_reducible rfl)
            try simp only [Act.put, List.getElem_toArray, List.getElem_cons_zero, List.getElem_cons_succ, List.setIfInBounds_toArray, List.set_cons_zero, List.set_cons_succ]
            refine wpAnyH_take (i := 5) (v := ?_) rfl (by kernel_rfl) (by kernel_rfl) (by kernel_rfl) (fun _ _ _ h => h) (Or.inl ⟨by rfl, ?_⟩) hHeld ?_
            rotate_left
            · (intro w hSw; (try dsimp only at hSw); go_simp; try with_reducible rfl)
            try simp only [Act.put, List.getElem_toArray, List.getElem_cons_zero, List.getElem_cons_succ, List.setIfInBounds_toArray, List.set_cons_zero, List.set_cons_succ]
            refine wpAnyH_take (i := 6) (v := ?_) rfl (by kernel_rfl) (by kernel_rfl) (by kernel_rfl) (fun _ _ _ h => h) (Or.inl ⟨by rfl, ?_⟩) hHeld ?_
            rotate_left
            · (intro w hSw; (try dsimp only at hSw); go_simp; try with_reducible rfl)
            try simp only [Act.put, List.getElem_toArray, List.getElem_cons_zero, List.getElem_cons_succ, List.setIfInBounds_toArray, List.set_cons_zero, List.set_cons_succ]
            try simp only [HD1.out]
            refine wpAnyH_take (i := 7) (v := ?_) rfl (by kernel_rfl) (by kernel_rfl) (by kernel_rfl) (fun _ _ _ h => h) (Or.inl ⟨by rfl, ?_⟩) hHeld ?_
            rotate_left
            · (intro w hSw; (try dsimp only at hSw); go_simp; try with_reducible rfl)
            try simp only [Act.put, List.getElem_toArray, List.getElem_cons_zero, List.getElem_cons_succ, List.setIfInBounds_toArray, List.set_cons_zero, List.set_cons_succ]
            refine wpAnyH_take (i := 8) (v := ?_) rfl (by kernel_rfl) (by kernel_rfl) (by kernel_rfl) (fun _ _ _ h => h) (Or.inl ⟨by rfl, ?_⟩) hHeld ?_
            rotate_left
            · (intro w hSw; (try dsimp only at hSw); go_simp; try with_reducible rfl)
            try simp only [Act.put, List.getElem_toArray, List.getElem_cons_zero, List.getElem_cons_succ, List.setIfInBounds_toArray, List.set_cons_zero, List.set_cons_succ]
            refine wpAnyH_take (i := 9) (v := ?_) rfl (by kernel_rfl) (by kernel_rfl) (by kernel_rfl) (fun _ _ _ h => h) (Or.inl ⟨by rfl, ?_⟩) hHeld ?_
            rotate_left
            · (intro w hSw; (try dsimp only at hSw); go_simp; try with_reducible rfl)
            try simp only [Act.put, List.getElem_toArray, List.getElem_cons_zero, List.getElem_cons_succ, List.setIfInBounds_toArray, List.set_cons_zero, List.set_cons_succ]
            refine wpAnyH_take (i := 10) (v := ?_) rfl (by kernel_rfl) (by kernel_rfl) (by kernel_rfl) (fun _ _ _ h => h) (Or.inl ⟨by rfl, ?_⟩) hHeld ?_
            rotate_left
            · (intro w hSw; (try dsimp only at hSw); go_simp; try with_reducible rfl)
            try simp only [Act.put, List.getElem_toArray, List.getElem_cons_zero, List.getElem_cons_succ, List.setIfInBounds_toArray, List.set_cons_zero, List.set_cons_succ]
            refine wpAnyH_take (i := 11) (v := ?_) rfl (by kernel_rfl) (by kernel_rfl) (by kernel_rfl) (fun _ _ _ h => h) (Or.inl ⟨by rfl, ?_⟩) hHeld ?_
            rotate_left
            · (intro w hSw; (try dsimp only at hSw); go_simp; try with_reducible rfl)
            try simp only [Act.put, List.getElem_toArray, List.getElem_cons_zero, List.getElem_cons_succ, List.setIfInBounds_toArray, List.set_cons_zero, List.set_cons_succ]
            try simp only [HD2.out]
            refine wpAnyH_take (i := 12) (v := ?_) rfl (by kernel_rfl) (by kernel_rfl) (by kernel_rfl) (fun _ _ _ h => h) (Or.inl ⟨by rfl, ?_⟩) hHeld ?_
            rotate_left
            · (intro w hSw; (try dsimp only at hSw); go_simp; try with_reducible rfl)
            try simp only [Act.put, List.getElem_toArray, List.getElem_cons_zero, List.getElem_cons_succ, List.setIfInBounds_toArray, List.set_cons_zero, List.set_cons_succ]
            refine wpAnyH_take (i := 13) (v := ?_) rfl (by kernel_rfl) (by kernel_rfl) (by kernel_rfl) (fun _ _ _ h => h) (Or.inl ⟨by rfl, ?_⟩) hHeld ?_
            rotate_left
            · (intro w hSw; (try dsimp only at hSw); go_simp; try with_reducible rfl)
            try simp only [Act.put, List.getElem_toArray, List.getElem_cons_zero, List.getElem_cons_succ, List.setIfInBounds_toArray, List.set_cons_zero, List.set_cons_succ]
            refine wpAnyH_take (i := 14) (v := ?_) rfl (by kernel_rfl) (by kernel_rfl) (by kernel_rfl) (fun _ _ _ h => h) (Or.inl ⟨by rfl, ?_⟩) hHeld ?_
            rotate_left
            · (intro w hSw; (try dsimp only at hSw); go_simp; try with_reducible rfl)
            try simp only [Act.put, List.getElem_toArray, List.getElem_cons_zero, List.getElem_cons_succ, List.setIfInBounds_toArray, List.set_cons_zero, List.set_cons_succ]
            refine wpAnyH_take (i := 15) (v := ?_) rfl (by kernel_rfl) (by kernel_rfl) (by kernel_rfl) (fun _ _ _ h => h) (Or.inl ⟨by rfl, ?_⟩) hHeld ?_
            rotate_left
            · (intro w hSw; (try dsimp only at hSw); go_simp; try with_reducible rfl)
            try simp only [Act.put, List.getElem_toArray, List.getElem_cons_zero, List.getElem_cons_succ, List.setIfInBounds_toArray, List.set_cons_zero, List.set_cons_succ]
            refine wpAnyH_take (i := 16) (v := ?_) rfl (by kernel_rfl) (by kernel_rfl) (by kernel_rfl) (fun _ _ _ h => h) (Or.inl ⟨by rfl, ?_⟩) hHeld ?_
            rotate_left
            · (intro w hSw; (try dsimp only at hSw); go_simp; try with_reducible rfl)
            try simp only [Act.put, List.getElem_toArray, List.getElem_cons_zero, List.getElem_cons_succ, List.setIfInBounds_toArray, List.set_cons_zero, List.set_cons_succ]
            refine wpAnyH_take (i := 17) (v := ?_) rfl (by kernel_rfl) (by kernel_rfl) (by kernel_rfl) (fun _ _ _ h => h) (Or.inl ⟨by rfl, ?_⟩) hHeld ?_
            rotate_left
            · (intro w hSw; (try dsimp only at hSw); go_simp; try with_reducible rfl)
            try simp only [Act.put, List.getElem_toArray, List.getElem_cons_zero, List.getElem_cons_succ, List.setIfInBounds_toArray, List.set_cons_zero, List.set_cons_succ]
            refine wpAnyH_take (i := 18) (v := ?_) rfl (by kernel_rfl) (by kernel_rfl) (by kernel_rfl) (fun _ _ _ h => h) (Or.inl ⟨by rfl, ?_⟩) hHeld ?_
            rotate_left
            · (intro w hSw; (try dsimp only at hSw); go_simp; try with_reducible rfl)
            try simp only [Act.put, List.getElem_toArray, List.getElem_cons_zero, List.getElem_cons_succ, List.setIfInBounds_toArray, List.set_cons_zero, List.set_cons_succ]
            refine wpAnyH_take (i := 19) (v := ?_) rfl (by kernel_rfl) (by kernel_rfl) (by kernel_rfl) (fun _ _ _ h => h) (Or.inl ⟨by rfl, ?_⟩) hHeld ?_
            rotate_left
            · (intro w hSw; (try dsimp only at hSw); go_simp; try with_reducible rfl)
            try simp only [Act.put, List.getElem_toArray, List.getElem_cons_zero, List.getElem_cons_succ, List.setIfInBounds_toArray, List.set_cons_zero, List.set_cons_succ]
            refine wpAnyH_take (i := 20) (v := ?_) rfl (by kernel_rfl) (by kernel_rfl) (by kernel_rfl) (fun _ _ _ h => h) (Or.inl ⟨by rfl, ?_⟩) hHeld ?_
            rotate_left
            · (intro w hSw; (try dsimp only at hSw); go_simp; try with_reducible rfl)
            try simp only [Act.put, List.getElem_toArray, List.getElem_cons_zero, List.getElem_cons_succ, List.setIfInBounds_toArray, List.set_cons_zero, List.set_cons_succ]
            refine wpAnyH_done (by kernel_rfl) ?_ _
            have hWA : Fr [] W2 wA := ((Fr.refl [] W2).drew).trans0 hA
            have a0 := ce_call hWA a0
            have a1 := ce_call hWA a1
            have s0 := ce_call hWA s0
            have n0 := ce_call hWA n0
            have c0 := ce_call hWA c0
            have c1 := ce_call hWA c1
            gi_wp2_with fail
            gi_loopw [13] (fun i wx => ∃ r : Nat, i = .int .i64 (r : Int) ∧ (L : Int) < (r : Int) ∧ (r : Int) ≤ (n : Int) ∧ Fr [] wA wx) (fun i _ => ((n : Int) - intOf i).toNat)
            case atStart => exact ⟨L + 1, by go_num, by omega, by omega, Fr.refl _ _⟩
            case round =>
              obtain ⟨r, rfl, hr1, hr3, hfx⟩ := hrel
              have a0 := ce_call hfx a0
              have a1 := ce_call hfx a1
              have s0 := ce_call hfx s0
              have n0 := ce_call hfx n0
              by_cases hlt3 : (r : Int) < (n : Int)
              · have hra : r < ats.length := by omega
                have cr := HC.out r hra
                have hne := HNO.out r hra (by omega) (by omega)
                rw [HX1.out] at hne
                obtain ⟨t, ht⟩ : ∃ t, ats[r] = t := ⟨_, rfl⟩
                rw [ht] at cr hne
                have e0 := ce_call hfx (ce_call hWA ((hfw2.cell (p := ⟨b, off + r * 2, none⟩) hb (by simp)).trans cr.1))
                have e1 := ce_call hfx (ce_call hWA ((hfw2.cell (p := ⟨b, off + r * 2 + 1, none⟩) hb (by simp)).trans cr.2))
                have hw2 : IntKind.i64.wrap ((r : Int) + 1) = (r : Int) + 1 := by rw [IntKind.wrap_i64]; omega
                have hr0 : (0 : Int) ≤ (r : Int) := by omega
                have h4 : (¬ t.1 = s.1) ∨ (t.1 = s.1 ∧ ¬ t.2 = s.2) := by
                  by_cases h1 : t.1 = s.1
                  · exact .inr ⟨h1, fun h2 => hne (Prod.ext h1 h2)⟩
                  · exact .inl h1
                clear cr ht hne
                rcases h4 with h1 | ⟨h1, h2⟩
                all_goals
                  gi_wp2_with fail
                  refine region_round 6 rfl (fun u => u.cell? ⟨A, 0, none⟩ = some (.int .i64 s.1) ∧ u.cell? ⟨A, 1, none⟩ = some (.int .i64 s.2) ∧ u.cell? ⟨SB, 0, none⟩ = some (.slice (some ⟨b, off, none⟩) n sc) ∧ u.cell? ⟨b, off + r * 2, none⟩ = some (.int .i64 t.1) ∧ u.cell? ⟨b, off + r * 2 + 1, none⟩ = some (.int .i64 t.2)) (by kernel_rfl) (by kernel_rfl) (by rintro ⟨_, _, h⟩; exact h) ?_ ?_
                  · exact ⟨ce_drew a0, ce_drew a1, ce_drew s0, ce_drew e0, ce_drew e1⟩
                  intro hHeld
                  refine wpAnyH_take (i := 0) (v := ?_) rfl (by kernel_rfl) (by kernel_rfl) (by kernel_rfl) (fun _ _ _ h => h) (Or.inl ⟨by rfl, ?_⟩) hHeld ?_
                  rotate_left
                  · (intro w hSw; (try dsimp only at hSw); go_simp; try with_reducible rfl)
                  try simp only [Act.put, List.getElem_toArray, List.getElem_cons_zero, List.setIfInBounds_toArray, List.set_cons_zero, List.set_cons_succ]
                  refine wpAnyH_take (i := 1) (v := ?_) rfl (by kernel_rfl) (by kernel_rfl) (by kernel_rfl) (fun _ _ _ h => h) (Or.inl ⟨by rfl, ?_⟩) hHeld ?_
                  rotate_left
                  · (intro w hSw; (try dsimp only at hSw); go_simp; try with_reducible rfl)
                  try simp only [Act.put, List.getElem_toArray, List.getElem_cons_zero, List.getElem_cons_succ, List.setIfInBounds_toArray, List.set_cons_zero, List.set_cons_succ]
                  refine wpAnyH_take (i := 2) (v := ?_) rfl (by kernel_rfl) (by kernel_rfl) (by kernel_rfl) (fun _ _ _ h => h) (Or.inl ⟨by rfl, ?_⟩) hHeld ?_
                  rotate_left
                  · (intro w hSw; (try dsimp only at hSw); go_simp; try with_reducible rfl)
                  try simp only [Act.put, List.getElem_toArray, List.getElem_cons_zero, List.getElem_cons_succ, List.setIfInBounds_toArray, List.set_cons_zero, List.set_cons_succ]
                  refine wpAnyH_take (i := 3) (v := ?_) rfl (by kernel_rfl) (by kernel_rfl) (by kernel_rfl) (fun _ _ _ h => h) (Or.inl ⟨by rfl, ?_⟩) hHeld ?_
                  rotate_left
                  · (intro w hSw; (try dsimp only at hSw); go_simp; try with_reducible rfl)
                  try simp only [Act.put, List.getElem_toArray, List.getElem_cons_zero, List.getElem_cons_succ, List.setIfInBounds_toArray, List.set_cons_zero, List.set_cons_succ]
                  refine wpAnyH_take (i := 4) (v := ?_) rfl (by kernel_rfl) (by kernel_rfl) (by kernel_rfl) (fun _ _ _ h => h) (Or.inl ⟨by rfl, ?_⟩) hHeld ?_
                  rotate_left
                  · (intro w hSw; (try dsimp only at hSw); go_simp; try with_reducible rfl)
                  try simp only [Act.put, List.getElem_toArray, List.getElem_cons_zero, List.getElem_cons_succ, List.setIfInBounds_toArray, List.set_cons_zero, List.set_cons_succ]
                  refine wpAnyH_take (i := 5) (v := ?_) rfl (by kernel_rfl) (by kernel_rfl) (by kernel_rfl) (fun _ _ _ h => h) (Or.inl ⟨by rfl, ?_⟩) hHeld ?_
                  rotate_left
                  · (intro w hSw; (try dsimp only at hSw); go_simp; try with_reducible rfl)
                  try simp only [Act.put, List.getElem_toArray, List.getElem_cons_zero, List.getElem_cons_succ, List.setIfInBounds_toArray, List.set_cons_zero, List.set_cons_succ]
                  refine wpAnyH_done (by kernel_rfl) ?_ _
                  gi_wp2
                  go_roundw
                  case rel => exact ⟨r + 1, by go_num, by omega, by omega, hfx.drew⟩
                  case measure => simp [intOf]; omega
              · obtain rfl : n = r := by omega
                have hPN : pre2.length < 65536 := by have h1 := HRL.out; have h2 := HML.out; omega
                have hw3 : IntKind.i64.wrap ((pre2.length : Int) + 1) = (pre2.length : Int) + 1 := by rw [IntKind.wrap_i64]; omega
                have hx2 := hWA.trans0 hfx
                have jl := hx2.heap j1 (by simp)
                have jm := hx2.heap j2 (by simp)
                have jA := hx2.heap hA2 (by simp)
                have m0 := cell_of jm 0
                have mf := free_of jm 0
                have lf0 := free_of jl 0
                have lf1 := free_of jl 1
                have q0 := cell_of jA 0
                have q1 := cell_of jA 1
                have q2 := cell_of jA 2
                have q3 := cell_of jA 3
                have p0 := cell_of jl 0
                have p1 := cell_of jl 1
                clear c0 c1 hw1 hr1 hr3 hlt3
                gi_wp2_with fail
                have jl5 := set_of (set_of jl 0 (.int .i64 s.1)) 1 (.int .i64 s.2)
                have jm5 := set_of (((((Fr.refl [LB] _).setCell (p := ⟨LB, 0, none⟩) (.inl (by simp)) (.int .i64 s.1)).setCell (p := ⟨LB, 1, none⟩) (.inl (by simp)) (.int .i64 s.2))).heap jm (by simp)) 0 (.int .i64 ((pre2.length : Int) + 1))
                have jl6 := ((Fr.refl [LB + 1] _).setCell (p := ⟨LB + 1, 0, none⟩) (.inl (by simp)) (.int .i64 ((pre2.length : Int) + 1))).heap jl5 (by simp)
                have hF6 := ((((hx2.mono (by simp) : Fr [LB, LB + 1] W2 _).setCell (p := ⟨LB, 0, none⟩) (.inl (by simp)) (.int .i64 s.1)).setCell (p := ⟨LB, 1, none⟩) (.inl (by simp)) (.int .i64 s.2)).setCell (p := ⟨LB + 1, 0, none⟩) (.inl (by simp)) (.int .i64 ((pre2.length : Int) + 1)))
                refine ⟨trivial, ?_⟩
                gi_at_call 28
                refine (CallsIn.inRound l2 (callsIn_wide.2 (refHas a s _))).mono ?_
                rintro e w7 ⟨rfl, h7⟩
                have jl7 := h7.heap jl6 (by simp)
                have jm7 := h7.heap jm5 (by simp)
                have hF7 : Fr [LB, LB + 1] W2 w7 := hF6.trans h7 (by simp)
                have jb7 : w7.cell? ⟨A, 0, none⟩ = some (.int .i64 s.1) := (hF7.cell (p := ⟨A, 0, none⟩) (lt_of hat) (by simp; omega)).trans (cell_of hat 0)
                have jc7 : w7.cell? ⟨A, 1, none⟩ = some (.int .i64 s.2) := (hF7.cell (p := ⟨A, 1, none⟩) (lt_of hat) (by simp; omega)).trans (cell_of hat 1)
                have hv7 : Boxed w7 (LB + 1 + 1) 35 v := hF7.heap j3 (by simp; omega)
                have hrow7 := owns_fr j4 hF7 (by intro g hg hm; have := (j4.lt g hg).1; simp at hm; omega)
                have hlen7 : (((pre2 ++ [x]).map (·.1)).length : Int) = (pre2.length : Int) + 1 := by simp
                have HJM := Lib.hid (hlen7 ▸ jm7)
                have hj5 : il.length ≤ pre2.length := by simpa using j5
                have HPS := Lib.hid (fun (hp : (pre2 ++ [x]).map (·.1) <+: R) => show s = lastOf ((pre2 ++ [x]).map (·.1)) ∧ il = ((pre2.map (·.1)).map (·.1)).filter (hasA a) from by
                  rw [List.map_append, List.map_cons, List.map_nil] at hp ⊢
                  rw [lastOf_snoc]
                  exact ⟨HX1.out.symm, (HJ6.out ((List.prefix_append _ _).trans hp)).2⟩)
                have hz7 : w6.heap.size ≤ w7.heap.size := Nat.le_trans hf2.size hF7.size
                clear a0 a1 s0 n0 m0 mf lf0 lf1 q0 q1 q2 q3 p0 p1 j1 j2 j3 j4 j5 jl jm jA jl5 jm5 jl6 jm7 hF6 hlen7 h7
                obtain ⟨hh, hhe⟩ : ∃ hh, hasA a s = hh := ⟨_, rfl⟩
                rw [hhe]
                have HHE := Lib.hid hhe
                clear hhe
                cases hh
                · gi_wp2
                  refine ⟨hF7.keepsFrom (by simp; omega), (hF7.mono (by intro g hg; simp at hg; left; simp; omega)).kept hf2.size, s, il, v, jl7, HJM.out, hv7, hrow7, by simp; omega, fun hp => ?_⟩
                  obtain ⟨h1, h2⟩ := HPS.out hp
                  refine ⟨h1, ?_⟩
                  rw [h2]
                  simp [HX1.out, HHE.out]
                · have hvc := hv7.cell
                  have hvf := hv7.frozen
                  have happ := fun (w3 : World) (v' : Value) (h1 : w3.ownsRow w6.heap.size 26 2 v' (il.length + 1) (il.flatMap spC ++ spC s)) (h2 : (w7.alloc (.cells #[.int .i64 s.1, .int .i64 s.2] 26)).grownBy w3 v.ownBlock) =>
                    Boxed.app (t := 35) (e := 26) hv7 (by decide) hrow7 hz7 h1 h2
                  gi_wp2_with (gi_at_builtin; refine wpListIn_append_own _ rfl _ _ 35 rfl w6.heap.size 26 i0 _ 2 16 Try.underlying35 hi hz0 hz1 hz2 rfl (by decide) _ _ _ rfl (hrow7.alloc _) ⟨w7.heap.size, 0, none⟩ 1 1 (spC s) rfl rfl (news_of _ _ _) (by simp [Value.oneCell', spC]) (by unfold maxLen; omega) (by omega) (by simp; omega) ?_; intro v' w3 hown' hgrow _; obtain ⟨g', cap', rfl⟩ := ownsRow_succ hown'; obtain ⟨hv1, hv2, hr2, hk2, hb2⟩ := happ _ _ hown' hgrow; have hc1 := hv1.cell; have hf1 := hv1.frozen)
                  have hk0 := (hF7.mono (by intro g hg; simp at hg; left; simp; omega) : Fr [LB, LB + 1, LB + 2] W2 w7).kept hf2.size
                  refine ⟨(hF7.keepsFrom (by simp; omega)).trans hk2, hk0.trans ⟨hb2.os, hb2.tape, hb2.output, hb2.size, fun g hg hn => hb2.block g hg (by simp at hn ⊢; omega)⟩, s, il ++ [s], _, (hb2.block LB (by omega) (by simp; omega)).trans jl7, (hb2.block (LB + 1) (by omega) (by simp)).trans HJM.out, hv2, by simpa using hr2, by simp; omega, fun hp => ?_⟩
                  obtain ⟨h1, h2⟩ := HPS.out hp
                  refine ⟨h1, ?_⟩
                  rw [h2]
                  simp [HX1.out, HHE.out]
        · intro D xs W hD hT hJ hf hK
          replace hT : xs.map (·.1) = R := hT
          rw [hT] at hJ
          obtain ⟨lp, il, v, j1, j2, j3, j4, j5, j6⟩ := hJ
          obtain ⟨_, hil⟩ := j6 (List.prefix_refl _)
          have HIL := Lib.hid hil
          clear hil j1 j6
          have hfw2 : Fr [] w W := hf6w.trans hf (by have := hf6w.size; simp; omega)
          have hS2 := hf.heap hS6 (by simp; omega)
          have hN2 := hf.heap hN6 (by simp; omega)
          have hA2 := hf.heap hA6 (by simp; omega)
          have hR2x := hf.heap hR6 (by simp; omega)
          have HT2 := Lib.hid (HT6.out.fr hf (by simp; omega) (by simp; omega))
          gi_wp2
          gi_loopw [14] (fun i wx => ∃ r : Nat, i = .int .i64 (r : Int) ∧ (r : Int) ≤ (n : Int) ∧ Fr [] W wx) (fun i _ => ((n : Int) - intOf i).toNat)
          case atStart => exact ⟨0, rfl, by omega, Fr.refl _ _⟩
          case round =>
            obtain ⟨r, rfl, hr1, hfx⟩ := hrel
            have hNx := hfx.heap hN2 (by simp)
            have hSx := hfx.heap hS2 (by simp)
            have n0 := cell_of hNx 0
            have s0 := cell_of hSx 0
            by_cases hlt3 : (r : Int) < (n : Int)
            · have hra : r < ats.length := by omega
              obtain ⟨b, off, c, ec, hb, hc⟩ := HSP.out.cell (by omega)
              cases ec
              have c0 : w.cell? ⟨b, off + r * 2, none⟩ = some (.int .i64 ats[r].1) := hc (r * 2 + 0) _ (by rw [flat_get spC 2 (fun _ => rfl) ats r 0 hra (by omega)]; rfl)
              have c1 : w.cell? ⟨b, off + r * 2 + 1, none⟩ = some (.int .i64 ats[r].2) := hc (r * 2 + 1) _ (by rw [flat_get spC 2 (fun _ => rfl) ats r 1 hra (by omega)]; rfl)
              have hrk : r < k := by omega
              have hgs : (getS ats[r] M).isSome = mayS ats[r].1 ats[r].2 := by
                cases hm : mayS ats[r].1 ats[r].2 with
                | false =>
                  have h := HPR.out.1.none hm
                  rw [HM.out] at h
                  rw [h]
                  rfl
                | true =>
                  have hmem : (ats[r], (r : Int)) ∈ (numd ats).take k := by
                    rw [← HZG.out r hrk]
                    exact List.getElem_mem _
                  have h := HPR.out.2.2.1 _ hmem hm
                  rw [HM.out] at h
                  cases hg : getS ats[r] M with
                  | none => exact absurd hg h
                  | some _ => rfl
              have HG := Lib.hid hgs
              obtain ⟨s, hs⟩ : ∃ s, ats[r] = s := ⟨_, rfl⟩
              rw [hs] at c0 c1 HG
              have hfwx : Fr [] w _ := hfw2.trans0 hfx
              have c0 := (hfwx.cell (p := ⟨b, off + r * 2, none⟩) hb (by simp)).trans c0
              have c1 := (hfwx.cell (p := ⟨b, off + r * 2 + 1, none⟩) hb (by simp)).trans c1
              have hw2 : IntKind.i64.wrap ((r : Int) + 1) = (r : Int) + 1 := by rw [IntKind.wrap_i64]; omega
              have hr0 : (0 : Int) ≤ (r : Int) := by omega
              have hrl : (r : Int) < (n : Int) := hlt3
              have HTx := Lib.hid (HT2.out.fr hfx (by simp) (by simp))
              have h5 : (mayS s.1 s.2 = true ∧ 0 ≤ s.1 ∧ s.1 < 65536 ∧ 0 ≤ s.2 ∧ s.2 < 702) ∨ (mayS s.1 s.2 = false ∧ s.1 < 0) ∨ (mayS s.1 s.2 = false ∧ 0 ≤ s.1 ∧ ¬ s.1 < 65536) ∨ (mayS s.1 s.2 = false ∧ 0 ≤ s.1 ∧ s.1 < 65536 ∧ s.2 < 0) ∨ (mayS s.1 s.2 = false ∧ 0 ≤ s.1 ∧ s.1 < 65536 ∧ 0 ≤ s.2 ∧ ¬ s.2 < 702) := by
                cases hm : mayS s.1 s.2 with
                | true =>
                  simp only [mayS, decide_eq_true_eq] at hm
                  simp
                  omega
                | false =>
                  simp only [mayS, decide_eq_false_iff_not] at hm
                  simp
                  omega
              have H5 := Lib.hid h5
              clear hc hs hgs h5
              gi_wp2_with fail
              refine ⟨trivial, ?_⟩
              gi_at_call 29
              refine (callsIn_wide.2 (get_int tb mb s M _ HTx.out)).mono ?_
              rw [HG.out]
              rintro e w8 ⟨rfl, h8⟩
              have c0 := ce_call h8 c0
              have c1 := ce_call h8 c1
              have s0 := ce_call h8 s0
              rcases H5.out with ⟨h1, h2, h3, h4, h5⟩ | ⟨h1, h2⟩ | ⟨h1, h2, h3⟩ | ⟨h1, h2, h3, h4⟩ | ⟨h1, h2, h3, h4, h5⟩
              all_goals
                rw [h1]
                clear h1
                gi_wp2
                go_roundw
                case rel => exact ⟨r + 1, by go_num, by omega, hfx.trans0 h8⟩
                case measure => simp [intOf]; omega
            · obtain rfl : n = r := by omega
              have hAx := hfx.heap hA2 (by simp)
              have hAx4 := (Fr.alloc (Fr.refl [] _) (.cells #[.int .i64 0] 3)).heap hAx (by simp)
              have q0 := cell_of hAx4 0
              have q1 := cell_of hAx4 1
              have q2 := cell_of hAx4 2
              have q3 := cell_of hAx4 3
              have hxz := hfx.size
              gi_wp2_with fail
              have hK9 := heap_new wr (.cells #[.int .i64 0] 3)
              have hW9 : Fr [] W (wr.alloc (.cells #[.int .i64 0] 3)) := hfx.alloc _
              have hK9l := lt_of hK9
              generalize wr.alloc (.cells #[.int .i64 0] 3) = W9 at *
              obtain ⟨KB, hKBe⟩ : ∃ KB, wr.heap.size = KB := ⟨_, rfl⟩
              rw [hKBe] at hK9 hxz hK9l ⊢
              refine ⟨trivial, ?_⟩
              gi_at_call 30
              refine (callsIn_wide.2 (overA_int tb mb M a _ (HT2.out.fr hW9 (by simp) (by simp)) HML.out)).mono ?_
              rintro e w10 ⟨B', rv', rfl, hI', h10⟩
              have hR2 : (rowsS 0 (hasA a) M (sortS (M.map (·.1)))).map (·.1) = il := by rw [HRF.out, HIL.out]
              clear HRF
              generalize rowsS 0 (hasA a) M (sortS (M.map (·.1))) = R2 at *
              have hlen2 : R2.length = il.length := by rw [← hR2, List.length_map]
              have HR2 := Lib.hid hR2
              have hF10 : Fr [] W w10 := hW9.trans0 h10
              have HI' := Lib.hid hI'
              have hI'l := hI'.lt
              have hmany := hF10.heap j2 (by simp)
              have hin := hF10.heap j3 (by simp)
              have hrow := owns_fr j4 hF10 (by simp)
              have hgl := j4.lt
              have hK10 := h10.heap hK9 (by simp)
              have hKD := hF10.heap hK (by simp)
              have hR10 := hF10.heap hR2x (by simp)
              have HT10 := Lib.hid (HT2.out.fr hF10 (by simp) (by simp))
              have hKl := lt_of hK10
              have hLl := lt_of j3
              have hTl2 := lt_of HT2.out.tab
              have hMl2 := HT2.out.map.lt
              have hRl2 := lt_of hR2x
              have hDl2 := lt_of hK
              have hils : il.length ≤ 65536 := by have h1 := HRL.out; have h2 := HML.out; omega
              clear hI' hR2 j2 j3 j4 j5 hNx hSx hAx hAx4 q0 q1 q2 q3 n0 s0 hlt3 hr1
              gi_wp2
              refine range_iterK rfl (by omega) (gf := 107) (lb := #[.pointer (some ⟨B', 0, none⟩)]) rfl trivial (enters_of Try.func107 (by kernel_rfl) rfl) [KB]
                (overK_int 4 (by omega) B' rv' R2 _ (fun W W' hk hr => RIs.kept HI'.out.own (Nat.le_refl _) (by intro g hg e; have := (HI'.out.own.lt _ e).1; simp only [List.mem_cons, List.not_mem_nil, or_false] at hg; omega) hk hr) w10 HI'.out.box hI'l (RIs.of_owns HI'.out.own) (by omega)) (fun _ => rfl)
                (fun pre W => W.heap[KB]? = some (.cells #[.int .i64 (pre.length : Int)] 3 (0, 0)))
                (fun (_ : Code) (pre : List {x // x ∈ R2}) (_ : World) => ¬ pre.map (·.1) <+: R2) (ownFrom_block _ _ _ hKl) (fun _ => ownFrom_pure _ (fun pre : List {x // x ∈ R2} => ¬ pre.map (·.1) <+: R2)) hK10 ?_ ?_ ?_
              · intro l pre x W11 hJ hf
                gi_wp2
                have h0 : Fr [] W11 (W11.alloc (.cells #[.int .i64 x.val.1.1, .int .i64 x.val.1.2] 26)) := (Fr.refl [] W11).alloc _
                have hat0 := heap_new W11 (.cells #[.int .i64 x.val.1.1, .int .i64 x.val.1.2] 26)
                refine ⟨h0, h0.heap hJ (by simp), ?_⟩
                have hAl : W11.heap.size ≥ w10.heap.size := hf.size
                intro l2 pre2 W2 hrel hl2 hr2 hJ2 hf2 hlt2
                have hat := hrel.block hat0
                clear hat0 hrel hJ h0 hf
                obtain ⟨A, hAe⟩ : ∃ A, W11.heap.size = A := ⟨_, rfl⟩
                rw [hAe] at hat hAl ⊢
                have hpl : pre2.length < il.length := by omega
                obtain ⟨g, cap, ev, hgz, hgc⟩ := (RIs.of_owns hrow).cell (by omega)
                have hin2 := hf2.heap hin (by simp; omega)
                subst ev
                have hg2 := (hgl g rfl).2
                have e0 : w10.cell? ⟨g, pre2.length * 2, none⟩ = some (.int .i64 il[pre2.length].1) := hgc (pre2.length * 2 + 0) _ (by rw [flat_get spC 2 (fun _ => rfl) il pre2.length 0 hpl (by omega)]; rfl)
                have e1 : w10.cell? ⟨g, pre2.length * 2 + 1, none⟩ = some (.int .i64 il[pre2.length].2) := hgc (pre2.length * 2 + 1) _ (by rw [flat_get spC 2 (fun _ => rfl) il pre2.length 1 hpl (by omega)]; rfl)
                have e0 := (hf2.cell (p := ⟨g, pre2.length * 2, none⟩) hgz (by simp; omega)).trans e0
                have e1 := (hf2.cell (p := ⟨g, pre2.length * 2 + 1, none⟩) hgz (by simp; omega)).trans e1
                have HPG := Lib.hid (fun (hp : (pre2 ++ [x]).map (·.1) <+: R2) => show il[pre2.length]? = some x.1.1 from by
                  rw [List.map_append, List.map_cons, List.map_nil] at hp
                  have := pref_get HR2.out hp
                  rwa [List.length_map] at this)
                rw [List.getElem?_eq_getElem hpl] at HPG
                obtain ⟨t, ht⟩ : ∃ t, il[pre2.length] = t := ⟨_, rfl⟩
                obtain ⟨s, hs⟩ : ∃ s, x.1.1 = s := ⟨_, rfl⟩
                rw [ht] at e0 e1 HPG
                rw [hs] at hat HPG
                have k0 : W2.cell? ⟨KB, 0, none⟩ = some (.int .i64 (pre2.length : Int)) := cell_of hJ2 0
                have v0 : W2.cell? ⟨LB + 1 + 1, 0, none⟩ = some (.slice (some ⟨g, 0, none⟩) il.length cap) := cell_of hin2 0
                have a0 : W2.cell? ⟨A, 0, none⟩ = some (.int .i64 s.1) := cell_of hat 0
                have a1 : W2.cell? ⟨A, 1, none⟩ = some (.int .i64 s.2) := cell_of hat 1
                have hd2 : decide (il.length ≤ pre2.length) = false := by simp; omega
                have HD2 := Lib.hid hd2
                have hpi : (pre2.length : Int) < (il.length : Int) := by omega
                have hp0 : (0 : Int) ≤ (pre2.length : Int) := by omega
                have hw1 : IntKind.i64.wrap ((pre2.length : Int) + 1) = (pre2.length : Int) + 1 := by rw [IntKind.wrap_i64]; omega
                have hR3 := hf2.heap hR10 (by simp; omega)
                have rb0 := cell_of hR3 0
                have rbf := free_of hR3 0
                have hKf := free_of hJ2 0
                have h4 : (¬ t.1 = s.1 ∨ (t.1 = s.1 ∧ ¬ t.2 = s.2)) ∨ (t.1 = s.1 ∧ t.2 = s.2) := by
                  by_cases h1 : t.1 = s.1
                  · by_cases h2 : t.2 = s.2
                    · exact .inr ⟨h1, h2⟩
                    · exact .inl (.inr ⟨h1, h2⟩)
                  · exact .inl (.inl h1)
                clear hd2 hgc hs ht
                rcases h4 with h4 | ⟨h1, h2⟩
                · have HNE := Lib.hid (show ¬ t = s from fun e => by rw [e] at h4; simp at h4)
                  rcases h4 with h1 | ⟨h1, h2⟩
                  all_goals
                    gi_wp2_with fail
                    refine region_round 12 rfl (fun u => u.cell? ⟨KB, 0, none⟩ = some (.int .i64 (pre2.length : Int)) ∧ u.cell? ⟨LB + 1 + 1, 0, none⟩ = some (.slice (some ⟨g, 0, none⟩) il.length cap) ∧ u.cell? ⟨g, pre2.length * 2, none⟩ = some (.int .i64 t.1) ∧ u.cell? ⟨g, pre2.length * 2 + 1, none⟩ = some (.int .i64 t.2) ∧ u.cell? ⟨A, 0, none⟩ = some (.int .i64 s.1) ∧ u.cell? ⟨A, 1, none⟩ = some (.int .i64 s.2)) (by kernel_rfl) (by kernel_rfl) (by rintro ⟨_, _, h⟩; exact h) ?_ ?_
                    · exact ⟨ce_drew k0, ce_drew v0, ce_drew e0, ce_drew e1, ce_drew a0, ce_drew a1⟩
                    intro hHeld
                    refine wpAnyH_take (i := 0) (v := ?_) rfl (by kernel_rfl) (by kernel_rfl) (by kernel_rfl) (fun _ _ _ h => h) (Or.inl ⟨by rfl, ?_⟩) hHeld ?_
                    rotate_left
                    · (intro w hSw; (try dsimp only at hSw); go_simp; try with_reducible rfl)
                    try simp only [Act.put, List.getElem_toArray, List.getElem_cons_zero, List.setIfInBounds_toArray, List.set_cons_zero, List.set_cons_succ]
                    refine wpAnyH_take (i := 1) (v := ?_) rfl (by kernel_rfl) (by kernel_rfl) (by kernel_rfl) (fun _ _ _ h => h) (Or.inl ⟨by rfl, ?_⟩) hHeld ?_
                    rotate_left
                    · (intro w hSw; (try dsimp only at hSw); go_simp; try with_reducible rfl)
                    try simp only [Act.put, List.getElem_toArray, List.getElem_cons_zero, List.getElem_cons_succ, List.setIfInBounds_toArray, List.set_cons_zero, List.set_cons_succ]
                    refine wpAnyH_take (i := 2) (v := ?_) rfl (by kernel_rfl) (by kernel_rfl) (by kernel_rfl) (fun _ _ _ h => h) (Or.inl ⟨by rfl, ?_⟩) hHeld ?_
                    rotate_left
                    · (intro w hSw; (try dsimp only at hSw); go_simp; try with_reducible rfl)
                    try simp only [Act.put, List.getElem_toArray, List.getElem_cons_zero, List.getElem_cons_succ, List.setIfInBounds_toArray, List.set_cons_zero, List.set_cons_succ]
                    refine wpAnyH_take (i := 3) (v := ?_) rfl (by kernel_rfl) (by kernel_rfl) (by kernel_rfl) (fun _ _ _ h => h) (Or.inl ⟨by rfl, ?_⟩) hHeld ?_
                    rotate_left
                    · (intro w hSw; (try dsimp only at hSw); go_simp; try with_reducible rfl)
                    try simp only [Act.put, List.getElem_toArray, List.getElem_cons_zero, List.getElem_cons_succ, List.setIfInBounds_toArray, List.set_cons_zero, List.set_cons_succ]
                    try simp only [HD2.out]
                    refine wpAnyH_take (i := 4) (v := ?_) rfl (by kernel_rfl) (by kernel_rfl) (by kernel_rfl) (fun _ _ _ h => h) (Or.inl ⟨by rfl, ?_⟩) hHeld ?_
                    rotate_left
                    · (intro w hSw; (try dsimp only at hSw); go_simp; try with_reducible rfl)
                    try simp only [Act.put, List.getElem_toArray, List.getElem_cons_zero, List.getElem_cons_succ, List.setIfInBounds_toArray, List.set_cons_zero, List.set_cons_succ]
                    refine wpAnyH_take (i := 5) (v := ?_) rfl (by kernel_rfl) (by kernel_rfl) (by kernel_rfl) (fun _ _ _ h => h) (Or.inl ⟨by rfl, ?_⟩) hHeld ?_
                    rotate_left
                    · (intro w hSw; (try dsimp only at hSw); go_simp; try with_reducible rfl)
                    try simp only [Act.put, List.getElem_toArray, List.getElem_cons_zero, List.getElem_cons_succ, List.setIfInBounds_toArray, List.set_cons_zero, List.set_cons_succ]
                    refine wpAnyH_take (i := 6) (v := ?_) rfl (by kernel_rfl) (by kernel_rfl) (by kernel_rfl) (fun _ _ _ h => h) (Or.inl ⟨by rfl, ?_⟩) hHeld ?_
                    rotate_left
                    · (intro w hSw; (try dsimp only at hSw); go_simp; try with_reducible rfl)
                    try simp only [Act.put, List.getElem_toArray, List.getElem_cons_zero, List.getElem_cons_succ, List.setIfInBounds_toArray, List.set_cons_zero, List.set_cons_succ]
                    refine wpAnyH_take (i := 7) (v := ?_) rfl (by kernel_rfl) (by kernel_rfl) (by kernel_rfl) (fun _ _ _ h => h) (Or.inl ⟨by rfl, ?_⟩) hHeld ?_
                    rotate_left
                    · (intro w hSw; (try dsimp only at hSw); go_simp; try with_reducible rfl)
                    try simp only [Act.put, List.getElem_toArray, List.getElem_cons_zero, List.getElem_cons_succ, List.setIfInBounds_toArray, List.set_cons_zero, List.set_cons_succ]
                    refine wpAnyH_take (i := 8) (v := ?_) rfl (by kernel_rfl) (by kernel_rfl) (by kernel_rfl) (fun _ _ _ h => h) (Or.inl ⟨by rfl, ?_⟩) hHeld ?_
                    rotate_left
                    · (intro w hSw; (try dsimp only at hSw); go_simp; try with_reducible rfl)
                    try simp only [Act.put, List.getElem_toArray, List.getElem_cons_zero, List.getElem_cons_succ, List.setIfInBounds_toArray, List.set_cons_zero, List.set_cons_succ]
                    refine wpAnyH_take (i := 9) (v := ?_) rfl (by kernel_rfl) (by kernel_rfl) (by kernel_rfl) (fun _ _ _ h => h) (Or.inl ⟨by rfl, ?_⟩) hHeld ?_
                    rotate_left
                    · (intro w hSw; (try dsimp only at hSw); go_simp; try with_reducible rfl)
                    try simp only [Act.put, List.getElem_toArray, List.getElem_cons_zero, List.getElem_cons_succ, List.setIfInBounds_toArray, List.set_cons_zero, List.set_cons_succ]
                    refine wpAnyH_take (i := 10) (v := ?_) rfl (by kernel_rfl) (by kernel_rfl) (by kernel_rfl) (fun _ _ _ h => h) (Or.inl ⟨by rfl, ?_⟩) hHeld ?_
                    rotate_left
                    · (intro w hSw; (try dsimp only at hSw); go_simp; try with_reducible rfl)
                    try simp only [Act.put, List.getElem_toArray, List.getElem_cons_zero, List.getElem_cons_succ, List.setIfInBounds_toArray, List.set_cons_zero, List.set_cons_succ]
                    refine wpAnyH_take (i := 11) (v := ?_) rfl (by kernel_rfl) (by kernel_rfl) (by kernel_rfl) (fun _ _ _ h => h) (Or.inl ⟨by rfl, ?_⟩) hHeld ?_
                    rotate_left
                    · (intro w hSw; (try dsimp only at hSw); go_simp; try with_reducible rfl)
                    try simp only [Act.put, List.getElem_toArray, List.getElem_cons_zero, List.getElem_cons_succ, List.setIfInBounds_toArray, List.set_cons_zero, List.set_cons_succ]
                    refine wpAnyH_done (by kernel_rfl) ?_ _
                    gi_wp2
                    refine ⟨((((Fr.refl [SB + 1 + 1] W2).drew).setCell (p := ⟨SB + 1 + 1, 0, none⟩) (.inl (by simp)) _)).keepsFrom (by simp; omega), ?_⟩
                    show ¬ ((pre2 ++ [x]).map (·.1) <+: R2)
                    exact fun hp => HNE.out (Option.some.inj (HPG.out hp))
                · gi_wp2_with fail
                  refine region_round 12 rfl (fun u => u.cell? ⟨KB, 0, none⟩ = some (.int .i64 (pre2.length : Int)) ∧ u.cell? ⟨LB + 1 + 1, 0, none⟩ = some (.slice (some ⟨g, 0, none⟩) il.length cap) ∧ u.cell? ⟨g, pre2.length * 2, none⟩ = some (.int .i64 t.1) ∧ u.cell? ⟨g, pre2.length * 2 + 1, none⟩ = some (.int .i64 t.2) ∧ u.cell? ⟨A, 0, none⟩ = some (.int .i64 s.1) ∧ u.cell? ⟨A, 1, none⟩ = some (.int .i64 s.2)) (by kernel_rfl) (by kernel_rfl) (by rintro ⟨_, _, h⟩; exact h) ?_ ?_
                  · exact ⟨ce_drew k0, ce_drew v0, ce_drew e0, ce_drew e1, ce_drew a0, ce_drew a1⟩
                  intro hHeld
                  refine wpAnyH_take (i := 0) (v := ?_) rfl (by kernel_rfl) (by kernel_rfl) (by kernel_rfl) (fun _ _ _ h => h) (Or.inl ⟨by rfl, ?_⟩) hHeld ?_
                  rotate_left
                  · (intro w hSw; (try dsimp only at hSw); go_simp; try with_reducible rfl)
                  try simp only [Act.put, List.getElem_toArray, List.getElem_cons_zero, List.setIfInBounds_toArray, List.set_cons_zero, List.set_cons_succ]
                  refine wpAnyH_take (i := 1) (v := ?_) rfl (by kernel_rfl) (by kernel_rfl) (by kernel_rfl) (fun _ _ _ h => h) (Or.inl ⟨by rfl, ?_⟩) hHeld ?_
                  rotate_left
                  · (intro w hSw; (try dsimp only at hSw); go_simp; try with_reducible rfl)
                  try simp only [Act.put, List.getElem_toArray, List.getElem_cons_zero, List.getElem_cons_succ, List.setIfInBounds_toArray, List.set_cons_zero, List.set_cons_succ]
                  refine wpAnyH_take (i := 2) (v := ?_) rfl (by kernel_rfl) (by kernel_rfl) (by kernel_rfl) (fun _ _ _ h => h) (Or.inl ⟨by rfl, ?_⟩) hHeld ?_
                  rotate_left
                  · (intro w hSw; (try dsimp only at hSw); go_simp; try with_reducible rfl)
                  try simp only [Act.put, List.getElem_toArray, List.getElem_cons_zero, List.getElem_cons_succ, List.setIfInBounds_toArray, List.set_cons_zero, List.set_cons_succ]
                  refine wpAnyH_take (i := 3) (v := ?_) rfl (by kernel_rfl) (by kernel_rfl) (by kernel_rfl) (fun _ _ _ h => h) (Or.inl ⟨by rfl, ?_⟩) hHeld ?_
                  rotate_left
                  · (intro w hSw; (try dsimp only at hSw); go_simp; try with_reducible rfl)
                  try simp only [Act.put, List.getElem_toArray, List.getElem_cons_zero, List.getElem_cons_succ, List.setIfInBounds_toArray, List.set_cons_zero, List.set_cons_succ]
                  try simp only [HD2.out]
                  refine wpAnyH_take (i := 4) (v := ?_) rfl (by kernel_rfl) (by kernel_rfl) (by kernel_rfl) (fun _ _ _ h => h) (Or.inl ⟨by rfl, ?_⟩) hHeld ?_
                  rotate_left
                  · (intro w hSw; (try dsimp only at hSw); go_simp; try with_reducible rfl)
                  try simp only [Act.put, List.getElem_toArray, List.getElem_cons_zero, List.getElem_cons_succ, List.setIfInBounds_toArray, List.set_cons_zero, List.set_cons_succ]
                  refine wpAnyH_take (i := 5) (v := ?_) rfl (by kernel_rfl) (by kernel_rfl) (by kernel_rfl) (fun _ _ _ h => h) (Or.inl ⟨by rfl, ?_⟩) hHeld ?_
                  rotate_left
                  · (intro w hSw; (try dsimp only at hSw); go_simp; try with_reducible rfl)
                  try simp only [Act.put, List.getElem_toArray, List.getElem_cons_zero, List.getElem_cons_succ, List.setIfInBounds_toArray, List.set_cons_zero, List.set_cons_succ]
                  refine wpAnyH_take (i := 6) (v := ?_) rfl (by kernel_rfl) (by kernel_rfl) (by kernel_rfl) (fun _ _ _ h => h) (Or.inl ⟨by rfl, ?_⟩) hHeld ?_
                  rotate_left
                  · (intro w hSw; (try dsimp only at hSw); go_simp; try with_reducible rfl)
                  try simp only [Act.put, List.getElem_toArray, List.getElem_cons_zero, List.getElem_cons_succ, List.setIfInBounds_toArray, List.set_cons_zero, List.set_cons_succ]
                  refine wpAnyH_take (i := 7) (v := ?_) rfl (by kernel_rfl) (by kernel_rfl) (by kernel_rfl) (fun _ _ _ h => h) (Or.inl ⟨by rfl, ?_⟩) hHeld ?_
                  rotate_left
                  · (intro w hSw; (try dsimp only at hSw); go_simp; try with_reducible rfl)
                  try simp only [Act.put, List.getElem_toArray, List.getElem_cons_zero, List.getElem_cons_succ, List.setIfInBounds_toArray, List.set_cons_zero, List.set_cons_succ]
                  refine wpAnyH_take (i := 8) (v := ?_) rfl (by kernel_rfl) (by kernel_rfl) (by kernel_rfl) (fun _ _ _ h => h) (Or.inl ⟨by rfl, ?_⟩) hHeld ?_
                  rotate_left
                  · (intro w hSw; (try dsimp only at hSw); go_simp; try with_reducible rfl)
                  try simp only [Act.put, List.getElem_toArray, List.getElem_cons_zero, List.getElem_cons_succ, List.setIfInBounds_toArray, List.set_cons_zero, List.set_cons_succ]
                  refine wpAnyH_take (i := 9) (v := ?_) rfl (by kernel_rfl) (by kernel_rfl) (by kernel_rfl) (fun _ _ _ h => h) (Or.inl ⟨by rfl, ?_⟩) hHeld ?_
                  rotate_left
                  · (intro w hSw; (try dsimp only at hSw); go_simp; try with_reducible rfl)
                  try simp only [Act.put, List.getElem_toArray, List.getElem_cons_zero, List.getElem_cons_succ, List.setIfInBounds_toArray, List.set_cons_zero, List.set_cons_succ]
                  refine wpAnyH_take (i := 10) (v := ?_) rfl (by kernel_rfl) (by kernel_rfl) (by kernel_rfl) (fun _ _ _ h => h) (Or.inl ⟨by rfl, ?_⟩) hHeld ?_
                  rotate_left
                  · (intro w hSw; (try dsimp only at hSw); go_simp; try with_reducible rfl)
                  try simp only [Act.put, List.getElem_toArray, List.getElem_cons_zero, List.getElem_cons_succ, List.setIfInBounds_toArray, List.set_cons_zero, List.set_cons_succ]
                  refine wpAnyH_take (i := 11) (v := ?_) rfl (by kernel_rfl) (by kernel_rfl) (by kernel_rfl) (fun _ _ _ h => h) (Or.inl ⟨by rfl, ?_⟩) hHeld ?_
                  rotate_left
                  · (intro w hSw; (try dsimp only at hSw); go_simp; try with_reducible rfl)
                  try simp only [Act.put, List.getElem_toArray, List.getElem_cons_zero, List.getElem_cons_succ, List.setIfInBounds_toArray, List.set_cons_zero, List.set_cons_succ]
                  refine wpAnyH_done (by kernel_rfl) ?_ _
                  gi_wp2
                  have hfz := (((Fr.refl [KB] W2).drew).setCell (p := ⟨KB, 0, none⟩) (.inl (by simp)) (.int .i64 ((pre2.length : Int) + 1)))
                  refine ⟨hfz.keepsFrom (by simp; omega), hfz.kept hf2.size, ?_⟩
                  refine (set_of (((Fr.refl [] W2).drew).heap hJ2 (by simp)) 0 _).trans ?_
                  simp
              · intro D2 xs2 W12 hD2 hT2 hJ12 hf12 hK12
                replace hT2 : xs2.map (·.1) = R2 := hT2
                have hl12 : xs2.length = il.length := by
                  rw [← hlen2]
                  simpa using congrArg List.length hT2
                rw [hl12] at hJ12
                obtain ⟨va, vc, ev⟩ := (RIs.of_owns hrow).form
                subst ev
                have hm12 := hf12.heap hmany (by simp; omega)
                rw [HRL.out] at hm12
                have hi12 := hf12.heap hin (by simp; omega)
                have m0 := cell_of hm12 0
                have k0 := cell_of hJ12 0
                have v0 := cell_of hi12 0
                have HT12 := Lib.hid (HT10.out.fr hf12 (by simp; omega) (by simp; omega))
                have hR12 := hf12.heap hR10 (by simp; omega)
                have rb0 := cell_of hR12 0
                have rbf := free_of hR12 0
                gi_wp2_with fail
                refine wpIn_mono (Q := NoPanic _) ?_ NoPanic.imp
                gi_region_with (refine ⟨trivial, ?_⟩; gi_at_call 31; refine (callsIn_wide.2 (len_int tb mb M _ (HT12.out.fr ((Fr.refl [] W12).drew) (by simp) (by simp)))).mono ?_; rintro e w13 ⟨rfl, h13⟩; have h13 : Fr [] W12 w13 := ((Fr.refl [] W12).drew).trans0 h13; have hRs := h13.heap hR12 (by simp); have m0 := ce_call h13 m0; have k0 := ce_call h13 k0; have v0 := ce_call h13 v0; have rb0 := ce_call h13 rb0; have rbf := free_of hRs 0)
                all_goals
                  refine NoPanic.normal ?_
                  gi_wp2
                  have hKF := h13.heap hK12 (by simp)
                  have hKG := h13.heap (hf12.heap hKD (by simp; omega)) (by simp)
                  have hFs : Fr [SB + 1 + 1] w13 (w13.setCell ⟨SB + 1 + 1, 0, none⟩ (.bool true)) := (Fr.refl _ w13).setCell (p := ⟨SB + 1 + 1, 0, none⟩) (.inl (by simp)) _
                  have hA2 := hFs.heap hKF (by simp; omega)
                  have hA1 := hFs.heap hKG (by simp; omega)
                  have hA0 := set_of hRs 0 (.bool true)
                  have hwz := hfw2.size
                  have hw10z := hF10.size
                  have hFx : Fr [] w (w13.setCell ⟨SB + 1 + 1, 0, none⟩ (.bool true)) := ((((hfw2.trans0 hF10).trans hf12 (by simp; omega)).trans0 h13).trans hFs (by simp; omega))
                  clear hKF hKG
                  generalize w13.setCell ⟨SB + 1 + 1, 0, none⟩ (.bool true) = X at *
                  have hB1 : (X.putObj D2 (.deferred none)).heap[D]? = some (.deferred (some [])) := (World.putObj_heap_other (by omega)).trans hA1
                  refine ⟨by simp, .inl ⟨_, _, rfl, run_takeDeferred hA2, by simp, .inl ⟨_, _, rfl, run_takeDeferred hB1, ?_⟩⟩⟩
                  have hg1 : ((X.putObj D2 (.deferred none)).putObj D (.deferred none)).heap[SB + 1 + 1]? = (X.putObj D2 (.deferred none)).heap[SB + 1 + 1]? := World.putObj_heap_other (by omega)
                  have hg2 : (X.putObj D2 (.deferred none)).heap[SB + 1 + 1]? = X.heap[SB + 1 + 1]? := World.putObj_heap_other (by omega)
                  have hcell : ((X.putObj D2 (.deferred none)).putObj D (.deferred none)).cell? ⟨SB + 1 + 1, 0, none⟩ = some (.bool true) := cell_of (hg1.trans (hg2.trans hA0)) 0
                  refine ⟨.bool true, by simp [results, Try.results6, go_sem, hcell], rfl, (hFx.putObj (by omega) _).putObj (by omega) _⟩
              · intro D2 c pre W _ hTp h _
                exact absurd hTp h
        · intro D c pre W _ hTp h _
          exact absurd hTp h
end Go.Proofs.Ytldppdafgbipjaa
