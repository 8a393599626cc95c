/-
  The walk of quadrillelaw22.TraceKept.
-/
import Derived.Test.YtldppdafgbipjaaTKeptP
namespace Go.Proofs.Ytldppdafgbipjaa
open Go.RowKit

theorem binS_eql (s t : Sp) (w : World) : (binOp .eql 26 (spV s) (spV t)).run Try.prog w = .ok (.bool (decide (s = t))) w := by
  have h := run_eqSpot s t w
  have e : (s == t) = decide (s = t) := by
    by_cases h : s = t <;> simp [h]
  rw [e] at h
  simp only [binOp, Sem.run_bind, h, Result.andThen_ok, Sem.run_pure]

set_option maxRecDepth 100000 in
set_option maxHeartbeats 6400000 in
theorem traceKept_walk (v0 v1 : Value) (ats : List Sp) (ns : List Int) (w : World) (hsp : SpotsAt w v0 ats) (hin : IntsAt w v1 ns) (hsml : ∀ x ∈ ns, -9223372036854775808 ≤ x ∧ x ≤ 9223372036854775807) :
    Calls Try.prog 12 #[v0, v1] w fun e w1 => e = .returned (.bool true) ∧ Fr [] w w1 := by
  have HSP := Lib.hid hsp
  have HIN := Lib.hid hin
  have HSM := Lib.hid hsml
  obtain ⟨da, dc, rfl, hdc1, hdc2⟩ := hsp.form
  obtain ⟨na, nc, rfl, hnc1, hnc2⟩ := hin.form
  clear hsp hin hsml
  go_enter Try.func12, Try.ntmps12
  go_wp2_with fail
  refine (begun22 _).mono ?_
  rintro e w1 ⟨rfl, h1⟩
  go_wp2_with fail
  refine (traceNew 8 _ (by omega) (by omega)).mono ?_
  rintro e w2 ⟨p, tb, mb, rfl, hp, ht, hm, hS, h2⟩
  have hp' : w.heap.size ≤ p := by have := h1.size; omega
  have ht' : w.heap.size ≤ tb := by have := h1.size; omega
  have hm' : w.heap.size ≤ mb := by have := h1.size; omega
  have hf2 : Fr [] w w2 := h1.trans0 h2
  have HS := Lib.hid hS
  clear hS h1 h2 hp ht hm
  go_upto_region 6 with fail
  obtain ⟨n, hn⟩ : ∃ n, min (min ats.length ns.length) 300 = n := ⟨_, rfl⟩
  have hna : (n : Int) ≤ (ats.length : Int) := by omega
  have hnb : (n : Int) ≤ (ns.length : Int) := by omega
  have hnc : (n : Int) ≤ 300 := by omega
  go_cut [7] (fun s7 wx => s7 = .int .i64 (n : Int) ∧ wx = w2)
  case first =>
    have h3 : ((ats.length : Int) ≤ (ns.length : Int) ∧ (ats.length : Int) ≤ 300 ∧ n = ats.length) ∨ (¬ ((ats.length : Int) ≤ (ns.length : Int)) ∧ (ns.length : Int) ≤ 300 ∧ n = ns.length) ∨
        ((ats.length : Int) ≤ (ns.length : Int) ∧ ¬ ((ats.length : Int) ≤ 300) ∧ n = 300) ∨ (¬ ((ats.length : Int) ≤ (ns.length : Int)) ∧ ¬ ((ns.length : Int) ≤ 300) ∧ n = 300) := by omega
    clear hn
    rcases h3 with ⟨q1, q2, rfl⟩ | ⟨q1, q2, rfl⟩ | ⟨q1, q2, rfl⟩ | ⟨q1, q2, rfl⟩
    all_goals
      go_wp2_with fail
      try go_meet
      try exact ⟨rfl, rfl⟩
  case rest =>
    obtain ⟨rfl, hwc⟩ := hcut
    subst hwc
    have hzl : (ats.zip ns).length ≥ n := by rw [List.length_zip]; omega
    have HZL := Lib.hid hzl
    clear hzl hn
    go_wp2_with fail
    go_loopw [8] (fun i wr => ∃ k : Nat, i = .int .i64 (k : Int) ∧ (k : Int) ≤ (n : Int) ∧ StIs wr p tb mb 8 (keptL ((ats.zip ns).take k)) ∧ Fr [tb, mb] wc wr) (fun i _ => ((n : Int) - intOf i).toNat)
    case atStart => exact ⟨0, rfl, by omega, HS.out, Fr.refl _ _⟩
    case round =>
      obtain ⟨k, rfl, hk, hSk, hfr⟩ := hrel
      have HSk := Lib.hid hSk
      clear hSk
      have hfw : Fr [] w wr := hf2.trans hfr (by simp; omega)
      by_cases hlt : (k : Int) < (n : Int)
      · obtain ⟨b, off, c, ec, hb, hc⟩ := HSP.out.cell (by omega)
        cases ec
        obtain ⟨b', off', c', ec', hb', hc'⟩ := HIN.out.cell (by omega)
        cases ec'
        have hka : k < ats.length := by omega
        have hkb : k < ns.length := by omega
        have c0 : w.cell? ⟨b, off + k * 2, none⟩ = some (.int .i64 ats[k].1) := hc (k * 2 + 0) _ (by rw [flat_get spC 2 (fun _ => rfl) ats k 0 hka (by omega)]; rfl)
        have c1 : w.cell? ⟨b, off + k * 2 + 1, none⟩ = some (.int .i64 ats[k].2) := hc (k * 2 + 1) _ (by rw [flat_get spC 2 (fun _ => rfl) ats k 1 hka (by omega)]; rfl)
        have n0 : w.cell? ⟨b', off' + k, none⟩ = some (.int .i64 ns[k]) := hc' k _ (by
          have h := flat_get iC 1 (fun _ => rfl) ns k 0 hkb (by omega)
          rw [show k * 1 + 0 = k by omega] at h
          rw [h]
          rfl)
        have HT := Lib.hid (show (ats.zip ns).take (k + 1) = (ats.zip ns).take k ++ [(ats[k], ns[k])] by
          rw [List.take_succ_eq_append_getElem (by have := HZL.out; omega), List.getElem_zip])
        have HTL := Lib.hid (show ((ats.zip ns).take k).length < 65536 by rw [List.length_take]; omega)
        obtain ⟨s, hs⟩ : ∃ s, ats[k] = s := ⟨_, rfl⟩
        obtain ⟨z, hz⟩ : ∃ z, ns[k] = z := ⟨_, rfl⟩
        rw [hs] at c0 c1 HT
        rw [hz] at n0 HT
        have c0 := (hfw.cell (p := ⟨b, off + k * 2, none⟩) hb (by simp)).trans c0
        have c1 := (hfw.cell (p := ⟨b, off + k * 2 + 1, none⟩) hb (by simp)).trans c1
        have n0 := (hfw.cell (p := ⟨b', off' + k, none⟩) hb' (by simp)).trans n0
        have hbr : b < wr.heap.size := Nat.lt_of_lt_of_le hb hfw.size
        have mb1 : b ∉ [tb, mb] := by simp; omega
        have mb2 : b' ∉ [tb, mb] := by simp; omega
        have hw1 : IntKind.i64.wrap ((k : Int) + 1) = (k : Int) + 1 := by rw [IntKind.wrap_i64]; omega
        have hk0 : (0 : Int) ≤ (k : Int) := by omega
        have hkc : (k : Int) < (ats.length : Int) := by omega
        have hkd : (k : Int) < (ns.length : Int) := by omega
        obtain ⟨E, hE⟩ : ∃ E : Int, (if mayS s.1 s.2 then 0 else 10) = E := ⟨_, rfl⟩
        obtain ⟨F, hF⟩ : ∃ F : Int, (if mayS s.1 s.2 then 1 else 10) = F := ⟨_, rfl⟩
        have HE := Lib.hid hE
        have HF := Lib.hid hF
        clear hE hF hs hz hc hc' hb'
        go_wp2_with fail
        go_region_held3 (fun u => u.cell? ⟨b, off + k * 2, none⟩ = some (.int .i64 s.1) ∧ u.cell? ⟨b, off + k * 2 + 1, none⟩ = some (.int .i64 s.2) ∧ u.cell? ⟨b', off' + k, none⟩ = some (.int .i64 z))
          (((try dsimp only); first | exact ⟨ce_drew c0, ce_drew c1, ce_drew n0⟩ | exact ⟨ce_call hN (ce_drew c0), ce_call hN (ce_drew c1), ce_call hN (ce_drew n0)⟩ | exact hSK))
          ((first
            | (go_at_call 16; refine (numC _ _).mono ?_; rintro e wN ⟨rfl, hN⟩)
            | (go_at_call 15; refine (tkNum p tb mb _ s z _ ((HSk.out.fr0 ((Fr.refl [] wr).drew)).fr0 hN) HTL).mono ?_; rw [HE.out, ← HT.out]; rintro e wK ⟨rfl, hSK1, hK1⟩; have hK2 : Fr [tb, mb] wr wK := (((Fr.refl [tb, mb] wr).drew).trans0 hN).transS hK1; have hSK : wK.cell? ⟨b, off + k * 2, none⟩ = some (.int .i64 s.1) ∧ wK.cell? ⟨b, off + k * 2 + 1, none⟩ = some (.int .i64 s.2) ∧ wK.cell? ⟨b', off' + k, none⟩ = some (.int .i64 z) := ⟨(hK2.cell (p := ⟨b, off + k * 2, none⟩) hbr mb1).trans c0, (hK2.cell (p := ⟨b, off + k * 2 + 1, none⟩) hbr mb1).trans c1, (hK2.cell (p := ⟨b', off' + k, none⟩) (World.block_lt_of_cell? wr _ n0) mb2).trans n0⟩)))
        obtain ⟨c0, c1, n0⟩ := hSK
        have HSK1 := Lib.hid hSK1
        have hbK : b < wK.heap.size := Nat.lt_of_lt_of_le hbr hK2.size
        clear hSK1 hN hK1
        go_wp2_with fail
        go_cut [10] (fun s10 wx => s10 = .int .i64 F ∧ StIs wx p tb mb 8 (keptL ((ats.zip ns).take (k + 1))) ∧ Fr [tb, mb] wK wx)
        case first =>
          go_region_held3 (fun u => u.cell? ⟨b, off + k * 2, none⟩ = some (.int .i64 s.1) ∧ u.cell? ⟨b, off + k * 2 + 1, none⟩ = some (.int .i64 s.2))
            (((try dsimp only); refine ⟨?_, ?_⟩ <;> (repeat first | with_reducible assumption | with_reducible refine ce_drew ?_ | with_reducible refine ce_old ?_ | with_reducible refine ce_call hA ?_ | with_reducible refine ce_call hB ?_ | with_reducible refine ce_call hC ?_)))
            ((first
              | (go_at_call_of 16 (Value.int IntKind.i64 1); refine (numC 1 _).mono ?_; rintro e wA ⟨rfl, hA⟩)
              | (go_at_call_of 16 (Value.int IntKind.i64 2); refine (numC 2 _).mono ?_; rintro e wB ⟨rfl, hB⟩)
              | (go_at_call 16; refine (numC 5 _).mono ?_; rintro e wC ⟨rfl, hC⟩)
              | (go_at_call 15; refine (tkTwice p tb mb _ s _ _ _ (by refine HSK1.out.fr0 ?_; repeat (first | with_reducible exact Fr.refl _ _ | with_reducible refine Fr.drew ?_ | with_reducible refine Fr.alloc ?_ _ | with_reducible refine Fr.transS ?_ hA | with_reducible refine Fr.transS ?_ hB | with_reducible refine Fr.transS ?_ hC)) (by refine SlAt.of_block (cs := [.int .i64 0, .int .i64 0, .int .i64 0, .int .i64 0]) (t := 26) (f := (0, 0)) ?_ rfl (by decide); repeat (first | with_reducible exact hp_new (by simp) | with_reducible refine hp_drew ?_ | with_reducible refine hp_old ?_ | with_reducible refine hp_call hA ?_ | with_reducible refine hp_call hB ?_ | with_reducible refine hp_call hC ?_)) (by refine SlAt.of_block (cs := [.int .i64 1, .int .i64 1, .string ⟨#[]⟩, .int .i64 1, .int .i64 2, .string ⟨#[]⟩]) (t := 23) (f := (0, 0)) ?_ rfl (by decide); repeat (first | with_reducible exact hp_new (by simp) | with_reducible refine hp_drew ?_ | with_reducible refine hp_old ?_ | with_reducible refine hp_call hA ?_ | with_reducible refine hp_call hB ?_ | with_reducible refine hp_call hC ?_))).mono ?_; rw [HF.out]; rintro e wT ⟨rfl, hST, hT1⟩; have hT2 : Fr [tb, mb] wK wT := Fr.transS (by repeat (first | with_reducible exact Fr.refl _ _ | with_reducible refine Fr.drew ?_ | with_reducible refine Fr.alloc ?_ _ | with_reducible refine Fr.trans0 ?_ hA | with_reducible refine Fr.trans0 ?_ hB | with_reducible refine Fr.trans0 ?_ hC)) hT1; have d0 : wT.cell? ⟨b, off + k * 2, none⟩ = some (.int .i64 s.1) := (hT2.cell (p := ⟨b, off + k * 2, none⟩) hbK mb1).trans c0; have d1 : wT.cell? ⟨b, off + k * 2 + 1, none⟩ = some (.int .i64 s.2) := (hT2.cell (p := ⟨b, off + k * 2 + 1, none⟩) hbK mb1).trans c1)))
          all_goals
            go_wp2_with fail
            go_meet
            exact ⟨rfl, hST, hT2⟩
        case rest =>
          obtain ⟨rfl, hST, hT2⟩ := hcut
          have HST := Lib.hid hST
          have c0 : wc.cell? ⟨b, off + k * 2, none⟩ = some (.int .i64 s.1) := (hT2.cell (p := ⟨b, off + k * 2, none⟩) hbK mb1).trans c0
          have c1 : wc.cell? ⟨b, off + k * 2 + 1, none⟩ = some (.int .i64 s.2) := (hT2.cell (p := ⟨b, off + k * 2 + 1, none⟩) hbK mb1).trans c1
          clear hST
          have hfin : Fr [tb, mb] _ wc := (hfr.transS hK2).transS hT2
          have h5 : (mayS s.1 s.2 = true ∧ E = 0 ∧ F = 1 ∧ 0 ≤ s.1 ∧ s.1 < 65536 ∧ 0 ≤ s.2 ∧ s.2 < 702) ∨ (E = 10 ∧ F = 10 ∧ s.1 < 0) ∨ (E = 10 ∧ F = 10 ∧ 0 ≤ s.1 ∧ ¬ s.1 < 65536) ∨ (E = 10 ∧ F = 10 ∧ 0 ≤ s.1 ∧ s.1 < 65536 ∧ s.2 < 0) ∨ (E = 10 ∧ F = 10 ∧ 0 ≤ s.1 ∧ s.1 < 65536 ∧ 0 ≤ s.2 ∧ ¬ s.2 < 702) := by
            have e1 := HE.out
            have e2 := HF.out
            cases hm : mayS s.1 s.2 with
            | true =>
              rw [hm] at e1 e2
              simp only [mayS, decide_eq_true_eq] at hm
              exact .inl ⟨rfl, e1.symm, e2.symm, hm⟩
            | false =>
              rw [hm] at e1 e2
              simp only [mayS, decide_eq_false_iff_not] at hm
              have e3 : E = 10 := e1.symm
              have e4 : F = 10 := e2.symm
              right
              omega
          rcases h5 with ⟨_, rfl, rfl, r1, r2, r3, r4⟩ | ⟨rfl, rfl, r1⟩ | ⟨rfl, rfl, r1, r2⟩ | ⟨rfl, rfl, r1, r2, r3⟩ | ⟨rfl, rfl, r1, r2, r3, r4⟩
          all_goals
            go_wp2
            go_roundw
            case rel => exact ⟨k + 1, by go_num, by omega, HST.out, hfin⟩
            case measure => simp [intOf]; omega
      · obtain rfl : k = n := by omega
        have HM1 := Lib.hid (keptL_props _ _ (rfl : ((ats.zip ns).take k).length = _))
        have hl1 : (keptL ((ats.zip ns).take k)).length ≤ 65536 := by
          have h1 := HM1.out.2.1
          rw [List.length_take] at h1
          omega
        have HL1 := Lib.hid hl1
        have hmay1 : ∀ x ∈ keptL ((ats.zip ns).take k), mayS x.1.1 x.1.2 = true := fun x hx => HM1.out.1 _ (List.mem_map_of_mem (f := (·.1)) hx)
        have HMAY := Lib.hid hmay1
        clear hl1 hmay1
        go_wp2_with fail
        refine (storeCopy p tb mb 8 _ _ HSk.out HL1.out HMAY.out).mono ?_
        rintro e w3 ⟨p2, tb2, mb2, rfl, lp2, lt2, lm2, hS3, h3⟩
        have HS3 := Lib.hid hS3
        have HSo := Lib.hid (HSk.out.fr0 h3)
        have hfw3 : Fr [] w w3 := hfw.trans0 h3
        clear hS3
        go_wp2_with fail
        have gp := lt_of HSk.out.st
        have gtb : tb < wr.heap.size ∧ mb < wr.heap.size := by
          obtain ⟨_, _, ls, hT, _⟩ := HSk.out
          exact ⟨lt_of hT.tab, hT.map.lt⟩
        obtain ⟨gtb, gmb⟩ := gtb
        have HNE := Lib.hid HS3.out.notE
        have hw3z := h3.size
        have hw3w := hfw.size
        go_loopw [12] (fun i wx => ∃ (q : Nat) (mc : List (Sp × Tr)), i = .int .i64 (q : Int) ∧ (q : Int) ≤ (k : Int) ∧ StIs wx p2 tb2 mb2 8 mc ∧ (mc.map (·.1)).Nodup ∧
          (∀ s, getS s mc ≠ none → getS s (keptL ((ats.zip ns).take k)) ≠ none) ∧ (∀ j (hj : j < ats.length), j < q → getS ats[j] mc = none) ∧ Fr [tb2, mb2] w3 wx) (fun i _ => ((k : Int) - intOf i).toNat)
        case atStart =>
          refine ⟨0, _, rfl, by omega, HS3.out, ?_, ?_, fun j hj h => by omega, Fr.refl _ _⟩
          · obtain ⟨_, _, ls, hT, hM⟩ := HS3.out
            rw [← hM.keys]
            exact hT.nodup
          · intro s hs
            rwa [getS_sortT] at hs
        case round =>
          obtain ⟨q, mc, rfl, hq, hSq, hnd, hA, hB, hfq⟩ := hrel
          have HSq := Lib.hid hSq
          have HND := Lib.hid hnd
          have HA := Lib.hid hA
          have HB := Lib.hid hB
          have HSp := Lib.hid (HSo.out.fr hfq (by simp; omega) (by simp; omega) (by simp; omega) HNE.out)
          clear hSq hnd hA hB
          have hfwq : Fr [] w wr := hfw3.trans hfq (by simp; omega)
          by_cases hlt2 : (q : Int) < (k : Int)
          · obtain ⟨b, off, c, ec, hb, hc⟩ := HSP.out.cell (by omega)
            cases ec
            obtain ⟨b', off', c', ec', hb', hc'⟩ := HIN.out.cell (by omega)
            cases ec'
            have hqa : q < ats.length := by omega
            have hcell : ∀ j (hj : j < ats.length), w.cell? ⟨b, off + j * 2, none⟩ = some (.int .i64 ats[j].1) ∧ w.cell? ⟨b, off + j * 2 + 1, none⟩ = some (.int .i64 ats[j].2) := fun j hj =>
              ⟨hc (j * 2 + 0) _ (by rw [flat_get spC 2 (fun _ => rfl) ats j 0 hj (by omega)]; rfl), hc (j * 2 + 1) _ (by rw [flat_get spC 2 (fun _ => rfl) ats j 1 hj (by omega)]; rfl)⟩
            have hcn : ∀ j (hj : j < ns.length), w.cell? ⟨b', off' + j, none⟩ = some (.int .i64 ns[j]) := fun j hj => hc' j _ (by
              have h := flat_get iC 1 (fun _ => rfl) ns j 0 hj (by omega)
              rw [show j * 1 + 0 = j by omega] at h
              rw [h]
              rfl)
            have HC := Lib.hid hcell
            have HCN := Lib.hid hcn
            have hbr : b < wr.heap.size := Nat.lt_of_lt_of_le hb hfwq.size
            have hbr' : b' < wr.heap.size := Nat.lt_of_lt_of_le hb' hfwq.size
            have cc := HC.out q hqa
            obtain ⟨s, hs⟩ : ∃ s, ats[q] = s := ⟨_, rfl⟩
            have HSQ := Lib.hid hs
            rw [hs] at cc
            have c0 := (hfwq.cell (p := ⟨b, off + q * 2, none⟩) hb (by simp)).trans cc.1
            have c1 := (hfwq.cell (p := ⟨b, off + q * 2 + 1, none⟩) hb (by simp)).trans cc.2
            have hw1 : IntKind.i64.wrap ((q : Int) + 1) = (q : Int) + 1 := by rw [IntKind.wrap_i64]; omega
            have hq0 : (0 : Int) ≤ (q : Int) := by omega
            have hqc : (q : Int) < (ats.length : Int) := by omega
            have hbw := hb
            clear hc hc' hcell hcn cc hs
            go_wp2_with fail
            go_loopw [13, 14] (fun L i wx => ∃ (l r : Nat), L = .int .i64 (l : Int) ∧ i = .int .i64 (r : Int) ∧ (q : Int) ≤ (l : Int) ∧ (l : Int) < (r : Int) ∧ (r : Int) ≤ (k : Int) ∧ ats[l]? = ats[q]? ∧ (∀ j, l < j → j < r → ats[j]? ≠ ats[q]?) ∧ Fr [] wr wx) (fun _ i _ => ((k : Int) - intOf i).toNat)
            case atStart => exact ⟨q, q + 1, rfl, by go_num, by omega, by omega, by omega, rfl, fun j h1 h2 => by omega, Fr.refl _ _⟩
            case round =>
              obtain ⟨l, r, rfl, rfl, hl1, hl2, hl3, hl4, hl5, hfx⟩ := hrel
              have HL4 := Lib.hid hl4
              have HL5 := Lib.hid hl5
              clear hl4 hl5
              by_cases hlt3 : (r : Int) < (k : Int)
              · have hra : r < ats.length := by omega
                have cr := HC.out r hra
                obtain ⟨t, ht⟩ : ∃ t, ats[r] = t := ⟨_, rfl⟩
                have HTR := Lib.hid ht
                rw [ht] at cr
                have e0 := ce_call hfx ((hfwq.cell (p := ⟨b, off + r * 2, none⟩) hb (by simp)).trans cr.1)
                have e1 := ce_call hfx ((hfwq.cell (p := ⟨b, off + r * 2 + 1, none⟩) hb (by simp)).trans cr.2)
                have c0 := ce_call hfx c0
                have c1 := ce_call hfx c1
                have hw2 : IntKind.i64.wrap ((r : Int) + 1) = (r : Int) + 1 := by rw [IntKind.wrap_i64]; omega
                have hr0 : (0 : Int) ≤ (r : Int) := by omega
                have hrc : (r : Int) < (ats.length : Int) := by omega
                clear cr ht
                have h4 : (t.1 = s.1 ∧ t.2 = s.2 ∧ t = s) ∨ (¬ t.1 = s.1 ∧ t ≠ s) ∨ (t.1 = s.1 ∧ ¬ t.2 = s.2 ∧ t ≠ s) := by
                  by_cases h1 : t.1 = s.1
                  · by_cases h2 : t.2 = s.2
                    · exact .inl ⟨h1, h2, Prod.ext h1 h2⟩
                    · exact .inr (.inr ⟨h1, h2, fun e => h2 (by rw [e])⟩)
                  · exact .inr (.inl ⟨h1, fun e => h1 (by rw [e])⟩)
                have hgt : ats[r]? = some t := by rw [List.getElem?_eq_getElem hra, HTR.out]
                have hgs : ats[q]? = some s := by rw [List.getElem?_eq_getElem hqa, HSQ.out]
                have HGT := Lib.hid hgt
                have HGS := Lib.hid hgs
                clear hgt hgs
                rcases h4 with ⟨h1, h2, h3⟩ | ⟨h1, h3⟩ | ⟨h1, h2, h3⟩
                · have H3 := Lib.hid h3
                  clear h3
                  go_wp2_with fail
                  go_region_held3 (fun u => u.cell? ⟨b, off + r * 2, none⟩ = some (.int .i64 t.1) ∧ u.cell? ⟨b, off + r * 2 + 1, none⟩ = some (.int .i64 t.2) ∧ u.cell? ⟨b, off + q * 2, none⟩ = some (.int .i64 s.1) ∧ u.cell? ⟨b, off + q * 2 + 1, none⟩ = some (.int .i64 s.2))
                    (first | exact ⟨ce_drew e0, ce_drew e1, ce_drew c0, ce_drew c1⟩ | exact ⟨e0, e1, c0, c1⟩)
                    (skip)
                  go_wp2
                  go_roundw
                  case rel => exact ⟨r, r + 1, rfl, by go_num, by omega, by omega, by omega, by rw [HGT.out, HGS.out, H3.out], fun j h1 h2 => by omega, hfx.drew⟩
                  case measure => simp [intOf]; omega
                all_goals
                  have H3 := Lib.hid h3
                  clear h3
                  go_wp2_with fail
                  go_region_held3 (fun u => u.cell? ⟨b, off + r * 2, none⟩ = some (.int .i64 t.1) ∧ u.cell? ⟨b, off + r * 2 + 1, none⟩ = some (.int .i64 t.2) ∧ u.cell? ⟨b, off + q * 2, none⟩ = some (.int .i64 s.1) ∧ u.cell? ⟨b, off + q * 2 + 1, none⟩ = some (.int .i64 s.2))
                    (first | exact ⟨ce_drew e0, ce_drew e1, ce_drew c0, ce_drew c1⟩ | exact ⟨e0, e1, c0, c1⟩)
                    (skip)
                  go_wp2
                  go_roundw
                  case rel =>
                    refine ⟨l, r + 1, rfl, by go_num, by omega, by omega, by omega, HL4.out, fun j h1 h2 => ?_, hfx.drew⟩
                    by_cases hj : j = r
                    · rw [hj, HGT.out, HGS.out]
                      exact fun e => H3.out (Option.some.inj e)
                    · exact HL5.out j h1 (by omega)
                  case measure => simp [intOf]; omega
              · obtain rfl : r = k := by omega
                have hla : l < ats.length := by omega
                have hlb : l < ns.length := by omega
                have hls : Hid (ats[l] = s) := by
                  show _ = _
                  have h := HL4.out
                  rw [List.getElem?_eq_getElem hla, List.getElem?_eq_getElem hqa, HSQ.out] at h
                  exact Option.some.inj h
                obtain ⟨z, hz⟩ : ∃ z, ns[l] = z := ⟨_, rfl⟩
                have hzr := HSM.out ns[l] (List.getElem_mem hlb)
                have nn := HCN.out l hlb
                rw [hz] at nn hzr
                have n0 := ce_call hfx ((hfwq.cell (p := ⟨b', off' + l, none⟩) hb' (by simp)).trans nn)
                have c0 := ce_call hfx c0
                have c1 := ce_call hfx c1
                have hkz : ((ats.zip ns).take r).length = r := by rw [List.length_take]; have := HZL.out; omega
                have hget : Hid (getS s (keptL ((ats.zip ns).take r)) = if mayS s.1 s.2 then some ⟨numV z, []⟩ else none) := by
                  show _ = _
                  cases hm : mayS s.1 s.2 with
                  | false => exact HM1.out.1.none hm
                  | true =>
                    have h := HM1.out.2.2.2 l (by omega)
                    have e : ((ats.zip ns).take r)[l]'(by omega) = (s, z) := by
                      rw [List.getElem_take, List.getElem_zip, hls.out, hz]
                    rw [e] at h
                    refine h hm (fun j hj hlj => ?_)
                    have h6 := HL5.out j hlj (by omega)
                    rw [List.getElem_take, List.getElem_zip]
                    rw [List.getElem?_eq_getElem (by omega), List.getElem?_eq_getElem hqa, HSQ.out] at h6
                    exact fun e => h6 (congrArg some e)
                have hSpx := Lib.hid (HSp.out.fr0 hfx)
                have hSqx := Lib.hid (HSq.out.fr0 hfx)
                have hlc : (l : Int) < (ns.length : Int) := by omega
                have hl0 : (0 : Int) ≤ (l : Int) := by omega
                clear nn hz hkz
                cases hm : mayS s.1 s.2
                · have hg0 : Hid (getS s (keptL ((ats.zip ns).take r)) = none) := by show _ = _; rw [hget.out, hm]; rfl
                  have hgc : Hid (getS s mc = none) := by
                    show _ = _
                    exact Classical.byContradiction fun hn => HA.out s hn hg0.out
                  clear hm
                  go_wp2_with fail
                  refine (traceValue p tb mb 8 s _ _ hSpx.out).mono ?_
                  rw [hg0.out]
                  simp only [valO, Option.isSome_none]
                  rintro e w4 ⟨rfl, h4⟩
                  go_wp2_with fail
                  have hY := heap_new w4 (.cells #[.int .i64 v0.k, .int .i64 v0.n, .string v0.s] 23)
                  have hfY : Fr [] wr (w4.alloc (.cells #[.int .i64 v0.k, .int .i64 v0.n, .string v0.s] 23)) := h4.alloc _
                  generalize w4.alloc (.cells #[.int .i64 v0.k, .int .i64 v0.n, .string v0.s] 23) = X at *
                  obtain ⟨YB, hYB⟩ : ∃ YB, w4.heap.size = YB := ⟨_, rfl⟩
                  rw [hYB] at hY ⊢
                  have c0 := ce_call hfY c0
                  have c1 := ce_call hfY c1
                  have n0 := ce_call hfY n0
                  have y0 : X.cell? ⟨YB, 0, none⟩ = some (.int .i64 v0.k) := cell_of hY 0
                  have y1 : X.cell? ⟨YB, 1, none⟩ = some (.int .i64 v0.n) := cell_of hY 1
                  have y2 : X.cell? ⟨YB, 2, none⟩ = some (.string v0.s) := cell_of hY 2
                  have hSpX := Lib.hid (hSpx.out.fr0 hfY)
                  have hSqX := Lib.hid (hSqx.out.fr0 hfY)
                  have hfX : Fr [tb2, mb2] w3 X := (hfq.trans0 hfx).trans0 hfY
                  have hbX : b < X.heap.size := World.block_lt_of_cell? X _ c0
                  go_region
                  have hfL : Fr [] X X.drew := (Fr.refl [] X).drew
                  go_wp2_with fail
                  refine (storeDrop p2 tb2 mb2 8 s mc _ (hSqX.out.fr0 hfL)).mono ?_
                  rw [hgc.out]
                  simp only [Option.isSome_none]
                  rintro e w6 ⟨rfl, hS6, h6⟩
                  have HS6 := Lib.hid hS6
                  have hf6 : Fr [tb2, mb2] w3 w6 := (hfX.trans0 hfL).transS h6
                  have HSp6 := Lib.hid ((hSpX.out.fr0 hfL).fr h6 (by simp; omega) (by simp; omega) (by simp; omega) (hSqX.out.fr0 hfL).notE)
                  have mbq : b ∉ [tb2, mb2] := by simp; omega
                  have hbL : b < (X.drew).heap.size := Nat.lt_of_lt_of_le hbX hfL.size
                  have c0 : w6.cell? ⟨b, off + q * 2, none⟩ = some (.int .i64 s.1) := (h6.cell (p := ⟨b, off + q * 2, none⟩) hbL mbq).trans c0
                  have c1 : w6.cell? ⟨b, off + q * 2 + 1, none⟩ = some (.int .i64 s.2) := (h6.cell (p := ⟨b, off + q * 2 + 1, none⟩) hbL mbq).trans c1
                  clear hS6
                  go_wp2_with fail
                  refine (traceValue p tb mb 8 s _ _ HSp6.out).mono ?_
                  rw [hg0.out]
                  simp only [valO, Option.isSome_none]
                  rintro e w7 ⟨rfl, h7⟩
                  go_wp2
                  go_roundw
                  case rel =>
                    refine ⟨q + 1, delS s mc, by go_num, by omega, HS6.out.fr0 (h7.alloc _), delS_nodup HND.out, fun x hx => HA.out x (fun e => hx (by rw [getS_del x HND.out, e]; split <;> rfl)), fun j hj hjq => ?_, (hf6.trans0 h7).alloc _⟩
                    rw [getS_del _ HND.out]
                    split
                    · rfl
                    · rename_i hne
                      by_cases hjq2 : j = q
                      · subst hjq2
                        exact absurd HSQ.out hne
                      · exact HB.out j hj (by omega)
                  case measure => simp [intOf]; omega
                · have hg0 : Hid (getS s (keptL ((ats.zip ns).take r)) = some ⟨numV z, []⟩) := by show _ = _; rw [hget.out, hm]; rfl
                  clear hm
                  go_wp2_with fail
                  refine (traceValue p tb mb 8 s _ _ hSpx.out).mono ?_
                  rw [hg0.out]
                  simp only [valO, Option.isSome_some]
                  rintro e w4 ⟨rfl, h4⟩
                  go_wp2_with fail
                  have hY := heap_new w4 (.cells #[.int .i64 1, .int .i64 z, .string ⟨#[]⟩] 23)
                  have hfY : Fr [] wr (w4.alloc (.cells #[.int .i64 1, .int .i64 z, .string ⟨#[]⟩] 23)) := h4.alloc _
                  generalize w4.alloc (.cells #[.int .i64 1, .int .i64 z, .string ⟨#[]⟩] 23) = X at *
                  obtain ⟨YB, hYB⟩ : ∃ YB, w4.heap.size = YB := ⟨_, rfl⟩
                  rw [hYB] at hY ⊢
                  have c0 := ce_call hfY c0
                  have c1 := ce_call hfY c1
                  have n0 := ce_call hfY n0
                  have y0 : X.cell? ⟨YB, 0, none⟩ = some (.int .i64 1) := cell_of hY 0
                  have y1 : X.cell? ⟨YB, 1, none⟩ = some (.int .i64 z) := cell_of hY 1
                  have y2 : X.cell? ⟨YB, 2, none⟩ = some (.string ⟨#[]⟩) := cell_of hY 2
                  have hSpX := Lib.hid (hSpx.out.fr0 hfY)
                  have hSqX := Lib.hid (hSqx.out.fr0 hfY)
                  have hfX : Fr [tb2, mb2] w3 X := (hfq.trans0 hfx).trans0 hfY
                  have hbX : b < X.heap.size := World.block_lt_of_cell? X _ c0
                  go_region_held3 (fun u => u.cell? ⟨YB, 0, none⟩ = some (.int .i64 1) ∧ u.cell? ⟨YB, 1, none⟩ = some (.int .i64 z) ∧ u.cell? ⟨YB, 2, none⟩ = some (.string ⟨#[]⟩) ∧ u.cell? ⟨b', off' + l, none⟩ = some (.int .i64 z) ∧ u.cell? ⟨b, off + q * 2, none⟩ = some (.int .i64 s.1) ∧ u.cell? ⟨b, off + q * 2 + 1, none⟩ = some (.int .i64 s.2))
                    (((try dsimp only); refine ⟨?_, ?_, ?_, ?_, ?_, ?_⟩ <;> (repeat first | with_reducible assumption | with_reducible refine ce_drew ?_ | with_reducible refine ce_call hN ?_ | with_reducible refine ce_call hL ?_)))
                    ((first
                      | (go_at_call 16; refine (numC _ _).mono ?_; rintro e wN ⟨rfl, hN⟩)
                      | (go_at_call 18; refine (traceLen p tb mb 8 s _ _ ((hSpX.out.fr0 ((Fr.refl [] X).drew)).fr0 hN)).mono ?_; rw [hg0.out]; simp only [lenO, List.length_nil]; rintro e wL ⟨rfl, hL⟩)))
                  have hfL : Fr [] X wL := (((Fr.refl [] X).drew).trans0 hN).trans0 hL
                  have c0 := ce_call hfL c0
                  have c1 := ce_call hfL c1
                  obtain ⟨g, hg⟩ : ∃ g, (getS s mc).isSome = g := ⟨_, rfl⟩
                  have HG := Lib.hid hg
                  clear hg hN hL
                  go_wp2_with fail
                  refine (storeDrop p2 tb2 mb2 8 s mc _ (hSqX.out.fr0 hfL)).mono ?_
                  rw [HG.out]
                  rintro e w6 ⟨rfl, hS6, h6⟩
                  have HS6 := Lib.hid hS6
                  have hf6 : Fr [tb2, mb2] w3 w6 := (hfX.trans0 hfL).transS h6
                  have HSp6 := Lib.hid ((hSpX.out.fr0 hfL).fr h6 (by simp; omega) (by simp; omega) (by simp; omega) (hSqX.out.fr0 hfL).notE)
                  have mbq : b ∉ [tb2, mb2] := by simp; omega
                  have hbL : b < (wL).heap.size := Nat.lt_of_lt_of_le hbX hfL.size
                  have c0 : w6.cell? ⟨b, off + q * 2, none⟩ = some (.int .i64 s.1) := (h6.cell (p := ⟨b, off + q * 2, none⟩) hbL mbq).trans c0
                  have c1 : w6.cell? ⟨b, off + q * 2 + 1, none⟩ = some (.int .i64 s.2) := (h6.cell (p := ⟨b, off + q * 2 + 1, none⟩) hbL mbq).trans c1
                  clear hS6
                  go_wp2_with fail
                  refine (traceValue p tb mb 8 s _ _ HSp6.out).mono ?_
                  rw [hg0.out]
                  simp only [valO, Option.isSome_some]
                  rintro e w7 ⟨rfl, h7⟩
                  cases g
                  all_goals
                    go_wp2
                    go_roundw
                    case rel =>
                      refine ⟨q + 1, delS s mc, by go_num, by omega, HS6.out.fr0 (h7.alloc _), delS_nodup HND.out, fun x hx => HA.out x (fun e => hx (by rw [getS_del x HND.out, e]; split <;> rfl)), fun j hj hjq => ?_, (hf6.trans0 h7).alloc _⟩
                      rw [getS_del _ HND.out]
                      split
                      · rfl
                      · rename_i hne
                        by_cases hjq2 : j = q
                        · subst hjq2
                          exact absurd HSQ.out hne
                        · exact HB.out j hj (by omega)
                    case measure => simp [intOf]; omega
          · obtain rfl : q = k := by omega
            have hmc : mc = [] := by
              cases mc with
              | nil => rfl
              | cons x l =>
                have h1 : getS x.1 (x :: l) ≠ none := by simp [getS]
                obtain ⟨z, hz, e⟩ := HM1.out.2.2.1 x.1 (HA.out x.1 h1)
                obtain ⟨j, hj, ej⟩ := List.getElem_of_mem hz
                rw [List.length_take] at hj
                have hz2 := HZL.out
                rw [List.length_zip] at hz2 hj
                rw [List.getElem_take, List.getElem_zip] at ej
                have h2 := HB.out j (by omega) (by omega)
                rw [← e, ← ej] at h1
                exact absurd h2 h1
            subst hmc
            go_wp2_with fail
            refine (storeAll p2 tb2 mb2 8 [] _ HSq.out (by simp)).mono ?_
            rintro e w8 ⟨v, rfl, hrow, h8⟩
            have hl0 : (sortS ((([] : List (Sp × Tr))).map (·.1))).length = 0 := by rw [(sortS_perm _).length_eq]; rfl
            rw [hl0] at hrow
            obtain ⟨g, cap, hv⟩ : ∃ g cap, v = .slice g 0 cap := by
              rcases hrow.2 with ⟨rfl, _⟩ | ⟨g, cap, _, rfl, _⟩
              · exact ⟨_, _, rfl⟩
              · exact ⟨_, _, rfl⟩
            subst hv
            go_wp2
            go_ret
            exact ⟨rfl, hfwq.trans0 h8⟩
end Go.Proofs.Ytldppdafgbipjaa
