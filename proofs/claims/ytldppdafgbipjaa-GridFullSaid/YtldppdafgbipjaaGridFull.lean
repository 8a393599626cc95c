/-
  The walk of quadrillelaw7.GridFull.
-/
import Derived.Test.YtldppdafgbipjaaBegun7
import Derived.Test.YtldppdafgbipjaaAllU8
import Derived.Test.YtldppdafgbipjaaFullP
namespace Go.Proofs.Ytldppdafgbipjaa
open Go.RowKit Go.Shelf
attribute [local go_sem] Oper.semAt_some

theorem wrap_u8 (n : Int) : IntKind.u8.wrap n = n % 256 := by simp [IntKind.wrap, IntKind.signed, IntKind.bits]

set_option maxRecDepth 100000 in
set_option maxHeartbeats 6400000 in
theorem gridFull_in (w : World) : CallsIn Fence.wide 5 Try.prog 8 #[] w fun e w1 => e = .returned (.bool true) ∧ Fr [] w w1 := by
  refine callsIn_of_wp_marks Try.func8 rfl trivial ?_ rfl
  simp only [Try.ntmps8, List.size_toArray, List.length_nil, Nat.reduceSub, Array.replicate_succ, Array.replicate_zero, List.push_toArray, List.append_toArray, List.nil_append, List.cons_append]
  gi_wp2_with fail
  refine ⟨trivial, ?_⟩
  gi_at_call 20
  refine (callsIn_wide.2 (begun7 _)).mono ?_
  rintro e w1 ⟨rfl, h1⟩
  gi_wp2_with fail
  refine ⟨trivial, ?_⟩
  gi_at_call 40
  refine (callsIn_wide.2 (new_U8 _)).mono ?_
  rintro e w2 ⟨tb, mb, rfl, ht, hm, hT, h2⟩
  have hf2 : Fr [] w w2 := h1.trans0 h2
  have ht' : w.heap.size ≤ tb := by have := h1.size; omega
  have hm' : w.heap.size ≤ mb := by have := h1.size; omega
  have HT := Lib.hid hT
  clear h1 h2 hT ht hm
  gi_wp2_with fail
  gi_loopw [2] (fun i wr => ∃ k : Nat, i = .int .i64 (k : Int) ∧ (k : Int) ≤ 65536 ∧ TabIs 161 (fun x : Int => .int .u8 x) wr tb mb (fullL k) ∧ Fr [tb, mb] w2 wr) (fun i _ => (65536 - intOf i).toNat)
  case atStart => exact ⟨0, rfl, by omega, HT.out, Fr.refl _ _⟩
  case round =>
    obtain ⟨k, rfl, hk, hTk, hfr⟩ := hrel
    have HTk := Lib.hid hTk
    clear hTk
    by_cases hlt : (k : Int) < 65536
    · have Hk : Hid (k < 65536) := by show k < 65536; omega
      have hw : IntKind.i64.wrap ((k : Int) + 1) = (k : Int) + 1 := by rw [IntKind.wrap_i64]; omega
      have hu := wrap_u8 (k : Int)
      have h0 : (0 : Int) ≤ (k : Int) := by omega
      gi_wp2_with fail
      refine ⟨trivial, ?_⟩
      gi_at_call 25
      refine (callsIn_wide.2 (placeC _ _ _)).mono ?_
      rintro e v ⟨rfl, hv⟩
      gi_wp2_with fail
      refine ⟨trivial, ?_⟩
      gi_at_call 41
      refine (callsIn_wide.2 (set_U8 tb mb ((k : Int) % 1000, (k : Int) / 1000) _ _ _ (HTk.out.fr hv (by simp) (by simp)))).mono ?_
      rw [full_setE k Hk.out, full_setL k Hk.out]
      rintro e w3 ⟨rfl, hT3, h3⟩
      have HT3 := Lib.hid hT3
      have hf3 : Fr [tb, mb] w2 w3 := (hfr.trans0 hv).transS h3
      clear hT3 HTk
      gi_wp2
      go_roundw
      case rel => exact ⟨k + 1, by go_num, by omega, HT3.out, hf3⟩
      case measure => simp [intOf]; omega
    · have hk2 : k = 65536 := by omega
      have HK := Lib.hid hk2
      have hfw : Fr [] w wr := hf2.trans hfr (by simp; omega)
      clear hk2
      gi_wp2_with fail
      refine ⟨trivial, ?_⟩
      gi_at_call 25
      refine (callsIn_wide.2 (placeC _ _ _)).mono ?_
      rintro e v1 ⟨rfl, hv⟩
      gi_wp2_with fail
      refine ⟨trivial, ?_⟩
      gi_at_call 41
      refine (callsIn_wide.2 (set_U8 tb mb (60000, 9) 1 _ _ (HTk.out.fr hv (by simp) (by simp)))).mono ?_
      rw [full_no k HK.out, full_noL k HK.out]
      rintro e w3 ⟨rfl, hT3, h3⟩
      replace hfw : Fr [] w w3 := (hfw.trans0 hv).trans h3 (by simp; omega)
      replace HTk := Lib.hid hT3
      clear hv h3 hT3
      gi_wp2_with fail
      refine ⟨trivial, ?_⟩
      gi_at_call 25
      refine (callsIn_wide.2 (placeC _ _ _)).mono ?_
      rintro e v2 ⟨rfl, hv⟩
      gi_wp2_with fail
      refine ⟨trivial, ?_⟩
      gi_at_call 41
      refine (callsIn_wide.2 (set_U8 tb mb (5, 5) 77 _ _ (HTk.out.fr hv (by simp) (by simp)))).mono ?_
      rw [full_55E k HK.out, full_55L k HK.out]
      rintro e w4 ⟨rfl, hT3, h3⟩
      replace hfw : Fr [] w w4 := (hfw.trans0 hv).trans h3 (by simp; omega)
      replace HTk := Lib.hid hT3
      clear hv h3 hT3
      have hlen := len_U8 tb mb (full2 k) w4 HTk.out
      rw [full2_len k HK.out] at hlen
      gi_wp2_with fail
      refine ⟨trivial, ?_⟩
      gi_at_call 42
      refine (callsIn_wide.2 (hlen)).mono ?_
      rintro e w5 ⟨rfl, h3⟩
      replace hfw : Fr [] w w5 := hfw.trans0 h3
      replace HTk := Lib.hid (HTk.out.fr h3 (by simp) (by simp))
      clear h3 hlen
      gi_wp2_with fail
      refine ⟨trivial, ?_⟩
      gi_at_call 25
      refine (callsIn_wide.2 (placeC _ _ _)).mono ?_
      rintro e v3 ⟨rfl, hv⟩
      gi_wp2_with fail
      refine ⟨trivial, ?_⟩
      gi_at_call 41
      refine (callsIn_wide.2 (set_U8 tb mb (-1, 0) 1 _ _ (HTk.out.fr hv (by simp) (by simp)))).mono ?_
      rw [full2_neg, full2_negL]
      rintro e w6 ⟨rfl, hT3, h3⟩
      replace hfw : Fr [] w w6 := (hfw.trans0 hv).trans h3 (by simp; omega)
      replace HTk := Lib.hid hT3
      clear hv h3 hT3
      gi_wp2_with fail
      refine ⟨trivial, ?_⟩
      gi_at_call 25
      refine (callsIn_wide.2 (placeC _ _ _)).mono ?_
      rintro e v4 ⟨rfl, hv⟩
      gi_wp2_with fail
      refine ⟨trivial, ?_⟩
      gi_at_call 43
      refine (callsIn_wide.2 (get_U8 tb mb (5, 5) _ _ (HTk.out.fr hv (by simp) (by simp)))).mono ?_
      rw [full2_55]
      rintro e w7 ⟨rfl, h3⟩
      replace hfw : Fr [] w w7 := (hfw.trans0 hv).trans0 h3
      replace HTk := Lib.hid (HTk.out.fr (hv.trans0 h3) (by simp) (by simp))
      clear hv h3
      gi_wp2_with fail
      refine ⟨trivial, ?_⟩
      gi_at_call 25
      refine (callsIn_wide.2 (placeC _ _ _)).mono ?_
      rintro e v5 ⟨rfl, hv⟩
      gi_wp2_with fail
      refine ⟨trivial, ?_⟩
      gi_at_call 43
      refine (callsIn_wide.2 (get_U8 tb mb (60000, 9) _ _ (HTk.out.fr hv (by simp) (by simp)))).mono ?_
      rw [full2_far]
      rintro e w8 ⟨rfl, h3⟩
      replace hfw : Fr [] w w8 := (hfw.trans0 hv).trans0 h3
      replace HTk := Lib.hid (HTk.out.fr (hv.trans0 h3) (by simp) (by simp))
      have Hd2 := Lib.hid HTk.out.nodup
      clear hv h3
      gi_wp2_with fail
      refine ⟨trivial, ?_⟩
      gi_at_call 25
      refine (callsIn_wide.2 (placeC _ _ _)).mono ?_
      rintro e v6 ⟨rfl, hv⟩
      gi_wp2_with fail
      refine ⟨trivial, ?_⟩
      gi_at_call 44
      refine (callsIn_wide.2 (drop_U8 tb mb (0, 0) _ _ (HTk.out.fr hv (by simp) (by simp)))).mono ?_
      rw [full2_00 k HK.out]
      rintro e w9 ⟨rfl, hT3, h3⟩
      replace hfw : Fr [] w w9 := (hfw.trans0 hv).trans h3 (by simp; omega)
      replace HTk : Hid (TabIs 161 (fun x : Int => .int .u8 x) w9 tb mb (full3 k)) := hT3
      have htl := lt_of HTk.out.tab
      have hml := HTk.out.map.lt
      have HL3 := Lib.hid (full3_len k HK.out)
      have hl3 : (full3 k).length ≤ 65536 := by have := HL3.out; omega
      have HL4 := Lib.hid hl3
      clear hv h3 hT3 hl3
      gi_wp2_with fail
      refine ⟨trivial, ?_⟩
      gi_at_call 45
      refine (callsIn_wide.2 (all_U8 tb mb (full3 k) _ (HTk.out.fr ((Fr.refl [] w9).alloc _) (by simp) (by simp)) HL4.out)).mono ?_
      rintro e w10 ⟨B, rv, rfl, hI, h3⟩
      have hnb := h3.heap (heap_new w9 (.cells #[.int .i64 0] 3)) (by simp)
      have hf10 : Fr [] w9 w10 := ((Fr.refl [] w9).alloc _).trans0 h3
      replace hfw : Fr [] w w10 := hfw.trans0 hf10
      replace HTk := Lib.hid (HTk.out.fr hf10 (by simp) (by simp))
      have hsz : (w9.alloc (.cells #[.int .i64 0] 3)).heap.size = w9.heap.size + 1 := by simp
      rw [hsz] at hI
      have hRl : (rowsS 0 (fun _ => true) (full3 k) (sortS ((full3 k).map (·.1)))).length = 65535 := by
        unfold rowsS
        rw [List.length_map, List.filter_eq_self.2 (fun _ _ => rfl), (sortS_perm _).length_eq, List.length_map]
        exact HL3.out
      generalize rowsS 0 (fun _ => true) (full3 k) (sortS ((full3 k).map (·.1))) = R at *
      have HR := Lib.hid hRl
      have HI := Lib.hid hI
      have hnl := lt_of hnb
      have hIlt := hI.lt
      have hwz := hf10.size
      clear h3 hI hf10 hsz hRl
      generalize w9.heap.size = nB at *
      gi_wp2
      refine range_iter rfl (by omega) (gf := 110) (lb := #[.pointer (some ⟨B, 0, none⟩)]) rfl trivial (enters_of Try.func110 (by kernel_rfl) rfl) [nB] (by simpa using hnl)
        (overK_U8 4 (by omega) B rv R _ (fun W W' hk hr => RIs.kept HI.out.own (Nat.le_refl _) (by intro g hg; rw [List.mem_singleton] at hg; subst hg; intro e; have := (HI.out.own.lt _ e).1; omega) hk hr) w10 HI.out.box hIlt (RIs.of_owns HI.out.own) (by rw [HR.out]; decide)) (fun _ => rfl)
        (fun pre W => W.heap[nB]? = some (.cells #[.int .i64 (pre.length : Int)] 3 (0, 0))) (fun _ _ _ => False) (ownFrom_block _ _ _ hnl) (fun _ _ _ _ _ h _ _ => h) hnb ?_ ?_ ?_
      · intro l pre x W3 hJ3 hf3
        gi_wp2
        refine ⟨Fr.refl [] _, hJ3, ?_⟩
        intro l2 pre2 W2 hrel hl2 hr2 hJ2 hf2 hlt2
        clear hrel hJ3
        have cs := cell_of hJ2 0
        have fs := free_of hJ2 0
        have hp : (pre2.length : Int) < 65535 := by have := HR.out; omega
        have hw : IntKind.i64.wrap ((pre2.length : Int) + 1) = (pre2.length : Int) + 1 := by rw [IntKind.wrap_i64]; omega
        gi_wp2
        refine ⟨(Fr.refl [nB] W2).setCell (.inl (by simp)) _, ?_⟩
        refine (set_of hJ2 0 _).trans ?_
        simp
      · intro D xs W hD hT hJ hf hK
        have hc : (xs.length : Int) = 65535 := by
          have h1 : (xs.map (·.1)).length = R.length := by rw [show xs.map (·.1) = R from hT]
          rw [List.length_map, HR.out] at h1
          omega
        rw [hc] at hJ
        have c0 := cell_of hJ 0
        have hT9 := Lib.hid (HTk.out.fr hf (by simp; omega) (by simp; omega))
        have hDl := lt_of hK
        gi_wp2_with fail
        refine ⟨trivial, ?_⟩
        gi_at_call 25
        refine (callsIn_wide.2 (placeC _ _ _)).mono ?_
        rintro e v7 ⟨rfl, hv⟩
        gi_wp2_with fail
        refine ⟨trivial, ?_⟩
        gi_at_call 41
        refine (callsIn_wide.2 (set_U8 tb mb (60000, 9) 1 _ _ (hT9.out.fr hv (by simp) (by simp)))).mono ?_
        rw [full3_keep k HK.out, full3_keepL k HK.out]
        rintro e x1 ⟨rfl, hT3, h3⟩
        have hG1 : Fr [tb, mb] W x1 := (hv.mono (by simp)).transS h3
        replace hT9 := Lib.hid hT3
        clear hv h3 hT3
        gi_wp2_with fail
        refine ⟨trivial, ?_⟩
        gi_at_call 25
        refine (callsIn_wide.2 (placeC _ _ _)).mono ?_
        rintro e v8 ⟨rfl, hv⟩
        gi_wp2_with fail
        refine ⟨trivial, ?_⟩
        gi_at_call 41
        refine (callsIn_wide.2 (set_U8 tb mb (0, 0) 1 _ _ (hT9.out.fr hv (by simp) (by simp)))).mono ?_
        rw [full4_no k HK.out Hd2.out]
        rintro e x2 ⟨rfl, hT3, h3⟩
        have hG2 : Fr [tb, mb] W x2 := (hG1.trans0 hv).transS h3
        have hK2 := hG2.heap hK (by simp; omega)
        have hFx : Fr [] w x2 := (hfw.trans hf (by simp; omega)).trans hG2 (by simp; omega)
        have hw10 := hfw.size
        gi_wp2
        refine ⟨by simp, .inl ⟨_, _, rfl, run_takeDeferred hK2, ?_⟩⟩
        exact ⟨_, results_tmp rfl _ _ _, rfl, hFx.putObj (by omega) _⟩
      · intro D c pre W _ _ h _
        exact h.elim

theorem gridFull_walk (w : World) : Calls Try.prog 8 #[] w fun e w1 => e = .returned (.bool true) ∧ Fr [] w w1 := callsIn_wide.1 (gridFull_in w)
end Go.Proofs.Ytldppdafgbipjaa
