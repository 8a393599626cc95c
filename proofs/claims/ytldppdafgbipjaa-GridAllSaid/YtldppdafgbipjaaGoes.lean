/-
  The walk of quadrillelaw7's (*pair).goes.
-/
import Derived.Test.YtldppdafgbipjaaWithin7
import Derived.Test.YtldppdafgbipjaaAllint
import Derived.Test.YtldppdafgbipjaaGoesL
import Derived.Stop.RegionWithIn
import Derived.Sort.CutIn
namespace Go.Proofs.Ytldppdafgbipjaa
open Go.RowKit Go.Shelf
attribute [local go_sem] Oper.semAt_some

theorem run_storeF (w : World) (a : Addr) (m : Mode) (f : Fn) (x y : Array Value) : (store a (.func f x y) m).run Try.prog w = stored Try.prog w a (.func f x y) m := run_store Try.prog w a _ m rfl
attribute [local go_sem] run_storeF

theorem fnNilInt (f : Nat) (b : Nat) (w : World) : (binOp .eql 62 (.func (.func f) #[] #[.pointer (some ⟨b, 0, none⟩)]) .nilFunc).run Try.prog w = .ok (.bool false) w := by kernel_rfl
/-- What is gone over lies in the boxes, and in the iterator. -/
def Got (N0 LB XB FB : Nat) (W0 wx : World) (G : List (Sp × Int)) : Prop :=
  ∃ vl vx B rv, wx.heap[LB]? = some (.cells #[vl] 35 (0, 0)) ∧ wx.ownsRow N0 26 2 vl G.length (G.flatMap encA) ∧ wx.heap[XB]? = some (.cells #[vx] 48 (0, 0)) ∧ wx.ownsRow N0 3 1 vx G.length (G.flatMap encX) ∧
    wx.heap[FB]? = some (.cells #[.func (.func 107) #[] #[.pointer (some ⟨B, 0, none⟩)]] 62 (0, 0)) ∧ Iterint N0 wx B rv G ∧ Fr [] W0 wx
set_option maxRecDepth 100000 in
set_option maxHeartbeats 6400000 in
theorem goes7 (pb tb mb rb : Nat) (vA vX : Value) (l R : List (Sp × Int)) (o : Op7) (w : World) (hp : w.heap[pb]? = some (.cells #[.pointer (some ⟨tb, 0, none⟩), .pointer (some ⟨rb, 0, none⟩)] 52 (0, 0)))
    (hpS : pb ∉ tb :: mb :: rBl rb vA vX) (hX : TX w tb mb rb vA vX l R) :
    CallsIn Fence.wide 7 Try.prog 23 #[.pointer (some ⟨pb, 0, none⟩), o.val] w fun e w1 => e = .returned (.bool true) ∧
      ∃ vA' vX' l' R', TX w1 tb mb rb vA' vX' l' R' ∧ Fr (tb :: mb :: rBl rb vA vX) w w1 ∧ ∀ g ∈ rBl rb vA' vX', g ∈ rBl rb vA vX ∨ w.heap.size ≤ g := by
  have HT := Lib.hid hX
  have HA := Lib.hid hX.asc
  have HL := Lib.hid hX.le
  have HP := Lib.hid hp
  clear hX hp
  refine callsIn_of_wp_marks Try.func23 rfl trivial ?_ rfl
  simp only [Try.ntmps23, List.size_toArray, List.length_cons, List.length_nil, Nat.reduceAdd, Nat.reduceSub, Array.replicate_succ, Array.replicate_zero, List.push_toArray, List.append_toArray, List.nil_append, List.cons_append]
  gi_wp2_with fail
  have h0 : Fr [] w (((w.alloc (.cells #[.pointer (some ⟨pb, 0, none⟩)] 44)).alloc (.cells #[.int .i64 o.k, .int .i64 o.s.1, .int .i64 o.s.2, .int .i64 o.x, .int .i64 o.a.t, .int .i64 o.a.l, .int .i64 o.a.b, .int .i64 o.a.r, .bool o.on] 56)).alloc (.cells #[.bool false] 4)) := (((Fr.refl [] w).alloc _).alloc _).alloc _
  have hPB : (((w.alloc (.cells #[.pointer (some ⟨pb, 0, none⟩)] 44)).alloc (.cells #[.int .i64 o.k, .int .i64 o.s.1, .int .i64 o.s.2, .int .i64 o.x, .int .i64 o.a.t, .int .i64 o.a.l, .int .i64 o.a.b, .int .i64 o.a.r, .bool o.on] 56)).alloc (.cells #[.bool false] 4)).heap[w.heap.size]? = some (.cells #[.pointer (some ⟨pb, 0, none⟩)] 44 (0, 0)) := hp_old (hp_old (heap_new w _))
  have hOB : (((w.alloc (.cells #[.pointer (some ⟨pb, 0, none⟩)] 44)).alloc (.cells #[.int .i64 o.k, .int .i64 o.s.1, .int .i64 o.s.2, .int .i64 o.x, .int .i64 o.a.t, .int .i64 o.a.l, .int .i64 o.a.b, .int .i64 o.a.r, .bool o.on] 56)).alloc (.cells #[.bool false] 4)).heap[w.heap.size + 1]? = some (.cells #[.int .i64 o.k, .int .i64 o.s.1, .int .i64 o.s.2, .int .i64 o.x, .int .i64 o.a.t, .int .i64 o.a.l, .int .i64 o.a.b, .int .i64 o.a.r, .bool o.on] 56 (0, 0)) := hp_old (hp_new (by simp))
  have hBB : (((w.alloc (.cells #[.pointer (some ⟨pb, 0, none⟩)] 44)).alloc (.cells #[.int .i64 o.k, .int .i64 o.s.1, .int .i64 o.s.2, .int .i64 o.x, .int .i64 o.a.t, .int .i64 o.a.l, .int .i64 o.a.b, .int .i64 o.a.r, .bool o.on] 56)).alloc (.cells #[.bool false] 4)).heap[w.heap.size + 1 + 1]? = some (.cells #[.bool false] 4 (0, 0)) := hp_new (by simp)
  generalize ((w.alloc (.cells #[.pointer (some ⟨pb, 0, none⟩)] 44)).alloc (.cells #[.int .i64 o.k, .int .i64 o.s.1, .int .i64 o.s.2, .int .i64 o.x, .int .i64 o.a.t, .int .i64 o.a.l, .int .i64 o.a.b, .int .i64 o.a.r, .bool o.on] 56)).alloc (.cells #[.bool false] 4) = W0 at *
  obtain ⟨PB, hPBe⟩ : ∃ PB, w.heap.size = PB := ⟨_, rfl⟩
  have hwP : w.heap.size ≤ PB := by omega
  rw [hPBe] at hPB hOB hBB
  simp only [hPBe]
  have HT0 := Lib.hid (HT.out.fr0 h0)
  have hRI := HT0.out.ref
  obtain ⟨qa, ca, rfl⟩ := (RIs.of_owns hRI.at').form
  obtain ⟨qx, cx, rfl⟩ := (RIs.of_owns hRI.xs).form
  have HR0 := Lib.hid hRI
  have HL0 := Lib.hid (show R.length ≤ 65536 by rw [HA.out.len]; exact HL.out)
  have hPc : W0.cell? ⟨PB, 0, none⟩ = some (.pointer (some ⟨pb, 0, none⟩)) := cell_of hPB 0
  have hp0 : W0.cell? ⟨pb, 0, none⟩ = some (.pointer (some ⟨tb, 0, none⟩)) := cell_of (h0.heap HP.out (by simp)) 0
  have hp1 : W0.cell? ⟨pb, 1, none⟩ = some (.pointer (some ⟨rb, 0, none⟩)) := cell_of (h0.heap HP.out (by simp)) 1
  have ht0 : W0.cell? ⟨rb, 0, none⟩ = some (.slice qa R.length ca) := cell_of hRI.tab 0
  have ht1 : W0.cell? ⟨rb, 1, none⟩ = some (.slice qx R.length cx) := cell_of hRI.tab 1
  clear hRI
  refine wpIn_wide.2 ?_
  refine goesR1 pb rb PB R o W0 qa qx ca cx HR0 HL0 hPc hp1 ht0 ht1 _ ?_
  intro LB XB vl vx u s17 s18 s19 s20 s21 s22 s23 s25 s26 s27 s28 s29 s30 s31 hFu a7 a15 hLB hLh hXB hXh
  dsimp only
  have hAll : rowsS 0 (fun _ => true) l (sortS (l.map (·.1))) = R := by
    rw [HA.out.rows HT.out.tab.nodup]
    exact List.filter_eq_self.2 (fun _ _ => rfl)
  have hFlt : rowsS 0 (hasA o.a) l (sortS (l.map (·.1))) = R.filter fun x => hasA o.a x.1 := HA.out.rows HT.out.tab.nodup _ _
  have HALL := Lib.hid hAll
  have HFLT := Lib.hid hFlt
  have hp0W := hp0
  have hPc := ce_call hFu hPc
  have hp0 := ce_call hFu hp0
  have HTu := Lib.hid (HT0.out.fr0 hFu)
  have hLlt := lt_of hLh
  have hXlt := lt_of hXh
  have A7 := Lib.hid a7
  have A15 := Lib.hid a15
  clear hAll hFlt a7 a15
  gi_wp2_with fail
  refine ⟨trivial, ?_⟩
  gi_at_call 26
  refine (callsIn_wide.2 (all_int tb mb l _ HTu.out.tab HL.out)).mono ?_
  rintro e w2 ⟨B, rv, rfl, hI, h2⟩
  rw [HALL.out] at hI
  have HI := Lib.hid hI
  have hFu2 := hFu.trans0 h2
  have hL2 := h2.heap hLh (by simp)
  have hX2 := h2.heap hXh (by simp)
  have A7 := Lib.hid (owns_fr A7.out h2 (by simp))
  have A15 := Lib.hid (owns_fr A15.out h2 (by simp))
  have hu2 := h2.size
  have hWu := hFu.size
  have huz : u.heap.size ≤ w2.heap.size := h2.size
  have hO2 := hFu2.heap hOB (by simp)
  clear hI h2 hLh hXh hPc hp0 hFu
  gi_upto_region 3 with fail
  have h3 : Fr [] w2 (w2.alloc (.cells #[.func (.func 107) #[] #[.pointer (some ⟨B, 0, none⟩)]] 62)) := (Fr.refl [] w2).alloc _
  have hF3 := heap_new w2 (.cells #[.func (.func 107) #[] #[.pointer (some ⟨B, 0, none⟩)]] 62)
  generalize w2.alloc (.cells #[.func (.func 107) #[] #[.pointer (some ⟨B, 0, none⟩)]] 62) = W3 at *
  obtain ⟨FB, hFBe⟩ : ∃ FB, w2.heap.size = FB := ⟨_, rfl⟩
  rw [hFBe] at hF3 hu2 huz ⊢
  have h03 := hFu2.trans0 h3
  have hL3 := h3.heap hL2 (by simp)
  have hX3 := h3.heap hX2 (by simp)
  have hO3 := h3.heap hO2 (by simp)
  have A7 := Lib.hid (owns_fr A7.out h3 (by simp))
  have A15 := Lib.hid (owns_fr A15.out h3 (by simp))
  have HI3 := Lib.hid (HI.out.fr h3 hWu)
  have k0 : W3.cell? ⟨PB + 1, 0, none⟩ = some (.int .i64 o.k) := cell_of hO3 0
  have hOl := lt_of hO3
  obtain ⟨G, hG⟩ : ∃ G, (if o.k = 5 then R.filter (fun x => hasA o.a x.1) else R) = G := ⟨_, rfl⟩
  have HG := Lib.hid hG
  clear hG hL2 hX2 hO2 HI
  gi_upto_if 40 with fail
  gi_cut [] from 38 (fun wx => Got W0.heap.size LB XB FB W0 wx G)
  case first =>
    by_cases hk5 : o.k = 5
    · have hGR : G = R.filter fun x => hasA o.a x.1 := by rw [← HG.out, if_pos hk5]
      subst hGR
      have pc : W3.cell? ⟨PB, 0, none⟩ = some (.pointer (some ⟨pb, 0, none⟩)) := cell_of (h03.heap hPB (by simp)) 0
      have pr : W3.cell? ⟨pb, 1, none⟩ = some (.pointer (some ⟨rb, 0, none⟩)) := ce_call h03 hp1
      have pt : W3.cell? ⟨pb, 0, none⟩ = some (.pointer (some ⟨tb, 0, none⟩)) := ce_call h03 hp0W
      have o4 : W3.cell? ⟨PB + 1, 4, none⟩ = some (.int .i64 o.a.t) := cell_of hO3 4
      have o5 : W3.cell? ⟨PB + 1, 5, none⟩ = some (.int .i64 o.a.l) := cell_of hO3 5
      have o6 : W3.cell? ⟨PB + 1, 6, none⟩ = some (.int .i64 o.a.b) := cell_of hO3 6
      have o7 : W3.cell? ⟨PB + 1, 7, none⟩ = some (.int .i64 o.a.r) := cell_of hO3 7
      have hpl := World.block_lt_of_cell? W0 _ hp1
      have hBl := lt_of hBB
      simp only at hpl
      have hne1 : LB ≠ XB := box_ne hL3 hX3 (by decide)
      have hne2 : XB ≠ LB := hne1.symm
      clear k0
      gi_wp2_with fail
      refine wpIn_wide.2 ?_
      go_region_held3 (fun u => u.cell? ⟨PB, 0, none⟩ = some (.pointer (some ⟨pb, 0, none⟩)) ∧ u.cell? ⟨pb, 1, none⟩ = some (.pointer (some ⟨rb, 0, none⟩)) ∧ u.cell? ⟨PB + 1, 4, none⟩ = some (.int .i64 o.a.t) ∧ u.cell? ⟨PB + 1, 5, none⟩ = some (.int .i64 o.a.l) ∧ u.cell? ⟨PB + 1, 6, none⟩ = some (.int .i64 o.a.b) ∧ u.cell? ⟨PB + 1, 7, none⟩ = some (.int .i64 o.a.r))
        (((try dsimp only); refine ⟨?_, ?_, ?_, ?_, ?_, ?_⟩ <;> (repeat first | with_reducible assumption | with_reducible refine ce_drew ?_ | with_reducible refine ce_old ?_ | with_reducible refine ce_call hC ?_ | (with_reducible refine ce_set ?_ (by omega)))))
        ((go_at_call 75; refine (within7 rb _ _ R o.a _ (HR0.out.fr ((h03.drew))) HL0.out).mono ?_; rintro e wC ⟨vl2, vx2, rfl, hoA, hoX, hC⟩; have hC3 : Fr [] W3 wC := ((Fr.refl [] W3).drew).trans0 hC; have hLC := hC3.heap hL3 (by simp); have hXC := hC3.heap hX3 (by simp); have lc0 := cell_of hLC 0; have lcf := free_of hLC 0; have xc0 := cell_of hXC 0; have xcf := free_of hXC 0; have hLl := lt_of hLC; have hXl := lt_of hXC; obtain ⟨q1, n1, c1, rfl⟩ := own_form hoA; obtain ⟨q2, n2, c2, rfl⟩ := own_form hoX))
      have hs1 : Fr [LB] wC (wC.setCell ⟨LB, 0, none⟩ (.slice q1 n1 c1)) := (Fr.refl _ wC).setCell (.inl (by simp)) _
      have hs2 : Fr [XB] (wC.setCell ⟨LB, 0, none⟩ (.slice q1 n1 c1)) ((wC.setCell ⟨LB, 0, none⟩ (.slice q1 n1 c1)).setCell ⟨XB, 0, none⟩ (.slice q2 n2 c2)) := (Fr.refl _ _).setCell (.inl (by simp)) _
      have hF4 : Fr [] W0 ((wC.setCell ⟨LB, 0, none⟩ (.slice q1 n1 c1)).setCell ⟨XB, 0, none⟩ (.slice q2 n2 c2)) := ((h03.trans0 hC3).setCell (.inr hLB) _).setCell (.inr hXB) _
      have hL4 := hs2.heap (set_of hLC 0 (.slice q1 n1 c1)) (by simp; exact hne1)
      have hX4 := set_of (hs1.heap hXC (by simp; exact hne2)) 0 (.slice q2 n2 c2)
      have hF4h := hs2.heap (hs1.heap (hC3.heap hF3 (by simp)) (by simp; omega)) (by simp; omega)
      have hA4 := owns_fr (owns_fr hoA hs1 (own_nbox hoA hLC (by decide))) hs2 (own_nbox (owns_fr hoA hs1 (own_nbox hoA hLC (by decide))) (hs1.heap hXC (by simp; exact hne2)) (by decide))
      have hX4o := owns_fr (owns_fr hoX hs1 (own_nbox hoX hLC (by decide))) hs2 (own_nbox (owns_fr hoX hs1 (own_nbox hoX hLC (by decide))) (hs1.heap hXC (by simp; exact hne2)) (by decide))
      generalize (wC.setCell ⟨LB, 0, none⟩ (.slice q1 n1 c1)).setCell ⟨XB, 0, none⟩ (.slice q2 n2 c2) = X4 at *
      clear hs1 hs2 lc0 lcf xc0 xcf hLC hXC hoA hoX
      have hL4 : X4.heap[LB]? = some (.cells #[.slice q1 n1 c1] 35 (0, 0)) := hL4
      have hX4 : X4.heap[XB]? = some (.cells #[.slice q2 n2 c2] 48 (0, 0)) := hX4
      have HA4 := Lib.hid (owns_mono hA4 h03.size)
      have HX4o := Lib.hid (owns_mono hX4o h03.size)
      have hFc := cell_of hF4h 0
      have hFf := free_of hF4h 0
      have hFl := lt_of hF4h
      have pc : X4.cell? ⟨PB, 0, none⟩ = some (.pointer (some ⟨pb, 0, none⟩)) := cell_of (hF4.heap hPB (by simp)) 0
      have pt : X4.cell? ⟨pb, 0, none⟩ = some (.pointer (some ⟨tb, 0, none⟩)) := ce_call hF4 hp0W
      have hO4 := hF4.heap hOB (by simp)
      have o4 : X4.cell? ⟨PB + 1, 4, none⟩ = some (.int .i64 o.a.t) := cell_of hO4 4
      have o5 : X4.cell? ⟨PB + 1, 5, none⟩ = some (.int .i64 o.a.l) := cell_of hO4 5
      have o6 : X4.cell? ⟨PB + 1, 6, none⟩ = some (.int .i64 o.a.b) := cell_of hO4 6
      have o7 : X4.cell? ⟨PB + 1, 7, none⟩ = some (.int .i64 o.a.r) := cell_of hO4 7
      have hX4z := hF4.size
      clear hA4 hX4o hO4
      gi_wp2_with fail
      refine wpIn_wide.2 ?_
      go_region_held3 (fun u => u.cell? ⟨PB, 0, none⟩ = some (.pointer (some ⟨pb, 0, none⟩)) ∧ u.cell? ⟨pb, 0, none⟩ = some (.pointer (some ⟨tb, 0, none⟩)) ∧ u.cell? ⟨PB + 1, 4, none⟩ = some (.int .i64 o.a.t) ∧ u.cell? ⟨PB + 1, 5, none⟩ = some (.int .i64 o.a.l) ∧ u.cell? ⟨PB + 1, 6, none⟩ = some (.int .i64 o.a.b) ∧ u.cell? ⟨PB + 1, 7, none⟩ = some (.int .i64 o.a.r))
        (((try dsimp only); refine ⟨?_, ?_, ?_, ?_, ?_, ?_⟩ <;> (repeat first | with_reducible assumption | with_reducible refine ce_drew ?_ | with_reducible refine ce_old ?_ | with_reducible refine ce_call hC2 ?_ | (with_reducible refine ce_set ?_ (by omega)))))
        ((go_at_call 30; refine (overA_int tb mb l o.a _ ((HT0.out.fr0 (hF4.drew)).tab) HL.out).mono ?_; rw [HFLT.out]; rintro e wO ⟨B2, rv2, rfl, hI2, hC2⟩; have hC5 : Fr [] X4 wO := ((Fr.refl [] X4).drew).trans0 hC2; have hFO := hC5.heap hF4h (by simp); have fc0 := cell_of hFO 0; have fcf := free_of hFO 0; have hFl2 := lt_of hFO))
      have hs5 : Fr [FB] wO (wO.setCell ⟨FB, 0, none⟩ (.func (.func 107) #[] #[.pointer (some ⟨B2, 0, none⟩)])) := (Fr.refl _ wO).setCell (.inl (by simp)) _
      have hF5 : Fr [] W0 (wO.setCell ⟨FB, 0, none⟩ (.func (.func 107) #[] #[.pointer (some ⟨B2, 0, none⟩)])) := (hF4.trans0 hC5).setCell (.inr (show W0.heap.size ≤ FB by omega)) _
      have hFO5 := set_of hFO 0 (.func (.func 107) #[] #[.pointer (some ⟨B2, 0, none⟩)])
      have hL5 := hs5.heap (hC5.heap hL4 (by simp)) (by simp; omega)
      have hX5 := hs5.heap (hC5.heap hX4 (by simp)) (by simp; omega)
      have hA5 := owns_fr (owns_fr HA4.out hC5 (by simp)) hs5 (own_nbox (owns_fr HA4.out hC5 (by simp)) hFO (by decide))
      have hX5o := owns_fr (owns_fr HX4o.out hC5 (by simp)) hs5 (own_nbox (owns_fr HX4o.out hC5 (by simp)) hFO (by decide))
      have hbx := hI2.box
      have hB2l := hI2.le
      have hB2 : FB ≠ B2 := by have := hI2.le; simp at this; omega
      have hI5 : Iterint W0.heap.size (wO.setCell ⟨FB, 0, none⟩ (.func (.func 107) #[] #[.pointer (some ⟨B2, 0, none⟩)])) B2 rv2 (R.filter fun x => hasA o.a x.1) :=
        ⟨(st1 hB2).trans hI2.box, Nat.lt_of_lt_of_le hI2.lt hs5.size, Nat.le_trans hX4z hI2.le, owns_mono (owns_fr hI2.own hs5 (own_nbox hI2.own hFO (by decide))) hX4z⟩
      gi_wp2_with fail
      gi_meet
      exact ⟨.slice q1 n1 c1, .slice q2 n2 c2, B2, rv2, hL5, hA5, hX5, hX5o, hFO5, hI5, hF5⟩
    · have hGR : G = R := by rw [← HG.out, if_neg hk5]
      subst hGR
      gi_wp2_with fail
      gi_meet
      exact ⟨vl, vx, B, rv, hL3, A7.out, hX3, A15.out, hF3, HI3.out, h03⟩
  case rest =>
    obtain ⟨vl, vx, B, rv, hLh, a7, hXh, a15, hFh, hI, hF0⟩ := hcut
    have HI := Lib.hid hI
    have HA7 := Lib.hid a7
    have HA15 := Lib.hid a15
    have fc0 := cell_of hFh 0
    have hfn := fnNilInt 107 B
    have hFl := lt_of hFh
    clear A7 A15 HI3 hI k0 hL3 hX3 hO3 hF3 h3 h03 a7 a15
    gi_wp2_with fail
    have h8 : Fr [] wc (wc.alloc (.cells #[.int .i64 0] 3)) := (Fr.refl [] wc).alloc _
    have hV8 := heap_new wc (.cells #[.int .i64 0] 3)
    have hL8 := h8.heap hLh (by simp)
    have hX8 := h8.heap hXh (by simp)
    have hF8 := h8.heap hFh (by simp)
    have h08 := hF0.trans0 h8
    have hcz := hF0.size
    have hLc := lt_of hLh
    have hXc := lt_of hXh
    have hFc := lt_of hFh
    have HI8 := Lib.hid (HI.out.fr h8 (Nat.le_refl _))
    have ha8 := Lib.hid (owns_fr HA7.out h8 (by simp))
    have hx8 := Lib.hid (owns_fr HA15.out h8 (by simp))
    have hz8 : (wc.alloc (.cells #[.int .i64 0] 3)).heap.size = wc.heap.size + 1 := by simp
    have HX8 := Lib.hid (HT0.out.fr0 h08)
    have hP8 := h08.heap (h0.heap HP.out (by simp)) (by simp)
    have hPB8 := h08.heap hPB (by simp)
    have hOB8 := h08.heap hOB (by simp)
    have hBB8 := h08.heap hBB (by simp)
    have hBBl := lt_of hBB
    have hpl := lt_of HP.out
    have hlv : ∀ k, vl.ownBlock = some k → k < wc.heap.size := fun k hk => (HA7.out.lt k hk).2
    have hlx : ∀ k, vx.ownBlock = some k → k < wc.heap.size := fun k hk => (HA15.out.lt k hk).2
    have hlr : ∀ k, rv.ownBlock = some k → k < wc.heap.size := fun k hk => (HI.out.own.lt k hk).2
    have HLV := Lib.hid (And.intro hlv (And.intro hlx hlr))
    have hBc := HI.out.lt
    have hGl : G.length ≤ 65536 := by
      rw [← HG.out]
      split
      · exact Nat.le_trans (List.length_filter_le _ _) HL0.out
      · exact HL0.out
    have HGL := Lib.hid hGl
    have hS0 : ∀ g ∈ tb :: mb :: rBl rb (.slice qa R.length ca) (.slice qx R.length cx), g < PB ∧ g ≠ pb := by
      intro g hg
      refine ⟨?_, fun e => hpS (by rw [← e]; exact hg)⟩
      rw [← hPBe]
      rcases List.mem_cons.1 hg with rfl | hg
      · exact lt_of HT.out.tab.tab
      · rcases List.mem_cons.1 hg with rfl | hg
        · exact HT.out.tab.map.lt
        · exact HT.out.ref.lt g hg
    have HS0 := Lib.hid hS0
    clear hlv hlx hlr hGl hS0 hLh hXh hFh fc0
    generalize wc.alloc (.cells #[.int .i64 0] 3) = Wa at *
    obtain ⟨VB, hVBe⟩ : ∃ VB, wc.heap.size = VB := ⟨_, rfl⟩
    rw [hVBe] at hV8 hz8 hcz hLc hXc hFc HLV hFl ⊢
    refine wpIn_loop_rounds 3 ?_
    rw [roundsIn_succ]
    refine goesRound 7 (by omega) 0 (.inl rfl) pb tb mb rb PB LB XB FB VB B VB W0.heap.size o _ _ vl vx rv l R G Wa [] _ HX8.out HGL.out hP8 hPB8 hOB8 hBB8 hL8 ha8.out hX8 hx8.out hF8 HI8.out hV8 (fun g hg => .inl (HS0.out g hg)) (by omega) HLV.out ?_
    intro y0 y1 y9 y10 y11 y12 y13 y14 y15 y16 y17 y18 y19 y20 y21 y22 y23 y24 y25 y26 y27 y28 y29 y30 y31 y32 y33 y34 y35 y36 y37 y38 y39 y40 y41 y42 y43 y44 y45 y46 y47 y48 y49 y50 y51 y52 y53 y54 y55 y56 y57 y58 y59 y60 y61 y62 y63 y64 y65 y66 y67 y68 y69 y70 y71 y72 y73 y74 y75 y76 y77 y78 y79 y80 y81 y82 y83 y84 y85 y86 y87 y88 y89 y90 y91 y92 y93 y94 y95 y96 y97 y98 y99 y100 y101 y102 y103 y104 y105 y106 y107 y108 y109 y110 y111 y112 y113 y114 y115 y116 y117 y118 y119 y120 y121 y122 y123 y124 y125 y126 y127 y128 y129 y130 y131 y132 y133 y134 y135 y136 y137 y138 y139 y140 y141 y142 y143 y144 y145 y146 y147 y148 y149 y150 y151 y152 y153 y154 y155 y156 y157 y158 y159 y160 y161 y162 y163 y164 y165 y166 y167 y168 y169 y170 y171 y172 y173 y174 y175 y176 y177 y178 y179 y180 y181 y182 y183 y184 y185 y186 y187 y188 y189 y190 y191 VB2 D X vA' vX' l' R' hX' hF hB' hV2 hVle hVlt hK hD
    have hnot : ∀ b, PB ≤ b ∨ b = pb → b ∉ tb :: mb :: rBl rb (.slice qa R.length ca) (.slice qx R.length cx) := fun b hb hm => by
      have := HS0.out b hm
      omega
    have hI2 : Iterint W0.heap.size X B rv G := ⟨ceS hF (hnot B (.inl (by have := HI8.out.le; omega))) HI8.out.box, Nat.lt_of_lt_of_le HI8.out.lt hF.size, HI8.out.le, owns_fr HI8.out.own hF (fun k hk => hnot k (.inl (by have := (HI8.out.own.lt k hk).1; omega)))⟩
    have ha2 := owns_fr ha8.out hF (fun k hk => hnot k (.inl (by have := (ha8.out.lt k hk).1; omega)))
    have hx2 := owns_fr hx8.out hF (fun k hk => hnot k (.inl (by have := (hx8.out.lt k hk).1; omega)))
    have hP2 := hF.heap hP8 (hnot _ (.inr rfl))
    have hPB2 := hF.heap hPB8 (hnot _ (.inl (by omega)))
    have hOB2 := hF.heap hOB8 (hnot _ (.inl (by omega)))
    have hBB2 := hF.heap hBB8 (hnot _ (.inl (by omega)))
    have hL2 := hF.heap hL8 (hnot _ (.inl (by omega)))
    have hXx2 := hF.heap hX8 (hnot _ (.inl (by omega)))
    have hFF2 := hF.heap hF8 (hnot _ (.inl (by omega)))
    have hzX := hF.size
    show Code.roundsIn _ _ _ _ _ 2 _ _
    rw [roundsIn_succ]
    refine goesRound 7 (by omega) 1 (.inr rfl) pb tb mb rb PB LB XB FB VB2 B Wa.heap.size W0.heap.size o _ _ vl vx rv l' R' G X _ _ hX' HGL.out hP2 hPB2 hOB2 hBB2 hL2 ha2 hXx2 hx2 hFF2 hI2 hV2 ?_ (by omega) ?_ ?_
    · intro g hg
      rcases List.mem_cons.1 hg with rfl | hg
      · exact .inl (HS0.out _ (by simp))
      · rcases List.mem_cons.1 hg with rfl | hg
        · exact .inl (HS0.out _ (by simp))
        · rcases hB' g hg with h | h
          · exact .inl (HS0.out g (by simp [h]))
          · exact .inr ⟨h, by have := hVlt g hg; omega⟩
    · exact ⟨fun k hk => by have := HLV.out.1 k hk; omega, fun k hk => by have := HLV.out.2.1 k hk; omega, fun k hk => by have := HLV.out.2.2 k hk; omega⟩
    intro x0 x1 x9 x10 x11 x12 x13 x14 x15 x16 x17 x18 x19 x20 x21 x22 x23 x24 x25 x26 x27 x28 x29 x30 x31 x32 x33 x34 x35 x36 x37 x38 x39 x40 x41 x42 x43 x44 x45 x46 x47 x48 x49 x50 x51 x52 x53 x54 x55 x56 x57 x58 x59 x60 x61 x62 x63 x64 x65 x66 x67 x68 x69 x70 x71 x72 x73 x74 x75 x76 x77 x78 x79 x80 x81 x82 x83 x84 x85 x86 x87 x88 x89 x90 x91 x92 x93 x94 x95 x96 x97 x98 x99 x100 x101 x102 x103 x104 x105 x106 x107 x108 x109 x110 x111 x112 x113 x114 x115 x116 x117 x118 x119 x120 x121 x122 x123 x124 x125 x126 x127 x128 x129 x130 x131 x132 x133 x134 x135 x136 x137 x138 x139 x140 x141 x142 x143 x144 x145 x146 x147 x148 x149 x150 x151 x152 x153 x154 x155 x156 x157 x158 x159 x160 x161 x162 x163 x164 x165 x166 x167 x168 x169 x170 x171 x172 x173 x174 x175 x176 x177 x178 x179 x180 x181 x182 x183 x184 x185 x186 x187 x188 x189 x190 x191 VB3 D2 X2 vA2 vX2 l2 R2 hX2 hF2 hB2 hV3 hVle3 hVlt3 hK2 hD2
    show Code.roundsIn _ _ _ _ _ 1 _ _
    rw [roundsIn_succ]
    have v3 := cell_of hV3 0
    have hS' : ∀ g ∈ tb :: mb :: rBl rb vA' vX', g ∈ tb :: mb :: rBl rb (.slice qa R.length ca) (.slice qx R.length cx) ∨ Wa.heap.size ≤ g := fun g hg => by
      rcases List.mem_cons.1 hg with rfl | hg
      · exact .inl (by simp)
      · rcases List.mem_cons.1 hg with rfl | hg
        · exact .inl (by simp)
        · exact (hB' g hg).imp (fun h => by simp [h]) id
    have hS2 : ∀ g ∈ tb :: mb :: rBl rb vA2 vX2, g ∈ tb :: mb :: rBl rb (.slice qa R.length ca) (.slice qx R.length cx) ∨ Wa.heap.size ≤ g := fun g hg => by
      rcases List.mem_cons.1 hg with rfl | hg
      · exact .inl (by simp)
      · rcases List.mem_cons.1 hg with rfl | hg
        · exact .inl (by simp)
        · rcases hB2 g hg with h | h
          · exact hS' g (by simp [h])
          · exact .inr (by omega)
    have hP2' : PB + 1 + 1 ∉ tb :: mb :: rBl rb vA' vX' := fun hm => by
      rcases hS' _ hm with h | h
      · exact hnot _ (.inl (by omega)) h
      · omega
    have hP3 : PB + 1 + 1 ∉ tb :: mb :: rBl rb vA2 vX2 := fun hm => by
      rcases hS2 _ hm with h | h
      · exact hnot _ (.inl (by omega)) h
      · omega
    have hDn : D ∉ tb :: mb :: rBl rb vA' vX' := fun hm => by
      rcases List.mem_cons.1 hm with rfl | hm
      · have := (HS0.out _ (List.mem_cons_self)).1; omega
      · rcases List.mem_cons.1 hm with rfl | hm
        · have := (HS0.out D (by simp)).1; omega
        · simp only [rBl, List.mem_cons, List.mem_append, Option.mem_toList] at hm
          rcases hm with rfl | hm | hm
          · rw [hX'.ref.tab] at hK; cases hK
          · obtain ⟨_, hh⟩ := own_heap hX'.ref.at' hm; rw [hh] at hK; cases hK
          · obtain ⟨_, hh⟩ := own_heap hX'.ref.xs hm; rw [hh] at hK; cases hK
    have hBB3 := hF2.heap hBB2 hP2'
    have hKD := hF2.heap hK hDn
    have b0 := cell_of hBB3 0
    have bf := free_of hBB3 0
    have hbl := lt_of hBB3
    have hDl := lt_of hK
    have hzX2 := hF2.size
    have hmw := HT.out.tab.map.lt
    dsimp only
    gi_wp2
    have hFs : Fr [PB + 1 + 1] X2 (X2.setCell ⟨PB + 1 + 1, 0, none⟩ (.bool true)) := (Fr.refl _ X2).setCell (.inl (by simp)) _
    have hA2 := hFs.heap hK2 (by simp; omega)
    have hA1 := hFs.heap hKD (by simp; omega)
    have hA0 := set_of hBB3 0 (.bool true)
    have hTY := hX2.frS hFs (fun g hg hm => by rw [List.mem_singleton] at hm; subst hm; exact hP3 hg)
    have hFx : Fr (tb :: mb :: rBl rb (.slice qa R.length ca) (.slice qx R.length cx)) w (X2.setCell ⟨PB + 1 + 1, 0, none⟩ (.bool true)) :=
      ((((h0.trans0 h08).mono (by simp)).transS hF).trans hF2 (fun g hg => (hS' g hg).imp id (fun h => by have := h0.size; have := h08.size; omega))).trans hFs (by simp; omega)
    clear b0 bf
    generalize X2.setCell ⟨PB + 1 + 1, 0, none⟩ (.bool true) = Y at *
    have hB1 : (Y.putObj D2 (.deferred none)).heap[D]? = some (.deferred (some [])) := (World.putObj_heap_other (by omega)).trans hA1
    refine ⟨by simp, .inl ⟨_, _, rfl, run_takeDeferred hA2, by simp, .inl ⟨_, _, rfl, run_takeDeferred hB1, ?_⟩⟩⟩
    have hg1 : ((Y.putObj D2 (.deferred none)).putObj D (.deferred none)).heap[PB + 1 + 1]? = (Y.putObj D2 (.deferred none)).heap[PB + 1 + 1]? := World.putObj_heap_other (by omega)
    have hg2 : (Y.putObj D2 (.deferred none)).heap[PB + 1 + 1]? = Y.heap[PB + 1 + 1]? := World.putObj_heap_other (by omega)
    have hcell : ((Y.putObj D2 (.deferred none)).putObj D (.deferred none)).cell? ⟨PB + 1 + 1, 0, none⟩ = some (.bool true) := cell_of (hg1.trans (hg2.trans hA0)) 0
    have hT1 := (TX.own (β := Unit) (B := mb + 1) (tb := tb) (rb := rb) (Nat.lt_succ_self mb) (fun _ => vA2) (fun _ => vX2) (fun _ => l2) (fun _ => R2)).putObj (s := ()) (.deferred none) hTY (by omega) hA2 rfl
    have hT2 := (TX.own (β := Unit) (B := mb + 1) (tb := tb) (rb := rb) (Nat.lt_succ_self mb) (fun _ => vA2) (fun _ => vX2) (fun _ => l2) (fun _ => R2)).putObj (s := ()) (.deferred none) hT1 (by omega) hB1 rfl
    refine ⟨.bool true, by simp [results, Try.results23, go_sem, hcell], rfl, vA2, vX2, l2, R2, hT2, (hFx.putObj (by omega) _).putObj (by omega) _, fun g hg => ?_⟩
    rcases hB2 g hg with h | h
    · exact (hB' g h).imp id (fun h => by have := h0.size; have := h08.size; omega)
    · exact .inr (by have := h0.size; have := h08.size; omega)
end Go.Proofs.Ytldppdafgbipjaa
