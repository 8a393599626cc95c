/-
  The walk of quadrillelaw7.GridShares.
-/
import Derived.Test.YtldppdafgbipjaaBegun7
import Derived.Test.YtldppdafgbipjaaTFullP
import Derived.Test.YtldppdafgbipjaaArgs
import Derived.LaidEql
namespace Go.Proofs.Ytldppdafgbipjaa
open Go.RowKit

/-- Every place of the list may be. -/
def MayK {α : Type} (l : List (Sp × α)) : Prop := ∀ x ∈ l.map (·.1), mayS x.1 x.2 = true
theorem MayK.put {α : Type} {l : List (Sp × α)} (h : MayK l) {s : Sp} (hs : mayS s.1 s.2 = true) (x : α) : MayK (putS s x l) := by
  intro y hy
  rw [putS_keys] at hy
  split at hy
  · exact h y hy
  · rcases List.mem_append.1 hy with hy | hy
    · exact h y hy
    · rw [List.mem_singleton] at hy
      rw [hy]
      exact hs
theorem MayK.none {α : Type} {l : List (Sp × α)} (h : MayK l) {s : Sp} (hs : mayS s.1 s.2 = false) : getS s l = none := by
  rw [getS_none]
  intro hm
  rw [h s hm] at hs
  cases hs
theorem setE_may {α : Type} {l : List (Sp × α)} {s : Sp} (h : l.length < 65536) : setE s l = if mayS s.1 s.2 then 0 else 10 := by
  unfold setE
  cases hm : mayS s.1 s.2 with
  | false => rfl
  | true =>
    rw [if_neg (by simp), if_neg (by omega)]
    rfl
theorem setL_no {α : Type} {l : List (Sp × α)} {s : Sp} (hs : mayS s.1 s.2 = false) (x : α) : setL s x l = l := by
  unfold setL setE
  rw [if_pos hs, if_neg (by decide)]
theorem setL_yes {α : Type} {l : List (Sp × α)} {s : Sp} (h : l.length < 65536) (hs : mayS s.1 s.2 = true) (x : α) : setL s x l = putS s x l := by
  unfold setL
  rw [setE_may h, hs]
  rfl
theorem putS_le {α : Type} (s : Sp) (x : α) (l : List (Sp × α)) : (putS s x l).length ≤ l.length + 1 := by
  rw [putS_length]
  split <;> omega

theorem neq_nilI (w : World) : (binOp .neq 48 (.slice none 0 0) (.slice none 0 0)).run Try.prog w = .ok (.bool false) w := by kernel_rfl

theorem neq_self (x : Nat) (w : World) : (binOp .neq 73 (.pointer (some ⟨x, 0, none⟩)) (.pointer (some ⟨x, 0, none⟩))).run Try.prog w = .ok (.bool false) w := by
  obtain ⟨j, hj⟩ := Option.isSome_iff_exists.1 (show (Try.prog.info? 78).isSome = true by kernel_rfl)
  have h : ∀ d : Nat, (Op.equalIn (d + 1) 73 (.pointer (some ⟨x, 0, none⟩)) (.pointer (some ⟨x, 0, none⟩))).run Try.prog w = .ok true w := fun d => by
    simp [Op.equalIn, run_underlying Try.underlying73, sizeOf, typeInfo, hj, run_sameAddr_same]
  simp only [binOp]
  simp [Op.equal, Op.maxDepth, h 9999]

abbrev tPt : TypeId := 155
abbrev tTh : TypeId := 158

set_option maxRecDepth 100000 in
set_option maxHeartbeats 6400000 in
theorem gridShares_walk (v0 : Value) (ss : List Sp) (w : World) (hsp : SpotsAt w v0 ss) : Calls Try.prog 7 #[v0] w fun e w1 => e = .returned (.bool true) ∧ Fr [] w w1 := by
  have HSP := Lib.hid hsp
  obtain ⟨da, dc, rfl, hdc1, hdc2⟩ := hsp.form
  clear hsp
  go_enter Try.func7, Try.ntmps7
  go_wp2_with fail
  refine (begun7 _).mono ?_
  rintro e w1 ⟨rfl, h1⟩
  go_wp2_with fail
  refine (new_Ptr _).mono ?_
  rintro e w2 ⟨tb1, mb1, rfl, ht1, hm1, hT1, h2⟩
  go_wp2_with fail
  refine (new_Th _).mono ?_
  rintro e w3 ⟨tb2, mb2, rfl, ht2, hm2, hT2, h3⟩
  go_wp2_with fail
  refine (new_Th _).mono ?_
  rintro e w4 ⟨tb3, mb3, rfl, ht3, hm3, hT3, h4⟩
  have hz1 := h1.size
  have hz2 := h2.size
  have hz3 := h3.size
  have l1 := lt_of hT1.tab
  have l2 := hT1.map.lt
  have l3 := lt_of hT2.tab
  have l4 := hT2.map.lt
  have n1 := hT1.ne
  have n2 := hT2.ne
  have hT1' := hT1.fr (h3.trans0 h4) (by simp) (by simp)
  have hT2' := hT2.fr h4 (by simp) (by simp)
  have HT1 := Lib.hid hT1'
  have HT2 := Lib.hid hT2'
  have HT3 := Lib.hid hT3
  have hf4 : Fr [] w w4 := ((h1.trans0 h2).trans0 h3).trans0 h4
  clear hT1 hT2 hT3 hT1' hT2' h1 h2 h3 h4
  go_wp2_with fail
  go_loopw [6] (fun i wr => ∃ (k : Nat) (lt : List (Sp × Option Addr)) (lu : List (Sp × Th)), i = .int .i64 (k : Int) ∧ (k : Int) ≤ 300 ∧ k ≤ ss.length ∧ lt.map (·.1) = lu.map (·.1) ∧ MayK lu ∧ lt.length ≤ k ∧
    TabIs tPt (fun x : Option Addr => .pointer x) wr tb1 mb1 lt ∧ TabIs tTh (fun x : Th => Th.val x) wr tb2 mb2 lu ∧ Fr [tb1, mb1, tb2, mb2] w4 wr) (fun i _ => (300 - intOf i).toNat)
  case atStart => exact ⟨0, [], [], rfl, by omega, by omega, rfl, (by intro x hx; cases hx), by simp, HT1.out, HT2.out, Fr.refl _ _⟩
  case round =>
    obtain ⟨k, lt, lu, rfl, hk, hkn, hkeys, hmay, hlen, hTt, hTu, hfr⟩ := hrel
    have HTt := Lib.hid hTt
    have HTu := Lib.hid hTu
    have HK := Lib.hid hkeys
    have HM := Lib.hid hmay
    have HL := Lib.hid hlen
    clear hTt hTu hkeys hmay hlen
    have hfw : Fr [] w wr := hf4.trans hfr (by simp; omega)
    by_cases hlt : (k : Int) < (ss.length : Int) ∧ (k : Int) < 300
    · obtain ⟨hlt1, hlt2⟩ := hlt
      obtain ⟨b, off, c, ec, hb, hc⟩ := HSP.out.cell (by omega)
      cases ec
      have c0 : w.cell? ⟨b, off + k * 2, none⟩ = some (.int .i64 ss[k].1) := hc (k * 2 + 0) _ (by rw [flat_get spC 2 (fun _ => rfl) ss k 0 (by omega) (by omega)]; rfl)
      have c1 : w.cell? ⟨b, off + k * 2 + 1, none⟩ = some (.int .i64 ss[k].2) := hc (k * 2 + 1) _ (by rw [flat_get spC 2 (fun _ => rfl) ss k 1 (by omega) (by omega)]; rfl)
      obtain ⟨s, hs⟩ : ∃ s, ss[k] = s := ⟨_, rfl⟩
      rw [hs] at c0 c1
      have c0 := (hfw.cell (p := ⟨b, off + k * 2, none⟩) hb (by simp)).trans c0
      have c1 := (hfw.cell (p := ⟨b, off + k * 2 + 1, none⟩) hb (by simp)).trans c1
      have hbr : b < wr.heap.size := Nat.lt_of_lt_of_le hb hfw.size
      have hw1 : IntKind.i64.wrap ((k : Int) + 1) = (k : Int) + 1 := by rw [IntKind.wrap_i64]; omega
      have hw2 : IntKind.i64.wrap ((k : Int) + 1000) = (k : Int) + 1000 := by rw [IntKind.wrap_i64]; omega
      have hw3 : IntKind.i64.wrap ((k : Int) + 2000) = (k : Int) + 2000 := by rw [IntKind.wrap_i64]; omega
      have hk0 : (0 : Int) ≤ (k : Int) := by omega
      have hlT : lt.length < 65536 := by have := HL.out; omega
      have hlU : lu.length < 65536 := by
        have h1 : lt.length = lu.length := by simpa using congrArg List.length HK.out
        omega
      have g1 := lt_of HTt.out.tab
      have g2 := HTt.out.map.lt
      have g3 := lt_of HTu.out.tab
      have g4 := HTu.out.map.lt
      have hz4 := hfr.size
      clear hc hs
      have hnn := neq_nilI
      have hns := neq_self
      have HMY := HM
      cases hm : mayS s.1 s.2
      case false =>
        have HM := Lib.hid hm
        have hE1 := Lib.hid (show setE s lt = 10 by rw [setE_may hlT, hm]; rfl)
        have hE2 := Lib.hid (show setE s lu = 10 by rw [setE_may hlU, hm]; rfl)
        have hS1 := fun x => Lib.hid (show setL s x lt = _ from (setL_no hm _))
        have hS2 := fun x => Lib.hid (show setL s x lu = _ from (setL_no hm _))
        clear hm
        go_wp2_with fail
        have hW1 : Fr [] wr ((wr.alloc (.cells #[.int .i64 (k : Int)] 3)).alloc (.cells #[.int .i64 (k : Int), .slice (some ⟨wr.heap.size, 0, none⟩) 1 1, .pointer none] 78)) := ((Fr.refl [] wr).alloc _).alloc _
        have hLo : ((wr.alloc (.cells #[.int .i64 (k : Int)] 3)).alloc (.cells #[.int .i64 (k : Int), .slice (some ⟨wr.heap.size, 0, none⟩) 1 1, .pointer none] 78)).heap[wr.heap.size]? = some (.cells #[.int .i64 (k : Int)] 3 (0, 0)) := hp_old (hp_new rfl)
        have hXo : ((wr.alloc (.cells #[.int .i64 (k : Int)] 3)).alloc (.cells #[.int .i64 (k : Int), .slice (some ⟨wr.heap.size, 0, none⟩) 1 1, .pointer none] 78)).heap[wr.heap.size + 1]? = some (.cells #[.int .i64 (k : Int), .slice (some ⟨wr.heap.size, 0, none⟩) 1 1, .pointer none] 78 (0, 0)) := hp_new (by simp)
        generalize (wr.alloc (.cells #[.int .i64 (k : Int)] 3)).alloc (.cells #[.int .i64 (k : Int), .slice (some ⟨wr.heap.size, 0, none⟩) 1 1, .pointer none] 78) = W1 at *
        obtain ⟨LB, hLB⟩ : ∃ LB, wr.heap.size = LB := ⟨_, rfl⟩
        rw [hLB] at hLo hXo hbr g1 g2 g3 g4 hz4 ⊢
        have hXlt := lt_of hXo
        refine (set_Ptr tb1 mb1 s (some ⟨LB + 1, 0, none⟩) lt _ (HTt.out.fr hW1 (by simp) (by simp))).mono ?_
        rw [hE1.out, (hS1 _).out]
        rintro e w5 ⟨rfl, hT5, h5⟩
        have HT5 := Lib.hid hT5
        have hbW : b < W1.heap.size := by omega
        have n5 : b ∉ [tb1, mb1] := by simp; omega
        have nX5 : LB + 1 ∉ [tb1, mb1] := by simp; omega
        have nL5 : LB ∉ [tb1, mb1] := by simp; omega
        have nb6 : b ∉ [tb2, mb2] := by simp; omega
        have nX6 : LB + 1 ∉ [tb2, mb2] := by simp; omega
        have nL6 : LB ∉ [tb2, mb2] := by simp; omega
        have hX5 := h5.heap hXo nX5
        have hL5 := h5.heap hLo nL5
        have c0 := (h5.cell (p := ⟨b, off + k * 2, none⟩) hbW n5).trans (ce_call hW1 c0)
        have c1 := (h5.cell (p := ⟨b, off + k * 2 + 1, none⟩) hbW n5).trans (ce_call hW1 c1)
        have x0 : w5.cell? ⟨LB + 1, 0, none⟩ = some (.int .i64 (k : Int)) := cell_of hX5 0
        have x1 : w5.cell? ⟨LB + 1, 1, none⟩ = some (.slice (some ⟨LB, 0, none⟩) 1 1) := cell_of hX5 1
        have x2 : w5.cell? ⟨LB + 1, 2, none⟩ = some (.pointer none) := cell_of hX5 2
        have hb5 : b < w5.heap.size := Nat.lt_of_lt_of_le hbW h5.size
        have hT5u := Lib.hid (((HTu.out.fr hW1 (by simp) (by simp)).fr h5 (by simp; omega) (by simp; omega)))
        have hf5 : Fr [tb1, mb1, tb2, mb2] w4 w5 := (hfr.trans0 hW1).trans h5 (by simp)
        clear hT5
        go_wp2_with fail
        go_region_held3 (fun u => u.cell? ⟨b, off + k * 2, none⟩ = some (.int .i64 s.1) ∧ u.cell? ⟨b, off + k * 2 + 1, none⟩ = some (.int .i64 s.2) ∧ u.cell? ⟨LB + 1, 0, none⟩ = some (.int .i64 (k : Int)) ∧ u.cell? ⟨LB + 1, 1, none⟩ = some (.slice (some ⟨LB, 0, none⟩) 1 1) ∧ u.cell? ⟨LB + 1, 2, none⟩ = some (.pointer none))
          (((try dsimp only); first | exact ⟨c0, c1, x0, x1, x2⟩ | exact hSK))
          ((go_at_call 35; refine (set_Th tb2 mb2 s ⟨(k : Int), some ⟨LB, 0, none⟩, 1, 1, none⟩ lu _ (hT5u.out.fr ((Fr.refl [] w5).drew) (by simp) (by simp))).mono ?_; rw [hE2.out, (hS2 _).out]; rintro e w6 ⟨rfl, hT6, h6⟩; have h6 : Fr [tb2, mb2] w5 w6 := ((Fr.refl [tb2, mb2] w5).drew).transS h6; have hX6 := h6.heap hX5 nX6; have hSK : w6.cell? ⟨b, off + k * 2, none⟩ = some (.int .i64 s.1) ∧ w6.cell? ⟨b, off + k * 2 + 1, none⟩ = some (.int .i64 s.2) ∧ w6.cell? ⟨LB + 1, 0, none⟩ = some (.int .i64 (k : Int)) ∧ w6.cell? ⟨LB + 1, 1, none⟩ = some (.slice (some ⟨LB, 0, none⟩) 1 1) ∧ w6.cell? ⟨LB + 1, 2, none⟩ = some (.pointer none) := ⟨(h6.cell (p := ⟨b, off + k * 2, none⟩) hb5 nb6).trans c0, (h6.cell (p := ⟨b, off + k * 2 + 1, none⟩) hb5 nb6).trans c1, cell_of hX6 0, cell_of hX6 1, cell_of hX6 2⟩))
        have HT6 := Lib.hid hT6
        have HT6t := Lib.hid (HT5.out.fr h6 (by simp; omega) (by simp; omega))
        have hL6 := h6.heap hL5 nL6
        obtain ⟨c0, c1, x0, x1, x2⟩ := hSK
        have xf : w6.frozen? ⟨LB + 1, 0, none⟩ = false := free_of hX6 0
        have lf : w6.frozen? ⟨LB, 0, none⟩ = false := free_of hL6 0
        have l0 : w6.cell? ⟨LB, 0, none⟩ = some (.int .i64 (k : Int)) := cell_of hL6 0
        have hf6 : Fr [tb1, mb1, tb2, mb2] w4 w6 := hf5.trans h6 (by simp)
        have hb6 : b < w6.heap.size := Nat.lt_of_lt_of_le hb5 h6.size
        have hX6l := lt_of hX6
        clear hT6 HT5 hT5u hX5 hL5
        go_wp2_with fail
        have hF7 : Fr [LB + 1, LB] w6 ((w6.setCell ⟨LB + 1, 0, none⟩ (.int .i64 ((k : Int) + 1000))).setCell ⟨LB, 0, none⟩ (.int .i64 ((k : Int) + 2000))) := ((Fr.refl [LB + 1, LB] w6).setCell (p := ⟨LB + 1, 0, none⟩) (.inl (by simp)) _).setCell (p := ⟨LB, 0, none⟩) (.inl (by simp)) _
        have hX7 : ((w6.setCell ⟨LB + 1, 0, none⟩ (.int .i64 ((k : Int) + 1000))).setCell ⟨LB, 0, none⟩ (.int .i64 ((k : Int) + 2000))).heap[LB + 1]? = some (.cells #[.int .i64 ((k : Int) + 1000), .slice (some ⟨LB, 0, none⟩) 1 1, .pointer none] 78 (0, 0)) := (Below.heap_setCell _ ⟨LB, 0, none⟩ _ (LB + 1) (by simp)).trans (set_of hX6 0 _)
        have hL7 : ((w6.setCell ⟨LB + 1, 0, none⟩ (.int .i64 ((k : Int) + 1000))).setCell ⟨LB, 0, none⟩ (.int .i64 ((k : Int) + 2000))).heap[LB]? = some (.cells #[.int .i64 ((k : Int) + 2000)] 3 (0, 0)) := set_of ((Below.heap_setCell w6 ⟨LB + 1, 0, none⟩ _ LB (by simp)).trans hL6) 0 _
        have c0 : ((w6.setCell ⟨LB + 1, 0, none⟩ (.int .i64 ((k : Int) + 1000))).setCell ⟨LB, 0, none⟩ (.int .i64 ((k : Int) + 2000))).cell? ⟨b, off + k * 2, none⟩ = some (.int .i64 s.1) := (hF7.cell (p := ⟨b, off + k * 2, none⟩) hb6 (by simp; omega)).trans c0
        have c1 : ((w6.setCell ⟨LB + 1, 0, none⟩ (.int .i64 ((k : Int) + 1000))).setCell ⟨LB, 0, none⟩ (.int .i64 ((k : Int) + 2000))).cell? ⟨b, off + k * 2 + 1, none⟩ = some (.int .i64 s.2) := (hF7.cell (p := ⟨b, off + k * 2 + 1, none⟩) hb6 (by simp; omega)).trans c1
        have HT7t := Lib.hid (HT6t.out.fr hF7 (by simp; omega) (by simp; omega))
        have HT7u := Lib.hid (HT6.out.fr hF7 (by simp; omega) (by simp; omega))
        have HT7v := Lib.hid ((HT3.out.fr hf6 (by have := lt_of HT3.out.tab; simp; omega) (by simp; omega)).fr hF7 (by have := lt_of HT3.out.tab; simp; omega) (by have := HT3.out.map.lt; simp; omega))
        have hf7 : Fr [tb1, mb1, tb2, mb2] w4 ((w6.setCell ⟨LB + 1, 0, none⟩ (.int .i64 ((k : Int) + 1000))).setCell ⟨LB, 0, none⟩ (.int .i64 ((k : Int) + 2000))) := hf6.trans hF7 (by simp; omega)
        generalize (w6.setCell ⟨LB + 1, 0, none⟩ (.int .i64 ((k : Int) + 1000))).setCell ⟨LB, 0, none⟩ (.int .i64 ((k : Int) + 2000)) = W7 at *
        clear xf lf l0 x0 x1 x2 hX6 hL6 HT6 HT6t
        have HNu := Lib.hid (HMY.out.none HM.out)
        have HNt := Lib.hid (none_of HK.out (HMY.out.none HM.out))
        refine (get_Ptr tb1 mb1 s _ _ HT7t.out).mono ?_
        rw [HNt.out]
        simp only [Option.getD_none, Option.isSome_none]
        rintro e w8 ⟨rfl, h8⟩
        have c0 := ce_call h8 c0
        have c1 := ce_call h8 c1
        go_wp2_with fail
        refine (get_Th tb2 mb2 s _ _ (HT7u.out.fr h8 (by simp) (by simp))).mono ?_
        rw [HNu.out]
        simp only [Option.getD_none, Option.isSome_none, th0]
        rintro e w9 ⟨rfl, h9⟩
        have c0 := ce_call h9 c0
        have c1 := ce_call h9 c1
        have hb7 : b < W7.heap.size := Nat.lt_of_lt_of_le hb6 hF7.size
        have hb9 : b < w9.heap.size := Nat.lt_of_lt_of_le (Nat.lt_of_lt_of_le hb7 h8.size) h9.size
        go_wp2_with fail
        have hW10 : Fr [] w9 (w9.alloc (.cells #[.int .i64 0, .slice none 0 0, .pointer none] 78)) := (Fr.refl [] w9).alloc _
        have hB12 := heap_new w9 (.cells #[.int .i64 0, .slice none 0 0, .pointer none] 78)
        refine (get_Th tb3 mb3 s [] _ (HT7v.out.fr ((h8.trans0 h9).trans0 hW10) (by simp) (by simp))).mono ?_
        rw [show getS s ([] : List (Sp × Th)) = none from rfl]
        simp only [Option.getD_none, Option.isSome_none, th0]
        rintro e w10 ⟨rfl, h10⟩
        have hF10 : Fr [] W7 w10 := ((h8.trans0 h9).trans0 hW10).trans0 h10
        have hX10 := hF10.heap hX7 (by simp)
        have hL10 := hF10.heap hL7 (by simp)
        have hB10 := h10.heap hB12 (by simp)
        have HT10t := Lib.hid (HT7t.out.fr hF10 (by simp) (by simp))
        have HT10u := Lib.hid (HT7u.out.fr hF10 (by simp) (by simp))
        have hf10 : Fr [tb1, mb1, tb2, mb2] w4 w10 := hf7.trans0 hF10
        clear hX7 hL7 hB12 HT7t HT7u HT7v c0 c1
        obtain ⟨YB, hYB⟩ : ∃ YB, w9.heap.size = YB := ⟨_, rfl⟩
        rw [hYB] at hB10 ⊢
        have x0 : w10.cell? ⟨LB + 1, 0, none⟩ = some (.int .i64 ((k : Int) + 1000)) := cell_of hX10 0
        have l0 : w10.cell? ⟨LB, 0, none⟩ = some (.int .i64 ((k : Int) + 2000)) := cell_of hL10 0
        have y0 : w10.cell? ⟨YB, 0, none⟩ = some (.int .i64 0) := cell_of hB10 0
        have y1 : w10.cell? ⟨YB, 1, none⟩ = some (.slice none 0 0) := cell_of hB10 1
        have q0 := lt_of hX10
        have q1 := lt_of hL10
        have q2 := lt_of hB10
        go_wp2
        go_roundw
        case rel => exact ⟨k + 1, _, _, by go_num, by omega, by omega, HK.out, HMY.out, (by have := HL.out; omega), HT10t.out.fr ((Fr.refl [] w10).alloc _) (by simp) (by simp), HT10u.out.fr ((Fr.refl [] w10).alloc _) (by simp) (by simp), hf10.alloc _⟩
        case measure => simp [intOf]; omega
      case true =>
        have HM := Lib.hid hm
        have hE1 := Lib.hid (show setE s lt = 0 by rw [setE_may hlT, hm]; rfl)
        have hE2 := Lib.hid (show setE s lu = 0 by rw [setE_may hlU, hm]; rfl)
        have hS1 := fun x => Lib.hid (show setL s x lt = _ from (setL_yes hlT hm _))
        have hS2 := fun x => Lib.hid (show setL s x lu = _ from (setL_yes hlU hm _))
        clear hm
        go_wp2_with fail
        have hW1 : Fr [] wr ((wr.alloc (.cells #[.int .i64 (k : Int)] 3)).alloc (.cells #[.int .i64 (k : Int), .slice (some ⟨wr.heap.size, 0, none⟩) 1 1, .pointer none] 78)) := ((Fr.refl [] wr).alloc _).alloc _
        have hLo : ((wr.alloc (.cells #[.int .i64 (k : Int)] 3)).alloc (.cells #[.int .i64 (k : Int), .slice (some ⟨wr.heap.size, 0, none⟩) 1 1, .pointer none] 78)).heap[wr.heap.size]? = some (.cells #[.int .i64 (k : Int)] 3 (0, 0)) := hp_old (hp_new rfl)
        have hXo : ((wr.alloc (.cells #[.int .i64 (k : Int)] 3)).alloc (.cells #[.int .i64 (k : Int), .slice (some ⟨wr.heap.size, 0, none⟩) 1 1, .pointer none] 78)).heap[wr.heap.size + 1]? = some (.cells #[.int .i64 (k : Int), .slice (some ⟨wr.heap.size, 0, none⟩) 1 1, .pointer none] 78 (0, 0)) := hp_new (by simp)
        generalize (wr.alloc (.cells #[.int .i64 (k : Int)] 3)).alloc (.cells #[.int .i64 (k : Int), .slice (some ⟨wr.heap.size, 0, none⟩) 1 1, .pointer none] 78) = W1 at *
        obtain ⟨LB, hLB⟩ : ∃ LB, wr.heap.size = LB := ⟨_, rfl⟩
        rw [hLB] at hLo hXo hbr g1 g2 g3 g4 hz4 ⊢
        have hXlt := lt_of hXo
        refine (set_Ptr tb1 mb1 s (some ⟨LB + 1, 0, none⟩) lt _ (HTt.out.fr hW1 (by simp) (by simp))).mono ?_
        rw [hE1.out, (hS1 _).out]
        rintro e w5 ⟨rfl, hT5, h5⟩
        have HT5 := Lib.hid hT5
        have hbW : b < W1.heap.size := by omega
        have n5 : b ∉ [tb1, mb1] := by simp; omega
        have nX5 : LB + 1 ∉ [tb1, mb1] := by simp; omega
        have nL5 : LB ∉ [tb1, mb1] := by simp; omega
        have nb6 : b ∉ [tb2, mb2] := by simp; omega
        have nX6 : LB + 1 ∉ [tb2, mb2] := by simp; omega
        have nL6 : LB ∉ [tb2, mb2] := by simp; omega
        have hX5 := h5.heap hXo nX5
        have hL5 := h5.heap hLo nL5
        have c0 := (h5.cell (p := ⟨b, off + k * 2, none⟩) hbW n5).trans (ce_call hW1 c0)
        have c1 := (h5.cell (p := ⟨b, off + k * 2 + 1, none⟩) hbW n5).trans (ce_call hW1 c1)
        have x0 : w5.cell? ⟨LB + 1, 0, none⟩ = some (.int .i64 (k : Int)) := cell_of hX5 0
        have x1 : w5.cell? ⟨LB + 1, 1, none⟩ = some (.slice (some ⟨LB, 0, none⟩) 1 1) := cell_of hX5 1
        have x2 : w5.cell? ⟨LB + 1, 2, none⟩ = some (.pointer none) := cell_of hX5 2
        have hb5 : b < w5.heap.size := Nat.lt_of_lt_of_le hbW h5.size
        have hT5u := Lib.hid (((HTu.out.fr hW1 (by simp) (by simp)).fr h5 (by simp; omega) (by simp; omega)))
        have hf5 : Fr [tb1, mb1, tb2, mb2] w4 w5 := (hfr.trans0 hW1).trans h5 (by simp)
        clear hT5
        go_wp2_with fail
        go_region_held3 (fun u => u.cell? ⟨b, off + k * 2, none⟩ = some (.int .i64 s.1) ∧ u.cell? ⟨b, off + k * 2 + 1, none⟩ = some (.int .i64 s.2) ∧ u.cell? ⟨LB + 1, 0, none⟩ = some (.int .i64 (k : Int)) ∧ u.cell? ⟨LB + 1, 1, none⟩ = some (.slice (some ⟨LB, 0, none⟩) 1 1) ∧ u.cell? ⟨LB + 1, 2, none⟩ = some (.pointer none))
          (((try dsimp only); first | exact ⟨c0, c1, x0, x1, x2⟩ | exact hSK))
          ((go_at_call 35; refine (set_Th tb2 mb2 s ⟨(k : Int), some ⟨LB, 0, none⟩, 1, 1, none⟩ lu _ (hT5u.out.fr ((Fr.refl [] w5).drew) (by simp) (by simp))).mono ?_; rw [hE2.out, (hS2 _).out]; rintro e w6 ⟨rfl, hT6, h6⟩; have h6 : Fr [tb2, mb2] w5 w6 := ((Fr.refl [tb2, mb2] w5).drew).transS h6; have hX6 := h6.heap hX5 nX6; have hSK : w6.cell? ⟨b, off + k * 2, none⟩ = some (.int .i64 s.1) ∧ w6.cell? ⟨b, off + k * 2 + 1, none⟩ = some (.int .i64 s.2) ∧ w6.cell? ⟨LB + 1, 0, none⟩ = some (.int .i64 (k : Int)) ∧ w6.cell? ⟨LB + 1, 1, none⟩ = some (.slice (some ⟨LB, 0, none⟩) 1 1) ∧ w6.cell? ⟨LB + 1, 2, none⟩ = some (.pointer none) := ⟨(h6.cell (p := ⟨b, off + k * 2, none⟩) hb5 nb6).trans c0, (h6.cell (p := ⟨b, off + k * 2 + 1, none⟩) hb5 nb6).trans c1, cell_of hX6 0, cell_of hX6 1, cell_of hX6 2⟩))
        have HT6 := Lib.hid hT6
        have HT6t := Lib.hid (HT5.out.fr h6 (by simp; omega) (by simp; omega))
        have hL6 := h6.heap hL5 nL6
        obtain ⟨c0, c1, x0, x1, x2⟩ := hSK
        have xf : w6.frozen? ⟨LB + 1, 0, none⟩ = false := free_of hX6 0
        have lf : w6.frozen? ⟨LB, 0, none⟩ = false := free_of hL6 0
        have l0 : w6.cell? ⟨LB, 0, none⟩ = some (.int .i64 (k : Int)) := cell_of hL6 0
        have hf6 : Fr [tb1, mb1, tb2, mb2] w4 w6 := hf5.trans h6 (by simp)
        have hb6 : b < w6.heap.size := Nat.lt_of_lt_of_le hb5 h6.size
        have hX6l := lt_of hX6
        clear hT6 HT5 hT5u hX5 hL5
        go_wp2_with fail
        have hF7 : Fr [LB + 1, LB] w6 ((w6.setCell ⟨LB + 1, 0, none⟩ (.int .i64 ((k : Int) + 1000))).setCell ⟨LB, 0, none⟩ (.int .i64 ((k : Int) + 2000))) := ((Fr.refl [LB + 1, LB] w6).setCell (p := ⟨LB + 1, 0, none⟩) (.inl (by simp)) _).setCell (p := ⟨LB, 0, none⟩) (.inl (by simp)) _
        have hX7 : ((w6.setCell ⟨LB + 1, 0, none⟩ (.int .i64 ((k : Int) + 1000))).setCell ⟨LB, 0, none⟩ (.int .i64 ((k : Int) + 2000))).heap[LB + 1]? = some (.cells #[.int .i64 ((k : Int) + 1000), .slice (some ⟨LB, 0, none⟩) 1 1, .pointer none] 78 (0, 0)) := (Below.heap_setCell _ ⟨LB, 0, none⟩ _ (LB + 1) (by simp)).trans (set_of hX6 0 _)
        have hL7 : ((w6.setCell ⟨LB + 1, 0, none⟩ (.int .i64 ((k : Int) + 1000))).setCell ⟨LB, 0, none⟩ (.int .i64 ((k : Int) + 2000))).heap[LB]? = some (.cells #[.int .i64 ((k : Int) + 2000)] 3 (0, 0)) := set_of ((Below.heap_setCell w6 ⟨LB + 1, 0, none⟩ _ LB (by simp)).trans hL6) 0 _
        have c0 : ((w6.setCell ⟨LB + 1, 0, none⟩ (.int .i64 ((k : Int) + 1000))).setCell ⟨LB, 0, none⟩ (.int .i64 ((k : Int) + 2000))).cell? ⟨b, off + k * 2, none⟩ = some (.int .i64 s.1) := (hF7.cell (p := ⟨b, off + k * 2, none⟩) hb6 (by simp; omega)).trans c0
        have c1 : ((w6.setCell ⟨LB + 1, 0, none⟩ (.int .i64 ((k : Int) + 1000))).setCell ⟨LB, 0, none⟩ (.int .i64 ((k : Int) + 2000))).cell? ⟨b, off + k * 2 + 1, none⟩ = some (.int .i64 s.2) := (hF7.cell (p := ⟨b, off + k * 2 + 1, none⟩) hb6 (by simp; omega)).trans c1
        have HT7t := Lib.hid (HT6t.out.fr hF7 (by simp; omega) (by simp; omega))
        have HT7u := Lib.hid (HT6.out.fr hF7 (by simp; omega) (by simp; omega))
        have HT7v := Lib.hid ((HT3.out.fr hf6 (by have := lt_of HT3.out.tab; simp; omega) (by simp; omega)).fr hF7 (by have := lt_of HT3.out.tab; simp; omega) (by have := HT3.out.map.lt; simp; omega))
        have hf7 : Fr [tb1, mb1, tb2, mb2] w4 ((w6.setCell ⟨LB + 1, 0, none⟩ (.int .i64 ((k : Int) + 1000))).setCell ⟨LB, 0, none⟩ (.int .i64 ((k : Int) + 2000))) := hf6.trans hF7 (by simp; omega)
        generalize (w6.setCell ⟨LB + 1, 0, none⟩ (.int .i64 ((k : Int) + 1000))).setCell ⟨LB, 0, none⟩ (.int .i64 ((k : Int) + 2000)) = W7 at *
        clear xf lf l0 x0 x1 x2 hX6 hL6 HT6 HT6t
        refine (get_Ptr tb1 mb1 s _ _ HT7t.out).mono ?_
        rw [show getS s (putS s (some (⟨LB + 1, 0, none⟩ : Addr)) lt) = some (some ⟨LB + 1, 0, none⟩) by rw [getS_put, if_pos rfl]]
        simp only [Option.getD_some, Option.isSome_some]
        rintro e w8 ⟨rfl, h8⟩
        have c0 := ce_call h8 c0
        have c1 := ce_call h8 c1
        go_wp2_with fail
        refine (get_Th tb2 mb2 s _ _ (HT7u.out.fr h8 (by simp) (by simp))).mono ?_
        rw [show getS s (putS s (⟨(k : Int), some ⟨LB, 0, none⟩, 1, 1, none⟩ : Th) lu) = some ⟨(k : Int), some ⟨LB, 0, none⟩, 1, 1, none⟩ by rw [getS_put, if_pos rfl]]
        simp only [Option.getD_some, Option.isSome_some]
        rintro e w9 ⟨rfl, h9⟩
        have c0 := ce_call h9 c0
        have c1 := ce_call h9 c1
        have hb7 : b < W7.heap.size := Nat.lt_of_lt_of_le hb6 hF7.size
        have hb9 : b < w9.heap.size := Nat.lt_of_lt_of_le (Nat.lt_of_lt_of_le hb7 h8.size) h9.size
        go_wp2_with fail
        have hW10 : Fr [] w9 (w9.alloc (.cells #[.int .i64 (k : Int), .slice (some ⟨LB, 0, none⟩) 1 1, .pointer none] 78)) := (Fr.refl [] w9).alloc _
        have hB12 := heap_new w9 (.cells #[.int .i64 (k : Int), .slice (some ⟨LB, 0, none⟩) 1 1, .pointer none] 78)
        refine (get_Th tb3 mb3 s [] _ (HT7v.out.fr ((h8.trans0 h9).trans0 hW10) (by simp) (by simp))).mono ?_
        rw [show getS s ([] : List (Sp × Th)) = none from rfl]
        simp only [Option.getD_none, Option.isSome_none, th0]
        rintro e w10 ⟨rfl, h10⟩
        have hF10 : Fr [] W7 w10 := ((h8.trans0 h9).trans0 hW10).trans0 h10
        have hX10 := hF10.heap hX7 (by simp)
        have hL10 := hF10.heap hL7 (by simp)
        have hB10 := h10.heap hB12 (by simp)
        have HT10t := Lib.hid (HT7t.out.fr hF10 (by simp) (by simp))
        have HT10u := Lib.hid (HT7u.out.fr hF10 (by simp) (by simp))
        have hf10 : Fr [tb1, mb1, tb2, mb2] w4 w10 := hf7.trans0 hF10
        clear hX7 hL7 hB12 HT7t HT7u HT7v c0 c1
        obtain ⟨YB, hYB⟩ : ∃ YB, w9.heap.size = YB := ⟨_, rfl⟩
        rw [hYB] at hB10 ⊢
        have x0 : w10.cell? ⟨LB + 1, 0, none⟩ = some (.int .i64 ((k : Int) + 1000)) := cell_of hX10 0
        have l0 : w10.cell? ⟨LB, 0, none⟩ = some (.int .i64 ((k : Int) + 2000)) := cell_of hL10 0
        have y0 : w10.cell? ⟨YB, 0, none⟩ = some (.int .i64 (k : Int)) := cell_of hB10 0
        have y1 : w10.cell? ⟨YB, 1, none⟩ = some (.slice (some ⟨LB, 0, none⟩) 1 1) := cell_of hB10 1
        have q0 := lt_of hX10
        have q1 := lt_of hL10
        have q2 := lt_of hB10
        go_wp2
        go_roundw
        case rel => exact ⟨k + 1, _, _, by go_num, by omega, by omega, putS_keys2 HK.out _ _ _, HMY.out.put HM.out _, Nat.le_trans (putS_le _ _ _) (by have := HL.out; omega), HT10t.out.fr ((Fr.refl [] w10).alloc _) (by simp) (by simp), HT10u.out.fr ((Fr.refl [] w10).alloc _) (by simp) (by simp), hf10.alloc _⟩
        case measure => simp [intOf]; omega
    · have hlt' : ¬ ((k : Int) < (ss.length : Int)) ∨ ((k : Int) < (ss.length : Int) ∧ ¬ ((k : Int) < 300)) := by omega
      have hll : lt.length = lu.length := by simpa using congrArg List.length HK.out
      have HLL := Lib.hid hll
      have HT3r := Lib.hid (HT3.out.fr hfr (by have := lt_of HT3.out.tab; simp; omega) (by have := HT3.out.map.lt; simp; omega))
      clear hlt hll
      rcases hlt' with hlt | ⟨hlt, hlt2⟩
      all_goals
        go_wp2_with fail
        refine (len_Ptr tb1 mb1 lt _ HTt.out).mono ?_
        rw [HLL.out]
        rintro e w5 ⟨rfl, h5⟩
        go_wp2_with fail
        refine (len_Th tb2 mb2 lu _ (HTu.out.fr h5 (by simp) (by simp))).mono ?_
        rintro e w6 ⟨rfl, h6⟩
        go_wp2_with fail
        refine (len_Th tb3 mb3 [] _ ((HT3r.out.fr h5 (by simp) (by simp)).fr h6 (by simp) (by simp))).mono ?_
        rintro e w7 ⟨rfl, h7⟩
        go_wp2
        go_ret
        exact ⟨rfl, ((hfw.trans0 h5).trans0 h6).trans0 h7⟩
end Go.Proofs.Ytldppdafgbipjaa
