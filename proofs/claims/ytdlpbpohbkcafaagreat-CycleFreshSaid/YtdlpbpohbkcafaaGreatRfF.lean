/-
  quadrilleref21.Graph: find, a binary search.
  quadrilleref21.byFirst: Len, Less, Swap.
  quadrilleref21.itself; sort.Ints.
  quadrilleref21.Graph: Len, Less, Swap, as sort.Sort meets them.
  quadrilleref21.byFirst as sort.Sort meets it.
-/
import Derived.Test.YtdlpbpohbkcafaaGreatCBookC
import Derived.Test.YtdlpbpohbkcafaaGreatSvG
import Derived.Deep.QuietTactic
import Derived.BigQuiet
import Derived.Test.YtdlpbpohbkcafaaGreatRfSw
namespace Go.Proofs.YtdlpbpohbkcafaaGreat
section
open Go.RowKit Go.Shelf Go.Sort Go.Proofs

abbrev tGr : TypeId := 80
theorem cmpR_neg (s t : Sp) : decide (cmpR s t < 0) = ltS s t := by
  unfold cmpR
  split
  · rename_i h
    rw [h]
    rfl
  · rename_i h
    rw [show ltS s t = false by simpa using h]
    split <;> rfl
theorem swoLtS : SWO ltS := by
  rw [← ltOf_cmpS]
  exact swoS
/-- The number of a place among places in row order. -/
def posI (l : List Sp) (s : Sp) : Int := if s ∈ l then (l.idxOf s : Int) else -1
theorem posI_at {l : List Sp} {s : Sp} {k : Nat} (hk : k < l.length) (hlo : ∀ (i : Nat) (hi : i < l.length), i < k → ltS l[i] s = true) (h : l[k] = s) : posI l s = (k : Int) := by
  have hm : s ∈ l := h ▸ List.getElem_mem hk
  unfold posI
  rw [if_pos hm]
  have h4 : s ∉ l.take k := fun hm => by
    obtain ⟨i, hi, he⟩ := List.getElem_of_mem hm
    have hi2 : i < k := by
      rw [List.length_take] at hi
      omega
    rw [List.getElem_take] at he
    have := hlo i (by omega) hi2
    rw [he, swoLtS.irrefl] at this
    cases this
  rw [idx_atS hk h4 h]
theorem posI_no {l : List Sp} {s : Sp} {k : Nat} (hso : l.Pairwise fun x y => ltS x y = true) (hlo : ∀ (i : Nat) (hi : i < l.length), i < k → ltS l[i] s = true) (hhi : ∀ (i : Nat) (hi : i < l.length), k ≤ i → ltS l[i] s = false) (h : ∀ (hk : k < l.length), l[k] ≠ s) : posI l s = -1 := by
  unfold posI
  rw [if_neg]
  intro hm
  obtain ⟨i, hi, he⟩ := List.getElem_of_mem hm
  rcases Nat.lt_trichotomy i k with hlt | heq | hgt
  · have := hlo i hi hlt
    rw [he, swoLtS.irrefl] at this
    cases this
  · subst heq
    exact h hi he
  · have h1 := List.pairwise_iff_getElem.1 hso k i (by omega) hi hgt
    rw [he] at h1
    rw [hhi k (by omega) (Nat.le_refl _)] at h1
    cases h1
theorem lo_step {l : List Sp} {s : Sp} {m : Nat} (hm : m < l.length) (hso : l.Pairwise fun x y => ltS x y = true) (h : ltS l[m] s = true) : ∀ (i : Nat) (hi : i < l.length), i < m + 1 → ltS l[i] s = true := by
  intro i hi him
  rcases Nat.lt_or_eq_of_le (Nat.le_of_lt_succ him) with hlt | rfl
  · exact swoLtS.trans _ _ _ (List.pairwise_iff_getElem.1 hso i m hi hm hlt) h
  · exact h
theorem hi_step {l : List Sp} {s : Sp} {m : Nat} (hm : m < l.length) (hso : l.Pairwise fun x y => ltS x y = true) (h : ltS l[m] s = false) : ∀ (i : Nat) (hi : i < l.length), m ≤ i → ltS l[i] s = false := by
  intro i hi him
  rcases Nat.lt_or_eq_of_le him with hlt | rfl
  · cases e : ltS l[i] s with
    | false => rfl
    | true =>
      have := swoLtS.trans _ _ _ (List.pairwise_iff_getElem.1 hso m i hm hi hlt) e
      rw [h] at this
      cases this
  · exact h

set_option maxHeartbeats 1600000 in
theorem rfFind (G : Nat) (av tv fv : Value) (l : List Sp) (s : Sp) (w : World) (hb : w.heap[G]? = some (.cells #[av, tv, fv] tGr (0, 0))) (hs : SpotsAt w av l) (hso : l.Pairwise fun x y => ltS x y = true) (hl : l.length ≤ 65536) :
    Calls Tryz.prog 53 #[.pointer (some ⟨G, 0, none⟩), spV s] w fun e w1 => e = .returned (.int .i64 (posI l s)) ∧ Fr [] w w1 := by
  obtain ⟨qa, ca, rfl, ha1, ha2⟩ := hs.form
  have HSO := Lib.hid hso
  have hG := lt_of hb
  have HS := Lib.hid hs
  have HBX := Lib.hid hb
  clear hs hb hso
  go_enter Tryz.func53, Tryz.ntmps53
  go_wp2_with fail
  have hW : Fr [] w (w.alloc (.cells #[.int .i64 s.1, .int .i64 s.2] 27)) := (Fr.refl [] w).alloc _
  have hB := heap_new w (.cells #[.int .i64 s.1, .int .i64 s.2] 27)
  have HWH := Lib.hid (hW.heap HBX.out (by simp))
  have HWS := Lib.hid (HS.out.fr0 hW)
  generalize w.alloc (.cells #[.int .i64 s.1, .int .i64 s.2] 27) = W at *
  obtain ⟨B, hBe⟩ : ∃ B, w.heap.size = B := ⟨_, rfl⟩
  rw [hBe] at hB ⊢
  have b0 := cell_of HWH.out 0
  go_region_held3 (fun u => u.cell? ⟨G, 0, none⟩ = some (.slice qa l.length ca)) (exact ce_drew b0) (fail)
  go_wp2_with fail
  go_loopw [5, 6] (fun x y wr => ∃ lo hi : Nat, x = .int .i64 (lo : Int) ∧ y = .int .i64 (hi : Int) ∧ lo ≤ hi ∧ hi ≤ l.length ∧ Hid (∀ (i : Nat) (hi : i < l.length), i < lo → ltS l[i] s = true) ∧ Hid (∀ (i : Nat) (h : i < l.length), hi ≤ i → ltS l[i] s = false) ∧ Fr [] W wr) (fun x y _ => (intOf y).toNat - (intOf x).toNat)
  case atStart => exact ⟨0, l.length, rfl, rfl, by omega, by omega, Lib.hid fun i _ h => by omega, Lib.hid fun i h h2 => by omega, (Fr.refl _ _).drew⟩
  case round =>
    obtain ⟨lo, hi, rfl, rfl, h1, h2, HLO, HHI, hf⟩ := hrel
    have hBr := hf.heap hB (by simp)
    have hGr := hf.heap HWH.out (by simp)
    have s0 : wr.cell? ⟨B, 0, none⟩ = some (.int .i64 s.1) := cell_of hBr 0
    have s1 : wr.cell? ⟨B, 1, none⟩ = some (.int .i64 s.2) := cell_of hBr 1
    have b0 : wr.cell? ⟨G, 0, none⟩ = some (.slice qa l.length ca) := cell_of hGr 0
    by_cases hlt : lo < hi
    · have hlt1 : (lo : Int) < (hi : Int) := by omega
      obtain ⟨m, hm, hm1, hm2⟩ : ∃ m : Nat, ((lo : Int) + (hi : Int)).tdiv 2 = (m : Int) ∧ lo ≤ m ∧ m < hi := ⟨(lo + hi) / 2, by rw [Int.tdiv_eq_ediv_of_nonneg (by omega)]; omega, by omega, by omega⟩
      have hml : m < l.length := by omega
      obtain ⟨b, off, _, e, hbl, c0, c1⟩ := spots_cell (HWS.out.fr0 hf) hml
      cases e
      have hm3 : (m : Int) < (l.length : Int) := by omega
      have HST := Lib.hid (fun e : ltS l[m] s = true => lo_step hml HSO.out e)
      have HSF := Lib.hid (fun e : ltS l[m] s = false => hi_step hml HSO.out e)
      have hcm := cmpR_neg l[m] s
      generalize l[m] = t at c0 c1 hcm HST HSF
      obtain ⟨q, hq⟩ : ∃ q, cmpR t s = q := ⟨_, rfl⟩
      rw [hq] at hcm
      have HM := Lib.hid hq
      have HCM := Lib.hid hcm
      clear hq hcm hBr hGr
      by_cases hlt2 : q < 0
      · have HST2 := Lib.hid (HST.out (by rw [← HCM.out]; simpa using hlt2))
        go_wp2_with fail
        go_region_held3 (fun u => u.cell? ⟨G, 0, none⟩ = some (.slice (some ⟨b, off, none⟩) l.length ca) ∧ u.cell? ⟨b, off + m * 2, none⟩ = some (.int .i64 t.1) ∧ u.cell? ⟨b, off + m * 2 + 1, none⟩ = some (.int .i64 t.2) ∧ u.cell? ⟨B, 0, none⟩ = some (.int .i64 s.1) ∧ u.cell? ⟨B, 1, none⟩ = some (.int .i64 s.2))
          (first | exact ⟨ce_drew b0, ce_drew c0, ce_drew c1, ce_drew s0, ce_drew s1⟩ | exact ⟨ce_call hA (ce_drew b0), ce_call hA (ce_drew c0), ce_call hA (ce_drew c1), ce_call hA (ce_drew s0), ce_call hA (ce_drew s1)⟩)
          ((go_at_call 75; refine (refCmp t s _).mono ?_; rw [HM.out]; rintro e wA ⟨rfl, hA⟩))
        have hfA : Fr [] W wA := hf.drew.transS hA
        go_wp2
        go_roundw
        case rel => exact ⟨m + 1, hi, by go_num, rfl, by omega, by omega, HST2, HHI, hfA⟩
        case measure => simp [intOf]; omega
      · have HSF2 := Lib.hid (HSF.out (by rw [← HCM.out]; simpa using hlt2))
        go_wp2_with fail
        go_region_held3 (fun u => u.cell? ⟨G, 0, none⟩ = some (.slice (some ⟨b, off, none⟩) l.length ca) ∧ u.cell? ⟨b, off + m * 2, none⟩ = some (.int .i64 t.1) ∧ u.cell? ⟨b, off + m * 2 + 1, none⟩ = some (.int .i64 t.2) ∧ u.cell? ⟨B, 0, none⟩ = some (.int .i64 s.1) ∧ u.cell? ⟨B, 1, none⟩ = some (.int .i64 s.2))
          (first | exact ⟨ce_drew b0, ce_drew c0, ce_drew c1, ce_drew s0, ce_drew s1⟩ | exact ⟨ce_call hA (ce_drew b0), ce_call hA (ce_drew c0), ce_call hA (ce_drew c1), ce_call hA (ce_drew s0), ce_call hA (ce_drew s1)⟩)
          ((go_at_call 75; refine (refCmp t s _).mono ?_; rw [HM.out]; rintro e wA ⟨rfl, hA⟩))
        have hfA : Fr [] W wA := hf.drew.transS hA
        go_wp2
        go_roundw
        case rel => exact ⟨lo, m, rfl, rfl, hm1, by omega, HLO, HSF2, hfA⟩
        case measure => simp [intOf]; omega
    · obtain rfl : lo = hi := by omega
      have hfd : Fr [] w wr.drew := (hW.trans0 hf).drew
      by_cases hl2 : lo < l.length
      · obtain ⟨b, off, _, e, hbl, c0, c1⟩ := spots_cell (HWS.out.fr0 hf) hl2
        cases e
        have hl3 : (lo : Int) < (l.length : Int) := by omega
        have HP := Lib.hid (fun e : l[lo] = s => posI_at hl2 HLO.out e)
        have HN := Lib.hid (fun e : l[lo] ≠ s => posI_no HSO.out HLO.out HHI.out (fun _ => e))
        have heq := eqlS l[lo] s
        generalize l[lo] = t at c0 c1 heq HP HN
        clear hBr hGr
        by_cases he : t = s
        · have HP2 := Lib.hid (HP.out he)
          have hne2 : ∀ w : World, (binOp .eql 27 (.agg #[.int .i64 t.1, .int .i64 t.2]) (.agg #[.int .i64 s.1, .int .i64 s.2])).run Tryz.prog w = .ok (.bool true) w := fun w => by rw [heq]; simp [he]
          clear heq he
          go_wp2_with fail
          go_region_held3 (fun u => u.cell? ⟨G, 0, none⟩ = some (.slice (some ⟨b, off, none⟩) l.length ca) ∧ u.cell? ⟨b, off + lo * 2, none⟩ = some (.int .i64 t.1) ∧ u.cell? ⟨b, off + lo * 2 + 1, none⟩ = some (.int .i64 t.2) ∧ u.cell? ⟨B, 0, none⟩ = some (.int .i64 s.1) ∧ u.cell? ⟨B, 1, none⟩ = some (.int .i64 s.2)) (exact ⟨ce_drew b0, ce_drew c0, ce_drew c1, ce_drew s0, ce_drew s1⟩) (fail)
          go_wp2
          go_ret
          refine ⟨?_, hfd⟩
          rw [HP2.out]
          rfl
        · have HN2 := Lib.hid (HN.out he)
          have hne2 : ∀ w : World, (binOp .eql 27 (.agg #[.int .i64 t.1, .int .i64 t.2]) (.agg #[.int .i64 s.1, .int .i64 s.2])).run Tryz.prog w = .ok (.bool false) w := fun w => by rw [heq]; simp [he]
          clear heq he
          go_wp2_with fail
          go_region_held3 (fun u => u.cell? ⟨G, 0, none⟩ = some (.slice (some ⟨b, off, none⟩) l.length ca) ∧ u.cell? ⟨b, off + lo * 2, none⟩ = some (.int .i64 t.1) ∧ u.cell? ⟨b, off + lo * 2 + 1, none⟩ = some (.int .i64 t.2) ∧ u.cell? ⟨B, 0, none⟩ = some (.int .i64 s.1) ∧ u.cell? ⟨B, 1, none⟩ = some (.int .i64 s.2)) (exact ⟨ce_drew b0, ce_drew c0, ce_drew c1, ce_drew s0, ce_drew s1⟩) (fail)
          go_wp2
          go_ret
          refine ⟨?_, hfd⟩
          rw [HN2.out]
          rfl
      · have hl3 : decide ((lo : Int) < (l.length : Int)) = false := decide_eq_false (by omega)
        have HN2 := Lib.hid (posI_no (s := s) HSO.out HLO.out HHI.out (fun hk => absurd hk hl2))
        clear hBr hGr
        go_wp2_with fail
        go_quiet (fail)
        go_wp2
        go_ret
        refine ⟨?_, (hW.trans0 hf).drewN _⟩
        rw [HN2.out]
        rfl
end
section
open Go.RowKit Go.Shelf Go.Sort Go.Proofs

theorem bfLen (v : Value) (q : Option Addr) (n c : Nat) (hv : v = .slice q n c) (w : World) : Calls Tryz.prog 144 #[v] w fun e w1 => e = .returned (.int .i64 (n : Int)) ∧ w1 = w := by
  subst hv
  go_enter Tryz.func144, Tryz.ntmps144
  go_wp2
  go_ret
  exact ⟨rfl, rfl⟩
theorem own_cellV {w : World} {B : Nat} {e0 : TypeId} {v : Value} {us : List Value} (h : w.ownsRow B e0 1 v us.length us) {i : Nat} (hi : i < us.length) : ∃ g c, v = .slice (some ⟨g, 0, none⟩) us.length c ∧ g < w.heap.size ∧ w.cell? ⟨g, i, none⟩ = some us[i] ∧ w.frozen? ⟨g, i, none⟩ = false := by
  obtain ⟨g, c, rfl, _, hl⟩ := h.form (by omega)
  refine ⟨g, c, rfl, hl, ?_, h.frozenAt i⟩
  rw [h.cellAt i (by omega)]
  exact List.getElem?_eq_getElem hi
theorem bfLess (v : Value) (B : Nat) (e0 : TypeId) (us : List Value) (i j : Nat) (xs ys : List Nat) (w : World) (h : w.ownsRow B e0 1 v us.length us) (hi : i < us.length) (hj : j < us.length) (hx : NumsAt w us[i] xs) (hy : NumsAt w us[j] ys) (hx0 : 0 < xs.length) (hy0 : 0 < ys.length) :
    Calls Tryz.prog 145 #[v, .int .i64 (i : Int), .int .i64 (j : Int)] w fun e w1 => e = .returned (.bool (decide (xs[0] < ys[0]))) ∧ Fr [] w w1 := by
  obtain ⟨g, c, rfl, hg, ci, _⟩ := own_cellV h hi
  obtain ⟨g', c', e, _, cj, _⟩ := own_cellV h hj
  cases e
  have hi1 : (i : Int) < (us.length : Int) := by omega
  have hj1 : (j : Int) < (us.length : Int) := by omega
  obtain ⟨bx, ox, cx, ex, _, kx⟩ := hx.cell hx0
  obtain ⟨by_, oy, cy, ey, _, ky⟩ := hy.cell hy0
  have k0 := kx 0 (.int .i64 (xs[0] : Int)) (by
    have := flat_get nC 1 (fun _ => rfl) xs 0 0 hx0 (by omega)
    simpa using this)
  have k1 := ky 0 (.int .i64 (ys[0] : Int)) (by
    have := flat_get nC 1 (fun _ => rfl) ys 0 0 hy0 (by omega)
    simpa using this)
  rw [ex] at ci
  rw [ey] at cj
  have hx1 : (0 : Int) < (xs.length : Int) := by omega
  have hy1 : (0 : Int) < (ys.length : Int) := by omega
  have HB : Hid (decide ((xs[0] : Int) < (ys[0] : Int)) = decide (xs[0] < ys[0])) := by show _ = _; simp
  simp only [Nat.add_zero] at k0 k1
  clear h hx hy kx ky ex ey
  generalize xs[0] = x at *
  generalize ys[0] = y at *
  generalize us.length = n at *
  generalize xs.length = nx at *
  generalize ys.length = ny at *
  go_enter Tryz.func145, Tryz.ntmps145
  go_wp2_with fail
  go_quiet (fail)
  go_wp2
  go_ret
  exact ⟨ret_bool (by first | exact HB.out | simp), (Fr.refl [] w).drewN _⟩
theorem bfSwap (v : Value) (B : Nat) (e0 : TypeId) (us : List Value) (i j : Nat) (w : World) (h : w.ownsRow B e0 1 v us.length us) (hi : i < us.length) (hj : j < us.length) (hone : ∀ u ∈ us, ∃ q n c, u = .slice q n c) :
    Calls Tryz.prog 146 #[v, .int .i64 (i : Int), .int .i64 (j : Int)] w fun e w1 => e = .returned (.tuple #[]) ∧ w1.ownsRow B e0 1 v us.length ((us.set i us[j]).set j us[i]) ∧ Fr v.ownBlock.toList w w1 := by
  obtain ⟨g, c, rfl, hg, ci, fi⟩ := own_cellV h hi
  obtain ⟨g', c', e, _, cj, fj⟩ := own_cellV h hj
  cases e
  obtain ⟨qi, ni, pi, ei⟩ := hone us[i] (List.getElem_mem hi)
  obtain ⟨qj, nj, pj, ej⟩ := hone us[j] (List.getElem_mem hj)
  have hi1 : (i : Int) < (us.length : Int) := by omega
  have hj1 : (j : Int) < (us.length : Int) := by omega
  obtain ⟨s1, _⟩ := h.stored i us[j]
  obtain ⟨s2, _⟩ := s1.stored j us[i]
  have HS := Lib.hid s2
  have HG : Hid (Fr [g] w ((w.setCell ⟨g, i, none⟩ us[j]).setCell ⟨g, j, none⟩ us[i])) := ((Fr.refl [g] w).setCell (.inl (by simp)) _).setCell (.inl (by simp)) _
  obtain ⟨z, hz⟩ : ∃ z, (w.setCell ⟨g, i, none⟩ us[j]).cell? ⟨g, j, none⟩ = some z := by
    rw [s1.cellAt j (by omega)]
    exact ⟨_, List.getElem?_eq_getElem (by rw [List.length_set]; omega)⟩
  have hzf := s1.frozenAt j
  rw [ei] at ci HS HG
  rw [ej] at cj HS HG hz hzf
  have HE := Lib.hid ei
  have HE2 := Lib.hid ej
  rw [ei, ej]
  clear h s1 s2 ei ej hone
  go_enter Tryz.func146, Tryz.ntmps146
  go_wp2_with fail
  go_region
  all_goals
    go_wp2
    go_end0
    exact ⟨rfl, owns_fr HS.out ((Fr.refl [] _).drew) (by simp), HG.out.drew⟩
end
section
open Go.RowKit Go.Shelf Go.Sort Go.Proofs

theorem rfItself (v : Value) (l : List Nat) (x : Nat) (w : World) (hl : NumsAt w v l) : Calls Tryz.prog 56 #[v, .int .i64 (x : Int)] w fun e w1 => e = .returned (.bool (decide (x ∈ l))) ∧ Fr [] w w1 := by
  obtain ⟨qa, ca, rfl, ha1, ha2⟩ := hl.form
  have HL := Lib.hid hl
  clear hl
  go_enter Tryz.func56, Tryz.ntmps56
  go_wp2_with fail
  go_loopw [5] (fun i wr => ∃ k : Nat, i = .int .i64 (k : Int) ∧ k ≤ l.length ∧ x ∉ l.take k ∧ Fr [] w wr) (fun i _ => l.length - (intOf i).toNat)
  case atStart => exact ⟨0, rfl, by omega, by simp, Fr.refl _ _⟩
  case round =>
    obtain ⟨k, rfl, hk, hx, hf⟩ := hrel
    have HX := Lib.hid hx
    clear hx
    by_cases hlt : k < l.length
    · obtain ⟨b, off, _, e, hb, hc⟩ := (HL.out.fr0 hf).cell (by omega)
      cases e
      have c0 := hc k (.int .i64 (l[k] : Int)) (by
        have := flat_get nC 1 (fun _ => rfl) l k 0 hlt (by omega)
        simpa using this)
      clear hc
      have hk1 : (k : Int) < (l.length : Int) := by omega
      have HT := Lib.hid (List.take_succ_eq_append_getElem hlt)
      have HM := Lib.hid (List.getElem_mem hlt)
      generalize l[k] = y at *
      by_cases he : y = x
      · subst he
        go_wp2
        go_ret
        exact ⟨by simp [HM.out], hf⟩
      · have he1 : ¬ (y : Int) = (x : Int) := by omega
        have HE := Lib.hid he
        clear he
        go_wp2
        go_roundw
        case rel =>
          refine ⟨k + 1, by go_num, by omega, ?_, hf⟩
          rw [HT.out, List.mem_append, List.mem_singleton]
          exact fun h => h.elim HX.out (fun h => HE.out h.symm)
        case measure => simp [intOf]; omega
    · obtain rfl : k = l.length := by omega
      have HN : Hid (x ∉ l) := fun hm => HX.out (by rw [List.take_length]; exact hm)
      go_wp2
      go_ret
      exact ⟨by simp [HN.out], hf⟩
/-- sort.Ints on a row of the call's own. -/
theorem intsC {B : Nat} {e0 : TypeId} {sv : Value} (l : List Nat) (w : World) (hll : l.length < 4611686018427387904) (h : w.ownsRow B e0 1 sv l.length (l.flatMap nC)) :
    Calls Tryz.prog 54 #[sv] w fun e w1 => e = .returned (.tuple #[]) ∧ w1.ownsRow B e0 1 sv l.length ((sortN l).flatMap nC) ∧ w.grownBy w1 sv.ownBlock := by
  obtain ⟨q, c, rfl, _, _⟩ := (own_sl h).form
  have H := Lib.hid h
  clear h
  go_enter Tryz.func54, Tryz.ntmps54
  go_wp2_with fail
  refine (sortI l _ hll H.out).mono ?_
  rintro e w1 ⟨rfl, hr, hg⟩
  have HR := Lib.hid hr
  have HG := Lib.hid hg
  clear hr hg
  go_wp2
  go_end0
  exact ⟨rfl, HR.out, HG.out⟩
end
section
open Go.RowKit Go.Shelf Go.Sort Go.Proofs

/-- The document's graph: its places stand as d. -/
structure GrV (G : Nat) (av tv fv : Value) (d : Array Sp) (w : World) : Prop where
  box : w.heap[G]? = some (.cells #[av, tv, fv] tGr (0, 0))
  row : w.ownsRow 0 tSp 2 av d.size (d.toList.flatMap spC)
theorem GrV.fr {G : Nat} {av tv fv : Value} {d : Array Sp} {w w1 : World} (h : GrV G av tv fv d w) {S : List Nat} (hf : Fr S w w1) (hS : ∀ b ∈ S, b ∉ G :: av.ownBlock.toList) : GrV G av tv fv d w1 :=
  ⟨hf.heap h.box (fun hm => hS G hm List.mem_cons_self), owns_fr h.row hf (fun k hk hm => hS k hm (List.mem_cons_of_mem _ (by rw [hk]; simp)))⟩
theorem bang_get {d : Array Sp} {i : Nat} (h : i < d.size) : d[i]! = d.toList[i]'(by simpa using h) := by
  rw [getElem!_pos d i h]
  simp
theorem grLen (G : Nat) (av tv fv : Value) (d : Array Sp) (w : World) (h : GrV G av tv fv d w) : Calls Tryz.prog 137 #[.pointer (some ⟨G, 0, none⟩)] w fun e w1 => e = .returned (.int .i64 (d.size : Int)) ∧ Fr [] w w1 := by
  obtain ⟨q, c, rfl, _, _⟩ := (own_sl h.row).form
  have b0 := cell_of h.box 0
  have hG := lt_of h.box
  clear h
  go_enter Tryz.func137, Tryz.ntmps137
  go_wp2
  go_ret
  exact ⟨rfl, Fr.refl _ _⟩
theorem grLess (G : Nat) (av tv fv : Value) (d : Array Sp) (w : World) (h : GrV G av tv fv d w) (i j : Nat) (hi : i < d.size) (hj : j < d.size) :
    Calls Tryz.prog 138 #[.pointer (some ⟨G, 0, none⟩), .int .i64 (i : Int), .int .i64 (j : Int)] w fun e w1 => e = .returned (.bool (ltS d[i]! d[j]!)) ∧ Fr [] w w1 := by
  have hs : SpotsAt w av d.toList := by
    have := own_sl h.row
    rw [← Array.length_toList] at this
    exact this
  obtain ⟨b, off, c, e, hb, c0, c1⟩ := spots_cell hs (k := i) (by simpa using hi)
  obtain ⟨_, _, _, e2, _, d0, d1⟩ := spots_cell hs (k := j) (by simpa using hj)
  rw [e] at e2
  cases e2
  subst e
  have b0 := cell_of h.box 0
  have hG := lt_of h.box
  rw [bang_get hi, bang_get hj]
  have hi1 : (i : Int) < (d.toList.length : Int) := by simp; omega
  have hj1 : (j : Int) < (d.toList.length : Int) := by simp; omega
  have hcm := cmpR_neg (d.toList[i]'(by simpa using hi)) (d.toList[j]'(by simpa using hj))
  generalize d.toList[i]'(by simpa using hi) = s at *
  generalize d.toList[j]'(by simpa using hj) = t at *
  generalize d.toList.length = n at *
  have HCM := Lib.hid hcm
  obtain ⟨m, hm⟩ : ∃ m, cmpR s t = m := ⟨_, rfl⟩
  rw [hm] at HCM
  have HM := Lib.hid hm
  clear h hs hcm hm hi hj
  go_enter Tryz.func138, Tryz.ntmps138
  go_wp2_with fail
  go_region_held3 (fun u => u.cell? ⟨G, 0, none⟩ = some (.slice (some ⟨b, off, none⟩) n c) ∧ u.cell? ⟨b, off + i * 2, none⟩ = some (.int .i64 s.1) ∧ u.cell? ⟨b, off + i * 2 + 1, none⟩ = some (.int .i64 s.2) ∧ u.cell? ⟨b, off + j * 2, none⟩ = some (.int .i64 t.1) ∧ u.cell? ⟨b, off + j * 2 + 1, none⟩ = some (.int .i64 t.2))
    (first | exact ⟨ce_drew b0, ce_drew c0, ce_drew c1, ce_drew d0, ce_drew d1⟩ | exact ⟨ce_call hA (ce_drew b0), ce_call hA (ce_drew c0), ce_call hA (ce_drew c1), ce_call hA (ce_drew d0), ce_call hA (ce_drew d1)⟩)
    ((go_at_call 75; refine (refCmp s t _).mono ?_; rw [HM.out]; rintro e wA ⟨rfl, hA⟩))
  have hf : Fr [] w wA := ((Fr.refl [] w).drew).transS hA
  go_wp2
  go_ret
  exact ⟨ret_bool HCM.out, hf⟩
theorem swp_list {d : Array Sp} {i j : Nat} (hi : i < d.size) (hj : j < d.size) : (swp d i j).toList = (d.toList.set i (d.toList[j]'(by simpa using hj))).set j (d.toList[i]'(by simpa using hi)) := by
  unfold swp
  rw [Array.toList_setIfInBounds, Array.toList_setIfInBounds, bang_get hi, bang_get hj]
set_option maxRecDepth 100000 in
set_option maxHeartbeats 3200000 in
theorem grSwap (G : Nat) (av tv fv : Value) (d : Array Sp) (w : World) (h : GrV G av tv fv d w) (i j : Nat) (hi : i < d.size) (hj : j < d.size) :
    Calls Tryz.prog 139 #[.pointer (some ⟨G, 0, none⟩), .int .i64 (i : Int), .int .i64 (j : Int)] w fun e w1 => e = .returned (.tuple #[]) ∧ GrV G av tv fv (swp d i j) w1 ∧ Fr (G :: av.ownBlock.toList) w w1 := by
  have hs : SpotsAt w av d.toList := by
    have := own_sl h.row
    rw [← Array.length_toList] at this
    exact this
  obtain ⟨b, c, rfl, _, hbl⟩ := h.row.form (by omega)
  obtain ⟨_, _, _, e, _, c0, c1⟩ := spots_cell hs (k := i) (by simpa using hi)
  cases e
  obtain ⟨_, _, _, e, _, d0, d1⟩ := spots_cell hs (k := j) (by simpa using hj)
  cases e
  simp only [Nat.zero_add] at c0 c1 d0 d1
  have hL := swp_list hi hj
  have hi1 : (i : Int) < (d.size : Int) := by omega
  have hj1 : (j : Int) < (d.size : Int) := by omega
  obtain ⟨s, hs1⟩ : ∃ s, d.toList[i]'(by simpa using hi) = s := ⟨_, rfl⟩
  obtain ⟨t, ht1⟩ : ∃ t, d.toList[j]'(by simpa using hj) = t := ⟨_, rfl⟩
  rw [hs1] at c0 c1 hL
  rw [ht1] at d0 d1 hL
  have hV0 : GrV G (.slice (some ⟨b, 0, none⟩) d.size c) tv fv d w.drew := h.fr ((Fr.refl [] w).drew) (by simp)
  obtain ⟨W0, hW0⟩ : ∃ W0, w.drew = W0 := ⟨_, rfl⟩
  have hF0 : Fr [b] w W0 := by
    rw [← hW0]
    exact (Fr.refl [b] w).drew
  rw [hW0] at hV0
  have b0 : W0.cell? ⟨G, 0, none⟩ = some (.slice (some ⟨b, 0, none⟩) d.size c) := cell_of hV0.box 0
  have c0 : W0.cell? ⟨b, i * 2, none⟩ = some (.int .i64 s.1) := by
    rw [← hW0]
    exact ce_drew c0
  have c1 : W0.cell? ⟨b, i * 2 + 1, none⟩ = some (.int .i64 s.2) := by
    rw [← hW0]
    exact ce_drew c1
  have d0 : W0.cell? ⟨b, j * 2, none⟩ = some (.int .i64 t.1) := by
    rw [← hW0]
    exact ce_drew d0
  have d1 : W0.cell? ⟨b, j * 2 + 1, none⟩ = some (.int .i64 t.2) := by
    rw [← hW0]
    exact ce_drew d1
  obtain ⟨s1, _⟩ := hV0.row.stored (i * 2) (.int .i64 t.1)
  obtain ⟨s2, _⟩ := s1.stored (i * 2 + 1) (.int .i64 t.2)
  rw [sp_set d.toList i (by simpa using hi) t] at s2
  have hF1 : Fr [b] w ((W0.setCell ⟨b, i * 2, none⟩ (.int .i64 t.1)).setCell ⟨b, i * 2 + 1, none⟩ (.int .i64 t.2)) := (hF0.setCell (.inl (by simp)) _).setCell (.inl (by simp)) _
  obtain ⟨W1, hW1⟩ : ∃ W1, (W0.setCell ⟨b, i * 2, none⟩ (.int .i64 t.1)).setCell ⟨b, i * 2 + 1, none⟩ (.int .i64 t.2) = W1 := ⟨_, rfl⟩
  rw [hW1] at s2 hF1
  have hs1 : SpotsAt W1 (.slice (some ⟨b, 0, none⟩) d.size c) (d.toList.set i t) := by
    have := own_sl s2
    rw [show d.size = (d.toList.set i t).length by simp] at this ⊢
    exact this
  obtain ⟨_, _, _, e, _, e0, e1⟩ := spots_cell hs1 (k := j) (by simpa using hj)
  rw [List.length_set] at e
  cases e
  simp only [Nat.zero_add] at e0 e1
  obtain ⟨s3, _⟩ := s2.stored (j * 2) (.int .i64 s.1)
  obtain ⟨s4, _⟩ := s3.stored (j * 2 + 1) (.int .i64 s.2)
  rw [sp_set (d.toList.set i t) j (by simpa using hj) s, ← hL] at s4
  have hF2 : Fr [b] w ((W1.setCell ⟨b, j * 2, none⟩ (.int .i64 s.1)).setCell ⟨b, j * 2 + 1, none⟩ (.int .i64 s.2)) := (hF1.setCell (.inl (by simp)) _).setCell (.inl (by simp)) _
  obtain ⟨W2, hW2⟩ : ∃ W2, (W1.setCell ⟨b, j * 2, none⟩ (.int .i64 s.1)).setCell ⟨b, j * 2 + 1, none⟩ (.int .i64 s.2) = W2 := ⟨_, rfl⟩
  rw [hW2] at s4 hF2
  have hbx := hF2.heap h.box (fun hm => own_box h.row h.box (by decide) b rfl (List.mem_singleton.1 hm).symm)
  have f0 := hV0.row.frozenAt (i * 2)
  have f1 := hV0.row.frozenAt (i * 2 + 1)
  have g0 := s2.frozenAt (j * 2)
  have g1 := s2.frozenAt (j * 2 + 1)
  go_enter Tryz.func139, Tryz.ntmps139
  refine grSwapR G b d.size c i j s t w W0 W1 W2 (Lib.hid hW0) (Lib.hid hW1) (Lib.hid hW2) b0 c0 c1 d0 d1 f0 f1 e0 e1 g0 g1 hi1 hj1 _ ?_
  intros
  go_end0
  refine ⟨rfl, ⟨hbx, ?_⟩, hF2.mono (T := G :: [b]) (fun x hx => .inl (by simp at hx; simp [hx]))⟩
  rw [size_swp]
  exact s4
theorem grSv (G : Nat) (av tv fv : Value) (N : Nat) : SvM (α := Sp) 75 (.pointer (some ⟨G, 0, none⟩)) 138 139 ltS N (G :: av.ownBlock.toList) (GrV G av tv fv) where
  mL := fun w => by kernel_rfl
  mS := fun w => by kernel_rfl
  eL := enters_of Tryz.func138 (by kernel_rfl) rfl
  eS := enters_of Tryz.func139 (by kernel_rfl) rfl
  st := fun d w w1 S hV hf hS => hV.fr hf hS
  xlt := fun d w hV b hb => by
    rcases List.mem_cons.1 hb with rfl | hb
    · exact lt_of hV.box
    · exact (hV.row.lt b (by simpa using hb)).2
  less := fun d w hd hV i j hi hj => grLess G av tv fv d w hV i j (by omega) (by omega)
  swap := fun d w hd hV i j hi hj => grSwap G av tv fv d w hV i j (by omega) (by omega)
/-- What sort.Sort leaves of the document's graph. -/
def GrSorted (G : Nat) (av tv fv : Value) (l : List Sp) (w : World) (e : Ending) (w1 : World) : Prop := e = .returned (.tuple #[]) ∧ w1.heap[G]? = some (.cells #[av, tv, fv] tGr (0, 0)) ∧ w1.ownsRow 0 tSp 2 av l.length ((sortS l).flatMap spC) ∧ Fr (G :: av.ownBlock.toList) w w1
theorem grSort (G : Nat) (av tv fv : Value) (l : List Sp) (w : World) (hb : w.heap[G]? = some (.cells #[av, tv, fv] tGr (0, 0))) (hr : w.ownsRow 0 tSp 2 av l.length (l.flatMap spC)) (hl : l.length ≤ 65536) :
    Calls Tryz.prog 52 #[.iface 75 (.pointer (some ⟨G, 0, none⟩))] w (GrSorted G av tv fv l w) := by
  have hV : GrV G av tv fv l.toArray w := ⟨hb, by simpa using hr⟩
  refine (svSort (grSv G av tv fv l.length) swoLtS (by omega) 137 (fun w => by kernel_rfl) (enters_of Tryz.func137 (by kernel_rfl) rfl) l.toArray w (by simp) hV (by have := grLen G av tv fv l.toArray w hV; simpa using this)).mono ?_
  rintro e w1 ⟨rfl, ⟨d', hp, hs, hV'⟩, hf⟩
  have hs2 := sorted_unique_holds (lt := ltS) swoLtS totS l.toArray d' (by simpa using hp) (by simpa using hs)
  have h1 : d'.toList = sortS l := by
    rw [hs2]
    rfl
  have h2 : d'.size = l.length := by
    have := hp.1
    simpa using this
  refine ⟨rfl, hV'.box, ?_, hf⟩
  have := hV'.row
  rw [h1, h2] at this
  exact this
end
section
open Go.RowKit Go.Shelf Go.Sort Go.Proofs

def ltF (p q : Value × List Nat) : Bool := decide (p.2.getD 0 0 < q.2.getD 0 0)
/-- The rings stand as d: the outer row holds their slices, each slice its numbers. -/
structure BfV (B : Nat) (e0 : TypeId) (v : Value) (X : List Nat) (d : Array (Value × List Nat)) (w : World) : Prop where
  row : w.ownsRow B e0 1 v d.size (d.toList.map Prod.fst)
  inn : ∀ p ∈ d.toList, NumsAt w p.1 p.2 ∧ 0 < p.2.length ∧ ∀ b off n c, p.1 = .slice (some ⟨b, off, none⟩) n c → b ∈ X ∧ v.ownBlock ≠ some b
  xs : ∀ b ∈ X, b < w.heap.size
  vx : ∀ k, v.ownBlock = some k → k ∈ X
theorem BfV.fr {B : Nat} {e0 : TypeId} {v : Value} {X : List Nat} {d : Array (Value × List Nat)} {w w1 : World} (h : BfV B e0 v X d w) {S : List Nat} (hf : Fr S w w1) (hS : ∀ b ∈ S, b ∉ X) : BfV B e0 v X d w1 :=
  ⟨owns_fr h.row hf (fun k hk hm => hS k hm (h.vx k hk)), fun p hp => ⟨(h.inn p hp).1.fr hf (fun b _ _ e hm => hS b hm ((h.inn p hp).2.2 _ _ _ _ e).1), (h.inn p hp).2⟩, fun b hb => Nat.lt_of_lt_of_le (h.xs b hb) hf.size, h.vx⟩
theorem bang_list {α : Type} [Inhabited α] {d : Array α} {i : Nat} (h : i < d.size) : d[i]! = d.toList[i]'(by simpa using h) := by
  rw [getElem!_pos d i h]
  simp
theorem swp_listA {α : Type} [Inhabited α] {d : Array α} {i j : Nat} (hi : i < d.size) (hj : j < d.size) : (swp d i j).toList = (d.toList.set i (d.toList[j]'(by simpa using hj))).set j (d.toList[i]'(by simpa using hi)) := by
  unfold swp
  rw [Array.toList_setIfInBounds, Array.toList_setIfInBounds, bang_list hi, bang_list hj]
theorem getD0 {l : List Nat} (h : 0 < l.length) : l.getD 0 0 = l[0] := by
  rw [List.getD_eq_getElem?_getD, List.getElem?_eq_getElem h]
  rfl
theorem bfSv (B : Nat) (e0 : TypeId) (q : Option Addr) (c N : Nat) (X : List Nat) : SvM (α := Value × List Nat) 107 (.slice q N c) 145 146 ltF N X (BfV B e0 (.slice q N c) X) where
  mL := fun w => by kernel_rfl
  mS := fun w => by kernel_rfl
  eL := enters_of Tryz.func145 (by kernel_rfl) rfl
  eS := enters_of Tryz.func146 (by kernel_rfl) rfl
  st := fun d w w1 S hV hf hS => hV.fr hf hS
  xlt := fun d w hV b hb => hV.xs b hb
  less := fun d w hd hV i j hi hj => by
    have hr := hV.row
    rw [show d.size = (d.toList.map Prod.fst).length by simp] at hr
    have hi2 : i < d.toList.length := by simp; omega
    have hj2 : j < d.toList.length := by simp; omega
    have a := hV.inn _ (List.getElem_mem hi2)
    have b := hV.inn _ (List.getElem_mem hj2)
    have := bfLess (.slice q N c) B e0 _ i j d.toList[i].2 d.toList[j].2 w hr (by simpa using hi2) (by simpa using hj2) (by simpa using a.1) (by simpa using b.1) a.2.1 b.2.1
    rw [bang_list (by omega), bang_list (by omega)]
    unfold ltF
    rw [getD0 a.2.1, getD0 b.2.1]
    exact this
  swap := fun d w hd hV i j hi hj => by
    have hr := hV.row
    rw [show d.size = (d.toList.map Prod.fst).length by simp] at hr
    have hi2 : i < d.toList.length := by simp; omega
    have hj2 : j < d.toList.length := by simp; omega
    refine (bfSwap (.slice q N c) B e0 _ i j w hr (by simpa using hi2) (by simpa using hj2) (fun u hu => by
      obtain ⟨p, hp, rfl⟩ := List.mem_map.1 hu
      obtain ⟨q', c', e, _, _⟩ := (hV.inn p hp).1.form
      exact ⟨q', _, c', e⟩)).mono ?_
    rintro e w1 ⟨rfl, hr1, hf1⟩
    have hL := swp_listA (d := d) (i := i) (j := j) (by omega) (by omega)
    refine ⟨rfl, ⟨?_, fun p hp => ?_, fun b hb => Nat.lt_of_lt_of_le (hV.xs b hb) hf1.size, hV.vx⟩, hf1.mono (fun x hx => .inl (hV.vx x (by simpa using hx)))⟩
    · rw [hL, size_swp, List.map_set, List.map_set]
      have h2 := hr1
      simp only [List.length_map, Array.length_toList, List.getElem_map] at h2
      exact h2
    · have hp2 : p ∈ d.toList := by
        rw [hL] at hp
        rcases List.mem_or_eq_of_mem_set hp with hp | rfl
        · rcases List.mem_or_eq_of_mem_set hp with hp | rfl
          · exact hp
          · exact List.getElem_mem hj2
        · exact List.getElem_mem hi2
      exact ⟨(hV.inn p hp2).1.fr hf1 (fun _ _ _ e hm => ((hV.inn p hp2).2.2 _ _ _ _ e).2 (by simpa using hm)), (hV.inn p hp2).2⟩
end
end Go.Proofs.YtdlpbpohbkcafaaGreat
