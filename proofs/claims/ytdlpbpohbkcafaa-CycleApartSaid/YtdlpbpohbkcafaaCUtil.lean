/-
  quadrillelaw21: Eq, find; quadrilleref2: May, Compare.
-/
import Derived.Test.YtdlpbpohbkcafaaCMade
namespace Go.Proofs.Ytdlpbpohbkcafaa
open Go.RowKit Go.Shelf Go.Sort Go.Proofs

theorem eqlS (t s : Sp) (w : World) : (binOp .eql 33 (.agg #[.int .i64 t.1, .int .i64 t.2]) (.agg #[.int .i64 s.1, .int .i64 s.2])).run Try.prog w = .ok (.bool (t == s)) w := by
  have := run_eqSpot t s w
  simp [binOp, go_sem, this]
theorem neqS (t s : Sp) (w : World) : (binOp .neq 33 (.agg #[.int .i64 t.1, .int .i64 t.2]) (.agg #[.int .i64 s.1, .int .i64 s.2])).run Try.prog w = .ok (.bool (!(t == s))) w := by
  have := run_eqSpot t s w
  simp [binOp, go_sem, this]
set_option maxHeartbeats 400000 in
theorem refMay (s : Sp) (w : World) : Calls Try.prog 27 #[spV s] w fun e w1 => e = .returned (.bool (mayS s.1 s.2)) ∧ Fr [] w w1 := by
  obtain ⟨r, c⟩ := s
  generalize hm : mayS r c = m
  go_enter Try.func27, Try.ntmps27
  have hd : m = decide (0 ≤ r ∧ r < 65536 ∧ 0 ≤ c ∧ c < 702) := hm.symm
  by_cases h1 : 0 ≤ r
  · by_cases h2 : r < 65536
    · by_cases h3 : 0 ≤ c
      · by_cases h4 : c < 702
        · obtain rfl : m = true := by rw [hd]; simp; omega
          clear hd hm
          go_wp2
          go_ret
          exact ⟨rfl, (Fr.refl [] w).alloc _⟩
        · obtain rfl : m = false := by rw [hd]; simp; omega
          have h4' : decide (c < 702) = false := decide_eq_false h4
          clear hd hm
          go_wp2
          go_ret
          exact ⟨rfl, (Fr.refl [] w).alloc _⟩
      · obtain rfl : m = false := by rw [hd]; simp; omega
        have h3' : decide (0 ≤ c) = false := decide_eq_false h3
        clear hd hm
        go_wp2
        go_ret
        exact ⟨rfl, (Fr.refl [] w).alloc _⟩
    · obtain rfl : m = false := by rw [hd]; simp; omega
      have h2' : decide (r < 65536) = false := decide_eq_false h2
      clear hd hm
      go_wp2
      go_ret
      exact ⟨rfl, (Fr.refl [] w).alloc _⟩
  · obtain rfl : m = false := by rw [hd]; simp; omega
    have h1' : decide (0 ≤ r) = false := decide_eq_false h1
    clear hd hm
    go_wp2
    go_ret
    exact ⟨rfl, (Fr.refl [] w).alloc _⟩
/-- How two places stand. -/
def cmpR (s t : Sp) : Int := if ltS s t then -1 else if s = t then 0 else 1
set_option maxHeartbeats 400000 in
theorem refCmp (s t : Sp) (w : World) : Calls Try.prog 11 #[spV s, spV t] w fun e w1 => e = .returned (.int .i64 (cmpR s t)) ∧ Fr [] w w1 := by
  generalize hm : cmpR s t = m
  have heq := eqlS s t
  have hbe : (s == t) = decide (s.1 = t.1 ∧ s.2 = t.2) := by
    rw [Bool.eq_iff_iff]
    simp [Prod.ext_iff]
  rw [hbe] at heq
  have hd : m = if s.1 < t.1 ∨ (s.1 = t.1 ∧ s.2 < t.2) then -1 else if s.1 = t.1 ∧ s.2 = t.2 then 0 else 1 := by
    rw [← hm]
    unfold cmpR ltS
    simp only [decide_eq_true_eq, Prod.ext_iff]
  clear hm hbe
  obtain ⟨a, b⟩ := s
  obtain ⟨c, d⟩ := t
  simp only at hd heq
  go_enter Try.func11, Try.ntmps11
  rcases Int.lt_trichotomy a c with h1 | h1 | h1
  · obtain rfl : m = -1 := by rw [hd, if_pos (.inl h1)]
    clear hd heq
    go_wp2
    go_ret
    exact ⟨rfl, ((Fr.refl [] w).alloc _).alloc _⟩
  · subst h1
    have h1' : decide (a < a) = false := by simp
    rcases Int.lt_trichotomy b d with h2 | h2 | h2
    · obtain rfl : m = -1 := by rw [hd, if_pos (.inr ⟨rfl, h2⟩)]
      clear hd heq
      go_wp2
      go_ret
      exact ⟨rfl, ((Fr.refl [] w).alloc _).alloc _⟩
    · subst h2
      obtain rfl : m = 0 := by rw [hd, if_neg (by omega), if_pos ⟨rfl, rfl⟩]
      have h2' : decide (b < b) = false := by simp
      have heq2 : ∀ w : World, (binOp .eql 33 (.agg #[.int .i64 a, .int .i64 b]) (.agg #[.int .i64 a, .int .i64 b])).run Try.prog w = .ok (.bool true) w := fun w => by rw [heq]; simp
      clear hd heq
      go_wp2
      go_ret
      exact ⟨rfl, ((Fr.refl [] w).alloc _).alloc _⟩
    · obtain rfl : m = 1 := by rw [hd, if_neg (by omega), if_neg (by omega)]
      have h2' : decide (b < d) = false := decide_eq_false (by omega)
      have hne : ¬ (b = d) := by omega
      have heq2 : ∀ w : World, (binOp .eql 33 (.agg #[.int .i64 a, .int .i64 b]) (.agg #[.int .i64 a, .int .i64 d])).run Try.prog w = .ok (.bool false) w := fun w => by rw [heq]; simp [hne]
      clear hd heq hne
      go_wp2
      go_ret
      exact ⟨rfl, ((Fr.refl [] w).alloc _).alloc _⟩
  · obtain rfl : m = 1 := by rw [hd, if_neg (by omega), if_neg (by omega)]
    have h1' : decide (a < c) = false := decide_eq_false (by omega)
    have hne : ¬ (a = c) := by omega
    have h3 : (a == c) = false := by rw [beq_eq_false_iff_ne]; exact hne
    have heq2 : ∀ w : World, (binOp .eql 33 (.agg #[.int .i64 a, .int .i64 b]) (.agg #[.int .i64 c, .int .i64 d])).run Try.prog w = .ok (.bool false) w := fun w => by rw [heq]; simp [hne]
    clear hd heq hne
    go_wp2
    go_ret
    exact ⟨rfl, ((Fr.refl [] w).alloc _).alloc _⟩
/-- The same places in the same order? -/
theorem eqC (va vb : Value) (la lb : List Sp) (w : World) (ha : SpotsAt w va la) (hb : SpotsAt w vb lb) : Calls Try.prog 19 #[va, vb] w fun e w1 => e = .returned (.bool (decide (la = lb))) ∧ Fr [] w w1 := by
  obtain ⟨qa, ca, rfl, ha1, ha2⟩ := ha.form
  obtain ⟨qb, cb, rfl, hb1, hb2⟩ := hb.form
  have HA := Lib.hid ha
  have HB := Lib.hid hb
  clear ha hb
  by_cases hl : la.length = lb.length
  · have hl2 : (la.length : Int) = (lb.length : Int) := by omega
    have hb3 : ((la.length : Int) != (lb.length : Int)) = false := by simp [hl]
    have HL := Lib.hid hl
    clear hl hl2
    go_enter Try.func19, Try.ntmps19
    go_wp2_with fail
    go_loopw [5] (fun i wr => ∃ k : Nat, i = .int .i64 (k : Int) ∧ k ≤ la.length ∧ la.take k = lb.take k ∧ Fr [] w wr) (fun i _ => la.length - (intOf i).toNat)
    case atStart => exact ⟨0, rfl, by omega, by simp, Fr.refl _ _⟩
    case round =>
      obtain ⟨k, rfl, hk, ht, hf⟩ := hrel
      have HT := Lib.hid ht
      clear ht
      by_cases hlt : k < la.length
      · have hltb : k < lb.length := by rw [← HL.out]; exact hlt
        obtain ⟨b1, o1, _, e1, hbl1, c0, c1⟩ := spots_cell (HA.out.fr0 hf) hlt
        cases e1
        obtain ⟨b2, o2, _, e2, hbl2, d0, d1⟩ := spots_cell (HB.out.fr0 hf) hltb
        cases e2
        have hk1 : (k : Int) < (la.length : Int) := by omega
        have hk2 : (k : Int) < (lb.length : Int) := by omega
        have HS1 := Lib.hid (List.take_succ_eq_append_getElem hlt)
        have HS2 := Lib.hid (List.take_succ_eq_append_getElem hltb)
        have HM : Hid (la = lb → la[k] = lb[k]) := fun e => by subst e; rfl
        have hne := neqS la[k] lb[k]
        generalize la[k] = x at *
        generalize lb[k] = y at *
        clear hlt hltb
        by_cases hxy : x = y
        · subst hxy
          have hne2 : ∀ w : World, (binOp .neq 33 (.agg #[.int .i64 x.1, .int .i64 x.2]) (.agg #[.int .i64 x.1, .int .i64 x.2])).run Try.prog w = .ok (.bool false) w := fun w => by rw [hne]; simp
          clear hne
          go_wp2_with fail
          go_region_held3 (fun u => u.cell? ⟨b1, o1 + k * 2, none⟩ = some (.int .i64 x.1) ∧ u.cell? ⟨b1, o1 + k * 2 + 1, none⟩ = some (.int .i64 x.2) ∧ u.cell? ⟨b2, o2 + k * 2, none⟩ = some (.int .i64 x.1) ∧ u.cell? ⟨b2, o2 + k * 2 + 1, none⟩ = some (.int .i64 x.2)) (exact ⟨ce_drew c0, ce_drew c1, ce_drew d0, ce_drew d1⟩) (fail)
          go_wp2
          go_roundw
          case rel => exact ⟨k + 1, by go_num, by omega, by rw [HS1.out, HS2.out, HT.out], hf.drew⟩
          case measure => simp [intOf]; omega
        · have hne2 : ∀ w : World, (binOp .neq 33 (.agg #[.int .i64 x.1, .int .i64 x.2]) (.agg #[.int .i64 y.1, .int .i64 y.2])).run Try.prog w = .ok (.bool true) w := fun w => by rw [hne]; simp [hxy]
          have HX := Lib.hid hxy
          clear hne hxy
          go_wp2_with fail
          go_region_held3 (fun u => u.cell? ⟨b1, o1 + k * 2, none⟩ = some (.int .i64 x.1) ∧ u.cell? ⟨b1, o1 + k * 2 + 1, none⟩ = some (.int .i64 x.2) ∧ u.cell? ⟨b2, o2 + k * 2, none⟩ = some (.int .i64 y.1) ∧ u.cell? ⟨b2, o2 + k * 2 + 1, none⟩ = some (.int .i64 y.2)) (exact ⟨ce_drew c0, ce_drew c1, ce_drew d0, ce_drew d1⟩) (fail)
          go_wp2
          go_ret
          exact ⟨ret_bool (decide_eq_false fun e => HX.out (HM.out e)).symm, hf.drew⟩
      · obtain rfl : k = la.length := by omega
        have HE : Hid (la = lb) := by
          have := HT.out
          rw [List.take_length, HL.out, List.take_length] at this
          exact this
        go_wp2
        go_ret
        exact ⟨ret_bool (decide_eq_true HE.out).symm, hf⟩
  · have hne : ¬ (la.length : Int) = (lb.length : Int) := by omega
    have hb3 : ((la.length : Int) != (lb.length : Int)) = true := by rw [bne_iff_ne]; exact hne
    have HL : Hid (¬ la = lb) := fun e => hl (by rw [e])
    clear hl
    go_enter Try.func19, Try.ntmps19
    go_wp2
    go_ret
    exact ⟨ret_bool (decide_eq_false HL.out).symm, Fr.refl _ _⟩
abbrev NRow (w : World) (v : Value) (ns : List Nd) : Prop := SlAt w v 3 ns.length (ns.flatMap ndC)
theorem nrow_cell {w : World} {v : Value} {ns : List Nd} (h : NRow w v ns) {k : Nat} (hk : k < ns.length) : ∃ b off c, v = .slice (some ⟨b, off, none⟩) ns.length c ∧ b < w.heap.size ∧
    w.cell? ⟨b, off + k * 3, none⟩ = some (.int .i64 ns[k].at_.1) ∧ w.cell? ⟨b, off + k * 3 + 1, none⟩ = some (.int .i64 ns[k].at_.2) ∧ w.cell? ⟨b, off + k * 3 + 2, none⟩ = some (.slice ns[k].na ns[k].next.length ns[k].nc) := by
  obtain ⟨b, off, c, e, hb, hc⟩ := h.cell (by omega)
  refine ⟨b, off, c, e, hb, hc (k * 3 + 0) _ (by rw [flat_get ndC 3 (fun _ => rfl) ns k 0 hk (by omega)]; rfl), ?_, ?_⟩
  · rw [Nat.add_assoc]
    exact hc (k * 3 + 1) _ (by rw [flat_get ndC 3 (fun _ => rfl) ns k 1 hk (by omega)]; rfl)
  · rw [Nat.add_assoc]
    exact hc (k * 3 + 2) _ (by rw [flat_get ndC 3 (fun _ => rfl) ns k 2 hk (by omega)]; rfl)
/-- The number of a place's node. -/
def findI (l : List Sp) (s : Sp) : Int := if s ∈ l then (l.idxOf s : Int) else -1
theorem findC (v : Value) (ns : List Nd) (s : Sp) (w : World) (hv : NRow w v ns) : Calls Try.prog 12 #[v, spV s] w fun e w1 => e = .returned (.int .i64 (findI (atsN ns) s)) ∧ Fr [] w w1 := by
  obtain ⟨qa, ca, rfl, ha1, ha2⟩ := hv.form
  have HA := Lib.hid hv
  have hal : (atsN ns).length = ns.length := by simp [atsN]
  have HAL := Lib.hid hal
  clear hv hal
  go_enter Try.func12, Try.ntmps12
  go_wp2_with fail
  have hW : Fr [] w (w.alloc (.cells #[.int .i64 s.1, .int .i64 s.2] 33)) := (Fr.refl [] w).alloc _
  have hB := heap_new w (.cells #[.int .i64 s.1, .int .i64 s.2] 33)
  have HWH := Lib.hid (HA.out.fr0 hW)
  generalize w.alloc (.cells #[.int .i64 s.1, .int .i64 s.2] 33) = W at *
  obtain ⟨B, hBe⟩ : ∃ B, w.heap.size = B := ⟨_, rfl⟩
  rw [hBe] at hB ⊢
  go_loopw [5] (fun i wr => ∃ k : Nat, i = .int .i64 (k : Int) ∧ k ≤ ns.length ∧ s ∉ (atsN ns).take k ∧ Fr [] W wr) (fun i _ => ns.length - (intOf i).toNat)
  case atStart => exact ⟨0, rfl, by omega, by simp, Fr.refl _ _⟩
  case round =>
    obtain ⟨k, rfl, hk, hx, hf⟩ := hrel
    have HX := Lib.hid hx
    clear hx
    by_cases hlt : k < ns.length
    · obtain ⟨b, off, _, e, hb, c0, c1, _⟩ := nrow_cell (HWH.out.fr0 hf) hlt
      cases e
      have hk1 : (k : Int) < (ns.length : Int) := by omega
      have hlt2 : k < (atsN ns).length := by rw [HAL.out]; exact hlt
      have hBr := hf.heap hB (by simp)
      have b0 : wr.cell? ⟨B, 0, none⟩ = some (.int .i64 s.1) := cell_of hBr 0
      have b1 : wr.cell? ⟨B, 1, none⟩ = some (.int .i64 s.2) := cell_of hBr 1
      have HT := Lib.hid (List.take_succ_eq_append_getElem hlt2)
      have hge : (atsN ns)[k] = ns[k].at_ := by simp [atsN]
      have HM := Lib.hid (List.getElem_mem hlt2)
      rw [hge] at HT HM
      have HI : Hid (ns[k].at_ = s → (atsN ns).idxOf s = k) := fun e => idx_atS hlt2 HX.out (hge.trans e)
      have heq := eqlS ns[k].at_ s
      clear hge hlt2
      generalize ns[k].at_ = t at *
      by_cases he : t = s
      · subst he
        have hne2 : ∀ w : World, (binOp .eql 33 (.agg #[.int .i64 t.1, .int .i64 t.2]) (.agg #[.int .i64 t.1, .int .i64 t.2])).run Try.prog w = .ok (.bool true) w := fun w => by rw [heq]; simp
        have HII := Lib.hid (HI.out rfl)
        clear heq
        go_wp2_with fail
        go_region_held3 (fun u => u.cell? ⟨b, off + k * 3, none⟩ = some (.int .i64 t.1) ∧ u.cell? ⟨b, off + k * 3 + 1, none⟩ = some (.int .i64 t.2) ∧ u.cell? ⟨B, 0, none⟩ = some (.int .i64 t.1) ∧ u.cell? ⟨B, 1, none⟩ = some (.int .i64 t.2)) (exact ⟨ce_drew c0, ce_drew c1, ce_drew b0, ce_drew b1⟩) (fail)
        go_wp2
        go_ret
        refine ⟨?_, (hW.trans0 hf).drew⟩
        unfold findI
        rw [if_pos HM.out, HII.out]
        rfl
      · have hne2 : ∀ w : World, (binOp .eql 33 (.agg #[.int .i64 t.1, .int .i64 t.2]) (.agg #[.int .i64 s.1, .int .i64 s.2])).run Try.prog w = .ok (.bool false) w := fun w => by rw [heq]; simp [he]
        have HE := Lib.hid he
        clear heq he
        go_wp2_with fail
        go_region_held3 (fun u => u.cell? ⟨b, off + k * 3, none⟩ = some (.int .i64 t.1) ∧ u.cell? ⟨b, off + k * 3 + 1, none⟩ = some (.int .i64 t.2) ∧ u.cell? ⟨B, 0, none⟩ = some (.int .i64 s.1) ∧ u.cell? ⟨B, 1, none⟩ = some (.int .i64 s.2)) (exact ⟨ce_drew c0, ce_drew c1, ce_drew b0, ce_drew b1⟩) (fail)
        go_wp2
        go_roundw
        case rel =>
          refine ⟨k + 1, by go_num, by omega, ?_, hf.drew⟩
          rw [HT.out, List.mem_append, List.mem_singleton]
          exact fun h => h.elim HX.out (fun h => HE.out h.symm)
        case measure => simp [intOf]; omega
    · obtain rfl : k = ns.length := by omega
      have HN : Hid (s ∉ atsN ns) := fun hm => HX.out (by rw [← HAL.out, List.take_length]; exact hm)
      go_wp2
      go_ret
      refine ⟨?_, hW.trans0 hf⟩
      unfold findI
      rw [if_neg HN.out]
      rfl
end Go.Proofs.Ytdlpbpohbkcafaa
