/-
  quadrillelaw21: Eq, find; quadrilleref2: May, Compare.
  quadrillelaw21: EqRings, EqLeads, at, node.
-/
import Derived.Test.YtdlpbpohbkcafaaGreatCMade
import Derived.Test.YtdlpbpohbkcafaaGreatCLeadM
namespace Go.Proofs.YtdlpbpohbkcafaaGreat
section
open Go.RowKit Go.Shelf Go.Sort Go.Proofs

theorem eqlS (t s : Sp) (w : World) : (binOp .eql 27 (.agg #[.int .i64 t.1, .int .i64 t.2]) (.agg #[.int .i64 s.1, .int .i64 s.2])).run Tryz.prog w = .ok (.bool (t == s)) w := by
  have := run_eqSpot t s w
  simp [binOp, go_sem, this]
theorem neqS (t s : Sp) (w : World) : (binOp .neq 27 (.agg #[.int .i64 t.1, .int .i64 t.2]) (.agg #[.int .i64 s.1, .int .i64 s.2])).run Tryz.prog w = .ok (.bool (!(t == s))) w := by
  have := run_eqSpot t s w
  simp [binOp, go_sem, this]
set_option maxHeartbeats 400000 in
theorem refMay (s : Sp) (w : World) : Calls Tryz.prog 51 #[spV s] w fun e w1 => e = .returned (.bool (mayS s.1 s.2)) ∧ Fr [] w w1 := by
  obtain ⟨r, c⟩ := s
  generalize hm : mayS r c = m
  go_enter Tryz.func51, Tryz.ntmps51
  have hd : m = decide (0 ≤ r ∧ r < 65536 ∧ 0 ≤ c ∧ c < 702) := hm.symm
  by_cases h1 : 0 ≤ r
  · by_cases h2 : r < 65536
    · by_cases h3 : 0 ≤ c
      · by_cases h4 : c < 702
        · obtain rfl : m = true := by rw [hd]; simp; omega
          clear hd hm
          go_wp2
          go_ret
          exact ⟨rfl, (Fr.refl [] w).alloc _⟩
        · obtain rfl : m = false := by rw [hd]; simp; omega
          have h4' : decide (c < 702) = false := decide_eq_false h4
          clear hd hm
          go_wp2
          go_ret
          exact ⟨rfl, (Fr.refl [] w).alloc _⟩
      · obtain rfl : m = false := by rw [hd]; simp; omega
        have h3' : decide (0 ≤ c) = false := decide_eq_false h3
        clear hd hm
        go_wp2
        go_ret
        exact ⟨rfl, (Fr.refl [] w).alloc _⟩
    · obtain rfl : m = false := by rw [hd]; simp; omega
      have h2' : decide (r < 65536) = false := decide_eq_false h2
      clear hd hm
      go_wp2
      go_ret
      exact ⟨rfl, (Fr.refl [] w).alloc _⟩
  · obtain rfl : m = false := by rw [hd]; simp; omega
    have h1' : decide (0 ≤ r) = false := decide_eq_false h1
    clear hd hm
    go_wp2
    go_ret
    exact ⟨rfl, (Fr.refl [] w).alloc _⟩
/-- How two places stand. -/
def cmpR (s t : Sp) : Int := if ltS s t then -1 else if s = t then 0 else 1
set_option maxHeartbeats 400000 in
theorem refCmp (s t : Sp) (w : World) : Calls Tryz.prog 75 #[spV s, spV t] w fun e w1 => e = .returned (.int .i64 (cmpR s t)) ∧ Fr [] w w1 := by
  generalize hm : cmpR s t = m
  have heq := eqlS s t
  have hbe : (s == t) = decide (s.1 = t.1 ∧ s.2 = t.2) := by
    rw [Bool.eq_iff_iff]
    simp [Prod.ext_iff]
  rw [hbe] at heq
  have hd : m = if s.1 < t.1 ∨ (s.1 = t.1 ∧ s.2 < t.2) then -1 else if s.1 = t.1 ∧ s.2 = t.2 then 0 else 1 := by
    rw [← hm]
    unfold cmpR ltS
    simp only [decide_eq_true_eq, Prod.ext_iff]
  clear hm hbe
  obtain ⟨a, b⟩ := s
  obtain ⟨c, d⟩ := t
  simp only at hd heq
  go_enter Tryz.func75, Tryz.ntmps75
  rcases Int.lt_trichotomy a c with h1 | h1 | h1
  · obtain rfl : m = -1 := by rw [hd, if_pos (.inl h1)]
    clear hd heq
    go_wp2
    go_ret
    exact ⟨rfl, ((Fr.refl [] w).alloc _).alloc _⟩
  · subst h1
    have h1' : decide (a < a) = false := by simp
    rcases Int.lt_trichotomy b d with h2 | h2 | h2
    · obtain rfl : m = -1 := by rw [hd, if_pos (.inr ⟨rfl, h2⟩)]
      clear hd heq
      go_wp2
      go_ret
      exact ⟨rfl, ((Fr.refl [] w).alloc _).alloc _⟩
    · subst h2
      obtain rfl : m = 0 := by rw [hd, if_neg (by omega), if_pos ⟨rfl, rfl⟩]
      have h2' : decide (b < b) = false := by simp
      have heq2 : ∀ w : World, (binOp .eql 27 (.agg #[.int .i64 a, .int .i64 b]) (.agg #[.int .i64 a, .int .i64 b])).run Tryz.prog w = .ok (.bool true) w := fun w => by rw [heq]; simp
      clear hd heq
      go_wp2
      go_ret
      exact ⟨rfl, ((Fr.refl [] w).alloc _).alloc _⟩
    · obtain rfl : m = 1 := by rw [hd, if_neg (by omega), if_neg (by omega)]
      have h2' : decide (b < d) = false := decide_eq_false (by omega)
      have hne : ¬ (b = d) := by omega
      have heq2 : ∀ w : World, (binOp .eql 27 (.agg #[.int .i64 a, .int .i64 b]) (.agg #[.int .i64 a, .int .i64 d])).run Tryz.prog w = .ok (.bool false) w := fun w => by rw [heq]; simp [hne]
      clear hd heq hne
      go_wp2
      go_ret
      exact ⟨rfl, ((Fr.refl [] w).alloc _).alloc _⟩
  · obtain rfl : m = 1 := by rw [hd, if_neg (by omega), if_neg (by omega)]
    have h1' : decide (a < c) = false := decide_eq_false (by omega)
    have hne : ¬ (a = c) := by omega
    have h3 : (a == c) = false := by rw [beq_eq_false_iff_ne]; exact hne
    have heq2 : ∀ w : World, (binOp .eql 27 (.agg #[.int .i64 a, .int .i64 b]) (.agg #[.int .i64 c, .int .i64 d])).run Tryz.prog w = .ok (.bool false) w := fun w => by rw [heq]; simp [hne]
    clear hd heq hne
    go_wp2
    go_ret
    exact ⟨rfl, ((Fr.refl [] w).alloc _).alloc _⟩
/-- The same places in the same order? -/
theorem eqC (va vb : Value) (la lb : List Sp) (w : World) (ha : SpotsAt w va la) (hb : SpotsAt w vb lb) : Calls Tryz.prog 13 #[va, vb] w fun e w1 => e = .returned (.bool (decide (la = lb))) ∧ Fr [] w w1 := by
  obtain ⟨qa, ca, rfl, ha1, ha2⟩ := ha.form
  obtain ⟨qb, cb, rfl, hb1, hb2⟩ := hb.form
  have HA := Lib.hid ha
  have HB := Lib.hid hb
  clear ha hb
  by_cases hl : la.length = lb.length
  · have hl2 : (la.length : Int) = (lb.length : Int) := by omega
    have hb3 : ((la.length : Int) != (lb.length : Int)) = false := by simp [hl]
    have HL := Lib.hid hl
    clear hl hl2
    go_enter Tryz.func13, Tryz.ntmps13
    go_wp2_with fail
    go_loopw [5] (fun i wr => ∃ k : Nat, i = .int .i64 (k : Int) ∧ k ≤ la.length ∧ la.take k = lb.take k ∧ Fr [] w wr) (fun i _ => la.length - (intOf i).toNat)
    case atStart => exact ⟨0, rfl, by omega, by simp, Fr.refl _ _⟩
    case round =>
      obtain ⟨k, rfl, hk, ht, hf⟩ := hrel
      have HT := Lib.hid ht
      clear ht
      by_cases hlt : k < la.length
      · have hltb : k < lb.length := by rw [← HL.out]; exact hlt
        obtain ⟨b1, o1, _, e1, hbl1, c0, c1⟩ := spots_cell (HA.out.fr0 hf) hlt
        cases e1
        obtain ⟨b2, o2, _, e2, hbl2, d0, d1⟩ := spots_cell (HB.out.fr0 hf) hltb
        cases e2
        have hk1 : (k : Int) < (la.length : Int) := by omega
        have hk2 : (k : Int) < (lb.length : Int) := by omega
        have HS1 := Lib.hid (List.take_succ_eq_append_getElem hlt)
        have HS2 := Lib.hid (List.take_succ_eq_append_getElem hltb)
        have HM : Hid (la = lb → la[k] = lb[k]) := fun e => by subst e; rfl
        have hne := neqS la[k] lb[k]
        generalize la[k] = x at *
        generalize lb[k] = y at *
        clear hlt hltb
        by_cases hxy : x = y
        · subst hxy
          have hne2 : ∀ w : World, (binOp .neq 27 (.agg #[.int .i64 x.1, .int .i64 x.2]) (.agg #[.int .i64 x.1, .int .i64 x.2])).run Tryz.prog w = .ok (.bool false) w := fun w => by rw [hne]; simp
          clear hne
          go_wp2_with fail
          go_region_held3 (fun u => u.cell? ⟨b1, o1 + k * 2, none⟩ = some (.int .i64 x.1) ∧ u.cell? ⟨b1, o1 + k * 2 + 1, none⟩ = some (.int .i64 x.2) ∧ u.cell? ⟨b2, o2 + k * 2, none⟩ = some (.int .i64 x.1) ∧ u.cell? ⟨b2, o2 + k * 2 + 1, none⟩ = some (.int .i64 x.2)) (exact ⟨ce_drew c0, ce_drew c1, ce_drew d0, ce_drew d1⟩) (fail)
          go_wp2
          go_roundw
          case rel => exact ⟨k + 1, by go_num, by omega, by rw [HS1.out, HS2.out, HT.out], hf.drew⟩
          case measure => simp [intOf]; omega
        · have hne2 : ∀ w : World, (binOp .neq 27 (.agg #[.int .i64 x.1, .int .i64 x.2]) (.agg #[.int .i64 y.1, .int .i64 y.2])).run Tryz.prog w = .ok (.bool true) w := fun w => by rw [hne]; simp [hxy]
          have HX := Lib.hid hxy
          clear hne hxy
          go_wp2_with fail
          go_region_held3 (fun u => u.cell? ⟨b1, o1 + k * 2, none⟩ = some (.int .i64 x.1) ∧ u.cell? ⟨b1, o1 + k * 2 + 1, none⟩ = some (.int .i64 x.2) ∧ u.cell? ⟨b2, o2 + k * 2, none⟩ = some (.int .i64 y.1) ∧ u.cell? ⟨b2, o2 + k * 2 + 1, none⟩ = some (.int .i64 y.2)) (exact ⟨ce_drew c0, ce_drew c1, ce_drew d0, ce_drew d1⟩) (fail)
          go_wp2
          go_ret
          exact ⟨ret_bool (decide_eq_false fun e => HX.out (HM.out e)).symm, hf.drew⟩
      · obtain rfl : k = la.length := by omega
        have HE : Hid (la = lb) := by
          have := HT.out
          rw [List.take_length, HL.out, List.take_length] at this
          exact this
        go_wp2
        go_ret
        exact ⟨ret_bool (decide_eq_true HE.out).symm, hf⟩
  · have hne : ¬ (la.length : Int) = (lb.length : Int) := by omega
    have hb3 : ((la.length : Int) != (lb.length : Int)) = true := by rw [bne_iff_ne]; exact hne
    have HL : Hid (¬ la = lb) := fun e => hl (by rw [e])
    clear hl
    go_enter Tryz.func13, Tryz.ntmps13
    go_wp2
    go_ret
    exact ⟨ret_bool (decide_eq_false HL.out).symm, Fr.refl _ _⟩
abbrev NRow (w : World) (v : Value) (ns : List Nd) : Prop := SlAt w v 3 ns.length (ns.flatMap ndC)
theorem nrow_cell {w : World} {v : Value} {ns : List Nd} (h : NRow w v ns) {k : Nat} (hk : k < ns.length) : ∃ b off c, v = .slice (some ⟨b, off, none⟩) ns.length c ∧ b < w.heap.size ∧
    w.cell? ⟨b, off + k * 3, none⟩ = some (.int .i64 ns[k].at_.1) ∧ w.cell? ⟨b, off + k * 3 + 1, none⟩ = some (.int .i64 ns[k].at_.2) ∧ w.cell? ⟨b, off + k * 3 + 2, none⟩ = some (.slice ns[k].na ns[k].next.length ns[k].nc) := by
  obtain ⟨b, off, c, e, hb, hc⟩ := h.cell (by omega)
  refine ⟨b, off, c, e, hb, hc (k * 3 + 0) _ (by rw [flat_get ndC 3 (fun _ => rfl) ns k 0 hk (by omega)]; rfl), ?_, ?_⟩
  · rw [Nat.add_assoc]
    exact hc (k * 3 + 1) _ (by rw [flat_get ndC 3 (fun _ => rfl) ns k 1 hk (by omega)]; rfl)
  · rw [Nat.add_assoc]
    exact hc (k * 3 + 2) _ (by rw [flat_get ndC 3 (fun _ => rfl) ns k 2 hk (by omega)]; rfl)
end
section
open Go.RowKit Go.Shelf Go.Sort Go.Proofs

/-- A lead as it is told. -/
structure Lx where
  at_ : Sp
  ring : Bool
  steps : Int
  first : Sp
  deriving DecidableEq
abbrev lxC (x : Lx) : List Value := [.int .i64 x.at_.1, .int .i64 x.at_.2, .bool x.ring, .int .i64 x.steps, .int .i64 x.first.1, .int .i64 x.first.2]
abbrev lxV (x : Lx) : Value := .agg #[.int .i64 x.at_.1, .int .i64 x.at_.2, .bool x.ring, .int .i64 x.steps, .int .i64 x.first.1, .int .i64 x.first.2]
theorem run_eqLead (x y : Lx) (w : World) : (Op.equal tLd (lxV x) (lxV y)).run Tryz.prog w = .ok (decide (x = y)) w := by
  simp [go_sem, Op.equal, Op.maxDepth]
  obtain ⟨⟨a, b⟩, c, d, e, f⟩ := x
  obtain ⟨⟨a', b'⟩, c', d', e', f'⟩ := y
  by_cases h1 : a = a' <;> by_cases h2 : b = b' <;> by_cases h3 : c = c' <;> by_cases h4 : d = d' <;> by_cases h5 : e = e' <;> by_cases h6 : f = f' <;> simp [h1, h2, h3, h4, h5, h6]
theorem neqL (x y : Lx) (w : World) : (binOp .neq tLd (.agg #[.int .i64 x.at_.1, .int .i64 x.at_.2, .bool x.ring, .int .i64 x.steps, .int .i64 x.first.1, .int .i64 x.first.2]) (.agg #[.int .i64 y.at_.1, .int .i64 y.at_.2, .bool y.ring, .int .i64 y.steps, .int .i64 y.first.1, .int .i64 y.first.2])).run Tryz.prog w = .ok (.bool (!decide (x = y))) w := by
  have := run_eqLead x y w
  simp [binOp, go_sem, this]
abbrev LeadsAt (w : World) (v : Value) (ls : List Lx) : Prop := SlAt w v 6 ls.length (ls.flatMap lxC)
theorem leads_cell {w : World} {v : Value} {l : List Lx} (h : LeadsAt w v l) {k : Nat} (hk : k < l.length) : ∃ b off c, v = .slice (some ⟨b, off, none⟩) l.length c ∧ b < w.heap.size ∧ w.cell? ⟨b, off + k * 6, none⟩ = some (.int .i64 l[k].at_.1) ∧ w.cell? ⟨b, off + k * 6 + 1, none⟩ = some (.int .i64 l[k].at_.2) ∧
    w.cell? ⟨b, off + k * 6 + 2, none⟩ = some (.bool l[k].ring) ∧ w.cell? ⟨b, off + k * 6 + 3, none⟩ = some (.int .i64 l[k].steps) ∧ w.cell? ⟨b, off + k * 6 + 4, none⟩ = some (.int .i64 l[k].first.1) ∧ w.cell? ⟨b, off + k * 6 + 5, none⟩ = some (.int .i64 l[k].first.2) := by
  obtain ⟨b, off, c, e, hb, hc⟩ := h.cell (by omega)
  refine ⟨b, off, c, e, hb, hc (k * 6 + 0) _ (by rw [flat_get lxC 6 (fun _ => rfl) l k 0 hk (by omega)]; rfl), ?_, ?_, ?_, ?_, ?_⟩
  · rw [Nat.add_assoc]
    exact hc (k * 6 + 1) _ (by rw [flat_get lxC 6 (fun _ => rfl) l k 1 hk (by omega)]; rfl)
  · rw [Nat.add_assoc]
    exact hc (k * 6 + 2) _ (by rw [flat_get lxC 6 (fun _ => rfl) l k 2 hk (by omega)]; rfl)
  · rw [Nat.add_assoc]
    exact hc (k * 6 + 3) _ (by rw [flat_get lxC 6 (fun _ => rfl) l k 3 hk (by omega)]; rfl)
  · rw [Nat.add_assoc]
    exact hc (k * 6 + 4) _ (by rw [flat_get lxC 6 (fun _ => rfl) l k 4 hk (by omega)]; rfl)
  · rw [Nat.add_assoc]
    exact hc (k * 6 + 5) _ (by rw [flat_get lxC 6 (fun _ => rfl) l k 5 hk (by omega)]; rfl)
/-- The same leads in the same order? -/
theorem eqLeadsC (va vb : Value) (la lb : List Lx) (w : World) (ha : LeadsAt w va la) (hb : LeadsAt w vb lb) : Calls Tryz.prog 16 #[va, vb] w fun e w1 => e = .returned (.bool (decide (la = lb))) ∧ Fr [] w w1 := by
  obtain ⟨qa, ca, rfl, ha1, ha2⟩ := ha.form
  obtain ⟨qb, cb, rfl, hb1, hb2⟩ := hb.form
  have HA := Lib.hid ha
  have HB := Lib.hid hb
  clear ha hb
  by_cases hl : la.length = lb.length
  · have hl2 : (la.length : Int) = (lb.length : Int) := by omega
    have hb3 : ((la.length : Int) != (lb.length : Int)) = false := by simp [hl]
    have HL := Lib.hid hl
    clear hl hl2
    go_enter Tryz.func16, Tryz.ntmps16
    go_wp2_with fail
    go_loopw [5] (fun i wr => ∃ k : Nat, i = .int .i64 (k : Int) ∧ k ≤ la.length ∧ la.take k = lb.take k ∧ Fr [] w wr) (fun i _ => la.length - (intOf i).toNat)
    case atStart => exact ⟨0, rfl, by omega, by simp, Fr.refl _ _⟩
    case round =>
      obtain ⟨k, rfl, hk, ht, hf⟩ := hrel
      have HT := Lib.hid ht
      clear ht
      by_cases hlt : k < la.length
      · have hltb : k < lb.length := by rw [← HL.out]; exact hlt
        obtain ⟨b1, o1, _, e1, hbl1, c0, c1, c2, c3, c4, c5⟩ := leads_cell (HA.out.fr0 hf) hlt
        cases e1
        obtain ⟨b2, o2, _, e2, hbl2, d0, d1, d2, d3, d4, d5⟩ := leads_cell (HB.out.fr0 hf) hltb
        cases e2
        have hk1 : (k : Int) < (la.length : Int) := by omega
        have hk2 : (k : Int) < (lb.length : Int) := by omega
        have HS1 := Lib.hid (List.take_succ_eq_append_getElem hlt)
        have HS2 := Lib.hid (List.take_succ_eq_append_getElem hltb)
        have HM : Hid (la = lb → la[k] = lb[k]) := fun e => by subst e; rfl
        have hne := neqL la[k] lb[k]
        generalize la[k] = x at *
        generalize lb[k] = y at *
        clear hlt hltb
        by_cases hxy : x = y
        · subst hxy
          have hne2 : ∀ w : World, (binOp .neq tLd (.agg #[.int .i64 x.at_.1, .int .i64 x.at_.2, .bool x.ring, .int .i64 x.steps, .int .i64 x.first.1, .int .i64 x.first.2]) (.agg #[.int .i64 x.at_.1, .int .i64 x.at_.2, .bool x.ring, .int .i64 x.steps, .int .i64 x.first.1, .int .i64 x.first.2])).run Tryz.prog w = .ok (.bool false) w := fun w => by rw [hne]; simp
          clear hne
          go_wp2_with fail
          go_region_held3 (fun u => u.cell? ⟨b1, o1 + k * 6, none⟩ = some (.int .i64 x.at_.1) ∧ u.cell? ⟨b1, o1 + k * 6 + 1, none⟩ = some (.int .i64 x.at_.2) ∧ u.cell? ⟨b1, o1 + k * 6 + 2, none⟩ = some (.bool x.ring) ∧ u.cell? ⟨b1, o1 + k * 6 + 3, none⟩ = some (.int .i64 x.steps) ∧ u.cell? ⟨b1, o1 + k * 6 + 4, none⟩ = some (.int .i64 x.first.1) ∧ u.cell? ⟨b1, o1 + k * 6 + 5, none⟩ = some (.int .i64 x.first.2) ∧ u.cell? ⟨b2, o2 + k * 6, none⟩ = some (.int .i64 x.at_.1) ∧ u.cell? ⟨b2, o2 + k * 6 + 1, none⟩ = some (.int .i64 x.at_.2) ∧ u.cell? ⟨b2, o2 + k * 6 + 2, none⟩ = some (.bool x.ring) ∧ u.cell? ⟨b2, o2 + k * 6 + 3, none⟩ = some (.int .i64 x.steps) ∧ u.cell? ⟨b2, o2 + k * 6 + 4, none⟩ = some (.int .i64 x.first.1) ∧ u.cell? ⟨b2, o2 + k * 6 + 5, none⟩ = some (.int .i64 x.first.2)) (exact ⟨ce_drew c0, ce_drew c1, ce_drew c2, ce_drew c3, ce_drew c4, ce_drew c5, ce_drew d0, ce_drew d1, ce_drew d2, ce_drew d3, ce_drew d4, ce_drew d5⟩) (fail)
          go_wp2
          go_roundw
          case rel => exact ⟨k + 1, by go_num, by omega, by rw [HS1.out, HS2.out, HT.out], hf.drew⟩
          case measure => simp [intOf]; omega
        · have hne2 : ∀ w : World, (binOp .neq tLd (.agg #[.int .i64 x.at_.1, .int .i64 x.at_.2, .bool x.ring, .int .i64 x.steps, .int .i64 x.first.1, .int .i64 x.first.2]) (.agg #[.int .i64 y.at_.1, .int .i64 y.at_.2, .bool y.ring, .int .i64 y.steps, .int .i64 y.first.1, .int .i64 y.first.2])).run Tryz.prog w = .ok (.bool true) w := fun w => by rw [hne]; simp [hxy]
          have HX := Lib.hid hxy
          clear hne hxy
          go_wp2_with fail
          go_region_held3 (fun u => u.cell? ⟨b1, o1 + k * 6, none⟩ = some (.int .i64 x.at_.1) ∧ u.cell? ⟨b1, o1 + k * 6 + 1, none⟩ = some (.int .i64 x.at_.2) ∧ u.cell? ⟨b1, o1 + k * 6 + 2, none⟩ = some (.bool x.ring) ∧ u.cell? ⟨b1, o1 + k * 6 + 3, none⟩ = some (.int .i64 x.steps) ∧ u.cell? ⟨b1, o1 + k * 6 + 4, none⟩ = some (.int .i64 x.first.1) ∧ u.cell? ⟨b1, o1 + k * 6 + 5, none⟩ = some (.int .i64 x.first.2) ∧ u.cell? ⟨b2, o2 + k * 6, none⟩ = some (.int .i64 y.at_.1) ∧ u.cell? ⟨b2, o2 + k * 6 + 1, none⟩ = some (.int .i64 y.at_.2) ∧ u.cell? ⟨b2, o2 + k * 6 + 2, none⟩ = some (.bool y.ring) ∧ u.cell? ⟨b2, o2 + k * 6 + 3, none⟩ = some (.int .i64 y.steps) ∧ u.cell? ⟨b2, o2 + k * 6 + 4, none⟩ = some (.int .i64 y.first.1) ∧ u.cell? ⟨b2, o2 + k * 6 + 5, none⟩ = some (.int .i64 y.first.2)) (exact ⟨ce_drew c0, ce_drew c1, ce_drew c2, ce_drew c3, ce_drew c4, ce_drew c5, ce_drew d0, ce_drew d1, ce_drew d2, ce_drew d3, ce_drew d4, ce_drew d5⟩) (fail)
          go_wp2
          go_ret
          exact ⟨ret_bool (decide_eq_false fun e => HX.out (HM.out e)).symm, hf.drew⟩
      · obtain rfl : k = la.length := by omega
        have HE : Hid (la = lb) := by
          have := HT.out
          rw [List.take_length, HL.out, List.take_length] at this
          exact this
        go_wp2
        go_ret
        exact ⟨ret_bool (decide_eq_true HE.out).symm, hf⟩
  · have hne : ¬ (la.length : Int) = (lb.length : Int) := by omega
    have hb3 : ((la.length : Int) != (lb.length : Int)) = true := by rw [bne_iff_ne]; exact hne
    have HL : Hid (¬ la = lb) := fun e => hl (by rw [e])
    clear hl
    go_enter Tryz.func16, Tryz.ntmps16
    go_wp2
    go_ret
    exact ⟨ret_bool (decide_eq_false HL.out).symm, Fr.refl _ _⟩
/-- Lists of places, each in a row somewhere. -/
structure RowsS (w : World) (v : Value) (ls : List (List Sp)) : Prop where
  ex : ∃ vs : List Value, vs.length = ls.length ∧ SlAt w v 1 vs.length vs ∧ ∀ i (h : i < vs.length) (h2 : i < ls.length), SpotsAt w vs[i] ls[i]
theorem RowsS.fr0 {w w1 : World} {v : Value} {ls : List (List Sp)} (h : RowsS w v ls) (hf : Fr [] w w1) : RowsS w1 v ls := by
  obtain ⟨vs, h1, h2, h3⟩ := h.ex
  exact ⟨vs, h1, h2.fr0 hf, fun i a b => (h3 i a b).fr0 hf⟩
theorem RowsS.form {w : World} {v : Value} {ls : List (List Sp)} (h : RowsS w v ls) : ∃ a c, v = .slice a ls.length c ∧ ls.length ≤ c ∧ c ≤ 9223372036854775807 := by
  obtain ⟨vs, h1, h2, h3⟩ := h.ex
  rw [← h1]
  exact h2.form
theorem RowsS.cell {w : World} {v : Value} {ls : List (List Sp)} (h : RowsS w v ls) {k : Nat} (hk : k < ls.length) : ∃ b off c x, v = .slice (some ⟨b, off, none⟩) ls.length c ∧ b < w.heap.size ∧ w.cell? ⟨b, off + k, none⟩ = some x ∧ SpotsAt w x ls[k] := by
  obtain ⟨vs, h1, h2, h3⟩ := h.ex
  obtain ⟨b, off, c, e, hb, hc⟩ := h2.cell (by omega)
  rw [h1] at e
  exact ⟨b, off, c, vs[k], e, hb, hc k _ (List.getElem?_eq_getElem (by omega)), h3 k (by omega) hk⟩
/-- The same rings? -/
theorem eqRingsC (va vb : Value) (la lb : List (List Sp)) (w : World) (ha : RowsS w va la) (hb : RowsS w vb lb) : Calls Tryz.prog 10 #[va, vb] w fun e w1 => e = .returned (.bool (decide (la = lb))) ∧ Fr [] w w1 := by
  obtain ⟨qa, ca, rfl, ha1, ha2⟩ := ha.form
  obtain ⟨qb, cb, rfl, hb1, hb2⟩ := hb.form
  have HA := Lib.hid ha
  have HB := Lib.hid hb
  clear ha hb
  by_cases hl : la.length = lb.length
  · have hl2 : (la.length : Int) = (lb.length : Int) := by omega
    have hb3 : ((la.length : Int) != (lb.length : Int)) = false := by simp [hl]
    have HL := Lib.hid hl
    clear hl hl2
    go_enter Tryz.func10, Tryz.ntmps10
    go_wp2_with fail
    go_loopw [5] (fun i wr => ∃ k : Nat, i = .int .i64 (k : Int) ∧ k ≤ la.length ∧ la.take k = lb.take k ∧ Fr [] w wr) (fun i _ => la.length - (intOf i).toNat)
    case atStart => exact ⟨0, rfl, by omega, by simp, Fr.refl _ _⟩
    case round =>
      obtain ⟨k, rfl, hk, ht, hf⟩ := hrel
      have HT := Lib.hid ht
      clear ht
      by_cases hlt : k < la.length
      · have hltb : k < lb.length := by rw [← HL.out]; exact hlt
        obtain ⟨b1, o1, _, xa, e1, hbl1, c0, hxa⟩ := (HA.out.fr0 hf).cell hlt
        cases e1
        obtain ⟨b2, o2, _, xb, e2, hbl2, d0, hxb⟩ := (HB.out.fr0 hf).cell hltb
        cases e2
        have hk1 : (k : Int) < (la.length : Int) := by omega
        have hk2 : (k : Int) < (lb.length : Int) := by omega
        have HS1 := Lib.hid (List.take_succ_eq_append_getElem hlt)
        have HS2 := Lib.hid (List.take_succ_eq_append_getElem hltb)
        have HM : Hid (la = lb → la[k] = lb[k]) := fun e => by subst e; rfl
        have HXA := Lib.hid hxa
        have HXB := Lib.hid hxb
        clear hxa hxb
        generalize la[k] = x at *
        generalize lb[k] = y at *
        clear hlt hltb
        go_wp2_with fail
        go_region_held3 (fun u => u.cell? ⟨b1, o1 + k, none⟩ = some xa ∧ u.cell? ⟨b2, o2 + k, none⟩ = some xb)
          (first | exact ⟨ce_drew c0, ce_drew d0⟩ | exact ⟨ce_call hA (ce_drew c0), ce_call hA (ce_drew d0)⟩)
          ((go_at_call 13; refine (eqC xa xb x y _ (HXA.out.fr0 ((Fr.refl [] wr).drew)) (HXB.out.fr0 ((Fr.refl [] wr).drew))).mono ?_; rintro e wA ⟨rfl, hA⟩))
        have hF := (hf.drew).trans0 hA
        by_cases hxy : x = y
        · rw [decide_eq_true hxy]
          have HX := Lib.hid hxy
          clear hxy
          go_wp2
          go_roundw
          case rel => exact ⟨k + 1, by go_num, by omega, by rw [HS1.out, HS2.out, HT.out, HX.out], hF⟩
          case measure => simp [intOf]; omega
        · rw [decide_eq_false hxy]
          have HX := Lib.hid hxy
          clear hxy
          go_wp2
          go_ret
          exact ⟨ret_bool (decide_eq_false fun e => HX.out (HM.out e)).symm, hF⟩
      · obtain rfl : k = la.length := by omega
        have HE : Hid (la = lb) := by
          have := HT.out
          rw [List.take_length, HL.out, List.take_length] at this
          exact this
        go_wp2
        go_ret
        exact ⟨ret_bool (decide_eq_true HE.out).symm, hf⟩
  · have hne : ¬ (la.length : Int) = (lb.length : Int) := by omega
    have hb3 : ((la.length : Int) != (lb.length : Int)) = true := by rw [bne_iff_ne]; exact hne
    have HL : Hid (¬ la = lb) := fun e => hl (by rw [e])
    clear hl
    go_enter Tryz.func10, Tryz.ntmps10
    go_wp2
    go_ret
    exact ⟨ret_bool (decide_eq_false HL.out).symm, Fr.refl _ _⟩
theorem atC (col : Int) (w : World) : Calls Tryz.prog 21 #[.int .i64 col] w fun e w1 => e = .returned (.agg #[.int .i64 0, .int .i64 col]) ∧ Fr [] w w1 := by
  go_enter Tryz.func21, Tryz.ntmps21
  go_wp2
  have hf : Fr [] w (w.alloc (.cells #[.int .i64 0, .int .i64 col] tSp)) := (Fr.refl [] w).alloc _
  refine bodyPost_ret (v := .agg #[.int .i64 0, .int .i64 col]) (by simp [results, Tryz.results21, go_sem]) rfl ⟨rfl, ?_⟩
  exact (Fr.refl [] w).alloc _
theorem nodeC (col : Int) (q : Option Addr) (n c : Nat) (w : World) : Calls Tryz.prog 20 #[.int .i64 col, .slice q n c] w fun e w1 => e = .returned (.agg #[.int .i64 0, .int .i64 col, .slice q n c]) ∧ Fr [] w w1 := by
  go_enter Tryz.func20, Tryz.ntmps20
  go_wp2_with fail
  refine (atC col _).mono ?_
  rintro e w1 ⟨rfl, h1⟩
  obtain ⟨hf, hb, hlt⟩ := h1.new1 (by simp)
  have hc := cell_of hb
  have hz := free_of hb
  have HF := Lib.hid hf
  clear h1 hb hf
  generalize hB : w.heap.size = B at *
  have HB : Hid (w.heap.size ≤ B) := Nat.le_of_eq hB
  clear hB
  go_wp2_with fail
  have c0 := hc 0
  have c1 := hc 1
  have c2 := hc 2
  refine bodyPost_ret (v := .agg #[.int .i64 0, .int .i64 col, .slice q n c]) (by simp [results, Tryz.results20, go_sem, c0, c1, c2]) rfl ⟨rfl, ?_⟩
  exact ((HF.out.setCell (.inr HB.out) _).setCell (.inr HB.out) _).setCell (.inr HB.out) _
end
end Go.Proofs.YtdlpbpohbkcafaaGreat
