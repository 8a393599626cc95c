/-
  quadrillelaw21: EqRings, EqLeads, at, node.
-/
import Derived.Test.YtdlpbpohbkcafaaCUtil
import Derived.Test.YtdlpbpohbkcafaaCLeadM
namespace Go.Proofs.Ytdlpbpohbkcafaa
open Go.RowKit Go.Shelf Go.Sort Go.Proofs

/-- A lead as it is told. -/
structure Lx where
  at_ : Sp
  ring : Bool
  steps : Int
  first : Sp
  deriving DecidableEq
abbrev lxC (x : Lx) : List Value := [.int .i64 x.at_.1, .int .i64 x.at_.2, .bool x.ring, .int .i64 x.steps, .int .i64 x.first.1, .int .i64 x.first.2]
abbrev lxV (x : Lx) : Value := .agg #[.int .i64 x.at_.1, .int .i64 x.at_.2, .bool x.ring, .int .i64 x.steps, .int .i64 x.first.1, .int .i64 x.first.2]
theorem run_eqLead (x y : Lx) (w : World) : (Op.equal tLd (lxV x) (lxV y)).run Try.prog w = .ok (decide (x = y)) w := by
  simp [go_sem, Op.equal, Op.maxDepth]
  obtain ⟨⟨a, b⟩, c, d, e, f⟩ := x
  obtain ⟨⟨a', b'⟩, c', d', e', f'⟩ := y
  by_cases h1 : a = a' <;> by_cases h2 : b = b' <;> by_cases h3 : c = c' <;> by_cases h4 : d = d' <;> by_cases h5 : e = e' <;> by_cases h6 : f = f' <;> simp [h1, h2, h3, h4, h5, h6]
theorem neqL (x y : Lx) (w : World) : (binOp .neq tLd (.agg #[.int .i64 x.at_.1, .int .i64 x.at_.2, .bool x.ring, .int .i64 x.steps, .int .i64 x.first.1, .int .i64 x.first.2]) (.agg #[.int .i64 y.at_.1, .int .i64 y.at_.2, .bool y.ring, .int .i64 y.steps, .int .i64 y.first.1, .int .i64 y.first.2])).run Try.prog w = .ok (.bool (!decide (x = y))) w := by
  have := run_eqLead x y w
  simp [binOp, go_sem, this]
abbrev LeadsAt (w : World) (v : Value) (ls : List Lx) : Prop := SlAt w v 6 ls.length (ls.flatMap lxC)
theorem leads_cell {w : World} {v : Value} {l : List Lx} (h : LeadsAt w v l) {k : Nat} (hk : k < l.length) : ∃ b off c, v = .slice (some ⟨b, off, none⟩) l.length c ∧ b < w.heap.size ∧ w.cell? ⟨b, off + k * 6, none⟩ = some (.int .i64 l[k].at_.1) ∧ w.cell? ⟨b, off + k * 6 + 1, none⟩ = some (.int .i64 l[k].at_.2) ∧
    w.cell? ⟨b, off + k * 6 + 2, none⟩ = some (.bool l[k].ring) ∧ w.cell? ⟨b, off + k * 6 + 3, none⟩ = some (.int .i64 l[k].steps) ∧ w.cell? ⟨b, off + k * 6 + 4, none⟩ = some (.int .i64 l[k].first.1) ∧ w.cell? ⟨b, off + k * 6 + 5, none⟩ = some (.int .i64 l[k].first.2) := by
  obtain ⟨b, off, c, e, hb, hc⟩ := h.cell (by omega)
  refine ⟨b, off, c, e, hb, hc (k * 6 + 0) _ (by rw [flat_get lxC 6 (fun _ => rfl) l k 0 hk (by omega)]; rfl), ?_, ?_, ?_, ?_, ?_⟩
  · rw [Nat.add_assoc]
    exact hc (k * 6 + 1) _ (by rw [flat_get lxC 6 (fun _ => rfl) l k 1 hk (by omega)]; rfl)
  · rw [Nat.add_assoc]
    exact hc (k * 6 + 2) _ (by rw [flat_get lxC 6 (fun _ => rfl) l k 2 hk (by omega)]; rfl)
  · rw [Nat.add_assoc]
    exact hc (k * 6 + 3) _ (by rw [flat_get lxC 6 (fun _ => rfl) l k 3 hk (by omega)]; rfl)
  · rw [Nat.add_assoc]
    exact hc (k * 6 + 4) _ (by rw [flat_get lxC 6 (fun _ => rfl) l k 4 hk (by omega)]; rfl)
  · rw [Nat.add_assoc]
    exact hc (k * 6 + 5) _ (by rw [flat_get lxC 6 (fun _ => rfl) l k 5 hk (by omega)]; rfl)
/-- The same leads in the same order? -/
theorem eqLeadsC (va vb : Value) (la lb : List Lx) (w : World) (ha : LeadsAt w va la) (hb : LeadsAt w vb lb) : Calls Try.prog 20 #[va, vb] w fun e w1 => e = .returned (.bool (decide (la = lb))) ∧ Fr [] w w1 := by
  obtain ⟨qa, ca, rfl, ha1, ha2⟩ := ha.form
  obtain ⟨qb, cb, rfl, hb1, hb2⟩ := hb.form
  have HA := Lib.hid ha
  have HB := Lib.hid hb
  clear ha hb
  by_cases hl : la.length = lb.length
  · have hl2 : (la.length : Int) = (lb.length : Int) := by omega
    have hb3 : ((la.length : Int) != (lb.length : Int)) = false := by simp [hl]
    have HL := Lib.hid hl
    clear hl hl2
    go_enter Try.func20, Try.ntmps20
    go_wp2_with fail
    go_loopw [5] (fun i wr => ∃ k : Nat, i = .int .i64 (k : Int) ∧ k ≤ la.length ∧ la.take k = lb.take k ∧ Fr [] w wr) (fun i _ => la.length - (intOf i).toNat)
    case atStart => exact ⟨0, rfl, by omega, by simp, Fr.refl _ _⟩
    case round =>
      obtain ⟨k, rfl, hk, ht, hf⟩ := hrel
      have HT := Lib.hid ht
      clear ht
      by_cases hlt : k < la.length
      · have hltb : k < lb.length := by rw [← HL.out]; exact hlt
        obtain ⟨b1, o1, _, e1, hbl1, c0, c1, c2, c3, c4, c5⟩ := leads_cell (HA.out.fr0 hf) hlt
        cases e1
        obtain ⟨b2, o2, _, e2, hbl2, d0, d1, d2, d3, d4, d5⟩ := leads_cell (HB.out.fr0 hf) hltb
        cases e2
        have hk1 : (k : Int) < (la.length : Int) := by omega
        have hk2 : (k : Int) < (lb.length : Int) := by omega
        have HS1 := Lib.hid (List.take_succ_eq_append_getElem hlt)
        have HS2 := Lib.hid (List.take_succ_eq_append_getElem hltb)
        have HM : Hid (la = lb → la[k] = lb[k]) := fun e => by subst e; rfl
        have hne := neqL la[k] lb[k]
        generalize la[k] = x at *
        generalize lb[k] = y at *
        clear hlt hltb
        by_cases hxy : x = y
        · subst hxy
          have hne2 : ∀ w : World, (binOp .neq tLd (.agg #[.int .i64 x.at_.1, .int .i64 x.at_.2, .bool x.ring, .int .i64 x.steps, .int .i64 x.first.1, .int .i64 x.first.2]) (.agg #[.int .i64 x.at_.1, .int .i64 x.at_.2, .bool x.ring, .int .i64 x.steps, .int .i64 x.first.1, .int .i64 x.first.2])).run Try.prog w = .ok (.bool false) w := fun w => by rw [hne]; simp
          clear hne
          go_wp2_with fail
          go_region_held3 (fun u => u.cell? ⟨b1, o1 + k * 6, none⟩ = some (.int .i64 x.at_.1) ∧ u.cell? ⟨b1, o1 + k * 6 + 1, none⟩ = some (.int .i64 x.at_.2) ∧ u.cell? ⟨b1, o1 + k * 6 + 2, none⟩ = some (.bool x.ring) ∧ u.cell? ⟨b1, o1 + k * 6 + 3, none⟩ = some (.int .i64 x.steps) ∧ u.cell? ⟨b1, o1 + k * 6 + 4, none⟩ = some (.int .i64 x.first.1) ∧ u.cell? ⟨b1, o1 + k * 6 + 5, none⟩ = some (.int .i64 x.first.2) ∧ u.cell? ⟨b2, o2 + k * 6, none⟩ = some (.int .i64 x.at_.1) ∧ u.cell? ⟨b2, o2 + k * 6 + 1, none⟩ = some (.int .i64 x.at_.2) ∧ u.cell? ⟨b2, o2 + k * 6 + 2, none⟩ = some (.bool x.ring) ∧ u.cell? ⟨b2, o2 + k * 6 + 3, none⟩ = some (.int .i64 x.steps) ∧ u.cell? ⟨b2, o2 + k * 6 + 4, none⟩ = some (.int .i64 x.first.1) ∧ u.cell? ⟨b2, o2 + k * 6 + 5, none⟩ = some (.int .i64 x.first.2)) (exact ⟨ce_drew c0, ce_drew c1, ce_drew c2, ce_drew c3, ce_drew c4, ce_drew c5, ce_drew d0, ce_drew d1, ce_drew d2, ce_drew d3, ce_drew d4, ce_drew d5⟩) (fail)
          go_wp2
          go_roundw
          case rel => exact ⟨k + 1, by go_num, by omega, by rw [HS1.out, HS2.out, HT.out], hf.drew⟩
          case measure => simp [intOf]; omega
        · have hne2 : ∀ w : World, (binOp .neq tLd (.agg #[.int .i64 x.at_.1, .int .i64 x.at_.2, .bool x.ring, .int .i64 x.steps, .int .i64 x.first.1, .int .i64 x.first.2]) (.agg #[.int .i64 y.at_.1, .int .i64 y.at_.2, .bool y.ring, .int .i64 y.steps, .int .i64 y.first.1, .int .i64 y.first.2])).run Try.prog w = .ok (.bool true) w := fun w => by rw [hne]; simp [hxy]
          have HX := Lib.hid hxy
          clear hne hxy
          go_wp2_with fail
          go_region_held3 (fun u => u.cell? ⟨b1, o1 + k * 6, none⟩ = some (.int .i64 x.at_.1) ∧ u.cell? ⟨b1, o1 + k * 6 + 1, none⟩ = some (.int .i64 x.at_.2) ∧ u.cell? ⟨b1, o1 + k * 6 + 2, none⟩ = some (.bool x.ring) ∧ u.cell? ⟨b1, o1 + k * 6 + 3, none⟩ = some (.int .i64 x.steps) ∧ u.cell? ⟨b1, o1 + k * 6 + 4, none⟩ = some (.int .i64 x.first.1) ∧ u.cell? ⟨b1, o1 + k * 6 + 5, none⟩ = some (.int .i64 x.first.2) ∧ u.cell? ⟨b2, o2 + k * 6, none⟩ = some (.int .i64 y.at_.1) ∧ u.cell? ⟨b2, o2 + k * 6 + 1, none⟩ = some (.int .i64 y.at_.2) ∧ u.cell? ⟨b2, o2 + k * 6 + 2, none⟩ = some (.bool y.ring) ∧ u.cell? ⟨b2, o2 + k * 6 + 3, none⟩ = some (.int .i64 y.steps) ∧ u.cell? ⟨b2, o2 + k * 6 + 4, none⟩ = some (.int .i64 y.first.1) ∧ u.cell? ⟨b2, o2 + k * 6 + 5, none⟩ = some (.int .i64 y.first.2)) (exact ⟨ce_drew c0, ce_drew c1, ce_drew c2, ce_drew c3, ce_drew c4, ce_drew c5, ce_drew d0, ce_drew d1, ce_drew d2, ce_drew d3, ce_drew d4, ce_drew d5⟩) (fail)
          go_wp2
          go_ret
          exact ⟨ret_bool (decide_eq_false fun e => HX.out (HM.out e)).symm, hf.drew⟩
      · obtain rfl : k = la.length := by omega
        have HE : Hid (la = lb) := by
          have := HT.out
          rw [List.take_length, HL.out, List.take_length] at this
          exact this
        go_wp2
        go_ret
        exact ⟨ret_bool (decide_eq_true HE.out).symm, hf⟩
  · have hne : ¬ (la.length : Int) = (lb.length : Int) := by omega
    have hb3 : ((la.length : Int) != (lb.length : Int)) = true := by rw [bne_iff_ne]; exact hne
    have HL : Hid (¬ la = lb) := fun e => hl (by rw [e])
    clear hl
    go_enter Try.func20, Try.ntmps20
    go_wp2
    go_ret
    exact ⟨ret_bool (decide_eq_false HL.out).symm, Fr.refl _ _⟩
/-- Lists of places, each in a row somewhere. -/
structure RowsS (w : World) (v : Value) (ls : List (List Sp)) : Prop where
  ex : ∃ vs : List Value, vs.length = ls.length ∧ SlAt w v 1 vs.length vs ∧ ∀ i (h : i < vs.length) (h2 : i < ls.length), SpotsAt w vs[i] ls[i]
theorem RowsS.fr0 {w w1 : World} {v : Value} {ls : List (List Sp)} (h : RowsS w v ls) (hf : Fr [] w w1) : RowsS w1 v ls := by
  obtain ⟨vs, h1, h2, h3⟩ := h.ex
  exact ⟨vs, h1, h2.fr0 hf, fun i a b => (h3 i a b).fr0 hf⟩
theorem RowsS.form {w : World} {v : Value} {ls : List (List Sp)} (h : RowsS w v ls) : ∃ a c, v = .slice a ls.length c ∧ ls.length ≤ c ∧ c ≤ 9223372036854775807 := by
  obtain ⟨vs, h1, h2, h3⟩ := h.ex
  rw [← h1]
  exact h2.form
theorem RowsS.cell {w : World} {v : Value} {ls : List (List Sp)} (h : RowsS w v ls) {k : Nat} (hk : k < ls.length) : ∃ b off c x, v = .slice (some ⟨b, off, none⟩) ls.length c ∧ b < w.heap.size ∧ w.cell? ⟨b, off + k, none⟩ = some x ∧ SpotsAt w x ls[k] := by
  obtain ⟨vs, h1, h2, h3⟩ := h.ex
  obtain ⟨b, off, c, e, hb, hc⟩ := h2.cell (by omega)
  rw [h1] at e
  exact ⟨b, off, c, vs[k], e, hb, hc k _ (List.getElem?_eq_getElem (by omega)), h3 k (by omega) hk⟩
/-- The same rings? -/
theorem eqRingsC (va vb : Value) (la lb : List (List Sp)) (w : World) (ha : RowsS w va la) (hb : RowsS w vb lb) : Calls Try.prog 18 #[va, vb] w fun e w1 => e = .returned (.bool (decide (la = lb))) ∧ Fr [] w w1 := by
  obtain ⟨qa, ca, rfl, ha1, ha2⟩ := ha.form
  obtain ⟨qb, cb, rfl, hb1, hb2⟩ := hb.form
  have HA := Lib.hid ha
  have HB := Lib.hid hb
  clear ha hb
  by_cases hl : la.length = lb.length
  · have hl2 : (la.length : Int) = (lb.length : Int) := by omega
    have hb3 : ((la.length : Int) != (lb.length : Int)) = false := by simp [hl]
    have HL := Lib.hid hl
    clear hl hl2
    go_enter Try.func18, Try.ntmps18
    go_wp2_with fail
    go_loopw [5] (fun i wr => ∃ k : Nat, i = .int .i64 (k : Int) ∧ k ≤ la.length ∧ la.take k = lb.take k ∧ Fr [] w wr) (fun i _ => la.length - (intOf i).toNat)
    case atStart => exact ⟨0, rfl, by omega, by simp, Fr.refl _ _⟩
    case round =>
      obtain ⟨k, rfl, hk, ht, hf⟩ := hrel
      have HT := Lib.hid ht
      clear ht
      by_cases hlt : k < la.length
      · have hltb : k < lb.length := by rw [← HL.out]; exact hlt
        obtain ⟨b1, o1, _, xa, e1, hbl1, c0, hxa⟩ := (HA.out.fr0 hf).cell hlt
        cases e1
        obtain ⟨b2, o2, _, xb, e2, hbl2, d0, hxb⟩ := (HB.out.fr0 hf).cell hltb
        cases e2
        have hk1 : (k : Int) < (la.length : Int) := by omega
        have hk2 : (k : Int) < (lb.length : Int) := by omega
        have HS1 := Lib.hid (List.take_succ_eq_append_getElem hlt)
        have HS2 := Lib.hid (List.take_succ_eq_append_getElem hltb)
        have HM : Hid (la = lb → la[k] = lb[k]) := fun e => by subst e; rfl
        have HXA := Lib.hid hxa
        have HXB := Lib.hid hxb
        clear hxa hxb
        generalize la[k] = x at *
        generalize lb[k] = y at *
        clear hlt hltb
        go_wp2_with fail
        go_region_held3 (fun u => u.cell? ⟨b1, o1 + k, none⟩ = some xa ∧ u.cell? ⟨b2, o2 + k, none⟩ = some xb)
          (first | exact ⟨ce_drew c0, ce_drew d0⟩ | exact ⟨ce_call hA (ce_drew c0), ce_call hA (ce_drew d0)⟩)
          ((go_at_call 19; refine (eqC xa xb x y _ (HXA.out.fr0 ((Fr.refl [] wr).drew)) (HXB.out.fr0 ((Fr.refl [] wr).drew))).mono ?_; rintro e wA ⟨rfl, hA⟩))
        have hF := (hf.drew).trans0 hA
        by_cases hxy : x = y
        · rw [decide_eq_true hxy]
          have HX := Lib.hid hxy
          clear hxy
          go_wp2
          go_roundw
          case rel => exact ⟨k + 1, by go_num, by omega, by rw [HS1.out, HS2.out, HT.out, HX.out], hF⟩
          case measure => simp [intOf]; omega
        · rw [decide_eq_false hxy]
          have HX := Lib.hid hxy
          clear hxy
          go_wp2
          go_ret
          exact ⟨ret_bool (decide_eq_false fun e => HX.out (HM.out e)).symm, hF⟩
      · obtain rfl : k = la.length := by omega
        have HE : Hid (la = lb) := by
          have := HT.out
          rw [List.take_length, HL.out, List.take_length] at this
          exact this
        go_wp2
        go_ret
        exact ⟨ret_bool (decide_eq_true HE.out).symm, hf⟩
  · have hne : ¬ (la.length : Int) = (lb.length : Int) := by omega
    have hb3 : ((la.length : Int) != (lb.length : Int)) = true := by rw [bne_iff_ne]; exact hne
    have HL : Hid (¬ la = lb) := fun e => hl (by rw [e])
    clear hl
    go_enter Try.func18, Try.ntmps18
    go_wp2
    go_ret
    exact ⟨ret_bool (decide_eq_false HL.out).symm, Fr.refl _ _⟩
theorem atC (col : Int) (w : World) : Calls Try.prog 26 #[.int .i64 col] w fun e w1 => e = .returned (.agg #[.int .i64 0, .int .i64 col]) ∧ Fr [] w w1 := by
  go_enter Try.func26, Try.ntmps26
  go_wp2
  have hf : Fr [] w (w.alloc (.cells #[.int .i64 0, .int .i64 col] tSp)) := (Fr.refl [] w).alloc _
  refine bodyPost_ret (v := .agg #[.int .i64 0, .int .i64 col]) (by simp [results, Try.results26, go_sem]) rfl ⟨rfl, ?_⟩
  exact (Fr.refl [] w).alloc _
theorem nodeC (col : Int) (q : Option Addr) (n c : Nat) (w : World) : Calls Try.prog 25 #[.int .i64 col, .slice q n c] w fun e w1 => e = .returned (.agg #[.int .i64 0, .int .i64 col, .slice q n c]) ∧ Fr [] w w1 := by
  go_enter Try.func25, Try.ntmps25
  go_wp2_with fail
  refine (atC col _).mono ?_
  rintro e w1 ⟨rfl, h1⟩
  obtain ⟨hf, hb, hlt⟩ := h1.new1 (by simp)
  have hc := cell_of hb
  have hz := free_of hb
  have HF := Lib.hid hf
  clear h1 hb hf
  generalize hB : w.heap.size = B at *
  have HB : Hid (w.heap.size ≤ B) := Nat.le_of_eq hB
  clear hB
  go_wp2_with fail
  have c0 := hc 0
  have c1 := hc 1
  have c2 := hc 2
  refine bodyPost_ret (v := .agg #[.int .i64 0, .int .i64 col, .slice q n c]) (by simp [results, Try.results25, go_sem, c0, c1, c2]) rfl ⟨rfl, ?_⟩
  exact ((HF.out.setCell (.inr HB.out) _).setCell (.inr HB.out) _).setCell (.inr HB.out) _
end Go.Proofs.Ytdlpbpohbkcafaa
