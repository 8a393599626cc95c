/-
  quadrillelaw2.Lent and Back; quadrillelaw22.spots.
-/
import Derived.Test.YtldppdafgbipjaaRef22A
namespace Go.Proofs.Ytldppdafgbipjaa
open Go.RowKit

/-- The cells of a slice of places. -/
theorem spots_cells {w : World} {v : Value} {l : List Sp} (h : SpotsAt w v l) {k : Nat} (hk : k < l.length) : ∃ b off c, v = .slice (some ⟨b, off, none⟩) l.length c ∧ b < w.heap.size ∧
    w.cell? ⟨b, off + k * 2, none⟩ = some (.int .i64 l[k].1) ∧ w.cell? ⟨b, off + k * 2 + 1, none⟩ = some (.int .i64 l[k].2) := by
  obtain ⟨b, off, c, e, hb, hc⟩ := h.cell (by omega)
  refine ⟨b, off, c, e, hb, hc (k * 2 + 0) _ (by rw [flat_get spC 2 (fun _ => rfl) l k 0 hk (by omega)]; rfl), ?_⟩
  rw [Nat.add_assoc]
  exact hc (k * 2 + 1) _ (by rw [flat_get spC 2 (fun _ => rfl) l k 1 hk (by omega)]; rfl)
theorem vals_cells {w : World} {v : Value} {l : List V} (h : ValsAt w v l) {k : Nat} (hk : k < l.length) : ∃ b off c, v = .slice (some ⟨b, off, none⟩) l.length c ∧ b < w.heap.size ∧
    w.cell? ⟨b, off + k * 3, none⟩ = some (.int .i64 l[k].k) ∧ w.cell? ⟨b, off + k * 3 + 1, none⟩ = some (.int .i64 l[k].n) ∧ w.cell? ⟨b, off + k * 3 + 2, none⟩ = some (.string l[k].s) := by
  obtain ⟨b, off, c, e, hb, hc⟩ := h.cell (by omega)
  refine ⟨b, off, c, e, hb, hc (k * 3 + 0) _ (by rw [flat_get vC 3 (fun _ => rfl) l k 0 hk (by omega)]; rfl), ?_, ?_⟩
  · rw [Nat.add_assoc]
    exact hc (k * 3 + 1) _ (by rw [flat_get vC 3 (fun _ => rfl) l k 1 hk (by omega)]; rfl)
  · rw [Nat.add_assoc]
    exact hc (k * 3 + 2) _ (by rw [flat_get vC 3 (fun _ => rfl) l k 2 hk (by omega)]; rfl)

set_option maxRecDepth 100000 in
theorem spotsC (v u : Value) (l : List Sp) (w : World) (hv : SpotsAt w v l) (hu : SpotsAt w u l) : Calls Try.prog 98 #[v, u] w fun e w1 => e = .returned (.bool true) ∧ Fr [] w w1 := by
  have HV := Lib.hid hv
  have HU := Lib.hid hu
  obtain ⟨q1, c1, rfl, _, hc1⟩ := hv.form
  obtain ⟨q2, c2, rfl, _, _⟩ := hu.form
  have hll : (l.length : Int) ≤ 9223372036854775807 := by omega
  clear hv hu
  go_enter Try.func98, Try.ntmps98
  go_wp2_with fail
  go_loopw [5] (fun i wr => ∃ k : Nat, i = .int .i64 (k : Int) ∧ k ≤ l.length ∧ Fr [] w wr) (fun i _ => l.length - (intOf i).toNat)
  case atStart => exact ⟨0, rfl, by omega, Fr.refl _ _⟩
  case round =>
    obtain ⟨k, rfl, hk, hf⟩ := hrel
    by_cases hlt : k < l.length
    · obtain ⟨b1, o1, _, e1, hb1, a0, a1⟩ := spots_cells (HV.out.fr0 hf) hlt
      cases e1
      obtain ⟨b2, o2, _, e2, hb2, d0, d1⟩ := spots_cells (HU.out.fr0 hf) hlt
      cases e2
      have hk1 : (k : Int) < (l.length : Int) := by omega
      have hk2 : (0 : Int) ≤ (k : Int) := by omega
      generalize l[k] = x at *
      go_wp2_with fail
      go_region
      go_wp2
      go_roundw
      case rel => exact ⟨k + 1, by go_num, by omega, hf.drew⟩
      case measure => simp [intOf]; omega
    · obtain rfl : k = l.length := by omega
      go_wp2
      go_ret
      exact ⟨rfl, hf⟩

section
variable {ops : Array Oper} {rest : List Oper} {o : Oper} {a : Act} {Q : Exit → Act → World → Prop} {u : World} {v : Value}
theorem wpList_copyS {R : List Sp} (hgd : o.guard = none) (x : Operand) (ho : o.op = .call { callee := .builtin .append, args := #[.const (.slice none 0 0), x], argTypes := #[35, 35] }) (hx : a.eval x = v)
    (hown : SpotsAt u v R) (hl : R.length ≤ 65536)
    (h : ∀ v' u', u'.ownsRow u.heap.size tSp 2 v' R.length (R.flatMap spC) → Fr [] u u' → wpList Try.prog ops Q rest (a.put o.dst v') u') : wpList Try.prog ops Q (o :: rest) a u := wpList_plain hgd fun K hK => by
  have := step_copyS (ops := ops) (K := K) (Q := Q) (E := True) hgd x ho hx hown hl (fun v' u' h1 h2 => hK _ _ (h v' u' h1 h2))
  rwa [if_pos (by simp [Region.wanted, hgd])] at this
end

theorem own_cap {w : World} {B g n cap size : Nat} {e : TypeId} {xs : List Value} (h : w.ownsRow B e size (.slice (some ⟨g, 0, none⟩) n cap) n xs) : n ≤ cap ∧ cap ≤ maxLen ∧ B ≤ g ∧ ∃ cur, w.heap[g]? = some (.cells cur e (0, 0)) ∧ cur.size = cap * size ∧ cur.toList.take (n * size) = xs := by
  rcases h.2 with ⟨h0, _⟩ | ⟨g', cap', cur, h1, h2, h3, h4, h5, h6, h7⟩
  · cases h0
  · cases h1
    exact ⟨h4, h5, h2, cur, h3, h6, h7⟩
def marks : List Sp := [(-9, -9), (-9, -9)]
set_option maxRecDepth 100000 in
theorem lentC (v : Value) (ds : List Sp) (w : World) (hv : SpotsAt w v ds) (hl : ds.length ≤ 65536) : Calls Try.prog 116 #[v] w fun e w1 => ∃ g cap, e = .returned (.slice (some ⟨g, 0, none⟩) ds.length cap) ∧
    w1.ownsRow w.heap.size tSp 2 (.slice (some ⟨g, 0, none⟩) (ds.length + 2) cap) (ds.length + 2) ((ds ++ marks).flatMap spC) ∧ Fr [] w w1 := by
  have HV := Lib.hid hv
  obtain ⟨i0, hi, hz0, hz1, hz2⟩ := info_parts infoSpot
  obtain ⟨q, c, rfl, _, _⟩ := hv.form
  have hmk : (ds ++ marks).flatMap spC = ds.flatMap spC ++ [.int .i64 (-9), .int .i64 (-9), .int .i64 (-9), .int .i64 (-9)] := by simp [marks, spC]
  rw [hmk]
  clear hv hmk
  go_enter Try.func116, Try.ntmps116
  go_wp2_with (at_builtin; first
    | (refine wpList_copyS (R := ds) rfl _ rfl rfl HV.out hl ?_; intro v2 u2 hv2 hU)
    | go_loud (refine wpList_append_own _ rfl _ _ 35 rfl w.heap.size tSp i0 _ 2 16 Try.underlying35 hi hz0 hz1 hz2 rfl (by decide) _ _ _ rfl (hv2.alloc _) ⟨u2.heap.size, 0, none⟩ 2 2 [.int .i64 (-9), .int .i64 (-9), .int .i64 (-9), .int .i64 (-9)] rfl rfl (news_of _ _ _) (by simp [Value.oneCell']) (by unfold maxLen; omega) (by omega) (by have := hU.size; simp; omega) ?_; intro v' w3 hown' hgrow _; obtain ⟨g', cap', rfl⟩ := ownsRow_succ hown'; have hcp2 : ds.length ≤ cap' := Nat.le_of_succ_le (Nat.le_of_succ_le (own_cap (n := ds.length + 2) hown').1)))
  go_ret
  exact ⟨g', cap', rfl, hown', (hU.alloc _).grown hgrow (fun k hk => .inr (hv2.lt k hk).1)⟩

set_option maxRecDepth 100000 in
set_option maxHeartbeats 1600000 in
theorem backC (g cap B : Nat) (y : Value) (ds : List Sp) (w : World) (hrow : w.ownsRow B tSp 2 (.slice (some ⟨g, 0, none⟩) (ds.length + 2) cap) (ds.length + 2) ((ds ++ marks).flatMap spC)) (hy : SpotsAt w y ds)
    (hne : 0 < ds.length → ∀ b off c, y = .slice (some ⟨b, off, none⟩) ds.length c → b ≠ g) : Calls Try.prog 118 #[.slice (some ⟨g, 0, none⟩) ds.length cap, y] w fun e w1 => e = .returned (.bool true) ∧ Fr [g] w w1 := by
  obtain ⟨hc1, hc2, _, cur, hcur, hcs, hct⟩ := own_cap hrow
  have HY := Lib.hid hy
  have HNE := Lib.hid hne
  obtain ⟨q, c, rfl, _, hqc⟩ := hy.form
  unfold maxLen at hc2
  have hfl : ∀ (k : Nat) (hk : k < (ds ++ marks).length), cur[k * 2]? = some (.int .i64 (ds ++ marks)[k].1) ∧ cur[k * 2 + 1]? = some (.int .i64 (ds ++ marks)[k].2) := by
    intro k hk
    have hk' : k < ds.length + 2 := by simpa [marks] using hk
    have key : ∀ j, j < 2 → cur[k * 2 + j]? = (spC (ds ++ marks)[k])[j]? := fun j hj => by
      rw [← flat_get spC 2 (fun _ => rfl) (ds ++ marks) k j hk hj, ← hct, List.getElem?_take_of_lt (by omega), Array.getElem?_toList]
    exact ⟨key 0 (by omega), key 1 (by omega)⟩
  have hm0 := hfl ds.length (by simp [marks])
  have hm1 := hfl (ds.length + 1) (by simp [marks])
  have e0 : (ds ++ marks)[ds.length]'(by simp [marks]) = (-9, -9) := by simp [marks]
  have e1 : (ds ++ marks)[ds.length + 1]'(by simp [marks]) = (-9, -9) := by simp [marks]
  rw [e0] at hm0
  rw [e1] at hm1
  have HFL := Lib.hid (fun (k : Nat) (hk : k < ds.length) => (by
    have h := hfl k (by simp; omega)
    rw [List.getElem_append_left hk] at h
    exact h : cur[k * 2]? = some (.int .i64 ds[k].1) ∧ cur[k * 2 + 1]? = some (.int .i64 ds[k].2)))
  have hcc := cell_of hcur
  have m0 : w.cell? ⟨g, ds.length * 2, none⟩ = some (.int .i64 (-9)) := (hcc _).trans hm0.1
  have m1 : w.cell? ⟨g, ds.length * 2 + 1, none⟩ = some (.int .i64 (-9)) := (hcc _).trans hm0.2
  have m2 : w.cell? ⟨g, (ds.length + 1) * 2, none⟩ = some (.int .i64 (-9)) := (hcc _).trans hm1.1
  have m3 : w.cell? ⟨g, (ds.length + 1) * 2 + 1, none⟩ = some (.int .i64 (-9)) := (hcc _).trans hm1.2
  have hgl := lt_of hcur
  have HC := Lib.hid hcur
  have HCS := Lib.hid hcs
  have hw1 : IntKind.i64.wrap ((ds.length : Int) + 2) = (ds.length : Int) + 2 := by rw [IntKind.wrap_i64]; omega
  have hw2 : IntKind.i64.wrap ((ds.length : Int) + 1) = (ds.length : Int) + 1 := by rw [IntKind.wrap_i64]; omega
  have hn1 : ((ds.length : Int) + 2).toNat = ds.length + 2 := by omega
  have hn2 : ((ds.length : Int) + 1).toNat = ds.length + 1 := by omega
  have hle : ds.length + 2 ≤ cap := by omega
  have hle2 : (ds.length : Int) + 2 ≤ (cap : Int) := by omega
  clear hy hne hrow hcur hcs hct hfl e0 e1 hm0 hm1 hcc
  go_enter Try.func118, Try.ntmps118
  go_wp2_with fail
  go_loopw [5, 6] (fun a i wr => ∃ k : Nat, i = .int .i64 (k : Int) ∧ a = .bool true ∧ k ≤ ds.length ∧ Fr [g] w wr ∧ ∃ cur' : Array Value, wr.heap[g]? = some (.cells cur' tSp (0, 0)) ∧ cur'.size = cap * 2 ∧ ∀ j, k * 2 ≤ j → cur'[j]? = cur[j]?) (fun _ i _ => ds.length - (intOf i).toNat)
  case atStart => exact ⟨0, rfl, rfl, by omega, Fr.refl _ _, cur, HC.out, HCS.out, fun _ _ => rfl⟩
  case round =>
    obtain ⟨k, rfl, rfl, hk, hf, cur', hc', hs', hj⟩ := hrel
    by_cases hlt : k < ds.length
    · obtain ⟨b, off, _, e, hb, y0, y1⟩ := spots_cells HY.out hlt
      cases e
      have hbg := HNE.out (by omega) _ _ _ rfl
      have y0 := (hf.cell (p := ⟨b, off + k * 2, none⟩) hb (by simpa using hbg)).trans y0
      have y1 := (hf.cell (p := ⟨b, off + k * 2 + 1, none⟩) hb (by simpa using hbg)).trans y1
      have hx := HFL.out k hlt
      have x0 : wr.cell? ⟨g, k * 2, none⟩ = some (.int .i64 ds[k].1) := ((cell_of hc' _).trans (hj _ (by omega))).trans hx.1
      have x1 : wr.cell? ⟨g, k * 2 + 1, none⟩ = some (.int .i64 ds[k].2) := ((cell_of hc' _).trans (hj _ (by omega))).trans hx.2
      have xf0 := free_of hc' (k * 2)
      have xf1 := free_of hc' (k * 2 + 1)
      generalize ds[k] = d at *
      have hk1 : (k : Int) < (ds.length : Int) := by omega
      have hk3 : (k : Int) < (ds.length : Int) + 2 := by omega
      have hk2 : (0 : Int) ≤ (k : Int) := by omega
      have HJ := Lib.hid hj
      have HC2 := Lib.hid hc'
      have HS2 := Lib.hid hs'
      have HF := Lib.hid hf
      clear hx hj hc' hs' hf
      go_wp2_with fail
      go_region
      go_wp2
      go_roundw
      case rel =>
        refine ⟨k + 1, by go_num, rfl, by omega, ((HF.out.setCell (.inl (by simp)) _).setCell (.inl (by simp)) _).drew, _, set_of (set_of HC2.out _ _) _ _, by simp [HS2.out], fun j hj => ?_⟩
        rw [Array.getElem?_setIfInBounds_ne (by omega), Array.getElem?_setIfInBounds_ne (by omega)]
        exact HJ.out j (by omega)
      case measure => simp [intOf]; omega
    · obtain rfl : k = ds.length := by omega
      go_wp2
      go_ret
      exact ⟨rfl, hf⟩
end Go.Proofs.Ytldppdafgbipjaa
