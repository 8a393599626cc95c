/-
  cycle.Leads: what lies in memory on the way.
-/
import Derived.Test.YtdlpbpohbkcafaaLeadP
import Derived.Test.YtdlpbpohbkcafaaCRingF
import Derived.Lib.LazyBuf
namespace Go.Proofs.Ytdlpbpohbkcafaa
open Go.RowKit Go.Shelf Go.Sort Go.Proofs

abbrev tLd : TypeId := 47
theorem infoLead : (Try.prog.info? tLd).map (fun i => (i.zero, i.size, i.bytes)) = some (some (.agg #[.int .i64 0, .int .i64 0, .bool false, .int .i64 0, .int .i64 0, .int .i64 0]), 6, 48) := by kernel_rfl
/-- A lead, as a row has it. -/
abbrev ldC (spots : List Sp) (v : Nat) (x : Ld) : List Value := [.int .i64 (spots.getD v (0, 0)).1, .int .i64 (spots.getD v (0, 0)).2, .bool x.ring, .int .i64 (x.steps : Int), .int .i64 (spots.getD x.first (0, 0)).1, .int .i64 (spots.getD x.first (0, 0)).2]
abbrev ld0 : List Value := [.int .i64 0, .int .i64 0, .bool false, .int .i64 0, .int .i64 0, .int .i64 0]
/-- What the row of leads holds: those that are told, else nothing. -/
noncomputable def outF (spots : List Sp) (g : Dg) (st : Nat → Nat) (j : Nat) : Value := (if st (j / 6) = 2 then ldC spots (j / 6) (leadOf g (j / 6)) else ld0).getD (j % 6) default
theorem mkLd (n : Nat) (hn : n ≤ 70000) : ∀ w : World, (Instr.makeSlice 43 (.int .i64 (n : Int)) (.int .i64 (n : Int))).run Try.prog w = .ok (.slice (some ⟨w.heap.size, 0, none⟩) n n) (w.alloc (.cells (madeCells ld0.toArray (n * 6)) tLd)) := by
  intro w
  obtain ⟨i, h1, h2, h3, h4⟩ := info_parts infoLead
  have hbb : (i.bytes : Int) * (n : Int) ≤ 281474976710656 := by
    have h5 : i.bytes * n ≤ 281474976710656 := by
      rw [h4]
      exact Nat.le_trans (Nat.mul_le_mul (Nat.le_refl 48) hn) (by decide)
    rw [← Int.natCast_mul]
    omega
  have hr := run_make (P := Try.prog) w 43 tLd i _ Try.underlying43 h1 h2 .i64 .i64 n n (by omega) (Int.le_refl _) hbb (by omega)
  rw [hr, h3, Int.toNat_natCast]
  rfl
theorem made_ld (w : World) (n : Nat) (spots : List Sp) (g : Dg) : (w.alloc (.cells (madeCells ld0.toArray (n * 6)) tLd)).rowIs w.heap.size tLd (n * 6) (outF spots g fun _ => 0) := by
  have h := World.rowIs_alloc w (madeCells ld0.toArray (n * 6)) tLd (outF spots g fun _ => 0) (fun i hi => by
    rw [size_madeCells] at hi
    have h6 : i % 6 < 6 := Nat.mod_lt _ (by decide)
    unfold madeCells outF
    rw [if_neg (show ¬ (0 : Nat) = 2 by decide), List.getD_eq_getElem?_getD]
    simp [hi, h6])
  rwa [size_madeCells] at h
structure LAt (Ou St n : Nat) (spots : List Sp) (g : Dg) (st : Nat → Nat) (w : World) : Prop where
  state : w.rowIs St tI n fun i => .int .i64 (st i : Int)
  out : w.rowIs Ou tLd (n * 6) (outF spots g st)
structure LBlk (Ou St B : Nat) : Prop where
  o : Ou < B
  s : St < B
  os : Ou ≠ St
section
variable {Ou St B n : Nat} {spots : List Sp} {g : Dg} {st : Nat → Nat} {w w1 : World}
theorem LAt.fr (h : LAt Ou St n spots g st w) {S : List Nat} (hf : Fr S w w1) (h1 : Ou ∉ S) (h2 : St ∉ S) : LAt Ou St n spots g st w1 := ⟨row_fr h.state hf h2, row_fr h.out hf h1⟩
theorem outF_at {j k : Nat} (hk : k < 6) : outF spots g st (j * 6 + k) = (if st j = 2 then ldC spots j (leadOf g j) else ld0).getD k default := by
  unfold outF
  rw [show (j * 6 + k) / 6 = j by omega, show (j * 6 + k) % 6 = k by omega]
theorem LAt.cell (h : LAt Ou St n spots g st w) {v k : Nat} (hv : v < n) (hk : k < 6) (h2 : st v = 2) : w.cell? ⟨Ou, v * 6 + k, none⟩ = some ((ldC spots v (leadOf g v)).getD k default) := by
  rw [h.out.cell (by omega), outF_at hk, if_pos h2]
/-- One is on the way. -/
theorem LAt.one (K : Ou ≠ St) (h : LAt Ou St n spots g st w) {v : Nat} (h2 : st v ≠ 2) : LAt Ou St n spots g (upd st v 1) (w.setCell ⟨St, v, none⟩ (.int .i64 1)) := by
  refine ⟨(h.state.set v _).congr fun i _ => by simp only [upd]; split <;> rfl, (h.out.setOther K _).congr fun i _ => ?_⟩
  unfold outF
  by_cases e : i / 6 = v
  · rw [e, upd_same, if_neg h2, if_neg (by decide)]
  · rw [upd_other e]
/-- One is told. -/
theorem LAt.told (K : Ou ≠ St) (h : LAt Ou St n spots g st w) {v : Nat} {vs : List Value} (hvs : vs = ldC spots v (leadOf g v)) : LAt Ou St n spots g (upd st v 2) ((w.setCells Ou (v * 6) vs).setCell ⟨St, v, none⟩ (.int .i64 2)) := by
  subst hvs
  refine ⟨((Go.rowIs_setCells_other (fun e => K e.symm) _ _ _ h.state).set v _).congr fun i _ => by simp only [upd]; split <;> rfl, ((Go.rowIs_setCells _ _ _ _ h.out).setOther K _).congr fun i _ => ?_⟩
  by_cases e : i / 6 = v
  · have h1 : v * 6 ≤ i ∧ i < v * 6 + 6 := by omega
    have h2 : i - v * 6 = i % 6 := by omega
    rw [if_pos (by simpa using h1)]
    unfold outF
    rw [e, upd_same, if_pos rfl, h2, List.getD_eq_getElem?_getD]
  · have h1 : ¬ (v * 6 ≤ i ∧ i < v * 6 + 6) := by omega
    rw [if_neg (by simpa using h1)]
    unfold outF
    rw [upd_other e]
end
theorem fr_cells (b : Nat) : ∀ (vs : List Value) (o : Nat) (w : World), Fr [b] w (w.setCells b o vs)
  | [], _, w => Fr.refl _ w
  | v :: r, o, w => (fr_cell w b o v).transS (fr_cells b r (o + 1) _)
/-- A row's six cells, set one by one. -/
abbrev six (w : World) (b o : Nat) (x0 x1 x2 x3 x4 x5 : Value) : World := (((((((w.setCell ⟨b, o, none⟩ x0).setCell ⟨b, o + 1, none⟩ x1).setCell ⟨b, o + 2, none⟩ x2).setCell ⟨b, o + 3, none⟩ x3).setCell ⟨b, o + 4, none⟩ x4).setCell ⟨b, o + 5, none⟩ x5).drew)
theorem six_eq (w : World) (b o : Nat) (x0 x1 x2 x3 x4 x5 : Value) : six w b o x0 x1 x2 x3 x4 x5 = (w.setCells b o [x0, x1, x2, x3, x4, x5]).drew := by
  simp only [World.setCells, Nat.add_assoc, Nat.reduceAdd, six]
theorem fr_six (w : World) (b o : Nat) (x0 x1 x2 x3 x4 x5 : Value) : Fr [b] w (six w b o x0 x1 x2 x3 x4 x5) := by
  rw [six_eq]
  exact (fr_cells b _ o w).drew
theorem LAt.told6 {Ou St n : Nat} {spots : List Sp} {g : Dg} {st : Nat → Nat} {w : World} (K : Ou ≠ St) (h : LAt Ou St n spots g st w) {v : Nat} {x0 x1 x2 x3 x4 x5 : Value} (hvs : [x0, x1, x2, x3, x4, x5] = ldC spots v (leadOf g v)) : LAt Ou St n spots g (upd st v 2) ((six w Ou (v * 6) x0 x1 x2 x3 x4 x5).setCell ⟨St, v, none⟩ (.int .i64 2)) := by
  rw [six_eq, World.setCell_drew]
  exact (h.told K hvs).fr ((Fr.refl [] _).drew) (by simp) (by simp)
end Go.Proofs.Ytdlpbpohbkcafaa
