/-
  cycle.Order: what lies in memory on the way.
  cycle.Leads: what lies in memory on the way.
-/
import Derived.Test.YtdlpbpohbkcafaaGreatOrdQ
import Derived.Test.YtdlpbpohbkcafaaGreatCRingF
import Derived.Test.YtdlpbpohbkcafaaGreatLeadP
import Derived.Lib.LazyBuf
namespace Go.Proofs.YtdlpbpohbkcafaaGreat
section
open Go.RowKit Go.Shelf Go.Sort Go.Proofs

abbrev tIS : TypeId := 47
structure OAt (Wt Bk R B n : Nat) (waits : Nat → Nat) (heap : List Nat) (rows : Nat → Value) (bl : Nat → List Nat) (hv : Value) (w : World) : Prop where
  wt : w.rowIs Wt tI n fun i => .int .i64 (waits i : Int)
  bk : w.rowIs Bk tIS n rows
  row : ∀ u, u < n → w.ownsRow B tI 1 (rows u) (bl u).length ((bl u).flatMap nC)
  sep : ∀ u, u < n → ∀ u', u' < n → u ≠ u' → ∀ k, (rows u).ownBlock = some k → (rows u').ownBlock ≠ some k
  heap : HeapAt R B hv heap w
  hsep : ∀ u, u < n → ∀ k, (rows u).ownBlock = some k → hv.ownBlock ≠ some k
structure OBlk (Wt Bk R B : Nat) : Prop where
  w : Wt < B
  b : Bk < B
  wb : Wt ≠ Bk
  r : B ≤ R
section
variable {Wt Bk R B n : Nat} {waits : Nat → Nat} {heap : List Nat} {rows : Nat → Value} {bl : Nat → List Nat} {hv : Value} {w w1 : World}
theorem OAt.fr0 (h : OAt Wt Bk R B n waits heap rows bl hv w) (hf : Fr [] w w1) : OAt Wt Bk R B n waits heap rows bl hv w1 :=
  ⟨row_fr h.wt hf (by simp), row_fr h.bk hf (by simp), fun u hu => owns_fr (h.row u hu) hf (by simp), h.sep, h.heap.fr hf, h.hsep⟩
/-- Rows of another type, or elsewhere: a change of blocks that are none of these. -/
theorem OAt.frS (h : OAt Wt Bk R B n waits heap rows bl hv w) {S : List Nat} (hf : Fr S w w1) (h1 : Wt ∉ S) (h2 : Bk ∉ S) (h3 : R ∉ S) (h4 : ∀ u, u < n → ∀ k, (rows u).ownBlock = some k → k ∉ S) (h5 : ∀ k, hv.ownBlock = some k → k ∉ S) : OAt Wt Bk R B n waits heap rows bl hv w1 :=
  ⟨row_fr h.wt hf h1, row_fr h.bk hf h2, fun u hu => owns_fr (h.row u hu) hf (h4 u hu), h.sep, ⟨hf.heap h.heap.box h3, owns_fr h.heap.row hf h5⟩, h.hsep⟩
theorem own_box {v : Value} {m : Nat} {xs : List Value} {b : Nat} {e T : TypeId} {size : Nat} {cs : Array Value} {fr : Nat × Nat} (h : w.ownsRow b e size v m xs) (hx : w.heap[R]? = some (.cells cs T fr)) (hne : T ≠ e) : ∀ k, v.ownBlock = some k → k ≠ R := by
  intro k hk e
  obtain ⟨_, cur, hc⟩ := own_hp h hk
  rw [e, hx] at hc
  cases hc
  exact hne rfl
/-- The heap anew. -/
theorem OAt.heaped (K : OBlk Wt Bk R B) (h : OAt Wt Bk R B n waits heap rows bl hv w) {hv2 : Value} {heap2 : List Nat} (hf : Fr (R :: hv.ownBlock.toList) w w1) (hH : HeapAt R B hv2 heap2 w1) (hn : ∀ k, hv2.ownBlock = some k → hv.ownBlock = some k ∨ w.heap.size ≤ k) : OAt Wt Bk R B n waits heap2 rows bl hv2 w1 := by
  have low : ∀ b, b < B → b ∉ R :: hv.ownBlock.toList := fun b hb hm => by
    rcases List.mem_cons.1 hm with e | hm
    · have := K.r; omega
    · exact low_not h.heap.row hb hm
  refine ⟨row_fr h.wt hf (low _ K.w), row_fr h.bk hf (low _ K.b), fun u hu => owns_fr (h.row u hu) hf fun k hk hm => ?_, h.sep, hH, fun u hu k hk hk2 => ?_⟩
  · rcases List.mem_cons.1 hm with e | hm
    · exact own_box (h.row u hu) h.heap.box (by decide) k hk e
    · exact h.hsep u hu k hk (by simpa using hm)
  · rcases hn k hk2 with h1 | h1
    · exact h.hsep u hu k hk h1
    · have := ((h.row u hu).lt k hk).2
      omega
theorem OAt.putW (K : OBlk Wt Bk R B) (h : OAt Wt Bk R B n waits heap rows bl hv w) (u x : Nat) : OAt Wt Bk R B n (upd waits u x) heap rows bl hv (w.setCell ⟨Wt, u, none⟩ (.int .i64 (x : Int))) := by
  have hf := fr_cell w Wt u (.int .i64 (x : Int))
  refine ⟨(h.wt.set u _).congr fun i _ => by simp only [upd]; split <;> rfl, h.bk.setOther (fun e => K.wb e.symm) _, fun a ha => owns_fr (h.row a ha) hf (own_low (h.row a ha) K.w), h.sep, ⟨hf.heap h.heap.box (by have := K.r; have := K.w; simp; omega), owns_fr h.heap.row hf (own_low h.heap.row K.w)⟩, h.hsep⟩
/-- One row of back grows. -/
theorem OAt.backed (K : OBlk Wt Bk R B) (h : OAt Wt Bk R B n waits heap rows bl hv w) {u x : Nat} (hu : u < n) {v2 : Value} (hg : w.grownBy w1 (rows u).ownBlock) (ho : w1.ownsRow B tI 1 v2 ((bl u).length + 1) ((bl u).flatMap nC ++ nC x)) (hn : ∀ k, v2.ownBlock = some k → (rows u).ownBlock = some k ∨ w.heap.size ≤ k) :
    OAt Wt Bk R B n waits heap (fun j => if j = u then v2 else rows j) (upd bl u (bl u ++ [x])) hv (w1.setCell ⟨Bk, u, none⟩ v2) := by
  have hf := fr_grown hg
  have hR := (h.row u hu)
  have hf2 := fr_cell w1 Bk u v2
  have hsz := hg.size
  have hrow : ∀ a, a < n → a ≠ u → w1.ownsRow B tI 1 (rows a) (bl a).length ((bl a).flatMap nC) := fun a ha hne => owns_fr (h.row a ha) hf fun k hk hm => h.sep a ha u hu hne k hk (by simpa using hm)
  have hheap : HeapAt R B hv heap w1 := ⟨hf.heap h.heap.box (fun hm => own_box hR h.heap.box (by decide) R (by simpa using hm) rfl), owns_fr h.heap.row hf fun k hk hm => h.hsep u hu k (by simpa using hm) hk⟩
  refine ⟨row_fr (row_fr h.wt hf (low_not hR K.w)) hf2 (by have := K.wb; simp; exact this), (row_fr h.bk hf (low_not hR K.b)).set u v2, fun a ha => ?_, fun a ha a' ha' hne k hk hk2 => ?_, ⟨hf2.heap hheap.box (by have := K.r; have := K.b; simp; omega), owns_fr hheap.row hf2 (own_low hheap.row K.b)⟩, fun a ha k hk hk2 => ?_⟩
  · by_cases e : a = u
    · subst e
      simp only [if_true, upd_same]
      have := owns_fr ho hf2 (own_low ho K.b)
      simpa using this
    · simp only [if_neg e, upd_other e]
      exact owns_fr (hrow a ha e) hf2 (own_low (hrow a ha e) K.b)
  · by_cases e : a = u <;> by_cases e' : a' = u
    · exact hne (e.trans e'.symm)
    · simp only [if_pos e] at hk
      simp only [if_neg e'] at hk2
      rcases hn k hk with h1 | h1
      · exact h.sep u hu a' ha' (fun x => e' x.symm) k h1 hk2
      · have := ((h.row a' ha').lt k hk2).2; omega
    · simp only [if_neg e] at hk
      simp only [if_pos e'] at hk2
      rcases hn k hk2 with h1 | h1
      · exact h.sep u hu a ha (fun x => e x.symm) k h1 hk
      · have := ((h.row a ha).lt k hk).2; omega
    · simp only [if_neg e] at hk
      simp only [if_neg e'] at hk2
      exact h.sep a ha a' ha' hne k hk hk2
  · by_cases e : a = u
    · simp only [if_pos e] at hk
      rcases hn k hk with h1 | h1
      · exact h.hsep u hu k h1 hk2
      · have := (h.heap.row.lt k hk2).2; omega
    · simp only [if_neg e] at hk
      exact h.hsep a ha k hk hk2
end
end
section
open Go.RowKit Go.Shelf Go.Sort Go.Proofs

abbrev tLd : TypeId := 52
theorem infoLead : (Tryz.prog.info? tLd).map (fun i => (i.zero, i.size, i.bytes)) = some (some (.agg #[.int .i64 0, .int .i64 0, .bool false, .int .i64 0, .int .i64 0, .int .i64 0]), 6, 48) := by kernel_rfl
/-- A lead, as a row has it. -/
abbrev ldC (spots : List Sp) (v : Nat) (x : Ld) : List Value := [.int .i64 (spots.getD v (0, 0)).1, .int .i64 (spots.getD v (0, 0)).2, .bool x.ring, .int .i64 (x.steps : Int), .int .i64 (spots.getD x.first (0, 0)).1, .int .i64 (spots.getD x.first (0, 0)).2]
abbrev ld0 : List Value := [.int .i64 0, .int .i64 0, .bool false, .int .i64 0, .int .i64 0, .int .i64 0]
/-- What the row of leads holds: those that are told, else nothing. -/
noncomputable def outF (spots : List Sp) (g : Dg) (st : Nat → Nat) (j : Nat) : Value := (if st (j / 6) = 2 then ldC spots (j / 6) (leadOf g (j / 6)) else ld0).getD (j % 6) default
theorem mkLd (n : Nat) (hn : n ≤ 70000) : ∀ w : World, (Instr.makeSlice 40 (.int .i64 (n : Int)) (.int .i64 (n : Int))).run Tryz.prog w = .ok (.slice (some ⟨w.heap.size, 0, none⟩) n n) (w.alloc (.cells (madeCells ld0.toArray (n * 6)) tLd)) := by
  intro w
  obtain ⟨i, h1, h2, h3, h4⟩ := info_parts infoLead
  have hbb : (i.bytes : Int) * (n : Int) ≤ 281474976710656 := by
    have h5 : i.bytes * n ≤ 281474976710656 := by
      rw [h4]
      exact Nat.le_trans (Nat.mul_le_mul (Nat.le_refl 48) hn) (by decide)
    rw [← Int.natCast_mul]
    omega
  have hr := run_make (P := Tryz.prog) w 40 tLd i _ Tryz.underlying40 h1 h2 .i64 .i64 n n (by omega) (Int.le_refl _) hbb (by omega)
  rw [hr, h3, Int.toNat_natCast]
  rfl
theorem made_ld (w : World) (n : Nat) (spots : List Sp) (g : Dg) : (w.alloc (.cells (madeCells ld0.toArray (n * 6)) tLd)).rowIs w.heap.size tLd (n * 6) (outF spots g fun _ => 0) := by
  have h := World.rowIs_alloc w (madeCells ld0.toArray (n * 6)) tLd (outF spots g fun _ => 0) (fun i hi => by
    rw [size_madeCells] at hi
    have h6 : i % 6 < 6 := Nat.mod_lt _ (by decide)
    unfold madeCells outF
    rw [if_neg (show ¬ (0 : Nat) = 2 by decide), List.getD_eq_getElem?_getD]
    simp [hi, h6])
  rwa [size_madeCells] at h
structure LAt (Ou St n : Nat) (spots : List Sp) (g : Dg) (st : Nat → Nat) (w : World) : Prop where
  state : w.rowIs St tI n fun i => .int .i64 (st i : Int)
  out : w.rowIs Ou tLd (n * 6) (outF spots g st)
structure LBlk (Ou St B : Nat) : Prop where
  o : Ou < B
  s : St < B
  os : Ou ≠ St
section
variable {Ou St B n : Nat} {spots : List Sp} {g : Dg} {st : Nat → Nat} {w w1 : World}
theorem LAt.fr (h : LAt Ou St n spots g st w) {S : List Nat} (hf : Fr S w w1) (h1 : Ou ∉ S) (h2 : St ∉ S) : LAt Ou St n spots g st w1 := ⟨row_fr h.state hf h2, row_fr h.out hf h1⟩
theorem outF_at {j k : Nat} (hk : k < 6) : outF spots g st (j * 6 + k) = (if st j = 2 then ldC spots j (leadOf g j) else ld0).getD k default := by
  unfold outF
  rw [show (j * 6 + k) / 6 = j by omega, show (j * 6 + k) % 6 = k by omega]
theorem LAt.cell (h : LAt Ou St n spots g st w) {v k : Nat} (hv : v < n) (hk : k < 6) (h2 : st v = 2) : w.cell? ⟨Ou, v * 6 + k, none⟩ = some ((ldC spots v (leadOf g v)).getD k default) := by
  rw [h.out.cell (by omega), outF_at hk, if_pos h2]
/-- One is on the way. -/
theorem LAt.one (K : Ou ≠ St) (h : LAt Ou St n spots g st w) {v : Nat} (h2 : st v ≠ 2) : LAt Ou St n spots g (upd st v 1) (w.setCell ⟨St, v, none⟩ (.int .i64 1)) := by
  refine ⟨(h.state.set v _).congr fun i _ => by simp only [upd]; split <;> rfl, (h.out.setOther K _).congr fun i _ => ?_⟩
  unfold outF
  by_cases e : i / 6 = v
  · rw [e, upd_same, if_neg h2, if_neg (by decide)]
  · rw [upd_other e]
/-- One is told. -/
theorem LAt.told (K : Ou ≠ St) (h : LAt Ou St n spots g st w) {v : Nat} {vs : List Value} (hvs : vs = ldC spots v (leadOf g v)) : LAt Ou St n spots g (upd st v 2) ((w.setCells Ou (v * 6) vs).setCell ⟨St, v, none⟩ (.int .i64 2)) := by
  subst hvs
  refine ⟨((Go.rowIs_setCells_other (fun e => K e.symm) _ _ _ h.state).set v _).congr fun i _ => by simp only [upd]; split <;> rfl, ((Go.rowIs_setCells _ _ _ _ h.out).setOther K _).congr fun i _ => ?_⟩
  by_cases e : i / 6 = v
  · have h1 : v * 6 ≤ i ∧ i < v * 6 + 6 := by omega
    have h2 : i - v * 6 = i % 6 := by omega
    rw [if_pos (by simpa using h1)]
    unfold outF
    rw [e, upd_same, if_pos rfl, h2, List.getD_eq_getElem?_getD]
  · have h1 : ¬ (v * 6 ≤ i ∧ i < v * 6 + 6) := by omega
    rw [if_neg (by simpa using h1)]
    unfold outF
    rw [upd_other e]
end
theorem fr_cells (b : Nat) : ∀ (vs : List Value) (o : Nat) (w : World), Fr [b] w (w.setCells b o vs)
  | [], _, w => Fr.refl _ w
  | v :: r, o, w => (fr_cell w b o v).transS (fr_cells b r (o + 1) _)
/-- A row's six cells, set one by one. -/
abbrev six (w : World) (b o : Nat) (x0 x1 x2 x3 x4 x5 : Value) : World := (((((((w.setCell ⟨b, o, none⟩ x0).setCell ⟨b, o + 1, none⟩ x1).setCell ⟨b, o + 2, none⟩ x2).setCell ⟨b, o + 3, none⟩ x3).setCell ⟨b, o + 4, none⟩ x4).setCell ⟨b, o + 5, none⟩ x5).drew)
theorem six_eq (w : World) (b o : Nat) (x0 x1 x2 x3 x4 x5 : Value) : six w b o x0 x1 x2 x3 x4 x5 = (w.setCells b o [x0, x1, x2, x3, x4, x5]).drew := by
  simp only [World.setCells, Nat.add_assoc, Nat.reduceAdd, six]
theorem fr_six (w : World) (b o : Nat) (x0 x1 x2 x3 x4 x5 : Value) : Fr [b] w (six w b o x0 x1 x2 x3 x4 x5) := by
  rw [six_eq]
  exact (fr_cells b _ o w).drew
theorem LAt.told6 {Ou St n : Nat} {spots : List Sp} {g : Dg} {st : Nat → Nat} {w : World} (K : Ou ≠ St) (h : LAt Ou St n spots g st w) {v : Nat} {x0 x1 x2 x3 x4 x5 : Value} (hvs : [x0, x1, x2, x3, x4, x5] = ldC spots v (leadOf g v)) : LAt Ou St n spots g (upd st v 2) ((six w Ou (v * 6) x0 x1 x2 x3 x4 x5).setCell ⟨St, v, none⟩ (.int .i64 2)) := by
  rw [six_eq, World.setCell_drew]
  exact (h.told K hvs).fr ((Fr.refl [] _).drew) (by simp) (by simp)
end
end Go.Proofs.YtdlpbpohbkcafaaGreat
