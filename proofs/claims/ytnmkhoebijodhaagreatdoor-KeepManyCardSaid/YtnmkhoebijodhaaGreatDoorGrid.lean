/-
  Contracts of grid.Table[trace.seen].
-/
import Derived.Test.YtnmkhoebijodhaaGreatDoorLeaf
import Derived.Test.YtnmkhoebijodhaaGreatDoorMap
namespace Go.Proofs.YtnmkhoebijodhaaGreatDoor
open Go.RowKit

theorem run_eqSpot (s t : Sp) (w : World) : (Op.equal 33 (spV s) (spV t)).run Tryz.prog w = .ok (s == t) w := by
  simp [go_sem, Op.equal, Op.maxDepth]
  obtain ⟨a, b⟩ := s
  obtain ⟨c, d⟩ := t
  by_cases h1 : a = c
  · by_cases h2 : b = d
    · simp [h1, h2]
    · simp [h1, h2]
  · simp [h1]

theorem run_chkSpot (e : Bool) (s : Sp) (w : World) : (Instr.checkKey e 10000 33 (spV s)).run Tryz.prog w = .ok () w := by kernel_rfl

theorem spotKey : SpotKey Tryz.prog 33 := ⟨⟨_, Tryz.underlying33⟩, run_eqSpot, run_chkSpot⟩

/-- A table's block and its map's. -/
structure TabIs {α : Type} (T : TypeId) (enc : α → Value) (w : World) (tb mb : Nat) (l : List (Sp × α)) : Prop where
  tab : w.heap[tb]? = some (.cells #[.map (some mb), .slice none 0 0] T (0, 0))
  map : MapIs w mb (valsOf enc l)
theorem TabIs.nodup {α : Type} {T : TypeId} {enc : α → Value} {w : World} {tb mb : Nat} {l : List (Sp × α)} (h : TabIs T enc w tb mb l) : (l.map (·.1)).Nodup := by
  obtain ⟨_, _, _, _, _, _, hn⟩ := h
  rwa [vals_keys] at hn
theorem TabIs.fr {α : Type} {T : TypeId} {enc : α → Value} {S : List Nat} {w w1 : World} {tb mb : Nat} {l : List (Sp × α)} (h : TabIs T enc w tb mb l) (hf : Fr S w w1) (h1 : tb ∉ S) (h2 : mb ∉ S) : TabIs T enc w1 tb mb l := ⟨hf.heap h.tab h1, h.map.fr hf h2⟩
theorem TabIs.ne {α : Type} {T : TypeId} {enc : α → Value} {w : World} {tb mb : Nat} {l : List (Sp × α)} (h : TabIs T enc w tb mb l) : tb ≠ mb := by
  rintro rfl
  obtain ⟨ht, es, clock, hm, _⟩ := h
  rw [ht] at hm
  cases hm

/-- What the trace's table keeps: a value, and a slice. -/
structure Seen where
  v : V
  p : Option Addr
  n : Nat
  c : Nat
abbrev Seen.val (x : Seen) : Value := .agg #[.int .i64 x.v.k, .int .i64 x.v.n, .string x.v.s, .slice x.p x.n x.c]
def seen0 : Seen := ⟨⟨0, 0, ⟨#[]⟩⟩, none, 0, 0⟩

theorem zeroSeen (w : World) : (zeroValue 138).run Tryz.prog w = .ok seen0.val w := by kernel_rfl

attribute [local go_sem] ob_alloc ob_alloc2 ob_alloc3 ob_alloc4 ob_drew ob_drewN ob_setCell

set_option maxHeartbeats 400000 in
theorem getT_core (tb mb : Nat) (s : Sp) (w : World) (es : Array MapEntry) (clock : Nat) (a b : Int) (t : ByteArray) (p : Option Addr) (n c : Nat) (ok : Bool)
    (h0 : w.cell? ⟨tb, 0, none⟩ = some (.map (some mb))) (hlt : tb < w.heap.size) (hb : ob w mb = some (.map es clock)) (hlm : mb < w.heap.size)
    (hlook : ∀ W : World, ob W mb = some (.map es clock) → (Instr.lookup 173 (.map (some mb)) (spV s) true).run Tryz.prog W = .ok (.tuple #[.agg #[.int .i64 a, .int .i64 b, .string t, .slice p n c], .bool ok]) W) :
    Calls Tryz.prog 70 #[.pointer (some ⟨tb, 0, none⟩), spV s] w fun e w1 => e = .returned (.tuple #[.agg #[.int .i64 a, .int .i64 b, .string t, .slice p n c], .bool ok]) ∧ Fr [] w w1 := by
  have hlt1 : ∀ k, tb < w.heap.size + k := fun k => by omega
  have hlm1 : ∀ k, mb < w.heap.size + k := fun k => by omega
  go_enter Tryz.func70, Tryz.ntmps70
  go_wp2
  go_region
  go_wp2
  exact bodyPost_ret (v := .tuple #[.agg #[.int .i64 a, .int .i64 b, .string t, .slice p n c], .bool ok]) (by simp [results, Tryz.results70, go_sem]) rfl ⟨rfl, ((((Fr.refl [] w).alloc _).alloc _).alloc _).drew⟩

theorem getT (tb mb : Nat) (s : Sp) (l : List (Sp × Seen)) (w : World) (h : TabIs 175 Seen.val w tb mb l) :
    Calls Tryz.prog 70 #[.pointer (some ⟨tb, 0, none⟩), spV s] w fun e w1 => e = .returned (.tuple #[((getS s l).getD seen0).val, .bool (getS s l).isSome]) ∧ Fr [] w w1 := by
  obtain ⟨ht, es, clock, hb, hp, hs, hn⟩ := h
  refine getT_core tb mb s w es clock _ _ _ _ _ _ _ (cell_of ht 0) (lt_of ht) hb (lt_of hb) ?_
  intro W hW
  have := run_look (P := Tryz.prog) spotKey Tryz.underlying173 zeroSeen hW hp s true
  rw [this, getS_vals]
  cases getS s l <;> rfl

/-- What Set answers, and what it makes of the list. -/
def setE {α : Type} (s : Sp) (l : List (Sp × α)) : Int := if mayS s.1 s.2 = false then 10 else if (getS s l).isNone ∧ l.length = 65536 then 4 else 0
def setL {α : Type} (s : Sp) (x : α) (l : List (Sp × α)) : List (Sp × α) := if setE s l = 0 then putS s x l else l

set_option maxHeartbeats 800000 in
theorem setT_no (tb : Nat) (s : Sp) (x : Seen) (w : World) (h : mayS s.1 s.2 = false) :
    Calls Tryz.prog 206 #[.pointer (some ⟨tb, 0, none⟩), spV s, x.val] w fun e w1 => e = .returned (.int .i64 10) ∧ Fr [] w w1 := by
  have H := Lib.hid h
  clear h
  go_enter Tryz.func206, Tryz.ntmps206
  go_wp2_with fail
  refine (spotMay _ _ _).mono ?_
  rw [H.out]
  rintro e w1 ⟨rfl, h1⟩
  go_wp2
  go_ret
  exact ⟨rfl, (((Fr.refl [] w).alloc _).alloc _).transS h1⟩

set_option maxHeartbeats 1600000 in
theorem setT_there (tb mb : Nat) (s : Sp) (x : Seen) (w : World) (es : Array MapEntry) (clock : Nat) (O : Obj) (a b : Int) (t : ByteArray) (p : Option Addr) (n c : Nat) (h : mayS s.1 s.2 = true)
    (h0 : w.cell? ⟨tb, 0, none⟩ = some (.map (some mb))) (hlt : tb < w.heap.size) (hb : ob w mb = some (.map es clock)) (hlm : mb < w.heap.size)
    (hlook : ∀ W : World, ob W mb = some (.map es clock) → (Instr.lookup 173 (.map (some mb)) (spV s) true).run Tryz.prog W = .ok (.tuple #[.agg #[.int .i64 a, .int .i64 b, .string t, .slice p n c], .bool true]) W)
    (hput : ∀ W : World, ob W mb = some (.map es clock) → (Instr.mapUpdate 173 (.map (some mb)) (spV s) x.val).run Tryz.prog W = .ok () (ChangeMaps.setBlock W mb O)) :
    Calls Tryz.prog 206 #[.pointer (some ⟨tb, 0, none⟩), spV s, x.val] w fun e w1 => e = .returned (.int .i64 0) ∧ ∃ W, Fr [] w W ∧ w1 = ChangeMaps.setBlock W mb O := by
  have H := Lib.hid h
  clear h
  go_enter Tryz.func206, Tryz.ntmps206
  go_wp2_with fail
  refine (spotMay _ _ _).mono ?_
  rw [H.out]
  rintro e w1 ⟨rfl, h1⟩
  obtain ⟨h2, hb1, hb2, hz⟩ := h1.new2 (by simp)
  clear h1
  have hc1 := cell_of hb1
  have hc2 := cell_of hb2
  have h01 : w1.cell? ⟨tb, 0, none⟩ = some (.map (some mb)) := (h2.cell hlt (by simp)).trans h0
  have hbm : ob w1 mb = some (.map es clock) := (h2.block mb hlm (by simp)).trans hb
  have hz2 := h2.size
  have hlt1 : ∀ k, tb < w1.heap.size + k := fun k => by omega
  have hlm1 : ∀ k, mb < w1.heap.size + k := fun k => by omega
  have hlt2 : tb < w1.heap.size := by omega
  have hlm2 : mb < w1.heap.size := by omega
  have hz3 : ∀ k, w.heap.size < w1.heap.size + k := fun k => by omega
  have hz4 : ∀ k, w.heap.size + 1 < w1.heap.size + k := fun k => by omega
  have hz5 : w.heap.size < w1.heap.size := by omega
  clear h0 hb
  go_wp2
  go_region
  go_wp2
  go_region
  go_wp2
  go_ret
  exact ⟨rfl, _, ((((h2.drew).alloc _).drew)), rfl⟩

set_option maxHeartbeats 1600000 in
theorem setT_full (tb mb : Nat) (s : Sp) (x : Seen) (w : World) (es : Array MapEntry) (clock : Nat) (a b : Int) (t : ByteArray) (p : Option Addr) (n c : Nat) (h : mayS s.1 s.2 = true)
    (h0 : w.cell? ⟨tb, 0, none⟩ = some (.map (some mb))) (hlt : tb < w.heap.size) (hb : ob w mb = some (.map es clock)) (hlm : mb < w.heap.size)
    (hlook : ∀ W : World, ob W mb = some (.map es clock) → (Instr.lookup 173 (.map (some mb)) (spV s) true).run Tryz.prog W = .ok (.tuple #[.agg #[.int .i64 a, .int .i64 b, .string t, .slice p n c], .bool false]) W)
    (hlen : ∀ (ty : TypeId) (W : World), ob W mb = some (.map es clock) → (Builtin.len_ #[173] ty #[.map (some mb)]).run Tryz.prog W = .ok (.int .i64 65536) W) :
    Calls Tryz.prog 206 #[.pointer (some ⟨tb, 0, none⟩), spV s, x.val] w fun e w1 => e = .returned (.int .i64 4) ∧ Fr [] w w1 := by
  have H := Lib.hid h
  clear h
  go_enter Tryz.func206, Tryz.ntmps206
  go_wp2_with fail
  refine (spotMay _ _ _).mono ?_
  rw [H.out]
  rintro e w1 ⟨rfl, h1⟩
  obtain ⟨h2, hb1, hb2, hz⟩ := h1.new2 (by simp)
  clear h1
  have hc1 := cell_of hb1
  have hc2 := cell_of hb2
  have h01 : w1.cell? ⟨tb, 0, none⟩ = some (.map (some mb)) := (h2.cell hlt (by simp)).trans h0
  have hbm : ob w1 mb = some (.map es clock) := (h2.block mb hlm (by simp)).trans hb
  have hz2 := h2.size
  have hlt1 : ∀ k, tb < w1.heap.size + k := fun k => by omega
  have hlm1 : ∀ k, mb < w1.heap.size + k := fun k => by omega
  have hlt2 : tb < w1.heap.size := by omega
  have hlm2 : mb < w1.heap.size := by omega
  have hz3 : ∀ k, w.heap.size < w1.heap.size + k := fun k => by omega
  have hz4 : ∀ k, w.heap.size + 1 < w1.heap.size + k := fun k => by omega
  have hz5 : w.heap.size < w1.heap.size := by omega
  clear h0 hb
  go_wp2
  go_region
  go_wp2
  go_ret
  exact ⟨rfl, (h2.alloc _).drew⟩

set_option maxHeartbeats 1600000 in
theorem setT_new (tb mb : Nat) (s : Sp) (x : Seen) (w : World) (es : Array MapEntry) (clock : Nat) (O : Obj) (a b : Int) (t : ByteArray) (p : Option Addr) (n c len : Nat) (h : mayS s.1 s.2 = true)
    (ht : w.heap[tb]? = some (.cells #[.map (some mb), .slice none 0 0] 175 (0, 0))) (hb : ob w mb = some (.map es clock)) (hlm : mb < w.heap.size) (hne : ¬ mb = tb)
    (hlook : ∀ W : World, ob W mb = some (.map es clock) → (Instr.lookup 173 (.map (some mb)) (spV s) true).run Tryz.prog W = .ok (.tuple #[.agg #[.int .i64 a, .int .i64 b, .string t, .slice p n c], .bool false]) W)
    (hlen : ∀ (ty : TypeId) (W : World), ob W mb = some (.map es clock) → (Builtin.len_ #[173] ty #[.map (some mb)]).run Tryz.prog W = .ok (.int .i64 (len : Int)) W) (hne65 : ((len : Int) == 65536) = false)
    (hput : ∀ W : World, ob W mb = some (.map es clock) → (Instr.mapUpdate 173 (.map (some mb)) (spV s) x.val).run Tryz.prog W = .ok () (ChangeMaps.setBlock W mb O)) :
    Calls Tryz.prog 206 #[.pointer (some ⟨tb, 0, none⟩), spV s, x.val] w fun e w1 => e = .returned (.int .i64 0) ∧ ∃ W, Fr [tb] w W ∧ W.heap[tb]? = some (.cells #[.map (some mb), .slice none 0 0] 175 (0, 0)) ∧ w1 = ChangeMaps.setBlock W mb O := by
  have hlt := lt_of ht
  have H := Lib.hid h
  clear h
  go_enter Tryz.func206, Tryz.ntmps206
  go_wp2_with fail
  refine (spotMay _ _ _).mono ?_
  rw [H.out]
  rintro e w1 ⟨rfl, h2⟩
  obtain ⟨h2, hb1, hb2, hz⟩ := h2.new2 (by simp)
  have hc1 := cell_of hb1
  have hc2 := cell_of hb2
  have h01 : w1.cell? ⟨tb, 0, none⟩ = some (.map (some mb)) := (h2.cell hlt (by simp)).trans (cell_of ht 0)
  have h11 : w1.cell? ⟨tb, 1, none⟩ = some (.slice none 0 0) := (h2.cell hlt (by simp)).trans (cell_of ht 1)
  have hf1 : w1.frozen? ⟨tb, 1, none⟩ = false := (h2.frozen hlt (by simp)).trans (free_of ht 1)
  have hbm : ob w1 mb = some (.map es clock) := (h2.block mb hlm (by simp)).trans hb
  have hz2 := h2.size
  have hlt1 : ∀ k, tb < w1.heap.size + k := fun k => by omega
  have hlm1 : ∀ k, mb < w1.heap.size + k := fun k => by omega
  have hlt2 : tb < w1.heap.size := by omega
  have hlm2 : mb < w1.heap.size := by omega
  have hz3 : ∀ k, w.heap.size < w1.heap.size + k := fun k => by omega
  have hz4 : ∀ k, w.heap.size + 1 < w1.heap.size + k := fun k => by omega
  have hz5 : w.heap.size < w1.heap.size := by omega
  have hn1 : ¬ tb = w.heap.size := by omega
  have hn2 : ¬ tb = w.heap.size + 1 := by omega
  have HT := Lib.hid (h2.heap ht (by simp))
  clear ht hb
  go_wp2
  go_region
  go_wp2
  go_region
  go_wp2
  go_ret
  exact ⟨rfl, _, ((((h2.mono (by simp)).setCell (.inl (by simp)) _).alloc _).drew).drew, (Below.heap_alloc _ _ tb (by simpa using hlt2)).trans (set_of HT.out 1 _), rfl⟩

theorem setT (tb mb : Nat) (s : Sp) (x : Seen) (l : List (Sp × Seen)) (w : World) (h : TabIs 175 Seen.val w tb mb l) :
    Calls Tryz.prog 206 #[.pointer (some ⟨tb, 0, none⟩), spV s, x.val] w fun e w1 => e = .returned (.int .i64 (setE s l)) ∧ TabIs 175 Seen.val w1 tb mb (setL s x l) ∧ Fr [tb, mb] w w1 := by
  have hne := h.ne
  have hT := h
  obtain ⟨ht, es, clock, hb, hp, hs, hn⟩ := h
  have hlook : ∀ W : World, ob W mb = some (.map es clock) → (Instr.lookup 173 (.map (some mb)) (spV s) true).run Tryz.prog W = .ok (.tuple #[((getS s l).getD seen0).val, .bool (getS s l).isSome]) W := by
    intro W hW
    have := run_look (P := Tryz.prog) spotKey Tryz.underlying173 zeroSeen hW hp s true
    rw [this, getS_vals]
    cases getS s l <;> rfl
  have hlen : ∀ (ty : TypeId) (W : World), ob W mb = some (.map es clock) → (Builtin.len_ #[173] ty #[.map (some mb)]).run Tryz.prog W = .ok (.int .i64 (l.length : Int)) W := by
    intro ty W hW
    have := run_lenMap (P := Tryz.prog) Tryz.underlying173 ty hW hp
    rwa [vals_length] at this
  have hput := fun (W : World) (hW : ob W mb = some (.map es clock)) => run_put (P := Tryz.prog) spotKey Tryz.underlying173 hW hp s x.val
  cases hm : mayS s.1 s.2 with
  | false =>
    refine (setT_no tb s x w hm).mono ?_
    rintro e w1 ⟨rfl, h1⟩
    exact ⟨ret_int (by simp [setE, hm]), by simpa [setL, setE, hm] using hT.fr h1 (by simp) (by simp), h1.mono (by simp)⟩
  | true =>
    cases hg : getS s l with
    | some y =>
      rw [hg] at hlook
      refine (setT_there tb mb s x w es clock _ _ _ _ _ _ _ hm (cell_of ht 0) (lt_of ht) hb (lt_of hb) hlook hput).mono ?_
      rintro e w1 ⟨rfl, W, h1, rfl⟩
      have e0 : setE s l = 0 := by simp [setE, hm, hg]
      have e1 : setL s x l = putS s x l := by simp [setL, e0]
      have hbW := h1.heap hb (by simp)
      refine ⟨by rw [e0], ⟨?_, ?_⟩, (h1.mono (by simp)).setBlock hbW (.inl (by simp)) _⟩
      · rw [ChangeMaps.heap_setBlock_other hbW _ hne]
        exact h1.heap ht (by simp)
      · rw [e1, ← putS_vals]
        exact MapIs.put hbW hp hs hn s x.val
    | none =>
      rw [hg] at hlook
      by_cases hl : l.length = 65536
      · rw [hl] at hlen
        refine (setT_full tb mb s x w es clock _ _ _ _ _ _ hm (cell_of ht 0) (lt_of ht) hb (lt_of hb) hlook hlen).mono ?_
        rintro e w1 ⟨rfl, h1⟩
        have e0 : setE s l = 4 := by simp [setE, hm, hg, hl]
        have e1 : setL s x l = l := by simp [setL, e0]
        exact ⟨by rw [e0], by rw [e1]; exact hT.fr h1 (by simp) (by simp), h1.mono (by simp)⟩
      · refine (setT_new tb mb s x w es clock _ _ _ _ _ _ _ l.length hm ht hb (lt_of hb) (fun h => hne h.symm) hlook hlen (by simpa using (by omega : ¬ ((l.length : Int) = 65536))) hput).mono ?_
        rintro e w1 ⟨rfl, W, h1, h2, rfl⟩
        have e0 : setE s l = 0 := by simp [setE, hm, hg, hl]
        have e1 : setL s x l = putS s x l := by simp [setL, e0]
        have hbW := h1.heap hb (by simpa using fun h => hne h.symm)
        refine ⟨by rw [e0], ⟨?_, ?_⟩, (h1.mono (by simp)).setBlock hbW (.inl (by simp)) _⟩
        · rw [ChangeMaps.heap_setBlock_other hbW _ hne]
          exact h2
        · rw [e1, ← putS_vals]
          exact MapIs.put hbW hp hs hn s x.val

theorem newT (w : World) : Calls Tryz.prog 56 #[] w fun e w1 => ∃ tb mb, e = .returned (.pointer (some ⟨tb, 0, none⟩)) ∧ w.heap.size ≤ tb ∧ w.heap.size ≤ mb ∧ TabIs 175 Seen.val w1 tb mb [] ∧ Fr [] w w1 := by
  have hmm := @run_makeMap Tryz.prog
  go_enter Tryz.func56, Tryz.ntmps56
  go_wp2
  go_ret
  refine ⟨w.heap.size + 1, w.heap.size, rfl, by omega, by omega, ⟨?_, ?_⟩, ((Fr.refl [] w).alloc _).alloc _⟩
  · have := heap_new (w.alloc (.map #[] 0)) (.cells #[.map (some w.heap.size), .slice none 0 0] 175)
    simpa using this
  · exact (MapIs.made w).fr ((Fr.refl [] _).alloc _) (by simp)
end Go.Proofs.YtnmkhoebijodhaaGreatDoor
