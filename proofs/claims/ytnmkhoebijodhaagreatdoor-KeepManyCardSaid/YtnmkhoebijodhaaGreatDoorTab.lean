/-
  Contracts of grid.Table[T]: Get, Set, New, Len, Drop.
-/
import Derived.Test.YtnmkhoebijodhaaGreatDoorIter
namespace Go.Proofs.YtnmkhoebijodhaaGreatDoor
open Go.RowKit
attribute [local go_sem] ob_alloc ob_alloc2 ob_alloc3 ob_alloc4 ob_drew ob_drewN ob_setCell

theorem heap_setBlock_ne (w : World) (b : Nat) (o : Obj) {i : Nat} (h : i ≠ b) : (ChangeMaps.setBlock w b o).heap[i]? = w.heap[i]? := by
  simp [ChangeMaps.setBlock, Ne.symm h]
theorem idx_none {α : Type} {s : Sp} {l : List (Sp × α)} (h : getS s l = none) : idxS s l = none := by
  have := getS_idx s l
  rw [h] at this
  cases hi : idxS s l with
  | none => rfl
  | some j => rw [hi] at this; cases this

theorem zeroTCell (w : World) : (zeroValue 106).run Tryz.prog w = .ok (Cel.val cel0) w := by kernel_rfl

set_option maxRecDepth 100000 in
set_option maxHeartbeats 400000 in
theorem getC_Cell (tb mb : Nat) (s : Sp) (w : World) (es : Array MapEntry) (clock : Nat) (t : ByteArray) (k : Int) (xe : Ex) (ok : Bool)
    (h0 : w.cell? ⟨tb, 0, none⟩ = some (.map (some mb))) (hlt : tb < w.heap.size) (hb : ob w mb = some (.map es clock)) (hlm : mb < w.heap.size)
    (hlook : ∀ W : World, ob W mb = some (.map es clock) → (Instr.lookup 161 (.map (some mb)) (spV s) true).run Tryz.prog W = .ok (.tuple #[.agg #[.string t, .int .i64 k, .int .i64 xe.k, .int .i64 xe.o, .int .i64 xe.n, .string xe.s, .int .i64 xe.r, .int .i64 xe.c, .bool xe.pr, .bool xe.pc, .int .i64 xe.r2, .int .i64 xe.c2, .bool xe.pr2, .bool xe.pc2, .int .i64 xe.f, .slice xe.kp xe.kn xe.kc], .bool ok]) W) :
    Calls Tryz.prog 68 #[.pointer (some ⟨tb, 0, none⟩), spV s] w fun e w1 => e = .returned (.tuple #[.agg #[.string t, .int .i64 k, .int .i64 xe.k, .int .i64 xe.o, .int .i64 xe.n, .string xe.s, .int .i64 xe.r, .int .i64 xe.c, .bool xe.pr, .bool xe.pc, .int .i64 xe.r2, .int .i64 xe.c2, .bool xe.pr2, .bool xe.pc2, .int .i64 xe.f, .slice xe.kp xe.kn xe.kc], .bool ok]) ∧ Fr [] w w1 := by
  have hlt1 : ∀ k, tb < w.heap.size + k := fun k => by omega
  have hlm1 : ∀ k, mb < w.heap.size + k := fun k => by omega
  go_enter Tryz.func68, Tryz.ntmps68
  go_wp2
  go_region
  go_wp2
  refine bodyPost_ret (v := .tuple #[.agg #[.string t, .int .i64 k, .int .i64 xe.k, .int .i64 xe.o, .int .i64 xe.n, .string xe.s, .int .i64 xe.r, .int .i64 xe.c, .bool xe.pr, .bool xe.pc, .int .i64 xe.r2, .int .i64 xe.c2, .bool xe.pr2, .bool xe.pc2, .int .i64 xe.f, .slice xe.kp xe.kn xe.kc], .bool ok]) (by simp [results, Tryz.results68, go_sem]) rfl ⟨rfl, ?_⟩
  repeat' (first | exact Fr.refl _ _ | apply Fr.drew | apply Fr.alloc)

set_option maxRecDepth 100000 in
theorem get_Cell (tb mb : Nat) (s : Sp) (l : List (Sp × Cel)) (w : World) (h : TabIs 163 (fun x : Cel => Cel.val x) w tb mb l) :
    Calls Tryz.prog 68 #[.pointer (some ⟨tb, 0, none⟩), spV s] w fun e w1 => e = .returned (.tuple #[((getS s l).getD cel0).val, .bool (getS s l).isSome]) ∧ Fr [] w w1 := by
  obtain ⟨ht, es, clock, hb, hp, hs, hn⟩ := h
  refine getC_Cell tb mb s w es clock _ _ _ _ (cell_of ht 0) (lt_of ht) hb (lt_of hb) ?_
  intro W hW
  have := run_look (P := Tryz.prog) spotKey Tryz.underlying161 zeroTCell hW hp s true
  rw [this, getS_vals]
  cases getS s l <;> rfl

set_option maxRecDepth 100000 in
set_option maxHeartbeats 800000 in
theorem setN_Cell (tb : Nat) (s : Sp) (x : Cel) (w : World) (h : mayS s.1 s.2 = false) :
    Calls Tryz.prog 59 #[.pointer (some ⟨tb, 0, none⟩), spV s, Cel.val x] w fun e w1 => e = .returned (.int .i64 10) ∧ Fr [] w w1 := by
  have H := Lib.hid h
  clear h
  go_enter Tryz.func59, Tryz.ntmps59
  go_wp2_with fail
  refine (spotMay _ _ _).mono ?_
  rw [H.out]
  rintro e w1 ⟨rfl, h1⟩
  go_wp2
  go_ret
  refine ⟨rfl, Fr.transS (b := _) ?_ h1⟩
  repeat' (first | exact Fr.refl _ _ | apply Fr.drew | apply Fr.alloc)

set_option maxRecDepth 100000 in
set_option maxHeartbeats 1600000 in
theorem setO_Cell (tb mb : Nat) (s : Sp) (x : Cel) (w : World) (es : Array MapEntry) (clock : Nat) (O : Obj) (t : ByteArray) (k : Int) (xe : Ex) (h : mayS s.1 s.2 = true)
    (h0 : w.cell? ⟨tb, 0, none⟩ = some (.map (some mb))) (hlt : tb < w.heap.size) (hb : ob w mb = some (.map es clock)) (hlm : mb < w.heap.size)
    (hlook : ∀ W : World, ob W mb = some (.map es clock) → (Instr.lookup 161 (.map (some mb)) (spV s) true).run Tryz.prog W = .ok (.tuple #[.agg #[.string t, .int .i64 k, .int .i64 xe.k, .int .i64 xe.o, .int .i64 xe.n, .string xe.s, .int .i64 xe.r, .int .i64 xe.c, .bool xe.pr, .bool xe.pc, .int .i64 xe.r2, .int .i64 xe.c2, .bool xe.pr2, .bool xe.pc2, .int .i64 xe.f, .slice xe.kp xe.kn xe.kc], .bool true]) W)
    (hput : ∀ W : World, ob W mb = some (.map es clock) → (Instr.mapUpdate 161 (.map (some mb)) (spV s) (Cel.val x)).run Tryz.prog W = .ok () (ChangeMaps.setBlock W mb O)) :
    Calls Tryz.prog 59 #[.pointer (some ⟨tb, 0, none⟩), spV s, Cel.val x] w fun e w1 => e = .returned (.int .i64 0) ∧ ∃ W, Fr [] w W ∧ w1 = ChangeMaps.setBlock W mb O := by
  have H := Lib.hid h
  clear h
  go_enter Tryz.func59, Tryz.ntmps59
  go_wp2_with fail
  refine (spotMay _ _ _).mono ?_
  rw [H.out]
  rintro e w1 ⟨rfl, h1⟩
  obtain ⟨h2, hb1, hb2, hz⟩ := h1.new2 (by simp)
  clear h1
  have hc1 := cell_of hb1
  have hc2 := cell_of hb2
  have h01 : w1.cell? ⟨tb, 0, none⟩ = some (.map (some mb)) := (h2.cell hlt (by simp)).trans h0
  have hbm : ob w1 mb = some (.map es clock) := (h2.block mb hlm (by simp)).trans hb
  have hz2 := h2.size
  have hlt1 : ∀ k, tb < w1.heap.size + k := fun k => by omega
  have hlm1 : ∀ k, mb < w1.heap.size + k := fun k => by omega
  have hlt2 : tb < w1.heap.size := by omega
  have hlm2 : mb < w1.heap.size := by omega
  have hz3 : ∀ k, w.heap.size < w1.heap.size + k := fun k => by omega
  have hz4 : ∀ k, w.heap.size + 1 < w1.heap.size + k + 0 := fun k => by omega
  have hz5 : w.heap.size < w1.heap.size := by omega
  clear h0 hb
  go_wp2
  go_region
  go_wp2
  go_region
  go_wp2
  go_ret
  refine ⟨rfl, _, ?_, rfl⟩
  repeat' (first | exact h2 | apply Fr.drew | apply Fr.alloc)

set_option maxRecDepth 100000 in
set_option maxHeartbeats 1600000 in
theorem setF_Cell (tb mb : Nat) (s : Sp) (x : Cel) (w : World) (es : Array MapEntry) (clock : Nat) (t : ByteArray) (k : Int) (xe : Ex) (h : mayS s.1 s.2 = true)
    (h0 : w.cell? ⟨tb, 0, none⟩ = some (.map (some mb))) (hlt : tb < w.heap.size) (hb : ob w mb = some (.map es clock)) (hlm : mb < w.heap.size)
    (hlook : ∀ W : World, ob W mb = some (.map es clock) → (Instr.lookup 161 (.map (some mb)) (spV s) true).run Tryz.prog W = .ok (.tuple #[.agg #[.string t, .int .i64 k, .int .i64 xe.k, .int .i64 xe.o, .int .i64 xe.n, .string xe.s, .int .i64 xe.r, .int .i64 xe.c, .bool xe.pr, .bool xe.pc, .int .i64 xe.r2, .int .i64 xe.c2, .bool xe.pr2, .bool xe.pc2, .int .i64 xe.f, .slice xe.kp xe.kn xe.kc], .bool false]) W)
    (hlen : ∀ (ty : TypeId) (W : World), ob W mb = some (.map es clock) → (Builtin.len_ #[161] ty #[.map (some mb)]).run Tryz.prog W = .ok (.int .i64 65536) W) :
    Calls Tryz.prog 59 #[.pointer (some ⟨tb, 0, none⟩), spV s, Cel.val x] w fun e w1 => e = .returned (.int .i64 4) ∧ Fr [] w w1 := by
  have H := Lib.hid h
  clear h
  go_enter Tryz.func59, Tryz.ntmps59
  go_wp2_with fail
  refine (spotMay _ _ _).mono ?_
  rw [H.out]
  rintro e w1 ⟨rfl, h1⟩
  obtain ⟨h2, hb1, hb2, hz⟩ := h1.new2 (by simp)
  clear h1
  have hc1 := cell_of hb1
  have hc2 := cell_of hb2
  have h01 : w1.cell? ⟨tb, 0, none⟩ = some (.map (some mb)) := (h2.cell hlt (by simp)).trans h0
  have hbm : ob w1 mb = some (.map es clock) := (h2.block mb hlm (by simp)).trans hb
  have hz2 := h2.size
  have hlt1 : ∀ k, tb < w1.heap.size + k := fun k => by omega
  have hlm1 : ∀ k, mb < w1.heap.size + k := fun k => by omega
  have hlt2 : tb < w1.heap.size := by omega
  have hlm2 : mb < w1.heap.size := by omega
  have hz3 : ∀ k, w.heap.size < w1.heap.size + k := fun k => by omega
  have hz4 : ∀ k, w.heap.size + 1 < w1.heap.size + k + 0 := fun k => by omega
  have hz5 : w.heap.size < w1.heap.size := by omega
  clear h0 hb
  go_wp2
  go_region
  go_wp2
  go_ret
  refine ⟨rfl, ?_⟩
  repeat' (first | exact h2 | apply Fr.drew | apply Fr.alloc)

set_option maxRecDepth 100000 in
set_option maxHeartbeats 1600000 in
theorem setW_Cell (tb mb : Nat) (s : Sp) (x : Cel) (w : World) (es : Array MapEntry) (clock : Nat) (O : Obj) (t : ByteArray) (k : Int) (xe : Ex) (len : Nat) (h : mayS s.1 s.2 = true)
    (ht : w.heap[tb]? = some (.cells #[.map (some mb), .slice none 0 0] 163 (0, 0))) (hb : ob w mb = some (.map es clock)) (hlm : mb < w.heap.size) (hne : ¬ mb = tb)
    (hlook : ∀ W : World, ob W mb = some (.map es clock) → (Instr.lookup 161 (.map (some mb)) (spV s) true).run Tryz.prog W = .ok (.tuple #[.agg #[.string t, .int .i64 k, .int .i64 xe.k, .int .i64 xe.o, .int .i64 xe.n, .string xe.s, .int .i64 xe.r, .int .i64 xe.c, .bool xe.pr, .bool xe.pc, .int .i64 xe.r2, .int .i64 xe.c2, .bool xe.pr2, .bool xe.pc2, .int .i64 xe.f, .slice xe.kp xe.kn xe.kc], .bool false]) W)
    (hlen : ∀ (ty : TypeId) (W : World), ob W mb = some (.map es clock) → (Builtin.len_ #[161] ty #[.map (some mb)]).run Tryz.prog W = .ok (.int .i64 (len : Int)) W) (hne65 : ((len : Int) == 65536) = false)
    (hput : ∀ W : World, ob W mb = some (.map es clock) → (Instr.mapUpdate 161 (.map (some mb)) (spV s) (Cel.val x)).run Tryz.prog W = .ok () (ChangeMaps.setBlock W mb O)) :
    Calls Tryz.prog 59 #[.pointer (some ⟨tb, 0, none⟩), spV s, Cel.val x] w fun e w1 => e = .returned (.int .i64 0) ∧ ∃ W, Fr [tb] w W ∧ W.heap[tb]? = some (.cells #[.map (some mb), .slice none 0 0] 163 (0, 0)) ∧ w1 = ChangeMaps.setBlock W mb O := by
  have hlt := lt_of ht
  have h0 := cell_of ht 0
  have H := Lib.hid h
  clear h
  go_enter Tryz.func59, Tryz.ntmps59
  go_wp2_with fail
  refine (spotMay _ _ _).mono ?_
  rw [H.out]
  rintro e w1 ⟨rfl, h1⟩
  obtain ⟨h2, hb1, hb2, hz⟩ := h1.new2 (by simp)
  clear h1
  have hc1 := cell_of hb1
  have hc2 := cell_of hb2
  have h01 : w1.cell? ⟨tb, 0, none⟩ = some (.map (some mb)) := (h2.cell hlt (by simp)).trans h0
  have hbm : ob w1 mb = some (.map es clock) := (h2.block mb hlm (by simp)).trans hb
  have hz2 := h2.size
  have hlt1 : ∀ k, tb < w1.heap.size + k := fun k => by omega
  have hlm1 : ∀ k, mb < w1.heap.size + k := fun k => by omega
  have hlt2 : tb < w1.heap.size := by omega
  have hlm2 : mb < w1.heap.size := by omega
  have hz3 : ∀ k, w.heap.size < w1.heap.size + k := fun k => by omega
  have hz4 : ∀ k, w.heap.size + 1 < w1.heap.size + k + 0 := fun k => by omega
  have hz5 : w.heap.size < w1.heap.size := by omega
  clear h0 hb
  have h11 : w1.cell? ⟨tb, 1, none⟩ = some (.slice none 0 0) := (h2.cell hlt (by simp)).trans (cell_of ht 1)
  have hf1 : w1.frozen? ⟨tb, 1, none⟩ = false := (h2.frozen hlt (by simp)).trans (free_of ht 1)
  have hn1 : ¬ tb = w.heap.size := by omega
  have hn2 : ¬ tb = w.heap.size + 1 := by omega
  have HT := Lib.hid (h2.heap ht (by simp))
  clear ht
  go_wp2
  go_region
  go_wp2
  go_region
  go_wp2
  go_ret
  refine ⟨rfl, _, ?_, ?_, rfl⟩
  · repeat' (first | exact h2.mono (by simp) | exact (h2.mono (by simp)).setCell (.inl (by simp)) _ | apply Fr.drew | apply Fr.alloc)
  · first | exact set_of HT.out 1 _ | exact (Below.heap_alloc _ _ tb (by simpa using hlt2)).trans (set_of HT.out 1 _)

set_option maxRecDepth 100000 in
theorem set_Cell (tb mb : Nat) (s : Sp) (x : Cel) (l : List (Sp × Cel)) (w : World) (h : TabIs 163 (fun x : Cel => Cel.val x) w tb mb l) :
    Calls Tryz.prog 59 #[.pointer (some ⟨tb, 0, none⟩), spV s, Cel.val x] w fun e w1 => e = .returned (.int .i64 (setE s l)) ∧ TabIs 163 (fun x : Cel => Cel.val x) w1 tb mb (setL s x l) ∧ Fr [tb, mb] w w1 := by
  have hne := h.ne
  have hT := h
  obtain ⟨ht, es, clock, hb, hp, hs, hn⟩ := h
  have hlook : ∀ W : World, ob W mb = some (.map es clock) → (Instr.lookup 161 (.map (some mb)) (spV s) true).run Tryz.prog W = .ok (.tuple #[((getS s l).getD cel0).val, .bool (getS s l).isSome]) W := by
    intro W hW
    have := run_look (P := Tryz.prog) spotKey Tryz.underlying161 zeroTCell hW hp s true
    rw [this, getS_vals]
    cases getS s l <;> rfl
  have hlen : ∀ (ty : TypeId) (W : World), ob W mb = some (.map es clock) → (Builtin.len_ #[161] ty #[.map (some mb)]).run Tryz.prog W = .ok (.int .i64 (l.length : Int)) W := by
    intro ty W hW
    have := run_lenMap (P := Tryz.prog) Tryz.underlying161 ty hW hp
    rwa [vals_length] at this
  have hput := fun (W : World) (hW : ob W mb = some (.map es clock)) => run_put (P := Tryz.prog) spotKey Tryz.underlying161 hW hp s (Cel.val x)
  cases hm : mayS s.1 s.2 with
  | false =>
    refine (setN_Cell tb s x w hm).mono ?_
    rintro e w1 ⟨rfl, h1⟩
    exact ⟨ret_int (by simp [setE, hm]), by simpa [setL, setE, hm] using hT.fr h1 (by simp) (by simp), h1.mono (by simp)⟩
  | true =>
    cases hg : getS s l with
    | some y =>
      rw [hg] at hlook
      refine (setO_Cell tb mb s x w es clock _ _ _ _ hm (cell_of ht 0) (lt_of ht) hb (lt_of hb) hlook hput).mono ?_
      rintro e w1 ⟨rfl, W, h1, rfl⟩
      have e0 : setE s l = 0 := by simp [setE, hm, hg]
      have e1 : setL s x l = putS s x l := by simp [setL, e0]
      have hbW := h1.heap hb (by simp)
      refine ⟨by rw [e0], ⟨?_, ?_⟩, (h1.mono (by simp)).setBlock hbW (.inl (by simp)) _⟩
      · rw [ChangeMaps.heap_setBlock_other hbW _ hne]
        exact h1.heap ht (by simp)
      · rw [e1, ← putS_vals]
        exact MapIs.put hbW hp hs hn s (Cel.val x)
    | none =>
      rw [hg] at hlook
      by_cases hl : l.length = 65536
      · rw [hl] at hlen
        refine (setF_Cell tb mb s x w es clock _ _ _ hm (cell_of ht 0) (lt_of ht) hb (lt_of hb) hlook hlen).mono ?_
        rintro e w1 ⟨rfl, h1⟩
        have e0 : setE s l = 4 := by simp [setE, hm, hg, hl]
        have e1 : setL s x l = l := by simp [setL, e0]
        exact ⟨by rw [e0], by rw [e1]; exact hT.fr h1 (by simp) (by simp), h1.mono (by simp)⟩
      · refine (setW_Cell tb mb s x w es clock _ _ _ _ l.length hm ht hb (lt_of hb) (fun h => hne h.symm) hlook hlen (by simpa using (by omega : ¬ ((l.length : Int) = 65536))) hput).mono ?_
        rintro e w1 ⟨rfl, W, h1, h2, rfl⟩
        have e0 : setE s l = 0 := by simp [setE, hm, hg, hl]
        have e1 : setL s x l = putS s x l := by simp [setL, e0]
        have hbW := h1.heap hb (by simpa using fun h => hne h.symm)
        refine ⟨by rw [e0], ⟨?_, ?_⟩, (h1.mono (by simp)).setBlock hbW (.inl (by simp)) _⟩
        · rw [ChangeMaps.heap_setBlock_other hbW _ hne]
          exact h2
        · rw [e1, ← putS_vals]
          exact MapIs.put hbW hp hs hn s (Cel.val x)

set_option maxRecDepth 100000 in
theorem new_Cell (w : World) : Calls Tryz.prog 57 #[] w fun e w1 => ∃ tb mb, e = .returned (.pointer (some ⟨tb, 0, none⟩)) ∧ w.heap.size ≤ tb ∧ w.heap.size ≤ mb ∧ TabIs 163 (fun x : Cel => Cel.val x) w1 tb mb [] ∧ Fr [] w w1 := by
  have hmm := @run_makeMap Tryz.prog
  go_enter Tryz.func57, Tryz.ntmps57
  go_wp2
  go_ret
  refine ⟨w.heap.size + 1, w.heap.size, rfl, by omega, by omega, ⟨?_, ?_⟩, ((Fr.refl [] w).alloc _).alloc _⟩
  · have := heap_new (w.alloc (.map #[] 0)) (.cells #[.map (some w.heap.size), .slice none 0 0] 163)
    simpa using this
  · exact (MapIs.made w).fr ((Fr.refl [] _).alloc _) (by simp)

set_option maxRecDepth 100000 in
theorem len_Cell (tb mb : Nat) (l : List (Sp × Cel)) (w : World) (h : TabIs 163 (fun x : Cel => Cel.val x) w tb mb l) :
    Calls Tryz.prog 41 #[.pointer (some ⟨tb, 0, none⟩)] w fun e w1 => e = .returned (.int .i64 (l.length : Int)) ∧ Fr [] w w1 := by
  obtain ⟨ht, es, clock, hob, hp, _, _⟩ := h
  have h0 := cell_of ht 0
  have hb : ob w mb = some (.map es clock) := hob
  have hlen : ∀ (ty : TypeId) (W : World), ob W mb = some (.map es clock) → (Builtin.len_ #[161] ty #[.map (some mb)]).run Tryz.prog W = .ok (.int .i64 (l.length : Int)) W := by
    intro ty W hW
    have := run_lenMap (P := Tryz.prog) Tryz.underlying161 ty hW hp
    rwa [vals_length] at this
  clear hp hob
  go_enter Tryz.func41, Tryz.ntmps41
  go_wp2
  go_ret
  refine ⟨rfl, ?_⟩
  repeat' (first | exact Fr.refl _ _ | apply Fr.drew | apply Fr.alloc)

theorem zeroTSeen (w : World) : (zeroValue 138).run Tryz.prog w = .ok (Seen.val seen0) w := zeroSeen w

set_option maxHeartbeats 1600000 in
theorem dropN_Seen (tb mb : Nat) (s : Sp) (w : World) (es : Array MapEntry) (clock : Nat) (a b : Int) (t : ByteArray) (p : Option Addr) (n c : Nat)
    (h0 : w.cell? ⟨tb, 0, none⟩ = some (.map (some mb))) (hlt : tb < w.heap.size) (hb : ob w mb = some (.map es clock)) (hlm : mb < w.heap.size)
    (hlook : ∀ W : World, ob W mb = some (.map es clock) → (Instr.lookup 173 (.map (some mb)) (spV s) true).run Tryz.prog W = .ok (.tuple #[.agg #[.int .i64 a, .int .i64 b, .string t, .slice p n c], .bool false]) W) :
    Calls Tryz.prog 126 #[.pointer (some ⟨tb, 0, none⟩), spV s] w fun e w1 => e = .returned (.bool false) ∧ Fr [] w w1 := by
  have hlt1 : ∀ k, tb < w.heap.size + k := fun k => by omega
  have hlm1 : ∀ k, mb < w.heap.size + k := fun k => by omega
  go_enter Tryz.func126, Tryz.ntmps126
  go_wp2
  go_region
  go_wp2
  go_ret
  refine ⟨rfl, ?_⟩
  repeat' (first | exact Fr.refl _ _ | apply Fr.drew | apply Fr.alloc)

set_option maxHeartbeats 1600000 in
theorem dropY_Seen (tb mb : Nat) (s : Sp) (w : World) (es : Array MapEntry) (clock : Nat) (O : Obj) (a b : Int) (t : ByteArray) (p : Option Addr) (n c : Nat)
    (ht : w.heap[tb]? = some (.cells #[.map (some mb), .slice none 0 0] 175 (0, 0))) (hb : ob w mb = some (.map es clock)) (hlm : mb < w.heap.size) (hne : ¬ mb = tb)
    (hlook : ∀ W : World, ob W mb = some (.map es clock) → (Instr.lookup 173 (.map (some mb)) (spV s) true).run Tryz.prog W = .ok (.tuple #[.agg #[.int .i64 a, .int .i64 b, .string t, .slice p n c], .bool true]) W)
    (hdel : ∀ (ty x : TypeId) (W : World), ob W mb = some (.map es clock) → (Builtin.delete_ #[173, x] ty #[.map (some mb), spV s]).run Tryz.prog W = .ok (.tuple #[]) (ChangeMaps.setBlock W mb O)) :
    Calls Tryz.prog 126 #[.pointer (some ⟨tb, 0, none⟩), spV s] w fun e w1 => e = .returned (.bool true) ∧ ∃ W, Fr [] w W ∧ Fr [tb] (ChangeMaps.setBlock W mb O) w1 ∧ w1.heap[tb]? = some (.cells #[.map (some mb), .slice none 0 0] 175 (0, 0)) := by
  have hlt := lt_of ht
  have h0 := cell_of ht 0
  have h1 := cell_of ht 1
  have hf := free_of ht 1
  have hc : ∀ W : World, (ChangeMaps.setBlock W mb O).cell? ⟨tb, 1, none⟩ = W.cell? ⟨tb, 1, none⟩ := fun W => World.cell?_of_block (heap_setBlock_ne W mb O (fun e => hne e.symm))
  have hfz : ∀ W : World, (ChangeMaps.setBlock W mb O).frozen? ⟨tb, 1, none⟩ = W.frozen? ⟨tb, 1, none⟩ := fun W => World.frozen?_of_block (heap_setBlock_ne W mb O (fun e => hne e.symm))
  have hlt1 : ∀ k, tb < w.heap.size + k := fun k => by omega
  have hlm1 : ∀ k, mb < w.heap.size + k := fun k => by omega
  have HT := Lib.hid ht
  clear ht
  go_enter Tryz.func126, Tryz.ntmps126
  go_wp2
  go_region
  go_wp2
  go_region
  go_wp2
  go_ret
  refine ⟨rfl, ?W, ?fa, ?fb, ?fc⟩
  case fb => first | exact ((Fr.refl [tb] (ChangeMaps.setBlock _ mb O)).drew).setCell (p := ⟨tb, 1, none⟩) (.inl (by simp)) _ | exact (Fr.refl [tb] (ChangeMaps.setBlock _ mb O)).setCell (p := ⟨tb, 1, none⟩) (.inl (by simp)) _ | exact ((Fr.refl [tb] (ChangeMaps.setBlock _ mb O)).setCell (p := ⟨tb, 1, none⟩) (.inl (by simp)) _).drew | exact (((Fr.refl [tb] (ChangeMaps.setBlock _ mb O)).drew).setCell (p := ⟨tb, 1, none⟩) (.inl (by simp)) _).drew
  case fc =>
    refine set_of (i := 1) (v := .slice none 0 0) (cs := #[.map (some mb), .slice none 0 0]) ?_ |>.trans (by rfl)
    refine (heap_setBlock_ne _ mb O (fun e => hne e.symm)).trans ?_
    first | exact (Below.heap_alloc w _ tb hlt).trans HT.out | exact (Below.heap_alloc _ _ tb (by simp; omega)).trans ((Below.heap_alloc w _ tb hlt).trans HT.out)
  case fa => repeat' (first | exact Fr.refl _ _ | apply Fr.drew | apply Fr.alloc)

theorem drop_Seen (tb mb : Nat) (s : Sp) (l : List (Sp × Seen)) (w : World) (h : TabIs 175 (fun x : Seen => Seen.val x) w tb mb l) :
    Calls Tryz.prog 126 #[.pointer (some ⟨tb, 0, none⟩), spV s] w fun e w1 => e = .returned (.bool (getS s l).isSome) ∧ TabIs 175 (fun x : Seen => Seen.val x) w1 tb mb (delS s l) ∧ Fr [tb, mb] w w1 := by
  have hne := h.ne
  have hT := h
  obtain ⟨ht, es, clock, hb, hp, hs, hn⟩ := h
  have hlook : ∀ W : World, ob W mb = some (.map es clock) → (Instr.lookup 173 (.map (some mb)) (spV s) true).run Tryz.prog W = .ok (.tuple #[((getS s l).getD seen0).val, .bool (getS s l).isSome]) W := by
    intro W hW
    have := run_look (P := Tryz.prog) spotKey Tryz.underlying173 zeroTSeen hW hp s true
    rw [this, getS_vals]
    cases getS s l <;> rfl
  have hdel := fun (ty x : TypeId) (W : World) (hW : ob W mb = some (.map es clock)) => run_del (P := Tryz.prog) spotKey Tryz.underlying173 ty hW hp s x
  cases hg : getS s l with
  | none =>
    rw [hg] at hlook
    refine (dropN_Seen tb mb s w es clock _ _ _ _ _ _ (cell_of ht 0) (lt_of ht) hb (lt_of hb) hlook).mono ?_
    rintro e w1 ⟨rfl, h1⟩
    have e1 : delS s l = l := del_none (idx_none hg)
    exact ⟨rfl, by rw [e1]; exact hT.fr h1 (by simp) (by simp), h1.mono (by simp)⟩
  | some y =>
    rw [hg] at hlook
    refine (dropY_Seen tb mb s w es clock _ _ _ _ _ _ _ ht hb (lt_of hb) (fun h => hne h.symm) hlook hdel).mono ?_
    rintro e w1 ⟨rfl, W, h1, h2, h3⟩
    have hbW := h1.heap hb (by simp)
    refine ⟨rfl, ⟨h3, ?_⟩, ((h1.mono (by simp)).setBlock hbW (.inl (by simp)) _).trans h2 (by simp)⟩
    rw [← delS_vals]
    exact (MapIs.del hbW hp hs hn s).fr h2 (by simpa using fun h => hne h.symm)
end Go.Proofs.YtnmkhoebijodhaaGreatDoor
