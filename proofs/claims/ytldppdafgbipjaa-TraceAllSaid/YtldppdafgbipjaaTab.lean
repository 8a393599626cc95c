/-
  Contracts of grid.Table[T]: Get, Set, New, Len, Drop.
-/
import Derived.Test.YtldppdafgbipjaaGrid
namespace Go.Proofs.Ytldppdafgbipjaa
open Go.RowKit
attribute [local go_sem] ob_alloc ob_alloc2 ob_alloc3 ob_alloc4 ob_drew ob_drewN ob_setCell

/-- A law's own thing: a number, a slice, a pointer. -/
structure Th where
  n : Int
  p : Option Addr
  k : Nat
  c : Nat
  q : Option Addr
abbrev Th.val (x : Th) : Value := .agg #[.int .i64 x.n, .slice x.p x.k x.c, .pointer x.q]
def th0 : Th := ⟨0, none, 0, 0, none⟩

theorem heap_setBlock_ne (w : World) (b : Nat) (o : Obj) {i : Nat} (h : i ≠ b) : (ChangeMaps.setBlock w b o).heap[i]? = w.heap[i]? := by
  simp [ChangeMaps.setBlock, Ne.symm h]
theorem idx_none {α : Type} {s : Sp} {l : List (Sp × α)} (h : getS s l = none) : idxS s l = none := by
  have := getS_idx s l
  rw [h] at this
  cases hi : idxS s l with
  | none => rfl
  | some j => rw [hi] at this; cases this

theorem zeroTU8 (w : World) : (zeroValue 5).run Try.prog w = .ok (.int .u8 0) w := by kernel_rfl

set_option maxHeartbeats 400000 in
theorem getC_U8 (tb mb : Nat) (s : Sp) (w : World) (es : Array MapEntry) (clock : Nat) (a : Int) (ok : Bool)
    (h0 : w.cell? ⟨tb, 0, none⟩ = some (.map (some mb))) (hlt : tb < w.heap.size) (hb : ob w mb = some (.map es clock)) (hlm : mb < w.heap.size)
    (hlook : ∀ W : World, ob W mb = some (.map es clock) → (Instr.lookup 159 (.map (some mb)) (spV s) true).run Try.prog W = .ok (.tuple #[.int .u8 a, .bool ok]) W) :
    Calls Try.prog 43 #[.pointer (some ⟨tb, 0, none⟩), spV s] w fun e w1 => e = .returned (.tuple #[.int .u8 a, .bool ok]) ∧ Fr [] w w1 := by
  have hlt1 : ∀ k, tb < w.heap.size + k := fun k => by omega
  have hlm1 : ∀ k, mb < w.heap.size + k := fun k => by omega
  go_enter Try.func43, Try.ntmps43
  go_wp2
  go_region
  go_wp2
  refine bodyPost_ret (v := .tuple #[.int .u8 a, .bool ok]) (by simp [results, Try.results43, go_sem]) rfl ⟨rfl, ?_⟩
  repeat' (first | exact Fr.refl _ _ | apply Fr.drew | apply Fr.alloc)

theorem get_U8 (tb mb : Nat) (s : Sp) (l : List (Sp × Int)) (w : World) (h : TabIs 161 (fun x : Int => .int .u8 x) w tb mb l) :
    Calls Try.prog 43 #[.pointer (some ⟨tb, 0, none⟩), spV s] w fun e w1 => e = .returned (.tuple #[.int .u8 ((getS s l).getD 0), .bool (getS s l).isSome]) ∧ Fr [] w w1 := by
  obtain ⟨ht, es, clock, hb, hp, hs, hn⟩ := h
  refine getC_U8 tb mb s w es clock _ _ (cell_of ht 0) (lt_of ht) hb (lt_of hb) ?_
  intro W hW
  have := run_look (P := Try.prog) spotKey Try.underlying159 zeroTU8 hW hp s true
  rw [this, getS_vals]
  cases getS s l <;> rfl

set_option maxHeartbeats 800000 in
theorem setN_U8 (tb : Nat) (s : Sp) (x : Int) (w : World) (h : mayS s.1 s.2 = false) :
    Calls Try.prog 41 #[.pointer (some ⟨tb, 0, none⟩), spV s, .int .u8 x] w fun e w1 => e = .returned (.int .i64 10) ∧ Fr [] w w1 := by
  have H := Lib.hid h
  clear h
  go_enter Try.func41, Try.ntmps41
  go_wp2_with fail
  refine (spotMay _ _ _).mono ?_
  rw [H.out]
  rintro e w1 ⟨rfl, h1⟩
  go_wp2
  go_ret
  refine ⟨rfl, Fr.transS (b := _) ?_ h1⟩
  repeat' (first | exact Fr.refl _ _ | apply Fr.drew | apply Fr.alloc)

set_option maxHeartbeats 1600000 in
theorem setO_U8 (tb mb : Nat) (s : Sp) (x : Int) (w : World) (es : Array MapEntry) (clock : Nat) (O : Obj) (a : Int) (h : mayS s.1 s.2 = true)
    (h0 : w.cell? ⟨tb, 0, none⟩ = some (.map (some mb))) (hlt : tb < w.heap.size) (hb : ob w mb = some (.map es clock)) (hlm : mb < w.heap.size)
    (hlook : ∀ W : World, ob W mb = some (.map es clock) → (Instr.lookup 159 (.map (some mb)) (spV s) true).run Try.prog W = .ok (.tuple #[.int .u8 a, .bool true]) W)
    (hput : ∀ W : World, ob W mb = some (.map es clock) → (Instr.mapUpdate 159 (.map (some mb)) (spV s) (.int .u8 x)).run Try.prog W = .ok () (ChangeMaps.setBlock W mb O)) :
    Calls Try.prog 41 #[.pointer (some ⟨tb, 0, none⟩), spV s, .int .u8 x] w fun e w1 => e = .returned (.int .i64 0) ∧ ∃ W, Fr [] w W ∧ w1 = ChangeMaps.setBlock W mb O := by
  have H := Lib.hid h
  clear h
  go_enter Try.func41, Try.ntmps41
  go_wp2_with fail
  refine (spotMay _ _ _).mono ?_
  rw [H.out]
  rintro e w1 ⟨rfl, h1⟩
  obtain ⟨h2, hb1, hz⟩ := h1.new1 (by simp)
  clear h1
  have hc1 := cell_of hb1
  have h01 : w1.cell? ⟨tb, 0, none⟩ = some (.map (some mb)) := (h2.cell hlt (by simp)).trans h0
  have hbm : ob w1 mb = some (.map es clock) := (h2.block mb hlm (by simp)).trans hb
  have hz2 := h2.size
  have hlt1 : ∀ k, tb < w1.heap.size + k := fun k => by omega
  have hlm1 : ∀ k, mb < w1.heap.size + k := fun k => by omega
  have hlt2 : tb < w1.heap.size := by omega
  have hlm2 : mb < w1.heap.size := by omega
  have hz3 : ∀ k, w.heap.size < w1.heap.size + k := fun k => by omega
  have hz4 : ∀ k, w.heap.size + 1 < w1.heap.size + k + 1 := fun k => by omega
  have hz5 : w.heap.size < w1.heap.size := by omega
  clear h0 hb
  go_wp2
  go_region
  go_wp2
  go_region
  go_wp2
  go_ret
  refine ⟨rfl, _, ?_, rfl⟩
  repeat' (first | exact h2 | apply Fr.drew | apply Fr.alloc)

set_option maxHeartbeats 1600000 in
theorem setF_U8 (tb mb : Nat) (s : Sp) (x : Int) (w : World) (es : Array MapEntry) (clock : Nat) (a : Int) (h : mayS s.1 s.2 = true)
    (h0 : w.cell? ⟨tb, 0, none⟩ = some (.map (some mb))) (hlt : tb < w.heap.size) (hb : ob w mb = some (.map es clock)) (hlm : mb < w.heap.size)
    (hlook : ∀ W : World, ob W mb = some (.map es clock) → (Instr.lookup 159 (.map (some mb)) (spV s) true).run Try.prog W = .ok (.tuple #[.int .u8 a, .bool false]) W)
    (hlen : ∀ (ty : TypeId) (W : World), ob W mb = some (.map es clock) → (Builtin.len_ #[159] ty #[.map (some mb)]).run Try.prog W = .ok (.int .i64 65536) W) :
    Calls Try.prog 41 #[.pointer (some ⟨tb, 0, none⟩), spV s, .int .u8 x] w fun e w1 => e = .returned (.int .i64 4) ∧ Fr [] w w1 := by
  have H := Lib.hid h
  clear h
  go_enter Try.func41, Try.ntmps41
  go_wp2_with fail
  refine (spotMay _ _ _).mono ?_
  rw [H.out]
  rintro e w1 ⟨rfl, h1⟩
  obtain ⟨h2, hb1, hz⟩ := h1.new1 (by simp)
  clear h1
  have hc1 := cell_of hb1
  have h01 : w1.cell? ⟨tb, 0, none⟩ = some (.map (some mb)) := (h2.cell hlt (by simp)).trans h0
  have hbm : ob w1 mb = some (.map es clock) := (h2.block mb hlm (by simp)).trans hb
  have hz2 := h2.size
  have hlt1 : ∀ k, tb < w1.heap.size + k := fun k => by omega
  have hlm1 : ∀ k, mb < w1.heap.size + k := fun k => by omega
  have hlt2 : tb < w1.heap.size := by omega
  have hlm2 : mb < w1.heap.size := by omega
  have hz3 : ∀ k, w.heap.size < w1.heap.size + k := fun k => by omega
  have hz4 : ∀ k, w.heap.size + 1 < w1.heap.size + k + 1 := fun k => by omega
  have hz5 : w.heap.size < w1.heap.size := by omega
  clear h0 hb
  go_wp2
  go_region
  go_wp2
  go_ret
  refine ⟨rfl, ?_⟩
  repeat' (first | exact h2 | apply Fr.drew | apply Fr.alloc)

set_option maxHeartbeats 1600000 in
theorem setW_U8 (tb mb : Nat) (s : Sp) (x : Int) (w : World) (es : Array MapEntry) (clock : Nat) (O : Obj) (a : Int) (len : Nat) (h : mayS s.1 s.2 = true)
    (ht : w.heap[tb]? = some (.cells #[.map (some mb), .slice none 0 0] 161 (0, 0))) (hb : ob w mb = some (.map es clock)) (hlm : mb < w.heap.size) (hne : ¬ mb = tb)
    (hlook : ∀ W : World, ob W mb = some (.map es clock) → (Instr.lookup 159 (.map (some mb)) (spV s) true).run Try.prog W = .ok (.tuple #[.int .u8 a, .bool false]) W)
    (hlen : ∀ (ty : TypeId) (W : World), ob W mb = some (.map es clock) → (Builtin.len_ #[159] ty #[.map (some mb)]).run Try.prog W = .ok (.int .i64 (len : Int)) W) (hne65 : ((len : Int) == 65536) = false)
    (hput : ∀ W : World, ob W mb = some (.map es clock) → (Instr.mapUpdate 159 (.map (some mb)) (spV s) (.int .u8 x)).run Try.prog W = .ok () (ChangeMaps.setBlock W mb O)) :
    Calls Try.prog 41 #[.pointer (some ⟨tb, 0, none⟩), spV s, .int .u8 x] w fun e w1 => e = .returned (.int .i64 0) ∧ ∃ W, Fr [tb] w W ∧ W.heap[tb]? = some (.cells #[.map (some mb), .slice none 0 0] 161 (0, 0)) ∧ w1 = ChangeMaps.setBlock W mb O := by
  have hlt := lt_of ht
  have h0 := cell_of ht 0
  have H := Lib.hid h
  clear h
  go_enter Try.func41, Try.ntmps41
  go_wp2_with fail
  refine (spotMay _ _ _).mono ?_
  rw [H.out]
  rintro e w1 ⟨rfl, h1⟩
  obtain ⟨h2, hb1, hz⟩ := h1.new1 (by simp)
  clear h1
  have hc1 := cell_of hb1
  have h01 : w1.cell? ⟨tb, 0, none⟩ = some (.map (some mb)) := (h2.cell hlt (by simp)).trans h0
  have hbm : ob w1 mb = some (.map es clock) := (h2.block mb hlm (by simp)).trans hb
  have hz2 := h2.size
  have hlt1 : ∀ k, tb < w1.heap.size + k := fun k => by omega
  have hlm1 : ∀ k, mb < w1.heap.size + k := fun k => by omega
  have hlt2 : tb < w1.heap.size := by omega
  have hlm2 : mb < w1.heap.size := by omega
  have hz3 : ∀ k, w.heap.size < w1.heap.size + k := fun k => by omega
  have hz4 : ∀ k, w.heap.size + 1 < w1.heap.size + k + 1 := fun k => by omega
  have hz5 : w.heap.size < w1.heap.size := by omega
  clear h0 hb
  have h11 : w1.cell? ⟨tb, 1, none⟩ = some (.slice none 0 0) := (h2.cell hlt (by simp)).trans (cell_of ht 1)
  have hf1 : w1.frozen? ⟨tb, 1, none⟩ = false := (h2.frozen hlt (by simp)).trans (free_of ht 1)
  have hn1 : ¬ tb = w.heap.size := by omega
  have hn2 : ¬ tb = w.heap.size + 1 := by omega
  have HT := Lib.hid (h2.heap ht (by simp))
  clear ht
  go_wp2
  go_region
  go_wp2
  go_region
  go_wp2
  go_ret
  refine ⟨rfl, _, ?_, ?_, rfl⟩
  · repeat' (first | exact h2.mono (by simp) | exact (h2.mono (by simp)).setCell (.inl (by simp)) _ | apply Fr.drew | apply Fr.alloc)
  · first | exact set_of HT.out 1 _ | exact (Below.heap_alloc _ _ tb (by simpa using hlt2)).trans (set_of HT.out 1 _)

theorem set_U8 (tb mb : Nat) (s : Sp) (x : Int) (l : List (Sp × Int)) (w : World) (h : TabIs 161 (fun x : Int => .int .u8 x) w tb mb l) :
    Calls Try.prog 41 #[.pointer (some ⟨tb, 0, none⟩), spV s, .int .u8 x] w fun e w1 => e = .returned (.int .i64 (setE s l)) ∧ TabIs 161 (fun x : Int => .int .u8 x) w1 tb mb (setL s x l) ∧ Fr [tb, mb] w w1 := by
  have hne := h.ne
  have hT := h
  obtain ⟨ht, es, clock, hb, hp, hs, hn⟩ := h
  have hlook : ∀ W : World, ob W mb = some (.map es clock) → (Instr.lookup 159 (.map (some mb)) (spV s) true).run Try.prog W = .ok (.tuple #[.int .u8 ((getS s l).getD 0), .bool (getS s l).isSome]) W := by
    intro W hW
    have := run_look (P := Try.prog) spotKey Try.underlying159 zeroTU8 hW hp s true
    rw [this, getS_vals]
    cases getS s l <;> rfl
  have hlen : ∀ (ty : TypeId) (W : World), ob W mb = some (.map es clock) → (Builtin.len_ #[159] ty #[.map (some mb)]).run Try.prog W = .ok (.int .i64 (l.length : Int)) W := by
    intro ty W hW
    have := run_lenMap (P := Try.prog) Try.underlying159 ty hW hp
    rwa [vals_length] at this
  have hput := fun (W : World) (hW : ob W mb = some (.map es clock)) => run_put (P := Try.prog) spotKey Try.underlying159 hW hp s (.int .u8 x)
  cases hm : mayS s.1 s.2 with
  | false =>
    refine (setN_U8 tb s x w hm).mono ?_
    rintro e w1 ⟨rfl, h1⟩
    exact ⟨ret_int (by simp [setE, hm]), by simpa [setL, setE, hm] using hT.fr h1 (by simp) (by simp), h1.mono (by simp)⟩
  | true =>
    cases hg : getS s l with
    | some y =>
      rw [hg] at hlook
      refine (setO_U8 tb mb s x w es clock _ _ hm (cell_of ht 0) (lt_of ht) hb (lt_of hb) hlook hput).mono ?_
      rintro e w1 ⟨rfl, W, h1, rfl⟩
      have e0 : setE s l = 0 := by simp [setE, hm, hg]
      have e1 : setL s x l = putS s x l := by simp [setL, e0]
      have hbW := h1.heap hb (by simp)
      refine ⟨by rw [e0], ⟨?_, ?_⟩, (h1.mono (by simp)).setBlock hbW (.inl (by simp)) _⟩
      · rw [ChangeMaps.heap_setBlock_other hbW _ hne]
        exact h1.heap ht (by simp)
      · rw [e1, ← putS_vals]
        exact MapIs.put hbW hp hs hn s (.int .u8 x)
    | none =>
      rw [hg] at hlook
      by_cases hl : l.length = 65536
      · rw [hl] at hlen
        refine (setF_U8 tb mb s x w es clock _ hm (cell_of ht 0) (lt_of ht) hb (lt_of hb) hlook hlen).mono ?_
        rintro e w1 ⟨rfl, h1⟩
        have e0 : setE s l = 4 := by simp [setE, hm, hg, hl]
        have e1 : setL s x l = l := by simp [setL, e0]
        exact ⟨by rw [e0], by rw [e1]; exact hT.fr h1 (by simp) (by simp), h1.mono (by simp)⟩
      · refine (setW_U8 tb mb s x w es clock _ _ l.length hm ht hb (lt_of hb) (fun h => hne h.symm) hlook hlen (by simpa using (by omega : ¬ ((l.length : Int) = 65536))) hput).mono ?_
        rintro e w1 ⟨rfl, W, h1, h2, rfl⟩
        have e0 : setE s l = 0 := by simp [setE, hm, hg, hl]
        have e1 : setL s x l = putS s x l := by simp [setL, e0]
        have hbW := h1.heap hb (by simpa using fun h => hne h.symm)
        refine ⟨by rw [e0], ⟨?_, ?_⟩, (h1.mono (by simp)).setBlock hbW (.inl (by simp)) _⟩
        · rw [ChangeMaps.heap_setBlock_other hbW _ hne]
          exact h2
        · rw [e1, ← putS_vals]
          exact MapIs.put hbW hp hs hn s (.int .u8 x)

theorem new_U8 (w : World) : Calls Try.prog 40 #[] w fun e w1 => ∃ tb mb, e = .returned (.pointer (some ⟨tb, 0, none⟩)) ∧ w.heap.size ≤ tb ∧ w.heap.size ≤ mb ∧ TabIs 161 (fun x : Int => .int .u8 x) w1 tb mb [] ∧ Fr [] w w1 := by
  have hmm := @run_makeMap Try.prog
  go_enter Try.func40, Try.ntmps40
  go_wp2
  go_ret
  refine ⟨w.heap.size + 1, w.heap.size, rfl, by omega, by omega, ⟨?_, ?_⟩, ((Fr.refl [] w).alloc _).alloc _⟩
  · have := heap_new (w.alloc (.map #[] 0)) (.cells #[.map (some w.heap.size), .slice none 0 0] 161)
    simpa using this
  · exact (MapIs.made w).fr ((Fr.refl [] _).alloc _) (by simp)

theorem zeroTint (w : World) : (zeroValue 3).run Try.prog w = .ok (.int .i64 0) w := by kernel_rfl

set_option maxHeartbeats 400000 in
theorem getC_int (tb mb : Nat) (s : Sp) (w : World) (es : Array MapEntry) (clock : Nat) (a : Int) (ok : Bool)
    (h0 : w.cell? ⟨tb, 0, none⟩ = some (.map (some mb))) (hlt : tb < w.heap.size) (hb : ob w mb = some (.map es clock)) (hlm : mb < w.heap.size)
    (hlook : ∀ W : World, ob W mb = some (.map es clock) → (Instr.lookup 146 (.map (some mb)) (spV s) true).run Try.prog W = .ok (.tuple #[.int .i64 a, .bool ok]) W) :
    Calls Try.prog 29 #[.pointer (some ⟨tb, 0, none⟩), spV s] w fun e w1 => e = .returned (.tuple #[.int .i64 a, .bool ok]) ∧ Fr [] w w1 := by
  have hlt1 : ∀ k, tb < w.heap.size + k := fun k => by omega
  have hlm1 : ∀ k, mb < w.heap.size + k := fun k => by omega
  go_enter Try.func29, Try.ntmps29
  go_wp2
  go_region
  go_wp2
  refine bodyPost_ret (v := .tuple #[.int .i64 a, .bool ok]) (by simp [results, Try.results29, go_sem]) rfl ⟨rfl, ?_⟩
  repeat' (first | exact Fr.refl _ _ | apply Fr.drew | apply Fr.alloc)

theorem get_int (tb mb : Nat) (s : Sp) (l : List (Sp × Int)) (w : World) (h : TabIs 148 (fun x : Int => .int .i64 x) w tb mb l) :
    Calls Try.prog 29 #[.pointer (some ⟨tb, 0, none⟩), spV s] w fun e w1 => e = .returned (.tuple #[.int .i64 ((getS s l).getD 0), .bool (getS s l).isSome]) ∧ Fr [] w w1 := by
  obtain ⟨ht, es, clock, hb, hp, hs, hn⟩ := h
  refine getC_int tb mb s w es clock _ _ (cell_of ht 0) (lt_of ht) hb (lt_of hb) ?_
  intro W hW
  have := run_look (P := Try.prog) spotKey Try.underlying146 zeroTint hW hp s true
  rw [this, getS_vals]
  cases getS s l <;> rfl

set_option maxHeartbeats 800000 in
theorem setN_int (tb : Nat) (s : Sp) (x : Int) (w : World) (h : mayS s.1 s.2 = false) :
    Calls Try.prog 24 #[.pointer (some ⟨tb, 0, none⟩), spV s, .int .i64 x] w fun e w1 => e = .returned (.int .i64 10) ∧ Fr [] w w1 := by
  have H := Lib.hid h
  clear h
  go_enter Try.func24, Try.ntmps24
  go_wp2_with fail
  refine (spotMay _ _ _).mono ?_
  rw [H.out]
  rintro e w1 ⟨rfl, h1⟩
  go_wp2
  go_ret
  refine ⟨rfl, Fr.transS (b := _) ?_ h1⟩
  repeat' (first | exact Fr.refl _ _ | apply Fr.drew | apply Fr.alloc)

set_option maxHeartbeats 1600000 in
theorem setO_int (tb mb : Nat) (s : Sp) (x : Int) (w : World) (es : Array MapEntry) (clock : Nat) (O : Obj) (a : Int) (h : mayS s.1 s.2 = true)
    (h0 : w.cell? ⟨tb, 0, none⟩ = some (.map (some mb))) (hlt : tb < w.heap.size) (hb : ob w mb = some (.map es clock)) (hlm : mb < w.heap.size)
    (hlook : ∀ W : World, ob W mb = some (.map es clock) → (Instr.lookup 146 (.map (some mb)) (spV s) true).run Try.prog W = .ok (.tuple #[.int .i64 a, .bool true]) W)
    (hput : ∀ W : World, ob W mb = some (.map es clock) → (Instr.mapUpdate 146 (.map (some mb)) (spV s) (.int .i64 x)).run Try.prog W = .ok () (ChangeMaps.setBlock W mb O)) :
    Calls Try.prog 24 #[.pointer (some ⟨tb, 0, none⟩), spV s, .int .i64 x] w fun e w1 => e = .returned (.int .i64 0) ∧ ∃ W, Fr [] w W ∧ w1 = ChangeMaps.setBlock W mb O := by
  have H := Lib.hid h
  clear h
  go_enter Try.func24, Try.ntmps24
  go_wp2_with fail
  refine (spotMay _ _ _).mono ?_
  rw [H.out]
  rintro e w1 ⟨rfl, h1⟩
  obtain ⟨h2, hb1, hz⟩ := h1.new1 (by simp)
  clear h1
  have hc1 := cell_of hb1
  have h01 : w1.cell? ⟨tb, 0, none⟩ = some (.map (some mb)) := (h2.cell hlt (by simp)).trans h0
  have hbm : ob w1 mb = some (.map es clock) := (h2.block mb hlm (by simp)).trans hb
  have hz2 := h2.size
  have hlt1 : ∀ k, tb < w1.heap.size + k := fun k => by omega
  have hlm1 : ∀ k, mb < w1.heap.size + k := fun k => by omega
  have hlt2 : tb < w1.heap.size := by omega
  have hlm2 : mb < w1.heap.size := by omega
  have hz3 : ∀ k, w.heap.size < w1.heap.size + k := fun k => by omega
  have hz4 : ∀ k, w.heap.size + 1 < w1.heap.size + k + 1 := fun k => by omega
  have hz5 : w.heap.size < w1.heap.size := by omega
  clear h0 hb
  go_wp2
  go_region
  go_wp2
  go_region
  go_wp2
  go_ret
  refine ⟨rfl, _, ?_, rfl⟩
  repeat' (first | exact h2 | apply Fr.drew | apply Fr.alloc)

set_option maxHeartbeats 1600000 in
theorem setF_int (tb mb : Nat) (s : Sp) (x : Int) (w : World) (es : Array MapEntry) (clock : Nat) (a : Int) (h : mayS s.1 s.2 = true)
    (h0 : w.cell? ⟨tb, 0, none⟩ = some (.map (some mb))) (hlt : tb < w.heap.size) (hb : ob w mb = some (.map es clock)) (hlm : mb < w.heap.size)
    (hlook : ∀ W : World, ob W mb = some (.map es clock) → (Instr.lookup 146 (.map (some mb)) (spV s) true).run Try.prog W = .ok (.tuple #[.int .i64 a, .bool false]) W)
    (hlen : ∀ (ty : TypeId) (W : World), ob W mb = some (.map es clock) → (Builtin.len_ #[146] ty #[.map (some mb)]).run Try.prog W = .ok (.int .i64 65536) W) :
    Calls Try.prog 24 #[.pointer (some ⟨tb, 0, none⟩), spV s, .int .i64 x] w fun e w1 => e = .returned (.int .i64 4) ∧ Fr [] w w1 := by
  have H := Lib.hid h
  clear h
  go_enter Try.func24, Try.ntmps24
  go_wp2_with fail
  refine (spotMay _ _ _).mono ?_
  rw [H.out]
  rintro e w1 ⟨rfl, h1⟩
  obtain ⟨h2, hb1, hz⟩ := h1.new1 (by simp)
  clear h1
  have hc1 := cell_of hb1
  have h01 : w1.cell? ⟨tb, 0, none⟩ = some (.map (some mb)) := (h2.cell hlt (by simp)).trans h0
  have hbm : ob w1 mb = some (.map es clock) := (h2.block mb hlm (by simp)).trans hb
  have hz2 := h2.size
  have hlt1 : ∀ k, tb < w1.heap.size + k := fun k => by omega
  have hlm1 : ∀ k, mb < w1.heap.size + k := fun k => by omega
  have hlt2 : tb < w1.heap.size := by omega
  have hlm2 : mb < w1.heap.size := by omega
  have hz3 : ∀ k, w.heap.size < w1.heap.size + k := fun k => by omega
  have hz4 : ∀ k, w.heap.size + 1 < w1.heap.size + k + 1 := fun k => by omega
  have hz5 : w.heap.size < w1.heap.size := by omega
  clear h0 hb
  go_wp2
  go_region
  go_wp2
  go_ret
  refine ⟨rfl, ?_⟩
  repeat' (first | exact h2 | apply Fr.drew | apply Fr.alloc)

set_option maxHeartbeats 1600000 in
theorem setW_int (tb mb : Nat) (s : Sp) (x : Int) (w : World) (es : Array MapEntry) (clock : Nat) (O : Obj) (a : Int) (len : Nat) (h : mayS s.1 s.2 = true)
    (ht : w.heap[tb]? = some (.cells #[.map (some mb), .slice none 0 0] 148 (0, 0))) (hb : ob w mb = some (.map es clock)) (hlm : mb < w.heap.size) (hne : ¬ mb = tb)
    (hlook : ∀ W : World, ob W mb = some (.map es clock) → (Instr.lookup 146 (.map (some mb)) (spV s) true).run Try.prog W = .ok (.tuple #[.int .i64 a, .bool false]) W)
    (hlen : ∀ (ty : TypeId) (W : World), ob W mb = some (.map es clock) → (Builtin.len_ #[146] ty #[.map (some mb)]).run Try.prog W = .ok (.int .i64 (len : Int)) W) (hne65 : ((len : Int) == 65536) = false)
    (hput : ∀ W : World, ob W mb = some (.map es clock) → (Instr.mapUpdate 146 (.map (some mb)) (spV s) (.int .i64 x)).run Try.prog W = .ok () (ChangeMaps.setBlock W mb O)) :
    Calls Try.prog 24 #[.pointer (some ⟨tb, 0, none⟩), spV s, .int .i64 x] w fun e w1 => e = .returned (.int .i64 0) ∧ ∃ W, Fr [tb] w W ∧ W.heap[tb]? = some (.cells #[.map (some mb), .slice none 0 0] 148 (0, 0)) ∧ w1 = ChangeMaps.setBlock W mb O := by
  have hlt := lt_of ht
  have h0 := cell_of ht 0
  have H := Lib.hid h
  clear h
  go_enter Try.func24, Try.ntmps24
  go_wp2_with fail
  refine (spotMay _ _ _).mono ?_
  rw [H.out]
  rintro e w1 ⟨rfl, h1⟩
  obtain ⟨h2, hb1, hz⟩ := h1.new1 (by simp)
  clear h1
  have hc1 := cell_of hb1
  have h01 : w1.cell? ⟨tb, 0, none⟩ = some (.map (some mb)) := (h2.cell hlt (by simp)).trans h0
  have hbm : ob w1 mb = some (.map es clock) := (h2.block mb hlm (by simp)).trans hb
  have hz2 := h2.size
  have hlt1 : ∀ k, tb < w1.heap.size + k := fun k => by omega
  have hlm1 : ∀ k, mb < w1.heap.size + k := fun k => by omega
  have hlt2 : tb < w1.heap.size := by omega
  have hlm2 : mb < w1.heap.size := by omega
  have hz3 : ∀ k, w.heap.size < w1.heap.size + k := fun k => by omega
  have hz4 : ∀ k, w.heap.size + 1 < w1.heap.size + k + 1 := fun k => by omega
  have hz5 : w.heap.size < w1.heap.size := by omega
  clear h0 hb
  have h11 : w1.cell? ⟨tb, 1, none⟩ = some (.slice none 0 0) := (h2.cell hlt (by simp)).trans (cell_of ht 1)
  have hf1 : w1.frozen? ⟨tb, 1, none⟩ = false := (h2.frozen hlt (by simp)).trans (free_of ht 1)
  have hn1 : ¬ tb = w.heap.size := by omega
  have hn2 : ¬ tb = w.heap.size + 1 := by omega
  have HT := Lib.hid (h2.heap ht (by simp))
  clear ht
  go_wp2
  go_region
  go_wp2
  go_region
  go_wp2
  go_ret
  refine ⟨rfl, _, ?_, ?_, rfl⟩
  · repeat' (first | exact h2.mono (by simp) | exact (h2.mono (by simp)).setCell (.inl (by simp)) _ | apply Fr.drew | apply Fr.alloc)
  · first | exact set_of HT.out 1 _ | exact (Below.heap_alloc _ _ tb (by simpa using hlt2)).trans (set_of HT.out 1 _)

theorem set_int (tb mb : Nat) (s : Sp) (x : Int) (l : List (Sp × Int)) (w : World) (h : TabIs 148 (fun x : Int => .int .i64 x) w tb mb l) :
    Calls Try.prog 24 #[.pointer (some ⟨tb, 0, none⟩), spV s, .int .i64 x] w fun e w1 => e = .returned (.int .i64 (setE s l)) ∧ TabIs 148 (fun x : Int => .int .i64 x) w1 tb mb (setL s x l) ∧ Fr [tb, mb] w w1 := by
  have hne := h.ne
  have hT := h
  obtain ⟨ht, es, clock, hb, hp, hs, hn⟩ := h
  have hlook : ∀ W : World, ob W mb = some (.map es clock) → (Instr.lookup 146 (.map (some mb)) (spV s) true).run Try.prog W = .ok (.tuple #[.int .i64 ((getS s l).getD 0), .bool (getS s l).isSome]) W := by
    intro W hW
    have := run_look (P := Try.prog) spotKey Try.underlying146 zeroTint hW hp s true
    rw [this, getS_vals]
    cases getS s l <;> rfl
  have hlen : ∀ (ty : TypeId) (W : World), ob W mb = some (.map es clock) → (Builtin.len_ #[146] ty #[.map (some mb)]).run Try.prog W = .ok (.int .i64 (l.length : Int)) W := by
    intro ty W hW
    have := run_lenMap (P := Try.prog) Try.underlying146 ty hW hp
    rwa [vals_length] at this
  have hput := fun (W : World) (hW : ob W mb = some (.map es clock)) => run_put (P := Try.prog) spotKey Try.underlying146 hW hp s (.int .i64 x)
  cases hm : mayS s.1 s.2 with
  | false =>
    refine (setN_int tb s x w hm).mono ?_
    rintro e w1 ⟨rfl, h1⟩
    exact ⟨ret_int (by simp [setE, hm]), by simpa [setL, setE, hm] using hT.fr h1 (by simp) (by simp), h1.mono (by simp)⟩
  | true =>
    cases hg : getS s l with
    | some y =>
      rw [hg] at hlook
      refine (setO_int tb mb s x w es clock _ _ hm (cell_of ht 0) (lt_of ht) hb (lt_of hb) hlook hput).mono ?_
      rintro e w1 ⟨rfl, W, h1, rfl⟩
      have e0 : setE s l = 0 := by simp [setE, hm, hg]
      have e1 : setL s x l = putS s x l := by simp [setL, e0]
      have hbW := h1.heap hb (by simp)
      refine ⟨by rw [e0], ⟨?_, ?_⟩, (h1.mono (by simp)).setBlock hbW (.inl (by simp)) _⟩
      · rw [ChangeMaps.heap_setBlock_other hbW _ hne]
        exact h1.heap ht (by simp)
      · rw [e1, ← putS_vals]
        exact MapIs.put hbW hp hs hn s (.int .i64 x)
    | none =>
      rw [hg] at hlook
      by_cases hl : l.length = 65536
      · rw [hl] at hlen
        refine (setF_int tb mb s x w es clock _ hm (cell_of ht 0) (lt_of ht) hb (lt_of hb) hlook hlen).mono ?_
        rintro e w1 ⟨rfl, h1⟩
        have e0 : setE s l = 4 := by simp [setE, hm, hg, hl]
        have e1 : setL s x l = l := by simp [setL, e0]
        exact ⟨by rw [e0], by rw [e1]; exact hT.fr h1 (by simp) (by simp), h1.mono (by simp)⟩
      · refine (setW_int tb mb s x w es clock _ _ l.length hm ht hb (lt_of hb) (fun h => hne h.symm) hlook hlen (by simpa using (by omega : ¬ ((l.length : Int) = 65536))) hput).mono ?_
        rintro e w1 ⟨rfl, W, h1, h2, rfl⟩
        have e0 : setE s l = 0 := by simp [setE, hm, hg, hl]
        have e1 : setL s x l = putS s x l := by simp [setL, e0]
        have hbW := h1.heap hb (by simpa using fun h => hne h.symm)
        refine ⟨by rw [e0], ⟨?_, ?_⟩, (h1.mono (by simp)).setBlock hbW (.inl (by simp)) _⟩
        · rw [ChangeMaps.heap_setBlock_other hbW _ hne]
          exact h2
        · rw [e1, ← putS_vals]
          exact MapIs.put hbW hp hs hn s (.int .i64 x)

theorem new_int (w : World) : Calls Try.prog 21 #[] w fun e w1 => ∃ tb mb, e = .returned (.pointer (some ⟨tb, 0, none⟩)) ∧ w.heap.size ≤ tb ∧ w.heap.size ≤ mb ∧ TabIs 148 (fun x : Int => .int .i64 x) w1 tb mb [] ∧ Fr [] w w1 := by
  have hmm := @run_makeMap Try.prog
  go_enter Try.func21, Try.ntmps21
  go_wp2
  go_ret
  refine ⟨w.heap.size + 1, w.heap.size, rfl, by omega, by omega, ⟨?_, ?_⟩, ((Fr.refl [] w).alloc _).alloc _⟩
  · have := heap_new (w.alloc (.map #[] 0)) (.cells #[.map (some w.heap.size), .slice none 0 0] 148)
    simpa using this
  · exact (MapIs.made w).fr ((Fr.refl [] _).alloc _) (by simp)

theorem zeroTStr (w : World) : (zeroValue 9).run Try.prog w = .ok (.string ⟨#[]⟩) w := by kernel_rfl

set_option maxHeartbeats 400000 in
theorem getC_Str (tb mb : Nat) (s : Sp) (w : World) (es : Array MapEntry) (clock : Nat) (a : ByteArray) (ok : Bool)
    (h0 : w.cell? ⟨tb, 0, none⟩ = some (.map (some mb))) (hlt : tb < w.heap.size) (hb : ob w mb = some (.map es clock)) (hlm : mb < w.heap.size)
    (hlook : ∀ W : World, ob W mb = some (.map es clock) → (Instr.lookup 196 (.map (some mb)) (spV s) true).run Try.prog W = .ok (.tuple #[.string a, .bool ok]) W) :
    Calls Try.prog 66 #[.pointer (some ⟨tb, 0, none⟩), spV s] w fun e w1 => e = .returned (.tuple #[.string a, .bool ok]) ∧ Fr [] w w1 := by
  have hlt1 : ∀ k, tb < w.heap.size + k := fun k => by omega
  have hlm1 : ∀ k, mb < w.heap.size + k := fun k => by omega
  go_enter Try.func66, Try.ntmps66
  go_wp2
  go_region
  go_wp2
  refine bodyPost_ret (v := .tuple #[.string a, .bool ok]) (by simp [results, Try.results66, go_sem]) rfl ⟨rfl, ?_⟩
  repeat' (first | exact Fr.refl _ _ | apply Fr.drew | apply Fr.alloc)

theorem get_Str (tb mb : Nat) (s : Sp) (l : List (Sp × ByteArray)) (w : World) (h : TabIs 198 (fun x : ByteArray => .string x) w tb mb l) :
    Calls Try.prog 66 #[.pointer (some ⟨tb, 0, none⟩), spV s] w fun e w1 => e = .returned (.tuple #[.string ((getS s l).getD ⟨#[]⟩), .bool (getS s l).isSome]) ∧ Fr [] w w1 := by
  obtain ⟨ht, es, clock, hb, hp, hs, hn⟩ := h
  refine getC_Str tb mb s w es clock _ _ (cell_of ht 0) (lt_of ht) hb (lt_of hb) ?_
  intro W hW
  have := run_look (P := Try.prog) spotKey Try.underlying196 zeroTStr hW hp s true
  rw [this, getS_vals]
  cases getS s l <;> rfl

set_option maxHeartbeats 800000 in
theorem setN_Str (tb : Nat) (s : Sp) (x : ByteArray) (w : World) (h : mayS s.1 s.2 = false) :
    Calls Try.prog 65 #[.pointer (some ⟨tb, 0, none⟩), spV s, .string x] w fun e w1 => e = .returned (.int .i64 10) ∧ Fr [] w w1 := by
  have H := Lib.hid h
  clear h
  go_enter Try.func65, Try.ntmps65
  go_wp2_with fail
  refine (spotMay _ _ _).mono ?_
  rw [H.out]
  rintro e w1 ⟨rfl, h1⟩
  go_wp2
  go_ret
  refine ⟨rfl, Fr.transS (b := _) ?_ h1⟩
  repeat' (first | exact Fr.refl _ _ | apply Fr.drew | apply Fr.alloc)

set_option maxHeartbeats 1600000 in
theorem setO_Str (tb mb : Nat) (s : Sp) (x : ByteArray) (w : World) (es : Array MapEntry) (clock : Nat) (O : Obj) (a : ByteArray) (h : mayS s.1 s.2 = true)
    (h0 : w.cell? ⟨tb, 0, none⟩ = some (.map (some mb))) (hlt : tb < w.heap.size) (hb : ob w mb = some (.map es clock)) (hlm : mb < w.heap.size)
    (hlook : ∀ W : World, ob W mb = some (.map es clock) → (Instr.lookup 196 (.map (some mb)) (spV s) true).run Try.prog W = .ok (.tuple #[.string a, .bool true]) W)
    (hput : ∀ W : World, ob W mb = some (.map es clock) → (Instr.mapUpdate 196 (.map (some mb)) (spV s) (.string x)).run Try.prog W = .ok () (ChangeMaps.setBlock W mb O)) :
    Calls Try.prog 65 #[.pointer (some ⟨tb, 0, none⟩), spV s, .string x] w fun e w1 => e = .returned (.int .i64 0) ∧ ∃ W, Fr [] w W ∧ w1 = ChangeMaps.setBlock W mb O := by
  have H := Lib.hid h
  clear h
  go_enter Try.func65, Try.ntmps65
  go_wp2_with fail
  refine (spotMay _ _ _).mono ?_
  rw [H.out]
  rintro e w1 ⟨rfl, h1⟩
  obtain ⟨h2, hb1, hz⟩ := h1.new1 (by simp)
  clear h1
  have hc1 := cell_of hb1
  have h01 : w1.cell? ⟨tb, 0, none⟩ = some (.map (some mb)) := (h2.cell hlt (by simp)).trans h0
  have hbm : ob w1 mb = some (.map es clock) := (h2.block mb hlm (by simp)).trans hb
  have hz2 := h2.size
  have hlt1 : ∀ k, tb < w1.heap.size + k := fun k => by omega
  have hlm1 : ∀ k, mb < w1.heap.size + k := fun k => by omega
  have hlt2 : tb < w1.heap.size := by omega
  have hlm2 : mb < w1.heap.size := by omega
  have hz3 : ∀ k, w.heap.size < w1.heap.size + k := fun k => by omega
  have hz4 : ∀ k, w.heap.size + 1 < w1.heap.size + k + 1 := fun k => by omega
  have hz5 : w.heap.size < w1.heap.size := by omega
  clear h0 hb
  go_wp2
  go_region
  go_wp2
  go_region
  go_wp2
  go_ret
  refine ⟨rfl, _, ?_, rfl⟩
  repeat' (first | exact h2 | apply Fr.drew | apply Fr.alloc)

set_option maxHeartbeats 1600000 in
theorem setF_Str (tb mb : Nat) (s : Sp) (x : ByteArray) (w : World) (es : Array MapEntry) (clock : Nat) (a : ByteArray) (h : mayS s.1 s.2 = true)
    (h0 : w.cell? ⟨tb, 0, none⟩ = some (.map (some mb))) (hlt : tb < w.heap.size) (hb : ob w mb = some (.map es clock)) (hlm : mb < w.heap.size)
    (hlook : ∀ W : World, ob W mb = some (.map es clock) → (Instr.lookup 196 (.map (some mb)) (spV s) true).run Try.prog W = .ok (.tuple #[.string a, .bool false]) W)
    (hlen : ∀ (ty : TypeId) (W : World), ob W mb = some (.map es clock) → (Builtin.len_ #[196] ty #[.map (some mb)]).run Try.prog W = .ok (.int .i64 65536) W) :
    Calls Try.prog 65 #[.pointer (some ⟨tb, 0, none⟩), spV s, .string x] w fun e w1 => e = .returned (.int .i64 4) ∧ Fr [] w w1 := by
  have H := Lib.hid h
  clear h
  go_enter Try.func65, Try.ntmps65
  go_wp2_with fail
  refine (spotMay _ _ _).mono ?_
  rw [H.out]
  rintro e w1 ⟨rfl, h1⟩
  obtain ⟨h2, hb1, hz⟩ := h1.new1 (by simp)
  clear h1
  have hc1 := cell_of hb1
  have h01 : w1.cell? ⟨tb, 0, none⟩ = some (.map (some mb)) := (h2.cell hlt (by simp)).trans h0
  have hbm : ob w1 mb = some (.map es clock) := (h2.block mb hlm (by simp)).trans hb
  have hz2 := h2.size
  have hlt1 : ∀ k, tb < w1.heap.size + k := fun k => by omega
  have hlm1 : ∀ k, mb < w1.heap.size + k := fun k => by omega
  have hlt2 : tb < w1.heap.size := by omega
  have hlm2 : mb < w1.heap.size := by omega
  have hz3 : ∀ k, w.heap.size < w1.heap.size + k := fun k => by omega
  have hz4 : ∀ k, w.heap.size + 1 < w1.heap.size + k + 1 := fun k => by omega
  have hz5 : w.heap.size < w1.heap.size := by omega
  clear h0 hb
  go_wp2
  go_region
  go_wp2
  go_ret
  refine ⟨rfl, ?_⟩
  repeat' (first | exact h2 | apply Fr.drew | apply Fr.alloc)

set_option maxHeartbeats 1600000 in
theorem setW_Str (tb mb : Nat) (s : Sp) (x : ByteArray) (w : World) (es : Array MapEntry) (clock : Nat) (O : Obj) (a : ByteArray) (len : Nat) (h : mayS s.1 s.2 = true)
    (ht : w.heap[tb]? = some (.cells #[.map (some mb), .slice none 0 0] 198 (0, 0))) (hb : ob w mb = some (.map es clock)) (hlm : mb < w.heap.size) (hne : ¬ mb = tb)
    (hlook : ∀ W : World, ob W mb = some (.map es clock) → (Instr.lookup 196 (.map (some mb)) (spV s) true).run Try.prog W = .ok (.tuple #[.string a, .bool false]) W)
    (hlen : ∀ (ty : TypeId) (W : World), ob W mb = some (.map es clock) → (Builtin.len_ #[196] ty #[.map (some mb)]).run Try.prog W = .ok (.int .i64 (len : Int)) W) (hne65 : ((len : Int) == 65536) = false)
    (hput : ∀ W : World, ob W mb = some (.map es clock) → (Instr.mapUpdate 196 (.map (some mb)) (spV s) (.string x)).run Try.prog W = .ok () (ChangeMaps.setBlock W mb O)) :
    Calls Try.prog 65 #[.pointer (some ⟨tb, 0, none⟩), spV s, .string x] w fun e w1 => e = .returned (.int .i64 0) ∧ ∃ W, Fr [tb] w W ∧ W.heap[tb]? = some (.cells #[.map (some mb), .slice none 0 0] 198 (0, 0)) ∧ w1 = ChangeMaps.setBlock W mb O := by
  have hlt := lt_of ht
  have h0 := cell_of ht 0
  have H := Lib.hid h
  clear h
  go_enter Try.func65, Try.ntmps65
  go_wp2_with fail
  refine (spotMay _ _ _).mono ?_
  rw [H.out]
  rintro e w1 ⟨rfl, h1⟩
  obtain ⟨h2, hb1, hz⟩ := h1.new1 (by simp)
  clear h1
  have hc1 := cell_of hb1
  have h01 : w1.cell? ⟨tb, 0, none⟩ = some (.map (some mb)) := (h2.cell hlt (by simp)).trans h0
  have hbm : ob w1 mb = some (.map es clock) := (h2.block mb hlm (by simp)).trans hb
  have hz2 := h2.size
  have hlt1 : ∀ k, tb < w1.heap.size + k := fun k => by omega
  have hlm1 : ∀ k, mb < w1.heap.size + k := fun k => by omega
  have hlt2 : tb < w1.heap.size := by omega
  have hlm2 : mb < w1.heap.size := by omega
  have hz3 : ∀ k, w.heap.size < w1.heap.size + k := fun k => by omega
  have hz4 : ∀ k, w.heap.size + 1 < w1.heap.size + k + 1 := fun k => by omega
  have hz5 : w.heap.size < w1.heap.size := by omega
  clear h0 hb
  have h11 : w1.cell? ⟨tb, 1, none⟩ = some (.slice none 0 0) := (h2.cell hlt (by simp)).trans (cell_of ht 1)
  have hf1 : w1.frozen? ⟨tb, 1, none⟩ = false := (h2.frozen hlt (by simp)).trans (free_of ht 1)
  have hn1 : ¬ tb = w.heap.size := by omega
  have hn2 : ¬ tb = w.heap.size + 1 := by omega
  have HT := Lib.hid (h2.heap ht (by simp))
  clear ht
  go_wp2
  go_region
  go_wp2
  go_region
  go_wp2
  go_ret
  refine ⟨rfl, _, ?_, ?_, rfl⟩
  · repeat' (first | exact h2.mono (by simp) | exact (h2.mono (by simp)).setCell (.inl (by simp)) _ | apply Fr.drew | apply Fr.alloc)
  · first | exact set_of HT.out 1 _ | exact (Below.heap_alloc _ _ tb (by simpa using hlt2)).trans (set_of HT.out 1 _)

theorem set_Str (tb mb : Nat) (s : Sp) (x : ByteArray) (l : List (Sp × ByteArray)) (w : World) (h : TabIs 198 (fun x : ByteArray => .string x) w tb mb l) :
    Calls Try.prog 65 #[.pointer (some ⟨tb, 0, none⟩), spV s, .string x] w fun e w1 => e = .returned (.int .i64 (setE s l)) ∧ TabIs 198 (fun x : ByteArray => .string x) w1 tb mb (setL s x l) ∧ Fr [tb, mb] w w1 := by
  have hne := h.ne
  have hT := h
  obtain ⟨ht, es, clock, hb, hp, hs, hn⟩ := h
  have hlook : ∀ W : World, ob W mb = some (.map es clock) → (Instr.lookup 196 (.map (some mb)) (spV s) true).run Try.prog W = .ok (.tuple #[.string ((getS s l).getD ⟨#[]⟩), .bool (getS s l).isSome]) W := by
    intro W hW
    have := run_look (P := Try.prog) spotKey Try.underlying196 zeroTStr hW hp s true
    rw [this, getS_vals]
    cases getS s l <;> rfl
  have hlen : ∀ (ty : TypeId) (W : World), ob W mb = some (.map es clock) → (Builtin.len_ #[196] ty #[.map (some mb)]).run Try.prog W = .ok (.int .i64 (l.length : Int)) W := by
    intro ty W hW
    have := run_lenMap (P := Try.prog) Try.underlying196 ty hW hp
    rwa [vals_length] at this
  have hput := fun (W : World) (hW : ob W mb = some (.map es clock)) => run_put (P := Try.prog) spotKey Try.underlying196 hW hp s (.string x)
  cases hm : mayS s.1 s.2 with
  | false =>
    refine (setN_Str tb s x w hm).mono ?_
    rintro e w1 ⟨rfl, h1⟩
    exact ⟨ret_int (by simp [setE, hm]), by simpa [setL, setE, hm] using hT.fr h1 (by simp) (by simp), h1.mono (by simp)⟩
  | true =>
    cases hg : getS s l with
    | some y =>
      rw [hg] at hlook
      refine (setO_Str tb mb s x w es clock _ _ hm (cell_of ht 0) (lt_of ht) hb (lt_of hb) hlook hput).mono ?_
      rintro e w1 ⟨rfl, W, h1, rfl⟩
      have e0 : setE s l = 0 := by simp [setE, hm, hg]
      have e1 : setL s x l = putS s x l := by simp [setL, e0]
      have hbW := h1.heap hb (by simp)
      refine ⟨by rw [e0], ⟨?_, ?_⟩, (h1.mono (by simp)).setBlock hbW (.inl (by simp)) _⟩
      · rw [ChangeMaps.heap_setBlock_other hbW _ hne]
        exact h1.heap ht (by simp)
      · rw [e1, ← putS_vals]
        exact MapIs.put hbW hp hs hn s (.string x)
    | none =>
      rw [hg] at hlook
      by_cases hl : l.length = 65536
      · rw [hl] at hlen
        refine (setF_Str tb mb s x w es clock _ hm (cell_of ht 0) (lt_of ht) hb (lt_of hb) hlook hlen).mono ?_
        rintro e w1 ⟨rfl, h1⟩
        have e0 : setE s l = 4 := by simp [setE, hm, hg, hl]
        have e1 : setL s x l = l := by simp [setL, e0]
        exact ⟨by rw [e0], by rw [e1]; exact hT.fr h1 (by simp) (by simp), h1.mono (by simp)⟩
      · refine (setW_Str tb mb s x w es clock _ _ l.length hm ht hb (lt_of hb) (fun h => hne h.symm) hlook hlen (by simpa using (by omega : ¬ ((l.length : Int) = 65536))) hput).mono ?_
        rintro e w1 ⟨rfl, W, h1, h2, rfl⟩
        have e0 : setE s l = 0 := by simp [setE, hm, hg, hl]
        have e1 : setL s x l = putS s x l := by simp [setL, e0]
        have hbW := h1.heap hb (by simpa using fun h => hne h.symm)
        refine ⟨by rw [e0], ⟨?_, ?_⟩, (h1.mono (by simp)).setBlock hbW (.inl (by simp)) _⟩
        · rw [ChangeMaps.heap_setBlock_other hbW _ hne]
          exact h2
        · rw [e1, ← putS_vals]
          exact MapIs.put hbW hp hs hn s (.string x)

theorem new_Str (w : World) : Calls Try.prog 64 #[] w fun e w1 => ∃ tb mb, e = .returned (.pointer (some ⟨tb, 0, none⟩)) ∧ w.heap.size ≤ tb ∧ w.heap.size ≤ mb ∧ TabIs 198 (fun x : ByteArray => .string x) w1 tb mb [] ∧ Fr [] w w1 := by
  have hmm := @run_makeMap Try.prog
  go_enter Try.func64, Try.ntmps64
  go_wp2
  go_ret
  refine ⟨w.heap.size + 1, w.heap.size, rfl, by omega, by omega, ⟨?_, ?_⟩, ((Fr.refl [] w).alloc _).alloc _⟩
  · have := heap_new (w.alloc (.map #[] 0)) (.cells #[.map (some w.heap.size), .slice none 0 0] 198)
    simpa using this
  · exact (MapIs.made w).fr ((Fr.refl [] _).alloc _) (by simp)

theorem zeroTPtr (w : World) : (zeroValue 73).run Try.prog w = .ok (.pointer none) w := by kernel_rfl

set_option maxHeartbeats 400000 in
theorem getC_Ptr (tb mb : Nat) (s : Sp) (w : World) (es : Array MapEntry) (clock : Nat) (a : Option Addr) (ok : Bool)
    (h0 : w.cell? ⟨tb, 0, none⟩ = some (.map (some mb))) (hlt : tb < w.heap.size) (hb : ob w mb = some (.map es clock)) (hlm : mb < w.heap.size)
    (hlook : ∀ W : World, ob W mb = some (.map es clock) → (Instr.lookup 153 (.map (some mb)) (spV s) true).run Try.prog W = .ok (.tuple #[.pointer a, .bool ok]) W) :
    Calls Try.prog 36 #[.pointer (some ⟨tb, 0, none⟩), spV s] w fun e w1 => e = .returned (.tuple #[.pointer a, .bool ok]) ∧ Fr [] w w1 := by
  have hlt1 : ∀ k, tb < w.heap.size + k := fun k => by omega
  have hlm1 : ∀ k, mb < w.heap.size + k := fun k => by omega
  go_enter Try.func36, Try.ntmps36
  go_wp2
  go_region
  go_wp2
  refine bodyPost_ret (v := .tuple #[.pointer a, .bool ok]) (by simp [results, Try.results36, go_sem]) rfl ⟨rfl, ?_⟩
  repeat' (first | exact Fr.refl _ _ | apply Fr.drew | apply Fr.alloc)

theorem get_Ptr (tb mb : Nat) (s : Sp) (l : List (Sp × Option Addr)) (w : World) (h : TabIs 155 (fun x : Option Addr => .pointer x) w tb mb l) :
    Calls Try.prog 36 #[.pointer (some ⟨tb, 0, none⟩), spV s] w fun e w1 => e = .returned (.tuple #[.pointer ((getS s l).getD none), .bool (getS s l).isSome]) ∧ Fr [] w w1 := by
  obtain ⟨ht, es, clock, hb, hp, hs, hn⟩ := h
  refine getC_Ptr tb mb s w es clock _ _ (cell_of ht 0) (lt_of ht) hb (lt_of hb) ?_
  intro W hW
  have := run_look (P := Try.prog) spotKey Try.underlying153 zeroTPtr hW hp s true
  rw [this, getS_vals]
  cases getS s l <;> rfl

set_option maxHeartbeats 800000 in
theorem setN_Ptr (tb : Nat) (s : Sp) (x : Option Addr) (w : World) (h : mayS s.1 s.2 = false) :
    Calls Try.prog 34 #[.pointer (some ⟨tb, 0, none⟩), spV s, .pointer x] w fun e w1 => e = .returned (.int .i64 10) ∧ Fr [] w w1 := by
  have H := Lib.hid h
  clear h
  go_enter Try.func34, Try.ntmps34
  go_wp2_with fail
  refine (spotMay _ _ _).mono ?_
  rw [H.out]
  rintro e w1 ⟨rfl, h1⟩
  go_wp2
  go_ret
  refine ⟨rfl, Fr.transS (b := _) ?_ h1⟩
  repeat' (first | exact Fr.refl _ _ | apply Fr.drew | apply Fr.alloc)

set_option maxHeartbeats 1600000 in
theorem setO_Ptr (tb mb : Nat) (s : Sp) (x : Option Addr) (w : World) (es : Array MapEntry) (clock : Nat) (O : Obj) (a : Option Addr) (h : mayS s.1 s.2 = true)
    (h0 : w.cell? ⟨tb, 0, none⟩ = some (.map (some mb))) (hlt : tb < w.heap.size) (hb : ob w mb = some (.map es clock)) (hlm : mb < w.heap.size)
    (hlook : ∀ W : World, ob W mb = some (.map es clock) → (Instr.lookup 153 (.map (some mb)) (spV s) true).run Try.prog W = .ok (.tuple #[.pointer a, .bool true]) W)
    (hput : ∀ W : World, ob W mb = some (.map es clock) → (Instr.mapUpdate 153 (.map (some mb)) (spV s) (.pointer x)).run Try.prog W = .ok () (ChangeMaps.setBlock W mb O)) :
    Calls Try.prog 34 #[.pointer (some ⟨tb, 0, none⟩), spV s, .pointer x] w fun e w1 => e = .returned (.int .i64 0) ∧ ∃ W, Fr [] w W ∧ w1 = ChangeMaps.setBlock W mb O := by
  have H := Lib.hid h
  clear h
  go_enter Try.func34, Try.ntmps34
  go_wp2_with fail
  refine (spotMay _ _ _).mono ?_
  rw [H.out]
  rintro e w1 ⟨rfl, h1⟩
  obtain ⟨h2, hb1, hz⟩ := h1.new1 (by simp)
  clear h1
  have hc1 := cell_of hb1
  have h01 : w1.cell? ⟨tb, 0, none⟩ = some (.map (some mb)) := (h2.cell hlt (by simp)).trans h0
  have hbm : ob w1 mb = some (.map es clock) := (h2.block mb hlm (by simp)).trans hb
  have hz2 := h2.size
  have hlt1 : ∀ k, tb < w1.heap.size + k := fun k => by omega
  have hlm1 : ∀ k, mb < w1.heap.size + k := fun k => by omega
  have hlt2 : tb < w1.heap.size := by omega
  have hlm2 : mb < w1.heap.size := by omega
  have hz3 : ∀ k, w.heap.size < w1.heap.size + k := fun k => by omega
  have hz4 : ∀ k, w.heap.size + 1 < w1.heap.size + k + 1 := fun k => by omega
  have hz5 : w.heap.size < w1.heap.size := by omega
  clear h0 hb
  go_wp2
  go_region
  go_wp2
  go_region
  go_wp2
  go_ret
  refine ⟨rfl, _, ?_, rfl⟩
  repeat' (first | exact h2 | apply Fr.drew | apply Fr.alloc)

set_option maxHeartbeats 1600000 in
theorem setF_Ptr (tb mb : Nat) (s : Sp) (x : Option Addr) (w : World) (es : Array MapEntry) (clock : Nat) (a : Option Addr) (h : mayS s.1 s.2 = true)
    (h0 : w.cell? ⟨tb, 0, none⟩ = some (.map (some mb))) (hlt : tb < w.heap.size) (hb : ob w mb = some (.map es clock)) (hlm : mb < w.heap.size)
    (hlook : ∀ W : World, ob W mb = some (.map es clock) → (Instr.lookup 153 (.map (some mb)) (spV s) true).run Try.prog W = .ok (.tuple #[.pointer a, .bool false]) W)
    (hlen : ∀ (ty : TypeId) (W : World), ob W mb = some (.map es clock) → (Builtin.len_ #[153] ty #[.map (some mb)]).run Try.prog W = .ok (.int .i64 65536) W) :
    Calls Try.prog 34 #[.pointer (some ⟨tb, 0, none⟩), spV s, .pointer x] w fun e w1 => e = .returned (.int .i64 4) ∧ Fr [] w w1 := by
  have H := Lib.hid h
  clear h
  go_enter Try.func34, Try.ntmps34
  go_wp2_with fail
  refine (spotMay _ _ _).mono ?_
  rw [H.out]
  rintro e w1 ⟨rfl, h1⟩
  obtain ⟨h2, hb1, hz⟩ := h1.new1 (by simp)
  clear h1
  have hc1 := cell_of hb1
  have h01 : w1.cell? ⟨tb, 0, none⟩ = some (.map (some mb)) := (h2.cell hlt (by simp)).trans h0
  have hbm : ob w1 mb = some (.map es clock) := (h2.block mb hlm (by simp)).trans hb
  have hz2 := h2.size
  have hlt1 : ∀ k, tb < w1.heap.size + k := fun k => by omega
  have hlm1 : ∀ k, mb < w1.heap.size + k := fun k => by omega
  have hlt2 : tb < w1.heap.size := by omega
  have hlm2 : mb < w1.heap.size := by omega
  have hz3 : ∀ k, w.heap.size < w1.heap.size + k := fun k => by omega
  have hz4 : ∀ k, w.heap.size + 1 < w1.heap.size + k + 1 := fun k => by omega
  have hz5 : w.heap.size < w1.heap.size := by omega
  clear h0 hb
  go_wp2
  go_region
  go_wp2
  go_ret
  refine ⟨rfl, ?_⟩
  repeat' (first | exact h2 | apply Fr.drew | apply Fr.alloc)

set_option maxHeartbeats 1600000 in
theorem setW_Ptr (tb mb : Nat) (s : Sp) (x : Option Addr) (w : World) (es : Array MapEntry) (clock : Nat) (O : Obj) (a : Option Addr) (len : Nat) (h : mayS s.1 s.2 = true)
    (ht : w.heap[tb]? = some (.cells #[.map (some mb), .slice none 0 0] 155 (0, 0))) (hb : ob w mb = some (.map es clock)) (hlm : mb < w.heap.size) (hne : ¬ mb = tb)
    (hlook : ∀ W : World, ob W mb = some (.map es clock) → (Instr.lookup 153 (.map (some mb)) (spV s) true).run Try.prog W = .ok (.tuple #[.pointer a, .bool false]) W)
    (hlen : ∀ (ty : TypeId) (W : World), ob W mb = some (.map es clock) → (Builtin.len_ #[153] ty #[.map (some mb)]).run Try.prog W = .ok (.int .i64 (len : Int)) W) (hne65 : ((len : Int) == 65536) = false)
    (hput : ∀ W : World, ob W mb = some (.map es clock) → (Instr.mapUpdate 153 (.map (some mb)) (spV s) (.pointer x)).run Try.prog W = .ok () (ChangeMaps.setBlock W mb O)) :
    Calls Try.prog 34 #[.pointer (some ⟨tb, 0, none⟩), spV s, .pointer x] w fun e w1 => e = .returned (.int .i64 0) ∧ ∃ W, Fr [tb] w W ∧ W.heap[tb]? = some (.cells #[.map (some mb), .slice none 0 0] 155 (0, 0)) ∧ w1 = ChangeMaps.setBlock W mb O := by
  have hlt := lt_of ht
  have h0 := cell_of ht 0
  have H := Lib.hid h
  clear h
  go_enter Try.func34, Try.ntmps34
  go_wp2_with fail
  refine (spotMay _ _ _).mono ?_
  rw [H.out]
  rintro e w1 ⟨rfl, h1⟩
  obtain ⟨h2, hb1, hz⟩ := h1.new1 (by simp)
  clear h1
  have hc1 := cell_of hb1
  have h01 : w1.cell? ⟨tb, 0, none⟩ = some (.map (some mb)) := (h2.cell hlt (by simp)).trans h0
  have hbm : ob w1 mb = some (.map es clock) := (h2.block mb hlm (by simp)).trans hb
  have hz2 := h2.size
  have hlt1 : ∀ k, tb < w1.heap.size + k := fun k => by omega
  have hlm1 : ∀ k, mb < w1.heap.size + k := fun k => by omega
  have hlt2 : tb < w1.heap.size := by omega
  have hlm2 : mb < w1.heap.size := by omega
  have hz3 : ∀ k, w.heap.size < w1.heap.size + k := fun k => by omega
  have hz4 : ∀ k, w.heap.size + 1 < w1.heap.size + k + 1 := fun k => by omega
  have hz5 : w.heap.size < w1.heap.size := by omega
  clear h0 hb
  have h11 : w1.cell? ⟨tb, 1, none⟩ = some (.slice none 0 0) := (h2.cell hlt (by simp)).trans (cell_of ht 1)
  have hf1 : w1.frozen? ⟨tb, 1, none⟩ = false := (h2.frozen hlt (by simp)).trans (free_of ht 1)
  have hn1 : ¬ tb = w.heap.size := by omega
  have hn2 : ¬ tb = w.heap.size + 1 := by omega
  have HT := Lib.hid (h2.heap ht (by simp))
  clear ht
  go_wp2
  go_region
  go_wp2
  go_region
  go_wp2
  go_ret
  refine ⟨rfl, _, ?_, ?_, rfl⟩
  · repeat' (first | exact h2.mono (by simp) | exact (h2.mono (by simp)).setCell (.inl (by simp)) _ | apply Fr.drew | apply Fr.alloc)
  · first | exact set_of HT.out 1 _ | exact (Below.heap_alloc _ _ tb (by simpa using hlt2)).trans (set_of HT.out 1 _)

theorem set_Ptr (tb mb : Nat) (s : Sp) (x : Option Addr) (l : List (Sp × Option Addr)) (w : World) (h : TabIs 155 (fun x : Option Addr => .pointer x) w tb mb l) :
    Calls Try.prog 34 #[.pointer (some ⟨tb, 0, none⟩), spV s, .pointer x] w fun e w1 => e = .returned (.int .i64 (setE s l)) ∧ TabIs 155 (fun x : Option Addr => .pointer x) w1 tb mb (setL s x l) ∧ Fr [tb, mb] w w1 := by
  have hne := h.ne
  have hT := h
  obtain ⟨ht, es, clock, hb, hp, hs, hn⟩ := h
  have hlook : ∀ W : World, ob W mb = some (.map es clock) → (Instr.lookup 153 (.map (some mb)) (spV s) true).run Try.prog W = .ok (.tuple #[.pointer ((getS s l).getD none), .bool (getS s l).isSome]) W := by
    intro W hW
    have := run_look (P := Try.prog) spotKey Try.underlying153 zeroTPtr hW hp s true
    rw [this, getS_vals]
    cases getS s l <;> rfl
  have hlen : ∀ (ty : TypeId) (W : World), ob W mb = some (.map es clock) → (Builtin.len_ #[153] ty #[.map (some mb)]).run Try.prog W = .ok (.int .i64 (l.length : Int)) W := by
    intro ty W hW
    have := run_lenMap (P := Try.prog) Try.underlying153 ty hW hp
    rwa [vals_length] at this
  have hput := fun (W : World) (hW : ob W mb = some (.map es clock)) => run_put (P := Try.prog) spotKey Try.underlying153 hW hp s (.pointer x)
  cases hm : mayS s.1 s.2 with
  | false =>
    refine (setN_Ptr tb s x w hm).mono ?_
    rintro e w1 ⟨rfl, h1⟩
    exact ⟨ret_int (by simp [setE, hm]), by simpa [setL, setE, hm] using hT.fr h1 (by simp) (by simp), h1.mono (by simp)⟩
  | true =>
    cases hg : getS s l with
    | some y =>
      rw [hg] at hlook
      refine (setO_Ptr tb mb s x w es clock _ _ hm (cell_of ht 0) (lt_of ht) hb (lt_of hb) hlook hput).mono ?_
      rintro e w1 ⟨rfl, W, h1, rfl⟩
      have e0 : setE s l = 0 := by simp [setE, hm, hg]
      have e1 : setL s x l = putS s x l := by simp [setL, e0]
      have hbW := h1.heap hb (by simp)
      refine ⟨by rw [e0], ⟨?_, ?_⟩, (h1.mono (by simp)).setBlock hbW (.inl (by simp)) _⟩
      · rw [ChangeMaps.heap_setBlock_other hbW _ hne]
        exact h1.heap ht (by simp)
      · rw [e1, ← putS_vals]
        exact MapIs.put hbW hp hs hn s (.pointer x)
    | none =>
      rw [hg] at hlook
      by_cases hl : l.length = 65536
      · rw [hl] at hlen
        refine (setF_Ptr tb mb s x w es clock _ hm (cell_of ht 0) (lt_of ht) hb (lt_of hb) hlook hlen).mono ?_
        rintro e w1 ⟨rfl, h1⟩
        have e0 : setE s l = 4 := by simp [setE, hm, hg, hl]
        have e1 : setL s x l = l := by simp [setL, e0]
        exact ⟨by rw [e0], by rw [e1]; exact hT.fr h1 (by simp) (by simp), h1.mono (by simp)⟩
      · refine (setW_Ptr tb mb s x w es clock _ _ l.length hm ht hb (lt_of hb) (fun h => hne h.symm) hlook hlen (by simpa using (by omega : ¬ ((l.length : Int) = 65536))) hput).mono ?_
        rintro e w1 ⟨rfl, W, h1, h2, rfl⟩
        have e0 : setE s l = 0 := by simp [setE, hm, hg, hl]
        have e1 : setL s x l = putS s x l := by simp [setL, e0]
        have hbW := h1.heap hb (by simpa using fun h => hne h.symm)
        refine ⟨by rw [e0], ⟨?_, ?_⟩, (h1.mono (by simp)).setBlock hbW (.inl (by simp)) _⟩
        · rw [ChangeMaps.heap_setBlock_other hbW _ hne]
          exact h2
        · rw [e1, ← putS_vals]
          exact MapIs.put hbW hp hs hn s (.pointer x)

theorem new_Ptr (w : World) : Calls Try.prog 32 #[] w fun e w1 => ∃ tb mb, e = .returned (.pointer (some ⟨tb, 0, none⟩)) ∧ w.heap.size ≤ tb ∧ w.heap.size ≤ mb ∧ TabIs 155 (fun x : Option Addr => .pointer x) w1 tb mb [] ∧ Fr [] w w1 := by
  have hmm := @run_makeMap Try.prog
  go_enter Try.func32, Try.ntmps32
  go_wp2
  go_ret
  refine ⟨w.heap.size + 1, w.heap.size, rfl, by omega, by omega, ⟨?_, ?_⟩, ((Fr.refl [] w).alloc _).alloc _⟩
  · have := heap_new (w.alloc (.map #[] 0)) (.cells #[.map (some w.heap.size), .slice none 0 0] 155)
    simpa using this
  · exact (MapIs.made w).fr ((Fr.refl [] _).alloc _) (by simp)

theorem zeroTTh (w : World) : (zeroValue 78).run Try.prog w = .ok (Th.val th0) w := by kernel_rfl

set_option maxHeartbeats 400000 in
theorem getC_Th (tb mb : Nat) (s : Sp) (w : World) (es : Array MapEntry) (clock : Nat) (a : Int) (p : Option Addr) (n c : Nat) (q : Option Addr) (ok : Bool)
    (h0 : w.cell? ⟨tb, 0, none⟩ = some (.map (some mb))) (hlt : tb < w.heap.size) (hb : ob w mb = some (.map es clock)) (hlm : mb < w.heap.size)
    (hlook : ∀ W : World, ob W mb = some (.map es clock) → (Instr.lookup 156 (.map (some mb)) (spV s) true).run Try.prog W = .ok (.tuple #[.agg #[.int .i64 a, .slice p n c, .pointer q], .bool ok]) W) :
    Calls Try.prog 37 #[.pointer (some ⟨tb, 0, none⟩), spV s] w fun e w1 => e = .returned (.tuple #[.agg #[.int .i64 a, .slice p n c, .pointer q], .bool ok]) ∧ Fr [] w w1 := by
  have hlt1 : ∀ k, tb < w.heap.size + k := fun k => by omega
  have hlm1 : ∀ k, mb < w.heap.size + k := fun k => by omega
  go_enter Try.func37, Try.ntmps37
  go_wp2
  go_region
  go_wp2
  refine bodyPost_ret (v := .tuple #[.agg #[.int .i64 a, .slice p n c, .pointer q], .bool ok]) (by simp [results, Try.results37, go_sem]) rfl ⟨rfl, ?_⟩
  repeat' (first | exact Fr.refl _ _ | apply Fr.drew | apply Fr.alloc)

theorem get_Th (tb mb : Nat) (s : Sp) (l : List (Sp × Th)) (w : World) (h : TabIs 158 (fun x : Th => Th.val x) w tb mb l) :
    Calls Try.prog 37 #[.pointer (some ⟨tb, 0, none⟩), spV s] w fun e w1 => e = .returned (.tuple #[((getS s l).getD th0).val, .bool (getS s l).isSome]) ∧ Fr [] w w1 := by
  obtain ⟨ht, es, clock, hb, hp, hs, hn⟩ := h
  refine getC_Th tb mb s w es clock _ _ _ _ _ _ (cell_of ht 0) (lt_of ht) hb (lt_of hb) ?_
  intro W hW
  have := run_look (P := Try.prog) spotKey Try.underlying156 zeroTTh hW hp s true
  rw [this, getS_vals]
  cases getS s l <;> rfl

set_option maxHeartbeats 800000 in
theorem setN_Th (tb : Nat) (s : Sp) (x : Th) (w : World) (h : mayS s.1 s.2 = false) :
    Calls Try.prog 35 #[.pointer (some ⟨tb, 0, none⟩), spV s, Th.val x] w fun e w1 => e = .returned (.int .i64 10) ∧ Fr [] w w1 := by
  have H := Lib.hid h
  clear h
  go_enter Try.func35, Try.ntmps35
  go_wp2_with fail
  refine (spotMay _ _ _).mono ?_
  rw [H.out]
  rintro e w1 ⟨rfl, h1⟩
  go_wp2
  go_ret
  refine ⟨rfl, Fr.transS (b := _) ?_ h1⟩
  repeat' (first | exact Fr.refl _ _ | apply Fr.drew | apply Fr.alloc)

set_option maxHeartbeats 1600000 in
theorem setO_Th (tb mb : Nat) (s : Sp) (x : Th) (w : World) (es : Array MapEntry) (clock : Nat) (O : Obj) (a : Int) (p : Option Addr) (n c : Nat) (q : Option Addr) (h : mayS s.1 s.2 = true)
    (h0 : w.cell? ⟨tb, 0, none⟩ = some (.map (some mb))) (hlt : tb < w.heap.size) (hb : ob w mb = some (.map es clock)) (hlm : mb < w.heap.size)
    (hlook : ∀ W : World, ob W mb = some (.map es clock) → (Instr.lookup 156 (.map (some mb)) (spV s) true).run Try.prog W = .ok (.tuple #[.agg #[.int .i64 a, .slice p n c, .pointer q], .bool true]) W)
    (hput : ∀ W : World, ob W mb = some (.map es clock) → (Instr.mapUpdate 156 (.map (some mb)) (spV s) (Th.val x)).run Try.prog W = .ok () (ChangeMaps.setBlock W mb O)) :
    Calls Try.prog 35 #[.pointer (some ⟨tb, 0, none⟩), spV s, Th.val x] w fun e w1 => e = .returned (.int .i64 0) ∧ ∃ W, Fr [] w W ∧ w1 = ChangeMaps.setBlock W mb O := by
  have H := Lib.hid h
  clear h
  go_enter Try.func35, Try.ntmps35
  go_wp2_with fail
  refine (spotMay _ _ _).mono ?_
  rw [H.out]
  rintro e w1 ⟨rfl, h1⟩
  obtain ⟨h2, hb1, hb2, hz⟩ := h1.new2 (by simp)
  clear h1
  have hc1 := cell_of hb1
  have hc2 := cell_of hb2
  have h01 : w1.cell? ⟨tb, 0, none⟩ = some (.map (some mb)) := (h2.cell hlt (by simp)).trans h0
  have hbm : ob w1 mb = some (.map es clock) := (h2.block mb hlm (by simp)).trans hb
  have hz2 := h2.size
  have hlt1 : ∀ k, tb < w1.heap.size + k := fun k => by omega
  have hlm1 : ∀ k, mb < w1.heap.size + k := fun k => by omega
  have hlt2 : tb < w1.heap.size := by omega
  have hlm2 : mb < w1.heap.size := by omega
  have hz3 : ∀ k, w.heap.size < w1.heap.size + k := fun k => by omega
  have hz4 : ∀ k, w.heap.size + 1 < w1.heap.size + k + 0 := fun k => by omega
  have hz5 : w.heap.size < w1.heap.size := by omega
  clear h0 hb
  go_wp2
  go_region
  go_wp2
  go_region
  go_wp2
  go_ret
  refine ⟨rfl, _, ?_, rfl⟩
  repeat' (first | exact h2 | apply Fr.drew | apply Fr.alloc)

set_option maxHeartbeats 1600000 in
theorem setF_Th (tb mb : Nat) (s : Sp) (x : Th) (w : World) (es : Array MapEntry) (clock : Nat) (a : Int) (p : Option Addr) (n c : Nat) (q : Option Addr) (h : mayS s.1 s.2 = true)
    (h0 : w.cell? ⟨tb, 0, none⟩ = some (.map (some mb))) (hlt : tb < w.heap.size) (hb : ob w mb = some (.map es clock)) (hlm : mb < w.heap.size)
    (hlook : ∀ W : World, ob W mb = some (.map es clock) → (Instr.lookup 156 (.map (some mb)) (spV s) true).run Try.prog W = .ok (.tuple #[.agg #[.int .i64 a, .slice p n c, .pointer q], .bool false]) W)
    (hlen : ∀ (ty : TypeId) (W : World), ob W mb = some (.map es clock) → (Builtin.len_ #[156] ty #[.map (some mb)]).run Try.prog W = .ok (.int .i64 65536) W) :
    Calls Try.prog 35 #[.pointer (some ⟨tb, 0, none⟩), spV s, Th.val x] w fun e w1 => e = .returned (.int .i64 4) ∧ Fr [] w w1 := by
  have H := Lib.hid h
  clear h
  go_enter Try.func35, Try.ntmps35
  go_wp2_with fail
  refine (spotMay _ _ _).mono ?_
  rw [H.out]
  rintro e w1 ⟨rfl, h1⟩
  obtain ⟨h2, hb1, hb2, hz⟩ := h1.new2 (by simp)
  clear h1
  have hc1 := cell_of hb1
  have hc2 := cell_of hb2
  have h01 : w1.cell? ⟨tb, 0, none⟩ = some (.map (some mb)) := (h2.cell hlt (by simp)).trans h0
  have hbm : ob w1 mb = some (.map es clock) := (h2.block mb hlm (by simp)).trans hb
  have hz2 := h2.size
  have hlt1 : ∀ k, tb < w1.heap.size + k := fun k => by omega
  have hlm1 : ∀ k, mb < w1.heap.size + k := fun k => by omega
  have hlt2 : tb < w1.heap.size := by omega
  have hlm2 : mb < w1.heap.size := by omega
  have hz3 : ∀ k, w.heap.size < w1.heap.size + k := fun k => by omega
  have hz4 : ∀ k, w.heap.size + 1 < w1.heap.size + k + 0 := fun k => by omega
  have hz5 : w.heap.size < w1.heap.size := by omega
  clear h0 hb
  go_wp2
  go_region
  go_wp2
  go_ret
  refine ⟨rfl, ?_⟩
  repeat' (first | exact h2 | apply Fr.drew | apply Fr.alloc)

set_option maxHeartbeats 1600000 in
theorem setW_Th (tb mb : Nat) (s : Sp) (x : Th) (w : World) (es : Array MapEntry) (clock : Nat) (O : Obj) (a : Int) (p : Option Addr) (n c : Nat) (q : Option Addr) (len : Nat) (h : mayS s.1 s.2 = true)
    (ht : w.heap[tb]? = some (.cells #[.map (some mb), .slice none 0 0] 158 (0, 0))) (hb : ob w mb = some (.map es clock)) (hlm : mb < w.heap.size) (hne : ¬ mb = tb)
    (hlook : ∀ W : World, ob W mb = some (.map es clock) → (Instr.lookup 156 (.map (some mb)) (spV s) true).run Try.prog W = .ok (.tuple #[.agg #[.int .i64 a, .slice p n c, .pointer q], .bool false]) W)
    (hlen : ∀ (ty : TypeId) (W : World), ob W mb = some (.map es clock) → (Builtin.len_ #[156] ty #[.map (some mb)]).run Try.prog W = .ok (.int .i64 (len : Int)) W) (hne65 : ((len : Int) == 65536) = false)
    (hput : ∀ W : World, ob W mb = some (.map es clock) → (Instr.mapUpdate 156 (.map (some mb)) (spV s) (Th.val x)).run Try.prog W = .ok () (ChangeMaps.setBlock W mb O)) :
    Calls Try.prog 35 #[.pointer (some ⟨tb, 0, none⟩), spV s, Th.val x] w fun e w1 => e = .returned (.int .i64 0) ∧ ∃ W, Fr [tb] w W ∧ W.heap[tb]? = some (.cells #[.map (some mb), .slice none 0 0] 158 (0, 0)) ∧ w1 = ChangeMaps.setBlock W mb O := by
  have hlt := lt_of ht
  have h0 := cell_of ht 0
  have H := Lib.hid h
  clear h
  go_enter Try.func35, Try.ntmps35
  go_wp2_with fail
  refine (spotMay _ _ _).mono ?_
  rw [H.out]
  rintro e w1 ⟨rfl, h1⟩
  obtain ⟨h2, hb1, hb2, hz⟩ := h1.new2 (by simp)
  clear h1
  have hc1 := cell_of hb1
  have hc2 := cell_of hb2
  have h01 : w1.cell? ⟨tb, 0, none⟩ = some (.map (some mb)) := (h2.cell hlt (by simp)).trans h0
  have hbm : ob w1 mb = some (.map es clock) := (h2.block mb hlm (by simp)).trans hb
  have hz2 := h2.size
  have hlt1 : ∀ k, tb < w1.heap.size + k := fun k => by omega
  have hlm1 : ∀ k, mb < w1.heap.size + k := fun k => by omega
  have hlt2 : tb < w1.heap.size := by omega
  have hlm2 : mb < w1.heap.size := by omega
  have hz3 : ∀ k, w.heap.size < w1.heap.size + k := fun k => by omega
  have hz4 : ∀ k, w.heap.size + 1 < w1.heap.size + k + 0 := fun k => by omega
  have hz5 : w.heap.size < w1.heap.size := by omega
  clear h0 hb
  have h11 : w1.cell? ⟨tb, 1, none⟩ = some (.slice none 0 0) := (h2.cell hlt (by simp)).trans (cell_of ht 1)
  have hf1 : w1.frozen? ⟨tb, 1, none⟩ = false := (h2.frozen hlt (by simp)).trans (free_of ht 1)
  have hn1 : ¬ tb = w.heap.size := by omega
  have hn2 : ¬ tb = w.heap.size + 1 := by omega
  have HT := Lib.hid (h2.heap ht (by simp))
  clear ht
  go_wp2
  go_region
  go_wp2
  go_region
  go_wp2
  go_ret
  refine ⟨rfl, _, ?_, ?_, rfl⟩
  · repeat' (first | exact h2.mono (by simp) | exact (h2.mono (by simp)).setCell (.inl (by simp)) _ | apply Fr.drew | apply Fr.alloc)
  · first | exact set_of HT.out 1 _ | exact (Below.heap_alloc _ _ tb (by simpa using hlt2)).trans (set_of HT.out 1 _)

theorem set_Th (tb mb : Nat) (s : Sp) (x : Th) (l : List (Sp × Th)) (w : World) (h : TabIs 158 (fun x : Th => Th.val x) w tb mb l) :
    Calls Try.prog 35 #[.pointer (some ⟨tb, 0, none⟩), spV s, Th.val x] w fun e w1 => e = .returned (.int .i64 (setE s l)) ∧ TabIs 158 (fun x : Th => Th.val x) w1 tb mb (setL s x l) ∧ Fr [tb, mb] w w1 := by
  have hne := h.ne
  have hT := h
  obtain ⟨ht, es, clock, hb, hp, hs, hn⟩ := h
  have hlook : ∀ W : World, ob W mb = some (.map es clock) → (Instr.lookup 156 (.map (some mb)) (spV s) true).run Try.prog W = .ok (.tuple #[((getS s l).getD th0).val, .bool (getS s l).isSome]) W := by
    intro W hW
    have := run_look (P := Try.prog) spotKey Try.underlying156 zeroTTh hW hp s true
    rw [this, getS_vals]
    cases getS s l <;> rfl
  have hlen : ∀ (ty : TypeId) (W : World), ob W mb = some (.map es clock) → (Builtin.len_ #[156] ty #[.map (some mb)]).run Try.prog W = .ok (.int .i64 (l.length : Int)) W := by
    intro ty W hW
    have := run_lenMap (P := Try.prog) Try.underlying156 ty hW hp
    rwa [vals_length] at this
  have hput := fun (W : World) (hW : ob W mb = some (.map es clock)) => run_put (P := Try.prog) spotKey Try.underlying156 hW hp s (Th.val x)
  cases hm : mayS s.1 s.2 with
  | false =>
    refine (setN_Th tb s x w hm).mono ?_
    rintro e w1 ⟨rfl, h1⟩
    exact ⟨ret_int (by simp [setE, hm]), by simpa [setL, setE, hm] using hT.fr h1 (by simp) (by simp), h1.mono (by simp)⟩
  | true =>
    cases hg : getS s l with
    | some y =>
      rw [hg] at hlook
      refine (setO_Th tb mb s x w es clock _ _ _ _ _ _ hm (cell_of ht 0) (lt_of ht) hb (lt_of hb) hlook hput).mono ?_
      rintro e w1 ⟨rfl, W, h1, rfl⟩
      have e0 : setE s l = 0 := by simp [setE, hm, hg]
      have e1 : setL s x l = putS s x l := by simp [setL, e0]
      have hbW := h1.heap hb (by simp)
      refine ⟨by rw [e0], ⟨?_, ?_⟩, (h1.mono (by simp)).setBlock hbW (.inl (by simp)) _⟩
      · rw [ChangeMaps.heap_setBlock_other hbW _ hne]
        exact h1.heap ht (by simp)
      · rw [e1, ← putS_vals]
        exact MapIs.put hbW hp hs hn s (Th.val x)
    | none =>
      rw [hg] at hlook
      by_cases hl : l.length = 65536
      · rw [hl] at hlen
        refine (setF_Th tb mb s x w es clock _ _ _ _ _ hm (cell_of ht 0) (lt_of ht) hb (lt_of hb) hlook hlen).mono ?_
        rintro e w1 ⟨rfl, h1⟩
        have e0 : setE s l = 4 := by simp [setE, hm, hg, hl]
        have e1 : setL s x l = l := by simp [setL, e0]
        exact ⟨by rw [e0], by rw [e1]; exact hT.fr h1 (by simp) (by simp), h1.mono (by simp)⟩
      · refine (setW_Th tb mb s x w es clock _ _ _ _ _ _ l.length hm ht hb (lt_of hb) (fun h => hne h.symm) hlook hlen (by simpa using (by omega : ¬ ((l.length : Int) = 65536))) hput).mono ?_
        rintro e w1 ⟨rfl, W, h1, h2, rfl⟩
        have e0 : setE s l = 0 := by simp [setE, hm, hg, hl]
        have e1 : setL s x l = putS s x l := by simp [setL, e0]
        have hbW := h1.heap hb (by simpa using fun h => hne h.symm)
        refine ⟨by rw [e0], ⟨?_, ?_⟩, (h1.mono (by simp)).setBlock hbW (.inl (by simp)) _⟩
        · rw [ChangeMaps.heap_setBlock_other hbW _ hne]
          exact h2
        · rw [e1, ← putS_vals]
          exact MapIs.put hbW hp hs hn s (Th.val x)

theorem new_Th (w : World) : Calls Try.prog 33 #[] w fun e w1 => ∃ tb mb, e = .returned (.pointer (some ⟨tb, 0, none⟩)) ∧ w.heap.size ≤ tb ∧ w.heap.size ≤ mb ∧ TabIs 158 (fun x : Th => Th.val x) w1 tb mb [] ∧ Fr [] w w1 := by
  have hmm := @run_makeMap Try.prog
  go_enter Try.func33, Try.ntmps33
  go_wp2
  go_ret
  refine ⟨w.heap.size + 1, w.heap.size, rfl, by omega, by omega, ⟨?_, ?_⟩, ((Fr.refl [] w).alloc _).alloc _⟩
  · have := heap_new (w.alloc (.map #[] 0)) (.cells #[.map (some w.heap.size), .slice none 0 0] 158)
    simpa using this
  · exact (MapIs.made w).fr ((Fr.refl [] _).alloc _) (by simp)

theorem len_U8 (tb mb : Nat) (l : List (Sp × Int)) (w : World) (h : TabIs 161 (fun x : Int => .int .u8 x) w tb mb l) :
    Calls Try.prog 42 #[.pointer (some ⟨tb, 0, none⟩)] w fun e w1 => e = .returned (.int .i64 (l.length : Int)) ∧ Fr [] w w1 := by
  obtain ⟨ht, es, clock, hob, hp, _, _⟩ := h
  have h0 := cell_of ht 0
  have hb : ob w mb = some (.map es clock) := hob
  have hlen : ∀ (ty : TypeId) (W : World), ob W mb = some (.map es clock) → (Builtin.len_ #[159] ty #[.map (some mb)]).run Try.prog W = .ok (.int .i64 (l.length : Int)) W := by
    intro ty W hW
    have := run_lenMap (P := Try.prog) Try.underlying159 ty hW hp
    rwa [vals_length] at this
  clear hp hob
  go_enter Try.func42, Try.ntmps42
  go_wp2
  go_ret
  refine ⟨rfl, ?_⟩
  repeat' (first | exact Fr.refl _ _ | apply Fr.drew | apply Fr.alloc)

set_option maxHeartbeats 1600000 in
theorem dropN_U8 (tb mb : Nat) (s : Sp) (w : World) (es : Array MapEntry) (clock : Nat) (a : Int)
    (h0 : w.cell? ⟨tb, 0, none⟩ = some (.map (some mb))) (hlt : tb < w.heap.size) (hb : ob w mb = some (.map es clock)) (hlm : mb < w.heap.size)
    (hlook : ∀ W : World, ob W mb = some (.map es clock) → (Instr.lookup 159 (.map (some mb)) (spV s) true).run Try.prog W = .ok (.tuple #[.int .u8 a, .bool false]) W) :
    Calls Try.prog 44 #[.pointer (some ⟨tb, 0, none⟩), spV s] w fun e w1 => e = .returned (.bool false) ∧ Fr [] w w1 := by
  have hlt1 : ∀ k, tb < w.heap.size + k := fun k => by omega
  have hlm1 : ∀ k, mb < w.heap.size + k := fun k => by omega
  go_enter Try.func44, Try.ntmps44
  go_wp2
  go_region
  go_wp2
  go_ret
  refine ⟨rfl, ?_⟩
  repeat' (first | exact Fr.refl _ _ | apply Fr.drew | apply Fr.alloc)

set_option maxHeartbeats 1600000 in
theorem dropY_U8 (tb mb : Nat) (s : Sp) (w : World) (es : Array MapEntry) (clock : Nat) (O : Obj) (a : Int)
    (ht : w.heap[tb]? = some (.cells #[.map (some mb), .slice none 0 0] 161 (0, 0))) (hb : ob w mb = some (.map es clock)) (hlm : mb < w.heap.size) (hne : ¬ mb = tb)
    (hlook : ∀ W : World, ob W mb = some (.map es clock) → (Instr.lookup 159 (.map (some mb)) (spV s) true).run Try.prog W = .ok (.tuple #[.int .u8 a, .bool true]) W)
    (hdel : ∀ (ty x : TypeId) (W : World), ob W mb = some (.map es clock) → (Builtin.delete_ #[159, x] ty #[.map (some mb), spV s]).run Try.prog W = .ok (.tuple #[]) (ChangeMaps.setBlock W mb O)) :
    Calls Try.prog 44 #[.pointer (some ⟨tb, 0, none⟩), spV s] w fun e w1 => e = .returned (.bool true) ∧ ∃ W, Fr [] w W ∧ Fr [tb] (ChangeMaps.setBlock W mb O) w1 ∧ w1.heap[tb]? = some (.cells #[.map (some mb), .slice none 0 0] 161 (0, 0)) := by
  have hlt := lt_of ht
  have h0 := cell_of ht 0
  have h1 := cell_of ht 1
  have hf := free_of ht 1
  have hc : ∀ W : World, (ChangeMaps.setBlock W mb O).cell? ⟨tb, 1, none⟩ = W.cell? ⟨tb, 1, none⟩ := fun W => World.cell?_of_block (heap_setBlock_ne W mb O (fun e => hne e.symm))
  have hfz : ∀ W : World, (ChangeMaps.setBlock W mb O).frozen? ⟨tb, 1, none⟩ = W.frozen? ⟨tb, 1, none⟩ := fun W => World.frozen?_of_block (heap_setBlock_ne W mb O (fun e => hne e.symm))
  have hlt1 : ∀ k, tb < w.heap.size + k := fun k => by omega
  have hlm1 : ∀ k, mb < w.heap.size + k := fun k => by omega
  have HT := Lib.hid ht
  clear ht
  go_enter Try.func44, Try.ntmps44
  go_wp2
  go_region
  go_wp2
  go_region
  go_wp2
  go_ret
  refine ⟨rfl, ?W, ?fa, ?fb, ?fc⟩
  case fb => first | exact ((Fr.refl [tb] (ChangeMaps.setBlock _ mb O)).drew).setCell (p := ⟨tb, 1, none⟩) (.inl (by simp)) _ | exact (Fr.refl [tb] (ChangeMaps.setBlock _ mb O)).setCell (p := ⟨tb, 1, none⟩) (.inl (by simp)) _ | exact ((Fr.refl [tb] (ChangeMaps.setBlock _ mb O)).setCell (p := ⟨tb, 1, none⟩) (.inl (by simp)) _).drew | exact (((Fr.refl [tb] (ChangeMaps.setBlock _ mb O)).drew).setCell (p := ⟨tb, 1, none⟩) (.inl (by simp)) _).drew
  case fc =>
    refine set_of (i := 1) (v := .slice none 0 0) (cs := #[.map (some mb), .slice none 0 0]) ?_ |>.trans (by rfl)
    refine (heap_setBlock_ne _ mb O (fun e => hne e.symm)).trans ?_
    first | exact (Below.heap_alloc w _ tb hlt).trans HT.out | exact (Below.heap_alloc _ _ tb (by simp; omega)).trans ((Below.heap_alloc w _ tb hlt).trans HT.out)
  case fa => repeat' (first | exact Fr.refl _ _ | apply Fr.drew | apply Fr.alloc)

theorem drop_U8 (tb mb : Nat) (s : Sp) (l : List (Sp × Int)) (w : World) (h : TabIs 161 (fun x : Int => .int .u8 x) w tb mb l) :
    Calls Try.prog 44 #[.pointer (some ⟨tb, 0, none⟩), spV s] w fun e w1 => e = .returned (.bool (getS s l).isSome) ∧ TabIs 161 (fun x : Int => .int .u8 x) w1 tb mb (delS s l) ∧ Fr [tb, mb] w w1 := by
  have hne := h.ne
  have hT := h
  obtain ⟨ht, es, clock, hb, hp, hs, hn⟩ := h
  have hlook : ∀ W : World, ob W mb = some (.map es clock) → (Instr.lookup 159 (.map (some mb)) (spV s) true).run Try.prog W = .ok (.tuple #[.int .u8 ((getS s l).getD 0), .bool (getS s l).isSome]) W := by
    intro W hW
    have := run_look (P := Try.prog) spotKey Try.underlying159 zeroTU8 hW hp s true
    rw [this, getS_vals]
    cases getS s l <;> rfl
  have hdel := fun (ty x : TypeId) (W : World) (hW : ob W mb = some (.map es clock)) => run_del (P := Try.prog) spotKey Try.underlying159 ty hW hp s x
  cases hg : getS s l with
  | none =>
    rw [hg] at hlook
    refine (dropN_U8 tb mb s w es clock _ (cell_of ht 0) (lt_of ht) hb (lt_of hb) hlook).mono ?_
    rintro e w1 ⟨rfl, h1⟩
    have e1 : delS s l = l := del_none (idx_none hg)
    exact ⟨rfl, by rw [e1]; exact hT.fr h1 (by simp) (by simp), h1.mono (by simp)⟩
  | some y =>
    rw [hg] at hlook
    refine (dropY_U8 tb mb s w es clock _ _ ht hb (lt_of hb) (fun h => hne h.symm) hlook hdel).mono ?_
    rintro e w1 ⟨rfl, W, h1, h2, h3⟩
    have hbW := h1.heap hb (by simp)
    refine ⟨rfl, ⟨h3, ?_⟩, ((h1.mono (by simp)).setBlock hbW (.inl (by simp)) _).trans h2 (by simp)⟩
    rw [← delS_vals]
    exact (MapIs.del hbW hp hs hn s).fr h2 (by simpa using fun h => hne h.symm)

theorem len_int (tb mb : Nat) (l : List (Sp × Int)) (w : World) (h : TabIs 148 (fun x : Int => .int .i64 x) w tb mb l) :
    Calls Try.prog 31 #[.pointer (some ⟨tb, 0, none⟩)] w fun e w1 => e = .returned (.int .i64 (l.length : Int)) ∧ Fr [] w w1 := by
  obtain ⟨ht, es, clock, hob, hp, _, _⟩ := h
  have h0 := cell_of ht 0
  have hb : ob w mb = some (.map es clock) := hob
  have hlen : ∀ (ty : TypeId) (W : World), ob W mb = some (.map es clock) → (Builtin.len_ #[146] ty #[.map (some mb)]).run Try.prog W = .ok (.int .i64 (l.length : Int)) W := by
    intro ty W hW
    have := run_lenMap (P := Try.prog) Try.underlying146 ty hW hp
    rwa [vals_length] at this
  clear hp hob
  go_enter Try.func31, Try.ntmps31
  go_wp2
  go_ret
  refine ⟨rfl, ?_⟩
  repeat' (first | exact Fr.refl _ _ | apply Fr.drew | apply Fr.alloc)

set_option maxHeartbeats 1600000 in
theorem dropN_int (tb mb : Nat) (s : Sp) (w : World) (es : Array MapEntry) (clock : Nat) (a : Int)
    (h0 : w.cell? ⟨tb, 0, none⟩ = some (.map (some mb))) (hlt : tb < w.heap.size) (hb : ob w mb = some (.map es clock)) (hlm : mb < w.heap.size)
    (hlook : ∀ W : World, ob W mb = some (.map es clock) → (Instr.lookup 146 (.map (some mb)) (spV s) true).run Try.prog W = .ok (.tuple #[.int .i64 a, .bool false]) W) :
    Calls Try.prog 73 #[.pointer (some ⟨tb, 0, none⟩), spV s] w fun e w1 => e = .returned (.bool false) ∧ Fr [] w w1 := by
  have hlt1 : ∀ k, tb < w.heap.size + k := fun k => by omega
  have hlm1 : ∀ k, mb < w.heap.size + k := fun k => by omega
  go_enter Try.func73, Try.ntmps73
  go_wp2
  go_region
  go_wp2
  go_ret
  refine ⟨rfl, ?_⟩
  repeat' (first | exact Fr.refl _ _ | apply Fr.drew | apply Fr.alloc)

set_option maxHeartbeats 1600000 in
theorem dropY_int (tb mb : Nat) (s : Sp) (w : World) (es : Array MapEntry) (clock : Nat) (O : Obj) (a : Int)
    (ht : w.heap[tb]? = some (.cells #[.map (some mb), .slice none 0 0] 148 (0, 0))) (hb : ob w mb = some (.map es clock)) (hlm : mb < w.heap.size) (hne : ¬ mb = tb)
    (hlook : ∀ W : World, ob W mb = some (.map es clock) → (Instr.lookup 146 (.map (some mb)) (spV s) true).run Try.prog W = .ok (.tuple #[.int .i64 a, .bool true]) W)
    (hdel : ∀ (ty x : TypeId) (W : World), ob W mb = some (.map es clock) → (Builtin.delete_ #[146, x] ty #[.map (some mb), spV s]).run Try.prog W = .ok (.tuple #[]) (ChangeMaps.setBlock W mb O)) :
    Calls Try.prog 73 #[.pointer (some ⟨tb, 0, none⟩), spV s] w fun e w1 => e = .returned (.bool true) ∧ ∃ W, Fr [] w W ∧ Fr [tb] (ChangeMaps.setBlock W mb O) w1 ∧ w1.heap[tb]? = some (.cells #[.map (some mb), .slice none 0 0] 148 (0, 0)) := by
  have hlt := lt_of ht
  have h0 := cell_of ht 0
  have h1 := cell_of ht 1
  have hf := free_of ht 1
  have hc : ∀ W : World, (ChangeMaps.setBlock W mb O).cell? ⟨tb, 1, none⟩ = W.cell? ⟨tb, 1, none⟩ := fun W => World.cell?_of_block (heap_setBlock_ne W mb O (fun e => hne e.symm))
  have hfz : ∀ W : World, (ChangeMaps.setBlock W mb O).frozen? ⟨tb, 1, none⟩ = W.frozen? ⟨tb, 1, none⟩ := fun W => World.frozen?_of_block (heap_setBlock_ne W mb O (fun e => hne e.symm))
  have hlt1 : ∀ k, tb < w.heap.size + k := fun k => by omega
  have hlm1 : ∀ k, mb < w.heap.size + k := fun k => by omega
  have HT := Lib.hid ht
  clear ht
  go_enter Try.func73, Try.ntmps73
  go_wp2
  go_region
  go_wp2
  go_region
  go_wp2
  go_ret
  refine ⟨rfl, ?W, ?fa, ?fb, ?fc⟩
  case fb => first | exact ((Fr.refl [tb] (ChangeMaps.setBlock _ mb O)).drew).setCell (p := ⟨tb, 1, none⟩) (.inl (by simp)) _ | exact (Fr.refl [tb] (ChangeMaps.setBlock _ mb O)).setCell (p := ⟨tb, 1, none⟩) (.inl (by simp)) _ | exact ((Fr.refl [tb] (ChangeMaps.setBlock _ mb O)).setCell (p := ⟨tb, 1, none⟩) (.inl (by simp)) _).drew | exact (((Fr.refl [tb] (ChangeMaps.setBlock _ mb O)).drew).setCell (p := ⟨tb, 1, none⟩) (.inl (by simp)) _).drew
  case fc =>
    refine set_of (i := 1) (v := .slice none 0 0) (cs := #[.map (some mb), .slice none 0 0]) ?_ |>.trans (by rfl)
    refine (heap_setBlock_ne _ mb O (fun e => hne e.symm)).trans ?_
    first | exact (Below.heap_alloc w _ tb hlt).trans HT.out | exact (Below.heap_alloc _ _ tb (by simp; omega)).trans ((Below.heap_alloc w _ tb hlt).trans HT.out)
  case fa => repeat' (first | exact Fr.refl _ _ | apply Fr.drew | apply Fr.alloc)

theorem drop_int (tb mb : Nat) (s : Sp) (l : List (Sp × Int)) (w : World) (h : TabIs 148 (fun x : Int => .int .i64 x) w tb mb l) :
    Calls Try.prog 73 #[.pointer (some ⟨tb, 0, none⟩), spV s] w fun e w1 => e = .returned (.bool (getS s l).isSome) ∧ TabIs 148 (fun x : Int => .int .i64 x) w1 tb mb (delS s l) ∧ Fr [tb, mb] w w1 := by
  have hne := h.ne
  have hT := h
  obtain ⟨ht, es, clock, hb, hp, hs, hn⟩ := h
  have hlook : ∀ W : World, ob W mb = some (.map es clock) → (Instr.lookup 146 (.map (some mb)) (spV s) true).run Try.prog W = .ok (.tuple #[.int .i64 ((getS s l).getD 0), .bool (getS s l).isSome]) W := by
    intro W hW
    have := run_look (P := Try.prog) spotKey Try.underlying146 zeroTint hW hp s true
    rw [this, getS_vals]
    cases getS s l <;> rfl
  have hdel := fun (ty x : TypeId) (W : World) (hW : ob W mb = some (.map es clock)) => run_del (P := Try.prog) spotKey Try.underlying146 ty hW hp s x
  cases hg : getS s l with
  | none =>
    rw [hg] at hlook
    refine (dropN_int tb mb s w es clock _ (cell_of ht 0) (lt_of ht) hb (lt_of hb) hlook).mono ?_
    rintro e w1 ⟨rfl, h1⟩
    have e1 : delS s l = l := del_none (idx_none hg)
    exact ⟨rfl, by rw [e1]; exact hT.fr h1 (by simp) (by simp), h1.mono (by simp)⟩
  | some y =>
    rw [hg] at hlook
    refine (dropY_int tb mb s w es clock _ _ ht hb (lt_of hb) (fun h => hne h.symm) hlook hdel).mono ?_
    rintro e w1 ⟨rfl, W, h1, h2, h3⟩
    have hbW := h1.heap hb (by simp)
    refine ⟨rfl, ⟨h3, ?_⟩, ((h1.mono (by simp)).setBlock hbW (.inl (by simp)) _).trans h2 (by simp)⟩
    rw [← delS_vals]
    exact (MapIs.del hbW hp hs hn s).fr h2 (by simpa using fun h => hne h.symm)

theorem len_Str (tb mb : Nat) (l : List (Sp × ByteArray)) (w : World) (h : TabIs 198 (fun x : ByteArray => .string x) w tb mb l) :
    Calls Try.prog 69 #[.pointer (some ⟨tb, 0, none⟩)] w fun e w1 => e = .returned (.int .i64 (l.length : Int)) ∧ Fr [] w w1 := by
  obtain ⟨ht, es, clock, hob, hp, _, _⟩ := h
  have h0 := cell_of ht 0
  have hb : ob w mb = some (.map es clock) := hob
  have hlen : ∀ (ty : TypeId) (W : World), ob W mb = some (.map es clock) → (Builtin.len_ #[196] ty #[.map (some mb)]).run Try.prog W = .ok (.int .i64 (l.length : Int)) W := by
    intro ty W hW
    have := run_lenMap (P := Try.prog) Try.underlying196 ty hW hp
    rwa [vals_length] at this
  clear hp hob
  go_enter Try.func69, Try.ntmps69
  go_wp2
  go_ret
  refine ⟨rfl, ?_⟩
  repeat' (first | exact Fr.refl _ _ | apply Fr.drew | apply Fr.alloc)

set_option maxHeartbeats 1600000 in
theorem dropN_Str (tb mb : Nat) (s : Sp) (w : World) (es : Array MapEntry) (clock : Nat) (a : ByteArray)
    (h0 : w.cell? ⟨tb, 0, none⟩ = some (.map (some mb))) (hlt : tb < w.heap.size) (hb : ob w mb = some (.map es clock)) (hlm : mb < w.heap.size)
    (hlook : ∀ W : World, ob W mb = some (.map es clock) → (Instr.lookup 196 (.map (some mb)) (spV s) true).run Try.prog W = .ok (.tuple #[.string a, .bool false]) W) :
    Calls Try.prog 70 #[.pointer (some ⟨tb, 0, none⟩), spV s] w fun e w1 => e = .returned (.bool false) ∧ Fr [] w w1 := by
  have hlt1 : ∀ k, tb < w.heap.size + k := fun k => by omega
  have hlm1 : ∀ k, mb < w.heap.size + k := fun k => by omega
  go_enter Try.func70, Try.ntmps70
  go_wp2
  go_region
  go_wp2
  go_ret
  refine ⟨rfl, ?_⟩
  repeat' (first | exact Fr.refl _ _ | apply Fr.drew | apply Fr.alloc)

set_option maxHeartbeats 1600000 in
theorem dropY_Str (tb mb : Nat) (s : Sp) (w : World) (es : Array MapEntry) (clock : Nat) (O : Obj) (a : ByteArray)
    (ht : w.heap[tb]? = some (.cells #[.map (some mb), .slice none 0 0] 198 (0, 0))) (hb : ob w mb = some (.map es clock)) (hlm : mb < w.heap.size) (hne : ¬ mb = tb)
    (hlook : ∀ W : World, ob W mb = some (.map es clock) → (Instr.lookup 196 (.map (some mb)) (spV s) true).run Try.prog W = .ok (.tuple #[.string a, .bool true]) W)
    (hdel : ∀ (ty x : TypeId) (W : World), ob W mb = some (.map es clock) → (Builtin.delete_ #[196, x] ty #[.map (some mb), spV s]).run Try.prog W = .ok (.tuple #[]) (ChangeMaps.setBlock W mb O)) :
    Calls Try.prog 70 #[.pointer (some ⟨tb, 0, none⟩), spV s] w fun e w1 => e = .returned (.bool true) ∧ ∃ W, Fr [] w W ∧ Fr [tb] (ChangeMaps.setBlock W mb O) w1 ∧ w1.heap[tb]? = some (.cells #[.map (some mb), .slice none 0 0] 198 (0, 0)) := by
  have hlt := lt_of ht
  have h0 := cell_of ht 0
  have h1 := cell_of ht 1
  have hf := free_of ht 1
  have hc : ∀ W : World, (ChangeMaps.setBlock W mb O).cell? ⟨tb, 1, none⟩ = W.cell? ⟨tb, 1, none⟩ := fun W => World.cell?_of_block (heap_setBlock_ne W mb O (fun e => hne e.symm))
  have hfz : ∀ W : World, (ChangeMaps.setBlock W mb O).frozen? ⟨tb, 1, none⟩ = W.frozen? ⟨tb, 1, none⟩ := fun W => World.frozen?_of_block (heap_setBlock_ne W mb O (fun e => hne e.symm))
  have hlt1 : ∀ k, tb < w.heap.size + k := fun k => by omega
  have hlm1 : ∀ k, mb < w.heap.size + k := fun k => by omega
  have HT := Lib.hid ht
  clear ht
  go_enter Try.func70, Try.ntmps70
  go_wp2
  go_region
  go_wp2
  go_region
  go_wp2
  go_ret
  refine ⟨rfl, ?W, ?fa, ?fb, ?fc⟩
  case fb => first | exact ((Fr.refl [tb] (ChangeMaps.setBlock _ mb O)).drew).setCell (p := ⟨tb, 1, none⟩) (.inl (by simp)) _ | exact (Fr.refl [tb] (ChangeMaps.setBlock _ mb O)).setCell (p := ⟨tb, 1, none⟩) (.inl (by simp)) _ | exact ((Fr.refl [tb] (ChangeMaps.setBlock _ mb O)).setCell (p := ⟨tb, 1, none⟩) (.inl (by simp)) _).drew | exact (((Fr.refl [tb] (ChangeMaps.setBlock _ mb O)).drew).setCell (p := ⟨tb, 1, none⟩) (.inl (by simp)) _).drew
  case fc =>
    refine set_of (i := 1) (v := .slice none 0 0) (cs := #[.map (some mb), .slice none 0 0]) ?_ |>.trans (by rfl)
    refine (heap_setBlock_ne _ mb O (fun e => hne e.symm)).trans ?_
    first | exact (Below.heap_alloc w _ tb hlt).trans HT.out | exact (Below.heap_alloc _ _ tb (by simp; omega)).trans ((Below.heap_alloc w _ tb hlt).trans HT.out)
  case fa => repeat' (first | exact Fr.refl _ _ | apply Fr.drew | apply Fr.alloc)

theorem drop_Str (tb mb : Nat) (s : Sp) (l : List (Sp × ByteArray)) (w : World) (h : TabIs 198 (fun x : ByteArray => .string x) w tb mb l) :
    Calls Try.prog 70 #[.pointer (some ⟨tb, 0, none⟩), spV s] w fun e w1 => e = .returned (.bool (getS s l).isSome) ∧ TabIs 198 (fun x : ByteArray => .string x) w1 tb mb (delS s l) ∧ Fr [tb, mb] w w1 := by
  have hne := h.ne
  have hT := h
  obtain ⟨ht, es, clock, hb, hp, hs, hn⟩ := h
  have hlook : ∀ W : World, ob W mb = some (.map es clock) → (Instr.lookup 196 (.map (some mb)) (spV s) true).run Try.prog W = .ok (.tuple #[.string ((getS s l).getD ⟨#[]⟩), .bool (getS s l).isSome]) W := by
    intro W hW
    have := run_look (P := Try.prog) spotKey Try.underlying196 zeroTStr hW hp s true
    rw [this, getS_vals]
    cases getS s l <;> rfl
  have hdel := fun (ty x : TypeId) (W : World) (hW : ob W mb = some (.map es clock)) => run_del (P := Try.prog) spotKey Try.underlying196 ty hW hp s x
  cases hg : getS s l with
  | none =>
    rw [hg] at hlook
    refine (dropN_Str tb mb s w es clock _ (cell_of ht 0) (lt_of ht) hb (lt_of hb) hlook).mono ?_
    rintro e w1 ⟨rfl, h1⟩
    have e1 : delS s l = l := del_none (idx_none hg)
    exact ⟨rfl, by rw [e1]; exact hT.fr h1 (by simp) (by simp), h1.mono (by simp)⟩
  | some y =>
    rw [hg] at hlook
    refine (dropY_Str tb mb s w es clock _ _ ht hb (lt_of hb) (fun h => hne h.symm) hlook hdel).mono ?_
    rintro e w1 ⟨rfl, W, h1, h2, h3⟩
    have hbW := h1.heap hb (by simp)
    refine ⟨rfl, ⟨h3, ?_⟩, ((h1.mono (by simp)).setBlock hbW (.inl (by simp)) _).trans h2 (by simp)⟩
    rw [← delS_vals]
    exact (MapIs.del hbW hp hs hn s).fr h2 (by simpa using fun h => hne h.symm)

theorem len_Ptr (tb mb : Nat) (l : List (Sp × Option Addr)) (w : World) (h : TabIs 155 (fun x : Option Addr => .pointer x) w tb mb l) :
    Calls Try.prog 38 #[.pointer (some ⟨tb, 0, none⟩)] w fun e w1 => e = .returned (.int .i64 (l.length : Int)) ∧ Fr [] w w1 := by
  obtain ⟨ht, es, clock, hob, hp, _, _⟩ := h
  have h0 := cell_of ht 0
  have hb : ob w mb = some (.map es clock) := hob
  have hlen : ∀ (ty : TypeId) (W : World), ob W mb = some (.map es clock) → (Builtin.len_ #[153] ty #[.map (some mb)]).run Try.prog W = .ok (.int .i64 (l.length : Int)) W := by
    intro ty W hW
    have := run_lenMap (P := Try.prog) Try.underlying153 ty hW hp
    rwa [vals_length] at this
  clear hp hob
  go_enter Try.func38, Try.ntmps38
  go_wp2
  go_ret
  refine ⟨rfl, ?_⟩
  repeat' (first | exact Fr.refl _ _ | apply Fr.drew | apply Fr.alloc)

theorem len_Th (tb mb : Nat) (l : List (Sp × Th)) (w : World) (h : TabIs 158 (fun x : Th => Th.val x) w tb mb l) :
    Calls Try.prog 39 #[.pointer (some ⟨tb, 0, none⟩)] w fun e w1 => e = .returned (.int .i64 (l.length : Int)) ∧ Fr [] w w1 := by
  obtain ⟨ht, es, clock, hob, hp, _, _⟩ := h
  have h0 := cell_of ht 0
  have hb : ob w mb = some (.map es clock) := hob
  have hlen : ∀ (ty : TypeId) (W : World), ob W mb = some (.map es clock) → (Builtin.len_ #[156] ty #[.map (some mb)]).run Try.prog W = .ok (.int .i64 (l.length : Int)) W := by
    intro ty W hW
    have := run_lenMap (P := Try.prog) Try.underlying156 ty hW hp
    rwa [vals_length] at this
  clear hp hob
  go_enter Try.func39, Try.ntmps39
  go_wp2
  go_ret
  refine ⟨rfl, ?_⟩
  repeat' (first | exact Fr.refl _ _ | apply Fr.drew | apply Fr.alloc)

theorem zeroTSeen (w : World) : (zeroValue 122).run Try.prog w = .ok (Seen.val seen0) w := zeroSeen w

set_option maxHeartbeats 1600000 in
theorem dropN_Seen (tb mb : Nat) (s : Sp) (w : World) (es : Array MapEntry) (clock : Nat) (a b : Int) (t : ByteArray) (p : Option Addr) (n c : Nat)
    (h0 : w.cell? ⟨tb, 0, none⟩ = some (.map (some mb))) (hlt : tb < w.heap.size) (hb : ob w mb = some (.map es clock)) (hlm : mb < w.heap.size)
    (hlook : ∀ W : World, ob W mb = some (.map es clock) → (Instr.lookup 190 (.map (some mb)) (spV s) true).run Try.prog W = .ok (.tuple #[.agg #[.int .i64 a, .int .i64 b, .string t, .slice p n c], .bool false]) W) :
    Calls Try.prog 90 #[.pointer (some ⟨tb, 0, none⟩), spV s] w fun e w1 => e = .returned (.bool false) ∧ Fr [] w w1 := by
  have hlt1 : ∀ k, tb < w.heap.size + k := fun k => by omega
  have hlm1 : ∀ k, mb < w.heap.size + k := fun k => by omega
  go_enter Try.func90, Try.ntmps90
  go_wp2
  go_region
  go_wp2
  go_ret
  refine ⟨rfl, ?_⟩
  repeat' (first | exact Fr.refl _ _ | apply Fr.drew | apply Fr.alloc)

set_option maxHeartbeats 1600000 in
theorem dropY_Seen (tb mb : Nat) (s : Sp) (w : World) (es : Array MapEntry) (clock : Nat) (O : Obj) (a b : Int) (t : ByteArray) (p : Option Addr) (n c : Nat)
    (ht : w.heap[tb]? = some (.cells #[.map (some mb), .slice none 0 0] 192 (0, 0))) (hb : ob w mb = some (.map es clock)) (hlm : mb < w.heap.size) (hne : ¬ mb = tb)
    (hlook : ∀ W : World, ob W mb = some (.map es clock) → (Instr.lookup 190 (.map (some mb)) (spV s) true).run Try.prog W = .ok (.tuple #[.agg #[.int .i64 a, .int .i64 b, .string t, .slice p n c], .bool true]) W)
    (hdel : ∀ (ty x : TypeId) (W : World), ob W mb = some (.map es clock) → (Builtin.delete_ #[190, x] ty #[.map (some mb), spV s]).run Try.prog W = .ok (.tuple #[]) (ChangeMaps.setBlock W mb O)) :
    Calls Try.prog 90 #[.pointer (some ⟨tb, 0, none⟩), spV s] w fun e w1 => e = .returned (.bool true) ∧ ∃ W, Fr [] w W ∧ Fr [tb] (ChangeMaps.setBlock W mb O) w1 ∧ w1.heap[tb]? = some (.cells #[.map (some mb), .slice none 0 0] 192 (0, 0)) := by
  have hlt := lt_of ht
  have h0 := cell_of ht 0
  have h1 := cell_of ht 1
  have hf := free_of ht 1
  have hc : ∀ W : World, (ChangeMaps.setBlock W mb O).cell? ⟨tb, 1, none⟩ = W.cell? ⟨tb, 1, none⟩ := fun W => World.cell?_of_block (heap_setBlock_ne W mb O (fun e => hne e.symm))
  have hfz : ∀ W : World, (ChangeMaps.setBlock W mb O).frozen? ⟨tb, 1, none⟩ = W.frozen? ⟨tb, 1, none⟩ := fun W => World.frozen?_of_block (heap_setBlock_ne W mb O (fun e => hne e.symm))
  have hlt1 : ∀ k, tb < w.heap.size + k := fun k => by omega
  have hlm1 : ∀ k, mb < w.heap.size + k := fun k => by omega
  have HT := Lib.hid ht
  clear ht
  go_enter Try.func90, Try.ntmps90
  go_wp2
  go_region
  go_wp2
  go_region
  go_wp2
  go_ret
  refine ⟨rfl, ?W, ?fa, ?fb, ?fc⟩
  case fb => first | exact ((Fr.refl [tb] (ChangeMaps.setBlock _ mb O)).drew).setCell (p := ⟨tb, 1, none⟩) (.inl (by simp)) _ | exact (Fr.refl [tb] (ChangeMaps.setBlock _ mb O)).setCell (p := ⟨tb, 1, none⟩) (.inl (by simp)) _ | exact ((Fr.refl [tb] (ChangeMaps.setBlock _ mb O)).setCell (p := ⟨tb, 1, none⟩) (.inl (by simp)) _).drew | exact (((Fr.refl [tb] (ChangeMaps.setBlock _ mb O)).drew).setCell (p := ⟨tb, 1, none⟩) (.inl (by simp)) _).drew
  case fc =>
    refine set_of (i := 1) (v := .slice none 0 0) (cs := #[.map (some mb), .slice none 0 0]) ?_ |>.trans (by rfl)
    refine (heap_setBlock_ne _ mb O (fun e => hne e.symm)).trans ?_
    first | exact (Below.heap_alloc w _ tb hlt).trans HT.out | exact (Below.heap_alloc _ _ tb (by simp; omega)).trans ((Below.heap_alloc w _ tb hlt).trans HT.out)
  case fa => repeat' (first | exact Fr.refl _ _ | apply Fr.drew | apply Fr.alloc)

theorem drop_Seen (tb mb : Nat) (s : Sp) (l : List (Sp × Seen)) (w : World) (h : TabIs 192 (fun x : Seen => Seen.val x) w tb mb l) :
    Calls Try.prog 90 #[.pointer (some ⟨tb, 0, none⟩), spV s] w fun e w1 => e = .returned (.bool (getS s l).isSome) ∧ TabIs 192 (fun x : Seen => Seen.val x) w1 tb mb (delS s l) ∧ Fr [tb, mb] w w1 := by
  have hne := h.ne
  have hT := h
  obtain ⟨ht, es, clock, hb, hp, hs, hn⟩ := h
  have hlook : ∀ W : World, ob W mb = some (.map es clock) → (Instr.lookup 190 (.map (some mb)) (spV s) true).run Try.prog W = .ok (.tuple #[((getS s l).getD seen0).val, .bool (getS s l).isSome]) W := by
    intro W hW
    have := run_look (P := Try.prog) spotKey Try.underlying190 zeroTSeen hW hp s true
    rw [this, getS_vals]
    cases getS s l <;> rfl
  have hdel := fun (ty x : TypeId) (W : World) (hW : ob W mb = some (.map es clock)) => run_del (P := Try.prog) spotKey Try.underlying190 ty hW hp s x
  cases hg : getS s l with
  | none =>
    rw [hg] at hlook
    refine (dropN_Seen tb mb s w es clock _ _ _ _ _ _ (cell_of ht 0) (lt_of ht) hb (lt_of hb) hlook).mono ?_
    rintro e w1 ⟨rfl, h1⟩
    have e1 : delS s l = l := del_none (idx_none hg)
    exact ⟨rfl, by rw [e1]; exact hT.fr h1 (by simp) (by simp), h1.mono (by simp)⟩
  | some y =>
    rw [hg] at hlook
    refine (dropY_Seen tb mb s w es clock _ _ _ _ _ _ _ ht hb (lt_of hb) (fun h => hne h.symm) hlook hdel).mono ?_
    rintro e w1 ⟨rfl, W, h1, h2, h3⟩
    have hbW := h1.heap hb (by simp)
    refine ⟨rfl, ⟨h3, ?_⟩, ((h1.mono (by simp)).setBlock hbW (.inl (by simp)) _).trans h2 (by simp)⟩
    rw [← delS_vals]
    exact (MapIs.del hbW hp hs hn s).fr h2 (by simpa using fun h => hne h.symm)
end Go.Proofs.Ytldppdafgbipjaa
