/-
  A slice's front and what lies behind it.
  A region by its facts: operations with a guard. No program in sight.
  keep.Load of no bytes.
  value.Literal at the text 5: strconv.ParseInt and whole.Read at that text.
  strings.Builder: copyCheck, WriteByte, WriteString, Len, String, at a builder whose bytes lie in a row of its own.
-/
import Derived.Test.YtnmkhoebijodhaaGreatDoorSlice
import Derived.Test.YtnmkhoebijodhaaGreatDoorKeepC
import Derived.Test.YtnmkhoebijodhaaGreatDoorFacts
import Derived.Test.YtnmkhoebijodhaaGreatDoorKeepN
import Derived.Lib.ConvBytes
import Derived.Lib.UnsafeStr
import Derived.Lib.Builder
import Derived.Lib.AppendStr
import Derived.Laws.Externs
namespace Go.Proofs.YtnmkhoebijodhaaGreatDoor
section
open Go.RowKit Go.Shelf

theorem SlAt.front {w : World} {b off n c size : Nat} {cs : List Value} (h : SlAt w (.slice (some ⟨b, off, none⟩) n c) size n cs) (k : Nat) (hk : k ≤ n) : SlAt w (.slice (some ⟨b, off, none⟩) k c) size k (cs.take (k * size)) := by
  obtain ⟨_, _, e, h1, h2⟩ := h.form
  cases e
  have hks : k * size ≤ n * size := Nat.mul_le_mul_right _ hk
  refine ⟨by rw [List.length_take, h.len]; omega, ⟨_, _, rfl, by omega, h2⟩, fun h0 => ?_⟩
  obtain ⟨b', off', c', e, hb, hc⟩ := h.cell (by omega)
  cases e
  refine ⟨_, _, _, rfl, hb, fun j x hx => hc j x ?_⟩
  rw [List.getElem?_take] at hx
  split at hx
  · exact hx
  · cases hx
theorem SlAt.back {w : World} {b off n c size : Nat} {cs : List Value} (h : SlAt w (.slice (some ⟨b, off, none⟩) n c) size n cs) (k : Nat) (hk : k ≤ n) : SlAt w (.slice (some ⟨b, off + k * size, none⟩) (n - k) (c - k)) size (n - k) (cs.drop (k * size)) := by
  obtain ⟨_, _, e, h1, h2⟩ := h.form
  cases e
  have hks : k * size ≤ n * size := Nat.mul_le_mul_right _ hk
  refine ⟨by rw [List.length_drop, h.len, Nat.sub_mul], ⟨_, _, rfl, by omega, by omega⟩, fun h0 => ?_⟩
  obtain ⟨b', off', c', e, hb, hc⟩ := h.cell (by omega)
  cases e
  refine ⟨_, _, _, rfl, hb, fun j x hx => ?_⟩
  rw [List.getElem?_drop] at hx
  have := hc _ _ hx
  rwa [← Nat.add_assoc] at this
theorem flat_drop {α : Type} (f : α → List Value) (size : Nat) (hf : ∀ x, (f x).length = size) : ∀ (l : List α) (m : Nat), (l.flatMap f).drop (m * size) = (l.drop m).flatMap f
  | [], m => by simp
  | x :: l, 0 => by simp
  | x :: l, m + 1 => by
    rw [List.flatMap_cons, List.drop_succ_cons, ← flat_drop f size hf l m]
    have e : (m + 1) * size = (f x).length + m * size := by rw [hf, Nat.add_mul]; omega
    rw [e, List.drop_append, List.drop_eq_nil_of_le (by omega)]
    simp
/-- What is left behind a batch. -/
theorem SlAt.next {w : World} {b off n c : Nat} {L : List (Sp × ByteArray)} {k i : Nat} (h : SlAt w (.slice (some ⟨b, off, none⟩) n c) 11 n ((L.drop k).flatMap edC)) (hn : L.length - k = n) (hi : i ≤ n) :
    SlAt w (.slice (some ⟨b, off + i * 11, none⟩) (L.length - (k + i)) (c - i)) 11 (L.length - (k + i)) ((L.drop (k + i)).flatMap edC) := by
  have e : L.length - (k + i) = n - i := by omega
  have h2 := h.back i hi
  rw [flat_drop edC 11 (fun _ => rfl), List.drop_drop] at h2
  rw [e]
  exact h2
end
section
open Go.RowKit

theorem wanted_on {ops : Array Oper} {a : Act} {o : Oper} {k d : Nat} {b : Bool} (hg : o.guard = some (k, b)) (hk : (ops[k]?).bind (·.dst) = some d) (hv : a.tmps[d]?.getD undef = .bool b) : Region.wanted o (yielded ops a.tmps) = true := by
  unfold Region.wanted yielded
  rw [hg]
  simp only [hk]
  cases h : a.tmps[d]? with
  | none => rw [h] at hv; cases hv
  | some v =>
    rw [h] at hv
    cases hv
    simp [h]
theorem wanted_off {ops : Array Oper} {a : Act} {o : Oper} {k d : Nat} {b c : Bool} (hg : o.guard = some (k, b)) (hk : (ops[k]?).bind (·.dst) = some d) (hv : a.tmps[d]?.getD undef = .bool c) (hc : (c == b) = false := by decide) : ¬ Region.wanted o (yielded ops a.tmps) = true := by
  unfold Region.wanted yielded
  rw [hg]
  simp only [hk]
  cases h : a.tmps[d]? with
  | none => rw [h] at hv; cases hv
  | some v =>
    rw [h] at hv
    cases hv
    simp [h]
    intro e
    rw [e] at hc
    simp at hc
theorem wanted_undef {ops : Array Oper} {a : Act} {o : Oper} {k d : Nat} {b : Bool} (hg : o.guard = some (k, b)) (hk : (ops[k]?).bind (·.dst) = some d) (hv : a.tmps[d]?.getD undef = undef) : ¬ Region.wanted o (yielded ops a.tmps) = true := by
  unfold Region.wanted yielded
  rw [hg]
  simp only [hk]
  cases h : a.tmps[d]? with
  | none => simp [h]
  | some v =>
    rw [h] at hv
    simp only [Option.getD_some] at hv
    subst hv
    simp [h, undef]
end
section
open Go.RowKit Go.Shelf

set_option maxRecDepth 100000 in
set_option maxHeartbeats 1600000 in
/-- Behind a fault there are no cells. -/
theorem rdCellsNo (r : Nat) (v : Value) (a b : Int) (w : World) (h : w.heap[r]? = some (rdV v a b)) (hb : 0 ≤ b) :
    Calls Tryz.prog 39 #[.pointer (some ⟨r, 0, none⟩)] w fun e w1 => e = .returned (.slice none 0 0) ∧ Fr [] w w1 := by
  have hnum := Lib.hid (fun (u : World) (hu : w.heap[r]? = some (rdV v a b) → u.heap[r]? = some (rdV v a b)) => rdNumberNo r v a b 4 65536 u (hu h) hb (by omega))
  have lr := lt_of h
  have H := Lib.hid h
  clear h
  go_enter Tryz.func39, Tryz.ntmps39
  go_wp2_with fail
  have hA := (Fr.refl [] w).alloc (.cells #[.int .i64 (-1), .int .i64 0] 33)
  refine (hnum.out _ (fun h => hA.heap h (by simp))).mono ?_
  rintro e w1 ⟨rfl, h1⟩
  have hr1 := h1.heap (hA.heap H.out (by simp)) (by simp)
  have c2 := cell_of hr1 2
  go_wp2_with fail
  go_loop [3, 6] (fun l v => l = .slice none 0 0 ∧ v = .int .i64 0) (fun _ _ => 0)
  case atStart => exact ⟨rfl, rfl⟩
  case round =>
    obtain ⟨rfl, rfl⟩ := hrel
    go_wp2_with fail
    go_ret
    exact ⟨rfl, hA.trans0 h1⟩

set_option maxRecDepth 100000 in
set_option maxHeartbeats 6400000 in
theorem loadNil (w : World) : Calls Tryz.prog 16 #[.slice none 0 0] w fun e w1 => e = .returned (.tuple #[.pointer none, .int .i64 0, .int .i64 28]) ∧ Fr [] w w1 := by
  go_enter Tryz.func16, Tryz.ntmps16
  go_wp2_with fail
  have hA := (Fr.refl [] w).alloc (.cells #[.slice none 0 0, .int .i64 0, .int .i64 (-1)] 91)
  have hr0 := heap_new w (.cells #[.slice none 0 0, .int .i64 0, .int .i64 (-1)] 91)
  obtain ⟨r, hre⟩ : ∃ r, w.heap.size = r := ⟨_, rfl⟩
  simp only [hre] at hr0 ⊢
  have hcv : ∀ u, (convert 22 9 (.slice none 0 0)).run Tryz.prog u = .ok (.string ⟨#[]⟩) u := fun u => by kernel_rfl
  refine (rdBytesShort r none 0 0 0 4 _ hr0 (by omega) (by omega) (by omega)).mono ?_
  rintro e w1 ⟨rfl, hr1, h1⟩
  go_wp2_with fail
  refine (rdWrong0 r _ _ _ 0 _ hr1 (by omega)).mono ?_
  rintro e w2 ⟨rfl, h2⟩
  have hr2 := h2.heap hr1 (by simp)
  go_wp2_with fail
  refine (rdNumberNo r _ _ _ 1 64 _ hr2 (by omega) (by omega)).mono ?_
  rintro e w3 ⟨rfl, h3⟩
  have hr3 := h3.heap hr2 (by simp)
  go_wp2_with fail
  refine (rdCellsNo r _ _ _ _ hr3 (by omega)).mono ?_
  rintro e w4 ⟨rfl, h4⟩
  have hr4 := h4.heap hr3 (by simp)
  have c1 := cell_of hr4 1
  have c2 := cell_of hr4 2
  go_wp2_with fail
  go_quiet (fail)
  go_wp2_with fail
  refine bodyPost_ret (v := .tuple #[.pointer none, .int .i64 0, .int .i64 28]) (by simp [results, Tryz.results16, go_sem]) rfl ?_
  exact ⟨rfl, (hA.trans (((h1.trans0 h2).trans0 h3).trans0 h4) (by simp; omega)).drewN _⟩
end
section
open Go.RowKit Go.Shelf

set_option maxRecDepth 100000 in
set_option maxHeartbeats 6400000 in
theorem pUint5 (t : ByteArray) (ht : t = ⟨#[53]⟩) (w : World) : Calls Tryz.prog 276 #[.string t, .int .i64 10, .int .i64 64] w fun e w1 => e = .returned (.tuple #[.int .u64 5, .nilIface]) ∧ Fr [] w w1 := by
  have hsz : t.size = 1 := by rw [ht]; rfl
  have hne : t.toList.isEmpty = false := by rw [ht, ByteArray.toList_eq]; rfl
  have hcv := Lib.run_convert_string_bytes (P := Tryz.prog) w 9 22 5 t (u := .string) Tryz.underlying9 Tryz.underlying22 Tryz.underlying5
  have hB : (Lib.bytesWorld w 5 t).cell? ⟨w.heap.size, 0, none⟩ = some (.int .u8 53) := by
    rw [Lib.bytesWorld_cell w 5 t 0 (by omega), ht]
    rfl
  have hF : Fr [] w (Lib.bytesWorld w 5 t) := Fr.of_below (Lib.below_freeze ((Below.drew (Below.refl _ w)).alloc (Nat.le_refl _) _) (p := ⟨w.heap.size, _, none⟩) (Nat.le_refl _) 1) []
  obtain ⟨W1, hW1⟩ : ∃ W1, W1 = Lib.bytesWorld w 5 t := ⟨_, rfl⟩
  rw [← hW1] at hcv hB hF
  have hmv : IntKind.u64.wrap (IntKind.u64.wrap 18446744073709551616 - 1) = 18446744073709551615 := by
    rw [IntKind.wrap_u64, IntKind.wrap_u64]
    decide
  clear hW1 ht
  go_enter Tryz.func276, Tryz.ntmps276
  go_wp2_with fail
  go_loop [12, 13, 101] (fun vu vn vi => vu = .bool false ∧ ((vi = .int .i64 0 ∧ vn = .int .u64 0) ∨ (vi = .int .i64 1 ∧ vn = .int .u64 5))) (fun _ _ vi => 1 - (intOf vi).toNat)
  case atStart => exact ⟨rfl, .inl ⟨rfl, rfl⟩⟩
  case round =>
    obtain ⟨rfl, (⟨rfl, rfl⟩ | ⟨rfl, rfl⟩)⟩ := hrel
    · go_wp2_with fail
      go_round
      case rel => exact ⟨rfl, .inr ⟨rfl, rfl⟩⟩
      case measure => simp [intOf]
    · go_wp2_with fail
      go_ret2
      exact ⟨rfl, hF⟩

set_option maxRecDepth 100000 in
set_option maxHeartbeats 6400000 in
theorem pInt5 (t : ByteArray) (ht : t = ⟨#[53]⟩) (w : World) : Calls Tryz.prog 211 #[.string t, .int .i64 10, .int .i64 64] w fun e w1 => e = .returned (.tuple #[.int .i64 5, .nilIface]) ∧ Fr [] w w1 := by
  have hsz : t.size = 1 := by rw [ht]; rfl
  have hne : t.toList.isEmpty = false := by rw [ht, ByteArray.toList_eq]; rfl
  have b0 : ((t[0]'(by omega)).toNat : Int) = 53 := by subst ht; rfl
  have hp := Lib.hid (pUint5 t ht w)
  clear ht
  go_enter Tryz.func211, Tryz.ntmps211
  go_wp2_with fail
  refine hp.out.mono ?_
  rintro e w1 ⟨rfl, h1⟩
  go_wp2_with fail
  go_ret2
  exact ⟨rfl, h1⟩

set_option maxRecDepth 100000 in
set_option maxHeartbeats 1600000 in
theorem scInt5 (t : ByteArray) (ht : t = ⟨#[53]⟩) (w : World) : Calls Tryz.prog 146 #[.string t, .int .i64 10, .int .i64 64] w fun e w1 => e = .returned (.tuple #[.int .i64 5, .nilIface]) ∧ Fr [] w w1 := by
  have hp := Lib.hid (pInt5 t ht w)
  clear ht
  go_enter Tryz.func146, Tryz.ntmps146
  go_wp2_with fail
  refine hp.out.mono ?_
  rintro e w1 ⟨rfl, h1⟩
  go_wp2_with fail
  go_ret2
  exact ⟨rfl, h1⟩

set_option maxRecDepth 100000 in
set_option maxHeartbeats 6400000 in
theorem wholeRead5 (t : ByteArray) (ht : t = ⟨#[53]⟩) (w : World) : Calls Tryz.prog 102 #[.string t] w fun e w1 => e = .returned (.tuple #[.int .i64 5, .int .i64 0]) ∧ Fr [] w w1 := by
  have hsz : t.size = 1 := by rw [ht]; rfl
  have hne : t.toList.isEmpty = false := by rw [ht, ByteArray.toList_eq]; rfl
  have b0 : ((t[0]'(by omega)).toNat : Int) = 53 := by subst ht; rfl
  have hp := Lib.hid (scInt5 t ht w)
  clear ht
  go_enter Tryz.func102, Tryz.ntmps102
  go_wp2_with fail
  go_loop [31] (fun vi => vi = .int .i64 0 ∨ vi = .int .i64 1) (fun vi => 1 - (intOf vi).toNat)
  case atStart => exact .inl rfl
  case round =>
    rcases hrel with rfl | rfl
    · go_wp2_with fail
      go_round
      case rel => exact .inr rfl
      case measure => simp [intOf]
    · go_wp2_with fail
      refine hp.out.mono ?_
      rintro e w1 ⟨rfl, h1⟩
      go_wp2_with fail
      go_ret2
      exact ⟨rfl, h1⟩

/-- The value 5. -/
abbrev five : Value := .agg #[.int .i64 1, .int .i64 5, .string ⟨#[]⟩]

set_option maxRecDepth 100000 in
set_option maxHeartbeats 6400000 in
theorem literal5 (t : ByteArray) (ht : t = ⟨#[53]⟩) (w : World) : Calls Tryz.prog 69 #[.string t] w fun e w1 => e = .returned (.tuple #[five, .bool true]) ∧ Fr [] w w1 := by
  have hsz : t.size = 1 := by rw [ht]; rfl
  have hne : t.toList.isEmpty = false := by rw [ht, ByteArray.toList_eq]; rfl
  have b0 : ((t[0]'(by omega)).toNat : Int) = 53 := by subst ht; rfl
  have hp := Lib.hid (fun u : World => wholeRead5 t ht u)
  clear ht
  go_enter Tryz.func69, Tryz.ntmps69
  go_wp2_with fail
  refine (hp.out _).mono ?_
  rintro e w1 ⟨rfl, h1⟩
  have hb1 := h1.heap (heap_new w (.cells #[.int .i64 0, .int .i64 0, .string ⟨#[]⟩] 62)) (by simp)
  have hr := h1.rules
  go_wp2_with fail
  have hb2 := set_of (set_of (set_of hb1 0 (.int .i64 1)) 1 (.int .i64 5)) 2 (.string ⟨#[]⟩)
  have hF : Fr [] w (((w1.setCell ⟨w.heap.size, 0, none⟩ (.int .i64 1)).setCell ⟨w.heap.size, 1, none⟩ (.int .i64 5)).setCell ⟨w.heap.size, 2, none⟩ (.string ⟨#[]⟩)) :=
    (((((Fr.refl [] w).alloc _).trans0 h1).setCell (.inr (by simp)) _).setCell (.inr (by simp)) _).setCell (.inr (by simp)) _
  generalize ((w1.setCell ⟨w.heap.size, 0, none⟩ (.int .i64 1)).setCell ⟨w.heap.size, 1, none⟩ (.int .i64 5)).setCell ⟨w.heap.size, 2, none⟩ (.string ⟨#[]⟩) = W at *
  have d0 := cell_of hb2 0
  have d1 := cell_of hb2 1
  have d2 := cell_of hb2 2
  clear hr hb1
  simp at d0 d1 d2
  refine bodyPost_ret (v := .tuple #[five, .bool true]) (by simp [results, Tryz.results69, go_sem, d0, d1, d2]) rfl ?_
  exact ⟨rfl, hF⟩
end
section
open Go.RowKit Go.Shelf

theorem setCell_ku {B : Nat} {S : List Nat} {T : Option TypeId} (W : World) {p : Addr} (hp : p.block ∈ S) (v : Value) : KeptT B S T W (W.setCell p v) :=
  ((Fr.refl S W).setCell (.inl hp) v).keptT B T

/-- A builder in the block b; its bytes lie in a row of its own behind B. -/
structure BdAt (w : World) (B b : Nat) (l : List UInt8) : Prop where
  lt : b < B
  blk : ∃ p v, w.heap[b]? = some (.cells #[p, v] 117 (0, 0)) ∧ (p = .pointer none ∨ p = .pointer (some ⟨b, 0, none⟩)) ∧ w.ownsRow B 5 1 v l.length (Lib.byteCells l)

theorem BdAt.kept {w w1 : World} {B b : Nat} {l : List UInt8} {S : List Nat} (h : BdAt w B b l) (hf : Fr S w w1) (hb : b ∉ S) (hS : ∀ k ∈ S, k < B) : BdAt w1 B b l := by
  obtain ⟨h0, p, v, h1, h2, h3⟩ := h
  refine ⟨h0, p, v, hf.heap h1 hb, h2, owns_fr h3 hf (fun g hg hm => ?_)⟩
  have := (h3.lt g hg).1
  have := hS g hm
  omega

set_option maxRecDepth 100000 in
set_option maxHeartbeats 1600000 in
theorem bdCheck (b : Nat) (p v : Value) (w : World) (h : w.heap[b]? = some (.cells #[p, v] 117 (0, 0))) (hp : p = .pointer none ∨ p = .pointer (some ⟨b, 0, none⟩)) :
    Calls Tryz.prog 73 #[.pointer (some ⟨b, 0, none⟩)] w fun e w1 => e = .returned (.tuple #[]) ∧ w1.heap[b]? = some (.cells #[.pointer (some ⟨b, 0, none⟩), v] 117 (0, 0)) ∧ Fr [b] w w1 := by
  have hj0 : (Tryz.prog.info? 117).map (·.size) = some 2 := by kernel_rfl
  obtain ⟨j, hj, hjs⟩ := Option.map_eq_some_iff.1 hj0
  have hlies : liesAt Tryz.prog Tryz.prog.depth 117 (2 / Tryz.prog.cellsOf 117) 0 117 1 = true := by kernel_rfl
  have c0 := cell_of h 0
  have f0 := free_of h 0
  rcases hp with rfl | rfl
  · have hsh : w.shape? b = some (117, 2) := by simp [World.shape?, h]
    go_enter Tryz.func73, Tryz.ntmps73
    go_wp2
    rw [Lib.run_to_unsafe w ⟨b, 0, none⟩ Tryz.underlying115 Tryz.underlying211 hj (by rw [hjs]; decide) hsh (Nat.zero_lt_succ 1)]
    simp only [Result.andThen]
    rw [Oper.upon_value]
    go_wp2
    rw [run_callFunc_extern Tryz.func109 (by kernel_rfl) (by kernel_rfl) (by kernel_rfl) (e := Extern.AbiNoEscape.same) (by kernel_rfl)]
    rw [Lib.run_noEscape]
    simp only [Result.andThen]
    rw [Oper.upon_value]
    go_wp2
    rw [Lib.run_from_unsafe w ⟨b, 0, none⟩ Tryz.underlying211 Tryz.underlying115 hj hsh hlies]
    simp only [Result.andThen]
    rw [Oper.upon_value]
    go_wp2
    go_end0
    exact ⟨rfl, set_of h 0 _, (Fr.refl _ _).setCell (.inl (by simp)) _⟩
  · go_enter Tryz.func73, Tryz.ntmps73
    go_wp2
    rw [Lib.run_neq_ptr_same w _ Tryz.underlying115 hj]
    go_wp2
    go_end0
    exact ⟨rfl, h, Fr.refl _ _⟩

theorem own_slice {w : World} {B n : Nat} {l : List Value} {v : Value} (h : w.ownsRow B 5 1 v n l) : ∃ ao n' cap, v = .slice ao n' cap := by
  rcases h.2 with ⟨hv, _⟩ | ⟨g, cap, cur, hv, _⟩
  · exact ⟨_, _, _, hv⟩
  · exact ⟨_, _, _, hv⟩
theorem kept_grow {B : Nat} {w u w2 : World} {l : List Value} {v : Value} {n : Nat} (h : w.ownsRow B 5 1 v n l) (hu : Fr [] w u) (hg : u.grownBy w2 v.ownBlock) : KeptT B [] (some 5) w w2 :=
  hu.kt.trans (KeptT.grown hg (fun g hg => by
    rcases h.2 with ⟨h, _⟩ | ⟨g', cap, cur, h, hg', hh, _⟩
    · rw [h] at hg; cases hg
    · rw [h] at hg; cases hg
      exact ⟨hg', cur, _, hu.heap hh (by simp)⟩))

set_option maxRecDepth 100000 in
set_option maxHeartbeats 1600000 in
theorem bdByte (B b : Nat) (l : List UInt8) (c : UInt8) (w : World) (h : BdAt w B b l) (hl : l.length ≤ 4000000) (hB : B ≤ w.heap.size) :
    Calls Tryz.prog 51 #[.pointer (some ⟨b, 0, none⟩), .int .u8 (c.toNat : Int)] w fun e w1 => e = .returned .nilIface ∧ BdAt w1 B b (l ++ [c]) ∧ KeptT B [b] (some 5) w w1 := by
  obtain ⟨i0, hi, hz0, hz1, hz2⟩ := info_parts info5
  obtain ⟨hlt, p, v, hb, hp, hown⟩ := h
  have hchk := Lib.hid (bdCheck b p v w hb hp)
  obtain ⟨x, hx⟩ : ∃ x : Int, (c.toNat : Int) = x := ⟨_, rfl⟩
  rw [hx]
  have HX := Lib.hid hx
  clear hx
  go_enter Tryz.func51, Tryz.ntmps51
  go_wp2_with fail
  refine hchk.out.mono ?_
  rintro e w1 ⟨rfl, hb1, h1⟩
  have hown1 := owns_fr hown h1 (fun g hg hm => by have := (hown.lt g hg).1; simp at hm; omega)
  have c0 := cell_of hb1 0
  have c1 := cell_of hb1 1
  have z1 := h1.size
  go_wp2_with (at_builtin; refine wpList_append_own _ rfl _ _ 22 rfl B 5 i0 (.int .u8 0) 1 1 Tryz.underlying22 hi hz0 hz1 hz2 rfl (by decide) _ _ _ rfl (hown1.alloc _) ⟨w1.heap.size, 0, none⟩ 1 1 [.int .u8 x] rfl rfl (news_of _ _ _) (one_mem rfl) (by unfold maxLen; omega) (by omega) (by simp; omega) ?_; intro v' w2 hown' hgrow _; obtain ⟨g, cap, rfl⟩ := ownsRow_succ hown'; have hk2 := kept_grow hown1 ((Fr.refl [] w1).alloc _) hgrow; have hb2 := hk2.block _ _ hb1 (by simp) (.inl hlt); have d1 := cell_of hb2 1; have f1 := free_of hb2 1)
  go_ret
  refine ⟨rfl, ⟨hlt, _, _, set_of hb2 1 _, .inr rfl, ?_⟩, ((h1.keptT B _).trans (hk2.mono (Nat.le_refl _) (by simp))).trans (setCell_ku w2 (by simp) _)⟩
  have e1 : Lib.byteCells (l ++ [c]) = Lib.byteCells l ++ [.int .u8 x] := by rw [← HX.out]; simp [Lib.byteCells]
  rw [e1, List.length_append]
  exact owns_fr hown' ((Fr.refl [b] w2).setCell (p := ⟨b, 1, none⟩) (.inl (by simp)) _) (fun k hk hm => by have := (hown'.lt k hk).1; simp at hm; omega)

set_option maxRecDepth 100000 in
set_option maxHeartbeats 1600000 in
theorem bdStr (B b : Nat) (l : List UInt8) (s : ByteArray) (w : World) (h : BdAt w B b l) (hl : l.length + s.size ≤ 4000000) (hB : B ≤ w.heap.size) :
    Calls Tryz.prog 48 #[.pointer (some ⟨b, 0, none⟩), .string s] w fun e w1 => e = .returned (.tuple #[.int .i64 (s.size : Int), .nilIface]) ∧ BdAt w1 B b (l ++ s.data.toList) ∧ KeptT B [b] (some 5) w w1 := by
  obtain ⟨i0, hi, hz0, hz1, hz2⟩ := info_parts info5
  obtain ⟨hlt, p, v, hb, hp, hown⟩ := h
  have hchk := Lib.hid (bdCheck b p v w hb hp)
  go_enter Tryz.func48, Tryz.ntmps48
  go_wp2_with fail
  refine hchk.out.mono ?_
  rintro e w1 ⟨rfl, hb1, h1⟩
  have hown1 := owns_fr hown h1 (fun g hg hm => by have := (hown.lt g hg).1; simp at hm; omega)
  have c0 := cell_of hb1 0
  have c1 := cell_of hb1 1
  have z1 := h1.size
  go_wp2_with (at_builtin; refine Lib.wpList_append_own_string _ rfl _ _ 22 9 rfl B 5 i0 Tryz.underlying22 Tryz.underlying9 hi hz0 hz1 hz2 _ _ _ rfl hown1 s rfl (by unfold maxLen; omega) (by omega) (by omega) ?_; intro v' w2 hown' hgrow _; obtain ⟨ao, n', cap, rfl⟩ := own_slice hown'; have hk2 := kept_grow hown1 (Fr.refl [] w1) hgrow; have hb2 := hk2.block _ _ hb1 (by simp) (.inl hlt); have d1 := cell_of hb2 1; have f1 := free_of hb2 1)
  go_ret2
  refine ⟨rfl, ⟨hlt, _, _, set_of hb2 1 _, .inr rfl, ?_⟩, ((h1.keptT B _).trans (hk2.mono (Nat.le_refl _) (by simp))).trans (setCell_ku w2 (by simp) _)⟩
  have e1 : (l ++ s.data.toList).length = l.length + s.size := by rw [List.length_append, Array.length_toList]; rfl
  rw [e1, Lib.byteCells_append, ← Lib.strCells_eq]
  exact owns_fr hown' ((Fr.refl [b] w2).setCell (p := ⟨b, 1, none⟩) (.inl (by simp)) _) (fun k hk hm => by have := (hown'.lt k hk).1; simp at hm; omega)

theorem bdLen (B b : Nat) (l : List UInt8) (w : World) (h : BdAt w B b l) :
    Calls Tryz.prog 52 #[.pointer (some ⟨b, 0, none⟩)] w fun e w1 => e = .returned (.int .i64 (l.length : Int)) ∧ w1 = w := by
  obtain ⟨hlt, p, v, hb, hp, hown⟩ := h
  obtain ⟨ao, cap, rfl⟩ : ∃ ao cap, v = .slice ao l.length cap := by
    rcases hown.2 with ⟨hv, h0⟩ | ⟨g, cap, cur, hv, _⟩
    · exact ⟨none, 0, by rw [hv, h0]⟩
    · exact ⟨_, _, hv⟩
  have c1 := cell_of hb 1
  go_enter Tryz.func52, Tryz.ntmps52
  go_wp2
  go_ret
  exact ⟨rfl, rfl⟩

theorem freeze_kept {B g n : Nat} {w : World} {cur : Array Value} {fz : Nat × Nat} (hg : w.heap[g]? = some (.cells cur 5 fz)) (hB : B ≤ g) : KeptT B [] (some 5) w (w.freeze ⟨g, 0, none⟩ n) := by
  unfold World.freeze
  split
  · exact KeptT.refl _ _ _ _
  · refine ⟨rfl, rfl, rfl, by simp, fun k o ho hn hb => ?_⟩
    have hk : k ≠ g := by
      rintro rfl
      rw [hg] at ho
      cases ho
      rcases hb with hb | hb
      · omega
      · simp [ofT] at hb
    simp only [Array.getElem?_modify]
    rw [if_neg (Ne.symm hk)]
    exact ho

set_option maxRecDepth 100000 in
set_option maxHeartbeats 1600000 in
theorem bdString (B b : Nat) (l : List UInt8) (w : World) (h : BdAt w B b l) (h0 : l ≠ []) :
    Calls Tryz.prog 53 #[.pointer (some ⟨b, 0, none⟩)] w fun e w1 => e = .returned (.string ⟨l.toArray⟩) ∧ Below B w w1 ∧ KeptT B [] (some 5) w w1 := by
  obtain ⟨hlt, p, v, hb, hp, hown⟩ := h
  have hl0 : l.length ≠ 0 := by simpa using h0
  obtain ⟨g, cap, cur, rfl, hbg, hg, hnc, hcm, hcs, htake⟩ : ∃ g cap cur, v = .slice (some ⟨g, 0, none⟩) l.length cap ∧ B ≤ g ∧ w.heap[g]? = some (.cells cur 5 (0, 0)) ∧ l.length ≤ cap ∧ cap ≤ maxLen ∧ cur.size = cap * 1 ∧ cur.toList.take (l.length * 1) = Lib.byteCells l := by
    rcases hown.2 with ⟨_, hz⟩ | ⟨g, cap, cur, hv, r⟩
    · exact absurd hz hl0
    · exact ⟨g, cap, cur, hv, r⟩
  have c1 : w.drew.cell? ⟨b, 1, none⟩ = some (.slice (some ⟨g, 0, none⟩) l.length cap) := cell_of (show w.drew.heap[b]? = _ from hb) 1
  have hSD : (Builtin.unsafeSliceData_ #[22] 172 #[.slice (some ⟨g, 0, none⟩) l.length cap]).run Tryz.prog w.drew = .ok (.pointer (some ⟨g, 0, none⟩)) w.drew :=
    Lib.run_unsafeSliceData_row _ _ _ _ _ _ (by omega)
  have hcb : Tryz.prog.cellsOf 5 = 1 := by kernel_rfl
  have hUS : (Builtin.unsafeString_ #[172, 3] 9 #[.pointer (some ⟨g, 0, none⟩), .int .i64 l.length]).run Tryz.prog w.drew = .ok (.string ⟨l.toArray⟩) (w.drew.freeze ⟨g, 0, none⟩ l.length) := by
    refine Lib.run_unsafeString_row w.drew 172 3 9 5 Tryz.underlying172 hcb g cur.size (by have hg' : w.drew.heap[g]? = some (.cells cur 5 (0, 0)) := hg; simp [World.shape?, hg']) l h0 (by omega) (by unfold maxLen at hcm; omega) ?_
    intro j x hx
    exact hown.cells (g := g) rfl j (.int .u8 x.toNat) (by simp [Lib.byteCells, hx])
  go_enter Tryz.func53, Tryz.ntmps53
  go_wp2
  go_region
  all_goals (go_wp2; go_ret; exact ⟨rfl, Lib.below_freeze (Below.drew (Below.refl B w)) (p := ⟨g, 0, none⟩) hbg _, ((Fr.refl [] w).drew.keptT B _).trans (freeze_kept (show w.drew.heap[g]? = _ from hg) hbg)⟩)
end
end Go.Proofs.YtnmkhoebijodhaaGreatDoor
