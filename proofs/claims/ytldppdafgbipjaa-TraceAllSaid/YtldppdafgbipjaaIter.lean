/-
  (*Table[T]).over$1: the rows come, one behind the other, for every loop body that keeps what lay below n0.
-/
import Derived.Test.YtldppdafgbipjaaGrid
import Derived.Test.YtldppdafgbipjaaSlice
import Derived.RangeFuncNested
import Derived.RangeFuncBound
import Derived.RangeFuncCalls
import Derived.RangeFuncLeaves
import Derived.RangeFuncBox
import Derived.Shelf.Abstract
import Derived.WalkKit
import Derived.OwnWalkIn
import Derived.TacticsInMore
import Derived.LoopNIn
import Derived.LoopIn
namespace Go.Proofs.Ytldppdafgbipjaa
open Go.RowKit Go.Shelf

/-- A slice below n0. -/
structure RAt (n0 : Nat) (w : World) (v : Value) (size n : Nat) (cs : List Value) : Prop where
  form : ∃ a c, v = .slice a n c
  cell : 0 < n → ∃ b c, v = .slice (some ⟨b, 0, none⟩) n c ∧ b < n0 ∧ ∀ j x, cs[j]? = some x → w.cell? ⟨b, j, none⟩ = some x
theorem RAt.of_owns {n0 : Nat} {w : World} {B : Nat} {e : TypeId} {size : Nat} {v : Value} {n : Nat} {xs : List Value} (h : w.ownsRow B e size v n xs) (hn : w.heap.size ≤ n0) : RAt n0 w v size n xs := by
  rcases h.2 with ⟨rfl, rfl⟩ | ⟨g, cap, cur, rfl, _, hg, _, _, _, ht⟩
  · exact ⟨⟨_, _, rfl⟩, fun h => by omega⟩
  · exact ⟨⟨_, _, rfl⟩, fun _ => ⟨g, cap, rfl, Nat.lt_of_lt_of_le (lt_of hg) hn, take_cells hg ht⟩⟩
theorem RAt.below {n0 : Nat} {w w' : World} {v : Value} {size n : Nat} {cs : List Value} (h : RAt n0 w v size n cs) (hb : Below n0 w w') : RAt n0 w' v size n cs :=
  ⟨h.form, fun hn => by
    obtain ⟨b, c, e, hlt, hc⟩ := h.cell hn
    exact ⟨b, c, e, hlt, fun j x hx => (hb.cell (p := ⟨b, j, none⟩) hlt).trans (hc j x hx)⟩⟩

abbrev rowU8 (x : Sp × Int) : List Value := [.int .i64 x.1.1, .int .i64 x.1.2, .int .u8 x.2]

set_option maxRecDepth 100000 in
set_option maxHeartbeats 2000000 in
theorem over1_U8 (n : Nat) (hn : 1 ≤ n) (l Bl n0 : Nat) (rv : Value) (R : List (Sp × Int)) (J Jx : List (Sp × Int) → World → Prop)
    (hY : ∀ pre x W, J pre W → pre.length < R.length → YieldAt Fence.wide (n - 1) Try.prog l #[spV x.1, .int .u8 x.2] W fun e W' => (e = .returned (.bool true) ∧ J (pre ++ [x]) W' ∧ Below n0 W W') ∨ (e = .returned (.bool false) ∧ Jx (pre ++ [x]) W'))
    (W : World) (hJ : AbidesFrom W.heap.size J) (hbox : W.cell? ⟨Bl, 0, none⟩ = some rv) (hn0 : n0 ≤ W.heap.size) (hR : RAt n0 W rv 3 R.length (R.flatMap rowU8)) (hsz : (R.length : Int) ≤ 70000) (h0 : J [] W) :
    CallsIn Fence.wide n Try.prog 110 #[.func (.yield l) #[] #[], .pointer (some ⟨Bl, 0, none⟩)] W fun e W' => (∃ v, e = .returned v) ∧ ((∃ ys, ys = R ∧ J ys W') ∨ (∃ pre, pre <+: R ∧ Jx pre W')) := by
  obtain ⟨⟨qa, qc, rfl⟩, hRc⟩ := hR
  refine callsIn_of_wp Try.func110 rfl trivial ?_ rfl
  simp only [Try.ntmps110, List.size_toArray, List.length_cons, List.length_nil, Nat.reduceAdd, Nat.reduceSub, Array.replicate_succ, Array.replicate_zero, List.push_toArray, List.append_toArray, List.nil_append, List.cons_append]
  gi_wp2
  gi_loopw [7] (fun i wr => ∃ k : Nat, i = .int .i64 (k : Int) ∧ k ≤ R.length ∧ Below n0 W wr ∧ J (R.take k) wr) (fun i _ => R.length - (intOf i).toNat)
  case atStart => exact ⟨0, rfl, by omega, Below.refl _ _, h0⟩
  case round =>
    obtain ⟨k, rfl, hk, hB, hJk⟩ := hrel
    by_cases hlt : k < R.length
    · obtain ⟨b, c, e, hb, hc⟩ := hRc (by omega)
      cases e
      have hcw : ∀ j x, (rowU8 R[k])[j]? = some x → wr.cell? ⟨b, k * 3 + j, none⟩ = some x := fun j x hx => (hB.cell (p := ⟨b, k * 3 + j, none⟩) hb).trans (hc _ x (by
        rw [flat_get rowU8 3 (fun _ => rfl) R k j hlt (List.getElem?_eq_some_iff.1 hx).1]
        exact hx))
      have ht : Hid (R.take (k + 1) = R.take k ++ [R[k]]) := List.take_succ_eq_append_getElem hlt
      obtain ⟨⟨⟨s1, s2⟩, x⟩, hx⟩ : ∃ x, R[k] = x := ⟨_, rfl⟩
      rw [hx] at hcw ht
      clear hx hc hRc
      have c0 : wr.cell? ⟨b, k * 3, none⟩ = some (.int .i64 s1) := hcw 0 _ rfl
      have c1 : wr.cell? ⟨b, k * 3 + 1, none⟩ = some (.int .i64 s2) := hcw 1 _ rfl
      have c2 : wr.cell? ⟨b, k * 3 + 2, none⟩ = some (.int .u8 x) := hcw 2 _ rfl
      clear hcw
      have hJ2 : J (R.take k) (wr.alloc (.cells #[.int .i64 s1, .int .i64 s2, .int .u8 x] 212)) := hJ _ wr _ none hJk (World.grownBy_alloc wr _ none) (fun r e => by cases e)
      have hB2 : Below n0 W (wr.alloc (.cells #[.int .i64 s1, .int .i64 s2, .int .u8 x] 212)) := hB.alloc (Nat.le_trans hn0 hB.size) _
      obtain ⟨fn, tmps, assign, body, hy, hRd⟩ := hY (R.take k) ((s1, s2), x) _ hJ2 (by rw [List.length_take]; omega)
      dsimp only [spV] at hy
      have hklen : (k : Int) < (R.length : Int) := by omega
      gi_wp2
      refine hRd.mono ?_
      rintro e W3 (⟨rfl, hJ3, hk3⟩ | ⟨rfl, hJx3⟩)
      · gi_wp2
        go_roundw
        case rel => exact ⟨k + 1, by go_num, by omega, hB2.trans hk3, by rw [ht.out]; exact hJ3⟩
        case measure => simp [intOf]; omega
      · gi_wp2
        refine bodyPost_ret (results_none rfl _ _ _) rfl ?_
        exact ⟨⟨_, rfl⟩, .inr ⟨_, by rw [← ht.out]; exact List.take_prefix _ _, hJx3⟩⟩
    · obtain rfl : k = R.length := by omega
      rw [List.take_length] at hJk
      gi_wp2
      go_end0
      exact ⟨⟨_, rfl⟩, .inl ⟨R, rfl, hJk⟩⟩

theorem overStops_U8 (n : Nat) (hn : 1 ≤ n) (Bl n0 : Nat) (rv : Value) (R : List (Sp × Int)) (w : World) (hbox : w.cell? ⟨Bl, 0, none⟩ = some rv) (hBl : Bl < n0) (hn0 : n0 ≤ w.heap.size) (hR : RAt n0 w rv 3 R.length (R.flatMap rowU8)) (hsz : (R.length : Int) ≤ 70000) :
    SeqStopsK Fence.wide n Try.prog 110 #[.pointer (some ⟨Bl, 0, none⟩)] (fun x : Sp × Int => #[spV x.1, .int .u8 x.2]) (Below n0) (fun ys => ys = R) (fun pre => pre <+: R) R.length w := fun l J Jx W hW hJ _ hY h0 =>
  over1_U8 n hn l Bl n0 rv R J Jx hY W hJ ((hW.cell (p := ⟨Bl, 0, none⟩) (Nat.lt_of_lt_of_le hBl hn0)).trans hbox) (Nat.le_trans hn0 hW.size) (hR.below (hW.mono hn0)) hsz h0

abbrev rowint (x : Sp × Int) : List Value := [.int .i64 x.1.1, .int .i64 x.1.2, .int .i64 x.2]

set_option maxRecDepth 100000 in
set_option maxHeartbeats 2000000 in
theorem over1_int (n : Nat) (hn : 1 ≤ n) (l Bl n0 : Nat) (rv : Value) (R : List (Sp × Int)) (J Jx : List (Sp × Int) → World → Prop)
    (hY : ∀ pre x W, J pre W → pre.length < R.length → YieldAt Fence.wide (n - 1) Try.prog l #[spV x.1, .int .i64 x.2] W fun e W' => (e = .returned (.bool true) ∧ J (pre ++ [x]) W' ∧ Below n0 W W') ∨ (e = .returned (.bool false) ∧ Jx (pre ++ [x]) W'))
    (W : World) (hJ : AbidesFrom W.heap.size J) (hbox : W.cell? ⟨Bl, 0, none⟩ = some rv) (hn0 : n0 ≤ W.heap.size) (hR : RAt n0 W rv 3 R.length (R.flatMap rowint)) (hsz : (R.length : Int) ≤ 70000) (h0 : J [] W) :
    CallsIn Fence.wide n Try.prog 107 #[.func (.yield l) #[] #[], .pointer (some ⟨Bl, 0, none⟩)] W fun e W' => (∃ v, e = .returned v) ∧ ((∃ ys, ys = R ∧ J ys W') ∨ (∃ pre, pre <+: R ∧ Jx pre W')) := by
  obtain ⟨⟨qa, qc, rfl⟩, hRc⟩ := hR
  refine callsIn_of_wp Try.func107 rfl trivial ?_ rfl
  simp only [Try.ntmps107, List.size_toArray, List.length_cons, List.length_nil, Nat.reduceAdd, Nat.reduceSub, Array.replicate_succ, Array.replicate_zero, List.push_toArray, List.append_toArray, List.nil_append, List.cons_append]
  gi_wp2
  gi_loopw [7] (fun i wr => ∃ k : Nat, i = .int .i64 (k : Int) ∧ k ≤ R.length ∧ Below n0 W wr ∧ J (R.take k) wr) (fun i _ => R.length - (intOf i).toNat)
  case atStart => exact ⟨0, rfl, by omega, Below.refl _ _, h0⟩
  case round =>
    obtain ⟨k, rfl, hk, hB, hJk⟩ := hrel
    by_cases hlt : k < R.length
    · obtain ⟨b, c, e, hb, hc⟩ := hRc (by omega)
      cases e
      have hcw : ∀ j x, (rowint R[k])[j]? = some x → wr.cell? ⟨b, k * 3 + j, none⟩ = some x := fun j x hx => (hB.cell (p := ⟨b, k * 3 + j, none⟩) hb).trans (hc _ x (by
        rw [flat_get rowint 3 (fun _ => rfl) R k j hlt (List.getElem?_eq_some_iff.1 hx).1]
        exact hx))
      have ht : Hid (R.take (k + 1) = R.take k ++ [R[k]]) := List.take_succ_eq_append_getElem hlt
      obtain ⟨⟨⟨s1, s2⟩, x⟩, hx⟩ : ∃ x, R[k] = x := ⟨_, rfl⟩
      rw [hx] at hcw ht
      clear hx hc hRc
      have c0 : wr.cell? ⟨b, k * 3, none⟩ = some (.int .i64 s1) := hcw 0 _ rfl
      have c1 : wr.cell? ⟨b, k * 3 + 1, none⟩ = some (.int .i64 s2) := hcw 1 _ rfl
      have c2 : wr.cell? ⟨b, k * 3 + 2, none⟩ = some (.int .i64 x) := hcw 2 _ rfl
      clear hcw
      have hJ2 : J (R.take k) (wr.alloc (.cells #[.int .i64 s1, .int .i64 s2, .int .i64 x] 207)) := hJ _ wr _ none hJk (World.grownBy_alloc wr _ none) (fun r e => by cases e)
      have hB2 : Below n0 W (wr.alloc (.cells #[.int .i64 s1, .int .i64 s2, .int .i64 x] 207)) := hB.alloc (Nat.le_trans hn0 hB.size) _
      obtain ⟨fn, tmps, assign, body, hy, hRd⟩ := hY (R.take k) ((s1, s2), x) _ hJ2 (by rw [List.length_take]; omega)
      dsimp only [spV] at hy
      have hklen : (k : Int) < (R.length : Int) := by omega
      gi_wp2
      refine hRd.mono ?_
      rintro e W3 (⟨rfl, hJ3, hk3⟩ | ⟨rfl, hJx3⟩)
      · gi_wp2
        go_roundw
        case rel => exact ⟨k + 1, by go_num, by omega, hB2.trans hk3, by rw [ht.out]; exact hJ3⟩
        case measure => simp [intOf]; omega
      · gi_wp2
        refine bodyPost_ret (results_none rfl _ _ _) rfl ?_
        exact ⟨⟨_, rfl⟩, .inr ⟨_, by rw [← ht.out]; exact List.take_prefix _ _, hJx3⟩⟩
    · obtain rfl : k = R.length := by omega
      rw [List.take_length] at hJk
      gi_wp2
      go_end0
      exact ⟨⟨_, rfl⟩, .inl ⟨R, rfl, hJk⟩⟩

theorem overStops_int (n : Nat) (hn : 1 ≤ n) (Bl n0 : Nat) (rv : Value) (R : List (Sp × Int)) (w : World) (hbox : w.cell? ⟨Bl, 0, none⟩ = some rv) (hBl : Bl < n0) (hn0 : n0 ≤ w.heap.size) (hR : RAt n0 w rv 3 R.length (R.flatMap rowint)) (hsz : (R.length : Int) ≤ 70000) :
    SeqStopsK Fence.wide n Try.prog 107 #[.pointer (some ⟨Bl, 0, none⟩)] (fun x : Sp × Int => #[spV x.1, .int .i64 x.2]) (Below n0) (fun ys => ys = R) (fun pre => pre <+: R) R.length w := fun l J Jx W hW hJ _ hY h0 =>
  over1_int n hn l Bl n0 rv R J Jx hY W hJ ((hW.cell (p := ⟨Bl, 0, none⟩) (Nat.lt_of_lt_of_le hBl hn0)).trans hbox) (Nat.le_trans hn0 hW.size) (hR.below (hW.mono hn0)) hsz h0

abbrev rowStr (x : Sp × ByteArray) : List Value := [.int .i64 x.1.1, .int .i64 x.1.2, .string x.2]

set_option maxRecDepth 100000 in
set_option maxHeartbeats 2000000 in
theorem over1_Str (n : Nat) (hn : 1 ≤ n) (l Bl n0 : Nat) (rv : Value) (R : List (Sp × ByteArray)) (J Jx : List (Sp × ByteArray) → World → Prop)
    (hY : ∀ pre x W, J pre W → pre.length < R.length → YieldAt Fence.wide (n - 1) Try.prog l #[spV x.1, .string x.2] W fun e W' => (e = .returned (.bool true) ∧ J (pre ++ [x]) W' ∧ Below n0 W W') ∨ (e = .returned (.bool false) ∧ Jx (pre ++ [x]) W'))
    (W : World) (hJ : AbidesFrom W.heap.size J) (hbox : W.cell? ⟨Bl, 0, none⟩ = some rv) (hn0 : n0 ≤ W.heap.size) (hR : RAt n0 W rv 3 R.length (R.flatMap rowStr)) (hsz : (R.length : Int) ≤ 70000) (h0 : J [] W) :
    CallsIn Fence.wide n Try.prog 125 #[.func (.yield l) #[] #[], .pointer (some ⟨Bl, 0, none⟩)] W fun e W' => (∃ v, e = .returned v) ∧ ((∃ ys, ys = R ∧ J ys W') ∨ (∃ pre, pre <+: R ∧ Jx pre W')) := by
  obtain ⟨⟨qa, qc, rfl⟩, hRc⟩ := hR
  refine callsIn_of_wp Try.func125 rfl trivial ?_ rfl
  simp only [Try.ntmps125, List.size_toArray, List.length_cons, List.length_nil, Nat.reduceAdd, Nat.reduceSub, Array.replicate_succ, Array.replicate_zero, List.push_toArray, List.append_toArray, List.nil_append, List.cons_append]
  gi_wp2
  gi_loopw [7] (fun i wr => ∃ k : Nat, i = .int .i64 (k : Int) ∧ k ≤ R.length ∧ Below n0 W wr ∧ J (R.take k) wr) (fun i _ => R.length - (intOf i).toNat)
  case atStart => exact ⟨0, rfl, by omega, Below.refl _ _, h0⟩
  case round =>
    obtain ⟨k, rfl, hk, hB, hJk⟩ := hrel
    by_cases hlt : k < R.length
    · obtain ⟨b, c, e, hb, hc⟩ := hRc (by omega)
      cases e
      have hcw : ∀ j x, (rowStr R[k])[j]? = some x → wr.cell? ⟨b, k * 3 + j, none⟩ = some x := fun j x hx => (hB.cell (p := ⟨b, k * 3 + j, none⟩) hb).trans (hc _ x (by
        rw [flat_get rowStr 3 (fun _ => rfl) R k j hlt (List.getElem?_eq_some_iff.1 hx).1]
        exact hx))
      have ht : Hid (R.take (k + 1) = R.take k ++ [R[k]]) := List.take_succ_eq_append_getElem hlt
      obtain ⟨⟨⟨s1, s2⟩, x⟩, hx⟩ : ∃ x, R[k] = x := ⟨_, rfl⟩
      rw [hx] at hcw ht
      clear hx hc hRc
      have c0 : wr.cell? ⟨b, k * 3, none⟩ = some (.int .i64 s1) := hcw 0 _ rfl
      have c1 : wr.cell? ⟨b, k * 3 + 1, none⟩ = some (.int .i64 s2) := hcw 1 _ rfl
      have c2 : wr.cell? ⟨b, k * 3 + 2, none⟩ = some (.string x) := hcw 2 _ rfl
      clear hcw
      have hJ2 : J (R.take k) (wr.alloc (.cells #[.int .i64 s1, .int .i64 s2, .string x] 230)) := hJ _ wr _ none hJk (World.grownBy_alloc wr _ none) (fun r e => by cases e)
      have hB2 : Below n0 W (wr.alloc (.cells #[.int .i64 s1, .int .i64 s2, .string x] 230)) := hB.alloc (Nat.le_trans hn0 hB.size) _
      obtain ⟨fn, tmps, assign, body, hy, hRd⟩ := hY (R.take k) ((s1, s2), x) _ hJ2 (by rw [List.length_take]; omega)
      dsimp only [spV] at hy
      have hklen : (k : Int) < (R.length : Int) := by omega
      gi_wp2
      refine hRd.mono ?_
      rintro e W3 (⟨rfl, hJ3, hk3⟩ | ⟨rfl, hJx3⟩)
      · gi_wp2
        go_roundw
        case rel => exact ⟨k + 1, by go_num, by omega, hB2.trans hk3, by rw [ht.out]; exact hJ3⟩
        case measure => simp [intOf]; omega
      · gi_wp2
        refine bodyPost_ret (results_none rfl _ _ _) rfl ?_
        exact ⟨⟨_, rfl⟩, .inr ⟨_, by rw [← ht.out]; exact List.take_prefix _ _, hJx3⟩⟩
    · obtain rfl : k = R.length := by omega
      rw [List.take_length] at hJk
      gi_wp2
      go_end0
      exact ⟨⟨_, rfl⟩, .inl ⟨R, rfl, hJk⟩⟩

theorem overStops_Str (n : Nat) (hn : 1 ≤ n) (Bl n0 : Nat) (rv : Value) (R : List (Sp × ByteArray)) (w : World) (hbox : w.cell? ⟨Bl, 0, none⟩ = some rv) (hBl : Bl < n0) (hn0 : n0 ≤ w.heap.size) (hR : RAt n0 w rv 3 R.length (R.flatMap rowStr)) (hsz : (R.length : Int) ≤ 70000) :
    SeqStopsK Fence.wide n Try.prog 125 #[.pointer (some ⟨Bl, 0, none⟩)] (fun x : Sp × ByteArray => #[spV x.1, .string x.2]) (Below n0) (fun ys => ys = R) (fun pre => pre <+: R) R.length w := fun l J Jx W hW hJ _ hY h0 =>
  over1_Str n hn l Bl n0 rv R J Jx hY W hJ ((hW.cell (p := ⟨Bl, 0, none⟩) (Nat.lt_of_lt_of_le hBl hn0)).trans hbox) (Nat.le_trans hn0 hW.size) (hR.below (hW.mono hn0)) hsz h0

abbrev rowSeen (x : Sp × Seen) : List Value := [.int .i64 x.1.1, .int .i64 x.1.2, .int .i64 x.2.v.k, .int .i64 x.2.v.n, .string x.2.v.s, .slice x.2.p x.2.n x.2.c]

set_option maxRecDepth 100000 in
set_option maxHeartbeats 2000000 in
theorem over1_Seen (n : Nat) (hn : 1 ≤ n) (l Bl n0 : Nat) (rv : Value) (R : List (Sp × Seen)) (J Jx : List (Sp × Seen) → World → Prop)
    (hY : ∀ pre x W, J pre W → pre.length < R.length → YieldAt Fence.wide (n - 1) Try.prog l #[spV x.1, Seen.val x.2] W fun e W' => (e = .returned (.bool true) ∧ J (pre ++ [x]) W' ∧ Below n0 W W') ∨ (e = .returned (.bool false) ∧ Jx (pre ++ [x]) W'))
    (W : World) (hJ : AbidesFrom W.heap.size J) (hbox : W.cell? ⟨Bl, 0, none⟩ = some rv) (hn0 : n0 ≤ W.heap.size) (hR : RAt n0 W rv 6 R.length (R.flatMap rowSeen)) (hsz : (R.length : Int) ≤ 70000) (h0 : J [] W) :
    CallsIn Fence.wide n Try.prog 138 #[.func (.yield l) #[] #[], .pointer (some ⟨Bl, 0, none⟩)] W fun e W' => (∃ v, e = .returned v) ∧ ((∃ ys, ys = R ∧ J ys W') ∨ (∃ pre, pre <+: R ∧ Jx pre W')) := by
  obtain ⟨⟨qa, qc, rfl⟩, hRc⟩ := hR
  refine callsIn_of_wp Try.func138 rfl trivial ?_ rfl
  simp only [Try.ntmps138, List.size_toArray, List.length_cons, List.length_nil, Nat.reduceAdd, Nat.reduceSub, Array.replicate_succ, Array.replicate_zero, List.push_toArray, List.append_toArray, List.nil_append, List.cons_append]
  gi_wp2
  gi_loopw [7] (fun i wr => ∃ k : Nat, i = .int .i64 (k : Int) ∧ k ≤ R.length ∧ Below n0 W wr ∧ J (R.take k) wr) (fun i _ => R.length - (intOf i).toNat)
  case atStart => exact ⟨0, rfl, by omega, Below.refl _ _, h0⟩
  case round =>
    obtain ⟨k, rfl, hk, hB, hJk⟩ := hrel
    by_cases hlt : k < R.length
    · obtain ⟨b, c, e, hb, hc⟩ := hRc (by omega)
      cases e
      have hcw : ∀ j x, (rowSeen R[k])[j]? = some x → wr.cell? ⟨b, k * 6 + j, none⟩ = some x := fun j x hx => (hB.cell (p := ⟨b, k * 6 + j, none⟩) hb).trans (hc _ x (by
        rw [flat_get rowSeen 6 (fun _ => rfl) R k j hlt (List.getElem?_eq_some_iff.1 hx).1]
        exact hx))
      have ht : Hid (R.take (k + 1) = R.take k ++ [R[k]]) := List.take_succ_eq_append_getElem hlt
      obtain ⟨⟨⟨s1, s2⟩, x⟩, hx⟩ : ∃ x, R[k] = x := ⟨_, rfl⟩
      rw [hx] at hcw ht
      clear hx hc hRc
      have c0 : wr.cell? ⟨b, k * 6, none⟩ = some (.int .i64 s1) := hcw 0 _ rfl
      have c1 : wr.cell? ⟨b, k * 6 + 1, none⟩ = some (.int .i64 s2) := hcw 1 _ rfl
      have c2 : wr.cell? ⟨b, k * 6 + 2, none⟩ = some (.int .i64 x.v.k) := hcw 2 _ rfl
      have c3 : wr.cell? ⟨b, k * 6 + 3, none⟩ = some (.int .i64 x.v.n) := hcw 3 _ rfl
      have c4 : wr.cell? ⟨b, k * 6 + 4, none⟩ = some (.string x.v.s) := hcw 4 _ rfl
      have c5 : wr.cell? ⟨b, k * 6 + 5, none⟩ = some (.slice x.p x.n x.c) := hcw 5 _ rfl
      clear hcw
      have hJ2 : J (R.take k) (wr.alloc (.cells #[.int .i64 s1, .int .i64 s2, .int .i64 x.v.k, .int .i64 x.v.n, .string x.v.s, .slice x.p x.n x.c] 242)) := hJ _ wr _ none hJk (World.grownBy_alloc wr _ none) (fun r e => by cases e)
      have hB2 : Below n0 W (wr.alloc (.cells #[.int .i64 s1, .int .i64 s2, .int .i64 x.v.k, .int .i64 x.v.n, .string x.v.s, .slice x.p x.n x.c] 242)) := hB.alloc (Nat.le_trans hn0 hB.size) _
      obtain ⟨fn, tmps, assign, body, hy, hRd⟩ := hY (R.take k) ((s1, s2), x) _ hJ2 (by rw [List.length_take]; omega)
      dsimp only [spV, Seen.val] at hy
      have hklen : (k : Int) < (R.length : Int) := by omega
      gi_wp2
      refine hRd.mono ?_
      rintro e W3 (⟨rfl, hJ3, hk3⟩ | ⟨rfl, hJx3⟩)
      · gi_wp2
        go_roundw
        case rel => exact ⟨k + 1, by go_num, by omega, hB2.trans hk3, by rw [ht.out]; exact hJ3⟩
        case measure => simp [intOf]; omega
      · gi_wp2
        refine bodyPost_ret (results_none rfl _ _ _) rfl ?_
        exact ⟨⟨_, rfl⟩, .inr ⟨_, by rw [← ht.out]; exact List.take_prefix _ _, hJx3⟩⟩
    · obtain rfl : k = R.length := by omega
      rw [List.take_length] at hJk
      gi_wp2
      go_end0
      exact ⟨⟨_, rfl⟩, .inl ⟨R, rfl, hJk⟩⟩

theorem overStops_Seen (n : Nat) (hn : 1 ≤ n) (Bl n0 : Nat) (rv : Value) (R : List (Sp × Seen)) (w : World) (hbox : w.cell? ⟨Bl, 0, none⟩ = some rv) (hBl : Bl < n0) (hn0 : n0 ≤ w.heap.size) (hR : RAt n0 w rv 6 R.length (R.flatMap rowSeen)) (hsz : (R.length : Int) ≤ 70000) :
    SeqStopsK Fence.wide n Try.prog 138 #[.pointer (some ⟨Bl, 0, none⟩)] (fun x : Sp × Seen => #[spV x.1, Seen.val x.2]) (Below n0) (fun ys => ys = R) (fun pre => pre <+: R) R.length w := fun l J Jx W hW hJ _ hY h0 =>
  over1_Seen n hn l Bl n0 rv R J Jx hY W hJ ((hW.cell (p := ⟨Bl, 0, none⟩) (Nat.lt_of_lt_of_le hBl hn0)).trans hbox) (Nat.le_trans hn0 hW.size) (hR.below (hW.mono hn0)) hsz h0
end Go.Proofs.Ytldppdafgbipjaa
