/-
  maps.Keys at the tables' maps: the places come, each once, in some order.
-/
import Derived.Test.YtnmkhoebijodhaaGreatDoorGrid
import Derived.Test.YtnmkhoebijodhaaGreatDoorWalk
import Derived.WalkKit
import Derived.TacticsInMore
import Derived.RegionIn
import Derived.LoopNIn
import Derived.LoopIn
import Derived.RangeFuncStops
namespace Go.Proofs.YtnmkhoebijodhaaGreatDoor
open Go.RowKit

set_option maxRecDepth 100000 in
set_option maxHeartbeats 1000000 in
theorem keys1_Seen (n : Nat) (hn : 1 ≤ n) (l Bm b : Nat) (L : List (Sp × Value)) (J Jx : List Sp → World → Prop)
    (hY : ∀ pre x W, J pre W → pre.length < L.length → YieldAt Fence.wide (n - 1) Tryz.prog l #[spV x] W fun e W' => (e = .returned (.bool true) ∧ J (pre ++ [x]) W' ∧ KeepsWalks W W') ∨ (e = .returned (.bool false) ∧ Jx (pre ++ [x]) W'))
    (W : World) (hJ : AbidesFrom W.heap.size J) (hm : W.cell? ⟨Bm, 0, none⟩ = some (.map (some b))) (hown : MapIs W b L) (h0 : J [] W) :
    CallsIn Fence.wide n Tryz.prog 294 #[.func (.yield l) #[] #[], .pointer (some ⟨Bm, 0, none⟩)] W fun e W' => (∃ v, e = .returned v) ∧ ((∃ ss : List Sp, ss.Perm (L.map (·.1)) ∧ J ss W') ∨ (∃ pre : List Sp, True ∧ Jx pre W')) := by
  have hLn : (L.map (·.1)).Nodup := by obtain ⟨_, _, _, _, _, h⟩ := hown; exact h
  refine callsIn_of_wp Tryz.func294 rfl trivial ?_ rfl
  simp only [Tryz.ntmps294, List.size_toArray, List.length_cons, List.length_nil, Nat.reduceAdd, Nat.reduceSub, Array.replicate_succ, Array.replicate_zero, List.push_toArray, List.append_toArray, List.nil_append, List.cons_append]
  gi_wp2_with (first
    | (gi_at_range; refine wpListIn_rangeS _ rfl _ 173 rfl 33 138 Tryz.underlying173 b L rfl hown ?_; intro w0 hrg0 hg0 hs0)
    | gi_in)
  go_frame
  gi_loopw [3] (fun _ wr => ∃ (ss : List Sp), Going wr b W.heap.size L ss ∧ J ss wr)
    (fun _ wr => wr.rangeLeft b W.heap.size)
  case atStart =>
    exact ⟨[], hrg0, hJ [] W w0 none h0 hg0 (fun r e => by cases e)⟩
  case round =>
    obtain ⟨ss, hrg, hJs⟩ := hrel
    gi_wp2_with (first
      | (gi_at_next; refine wpListIn_nextS _ rfl _ rfl b W.heap.size L ss rfl hrg ?_ ?_)
      | gi_in)
    · intro hl0
      gi_wp2
      go_end0
      exact ⟨⟨_, rfl⟩, .inl ⟨ss, (List.perm_ext_iff_of_nodup hrg.nodup hLn).2 (fun s => ⟨hrg.sub s, hl0 s⟩), hJs⟩⟩
    · intro x1 x2 c w2 hgx hxs hrg2 hlt hg2 hs2 hen
      have hJ2 : J ss w2 := hJ ss wr w2 (some W.heap.size) hJs hg2 (fun r e => by cases e; exact ⟨Nat.le_refl _, hrg.walk⟩)
      have hJ3 : J ss (w2.alloc (.cells #[.int .i64 x1, .int .i64 x2] 33)) := hJ ss w2 _ none hJ2 (World.grownBy_alloc w2 _ none) (fun r e => by cases e)
      obtain ⟨hrg3, hle3⟩ := hrg2.of_walks (KeepsWalks.alloc w2 (.cells #[.int .i64 x1, .int .i64 x2] 33))
      have hlen : ss.length < L.length := by
        have h1 := hrg3.nodup
        have h2 : (ss ++ [(x1, x2)]).length ≤ (L.map (·.1)).length := nodup_le _ _ h1 (fun s hs => hrg3.sub s hs)
        simp at h2
        omega
      obtain ⟨fn, tmps, assign, body, hy, hR⟩ := hY ss (x1, x2) _ hJ3 hlen
      dsimp only [spV] at hy
      clear hs2
      gi_wp2
      refine hR.mono ?_
      rintro e W3 (⟨rfl, hJ4, hk3⟩ | ⟨rfl, hJx4⟩)
      · gi_wp2
        obtain ⟨hrg4, hle4⟩ := hrg3.of_walks hk3
        go_roundw
        case rel => exact ⟨ss ++ [(x1, x2)], hrg4, hJ4⟩
        case measure => rw [hle4, hle3]; exact hlt
      · gi_wp2
        refine bodyPost_ret (results_none rfl _ _ _) rfl ?_
        exact ⟨⟨_, rfl⟩, .inr ⟨_, trivial, hJx4⟩⟩

theorem keysStops_Seen (n : Nat) (hn : 1 ≤ n) (Bm b : Nat) (L : List (Sp × Value)) (w : World) (hBm : Bm < w.heap.size) (hm : w.cell? ⟨Bm, 0, none⟩ = some (.map (some b))) (hown : MapIs w b L) :
    SeqStops Fence.wide n Tryz.prog 294 #[.pointer (some ⟨Bm, 0, none⟩)] spV (fun ss => ss.Perm (L.map (·.1))) (fun _ => True) L.length w := fun l J Jx W hW hJ _ hY h0 => by
  have hown' : MapIs W b L := by
    have hbl := hown.lt
    obtain ⟨es, clock, hb, r⟩ := hown
    exact ⟨es, clock, (hW.block b hbl).trans hb, r⟩
  exact keys1_Seen n hn l Bm b L J Jx hY W hJ ((hW.cell (p := ⟨Bm, 0, none⟩) hBm).trans hm) hown' h0

set_option maxHeartbeats 1000000 in
theorem keys_Seen (mb : Option Nat) (w : World) :
    Calls Tryz.prog 238 #[.map mb] w fun e w' => e = .returned (.func (.func 294) #[] #[.pointer (some ⟨w.heap.size, 0, none⟩)]) ∧ w' = w.alloc (.cells #[.map mb] 173) := by
  go_enter Tryz.func238, Tryz.ntmps238
  go_wp2
  go_ret
  exact ⟨rfl, rfl⟩

set_option maxRecDepth 100000 in
set_option maxHeartbeats 1000000 in
theorem keys1_Cell (n : Nat) (hn : 1 ≤ n) (l Bm b : Nat) (L : List (Sp × Value)) (J Jx : List Sp → World → Prop)
    (hY : ∀ pre x W, J pre W → pre.length < L.length → YieldAt Fence.wide (n - 1) Tryz.prog l #[spV x] W fun e W' => (e = .returned (.bool true) ∧ J (pre ++ [x]) W' ∧ KeepsWalks W W') ∨ (e = .returned (.bool false) ∧ Jx (pre ++ [x]) W'))
    (W : World) (hJ : AbidesFrom W.heap.size J) (hm : W.cell? ⟨Bm, 0, none⟩ = some (.map (some b))) (hown : MapIs W b L) (h0 : J [] W) :
    CallsIn Fence.wide n Tryz.prog 158 #[.func (.yield l) #[] #[], .pointer (some ⟨Bm, 0, none⟩)] W fun e W' => (∃ v, e = .returned v) ∧ ((∃ ss : List Sp, ss.Perm (L.map (·.1)) ∧ J ss W') ∨ (∃ pre : List Sp, True ∧ Jx pre W')) := by
  have hLn : (L.map (·.1)).Nodup := by obtain ⟨_, _, _, _, _, h⟩ := hown; exact h
  refine callsIn_of_wp Tryz.func158 rfl trivial ?_ rfl
  simp only [Tryz.ntmps158, List.size_toArray, List.length_cons, List.length_nil, Nat.reduceAdd, Nat.reduceSub, Array.replicate_succ, Array.replicate_zero, List.push_toArray, List.append_toArray, List.nil_append, List.cons_append]
  gi_wp2_with (first
    | (gi_at_range; refine wpListIn_rangeS _ rfl _ 161 rfl 33 106 Tryz.underlying161 b L rfl hown ?_; intro w0 hrg0 hg0 hs0)
    | gi_in)
  go_frame
  gi_loopw [3] (fun _ wr => ∃ (ss : List Sp), Going wr b W.heap.size L ss ∧ J ss wr)
    (fun _ wr => wr.rangeLeft b W.heap.size)
  case atStart =>
    exact ⟨[], hrg0, hJ [] W w0 none h0 hg0 (fun r e => by cases e)⟩
  case round =>
    obtain ⟨ss, hrg, hJs⟩ := hrel
    gi_wp2_with (first
      | (gi_at_next; refine wpListIn_nextS _ rfl _ rfl b W.heap.size L ss rfl hrg ?_ ?_)
      | gi_in)
    · intro hl0
      gi_wp2
      go_end0
      exact ⟨⟨_, rfl⟩, .inl ⟨ss, (List.perm_ext_iff_of_nodup hrg.nodup hLn).2 (fun s => ⟨hrg.sub s, hl0 s⟩), hJs⟩⟩
    · intro x1 x2 c w2 hgx hxs hrg2 hlt hg2 hs2 hen
      have hJ2 : J ss w2 := hJ ss wr w2 (some W.heap.size) hJs hg2 (fun r e => by cases e; exact ⟨Nat.le_refl _, hrg.walk⟩)
      have hJ3 : J ss (w2.alloc (.cells #[.int .i64 x1, .int .i64 x2] 33)) := hJ ss w2 _ none hJ2 (World.grownBy_alloc w2 _ none) (fun r e => by cases e)
      obtain ⟨hrg3, hle3⟩ := hrg2.of_walks (KeepsWalks.alloc w2 (.cells #[.int .i64 x1, .int .i64 x2] 33))
      have hlen : ss.length < L.length := by
        have h1 := hrg3.nodup
        have h2 : (ss ++ [(x1, x2)]).length ≤ (L.map (·.1)).length := nodup_le _ _ h1 (fun s hs => hrg3.sub s hs)
        simp at h2
        omega
      obtain ⟨fn, tmps, assign, body, hy, hR⟩ := hY ss (x1, x2) _ hJ3 hlen
      dsimp only [spV] at hy
      clear hs2
      gi_wp2
      refine hR.mono ?_
      rintro e W3 (⟨rfl, hJ4, hk3⟩ | ⟨rfl, hJx4⟩)
      · gi_wp2
        obtain ⟨hrg4, hle4⟩ := hrg3.of_walks hk3
        go_roundw
        case rel => exact ⟨ss ++ [(x1, x2)], hrg4, hJ4⟩
        case measure => rw [hle4, hle3]; exact hlt
      · gi_wp2
        refine bodyPost_ret (results_none rfl _ _ _) rfl ?_
        exact ⟨⟨_, rfl⟩, .inr ⟨_, trivial, hJx4⟩⟩

theorem keysStops_Cell (n : Nat) (hn : 1 ≤ n) (Bm b : Nat) (L : List (Sp × Value)) (w : World) (hBm : Bm < w.heap.size) (hm : w.cell? ⟨Bm, 0, none⟩ = some (.map (some b))) (hown : MapIs w b L) :
    SeqStops Fence.wide n Tryz.prog 158 #[.pointer (some ⟨Bm, 0, none⟩)] spV (fun ss => ss.Perm (L.map (·.1))) (fun _ => True) L.length w := fun l J Jx W hW hJ _ hY h0 => by
  have hown' : MapIs W b L := by
    have hbl := hown.lt
    obtain ⟨es, clock, hb, r⟩ := hown
    exact ⟨es, clock, (hW.block b hbl).trans hb, r⟩
  exact keys1_Cell n hn l Bm b L J Jx hY W hJ ((hW.cell (p := ⟨Bm, 0, none⟩) hBm).trans hm) hown' h0

set_option maxHeartbeats 1000000 in
theorem keys_Cell (mb : Option Nat) (w : World) :
    Calls Tryz.prog 113 #[.map mb] w fun e w' => e = .returned (.func (.func 158) #[] #[.pointer (some ⟨w.heap.size, 0, none⟩)]) ∧ w' = w.alloc (.cells #[.map mb] 161) := by
  go_enter Tryz.func113, Tryz.ntmps113
  go_wp2
  go_ret
  exact ⟨rfl, rfl⟩
end Go.Proofs.YtnmkhoebijodhaaGreatDoor
