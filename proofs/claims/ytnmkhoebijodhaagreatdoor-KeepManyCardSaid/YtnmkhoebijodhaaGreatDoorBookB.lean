/-
  maps.Keys at a map of numbers: the places come, each once, in some order.
  A round over nothing: frame.Top, frame.Height; sched's idle, Step.
  sched.New over a sheet without formulas and a store without traces.
  A round's report, where nothing was run.
  book.New, Width, Sheet; a workbook without formulas.
  A workbook's round, where no cell is a formula.
-/
import Derived.Test.YtnmkhoebijodhaaGreatDoorGrid
import Derived.Test.YtnmkhoebijodhaaGreatDoorWalk
import Derived.WalkKit
import Derived.TacticsInMore
import Derived.RegionIn
import Derived.LoopNIn
import Derived.LoopIn
import Derived.RangeFuncStops
import Derived.Test.YtnmkhoebijodhaaGreatDoorFacts
import Derived.Test.YtnmkhoebijodhaaGreatDoorAgg
import Derived.Test.YtnmkhoebijodhaaGreatDoorShD
import Derived.Test.YtnmkhoebijodhaaGreatDoorStoreAll
namespace Go.Proofs.YtnmkhoebijodhaaGreatDoor
section
open Go.RowKit

set_option maxRecDepth 100000 in
set_option maxHeartbeats 1000000 in
theorem keys1_int (n : Nat) (hn : 1 ≤ n) (l Bm b : Nat) (L : List (Sp × Value)) (J Jx : List Sp → World → Prop)
    (hY : ∀ pre x W, J pre W → pre.length < L.length → YieldAt Fence.wide (n - 1) Tryz.prog l #[spV x] W fun e W' => (e = .returned (.bool true) ∧ J (pre ++ [x]) W' ∧ KeepsWalks W W') ∨ (e = .returned (.bool false) ∧ Jx (pre ++ [x]) W'))
    (W : World) (hJ : AbidesFrom W.heap.size J) (hm : W.cell? ⟨Bm, 0, none⟩ = some (.map (some b))) (hown : MapIs W b L) (h0 : J [] W) :
    CallsIn Fence.wide n Tryz.prog 144 #[.func (.yield l) #[] #[], .pointer (some ⟨Bm, 0, none⟩)] W fun e W' => (∃ v, e = .returned v) ∧ ((∃ ss : List Sp, ss.Perm (L.map (·.1)) ∧ J ss W') ∨ (∃ pre : List Sp, True ∧ Jx pre W')) := by
  have hLn : (L.map (·.1)).Nodup := by obtain ⟨_, _, _, _, _, h⟩ := hown; exact h
  refine callsIn_of_wp Tryz.func144 rfl trivial ?_ rfl
  simp only [Tryz.ntmps144, List.size_toArray, List.length_cons, List.length_nil, Nat.reduceAdd, Nat.reduceSub, Array.replicate_succ, Array.replicate_zero, List.push_toArray, List.append_toArray, List.nil_append, List.cons_append]
  gi_wp2_with (first
    | (gi_at_range; refine wpListIn_rangeS _ rfl _ 190 rfl 33 3 Tryz.underlying190 b L rfl hown ?_; intro w0 hrg0 hg0 hs0)
    | gi_in)
  go_frame
  gi_loopw [3] (fun _ wr => ∃ (ss : List Sp), Going wr b W.heap.size L ss ∧ J ss wr)
    (fun _ wr => wr.rangeLeft b W.heap.size)
  case atStart =>
    exact ⟨[], hrg0, hJ [] W w0 none h0 hg0 (fun r e => by cases e)⟩
  case round =>
    obtain ⟨ss, hrg, hJs⟩ := hrel
    gi_wp2_with (first
      | (gi_at_next; refine wpListIn_nextS _ rfl _ rfl b W.heap.size L ss rfl hrg ?_ ?_)
      | gi_in)
    · intro hl0
      gi_wp2
      go_end0
      exact ⟨⟨_, rfl⟩, .inl ⟨ss, (List.perm_ext_iff_of_nodup hrg.nodup hLn).2 (fun s => ⟨hrg.sub s, hl0 s⟩), hJs⟩⟩
    · intro x1 x2 c w2 hgx hxs hrg2 hlt hg2 hs2 hen
      have hJ2 : J ss w2 := hJ ss wr w2 (some W.heap.size) hJs hg2 (fun r e => by cases e; exact ⟨Nat.le_refl _, hrg.walk⟩)
      have hJ3 : J ss (w2.alloc (.cells #[.int .i64 x1, .int .i64 x2] 33)) := hJ ss w2 _ none hJ2 (World.grownBy_alloc w2 _ none) (fun r e => by cases e)
      obtain ⟨hrg3, hle3⟩ := hrg2.of_walks (KeepsWalks.alloc w2 (.cells #[.int .i64 x1, .int .i64 x2] 33))
      have hlen : ss.length < L.length := by
        have h1 := hrg3.nodup
        have h2 : (ss ++ [(x1, x2)]).length ≤ (L.map (·.1)).length := nodup_le _ _ h1 (fun s hs => hrg3.sub s hs)
        simp at h2
        omega
      obtain ⟨fn, tmps, assign, body, hy, hR⟩ := hY ss (x1, x2) _ hJ3 hlen
      dsimp only [spV] at hy
      clear hs2
      gi_wp2
      refine hR.mono ?_
      rintro e W3 (⟨rfl, hJ4, hk3⟩ | ⟨rfl, hJx4⟩)
      · gi_wp2
        obtain ⟨hrg4, hle4⟩ := hrg3.of_walks hk3
        go_roundw
        case rel => exact ⟨ss ++ [(x1, x2)], hrg4, hJ4⟩
        case measure => rw [hle4, hle3]; exact hlt
      · gi_wp2
        refine bodyPost_ret (results_none rfl _ _ _) rfl ?_
        exact ⟨⟨_, rfl⟩, .inr ⟨_, trivial, hJx4⟩⟩

theorem keysStops_int (n : Nat) (hn : 1 ≤ n) (Bm b : Nat) (L : List (Sp × Value)) (w : World) (hBm : Bm < w.heap.size) (hm : w.cell? ⟨Bm, 0, none⟩ = some (.map (some b))) (hown : MapIs w b L) :
    SeqStops Fence.wide n Tryz.prog 144 #[.pointer (some ⟨Bm, 0, none⟩)] spV (fun ss => ss.Perm (L.map (·.1))) (fun _ => True) L.length w := fun l J Jx W hW hJ _ hY h0 => by
  have hown' : MapIs W b L := by
    have hbl := hown.lt
    obtain ⟨es, clock, hb, r⟩ := hown
    exact ⟨es, clock, (hW.block b hbl).trans hb, r⟩
  exact keys1_int n hn l Bm b L J Jx hY W hJ ((hW.cell (p := ⟨Bm, 0, none⟩) hBm).trans hm) hown' h0

set_option maxHeartbeats 1000000 in
theorem keys_int (mb : Option Nat) (w : World) :
    Calls Tryz.prog 99 #[.map mb] w fun e w' => e = .returned (.func (.func 144) #[] #[.pointer (some ⟨w.heap.size, 0, none⟩)]) ∧ w' = w.alloc (.cells #[.map mb] 190) := by
  go_enter Tryz.func99, Tryz.ntmps99
  go_wp2
  go_ret
  exact ⟨rfl, rfl⟩
end
section
open Go.RowKit Go.Shelf

abbrev stkO (sm : Nat) : Obj := .cells #[.slice none 0 0, .map (some sm), .int .i64 0] 237 (0, 0)
abbrev schO (p k st gm dm bm : Nat) (o : Bool) : Obj := .cells #[.pointer (some ⟨p, 0, none⟩), .pointer (some ⟨k, 0, none⟩), .slice none 0 0, .int .i64 0, .pointer (some ⟨st, 0, none⟩), .map (some gm), .map (some dm), .map (some bm), .bool o, .int .i64 0, .slice none 0 0, .int .i64 0, .int .i64 0] 192 (0, 0)

theorem frTop0 (st sm : Nat) (w : World) (h : w.heap[st]? = some (stkO sm)) :
    Calls Tryz.prog 96 #[.pointer (some ⟨st, 0, none⟩)] w fun e w1 => e = .returned (.tuple #[.agg #[.int .i64 0, .int .i64 0, .int .i64 0, .int .i64 0], .bool false]) ∧ Fr [] w w1 := by
  have c0 := cell_of h 0
  have hlt := lt_of h
  go_enter Tryz.func96, Tryz.ntmps96
  go_wp2
  refine bodyPost_ret (v := .tuple #[.agg #[.int .i64 0, .int .i64 0, .int .i64 0, .int .i64 0], .bool false]) (by simp [results, Tryz.results96, go_sem]) rfl ⟨rfl, ?_⟩
  repeat' (first | exact Fr.refl _ _ | exact .inr (Nat.le_refl _) | apply Fr.alloc | apply Fr.setCell)

theorem frHeight0 (st sm : Nat) (w : World) (h : w.heap[st]? = some (stkO sm)) :
    Calls Tryz.prog 97 #[.pointer (some ⟨st, 0, none⟩)] w fun e w1 => e = .returned (.tuple #[.int .i64 0, .int .i64 0]) ∧ Fr [] w w1 := by
  have c0 := cell_of h 0
  have c2 := cell_of h 2
  go_enter Tryz.func97, Tryz.ntmps97
  go_wp2_with fail
  go_quiet (fail)
  go_wp2
  go_ret2
  exact ⟨rfl, (Fr.refl [] w).drewN _⟩

set_option maxRecDepth 100000 in
theorem schIdle (x p k st gm dm bm : Nat) (w : World) (h : w.heap[x]? = some (schO p k st gm dm bm false)) :
    Calls Tryz.prog 93 #[.pointer (some ⟨x, 0, none⟩), .agg #[.int .i64 0, .int .i64 0, .int .i64 0, .int .i64 0]] w fun e w1 => e = .returned (.tuple #[]) ∧ w1.heap[x]? = some (schO p k st gm dm bm true) ∧ Fr [x] w w1 := by
  go_enter Tryz.func93, Tryz.ntmps93
  go_wp2_with fail
  have hW := (Fr.refl [] w).alloc (.cells #[.int .i64 0, .int .i64 0, .int .i64 0, .int .i64 0] 197)
  have h := hW.heap h (by simp)
  generalize w.alloc (.cells #[.int .i64 0, .int .i64 0, .int .i64 0, .int .i64 0] 197) = W at *
  go_loopw [7] (fun _ wr => wr = W) (fun _ _ => 0)
  case atStart => rfl
  case round =>
    subst hrel
    have c2 := cell_of h 2
    have c3 := cell_of h 3
    go_wp2_with fail
    go_quiet (fail)
    have h := ((Fr.refl [] wr).drewN nq).heap h (by simp)
    have f8 := free_of h 8
    have c8 := cell_of h 8
    go_wp2_with fail
    refine bodyPost_end (results_none rfl _ _ _) rfl ?_
    exact ⟨rfl, set_of h 8 _, (((hW.drewN nq).mono (by simp) : Fr [x] w _).setCell (.inl (by simp)) _)⟩

def overM (x : Nat) (w : World) : Nat := match w.cell? ⟨x, 8, none⟩ with | some (.bool true) => 0 | _ => 1

set_option maxRecDepth 100000 in
set_option maxHeartbeats 1600000 in
theorem schStep (x p k st sm gm dm bm : Nat) (w : World) (h : w.heap[x]? = some (schO p k st gm dm bm false)) (hst : w.heap[st]? = some (stkO sm)) (hne : x ≠ st) :
    Calls Tryz.prog 64 #[.pointer (some ⟨x, 0, none⟩), .int .i64 1048576] w fun e w1 => e = .returned (.int .i64 0) ∧ w1.heap[x]? = some (schO p k st gm dm bm true) ∧ w1.heap[st]? = some (stkO sm) ∧ Fr [x] w w1 := by
  go_enter Tryz.func64, Tryz.ntmps64
  go_wp2_with (refine wpList_store_new rfl 195 _ _ rfl w 195 _ #[.func (.func 93) #[.pointer (some ⟨x, 0, none⟩)] #[], .func (.func 94) #[.pointer (some ⟨x, 0, none⟩)] #[], .func (.func 95) #[.pointer (some ⟨x, 0, none⟩)] #[]] rfl rfl rfl (by kernel_rfl) rfl (by simp [Value.oneCell']) ?_)
  have hW := (Fr.refl [] w).alloc (.cells #[.func (.func 93) #[.pointer (some ⟨x, 0, none⟩)] #[], .func (.func 94) #[.pointer (some ⟨x, 0, none⟩)] #[], .func (.func 95) #[.pointer (some ⟨x, 0, none⟩)] #[]] 195)
  have hb := heap_new w (.cells #[.func (.func 93) #[.pointer (some ⟨x, 0, none⟩)] #[], .func (.func 94) #[.pointer (some ⟨x, 0, none⟩)] #[], .func (.func 95) #[.pointer (some ⟨x, 0, none⟩)] #[]] 195)
  have hx := hW.heap h (by simp)
  have hst := hW.heap hst (by simp)
  have hxl := lt_of h
  generalize w.alloc (.cells #[.func (.func 93) #[.pointer (some ⟨x, 0, none⟩)] #[], .func (.func 94) #[.pointer (some ⟨x, 0, none⟩)] #[], .func (.func 95) #[.pointer (some ⟨x, 0, none⟩)] #[]] 195) = W0 at *
  obtain ⟨A, hA⟩ : ∃ A, w.heap.size = A := ⟨_, rfl⟩
  simp only [hA] at hb hxl ⊢
  clear h
  go_loopw [6] (fun s wr => s = .int .i64 0 ∧ (∃ o, wr.heap[x]? = some (schO p k st gm dm bm o)) ∧ wr.heap[st]? = some (stkO sm) ∧ Fr [x] W0 wr) (fun _ wr => overM x wr)
  case atStart => exact ⟨rfl, ⟨_, hx⟩, hst, Fr.refl _ _⟩
  case round =>
    obtain ⟨rfl, ⟨o, hxr⟩, hsr, hfr⟩ := hrel
    have c4 := cell_of hxr 4
    have c8 := cell_of hxr 8
    cases o with
    | true =>
      go_wp2_with fail
      go_ret
      exact ⟨rfl, hxr, hsr, (hW.mono (by simp) : Fr [x] w W0).transS hfr⟩
    | false =>
      go_wp2_with fail
      refine (frTop0 st sm wr hsr).mono ?_
      rintro e w4 ⟨rfl, h4⟩
      have hx4 := h4.heap hxr (by simp)
      have hs4 := h4.heap hsr (by simp)
      have hb4 := h4.heap (hfr.heap hb (by simp; omega)) (by simp)
      have hf4 := hfr.trans0 h4
      have z4 := hf4.size
      go_wp2_with fail
      have hA5 := (Fr.refl [] w4).alloc (.cells #[.int .i64 0, .int .i64 0, .int .i64 0, .int .i64 0] 197)
      have hF5 := heap_new w4 (.cells #[.int .i64 0, .int .i64 0, .int .i64 0, .int .i64 0] 197)
      have hxo5 := hA5.heap hx4 (by simp)
      have hs5 := hA5.heap hs4 (by simp)
      have hb5 := hA5.heap hb4 (by simp)
      have hf5 := hf4.trans0 hA5
      have hidle : Hid (∀ u : World, u.heap[x]? = some (schO p k st gm dm bm false) → Calls Tryz.prog 93 #[.pointer (some ⟨x, 0, none⟩), .agg #[.int .i64 0, .int .i64 0, .int .i64 0, .int .i64 0]] u fun e w1 => e = .returned (.tuple #[]) ∧ w1.heap[x]? = some (schO p k st gm dm bm true) ∧ Fr [x] u w1) := fun u hu => schIdle x p k st gm dm bm u hu
      obtain ⟨F, hFe⟩ : ∃ F, w4.heap.size = F := ⟨_, rfl⟩
      simp only [hFe] at hF5 z4 ⊢
      generalize w4.alloc (.cells #[.int .i64 0, .int .i64 0, .int .i64 0, .int .i64 0] 197) = W at *
      have a0 := cell_of hb5 0
      have f0 := cell_of hF5 0
      have f1 := cell_of hF5 1
      have f2 := cell_of hF5 2
      have f3 := cell_of hF5 3
      have lA := lt_of hb5
      have lF := lt_of hF5
      have zA := hf4.size
      have lA0 := lt_of hb
      have nA : A ∉ [x] := by simp; omega
      have nF : F ∉ [x] := by
        have := lt_of hx
        simp; omega
      refine wp_facts (fun u => Fr [x] W u) (fun i u u' => Fr (if i = 5 then [x] else []) u u') [(5, .pointer (some ⟨A, 0, none⟩)), (7, .pointer (some ⟨F, 0, none⟩))] [[], [0], [1], [2], [], [3, 4]]
        (fun i σ u => match i with
          | 0 => σ 34 = .pointer (some ⟨F, 2, none⟩)
          | 1 => σ 35 = .int .i64 0
          | 2 => σ 36 = .pointer (some ⟨A, 0, none⟩)
          | 3 => σ 37 = .func (.func 93) #[.pointer (some ⟨x, 0, none⟩)] #[]
          | 4 => σ 38 = .agg #[.int .i64 0, .int .i64 0, .int .i64 0, .int .i64 0]
          | _ => u.heap[x]? = some (schO p k st gm dm bm true)) (fun i u => i = 5 → Fr [] W u)
        (ds := [34, 35, 36, 37, 38, 39]) (fr := ?fr5) (by kernel_rfl) ?hfr5 ⟨rfl, rfl, trivial⟩ rfl rfl (by kernel_rfl) (by kernel_rfl) (by decide) rfl (Fr.refl _ _).drew (fun _ _ _ => (Fr.refl _ _).drew) ⟨fun j hj i u u' hij _ hG hR hN e => (hN e).trans0 (by subst e; rwa [if_neg hij] at hR), fun i u u' hG hR => (by split at hR; exact hG.trans hR (fun q hq => .inl (by first | exact hq | exact List.mem_cons_of_mem _ hq | exact List.mem_cons.2 (.inl (List.mem_singleton.1 hq)))); exact hG.trans0 hR), ?_, ?_⟩ ?_
      case hfr5 =>
        intro σ
        simp only [layA, List.foldl_cons, List.foldl_nil, List.setIfInBounds_toArray, List.set_cons_zero, List.set_cons_succ]
        rfl
      · intro j hj i σ σ' u u' hij hs hd hG hR h
        have hj : j < 6 := hj
        rcases (by omega : j = 5 ∨ j = 0 ∨ j = 1 ∨ j = 2 ∨ j = 3 ∨ j = 4) with rfl | rfl | rfl | rfl | rfl | rfl
        · rw [if_neg hij] at hR; exact hR.heap h (by simp)
        all_goals exact hs.trans h
      · intro i hi
        have hi : i < 6 := hi
        rcases (by omega : (i = 0 ∨ i = 1 ∨ i = 2 ∨ i = 3 ∨ i = 4) ∨ (i = 5)) with hi | hi
        · rcases hi with rfl | rfl | rfl | rfl | rfl
          all_goals
            intro a u K hX hG hD hN hZ hK
            obtain ⟨hx5, hx7, -⟩ := hX
            try dsimp only [AllF, slotsA, List.getD_cons_zero, List.getD_cons_succ] at hD
            first | obtain ⟨e0, e1, e2, e3, -⟩ := hD | obtain ⟨e0, e1, e2, -⟩ := hD | obtain ⟨e0, e1, -⟩ := hD | obtain ⟨e0, -⟩ := hD | skip
            try replace e0 : _ = _ := e0
            try replace e1 : _ = _ := e1
            try replace e2 : _ = _ := e2
            try replace e3 : _ = _ := e3
            have m0 := (hG.cell (p := ⟨F, 1, none⟩) lF nF).trans f1
            have m1 := (hG.cell (p := ⟨A, 0, none⟩) lA nA).trans a0
            have m2 := (hG.cell (p := ⟨F, 0, none⟩) lF nF).trans f0
            have m3 := (hG.cell (p := ⟨F, 2, none⟩) lF nF).trans f2
            have m4 := (hG.cell (p := ⟨F, 3, none⟩) lF nF).trans f3
            refine wpOp_step rfl (fun K' hK' => ?_)
            go_simp
            exact hK' _ _ (hK _ _ (Fr.refl _ _) rfl)
        · subst hi
          all_goals
            intro a u K hX hG hD hN hZ hK
            obtain ⟨hx5, hx7, -⟩ := hX
            try dsimp only [AllF, slotsA, List.getD_cons_zero, List.getD_cons_succ] at hD
            have m0 := (hG.cell (p := ⟨F, 1, none⟩) lF nF).trans f1
            have m1 := (hG.cell (p := ⟨A, 0, none⟩) lA nA).trans a0
            have m2 := (hG.cell (p := ⟨F, 0, none⟩) lF nF).trans f0
            have m3 := (hG.cell (p := ⟨F, 2, none⟩) lF nF).trans f2
            have m4 := (hG.cell (p := ⟨F, 3, none⟩) lF nF).trans f3
          · obtain ⟨d3, d4, -⟩ := hD
            replace d3 : _ = _ := d3
            replace d4 : _ = _ := d4
            refine wpOp_step rfl (fun K' hK' => ?_)
            go_simp
            refine (hidle.out u ((hN rfl).heap hxo5 (by simp))).mono ?_
            rintro e u2 ⟨rfl, hO5, hF⟩
            exact hK' _ _ (hK _ _ hF hO5)
      · intro σ u hG h
        have hx6 : u.heap[x]? = some (schO p k st gm dm bm true) := h 5 (by decide)
        have hs6 := hG.heap hs5 (by simp; exact fun e => hne e.symm)
        have c8 := cell_of hx6 8
        clear h
        go_wp2
        go_roundw
        case rel => exact ⟨rfl, ⟨_, hx6⟩, hs6, hf5.transS hG⟩
        case measure =>
          have e1 : overM x u = 0 := by unfold overM; rw [cell_of hx6 8]; rfl
          have e2 : overM x wr = 1 := by unfold overM; rw [cell_of hxr 8]; rfl
          omega
end
section
open Go.RowKit Go.Shelf
attribute [local go_sem] Oper.semAt_some

theorem storeDrop0 (k ktb kmb : Nat) (dd : Int) (s : Sp) (w : World) (h : StIs w k ktb kmb dd []) :
    Calls Tryz.prog 88 #[.pointer (some ⟨k, 0, none⟩), spV s] w fun e w1 => e = .returned (.bool false) ∧ Fr [] w w1 := by
  obtain ⟨hst, hwd, ls, hT, hM⟩ := h
  obtain rfl : ls = [] := List.eq_nil_of_length_eq_zero (by rw [hM.len]; rfl)
  have hdrop : Hid (∀ u, TabIs 175 (fun x : Seen => Seen.val x) u ktb kmb [] → Calls Tryz.prog 126 #[.pointer (some ⟨ktb, 0, none⟩), spV s] u fun e w1 => e = .returned (.bool false) ∧ Fr [] u w1) := by
    rintro u ⟨ht, es, clock, hb, hp, hs, hn⟩
    have hlook : ∀ W : World, ob W kmb = some (.map es clock) → (Instr.lookup 173 (.map (some kmb)) (spV s) true).run Tryz.prog W = .ok (.tuple #[seen0.val, .bool false]) W := by
      intro W hW
      have := run_look (P := Tryz.prog) spotKey Tryz.underlying173 zeroTSeen hW hp s true
      rw [this, getS_vals]
      rfl
    exact dropN_Seen ktb kmb s u es clock _ _ _ _ _ _ (cell_of ht 0) (lt_of ht) hb (lt_of hb) hlook
  have c1 := cell_of hst 1
  have hlt := lt_of hst
  have HT := Lib.hid (show TabIs 175 (fun x : Seen => Seen.val x) w ktb kmb [] from hT)
  clear hT hM hst hwd
  go_enter Tryz.func88, Tryz.ntmps88
  go_wp2_with fail
  have hW : Fr [] w (w.alloc (.cells #[.int .i64 s.1, .int .i64 s.2] 33)) := (Fr.refl [] w).alloc _
  have hat := heap_new w (.cells #[.int .i64 s.1, .int .i64 s.2] 33)
  have c1 := (hW.cell (p := ⟨k, 1, none⟩) hlt (by simp)).trans c1
  have hlt := Nat.lt_of_lt_of_le hlt hW.size
  have HT := Lib.hid (HT.out.fr hW (by simp) (by simp))
  obtain ⟨A, hA⟩ : ∃ A, w.heap.size = A := ⟨_, rfl⟩
  simp only [hA] at hat ⊢
  generalize w.alloc (.cells #[.int .i64 s.1, .int .i64 s.2] 33) = W at *
  have a0 := cell_of hat 0
  have a1 := cell_of hat 1
  have lA := lt_of hat
  refine wp_facts (fun u => Fr [] W u) (RelS W.heap.size []) [(0, .pointer (some ⟨k, 0, none⟩)), (3, .pointer (some ⟨A, 0, none⟩))] [[], [0], [1], [2], [], [3, 4], [5]]
    (fun i σ u => match i with
      | 0 => σ 5 = .pointer (some ⟨k, 0, none⟩)
      | 1 => σ 6 = .pointer (some ⟨k, 0, none⟩)
      | 2 => σ 7 = .pointer (some ⟨k, 1, none⟩)
      | 3 => σ 8 = .pointer (some ⟨ktb, 0, none⟩)
      | 4 => σ 9 = spV s
      | 5 => σ 10 = .bool false
      | _ => σ 4 = .bool false) (fun _ _ => True)
    (ds := [5, 6, 7, 8, 9, 10, 4]) (fr := ?fr1) (by kernel_rfl) ?hfr1 ⟨rfl, rfl, trivial⟩ rfl rfl (by kernel_rfl) (by kernel_rfl) (by decide) rfl (Fr.refl _ _).drew (fun _ _ => trivial) ⟨fun _ _ _ _ _ _ _ _ _ _ => trivial, fun i u u' hG hR => hR.fr hG, ?_, ?_⟩ ?_
  case hfr1 =>
    intro σ
    simp only [layA, List.foldl_cons, List.foldl_nil, List.setIfInBounds_toArray, List.set_cons_zero, List.set_cons_succ]
    rfl
  · intro j hj i σ σ' u u' hij hs hd hG hR h
    have hj : j < 7 := hj
    rcases (by omega : j = 0 ∨ j = 1 ∨ j = 2 ∨ j = 3 ∨ j = 4 ∨ j = 5 ∨ j = 6) with rfl | rfl | rfl | rfl | rfl | rfl | rfl
    all_goals exact hs.trans h
  · intro i hi
    have hi : i < 7 := hi
    rcases (by omega : (i = 0 ∨ i = 1 ∨ i = 2 ∨ i = 3 ∨ i = 4 ∨ i = 6) ∨ (i = 5)) with hi | hi
    · rcases hi with rfl | rfl | rfl | rfl | rfl | rfl
      all_goals
        intro a u K hX hG hD hN hZ hK
        obtain ⟨hx0, hx3, -⟩ := hX
        try dsimp only [AllF, slotsA, List.getD_cons_zero, List.getD_cons_succ] at hD
        first | obtain ⟨e0, e1, e2, e3, -⟩ := hD | obtain ⟨e0, e1, e2, -⟩ := hD | obtain ⟨e0, e1, -⟩ := hD | obtain ⟨e0, -⟩ := hD | skip
        try replace e0 : _ = _ := e0
        try replace e1 : _ = _ := e1
        try replace e2 : _ = _ := e2
        try replace e3 : _ = _ := e3
        have hr := hG.rules.1
        refine wpOp_step rfl (fun K' hK' => ?_)
        go_simp
        exact hK' _ _ (hK _ _ (Fr.refl _ _) rfl)
    · subst hi
      all_goals
        intro a u K hX hG hD hN hZ hK
        obtain ⟨hx0, hx3, -⟩ := hX
        try dsimp only [AllF, slotsA, List.getD_cons_zero, List.getD_cons_succ] at hD
        have hr := hG.rules.1
      · obtain ⟨d3, d4, -⟩ := hD
        replace d3 : _ = _ := d3
        replace d4 : _ = _ := d4
        refine wpOp_step rfl (fun K' hK' => ?_)
        go_simp
        refine (hdrop.out u (HT.out.fr hG (by simp) (by simp))).mono ?_
        rintro e u2 ⟨rfl, hF⟩
        exact hK' _ _ (hK _ _ hF rfl)
  · intro σ u hG h
    have h6 : σ 4 = _ := h 6 (by decide)
    rw [h6]
    clear h
    go_wp2
    go_ret
    exact ⟨rfl, hW.trans0 hG⟩

theorem eql_nilS (w : World) : (binOp .eql 28 (.slice none 0 0) (.slice none 0 0)).run Tryz.prog w = .ok (.bool true) w := by kernel_rfl
set_option maxRecDepth 100000 in
theorem cloneNil (w : World) : Calls Tryz.prog 90 #[.slice none 0 0] w fun e w1 => e = .returned (.slice none 0 0) ∧ Fr [] w w1 := by
  have heq := eql_nilS
  go_enter Tryz.func90, Tryz.ntmps90
  go_wp2
  go_ret
  exact ⟨rfl, Fr.refl _ _⟩
set_option maxRecDepth 100000 in
theorem newFrameS (w : World) : Calls Tryz.prog 91 #[] w fun e w1 => ∃ st sm, e = .returned (.pointer (some ⟨st, 0, none⟩)) ∧ w.heap.size ≤ st ∧ w1.heap[st]? = some (stkO sm) ∧ Fr [] w w1 := by
  have hmm := @run_makeMap Tryz.prog
  go_enter Tryz.func91, Tryz.ntmps91
  go_wp2
  go_ret
  refine ⟨_, w.heap.size, rfl, ?_, ?_, ((Fr.refl [] w).alloc _).alloc _⟩
  · simp
  · have := heap_new (w.alloc (.map #[] 0)) (stkO w.heap.size)
    simpa using this

set_option maxRecDepth 100000 in
set_option maxHeartbeats 3200000 in
theorem schedNew_in (p tb mb : Nat) (b : Int) (l : List (Sp × Cel)) (k ktb kmb : Nat) (dd : Int) (v : Value) (ss : List Sp) (w : World) (h : ShB w p tb mb b l) (hl : l.length ≤ 65536) (hlit : ∀ s, ((getS s l).getD cel0).k ≠ 2) (hS : StIs w k ktb kmb dd []) (hv : w.ownsRow 0 33 2 v ss.length (ss.flatMap spC)) (hss : (ss.length : Int) ≤ 131072) :
    CallsIn Fence.wide 6 Tryz.prog 62 #[.pointer (some ⟨p, 0, none⟩), .pointer (some ⟨k, 0, none⟩), v, .slice none 0 0] w fun e w1 => ∃ x st sm gm dm bm, e = .returned (.tuple #[.pointer (some ⟨x, 0, none⟩), .int .i64 0]) ∧ w.heap.size ≤ x ∧ w.heap.size ≤ st ∧ x ≠ st ∧
      w1.heap[x]? = some (schO p k st gm dm bm false) ∧ w1.heap[st]? = some (stkO sm) ∧ w1.heap[bm]? = some (.map #[] 0) ∧ Fr [] w w1 := by
  obtain ⟨q, cap, hvq⟩ := (RIs.of_owns hv).form
  have HV := Lib.hid hv
  have H := Lib.hid h
  have HS := Lib.hid hS
  have HLIT := Lib.hid hlit
  have HL := Lib.hid hl
  have hlts := h.lts
  clear h hS hlit hl hv
  refine callsIn_of_wp_marks Tryz.func62 rfl trivial ?_ rfl
  simp only [Tryz.ntmps62, List.size_toArray, List.length_cons, List.length_nil, Nat.reduceAdd, Nat.reduceSub, Array.replicate_succ, Array.replicate_zero, List.push_toArray, List.append_toArray, List.nil_append, List.cons_append]
  subst hvq
  have hcellk : Hid (∀ j, j < ss.length → ∃ g, q = some ⟨g, 0, none⟩ ∧ w.cell? ⟨g, j * 2, none⟩ = some (.int .i64 (ss[j]?.getD (0, 0)).1) ∧ w.cell? ⟨g, j * 2 + 1, none⟩ = some (.int .i64 (ss[j]?.getD (0, 0)).2) ∧ g < w.heap.size) := by
    intro j hj
    obtain ⟨g, cap', cur, e, _, hg, r1, r2, r3, r4⟩ := owns_open HV.out (by omega)
    cases e
    refine ⟨g, rfl, ?_, ?_, lt_of hg⟩
    · refine take_cells hg r4 _ _ ?_
      have := flat_get spC 2 (fun _ => rfl) ss j 0 hj (by omega)
      rw [Nat.add_zero] at this
      rw [this, List.getElem?_eq_getElem hj]
      rfl
    · refine take_cells hg r4 _ _ ?_
      have := flat_get spC 2 (fun _ => rfl) ss j 1 hj (by omega)
      rw [this, List.getElem?_eq_getElem hj]
      rfl
  gi_wp2_with fail
  have hA0 := (Fr.refl [] w).alloc (.cells #[.pointer (some ⟨p, 0, none⟩)] 55)
  have hab := heap_new w (.cells #[.pointer (some ⟨p, 0, none⟩)] 55)
  have hcell0 : Hid (∀ j, j < ss.length → ∃ g, q = some ⟨g, 0, none⟩ ∧ (w.alloc (.cells #[.pointer (some ⟨p, 0, none⟩)] 55)).cell? ⟨g, j * 2, none⟩ = some (.int .i64 (ss[j]?.getD (0, 0)).1) ∧ (w.alloc (.cells #[.pointer (some ⟨p, 0, none⟩)] 55)).cell? ⟨g, j * 2 + 1, none⟩ = some (.int .i64 (ss[j]?.getD (0, 0)).2) ∧ g < (w.alloc (.cells #[.pointer (some ⟨p, 0, none⟩)] 55)).heap.size) := fun j hj => by
    obtain ⟨g, e, h1, h2, h3⟩ := hcellk.out j hj
    exact ⟨g, e, ce_old h1, ce_old h2, Nat.lt_of_lt_of_le h3 hA0.size⟩
  have H0 := Lib.hid (H.out.fr0 hA0)
  have HS0 := Lib.hid (HS.out.fr0 hA0)
  obtain ⟨A, hA⟩ : ∃ A, w.heap.size = A := ⟨_, rfl⟩
  simp only [hA] at hab hlts ⊢
  generalize w.alloc (.cells #[.pointer (some ⟨p, 0, none⟩)] 55) = w0 at *
  clear hcellk
  have hlen := hss
  refine wpIn_wide.2 ?_
  go_loopw [29] (fun i wr => ∃ j : Nat, (j : Int) ≤ (ss.length : Int) ∧ i = .int .i64 (j : Int) ∧ Fr [] w0 wr) (fun i _ => ss.length - (intOf i).toNat)
  case atStart => exact ⟨0, by omega, rfl, Fr.refl _ _⟩
  case round =>
    obtain ⟨j, hj, rfl, hf⟩ := hrel
    by_cases hlt : (j : Int) < (ss.length : Int)
    · obtain ⟨g, rfl, c0, c1, lg⟩ := hcell0.out j (by omega)
      have c0 := ce_call hf c0
      have c1 := ce_call hf c1
      generalize ss[j]?.getD (0, 0) = s at *
      have HSr := Lib.hid (HS0.out.fr0 hf)
      go_wp2_with fail
      refine (storeDrop0 k ktb kmb dd s _ (HSr.out.fr0 ((Fr.refl [] wr).alloc _))).mono ?_
      rintro e w5 ⟨rfl, h5⟩
      go_wp2_with fail
      go_roundw
      case rel => exact ⟨j + 1, by omega, by go_num, (hf.alloc _).trans0 h5⟩
      case measure => simp [intOf]; omega
    · have hje : (j : Int) = (ss.length : Int) := by omega
      go_wp2_with fail
      gi_wp2_with fail
      refine ⟨trivial, ?_⟩
      gi_at_call 89
      refine (callsIn_wide.2 (storeAll k ktb kmb dd [] wr (HS0.out.fr0 hf) (by simp))).mono ?_
      rintro e W ⟨v2, rfl, hrow2, h2⟩
      have hrow2' : W.ownsRow wr.heap.size 33 2 v2 0 [] := by simpa [sortS] using hrow2
      obtain ⟨q2, cap2, rfl⟩ := (RIs.of_owns hrow2').form
      have hfW := (hf.trans0 h2)
      have habW := hfW.heap hab (by simp)
      have HW := Lib.hid (H0.out.fr0 hfW)
      have zW := hfW.size
      have zA := hA0.size
      clear hrow2 hrow2'
      gi_wp2_with fail
      refine wpIn_wide.2 ?_
      go_loopw [40] (fun i wx => i = .int .i64 0 ∧ Fr [] W wx) (fun _ _ => 0)
      case atStart => exact ⟨rfl, Fr.refl _ _⟩
      case round =>
        obtain ⟨rfl, hWr⟩ := hrel
        have habr := hWr.heap habW (by simp)
        have hfr := hfW.trans0 hWr
        have HR := Lib.hid (HW.out.fr0 hWr)
        have a0 := cell_of habr 0
        have lA := lt_of habr
        clear habW
        go_wp2_with fail
        gi_wp2_with fail
        refine wpIn_wide.2 ?_
        refine wp_facts (fun u => Fr [] wr u) (RelS wr.heap.size [(11, 152)]) [(1, .pointer (some ⟨k, 0, none⟩)), (3, .slice none 0 0), (4, .pointer (some ⟨A, 0, none⟩))] [[], [], [], [2], [], [], [], [], [0, 1, 3, 4, 5, 6, 7], [8], [], [10, 9]]
          (fun i σ u => match i with
            | 0 => σ 52 = .pointer (some ⟨p, 0, none⟩)
            | 1 => σ 53 = .pointer (some ⟨k, 0, none⟩)
            | 2 => σ 54 = .slice none 0 0
            | 3 => σ 55 = .slice none 0 0
            | 4 => ∃ st sm, σ 56 = .pointer (some ⟨st, 0, none⟩) ∧ wr.heap.size ≤ st ∧ u.heap[st]? = some (.cells #[.slice none 0 0, .map (some sm), .int .i64 0] 237 (0, 0))
            | 5 => ∃ bm, σ 57 = .map (some bm) ∧ wr.heap.size ≤ bm ∧ u.heap[bm]? = some (.map #[] 0)
            | 6 => ∃ bm, σ 58 = .map (some bm) ∧ wr.heap.size ≤ bm ∧ u.heap[bm]? = some (.map #[] 0)
            | 7 => ∃ bm, σ 59 = .map (some bm) ∧ wr.heap.size ≤ bm ∧ u.heap[bm]? = some (.map #[] 0)
            | 8 => ∃ st sm gm dm bm, σ 60 = .agg #[.pointer (some ⟨p, 0, none⟩), .pointer (some ⟨k, 0, none⟩), .slice none 0 0, .int .i64 0, .pointer (some ⟨st, 0, none⟩), .map (some gm), .map (some dm), .map (some bm), .bool false, .int .i64 0, .slice none 0 0, .int .i64 0, .int .i64 0] ∧ (wr.heap.size ≤ st ∧ u.heap[st]? = some (.cells #[.slice none 0 0, .map (some sm), .int .i64 0] 237 (0, 0))) ∧ wr.heap.size ≤ bm ∧ u.heap[bm]? = some (.map #[] 0)
            | 9 => ∃ x st sm gm dm bm, σ 61 = .pointer (some ⟨x, 0, none⟩) ∧ (wr.heap.size ≤ x ∧ u.heap[x]? = some (.cells #[.pointer (some ⟨p, 0, none⟩), .pointer (some ⟨k, 0, none⟩), .slice none 0 0, .int .i64 0, .pointer (some ⟨st, 0, none⟩), .map (some gm), .map (some dm), .map (some bm), .bool false, .int .i64 0, .slice none 0 0, .int .i64 0, .int .i64 0] 192 (0, 0))) ∧ (wr.heap.size ≤ st ∧ u.heap[st]? = some (.cells #[.slice none 0 0, .map (some sm), .int .i64 0] 237 (0, 0))) ∧ wr.heap.size ≤ bm ∧ u.heap[bm]? = some (.map #[] 0)
            | 10 => ∃ D cs, σ 14 = .pointer (some ⟨D, 0, none⟩) ∧ wr.heap.size ≤ D ∧ cs.size = 1 ∧ u.heap[D]? = some (.cells cs 152 (0, 0))
            | _ => ∃ D x st sm gm dm bm, σ 14 = .pointer (some ⟨D, 0, none⟩) ∧ wr.heap.size ≤ D ∧ u.heap[D]? = some (.cells #[.pointer (some ⟨x, 0, none⟩)] 152 (0, 0)) ∧ (wr.heap.size ≤ x ∧ u.heap[x]? = some (.cells #[.pointer (some ⟨p, 0, none⟩), .pointer (some ⟨k, 0, none⟩), .slice none 0 0, .int .i64 0, .pointer (some ⟨st, 0, none⟩), .map (some gm), .map (some dm), .map (some bm), .bool false, .int .i64 0, .slice none 0 0, .int .i64 0, .int .i64 0] 192 (0, 0))) ∧ (wr.heap.size ≤ st ∧ u.heap[st]? = some (.cells #[.slice none 0 0, .map (some sm), .int .i64 0] 237 (0, 0))) ∧ wr.heap.size ≤ bm ∧ u.heap[bm]? = some (.map #[] 0)) (fun _ _ => True)
          (ds := [52, 53, 54, 55, 56, 57, 58, 59, 60, 61, 14]) (fr := ?fr16) (by kernel_rfl) ?hfr16 ⟨rfl, rfl, rfl, trivial⟩ rfl rfl (by kernel_rfl) (by kernel_rfl) (by decide) rfl (Fr.refl _ _).drew (fun _ _ => trivial) ⟨fun _ _ _ _ _ _ _ _ _ _ => trivial, fun i u u' hG hR => hR.fr hG, ?_, ?_⟩ ?_
        case hfr16 =>
          intro σ
          simp only [layA, List.foldl_cons, List.foldl_nil, List.setIfInBounds_toArray, List.set_cons_zero, List.set_cons_succ]
          rfl
        · intro j hj i σ σ' u u' hij hs hd hG hR h
          have hj : j < 12 := hj
          rcases (by omega : j = 4 ∨ j = 5 ∨ j = 6 ∨ j = 7 ∨ j = 8 ∨ j = 9 ∨ j = 10 ∨ j = 11 ∨ j = 0 ∨ j = 1 ∨ j = 2 ∨ j = 3) with rfl | rfl | rfl | rfl | rfl | rfl | rfl | rfl | rfl | rfl | rfl | rfl
          · obtain ⟨st, sm, h1, h2, h3⟩ := h; exact ⟨st, sm, hs.trans h1, h2, hR.block h3 (lookup_no (by decide) i)⟩
          · obtain ⟨bm, h1, h2, h3⟩ := h; exact ⟨bm, hs.trans h1, h2, hR.map h3 rfl⟩
          · obtain ⟨bm, h1, h2, h3⟩ := h; exact ⟨bm, hs.trans h1, h2, hR.map h3 rfl⟩
          · obtain ⟨bm, h1, h2, h3⟩ := h; exact ⟨bm, hs.trans h1, h2, hR.map h3 rfl⟩
          · obtain ⟨st, sm, gm, dm, bm, h1, ⟨h2, h3⟩, h4, h5⟩ := h; exact ⟨st, sm, gm, dm, bm, hs.trans h1, ⟨h2, hR.block h3 (lookup_no (by decide) i)⟩, h4, hR.map h5 rfl⟩
          · obtain ⟨x, st, sm, gm, dm, bm, h1, ⟨h6, h7⟩, ⟨h2, h3⟩, h4, h5⟩ := h; exact ⟨x, st, sm, gm, dm, bm, hs.trans h1, ⟨h6, hR.block h7 (lookup_no (by decide) i)⟩, ⟨h2, hR.block h3 (lookup_no (by decide) i)⟩, h4, hR.map h5 rfl⟩
          · obtain ⟨D, cs, h1, h2, h3, h4⟩ := h
            obtain ⟨cs', h5, h6⟩ := hR.shape h4
            exact ⟨D, cs', hs.trans h1, h2, h5.trans h3, h6⟩
          · obtain ⟨D, x, st, sm, gm, dm, bm, h1, h8, h9, ⟨h6, h7⟩, ⟨h2, h3⟩, h4, h5⟩ := h; exact ⟨D, x, st, sm, gm, dm, bm, (hd 10 rfl).1.trans h1, h8, hR.block h9 (lookup_ne (by decide) hij), ⟨h6, hR.block h7 (lookup_no (by decide) i)⟩, ⟨h2, hR.block h3 (lookup_no (by decide) i)⟩, h4, hR.map h5 rfl⟩
          all_goals exact hs.trans h
        · intro i hi
          have hi : i < 12 := hi
          rcases (by omega : (i = 0 ∨ i = 1 ∨ i = 2) ∨ (i = 3 ∨ i = 4 ∨ i = 5 ∨ i = 6 ∨ i = 7 ∨ i = 8 ∨ i = 9 ∨ i = 10 ∨ i = 11)) with hi | hi
          · rcases hi with rfl | rfl | rfl
            all_goals
              intro a u K hX hG hD hN hZ hK
              obtain ⟨hx1, hx3, hx4, -⟩ := hX
              try dsimp only [AllF, slotsA, List.getD_cons_zero, List.getD_cons_succ] at hD
              first | obtain ⟨e0, e1, e2, e3, -⟩ := hD | obtain ⟨e0, e1, e2, -⟩ := hD | obtain ⟨e0, e1, -⟩ := hD | obtain ⟨e0, -⟩ := hD | skip
              try replace e0 : _ = _ := e0
              try replace e1 : _ = _ := e1
              try replace e2 : _ = _ := e2
              try replace e3 : _ = _ := e3
              have hr := hG.rules.1
              refine wpOp_step rfl (fun K' hK' => ?_)
              go_simp
              exact hK' _ _ (hK _ _ (Fr.refl _ _) rfl)
          · rcases hi with rfl | rfl | rfl | rfl | rfl | rfl | rfl | rfl | rfl
            all_goals
              intro a u K hX hG hD hN hZ hK
              obtain ⟨hx1, hx3, hx4, -⟩ := hX
              try dsimp only [AllF, slotsA, List.getD_cons_zero, List.getD_cons_succ] at hD
              have hr := hG.rules.1
            · obtain ⟨d2, -⟩ := hD
              replace d2 : _ = _ := d2
              refine wpOp_step rfl (fun K' hK' => ?_)
              go_simp
              refine (cloneNil u).mono ?_
              rintro e u2 ⟨rfl, hF⟩
              exact hK' _ _ (hK _ _ hF rfl)
            · refine wpOp_step rfl (fun K' hK' => ?_)
              go_simp
              refine (newFrameS u).mono ?_
              rintro e u2 ⟨st, sm, rfl, hz4, hb4, hF⟩
              exact hK' _ _ (hK _ _ hF ⟨st, sm, rfl, Nat.le_trans hG.size hz4, hb4⟩)
            · refine wpOp_step rfl (fun K' hK' => ?_)
              go_simp
              exact hK' _ _ (hK _ _ ((Fr.refl [] u).alloc _) ⟨_, rfl, hG.size, heap_new u _⟩)
            · refine wpOp_step rfl (fun K' hK' => ?_)
              go_simp
              exact hK' _ _ (hK _ _ ((Fr.refl [] u).alloc _) ⟨_, rfl, hG.size, heap_new u _⟩)
            · refine wpOp_step rfl (fun K' hK' => ?_)
              go_simp
              exact hK' _ _ (hK _ _ ((Fr.refl [] u).alloc _) ⟨_, rfl, hG.size, heap_new u _⟩)
            · obtain ⟨d0, d1, d3, ⟨st, sm, d4, h4a, h4b⟩, ⟨gm, d5, -, -⟩, ⟨dm, d6, -, -⟩, ⟨bm, d7, h7a, h7b⟩, -⟩ := hD
              replace d0 : _ = _ := d0
              replace d1 : _ = _ := d1
              replace d3 : _ = _ := d3
              replace d4 : _ = _ := d4
              replace d5 : _ = _ := d5
              replace d6 : _ = _ := d6
              replace d7 : _ = _ := d7
              refine wpOp_step rfl (fun K' hK' => ?_)
              go_simp
              exact hK' _ _ (hK _ _ (Fr.refl _ _) ⟨st, sm, gm, dm, bm, rfl, ⟨h4a, h4b⟩, h7a, h7b⟩)
            · obtain ⟨⟨st, sm, gm, dm, bm, d8, ⟨h2, h3⟩, h4, h5⟩, -⟩ := hD
              replace d8 : _ = _ := d8
              refine wpOp_step rfl (fun K' hK' => ?_)
              go_simp
              exact hK' _ _ (hK _ _ ((Fr.refl [] u).alloc _) ⟨_, st, sm, gm, dm, bm, rfl, ⟨hG.size, heap_new u _⟩, ⟨h2, ((Fr.refl [] u).alloc _).heap h3 (by simp)⟩, h4, ((Fr.refl [] u).alloc _).heap h5 (by simp)⟩)
            · refine wpOp_step rfl (fun K' hK' => ?_)
              go_simp
              exact hK' _ _ (hK _ _ ((Fr.refl [] u).alloc _) ⟨_, _, rfl, hG.size, rfl, heap_new u _⟩)
            · obtain ⟨⟨D, cs, d, hD0, hz, hb⟩, ⟨x, st, sm, gm, dm, bm, d9, ⟨h6, h7⟩, ⟨h2, h3⟩, h4, h5⟩, -⟩ := hD
              obtain ⟨x0, rfl⟩ := size_one hz
              obtain ⟨hSt, hn⟩ := KeptS.set1 (v := .pointer (some ⟨x, 0, none⟩)) hb hD0
              have q0 := cell_of hb 0
              have f0 := free_of hb 0
              replace d : _ = _ := d
              replace d9 : _ = _ := d9
              refine wpOp_step rfl (fun K' hK' => ?_)
              go_simp
              exact hK' _ _ (hK undef _ hSt ⟨D, x, st, sm, gm, dm, bm, d, hD0, hn, ⟨h6, hSt.heap h7 (fun cs f e => by cases e)⟩, ⟨h2, hSt.heap h3 (fun cs f e => by cases e)⟩, h4, hSt.heap h5 (fun cs f e => by cases e)⟩)
        · intro σ u hG h
          obtain ⟨D, x, st, sm, gm, dm, bm, e14, hD, hxD, ⟨hx, hxb⟩, ⟨hst, hsb⟩, hbm, hbb⟩ := h 11 (by decide)
          rw [e14]
          clear h e14
          have habu := hG.heap habr (by simp)
          have HU := Lib.hid (HR.out.fr0 hG)
          have hfu := hfr.trans0 hG
          have a0 := cell_of habu 0
          have hxst : x ≠ st := by
            rintro rfl
            rw [hxb] at hsb
            injection hsb with h1
            injection h1 with h2 h3 h4
            cases h3
          gi_wp2_with fail
          refine ⟨trivial, ?_⟩
          gi_at_call 34
          refine (callsIn_wide.2 (shAll p tb mb b l _ HU.out HL.out)).mono ?_
          rintro e w6 ⟨B6, rfl, hI6, h6⟩
          have hab6 := h6.heap habu (by simp)
          have hD6 := h6.heap hxD (by simp)
          have hx6 := h6.heap hxb (by simp)
          have hs6 := h6.heap hsb (by simp)
          have hb6 := h6.heap hbb (by simp)
          have H6 := Lib.hid (HU.out.fr0 h6)
          have hf6 := hfu.trans0 h6
          have HRL : Hid ((sortC l).length ≤ 65536) := by rw [sortC_len]; exact HL.out
          clear a0
          gi_wp2
          refine range_L (gf := 66) (lb := #[.pointer (some ⟨B6, 0, none⟩)]) rfl (enters_of Tryz.func66 (by kernel_rfl) rfl) 0 [] none (by simp)
            (seqSh 0 [] none _ B6 (sortC l) w6 hI6 (by have := HRL.out; omega) (by simp) (by simp) (by simp)) (fun _ => rfl)
            (fun _ _ => True) (fun _ _ _ => False) (fun _ _ _ _ _ _ _ => trivial) (fun _ _ _ _ _ h _ _ => h) trivial ?_ ?_ ?_
          · intro lp pre x1 X hl2 hj hk hlen
            gi_wp2
            refine ⟨(Fr.refl [] X).alloc _, ?_⟩
            intro X2 hcs hsz hr hj2 hk2
            have hat := hcs X.heap.size _ _ _ (heap_new X _)
            obtain ⟨A2, hAe⟩ : ∃ A2, X.heap.size = A2 := ⟨_, rfl⟩
            simp only [hAe] at hat ⊢
            have hF2 := hk2.fr_none
            have hab2 := hF2.heap hab6 (by simp)
            have a0 := cell_of hab2 0
            have b0 := cell_of hat 0
            have b1 := cell_of hat 1
            have hwh := Lib.hid (shWhat p tb mb b x1.1.1 l X2 (H6.out.fr0 hF2))
            have hk0 : ((((getS x1.1.1 l).getD cel0).k) == 2) = false := by simpa using HLIT.out x1.1.1
            generalize ((getS x1.1.1 l).getD cel0).k = kk at *
            gi_wp2_with fail
            refine ⟨trivial, ?_⟩
            gi_at_call 43
            refine (CallsIn.inRound lp (callsIn_wide.2 hwh.out)).mono ?_
            rintro e w7 ⟨rfl, h7⟩
            gi_wp2_with fail
            exact ⟨h7.keptT _ _, trivial⟩
          · intro D2 xs W2 hD2 hS2 _ hf3 hK3
            have hF3 := hf3.fr_none
            have hD7 := hF3.heap hD6 (by simp)
            have c0 := cell_of hD7 0
            gi_wp2_with fail
            refine ⟨by simp, .inl ⟨_, _, rfl, run_takeDeferred hK3, ?_⟩⟩
            have hfD : Fr [D2] W2 (W2.putObj D2 (.deferred none)) :=
              have g := grownBy_putObj' W2 D2 (.deferred none)
              ⟨g.os, g.tape, g.output, g.size, fun k _ hn => World.putObj_heap_other (by simpa using hn)⟩
            have z6 := hf6.size
            have lx := lt_of hx6
            have ls := lt_of hs6
            have lb := lt_of hb6
            exact ⟨_, results_tmp2 rfl _ _ _, x, st, sm, gm, dm, bm, rfl, by have := hfr.size; omega, by have := hfr.size; omega, hxst, hfD.heap (hF3.heap hx6 (by simp)) (by simp; omega), hfD.heap (hF3.heap hs6 (by simp)) (by simp; omega), hfD.heap (hF3.heap hb6 (by simp)) (by simp; omega), ((hA0.trans0 hf6).trans0 hF3).trans hfD (by simp; omega)⟩
          · intro D c pre W _ _ h _
            exact h.elim
end
section
open Go.RowKit Go.Shelf

theorem sortedNone (K bm : Nat) (w : World) (hK : w.heap[K]? = some (.cells #[.map (some bm)] 190 (0, 0))) (hb : w.heap[bm]? = some (.map #[] 0)) :
    Calls Tryz.prog 98 #[.func (.func 144) #[] #[.pointer (some ⟨K, 0, none⟩)], .func (.func 67) #[] #[]] w fun e w1 => e = .returned (.slice none 0 0) ∧ Fr [] w w1 := by
  have hM : MapIs w bm [] := ⟨#[], 0, hb, rfl, ⟨by simp, by simp⟩, by simp⟩
  have h := sortedS 144 _ (enters_of Tryz.func144 (by kernel_rfl) rfl) _ _ (fun ss (hs : ss.Perm _) => by have h2 := hs.length_eq; rw [List.length_map, List.length_nil] at h2; omega) 0 (by omega) w
    (keysStops_int 1 (by omega) K bm [] w (lt_of hK) ((cell_of hK 0).trans rfl) hM)
  refine h.mono ?_
  rintro e w1 ⟨v, ss, rfl, hs, _, hv, hbl⟩
  have hs0 : ss = [] := List.eq_nil_of_length_eq_zero (by have := (show ss.Perm _ from hs).length_eq; simpa using this)
  exact ⟨by rw [hv.2 hs0], Fr.of_below hbl []⟩

set_option maxRecDepth 100000 in
set_option maxHeartbeats 1600000 in
theorem schReport (x p k st sm gm dm bm : Nat) (o : Bool) (w : World) (h : w.heap[x]? = some (schO p k st gm dm bm o)) (hst : w.heap[st]? = some (stkO sm)) (hbm : w.heap[bm]? = some (.map #[] 0)) :
    Calls Tryz.prog 65 #[.pointer (some ⟨x, 0, none⟩)] w fun e w1 => e = .returned (.agg #[.int .i64 0, .int .i64 0, .slice none 0 0, .int .i64 0, .int .i64 0, .int .i64 0, .int .i64 0, .slice none 0 0]) ∧ Fr [] w w1 := by
  have c4 := cell_of h 4
  have hxl := lt_of h
  go_enter Tryz.func65, Tryz.ntmps65
  go_wp2_with fail
  have hA0 := (Fr.refl [] w).alloc (.cells #[.int .i64 0, .int .i64 0, .slice none 0 0, .int .i64 0, .int .i64 0, .int .i64 0, .int .i64 0, .slice none 0 0] 30)
  have hA := heap_new w (.cells #[.int .i64 0, .int .i64 0, .slice none 0 0, .int .i64 0, .int .i64 0, .int .i64 0, .int .i64 0, .slice none 0 0] 30)
  refine (frHeight0 st sm _ (hA0.heap hst (by simp))).mono ?_
  rintro e W ⟨rfl, h1⟩
  have hA := h1.heap hA (by simp)
  have hfW := hA0.trans0 h1
  have h := hfW.heap h (by simp)
  have hbm := hfW.heap hbm (by simp)
  have lb := lt_of hbm
  obtain ⟨A, hAe⟩ : ∃ A, w.heap.size = A := ⟨_, rfl⟩
  simp only [hAe] at hA hxl ⊢
  clear c4 h1 hA0
  have c10 := cell_of h 10
  have c11 := cell_of h 11
  have c12 := cell_of h 12
  have c7 := cell_of h 7
  have lx := lt_of h
  have nx : x ∉ [A] := by simp; omega
  have lA := lt_of hA
  have nbm : bm ∉ [A] := by
    simp only [List.mem_singleton]
    rintro rfl
    rw [hA] at hbm
    cases hbm
  go_wp2_with fail
  refine wp_facts (fun u => Fr [A] W u) (fun i u u' => Fr (if i = 21 then [A] else []) u u') [(0, .pointer (some ⟨x, 0, none⟩)), (2, .pointer (some ⟨A, 0, none⟩)), (4, .int .i64 0)] [[], [0], [1], [2], [3], [], [5], [6], [7], [], [9], [10], [11], [], [], [14], [15], [16], [17], [18], [4, 8, 12, 13, 19], [20]]
    (fun i σ u => match i with
      | 0 => σ 13 = .pointer (some ⟨x, 0, none⟩)
      | 1 => σ 14 = .pointer (some ⟨x, 0, none⟩)
      | 2 => σ 15 = .pointer (some ⟨x, 10, none⟩)
      | 3 => σ 16 = .slice none 0 0
      | 4 => σ 17 = .slice none 0 0
      | 5 => σ 18 = .pointer (some ⟨x, 0, none⟩)
      | 6 => σ 19 = .pointer (some ⟨x, 0, none⟩)
      | 7 => σ 20 = .pointer (some ⟨x, 11, none⟩)
      | 8 => σ 21 = .int .i64 0
      | 9 => σ 22 = .pointer (some ⟨x, 0, none⟩)
      | 10 => σ 23 = .pointer (some ⟨x, 0, none⟩)
      | 11 => σ 24 = .pointer (some ⟨x, 12, none⟩)
      | 12 => σ 25 = .int .i64 0
      | 13 => σ 26 = .int .i64 0
      | 14 => σ 27 = .pointer (some ⟨x, 0, none⟩)
      | 15 => σ 28 = .pointer (some ⟨x, 0, none⟩)
      | 16 => σ 29 = .pointer (some ⟨x, 7, none⟩)
      | 17 => σ 30 = .map (some bm)
      | 18 => ∃ K, σ 31 = .func (.func 144) #[] #[.pointer (some ⟨K, 0, none⟩)] ∧ u.heap[K]? = some (.cells #[.map (some bm)] 190 (0, 0)) ∧ W.heap.size ≤ K
      | 19 => σ 32 = .slice none 0 0
      | 20 => σ 33 = .agg #[.int .i64 0, .int .i64 0, .slice none 0 0, .int .i64 0, .int .i64 0, .int .i64 0, .int .i64 0, .slice none 0 0]
      | _ => u.heap[A]? = some (.cells #[.int .i64 0, .int .i64 0, .slice none 0 0, .int .i64 0, .int .i64 0, .int .i64 0, .int .i64 0, .slice none 0 0] 30 (0, 0))) (fun i u => i = 21 → Fr [] W u)
    (ds := [13, 14, 15, 16, 17, 18, 19, 20, 21, 22, 23, 24, 25, 26, 27, 28, 29, 30, 31, 32, 33]) (fr := ?fr2) (by kernel_rfl) ?hfr2 ⟨rfl, rfl, rfl, trivial⟩ rfl rfl (by kernel_rfl) (by kernel_rfl) (by decide) rfl (Fr.refl _ _).drew (fun _ _ _ => (Fr.refl _ _).drew) ⟨fun j hj i u u' hij _ hG hR hN e => (hN e).trans0 (by subst e; rwa [if_neg hij] at hR), fun i u u' hG hR => (by split at hR; exact hG.trans hR (fun q hq => .inl (by first | exact hq | exact List.mem_cons_of_mem _ hq | exact List.mem_cons.2 (.inl (List.mem_singleton.1 hq)))); exact hG.trans0 hR), ?_, ?_⟩ ?_
  case hfr2 =>
    intro σ
    simp only [layA, List.foldl_cons, List.foldl_nil, List.setIfInBounds_toArray, List.set_cons_zero, List.set_cons_succ]
    rfl
  · intro j hj i σ σ' u u' hij hs hd hG hR h
    have hj : j < 22 := hj
    rcases (by omega : j = 18 ∨ j = 21 ∨ j = 0 ∨ j = 1 ∨ j = 2 ∨ j = 3 ∨ j = 4 ∨ j = 5 ∨ j = 6 ∨ j = 7 ∨ j = 8 ∨ j = 9 ∨ j = 10 ∨ j = 11 ∨ j = 12 ∨ j = 13 ∨ j = 14 ∨ j = 15 ∨ j = 16 ∨ j = 17 ∨ j = 19 ∨ j = 20) with rfl | rfl | rfl | rfl | rfl | rfl | rfl | rfl | rfl | rfl | rfl | rfl | rfl | rfl | rfl | rfl | rfl | rfl | rfl | rfl | rfl | rfl
    · obtain ⟨K, h1, h2, h3⟩ := h; exact ⟨K, hs.trans h1, hR.heap h2 (by split <;> simp; omega), h3⟩
    · rw [if_neg hij] at hR; exact hR.heap h (by simp)
    all_goals exact hs.trans h
  · intro i hi
    have hi : i < 22 := hi
    rcases (by omega : (i = 0 ∨ i = 1 ∨ i = 2 ∨ i = 3 ∨ i = 5 ∨ i = 6 ∨ i = 7 ∨ i = 8 ∨ i = 9 ∨ i = 10 ∨ i = 11 ∨ i = 12 ∨ i = 13 ∨ i = 14 ∨ i = 15 ∨ i = 16 ∨ i = 17) ∨ (i = 4 ∨ i = 18 ∨ i = 19 ∨ i = 20 ∨ i = 21)) with hi | hi
    · rcases hi with rfl | rfl | rfl | rfl | rfl | rfl | rfl | rfl | rfl | rfl | rfl | rfl | rfl | rfl | rfl | rfl | rfl
      all_goals
        intro a u K hX hG hD hN hZ hK
        obtain ⟨hx0, hx2, hx4, -⟩ := hX
        try dsimp only [AllF, slotsA, List.getD_cons_zero, List.getD_cons_succ] at hD
        first | obtain ⟨e0, e1, e2, e3, -⟩ := hD | obtain ⟨e0, e1, e2, -⟩ := hD | obtain ⟨e0, e1, -⟩ := hD | obtain ⟨e0, -⟩ := hD | skip
        try replace e0 : _ = _ := e0
        try replace e1 : _ = _ := e1
        try replace e2 : _ = _ := e2
        try replace e3 : _ = _ := e3
        have m0 := (hG.cell (p := ⟨x, 10, none⟩) lx nx).trans c10
        have m1 := (hG.cell (p := ⟨x, 11, none⟩) lx nx).trans c11
        have m2 := (hG.cell (p := ⟨x, 12, none⟩) lx nx).trans c12
        have m3 := (hG.cell (p := ⟨x, 7, none⟩) lx nx).trans c7
        refine wpOp_step rfl (fun K' hK' => ?_)
        go_simp
        exact hK' _ _ (hK _ _ (Fr.refl _ _) rfl)
    · rcases hi with rfl | rfl | rfl | rfl | rfl
      all_goals
        intro a u K hX hG hD hN hZ hK
        obtain ⟨hx0, hx2, hx4, -⟩ := hX
        try dsimp only [AllF, slotsA, List.getD_cons_zero, List.getD_cons_succ] at hD
        have m0 := (hG.cell (p := ⟨x, 10, none⟩) lx nx).trans c10
        have m1 := (hG.cell (p := ⟨x, 11, none⟩) lx nx).trans c11
        have m2 := (hG.cell (p := ⟨x, 12, none⟩) lx nx).trans c12
        have m3 := (hG.cell (p := ⟨x, 7, none⟩) lx nx).trans c7
      · obtain ⟨d3, -⟩ := hD
        replace d3 : _ = _ := d3
        refine wpOp_step rfl (fun K' hK' => ?_)
        go_simp
        refine (cloneNil u).mono ?_
        rintro e u2 ⟨rfl, hF⟩
        exact hK' _ _ (hK _ _ hF rfl)
      · obtain ⟨d17, -⟩ := hD
        replace d17 : _ = _ := d17
        refine wpOp_step rfl (fun K' hK' => ?_)
        go_simp
        refine (keys_int (some bm) u).mono ?_
        rintro e u2 ⟨rfl, rfl⟩
        exact hK' _ _ (hK _ _ ((Fr.refl [] u).alloc _) ⟨_, rfl, heap_new u _, hG.size⟩)
      · obtain ⟨⟨K, d18, hKb, hKz⟩, -⟩ := hD
        replace d18 : _ = _ := d18
        refine wpOp_step rfl (fun K' hK' => ?_)
        go_simp
        refine (sortedNone K bm u hKb (hG.heap hbm nbm)).mono ?_
        rintro e u2 ⟨rfl, hF⟩
        exact hK' _ _ (hK _ _ hF rfl)
      · obtain ⟨d4, d8, d12, d13, d19, -⟩ := hD
        replace d4 : _ = _ := d4
        replace d8 : _ = _ := d8
        replace d12 : _ = _ := d12
        replace d13 : _ = _ := d13
        replace d19 : _ = _ := d19
        refine wpOp_step rfl (fun K' hK' => ?_)
        go_simp
        exact hK' _ _ (hK _ _ (Fr.refl _ _) rfl)
      · obtain ⟨d20, -⟩ := hD
        replace d20 : _ = _ := d20
        have hAu := (hN rfl).heap hA (by simp)
        obtain ⟨hSt, hn⟩ := setRow_fr (cells := #[.int .i64 0, .int .i64 0, .slice none 0 0, .int .i64 0, .int .i64 0, .int .i64 0, .int .i64 0, .slice none 0 0]) hAu
        refine wpOp_plain rfl rfl (wp_store_row 30 (.tmp 2) (.tmp 33) rfl A #[.int .i64 0, .int .i64 0, .slice none 0 0, .int .i64 0, .int .i64 0, .int .i64 0, .int .i64 0, .slice none 0 0] ((eval_tmp a 2).trans hx2) ((eval_tmp a 33).trans d20) 30 _ hAu (by kernel_rfl) rfl (by simp [Value.oneCell']) ?_)
        exact hK _ _ hSt hn
  · intro σ u hG h
    have h21 := h 21 (by decide)
    have hAu : u.heap[A]? = some (.cells #[.int .i64 0, .int .i64 0, .slice none 0 0, .int .i64 0, .int .i64 0, .int .i64 0, .int .i64 0, .slice none 0 0] 30 (0, 0)) := h21
    clear h h21
    go_wp2_with fail
    refine bodyPost_ret (v := .agg #[.int .i64 0, .int .i64 0, .slice none 0 0, .int .i64 0, .int .i64 0, .int .i64 0, .int .i64 0, .slice none 0 0]) (results_cell_row Tryz.results65 _ _ A 30 _ (0, 0) _ rfl hAu Tryz.underlying30 rfl (by kernel_rfl)) rfl ⟨rfl, hfW.trans hG (by simp; omega)⟩
end
section
open Go.RowKit Go.Shelf

/-- A workbook: its sheet, its store, which has no trace. -/
structure BookIs (w : World) (B p tb mb k ktb kmb : Nat) (dd b : Int) (l : List (Sp × Cel)) : Prop where
  bk : w.heap[B]? = some (.cells #[.pointer (some ⟨p, 0, none⟩), .pointer (some ⟨k, 0, none⟩), .int .i64 dd] 68 (0, 0))
  sh : ShB w p tb mb b l
  st : StIs w k ktb kmb dd []

theorem bookNew (d : Int) (w : World) (h0 : 0 ≤ d) (h1 : d ≤ 64) : Calls Tryz.prog 13 #[.int .i64 d] w fun e w1 => ∃ B p tb mb k ktb kmb, e = .returned (.tuple #[.pointer (some ⟨B, 0, none⟩), .int .i64 0]) ∧
    BookIs w1 B p tb mb k ktb kmb d 0 [] ∧ (w.heap.size ≤ B ∧ w.heap.size ≤ p ∧ w.heap.size ≤ tb ∧ w.heap.size ≤ mb ∧ w.heap.size ≤ k ∧ w.heap.size ≤ ktb ∧ w.heap.size ≤ kmb) ∧ Fr [] w w1 := by
  go_enter Tryz.func13, Tryz.ntmps13
  go_wp2_with fail
  refine (traceNew d _ h0 h1).mono ?_
  rintro e w1 ⟨k, ktb, kmb, rfl, g1, g2, g3, hS, f1⟩
  have HS := Lib.hid hS
  have z1 := f1.size
  clear hS
  go_wp2_with fail
  refine (newSh _).mono ?_
  rintro e w2 ⟨p, tb, mb, rfl, g4, g5, g6, hB, f2⟩
  have HB := Lib.hid hB
  have z2 := f2.size
  clear hB
  go_wp2
  go_ret2
  have hA := (Fr.refl [] w2).alloc (.cells #[.pointer (some ⟨p, 0, none⟩), .pointer (some ⟨k, 0, none⟩), .int .i64 d] 68)
  exact ⟨_, p, tb, mb, k, ktb, kmb, rfl, ⟨heap_new w2 _, HB.out.fr0 hA, (HS.out.fr0 f2).fr0 hA⟩, ⟨by omega, by omega, by omega, by omega, by omega, by omega, by omega⟩, (f1.trans0 f2).trans0 hA⟩

theorem bookWidth (B p tb mb k ktb kmb : Nat) (dd b : Int) (l : List (Sp × Cel)) (w : World) (h : BookIs w B p tb mb k ktb kmb dd b l) : Calls Tryz.prog 26 #[.pointer (some ⟨B, 0, none⟩)] w fun e w1 => e = .returned (.int .i64 dd) ∧ Fr [] w w1 := by
  have c2 := cell_of h.bk 2
  clear h
  go_enter Tryz.func26, Tryz.ntmps26
  go_wp2
  go_ret
  exact ⟨rfl, Fr.refl _ _⟩

theorem bookSheet (B p tb mb k ktb kmb : Nat) (dd b : Int) (l : List (Sp × Cel)) (w : World) (h : BookIs w B p tb mb k ktb kmb dd b l) (hl : l.length ≤ 65536) (hm : Mays l) : Calls Tryz.prog 18 #[.pointer (some ⟨B, 0, none⟩)] w fun e w1 => ∃ p2 tb2 mb2, e = .returned (.pointer (some ⟨p2, 0, none⟩)) ∧
    w.heap.size ≤ p2 ∧ w.heap.size ≤ tb2 ∧ w.heap.size ≤ mb2 ∧ ShB w1 p2 tb2 mb2 b (sortC l) ∧ Fr [] w w1 := by
  have c0 := cell_of h.bk 0
  have hcopy := Lib.hid (callsIn_wide.1 (shCopy_in p tb mb b l w h.sh hl hm))
  clear h hl hm
  go_enter Tryz.func18, Tryz.ntmps18
  go_wp2_with fail
  refine hcopy.out.mono ?_
  rintro e w1 ⟨p2, tb2, mb2, rfl, h1, h2, h3, h4, h5⟩
  have H4 := Lib.hid h4
  clear h4
  go_wp2
  go_ret
  exact ⟨p2, tb2, mb2, rfl, h1, h2, h3, H4.out, h5⟩
end
section
open Go.RowKit Go.Shelf

theorem Lits.what2 {l : List (Sp × Cel)} (h : Lits l) (s : Sp) : ((getS s l).getD cel0).k ≠ 2 := by
  cases hg : getS s l with
  | none => simp [cel0]
  | some y =>
    obtain ⟨t, e, _⟩ := h _ (getS_mem hg)
    simp only [Option.getD_some]
    rw [show y = litC t from e]
    simp [litC]
/-- A round over nothing, in the heap. -/
def RoundAt (n0 p k : Nat) (o : Bool) (x : Nat) (u : World) : Prop := ∃ st sm gm dm bm, n0 ≤ x ∧ n0 ≤ st ∧ x ≠ st ∧ u.heap[x]? = some (schO p k st gm dm bm o) ∧ u.heap[st]? = some (stkO sm) ∧ u.heap[bm]? = some (.map #[] 0)
theorem RoundAt.fr0 {n0 p k : Nat} {o : Bool} {x : Nat} {u u1 : World} (h : RoundAt n0 p k o x u) (hf : Fr [] u u1) : RoundAt n0 p k o x u1 := by
  obtain ⟨st, sm, gm, dm, bm, h1, h2, h3, h4, h5, h6⟩ := h
  exact ⟨st, sm, gm, dm, bm, h1, h2, h3, hf.heap h4 (by simp), hf.heap h5 (by simp), hf.heap h6 (by simp)⟩
/-- What a round over nothing reports. -/
abbrev repV : Value := .agg #[.int .i64 0, .int .i64 0, .slice none 0 0, .int .i64 0, .int .i64 0, .int .i64 0, .int .i64 0, .slice none 0 0]

set_option maxRecDepth 100000 in
set_option maxHeartbeats 3200000 in
theorem bookRound (B p tb mb k ktb kmb : Nat) (dd b : Int) (l : List (Sp × Cel)) (p0 tb0 mb0 : Nat) (b0 : Int) (l0 : List (Sp × Cel)) (w : World) (h : BookIs w B p tb mb k ktb kmb dd b l) (h0 : ShB w p0 tb0 mb0 b0 l0) (hl : l.length ≤ 65536) (hl0 : l0.length ≤ 65536) (hlit : Lits l) :
    Calls Tryz.prog 32 #[.pointer (some ⟨B, 0, none⟩), .pointer (some ⟨p0, 0, none⟩), .slice none 0 0] w fun e w1 => e = .returned repV ∧ Fr [] w w1 := by
  have HB := h.bk
  have lB := lt_of HB
  have H := Lib.hid h.sh
  have HS := Lib.hid h.st
  have H0 := Lib.hid h0
  have HL := Lib.hid hl
  have HL0 := Lib.hid hl0
  have HLIT := Lib.hid hlit.what2
  clear h h0 hl hl0 hlit
  go_enter Tryz.func32, Tryz.ntmps32
  go_wp2_with fail
  have hA0 := (Fr.refl [] w).alloc (.cells #[.int .i64 0, .int .i64 0, .slice none 0 0, .int .i64 0, .int .i64 0, .int .i64 0, .int .i64 0, .slice none 0 0] 30)
  have hA := heap_new w (.cells #[.int .i64 0, .int .i64 0, .slice none 0 0, .int .i64 0, .int .i64 0, .int .i64 0, .int .i64 0, .slice none 0 0] 30)
  have HB := hA0.heap HB (by simp)
  have H := Lib.hid (H.out.fr0 hA0)
  have HS := Lib.hid (HS.out.fr0 hA0)
  have H0 := Lib.hid (H0.out.fr0 hA0)
  obtain ⟨A, hAe⟩ : ∃ A, w.heap.size = A := ⟨_, rfl⟩
  simp only [hAe] at hA lB ⊢
  generalize w.alloc (.cells #[.int .i64 0, .int .i64 0, .slice none 0 0, .int .i64 0, .int .i64 0, .int .i64 0, .int .i64 0, .slice none 0 0] 30) = W at *
  have bk0 := cell_of HB 0
  have bk1 := cell_of HB 1
  have lBW := lt_of HB
  refine wp_facts (fun u => Fr [] W u) (RelS W.heap.size []) [(0, .pointer (some ⟨B, 0, none⟩)), (1, .pointer (some ⟨p0, 0, none⟩)), (2, .slice none 0 0)] [[], [0], [1], [2], [3], [], [5], [6], [7], [8], [], [10], [11], [12], [13], [], [14, 15], [], [4, 9, 16, 17], [18], [19], [19], [20], [21]]
    (fun i σ u => match i with
      | 0 => σ 10 = .pointer (some ⟨B, 0, none⟩)
      | 1 => σ 11 = .pointer (some ⟨B, 0, none⟩)
      | 2 => σ 12 = .pointer (some ⟨B, 0, none⟩)
      | 3 => σ 13 = .pointer (some ⟨B, 0, none⟩)
      | 4 => σ 14 = .pointer (some ⟨p, 0, none⟩)
      | 5 => σ 15 = .pointer (some ⟨B, 0, none⟩)
      | 6 => σ 16 = .pointer (some ⟨B, 0, none⟩)
      | 7 => σ 17 = .pointer (some ⟨B, 0, none⟩)
      | 8 => σ 18 = .pointer (some ⟨B, 1, none⟩)
      | 9 => σ 19 = .pointer (some ⟨k, 0, none⟩)
      | 10 => σ 20 = .pointer (some ⟨B, 0, none⟩)
      | 11 => σ 21 = .pointer (some ⟨B, 0, none⟩)
      | 12 => σ 22 = .pointer (some ⟨B, 0, none⟩)
      | 13 => σ 23 = .pointer (some ⟨B, 0, none⟩)
      | 14 => σ 24 = .pointer (some ⟨p, 0, none⟩)
      | 15 => σ 25 = .pointer (some ⟨p0, 0, none⟩)
      | 16 => ∃ v ss, σ 26 = v ∧ u.ownsRow 0 33 2 v (List.length ss) (List.flatMap spC ss) ∧ (ss.length : Int) ≤ 131072
      | 17 => σ 27 = .slice none 0 0
      | 18 => ∃ x, σ 28 = .tuple #[.pointer (some ⟨x, 0, none⟩), .int .i64 0] ∧ RoundAt W.heap.size p k false x u
      | 19 => ∃ x, σ 9 = .tuple #[.pointer (some ⟨x, 0, none⟩), .int .i64 0] ∧ RoundAt W.heap.size p k false x u
      | 20 => ∃ x, σ 29 = .pointer (some ⟨x, 0, none⟩) ∧ RoundAt W.heap.size p k false x u
      | 21 => σ 30 = .int .i64 0
      | 22 => ∃ x, σ 7 = .pointer (some ⟨x, 0, none⟩) ∧ RoundAt W.heap.size p k false x u
      | _ => σ 8 = .int .i64 0) (fun _ _ => True)
    (ds := [10, 11, 12, 13, 14, 15, 16, 17, 18, 19, 20, 21, 22, 23, 24, 25, 26, 27, 28, 9, 29, 30, 7, 8]) (fr := ?fr1) (by kernel_rfl) ?hfr1 ⟨rfl, rfl, rfl, trivial⟩ rfl rfl (by kernel_rfl) (by kernel_rfl) (by decide) rfl (Fr.refl _ _).drew (fun _ _ => trivial) ⟨fun _ _ _ _ _ _ _ _ _ _ => trivial, fun i u u' hG hR => hR.fr hG, ?_, ?_⟩ ?_
  case hfr1 =>
    intro σ
    simp only [layA, List.foldl_cons, List.foldl_nil, List.setIfInBounds_toArray, List.set_cons_zero, List.set_cons_succ]
    rfl
  · intro j hj i σ σ' u u' hij hs hd hG hR h
    have hj : j < 24 := hj
    rcases (by omega : j = 16 ∨ j = 18 ∨ j = 19 ∨ j = 20 ∨ j = 22 ∨ j = 0 ∨ j = 1 ∨ j = 2 ∨ j = 3 ∨ j = 4 ∨ j = 5 ∨ j = 6 ∨ j = 7 ∨ j = 8 ∨ j = 9 ∨ j = 10 ∨ j = 11 ∨ j = 12 ∨ j = 13 ∨ j = 14 ∨ j = 15 ∨ j = 17 ∨ j = 21 ∨ j = 23) with rfl | rfl | rfl | rfl | rfl | rfl | rfl | rfl | rfl | rfl | rfl | rfl | rfl | rfl | rfl | rfl | rfl | rfl | rfl | rfl | rfl | rfl | rfl | rfl
    · obtain ⟨v, ss, h1, h2, h3⟩ := h; exact ⟨v, ss, hs.trans h1, owns_fr h2 (hR.fr0 rfl) (fun _ _ => by simp), h3⟩
    · obtain ⟨x, h1, h2⟩ := h; exact ⟨x, hs.trans h1, h2.fr0 (hR.fr0 rfl)⟩
    · obtain ⟨x, h1, h2⟩ := h; exact ⟨x, hs.trans h1, h2.fr0 (hR.fr0 rfl)⟩
    · obtain ⟨x, h1, h2⟩ := h; exact ⟨x, hs.trans h1, h2.fr0 (hR.fr0 rfl)⟩
    · obtain ⟨x, h1, h2⟩ := h; exact ⟨x, hs.trans h1, h2.fr0 (hR.fr0 rfl)⟩
    all_goals exact hs.trans h
  · intro i hi
    have hi : i < 24 := hi
    rcases (by omega : (i = 0 ∨ i = 1 ∨ i = 2 ∨ i = 3 ∨ i = 4 ∨ i = 5 ∨ i = 6 ∨ i = 7 ∨ i = 8 ∨ i = 9 ∨ i = 10 ∨ i = 11 ∨ i = 12 ∨ i = 13 ∨ i = 14 ∨ i = 15 ∨ i = 17 ∨ i = 23) ∨ (i = 16 ∨ i = 18 ∨ i = 19 ∨ i = 20 ∨ i = 21 ∨ i = 22)) with hi | hi
    · rcases hi with rfl | rfl | rfl | rfl | rfl | rfl | rfl | rfl | rfl | rfl | rfl | rfl | rfl | rfl | rfl | rfl | rfl | rfl
      all_goals
        intro a u K hX hG hD hN hZ hK
        obtain ⟨hx0, hx1, hx2, -⟩ := hX
        try dsimp only [AllF, slotsA, List.getD_cons_zero, List.getD_cons_succ] at hD
        first | obtain ⟨e0, e1, e2, e3, -⟩ := hD | obtain ⟨e0, e1, e2, -⟩ := hD | obtain ⟨e0, e1, -⟩ := hD | obtain ⟨e0, -⟩ := hD | skip
        try replace e0 : _ = _ := e0
        try replace e1 : _ = _ := e1
        try replace e2 : _ = _ := e2
        try replace e3 : _ = _ := e3
        have hr := hG.rules.1
        refine wpOp_step rfl (fun K' hK' => ?_)
        go_simp
        exact hK' _ _ (hK _ _ (Fr.refl _ _) rfl)
    · rcases hi with rfl | rfl | rfl | rfl | rfl | rfl
      all_goals
        intro a u K hX hG hD hN hZ hK
        obtain ⟨hx0, hx1, hx2, -⟩ := hX
        try dsimp only [AllF, slotsA, List.getD_cons_zero, List.getD_cons_succ] at hD
        have hr := hG.rules.1
      · obtain ⟨d14, d15, -⟩ := hD
        replace d14 : _ = _ := d14
        replace d15 : _ = _ := d15
        refine wpOp_step rfl (fun K' hK' => ?_)
        go_simp
        refine (callsIn_wide.1 (shDiffer_in p tb mb b l p0 tb0 mb0 b0 l0 u (H.out.fr0 hG) (H0.out.fr0 hG) HL.out HL0.out)).mono ?_
        rintro e u2 ⟨v, ss, rfl, ho5, hn5, hF⟩
        exact hK' _ _ (hK _ _ hF ⟨v, ss, rfl, owns_mono ho5 (Nat.zero_le _), by omega⟩)
      · obtain ⟨d4, d9, ⟨v, ss, d16, ho, hn⟩, d17, -⟩ := hD
        replace d4 : _ = _ := d4
        replace d9 : _ = _ := d9
        replace d16 : _ = _ := d16
        replace d17 : _ = _ := d17
        refine wpOp_step rfl (fun K' hK' => ?_)
        go_simp
        refine (callsIn_wide.1 (schedNew_in p tb mb b l k ktb kmb dd v ss u (H.out.fr0 hG) HL.out HLIT.out (HS.out.fr0 hG) ho hn)).mono ?_
        rintro e u2 ⟨x, st, sm, gm, dm, bm, rfl, hx1, hx2, hx3, hx4, hx5, hx6, hF⟩
        exact hK' _ _ (hK _ _ hF ⟨x, rfl, st, sm, gm, dm, bm, Nat.le_trans hG.size hx1, Nat.le_trans hG.size hx2, hx3, hx4, hx5, hx6⟩)
      · obtain ⟨⟨x, d18, hx⟩, -⟩ := hD
        replace d18 : _ = _ := d18
        refine wpOp_step rfl (fun K' hK' => ?_)
        go_simp
        exact hK' _ _ (hK _ _ (Fr.refl _ _) ⟨x, rfl, hx⟩)
      · obtain ⟨⟨x, d19, hx⟩, -⟩ := hD
        replace d19 : _ = _ := d19
        refine wpOp_step rfl (fun K' hK' => ?_)
        go_simp
        exact hK' _ _ (hK _ _ (Fr.refl _ _) ⟨x, rfl, hx⟩)
      · obtain ⟨⟨x, d19, hx⟩, -⟩ := hD
        replace d19 : _ = _ := d19
        refine wpOp_step rfl (fun K' hK' => ?_)
        go_simp
        exact hK' _ _ (hK _ _ (Fr.refl _ _) rfl)
      · obtain ⟨⟨x, d20, hx⟩, -⟩ := hD
        replace d20 : _ = _ := d20
        refine wpOp_step rfl (fun K' hK' => ?_)
        go_simp
        exact hK' _ _ (hK _ _ (Fr.refl _ _) ⟨x, rfl, hx⟩)
  · intro σ u hG h
    obtain ⟨x, e7, hx⟩ := h 22 (by decide)
    have e8 : σ 8 = _ := h 23 (by decide)
    rw [e7, e8]
    clear h e7 e8
    obtain ⟨st, sm, gm, dm, bm, h1, h2, h3, h4, h5, h6⟩ := hx
    have hAu := hG.heap hA (by simp)
    have hGz := hA0.size
    have lAW := lt_of hA
    have hfu := hA0.trans0 hG
    go_wp2_with fail
    go_loopw [36] (fun _ wr => wr = u) (fun _ _ => 0)
    case atStart => rfl
    case round =>
      subst hrel
      go_wp2_with fail
      refine (schStep x p k st sm gm dm bm _ h4 h5 h3).mono ?_
      rintro e w5 ⟨rfl, hx5, hs5, hF5⟩
      have hb5 := hF5.heap h6 (by simp only [List.mem_singleton]; rintro rfl; rw [h4] at h6; cases h6)
      have hA5 := hF5.heap hAu (by simp; omega)
      go_wp2_with fail
      refine (schReport x p k st sm gm dm bm true _ hx5 hs5 hb5).mono ?_
      rintro e w6 ⟨rfl, hF6⟩
      have hA6 := hF6.heap hA5 (by simp)
      obtain ⟨hSt, hn⟩ := setRow_fr (cells := #[.int .i64 0, .int .i64 0, .slice none 0 0, .int .i64 0, .int .i64 0, .int .i64 0, .int .i64 0, .slice none 0 0]) hA6
      go_wp2_with (refine wpList_store_row rfl 30 _ _ rfl A #[.int .i64 0, .int .i64 0, .slice none 0 0, .int .i64 0, .int .i64 0, .int .i64 0, .int .i64 0, .slice none 0 0] rfl rfl 30 _ hA6 (by kernel_rfl) rfl (by simp [Value.oneCell']) ?_)
      refine bodyPost_ret (v := repV) (results_cell_row Tryz.results32 _ _ A 30 _ (0, 0) _ rfl hn Tryz.underlying30 rfl (by kernel_rfl)) rfl ⟨rfl, ?_⟩
      exact ((hfu.trans hF5 (by simp; omega)).trans0 hF6).trans hSt (by simp; omega)
end
end Go.Proofs.YtnmkhoebijodhaaGreatDoor
