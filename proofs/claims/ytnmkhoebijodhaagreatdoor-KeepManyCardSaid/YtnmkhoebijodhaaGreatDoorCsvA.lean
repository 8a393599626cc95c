/-
  keep's cutter at the two texts that begun reads: a line's end, a cell between quotes, a cell.
  keep's cutter: a cell, at the two texts that begun reads.
-/
import Derived.Test.YtnmkhoebijodhaaGreatDoorBld
import Derived.StillTailTactics
namespace Go.Proofs.YtnmkhoebijodhaaGreatDoor
section
open Go.RowKit Go.Shelf

abbrev ctV (s : ByteArray) (a : Int) : Obj := .cells #[.string s, .int .i64 a] 131 (0, 0)
def tx1 : ByteArray := ⟨#[97, 44, 34, 98, 34, 34, 99, 34, 10]⟩
def tx2 : ByteArray := ⟨#[97, 34, 98]⟩

set_option maxRecDepth 100000 in
set_option maxHeartbeats 1600000 in
theorem hasIn (s p : ByteArray) (w : World) (b : Bool) (h1 : (p.size : Int) ≤ (s.size : Int)) (h2 : ((s.extract 0 p.size).toList == p.toList) = b) :
    Calls Tryz.prog 157 #[.string s, .string p] w fun e w1 => e = .returned (.bool b) ∧ w1 = w := by
  go_enter Tryz.func157, Tryz.ntmps157
  go_wp2_with fail
  go_ret
  exact ⟨by rw [← h2]; rfl, rfl⟩
theorem hasPre (s p : ByteArray) (w : World) (b : Bool) (h1 : (p.size : Int) ≤ (s.size : Int)) (h2 : ((s.extract 0 p.size).toList == p.toList) = b) :
    Calls Tryz.prog 112 #[.string s, .string p] w fun e w1 => e = .returned (.bool b) ∧ w1 = w := by
  have hp := Lib.hid (hasIn s p w b h1 h2)
  clear h1 h2
  go_enter Tryz.func112, Tryz.ntmps112
  go_wp2_with fail
  refine hp.out.mono ?_
  rintro e w1 ⟨rfl, rfl⟩
  go_wp2
  go_ret
  exact ⟨rfl, rfl⟩

set_option maxRecDepth 100000 in
set_option maxHeartbeats 1600000 in
/-- The first text's line ends at its ninth byte. -/
theorem ctEnd (r : Nat) (s : ByteArray) (hs : s = tx1) (w : World) (h : w.heap[r]? = some (ctV s 8)) : Calls Tryz.prog 77 #[.pointer (some ⟨r, 0, none⟩)] w fun e w1 => e = .returned (.bool true) ∧ Fr [] w w1 := by
  have c0 := cell_of h 0
  have c1 := cell_of h 1
  have hsz : s.size = 9 := by rw [hs]; rfl
  have hp := Lib.hid (fun u : World => hasPre (s.extract 8 9) ⟨#[10]⟩ u true (by subst hs; decide) (by subst hs; rw [ByteArray.toList_eq, ByteArray.toList_eq]; decide))
  clear hs h
  go_enter Tryz.func77, Tryz.ntmps77
  go_wp2_with fail
  go_quiet ((go_at_call 112; exact Calls.quiet_of_same (hp.out _)))
  go_wp2_with fail
  go_ret
  exact ⟨rfl, (Fr.refl [] w).drewN nq⟩

theorem fr_below {S : List Nat} {W W8 u : World} (h : Fr S W W8) (hb : Below W.heap.size W8 u) : Fr S W u := ⟨hb.os.trans h.os, hb.tape.trans h.tape, hb.output.trans h.output, Nat.le_trans h.size hb.size, fun k hk hn => (hb.block k hk).trans (h.block k hk hn)⟩
/-- A byte written: what is there behind it. -/
theorem bt_step {B b r : Nat} {s : ByteArray} {a : Int} {W wr X w3 : World} (hk : KeptT B [b, r] (some 5) W wr) (hx : Fr [] wr X) (hk3 : KeptT B [b] (some 5) X w3) (hr : wr.heap[r]? = some (ctV s a)) (hrB : r < B) (hrb : r ≠ b) :
    w3.heap[r]? = some (ctV s a) ∧ KeptT B [b, r] (some 5) W w3 :=
  ⟨hk3.block _ _ (hx.heap hr (by simp)) (by simpa using hrb) (.inl hrB), (hk.trans ((hx.keptT B _).mono (Nat.le_refl _) (by simp))).trans (hk3.mono (Nat.le_refl _) (by simp))⟩
theorem bt_put {B b r : Nat} {s : ByteArray} {a a2 : Int} {l : List UInt8} {W w3 : World} (hr : w3.heap[r]? = some (ctV s a)) (hd : BdAt w3 B b l) (hk : KeptT B [b, r] (some 5) W w3) (hrB : r < B) (hrb : r ≠ b) :
    (w3.setCell ⟨r, 1, none⟩ (.int .i64 a2)).heap[r]? = some (ctV s a2) ∧ BdAt (w3.setCell ⟨r, 1, none⟩ (.int .i64 a2)) B b l ∧ KeptT B [b, r] (some 5) W (w3.setCell ⟨r, 1, none⟩ (.int .i64 a2)) :=
  ⟨set_of hr 1 _, hd.kept ((Fr.refl [r] w3).setCell (p := ⟨r, 1, none⟩) (.inl (by simp)) _) (by simp; omega) (by simp; omega), hk.trans (setCell_ku w3 (by simp) _)⟩

set_option maxRecDepth 100000 in
set_option maxHeartbeats 6400000 in
theorem ctBetween (r : Nat) (s : ByteArray) (hs : s = tx1) (w : World) (h : w.heap[r]? = some (ctV s 2)) : Calls Tryz.prog 76 #[.pointer (some ⟨r, 0, none⟩)] w fun e w1 => e = .returned (.tuple #[.string ⟨#[98, 34, 99]⟩, .bool true]) ∧ w1.heap[r]? = some (ctV s 8) ∧ Fr [r] w w1 := by
  have c1 := cell_of h 1
  have f1 := free_of h 1
  have hsz : s.size = 9 := by rw [hs]; rfl
  have b3 : ((s[3]'(by omega)).toNat : Int) = 98 := by subst hs; rfl
  have b4 : ((s[4]'(by omega)).toNat : Int) = 34 := by subst hs; rfl
  have b6 : ((s[6]'(by omega)).toNat : Int) = 99 := by subst hs; rfl
  have b8 : ((s[8]'(by omega)).toNat : Int) = 10 := by subst hs; rfl
  have b7 : ((s[7]'(by omega)).toNat : Int) = 34 := by subst hs; rfl
  have hp4 := Lib.hid (fun u : World => hasPre (s.extract 4 9) ⟨#[34, 34]⟩ u true (by subst hs; decide) (by subst hs; rw [ByteArray.toList_eq, ByteArray.toList_eq]; decide))
  have hp7 := Lib.hid (fun u : World => hasPre (s.extract 7 9) ⟨#[34, 34]⟩ u false (by subst hs; decide) (by subst hs; rw [ByteArray.toList_eq, ByteArray.toList_eq]; decide))
  have hend := Lib.hid (fun (u : World) hu => ctEnd r s hs u hu)
  have H := Lib.hid h
  clear hs h
  have lr := lt_of H.out
  go_enter Tryz.func76, Tryz.ntmps76
  go_wp2_with fail
  have hS1 : Fr [r] w (w.setCell ⟨r, 1, none⟩ (.int .i64 3)) := (Fr.refl [r] w).setCell (.inl (by simp)) _
  have hA := (Fr.refl [] (w.setCell ⟨r, 1, none⟩ (.int .i64 3))).alloc (.cells #[.pointer none, .slice none 0 0] 117)
  have hb1 := heap_new (w.setCell ⟨r, 1, none⟩ (.int .i64 3)) (.cells #[.pointer none, .slice none 0 0] 117)
  have hr1 := hA.heap (set_of H.out 1 (.int .i64 3)) (by simp)
  have hF1 := hS1.trans0 hA
  have hzs : (w.setCell ⟨r, 1, none⟩ (.int .i64 3)).heap.size = w.heap.size := by simp [World.setCell]
  rw [hzs] at hb1
  obtain ⟨b, hbe⟩ : ∃ b, w.heap.size = b := ⟨_, rfl⟩
  have HBE := Lib.hid hbe
  simp only [hbe] at hb1 lr ⊢
  have hbr : r ≠ b := by omega
  generalize (w.setCell ⟨r, 1, none⟩ (.int .i64 3)).alloc (.cells #[.pointer none, .slice none 0 0] 117) = W at *
  clear hS1 hA hzs hbe
  have lb := lt_of hb1
  obtain ⟨B, hBe⟩ : ∃ B, W.heap.size = B := ⟨_, rfl⟩
  have hbd : BdAt W B b [] := ⟨by omega, _, _, hb1, .inl rfl, World.ownsRow_nil _ _ _ _⟩
  go_loopg [] 4 (fun g wr => ∃ (a : Int) (l : List UInt8), ((g = 4 ∧ a = 3 ∧ l = []) ∨ (g = 3 ∧ a = 4 ∧ l = [98]) ∨ (g = 2 ∧ a = 6 ∧ l = [98, 34]) ∨ (g = 1 ∧ a = 7 ∧ l = [98, 34, 99])) ∧ wr.heap[r]? = some (ctV s a) ∧ BdAt wr B b l ∧ KeptT B [b, r] (some 5) W wr)
  case atStart => exact ⟨3, [], .inl ⟨rfl, rfl, rfl⟩, by simpa using hr1, hbd, KeptT.refl _ _ _ _⟩
  case round =>
    obtain ⟨a, l, hcase, hr, hd, hk⟩ := hrel
    have zk := hk.size
    rcases hcase with ⟨rfl, rfl, rfl⟩ | ⟨rfl, rfl, rfl⟩ | ⟨rfl, rfl, rfl⟩ | ⟨rfl, rfl, rfl⟩
    all_goals
      clear c1 f1 hr1 hb1 hbd
      have c0 := cell_of hr 0
      have c1 := cell_of hr 1
      have f1 := free_of hr 1
      have HR := Lib.hid hr
      have HD := Lib.hid hd
      have HK := Lib.hid hk
      have HF1 := Lib.hid hF1
      clear hr hd hk hF1
      go_wp2_with fail
      go_quiet (fail)
      revert nq
      intro n1
      go_wp2_with fail
      go_quiet (fail)
      revert nq
      intro n2
      have hX : Fr [] wr ((wr.drewN n1).drewN n2) := ((Fr.refl [] wr).drewN n1).drewN n2
      have hr2 := hX.heap HR.out (by simp)
      clear c0 c1 f1
      have c0 := cell_of hr2 0
      have c1 := cell_of hr2 1
      have f1 := free_of hr2 1
      have hd2 := HD.out.kept hX.drew (by simp) (by simp)
      have hzB := hX.size
      generalize (wr.drewN n1).drewN n2 = W2 at *
      clear hr2
    · go_wp2_with fail
      go_still_tail 9, (by kernel_rfl)
      change wpList _ _ _ _ _ W2.drew
      go_wp2_with (go_at_call 51; refine (bdByte B b [] 98 _ hd2 (by simp) (by simp; omega)).mono ?_; rintro e w3 ⟨rfl, hd3, hk3⟩; obtain ⟨hr3, hk4⟩ := bt_step HK.out hX.drew hk3 HR.out (by omega) hbr; have c1 := cell_of hr3 1; have f1 := free_of hr3 1)
      go_roundg 3
      case measure => omega
      case rel =>
        obtain ⟨g1, g2, g3⟩ := bt_put (a2 := 4) hr3 hd3 hk4 (by omega) hbr
        exact ⟨4, [98], .inr (.inl ⟨rfl, rfl, rfl⟩), g1, g2, g3⟩
    · go_wp2_with fail
      go_quiet ((go_at_call 112; exact Calls.quiet_of_same (hp4.out _)))
      revert nq
      intro n3
      have hX3 := hX.drewN n3
      have hd2 := HD.out.kept hX3 (by simp) (by simp)
      have hzB := hX3.size
      go_wp2_with fail
      refine (bdByte B b [98] 34 _ hd2 (by simp) (by omega)).mono ?_
      rintro e w3 ⟨rfl, hd3, hk3⟩
      obtain ⟨hr3, hk4⟩ := bt_step HK.out hX3 hk3 HR.out (by omega) hbr
      clear c0 c1 f1
      have c1 := cell_of hr3 1
      have f1 := free_of hr3 1
      go_wp2_with fail
      go_roundg 2
      case measure => omega
      case rel =>
        obtain ⟨g1, g2, g3⟩ := bt_put (a2 := 5) hr3 hd3 hk4 (by omega) hbr
        obtain ⟨g1, g2, g3⟩ := bt_put (a2 := 6) g1 g2 g3 (by omega) hbr
        exact ⟨6, [98, 34], .inr (.inr (.inl ⟨rfl, rfl, rfl⟩)), g1, g2, g3⟩
    · go_wp2_with fail
      go_still_tail 9, (by kernel_rfl)
      change wpList _ _ _ _ _ W2.drew
      go_wp2_with (go_at_call 51; refine (bdByte B b [98, 34] 99 _ hd2 (by simp) (by simp; omega)).mono ?_; rintro e w3 ⟨rfl, hd3, hk3⟩; obtain ⟨hr3, hk4⟩ := bt_step HK.out hX.drew hk3 HR.out (by omega) hbr; have c1 := cell_of hr3 1; have f1 := free_of hr3 1)
      go_roundg 1
      case measure => omega
      case rel =>
        obtain ⟨g1, g2, g3⟩ := bt_put (a2 := 7) hr3 hd3 hk4 (by omega) hbr
        exact ⟨7, [98, 34, 99], .inr (.inr (.inr ⟨rfl, rfl, rfl⟩)), g1, g2, g3⟩
    · go_wp2_with fail
      go_quiet ((go_at_call 112; exact Calls.quiet_of_same (hp7.out _)))
      revert nq
      intro n3
      have hX3 := hX.drewN n3
      have hd2 := HD.out.kept hX3 (by simp) (by simp)
      have hr3 := hX3.heap HR.out (by simp)
      have hk3 := HK.out.trans ((hX3.keptT B (some 5)).mono (S' := [b, r]) (Nat.le_refl _) (by simp))
      go_wp2_with fail
      obtain ⟨hr8, hd8, hk8⟩ := bt_put (a2 := 8) hr3 hd2 hk3 (by omega) hbr
      generalize (W2.drewN n3).setCell ⟨r, 1, none⟩ (.int .i64 8) = W8 at *
      have lrB : r < B := by omega
      have hBW : B ≤ W8.heap.size := by have := hk8.size; omega
      have hstr : Hid (∀ u, Fr [] W8 u → Calls Tryz.prog 53 #[.pointer (some ⟨b, 0, none⟩)] u fun e w1 => e = .returned (.string ⟨#[98, 34, 99]⟩) ∧ Below B u w1) := fun u hu => (bdString B b [98, 34, 99] u (hd8.kept hu (by simp) (by simp)) (by simp)).mono fun e w1 h => ⟨h.1, h.2.1⟩
      clear c0 c1 f1 hr3 hd2 hX3 hX hzB hd8 HR HD HK hk3
      refine wp_facts (fun u => Below B W8 u) (fun i u u' => if i = 0 then Below B u u' else Fr [] u u') [(0, .pointer (some ⟨r, 0, none⟩)), (5, .pointer (some ⟨b, 0, none⟩))] [[], [], [1], [2], [3], [], [5], [6], [7], [8], [4, 9], [10], [11], [12, 11], [13, 11], [14, 11], [11], [16, 11], [17, 11], [18, 11], [15, 19, 11], [20, 11], [11, 21], [22], [23], [24, 23], [23, 25], [0], [26]]
        (fun i σ u => match i with
          | 0 => σ 72 = .string ⟨#[98, 34, 99]⟩
          | 1 => σ 73 = .pointer (some ⟨r, 0, none⟩)
          | 2 => σ 74 = .pointer (some ⟨r, 0, none⟩)
          | 3 => σ 75 = .pointer (some ⟨r, 1, none⟩)
          | 4 => σ 76 = .int .i64 8
          | 5 => σ 77 = .pointer (some ⟨r, 0, none⟩)
          | 6 => σ 78 = .pointer (some ⟨r, 0, none⟩)
          | 7 => σ 79 = .pointer (some ⟨r, 0, none⟩)
          | 8 => σ 80 = .string s
          | 9 => σ 81 = .int .i64 9
          | 10 => σ 82 = .bool false
          | 11 => σ 83 = .bool false
          | 12 => σ 84 = .pointer (some ⟨r, 0, none⟩)
          | 13 => σ 85 = .pointer (some ⟨r, 0, none⟩)
          | 14 => σ 86 = .pointer (some ⟨r, 0, none⟩)
          | 15 => σ 87 = .string s
          | 16 => σ 88 = .pointer (some ⟨r, 0, none⟩)
          | 17 => σ 89 = .pointer (some ⟨r, 0, none⟩)
          | 18 => σ 90 = .pointer (some ⟨r, 1, none⟩)
          | 19 => σ 91 = .int .i64 8
          | 20 => σ 92 = .int .u8 10
          | 21 => σ 93 = .bool false
          | 22 => σ 94 = .bool false
          | 23 => σ 95 = .bool false
          | 24 => σ 96 = .pointer (some ⟨r, 0, none⟩)
          | 25 => σ 97 = .bool true
          | 26 => σ 98 = .bool true
          | 27 => σ 2 = .string ⟨#[98, 34, 99]⟩
          | _ => σ 3 = .bool true) (fun i u => i = 0 → Fr [] W8 u)
        (ds := [72, 73, 74, 75, 76, 77, 78, 79, 80, 81, 82, 83, 84, 85, 86, 87, 88, 89, 90, 91, 92, 93, 94, 95, 96, 97, 98, 2, 3]) (fr := ?fr10) (by kernel_rfl) ?hfr10 ⟨rfl, rfl, trivial⟩ rfl rfl (by kernel_rfl) (by kernel_rfl) (by decide) rfl (Below.refl _ _).drew (fun _ _ _ => (Fr.refl _ _).drew) ⟨fun j hj i u u' hij _ hG hR hN e => (hN e).trans0 (by subst e; rwa [if_neg hij] at hR), fun i u u' hG hR => (by split at hR; exact hG.trans hR; exact hG.trans (hR.below.mono (Nat.le_trans hBW hG.size))), ?_, ?_⟩ ?_
      case hfr10 =>
        intro σ
        simp only [layA, List.foldl_cons, List.foldl_nil, List.setIfInBounds_toArray, List.set_cons_zero, List.set_cons_succ]
        rfl
      · intro j hj i σ σ' u u' hij hs hd hG hR h
        have hj : j < 29 := hj
        rcases (by omega : j = 0 ∨ j = 1 ∨ j = 2 ∨ j = 3 ∨ j = 4 ∨ j = 5 ∨ j = 6 ∨ j = 7 ∨ j = 8 ∨ j = 9 ∨ j = 10 ∨ j = 11 ∨ j = 12 ∨ j = 13 ∨ j = 14 ∨ j = 15 ∨ j = 16 ∨ j = 17 ∨ j = 18 ∨ j = 19 ∨ j = 20 ∨ j = 21 ∨ j = 22 ∨ j = 23 ∨ j = 24 ∨ j = 25 ∨ j = 26 ∨ j = 27 ∨ j = 28) with rfl | rfl | rfl | rfl | rfl | rfl | rfl | rfl | rfl | rfl | rfl | rfl | rfl | rfl | rfl | rfl | rfl | rfl | rfl | rfl | rfl | rfl | rfl | rfl | rfl | rfl | rfl | rfl | rfl
        all_goals exact hs.trans h
      · intro i hi
        have hi : i < 29 := hi
        rcases (by omega : (i = 1 ∨ i = 2 ∨ i = 3 ∨ i = 4 ∨ i = 5 ∨ i = 6 ∨ i = 7 ∨ i = 8 ∨ i = 9 ∨ i = 10 ∨ i = 11 ∨ i = 22 ∨ i = 23 ∨ i = 26 ∨ i = 27 ∨ i = 28) ∨ (i = 0 ∨ i = 12 ∨ i = 13 ∨ i = 14 ∨ i = 15 ∨ i = 16 ∨ i = 17 ∨ i = 18 ∨ i = 19 ∨ i = 20 ∨ i = 21 ∨ i = 24 ∨ i = 25)) with hi | hi
        · rcases hi with rfl | rfl | rfl | rfl | rfl | rfl | rfl | rfl | rfl | rfl | rfl | rfl | rfl | rfl | rfl | rfl
          all_goals
            intro a u K hX hG hD hN hZ hK
            obtain ⟨hx0, hx5, -⟩ := hX
            try dsimp only [AllF, slotsA, List.getD_cons_zero, List.getD_cons_succ] at hD
            first | obtain ⟨e0, e1, e2, e3, -⟩ := hD | obtain ⟨e0, e1, e2, -⟩ := hD | obtain ⟨e0, e1, -⟩ := hD | obtain ⟨e0, -⟩ := hD | skip
            try replace e0 : _ = _ := e0
            try replace e1 : _ = _ := e1
            try replace e2 : _ = _ := e2
            try replace e3 : _ = _ := e3
            have hr5 := (hG.block _ lrB).trans hr8
            have m0 := cell_of hr5 0
            have m1 := cell_of hr5 1
            refine wpOp_step rfl (fun K' hK' => ?_)
            go_simp
            exact hK' _ _ (hK _ _ (Fr.refl _ _) rfl)
        · rcases hi with rfl | rfl | rfl | rfl | rfl | rfl | rfl | rfl | rfl | rfl | rfl | rfl | rfl
          all_goals
            intro a u K hX hG hD hN hZ hK
            obtain ⟨hx0, hx5, -⟩ := hX
            try dsimp only [AllF, slotsA, List.getD_cons_zero, List.getD_cons_succ] at hD
            have hr5 := (hG.block _ lrB).trans hr8
            have m0 := cell_of hr5 0
            have m1 := cell_of hr5 1
          · refine wpOp_step rfl (fun K' hK' => ?_)
            go_simp
            refine (hstr.out u (hN rfl)).mono ?_
            rintro e u2 ⟨rfl, hF⟩
            exact hK' _ _ (hK _ _ hF rfl)
          · obtain ⟨d11, -⟩ := hD
            replace d11 : _ = _ := d11
            refine wpOp_step rfl (fun K' hK' => ?_)
            rw [if_pos (wanted_on rfl rfl d11)]
            go_simp
            exact hK' _ _ (hK _ _ (Fr.refl _ _) rfl)
          · obtain ⟨d12, d11, -⟩ := hD
            replace d12 : _ = _ := d12
            replace d11 : _ = _ := d11
            refine wpOp_step rfl (fun K' hK' => ?_)
            rw [if_pos (wanted_on rfl rfl d11)]
            go_simp
            exact hK' _ _ (hK _ _ (Fr.refl _ _) rfl)
          · obtain ⟨d13, d11, -⟩ := hD
            replace d13 : _ = _ := d13
            replace d11 : _ = _ := d11
            refine wpOp_step rfl (fun K' hK' => ?_)
            rw [if_pos (wanted_on rfl rfl d11)]
            go_simp
            exact hK' _ _ (hK _ _ (Fr.refl _ _) rfl)
          · obtain ⟨d14, d11, -⟩ := hD
            replace d14 : _ = _ := d14
            replace d11 : _ = _ := d11
            refine wpOp_step rfl (fun K' hK' => ?_)
            rw [if_pos (wanted_on rfl rfl d11)]
            go_simp
            exact hK' _ _ (hK _ _ (Fr.refl _ _) rfl)
          · obtain ⟨d11, -⟩ := hD
            replace d11 : _ = _ := d11
            refine wpOp_step rfl (fun K' hK' => ?_)
            rw [if_pos (wanted_on rfl rfl d11)]
            go_simp
            exact hK' _ _ (hK _ _ (Fr.refl _ _) rfl)
          · obtain ⟨d16, d11, -⟩ := hD
            replace d16 : _ = _ := d16
            replace d11 : _ = _ := d11
            refine wpOp_step rfl (fun K' hK' => ?_)
            rw [if_pos (wanted_on rfl rfl d11)]
            go_simp
            exact hK' _ _ (hK _ _ (Fr.refl _ _) rfl)
          · obtain ⟨d17, d11, -⟩ := hD
            replace d17 : _ = _ := d17
            replace d11 : _ = _ := d11
            refine wpOp_step rfl (fun K' hK' => ?_)
            rw [if_pos (wanted_on rfl rfl d11)]
            go_simp
            exact hK' _ _ (hK _ _ (Fr.refl _ _) rfl)
          · obtain ⟨d18, d11, -⟩ := hD
            replace d18 : _ = _ := d18
            replace d11 : _ = _ := d11
            refine wpOp_step rfl (fun K' hK' => ?_)
            rw [if_pos (wanted_on rfl rfl d11)]
            go_simp
            exact hK' _ _ (hK _ _ (Fr.refl _ _) rfl)
          · obtain ⟨d15, d19, d11, -⟩ := hD
            replace d15 : _ = _ := d15
            replace d19 : _ = _ := d19
            replace d11 : _ = _ := d11
            refine wpOp_step rfl (fun K' hK' => ?_)
            rw [if_pos (wanted_on rfl rfl d11)]
            go_simp
            exact hK' _ _ (hK _ _ (Fr.refl _ _) rfl)
          · obtain ⟨d20, d11, -⟩ := hD
            replace d20 : _ = _ := d20
            replace d11 : _ = _ := d11
            refine wpOp_step rfl (fun K' hK' => ?_)
            rw [if_pos (wanted_on rfl rfl d11)]
            go_simp
            exact hK' _ _ (hK _ _ (Fr.refl _ _) rfl)
          · obtain ⟨d23, -⟩ := hD
            replace d23 : _ = _ := d23
            refine wpOp_step rfl (fun K' hK' => ?_)
            rw [if_pos (wanted_on rfl rfl d23)]
            go_simp
            exact hK' _ _ (hK _ _ (Fr.refl _ _) rfl)
          · obtain ⟨d24, d23, -⟩ := hD
            replace d24 : _ = _ := d24
            replace d23 : _ = _ := d23
            refine wpOp_step rfl (fun K' hK' => ?_)
            rw [if_pos (wanted_on rfl rfl d23)]
            go_simp
            refine (hend.out u hr5).mono ?_
            rintro e u2 ⟨rfl, hF⟩
            exact hK' _ _ (hK _ _ hF rfl)
      · intro σ u hG h
        have e2 : σ 2 = .string ⟨#[98, 34, 99]⟩ := h 27 (by decide)
        have e3 : σ 3 = .bool true := h 28 (by decide)
        clear h
        go_wp2
        go_ret2
        refine ⟨by show Ending.returned (.tuple #[σ 2, σ 3]) = _; rw [e2, e3], (hG.block _ lrB).trans hr8, ?_⟩
        rw [← hBe] at hk8 hG
        exact HF1.out.trans (fr_below hk8.fr hG) (by have := HBE.out; simp; omega)
end
section
open Go.RowKit Go.Shelf

set_option maxRecDepth 100000 in
set_option maxHeartbeats 6400000 in
/-- The first text's first cell. -/
theorem ctCell1 (r : Nat) (s : ByteArray) (hs : s = tx1) (w : World) (h : w.heap[r]? = some (ctV s 0)) : Calls Tryz.prog 55 #[.pointer (some ⟨r, 0, none⟩)] w fun e w1 => e = .returned (.tuple #[.string ⟨#[97]⟩, .bool true]) ∧ w1.heap[r]? = some (ctV s 1) ∧ Fr [r] w w1 := by
  have c0 := cell_of h 0
  have c1 := cell_of h 1
  have hsz : s.size = 9 := by rw [hs]; rfl
  have b0 : ((s[0]'(by omega)).toNat : Int) = 97 := by subst hs; rfl
  have b1 : ((s[1]'(by omega)).toNat : Int) = 44 := by subst hs; rfl
  have hex : s.extract 0 1 = ⟨#[97]⟩ := by subst hs; decide
  have HEX := Lib.hid hex
  have H := Lib.hid h
  clear hs h hex
  go_enter Tryz.func55, Tryz.ntmps55
  go_wp2_with fail
  go_quiet (fail)
  go_wp2_with fail
  go_loopg [] 2 (fun g wr => ∃ a : Int, ((g = 2 ∧ a = 0) ∨ (g = 1 ∧ a = 1)) ∧ wr.heap[r]? = some (ctV s a) ∧ Fr [r] w wr)
  case atStart => exact ⟨0, .inl ⟨rfl, rfl⟩, H.out, (Fr.refl [r] w).drewN _⟩
  case round =>
    obtain ⟨a, (⟨rfl, rfl⟩ | ⟨rfl, rfl⟩), hr, hF⟩ := hrel
    all_goals
      clear c0 c1
      have c0 := cell_of hr 0
      have c1 := cell_of hr 1
      have f1 := free_of hr 1
      go_wp2_with fail
      go_quiet (fail)
      go_wp2_with fail
      go_quiet (fail)
      go_wp2_with fail
    · go_roundg 1
      case measure => omega
      case rel => exact ⟨1, .inr ⟨rfl, rfl⟩, set_of (show (wr.drewN _).heap[r]? = some (ctV s 0) from hr) 1 _, (hF.drewN _).setCell (.inl (by simp)) _⟩
    · go_quiet (fail)
      go_wp2_with fail
      go_ret2
      exact ⟨by show Ending.returned (.tuple #[.string (s.extract 0 1), .bool true]) = _; rw [HEX.out], hr, (hF.drewN _).drewN _⟩

set_option maxRecDepth 100000 in
set_option maxHeartbeats 6400000 in
/-- The first text's second cell. -/
theorem ctCell2 (r : Nat) (s : ByteArray) (hs : s = tx1) (w : World) (h : w.heap[r]? = some (ctV s 2)) : Calls Tryz.prog 55 #[.pointer (some ⟨r, 0, none⟩)] w fun e w1 => e = .returned (.tuple #[.string ⟨#[98, 34, 99]⟩, .bool true]) ∧ w1.heap[r]? = some (ctV s 8) ∧ Fr [r] w w1 := by
  have c0 := cell_of h 0
  have c1 := cell_of h 1
  have hsz : s.size = 9 := by rw [hs]; rfl
  have b2 : ((s[2]'(by omega)).toNat : Int) = 34 := by subst hs; rfl
  have hbt := Lib.hid (fun (u : World) (hu : Fr [] w u) => ctBetween r s hs u (hu.heap h (by simp)))
  clear hs h
  go_enter Tryz.func55, Tryz.ntmps55
  go_wp2_with fail
  go_quiet (fail)
  go_wp2_with fail
  refine (hbt.out _ ((Fr.refl [] w).drewN _)).mono ?_
  rintro e w1 ⟨rfl, hr1, h1⟩
  go_wp2_with fail
  go_ret2
  exact ⟨rfl, hr1, ((Fr.refl [r] w).drewN _).transS h1⟩

set_option maxRecDepth 100000 in
set_option maxHeartbeats 6400000 in
/-- The second text: a quote within a cell. -/
theorem ctCell3 (r : Nat) (s : ByteArray) (hs : s = tx2) (w : World) (h : w.heap[r]? = some (ctV s 0)) : Calls Tryz.prog 55 #[.pointer (some ⟨r, 0, none⟩)] w fun e w1 => e = .returned (.tuple #[.string ⟨#[]⟩, .bool false]) ∧ w1.heap[r]? = some (ctV s 1) ∧ Fr [r] w w1 := by
  have c0 := cell_of h 0
  have c1 := cell_of h 1
  have hsz : s.size = 3 := by rw [hs]; rfl
  have b0 : ((s[0]'(by omega)).toNat : Int) = 97 := by subst hs; rfl
  have b1 : ((s[1]'(by omega)).toNat : Int) = 34 := by subst hs; rfl
  have H := Lib.hid h
  clear hs h
  go_enter Tryz.func55, Tryz.ntmps55
  go_wp2_with fail
  go_quiet (fail)
  go_wp2_with fail
  go_loopg [] 2 (fun g wr => ∃ a : Int, ((g = 2 ∧ a = 0) ∨ (g = 1 ∧ a = 1)) ∧ wr.heap[r]? = some (ctV s a) ∧ Fr [r] w wr)
  case atStart => exact ⟨0, .inl ⟨rfl, rfl⟩, H.out, (Fr.refl [r] w).drewN _⟩
  case round =>
    obtain ⟨a, (⟨rfl, rfl⟩ | ⟨rfl, rfl⟩), hr, hF⟩ := hrel
    all_goals
      clear c0 c1
      have c0 := cell_of hr 0
      have c1 := cell_of hr 1
      have f1 := free_of hr 1
      go_wp2_with fail
      go_quiet (fail)
      go_wp2_with fail
      go_quiet (fail)
      go_wp2_with fail
    · go_roundg 1
      case measure => omega
      case rel => exact ⟨1, .inr ⟨rfl, rfl⟩, set_of (show (wr.drewN _).heap[r]? = some (ctV s 0) from hr) 1 _, (hF.drewN _).setCell (.inl (by simp)) _⟩
    · go_ret2
      exact ⟨rfl, hr, hF.drewN _⟩
end
end Go.Proofs.YtnmkhoebijodhaaGreatDoor
