/-
  keep.FromCsv at the two texts that begun reads.
  keep.FromCsv at the first text that begun reads.
-/
import Derived.Test.YtnmkhoebijodhaaGreatDoorCsvA
import Derived.Test.YtnmkhoebijodhaaGreatDoorKeepC
import Derived.Test.YtnmkhoebijodhaaGreatDoorSave
namespace Go.Proofs.YtnmkhoebijodhaaGreatDoor
section
open Go.RowKit Go.Shelf

set_option maxRecDepth 100000 in
set_option maxHeartbeats 25600000 in
theorem fromCsv2 (t : ByteArray) (ht : t = tx2) (w : World) : Calls Tryz.prog 25 #[.string t, .agg #[.int .i64 0, .int .i64 0]] w fun e w1 => e = .returned (.tuple #[.slice none 0 0, .int .i64 1, .int .i64 28]) ∧ Fr [] w w1 := by
  have hsz : t.size = 3 := by rw [ht]; rfl
  have hcell := Lib.hid (fun (r : Nat) (u : World) hu => ctCell3 r t ht u hu)
  clear ht
  go_enter Tryz.func25, Tryz.ntmps25
  go_wp2_with fail
  have hA := (Fr.refl [] w).alloc (.cells #[.int .i64 0, .int .i64 0] 33)
  have hb0 := heap_new w (.cells #[.int .i64 0, .int .i64 0] 33)
  obtain ⟨A, hAe⟩ : ∃ A, w.heap.size = A := ⟨_, rfl⟩
  simp only [hAe] at hb0 ⊢
  have HAE := Lib.hid hAe
  clear hAe
  refine (spotMay 0 0 _).mono ?_
  rintro e w1 ⟨rfl, h1⟩
  have hF1 := hA.trans0 h1
  have hb1 := h1.heap hb0 (by simp)
  have hm : mayS 0 0 = true := by decide
  simp only [hm]
  have a0 := cell_of hb1 0
  have a1 := cell_of hb1 1
  have lA := lt_of hb1
  clear hA hb0 h1 hm
  go_wp2_with fail
  have hb2 := ((((Fr.refl [] w1).alloc (.cells #[.string t, .int .i64 0] 131)).alloc (.cells #[.int .i64 0, .int .i64 0] 33))).heap hb1 (by simp)
  have hr2 := ((Fr.refl [] _).alloc (.cells #[.int .i64 0, .int .i64 0] 33)).heap (heap_new w1 (.cells #[.string t, .int .i64 0] 131)) (by simp)
  have hD2 := heap_new (w1.alloc (.cells #[.string t, .int .i64 0] 131)) (.cells #[.int .i64 0, .int .i64 0] 33)
  have hF2 : Fr [] w ((w1.alloc (.cells #[.string t, .int .i64 0] 131)).alloc (.cells #[.int .i64 0, .int .i64 0] 33)) := (hF1.alloc _).alloc _
  rw [World.size_alloc] at hD2
  have zA := hF1.size
  obtain ⟨r, hre⟩ : ∃ r, w1.heap.size = r := ⟨_, rfl⟩
  simp only [hre] at hr2 hD2 lA zA ⊢
  generalize (w1.alloc (.cells #[.string t, .int .i64 0] 131)).alloc (.cells #[.int .i64 0, .int .i64 0] 33) = W at *
  clear a0 a1 hb1 hF1
  have lwr := lt_of hr2
  go_loopg [7, 9] 1 (fun g v7 v9 wr => g = 1 ∧ v7 = .slice none 0 0 ∧ v9 = .pointer (some ⟨r + 1, 0, none⟩) ∧ wr = W)
  case atStart => exact ⟨rfl, rfl, rfl, rfl⟩
  case round =>
    obtain ⟨rfl, rfl, rfl, rfl⟩ := hrel
    have c1 := cell_of hr2 1
    have d0 := cell_of hD2 0
    have d1 := cell_of hD2 1
    go_wp2_with fail
    go_step3
    go_wp2_with fail
    go_step3
    go_wp2_with fail
    go_loopg [7] 1 (fun g v7 wz => g = 1 ∧ v7 = .slice none 0 0 ∧ wz = wr)
    case atStart => exact ⟨rfl, rfl, rfl⟩
    case round =>
      obtain ⟨rfl, rfl, hww⟩ := hrel
      subst hww
      go_wp2_with fail
      refine (spotMay 0 0 _).mono ?_
      rintro e w2 ⟨rfl, h2⟩
      have hm : mayS 0 0 = true := by decide
      simp only [hm]
      go_wp2_with fail
      refine (hcell.out r w2 (h2.heap hr2 (by simp))).mono ?_
      rintro e w3 ⟨rfl, hr3, h3⟩
      have c1 := cell_of hr3 1
      go_wp2_with fail
      go_quiet (fail)
      go_wp2_with fail
      rw [Exit.noGoto_ret]
      go_wp2
      refine bodyPost_ret (v := .tuple #[.slice none 0 0, .int .i64 1, .int .i64 28]) (by simp [results, Tryz.results25, go_sem]) rfl ?_
      exact ⟨rfl, ((hF2.trans0 h2).trans h3 (by have := HAE.out; simp; omega)).drewN _⟩
end
section
open Go.RowKit Go.Shelf

theorem kept_growG {B : Nat} {e : TypeId} {size : Nat} {w u w2 : World} {l : List Value} {v : Value} {n : Nat} (h : w.ownsRow B e size v n l) (hu : Fr [] w u) (hg : u.grownBy w2 v.ownBlock) : KeptT B [] (some e) w w2 :=
  (hu.keptT B _).trans (KeptT.grown hg (fun g hg => by
    rcases h.2 with ⟨h, _⟩ | ⟨g', cap, cur, h, hg', hh, _⟩
    · rw [h] at hg; cases hg
    · rw [h] at hg; cases hg
      exact ⟨hg', cur, _, hu.heap hh (by simp)⟩))

set_option maxRecDepth 100000 in
set_option maxHeartbeats 25600000 in
theorem fromCsv1 (t : ByteArray) (ht : t = tx1) (w : World) : Calls Tryz.prog 25 #[.string t, .agg #[.int .i64 1, .int .i64 1]] w fun e w1 => ∃ g c, e = .returned (.tuple #[.slice (some ⟨g, 0, none⟩) 2 c, .int .i64 0, .int .i64 0]) ∧ SlAt w1 (.slice (some ⟨g, 0, none⟩) 2 c) 11 2 (edC ((1, 1), ⟨#[97]⟩) ++ edC ((1, 2), ⟨#[98, 34, 99]⟩)) ∧ Fr [] w w1 := by
  have hsz : t.size = 9 := by rw [ht]; rfl
  have hcell1 := Lib.hid (fun (r : Nat) (u : World) hu => ctCell1 r t ht u hu)
  have hcell2 := Lib.hid (fun (r : Nat) (u : World) hu => ctCell2 r t ht u hu)
  obtain ⟨x1, hx1⟩ : ∃ x, t.extract 1 9 = x := ⟨_, rfl⟩
  obtain ⟨x8, hx8⟩ : ∃ x, t.extract 8 9 = x := ⟨_, rfl⟩
  have n1 : x1.toList.isEmpty = false := by rw [← hx1, ht, ByteArray.toList_eq]; decide
  have n8 : x8.toList.isEmpty = false := by rw [← hx8, ht, ByteArray.toList_eq]; decide
  have z1 : x1.size = 8 := by rw [← hx1, ht]; rfl
  have z8 : x8.size = 1 := by rw [← hx8, ht]; rfl
  have b1 : ((x1[0]'(by omega)).toNat : Int) = 44 := by subst hx1; subst ht; rfl
  have b8 : ((x8[0]'(by omega)).toNat : Int) = 10 := by subst hx8; subst ht; rfl
  obtain ⟨i0, hI, hz0, hz1, hz2⟩ := info_parts infoEd
  clear ht
  go_enter Tryz.func25, Tryz.ntmps25
  go_wp2_with fail
  have hA := (Fr.refl [] w).alloc (.cells #[.int .i64 1, .int .i64 1] 33)
  have hb0 := heap_new w (.cells #[.int .i64 1, .int .i64 1] 33)
  obtain ⟨A, hAe⟩ : ∃ A, w.heap.size = A := ⟨_, rfl⟩
  simp only [hAe] at hb0 ⊢
  have HAE := Lib.hid hAe
  clear hAe
  refine (spotMay 1 1 _).mono ?_
  rintro e w1 ⟨rfl, h1⟩
  have hF1 := hA.trans0 h1
  have hb1 := h1.heap hb0 (by simp)
  have hm : mayS 1 1 = true := by decide
  simp only [hm]
  have a0 := cell_of hb1 0
  have a1 := cell_of hb1 1
  have lA := lt_of hb1
  clear hA hb0 h1 hm
  go_wp2_with fail
  have hb2 := ((((Fr.refl [] w1).alloc (.cells #[.string t, .int .i64 0] 131)).alloc (.cells #[.int .i64 1, .int .i64 1] 33))).heap hb1 (by simp)
  have hr2 := ((Fr.refl [] _).alloc (.cells #[.int .i64 1, .int .i64 1] 33)).heap (heap_new w1 (.cells #[.string t, .int .i64 0] 131)) (by simp)
  have hD2 := heap_new (w1.alloc (.cells #[.string t, .int .i64 0] 131)) (.cells #[.int .i64 1, .int .i64 1] 33)
  have hF2 : Fr [] w ((w1.alloc (.cells #[.string t, .int .i64 0] 131)).alloc (.cells #[.int .i64 1, .int .i64 1] 33)) := (hF1.alloc _).alloc _
  rw [World.size_alloc] at hD2
  have zA := hF1.size
  obtain ⟨r, hre⟩ : ∃ r, w1.heap.size = r := ⟨_, rfl⟩
  simp only [hre] at hr2 hD2 lA zA ⊢
  generalize (w1.alloc (.cells #[.string t, .int .i64 0] 131)).alloc (.cells #[.int .i64 1, .int .i64 1] 33) = W at *
  clear a0 a1 hb1 hF1
  have lwr := lt_of hr2
  obtain ⟨AB, hABe⟩ : ∃ AB, W.heap.size = AB := ⟨_, rfl⟩
  have hrD : r ≠ r + 1 := by omega
  have lD := lt_of hD2
  go_loopg [7, 9] 1 (fun g v7 v9 wr => ∃ D, v9 = .pointer (some ⟨D, 0, none⟩) ∧ (g = 1 ∧ v7 = .slice none 0 0 ∧ D = r + 1 ∧ wr = W ∨ g = 0 ∧ wr.ownsRow AB 37 11 v7 2 (edC ((1, 1), ⟨#[97]⟩) ++ edC ((1, 2), ⟨#[98, 34, 99]⟩)) ∧ wr.heap[r]? = some (ctV t 9) ∧ Fr [] w wr))
  case atStart => exact ⟨_, rfl, .inl ⟨rfl, rfl, rfl, rfl⟩⟩
  case round =>
    obtain ⟨D, rfl, (⟨rfl, rfl, rfl, rfl⟩ | ⟨rfl, hrow, hr9, hF9⟩)⟩ := hrel
    · have c1 := cell_of hr2 1
      go_wp2_with fail
      go_step3
      go_wp2_with fail
      go_step3
      go_wp2_with fail
      clear c1
      obtain ⟨W, hW⟩ : ∃ W, W = wr := ⟨_, rfl⟩
      subst hW
      go_loopg [7] 2 (fun g v7 wz => ∃ (k : Nat) (a col : Int) (cs : List Value), wz.heap[r]? = some (ctV t a) ∧ wz.heap[r + 1]? = some (.cells #[.int .i64 1, .int .i64 col] 33 (0, 0)) ∧ wz.ownsRow AB 37 11 v7 k cs ∧ Fr [r, r + 1] W wz ∧
        (g = 2 ∧ k = 0 ∧ a = 0 ∧ col = 1 ∧ cs = [] ∨ g = 1 ∧ k = 1 ∧ a = 2 ∧ col = 2 ∧ cs = edC ((1, 1), ⟨#[97]⟩)))
      case atStart => exact ⟨0, 0, 1, [], hr2, hD2, World.ownsRow_nil _ _ _ _, Fr.refl _ _, .inl ⟨rfl, rfl, rfl, rfl, rfl⟩⟩
      case round =>
        obtain ⟨k, a, col, cs, hr, hD, hrow, hFz, (⟨rfl, rfl, rfl, rfl, rfl⟩ | ⟨rfl, rfl, rfl, rfl, rfl⟩)⟩ := hrel
        · obtain ⟨aa, cc, rfl, -, -⟩ := (own_sl hrow).form
          have d0 := cell_of hD 0
          have d1 := cell_of hD 1
          go_wp2_with fail
          refine (spotMay 1 1 _).mono ?_
          rintro e w2 ⟨rfl, h2⟩
          have hm : mayS 1 1 = true := by decide
          simp only [hm]
          have hr2' := h2.heap hr (by simp)
          have hD2' := h2.heap hD (by simp)
          have hrow2 := owns_fr hrow h2 (fun _ _ => by simp)
          clear d0 d1 hm
          go_wp2_with fail
          refine (hcell1.out r w2 hr2').mono ?_
          rintro e w3 ⟨rfl, hr3, h3⟩
          have hD3 := h3.heap hD2' (by simp)
          have hrow3 := owns_fr hrow2 h3 (fun g hg => by have := (hrow2.lt g hg).1; simp; omega)
          have d0 := cell_of hD3 0
          have d1 := cell_of hD3 1
          have z3 := h3.size
          have z2 := h2.size
          have zz := hFz.size
          go_wp2_with (at_builtin; refine wpList_append_own _ rfl _ _ 39 rfl AB 37 i0 _ 11 96 Tryz.underlying39 hI hz0 hz1 hz2 rfl (by decide) _ _ _ rfl (hrow3.alloc _) ⟨w3.heap.size, 0, none⟩ 1 1 (edC ((1, 1), ⟨#[97]⟩)) rfl rfl (news_of _ _ _) (by simp [Value.oneCell', edC]) (by unfold maxLen; omega) (by omega) (by simp; omega) ?_; intro v' w4 hown' hgrow _; obtain ⟨g4, cap4, rfl⟩ := ownsRow_succ (k := 0) hown'; have hk4 := kept_growG hrow3 ((Fr.refl [] w3).alloc _) hgrow; have hr4 := hk4.block _ _ hr3 (by simp) (.inl (by omega)); have hD4 := hk4.block _ _ hD3 (by simp) (.inl (by omega)); have c1 := cell_of hr4 1; have f1 := free_of hr4 1; have e0 := cell_of hD4 0; have e1 := cell_of hD4 1; have g1 := free_of hD4 1)
          have hF4 : Fr [r, r + 1] W w4 := ((((hFz.trans0 h2).trans h3 (by simp)).alloc _).grown hgrow (fun k hk => .inr (by have := (hrow3.lt k hk).1; omega)))
          go_roundg 1
          case measure => omega
          case rel =>
            have hs : Fr [r, r + 1] w4 ((w4.setCell ⟨r, 1, none⟩ (.int .i64 2)).setCell ⟨r + 1, 1, none⟩ (.int .i64 2)) := ((Fr.refl _ w4).setCell (.inl (by simp)) _).setCell (.inl (by simp)) _
            refine ⟨1, 2, 2, _, ((Fr.refl [r + 1] _).setCell (p := ⟨r + 1, 1, none⟩) (.inl (by simp)) _).heap (set_of hr4 1 _) (by simp), set_of (((Fr.refl [r] w4).setCell (p := ⟨r, 1, none⟩) (.inl (by simp)) _).heap hD4 (by simp)) 1 _, ?_, hF4.transS hs, .inr ⟨rfl, rfl, rfl, rfl, rfl⟩⟩
            exact owns_fr (by simpa using hown') hs (fun g hg => by have := (hown'.lt g hg).1; simp; omega)
        · obtain ⟨aa, cc, rfl, -, -⟩ := (own_sl hrow).form
          have d0 := cell_of hD 0
          have d1 := cell_of hD 1
          go_wp2_with fail
          refine (spotMay 1 2 _).mono ?_
          rintro e w2 ⟨rfl, h2⟩
          have hm : mayS 1 2 = true := by decide
          simp only [hm]
          have hr2' := h2.heap hr (by simp)
          have hD2' := h2.heap hD (by simp)
          have hrow2 := owns_fr hrow h2 (fun _ _ => by simp)
          clear d0 d1 hm
          go_wp2_with fail
          refine (hcell2.out r w2 hr2').mono ?_
          rintro e w3 ⟨rfl, hr3, h3⟩
          have hD3 := h3.heap hD2' (by simp)
          have hrow3 := owns_fr hrow2 h3 (fun g hg => by have := (hrow2.lt g hg).1; simp; omega)
          have d0 := cell_of hD3 0
          have d1 := cell_of hD3 1
          have z3 := h3.size
          have z2 := h2.size
          have zz := hFz.size
          go_wp2_with (at_builtin; refine wpList_append_own _ rfl _ _ 39 rfl AB 37 i0 _ 11 96 Tryz.underlying39 hI hz0 hz1 hz2 rfl (by decide) _ _ _ rfl (hrow3.alloc _) ⟨w3.heap.size, 0, none⟩ 1 1 (edC ((1, 2), ⟨#[98, 34, 99]⟩)) rfl rfl (news_of _ _ _) (by simp [Value.oneCell', edC]) (by unfold maxLen; omega) (by omega) (by simp; omega) ?_; intro v' w4 hown' hgrow _; obtain ⟨g4, cap4, rfl⟩ := ownsRow_succ (k := 1) hown'; have hk4 := kept_growG hrow3 ((Fr.refl [] w3).alloc _) hgrow; have hr4 := hk4.block _ _ hr3 (by simp) (.inl (by omega)); have hD4 := hk4.block _ _ hD3 (by simp) (.inl (by omega)); have c1 := cell_of hr4 1; have f1 := free_of hr4 1; have e0 := cell_of hD4 0; have e1 := cell_of hD4 1; have g1 := free_of hD4 1)
          have hF4 : Fr [r, r + 1] W w4 := ((((hFz.trans0 h2).trans h3 (by simp)).alloc _).grown hgrow (fun k hk => .inr (by have := (hrow3.lt k hk).1; omega)))
          have hbA := hF4.heap hb2 (by simp; omega)
          have a0 := cell_of hbA 0
          have a1 := cell_of hbA 1
          have lA4 := lt_of hbA
          have lD4 := lt_of hD4
          rw [Exit.noGoto_normal]
          go_wp2_with fail
          have hs : Fr [r] w4 ((w4.setCell ⟨r, 1, none⟩ (.int .i64 9)).alloc (.cells #[.int .i64 2, .int .i64 1] 33)) := ((Fr.refl _ w4).setCell (.inl (by simp)) _).alloc _
          go_roundg 0
          case measure => omega
          case rel =>
            refine ⟨_, rfl, .inr ⟨rfl, owns_fr hown' hs (fun g hg => by have := (hown'.lt g hg).1; simp; omega), ((Fr.refl [] _).alloc _).heap (set_of hr4 1 _) (by simp), hF2.trans (hF4.trans hs (by simp)) (by have := HAE.out; simp; omega)⟩⟩
    · obtain ⟨g, cap, rfl⟩ := ownsRow_succ hrow
      have c1 := cell_of hr9 1
      go_wp2_with fail
      refine bodyPost_ret (v := .tuple #[.slice (some ⟨g, 0, none⟩) 2 cap, .int .i64 0, .int .i64 0]) (by simp [results, Tryz.results25, go_sem]) rfl ?_
      exact ⟨g, cap, rfl, own_sl hrow, hF9⟩
end
end Go.Proofs.YtnmkhoebijodhaaGreatDoor
