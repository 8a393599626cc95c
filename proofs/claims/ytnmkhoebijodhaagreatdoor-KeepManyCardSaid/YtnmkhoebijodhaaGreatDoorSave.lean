/-
  book.Apply at edits that set literals; book.Become.
  book.Become, where no cell is a formula.
  keep.Save, where no cell is a formula.
-/
import Derived.Test.YtnmkhoebijodhaaGreatDoorBookB
import Derived.Test.YtnmkhoebijodhaaGreatDoorShAp
import Derived.Test.YtnmkhoebijodhaaGreatDoorShD
import Derived.Test.YtnmkhoebijodhaaGreatDoorKeepN
import Derived.Test.YtnmkhoebijodhaaGreatDoorKeepC
import Derived.Lib.AppendStr
import Derived.Lib.SlBytesConst
namespace Go.Proofs.YtnmkhoebijodhaaGreatDoor
section
open Go.RowKit Go.Shelf

/-- The sheet is put back where a batch was refused; it was done: nothing. -/
theorem bookApplyD (db ob bb : Nat) (u : FrameMode) (w : World) (h : w.cell? ⟨db, 0, none⟩ = some (.bool true)) : CallsD Tryz.prog 29 #[.pointer (some ⟨db, 0, none⟩), .pointer (some ⟨ob, 0, none⟩), .pointer (some ⟨bb, 0, none⟩)] u w fun e u' w' => u' = u ∧ (e = .returned (.tuple #[]) ∧ w' = w) := by
  go_enter_d Tryz.func29, Tryz.ntmps29
  go_wp2
  go_end0
  exact ⟨rfl, rfl⟩

/-- A workbook's block is none of its sheet's and of its store's. -/
theorem ShB.neB {w : World} {p tb mb B : Nat} {b : Int} {l : List (Sp × Cel)} {c : Array Value} (h : ShB w p tb mb b l) (hB : w.heap[B]? = some (.cells c 68 (0, 0))) : p ≠ B ∧ tb ≠ B ∧ mb ≠ B := by
  refine ⟨?_, ?_, ?_⟩
  · rintro rfl
    have h1 := h.sh
    rw [hB] at h1
    injection h1 with h1
    injection h1 with h2 h3 h4
    cases h3
  · rintro rfl
    have h1 := h.tab.tab
    rw [hB] at h1
    injection h1 with h1
    injection h1 with h2 h3 h4
    cases h3
  · rintro rfl
    obtain ⟨_, _, h1, _⟩ := h.tab.map
    rw [hB] at h1
    cases h1
theorem StIs.frB {w w1 : World} {k ktb kmb B : Nat} {dd : Int} {m : List (Sp × Tr)} {c : Array Value} (h : StIs w k ktb kmb dd m) (hB : w.heap[B]? = some (.cells c 68 (0, 0))) {S : List Nat} (hf : Fr S w w1) (hS : ∀ q ∈ S, q = B ∨ w.heap.size ≤ q) : StIs w1 k ktb kmb dd m := by
  obtain ⟨h1, h2, ls, h3, h4⟩ := h
  have n1 : k ≠ B := by
    rintro rfl
    rw [hB] at h1
    injection h1 with h1
    injection h1 with h5 h6 h7
    cases h6
  have n2 : ktb ≠ B := by
    rintro rfl
    have h1 := h3.tab
    rw [hB] at h1
    injection h1 with h1
    injection h1 with h5 h6 h7
    cases h6
  have n3 : kmb ≠ B := by
    rintro rfl
    obtain ⟨_, _, h1, _⟩ := h3.map
    rw [hB] at h1
    cases h1
  have l1 := lt_of h1
  have l2 := lt_of h3.tab
  have l3 := h3.map.lt
  have m1 : k ∉ S := fun hq => (hS _ hq).elim n1 (by omega)
  have m2 : ktb ∉ S := fun hq => (hS _ hq).elim n2 (by omega)
  have m3 : kmb ∉ S := fun hq => (hS _ hq).elim n3 (by omega)
  refine ⟨hf.heap h1 m1, h2, ls, h3.fr hf m2 m3, h4.fr hf ?_⟩
  intro q hq cur hc
  rcases hS q hq with rfl | h
  · rw [hB] at hc
    injection hc with h1
    injection h1 with h5 h6 h7
    cases h6
  · have := lt_of hc
    omega

set_option maxRecDepth 100000 in
set_option maxHeartbeats 3200000 in
theorem bookApply (B p tb mb k ktb kmb eb eo N cap : Nat) (dd : Int) (l : List (Sp × Cel)) (es : List (Sp × ByteArray)) (w : World) (h : BookIs w B p tb mb k ktb kmb dd (bytesC l) l) (hes : SlAt w (.slice (some ⟨eb, eo, none⟩) N cap) 11 N (es.flatMap edC)) (hNe : es.length = N) (hN1 : 0 < N) (hN2 : (N : Int) ≤ 4096) (hg : GoodE es) (hl : Lits l) (hm : Mays l)
    (hll : l.length ≤ 65536) (hfit : (setsC es (sortC l)).length ≤ 65536) (hnB : eb ≠ B) :
    Calls Tryz.prog 14 #[.pointer (some ⟨B, 0, none⟩), .agg #[.slice (some ⟨eb, eo, none⟩) N cap, .slice none 0 0]] w fun e w1 => e = .returned repV ∧ ∃ p2 tb2 mb2, BookIs w1 B p2 tb2 mb2 k ktb kmb dd (bytesC (setsC es (sortC l))) (setsC es (sortC l)) ∧
      w.heap.size ≤ p2 ∧ w.heap.size ≤ tb2 ∧ w.heap.size ≤ mb2 ∧ Fr [B] w w1 := by
  have HB := h.bk
  have lB := lt_of HB
  have hnod := h.sh.tab.nodup
  have H := Lib.hid h.sh
  have HST := Lib.hid h.st
  have hlts := h.sh.lts
  obtain ⟨eb', eo', cap', ec, leb, _⟩ := hes.cell hN1
  cases ec
  have HES := Lib.hid hes
  have HG := Lib.hid hg
  have HLI := Lib.hid hl
  have HM := Lib.hid hm
  have HLL := Lib.hid hll
  have HF := Lib.hid hfit
  have HND := Lib.hid hnod
  have HB0 := HB
  have HH0 := H
  have HST0 := HST
  have hbs : Hid (bytesC (sortC l) = bytesC l) := bytesC_perm (sortC_perm hnod)
  clear h hes hg hl hm hll hfit hnod
  go_enter_defers Tryz.func14, Tryz.ntmps14
  go_upto_region 3 with fail
  have hA0 := (((Fr.refl [] w).alloc (.cells #[.pointer (some ⟨B, 0, none⟩)] 47)).alloc (.cells #[.slice (some ⟨eb, eo, none⟩) N cap, .slice none 0 0] 41)).alloc (.cells #[.int .i64 0, .int .i64 0, .slice none 0 0, .int .i64 0, .int .i64 0, .int .i64 0, .int .i64 0, .slice none 0 0] 30)
  have k1 := (((Fr.refl [] _).alloc (.cells #[.slice (some ⟨eb, eo, none⟩) N cap, .slice none 0 0] 41)).alloc (.cells #[.int .i64 0, .int .i64 0, .slice none 0 0, .int .i64 0, .int .i64 0, .int .i64 0, .int .i64 0, .slice none 0 0] 30)).heap (heap_new w (.cells #[.pointer (some ⟨B, 0, none⟩)] 47)) (by simp)
  have k2 := ((Fr.refl [] _).alloc (.cells #[.int .i64 0, .int .i64 0, .slice none 0 0, .int .i64 0, .int .i64 0, .int .i64 0, .int .i64 0, .slice none 0 0] 30)).heap (heap_new (w.alloc (.cells #[.pointer (some ⟨B, 0, none⟩)] 47)) (.cells #[.slice (some ⟨eb, eo, none⟩) N cap, .slice none 0 0] 41)) (by simp)
  have k3 := heap_new ((w.alloc (.cells #[.pointer (some ⟨B, 0, none⟩)] 47)).alloc (.cells #[.slice (some ⟨eb, eo, none⟩) N cap, .slice none 0 0] 41)) (.cells #[.int .i64 0, .int .i64 0, .slice none 0 0, .int .i64 0, .int .i64 0, .int .i64 0, .int .i64 0, .slice none 0 0] 30)
  have z0 : (((w.alloc (.cells #[.pointer (some ⟨B, 0, none⟩)] 47)).alloc (.cells #[.slice (some ⟨eb, eo, none⟩) N cap, .slice none 0 0] 41)).alloc (.cells #[.int .i64 0, .int .i64 0, .slice none 0 0, .int .i64 0, .int .i64 0, .int .i64 0, .int .i64 0, .slice none 0 0] 30)).heap.size = w.heap.size + 3 := by simp
  simp only [World.size_alloc] at k2 k3
  have HB := hA0.heap HB (by simp)
  have H := Lib.hid (H.out.fr0 hA0)
  have HST := Lib.hid (HST.out.fr0 hA0)
  have HES := Lib.hid (HES.out.fr0 hA0)
  obtain ⟨A, hAe⟩ : ∃ A, w.heap.size = A := ⟨_, rfl⟩
  simp only [hAe] at k1 k2 k3 z0 lB hlts leb ⊢
  generalize ((w.alloc (.cells #[.pointer (some ⟨B, 0, none⟩)] 47)).alloc (.cells #[.slice (some ⟨eb, eo, none⟩) N cap, .slice none 0 0] 41)).alloc (.cells #[.int .i64 0, .int .i64 0, .slice none 0 0, .int .i64 0, .int .i64 0, .int .i64 0, .int .i64 0, .slice none 0 0] 30) = w0 at *
  have c0 := cell_of HB 0
  have x0 := cell_of k1 0
  have lB0 := lt_of HB
  have lA0 := lt_of k1
  go_wp2_with fail
  have hA1 := ((Fr.refl [] w0).alloc (.cells #[.pointer (some ⟨p, 0, none⟩)] 55)).alloc (.cells #[.bool false] 4)
  have k4 := ((Fr.refl [] _).alloc (.cells #[.bool false] 4)).heap (heap_new w0 (.cells #[.pointer (some ⟨p, 0, none⟩)] 55)) (by simp)
  have k5 := heap_new (w0.alloc (.cells #[.pointer (some ⟨p, 0, none⟩)] 55)) (.cells #[.bool false] 4)
  simp only [World.size_alloc, z0] at k4 k5
  have HB := hA1.heap HB (by simp)
  have H := Lib.hid (H.out.fr0 hA1)
  have HST := Lib.hid (HST.out.fr0 hA1)
  have HES := Lib.hid (HES.out.fr0 hA1)
  have k1 := hA1.heap k1 (by simp)
  have k2 := hA1.heap k2 (by simp)
  have k3 := hA1.heap k3 (by simp)
  have hA2 := hA0.trans0 hA1
  have z5 : ((w0.alloc (.cells #[.pointer (some ⟨p, 0, none⟩)] 55)).alloc (.cells #[.bool false] 4)).heap.size = A + 5 := by simp [z0]
  generalize (w0.alloc (.cells #[.pointer (some ⟨p, 0, none⟩)] 55)).alloc (.cells #[.bool false] 4) = W at *
  have a0 := cell_of k1 0
  have o0 := cell_of k4 0
  have lA : A < W.heap.size := by omega
  have lA3 : A + 3 < W.heap.size := by omega
  have nA : A ∉ [B] := by simp; omega
  have nA3 : A + 3 ∉ [B] := by simp; omega
  have hlW := H.out.lts
  have hstW := HST.out
  have hcopy : Hid (∀ u, Fr [B] W u → Calls Tryz.prog 30 #[.pointer (some ⟨p, 0, none⟩)] u fun e w1 => ∃ p2 tb2 mb2, e = .returned (.pointer (some ⟨p2, 0, none⟩)) ∧
      u.heap.size ≤ p2 ∧ u.heap.size ≤ tb2 ∧ u.heap.size ≤ mb2 ∧ ShB w1 p2 tb2 mb2 (bytesC l) (sortC l) ∧ Fr [] u w1) := by
    intro u hu
    obtain ⟨n1, n2, n3⟩ := H.out.neB HB
    exact callsIn_wide.1 (shCopy_in p tb mb (bytesC l) l u (H.out.fr hu (by simpa using n1) (by simpa using n2) (by simpa using n3)) HLL.out HM.out)
  refine wp_facts (fun u => Fr [B] W u) (fun i u u' => Fr (if i = 6 then [B] else []) u u') [(2, .pointer (some ⟨A, 0, none⟩)), (5, .pointer (some ⟨(A + 3), 0, none⟩))] [[], [], [1], [0], [3], [4], [5, 2]]
    (fun i σ u => match i with
      | 0 => σ 20 = .pointer (some ⟨B, 0, none⟩)
      | 1 => σ 21 = .pointer (some ⟨p, 0, none⟩)
      | 2 => ∃ p2 tb2 mb2, σ 22 = .pointer (some ⟨p2, 0, none⟩) ∧ ShB u p2 tb2 mb2 (bytesC l) (sortC l) ∧ W.heap.size ≤ p2 ∧ W.heap.size ≤ tb2 ∧ W.heap.size ≤ mb2
      | 3 => σ 23 = .pointer (some ⟨B, 0, none⟩)
      | 4 => σ 24 = .pointer (some ⟨B, 0, none⟩)
      | 5 => σ 25 = .pointer (some ⟨B, 0, none⟩)
      | _ => ∃ p2 tb2 mb2, u.heap[B]? = some (.cells #[.pointer (some ⟨p2, 0, none⟩), .pointer (some ⟨k, 0, none⟩), .int .i64 dd] 68 (0, 0)) ∧ ShB u p2 tb2 mb2 (bytesC l) (sortC l) ∧ W.heap.size ≤ p2 ∧ W.heap.size ≤ tb2 ∧ W.heap.size ≤ mb2) (fun i u => i = 6 → Fr [] W u)
    (ds := [20, 21, 22, 23, 24, 25]) (fr := ?fr5) (by kernel_rfl) ?hfr5 ⟨rfl, rfl, trivial⟩ rfl rfl (by kernel_rfl) (by kernel_rfl) (by decide) rfl (Fr.refl _ _).drew (fun _ _ _ => (Fr.refl _ _).drew) ⟨fun j hj i u u' hij _ hG hR hN e => (hN e).trans0 (by subst e; rwa [if_neg hij] at hR), fun i u u' hG hR => (by split at hR; exact hG.trans hR (fun q hq => .inl (by first | exact hq | exact List.mem_cons_of_mem _ hq | exact List.mem_cons.2 (.inl (List.mem_singleton.1 hq)))); exact hG.trans0 hR), ?_, ?_⟩ ?_
  case hfr5 =>
    intro σ
    simp only [layA, List.foldl_cons, List.foldl_nil, List.setIfInBounds_toArray, List.set_cons_zero, List.set_cons_succ]
    rfl
  · intro j hj i σ σ' u u' hij hs hd hG hR h
    have hj : j < 7 := hj
    rcases (by omega : j = 2 ∨ j = 6 ∨ j = 0 ∨ j = 1 ∨ j = 3 ∨ j = 4 ∨ j = 5) with rfl | rfl | rfl | rfl | rfl | rfl | rfl
    · obtain ⟨p2, tb2, mb2, h1, h2, h3, h4, h5⟩ := h; exact ⟨p2, tb2, mb2, hs.trans h1, h2.fr hR (by split <;> simp; omega) (by split <;> simp; omega) (by split <;> simp; omega), h3, h4, h5⟩
    · obtain ⟨p2, tb2, mb2, h1, h2, h3, h4, h5⟩ := h; rw [if_neg hij] at hR; exact ⟨p2, tb2, mb2, hR.heap h1 (by simp), h2.fr0 hR, h3, h4, h5⟩
    all_goals exact hs.trans h
  · intro i hi
    have hi : i < 7 := hi
    rcases (by omega : (i = 0 ∨ i = 1 ∨ i = 3 ∨ i = 4 ∨ i = 5) ∨ (i = 2 ∨ i = 6)) with hi | hi
    · rcases hi with rfl | rfl | rfl | rfl | rfl
      all_goals
        intro a u K hX hG hD hN hZ hK
        obtain ⟨hx2, hx5, -⟩ := hX
        try dsimp only [AllF, slotsA, List.getD_cons_zero, List.getD_cons_succ] at hD
        first | obtain ⟨e0, e1, e2, e3, -⟩ := hD | obtain ⟨e0, e1, e2, -⟩ := hD | obtain ⟨e0, e1, -⟩ := hD | obtain ⟨e0, -⟩ := hD | skip
        try replace e0 : _ = _ := e0
        try replace e1 : _ = _ := e1
        try replace e2 : _ = _ := e2
        try replace e3 : _ = _ := e3
        have m0 := (hG.cell (p := ⟨A, 0, none⟩) lA nA).trans a0
        have m1 := (hG.cell (p := ⟨A + 3, 0, none⟩) lA3 nA3).trans o0
        refine wpOp_step rfl (fun K' hK' => ?_)
        go_simp
        exact hK' _ _ (hK _ _ (Fr.refl _ _) rfl)
    · rcases hi with rfl | rfl
      all_goals
        intro a u K hX hG hD hN hZ hK
        obtain ⟨hx2, hx5, -⟩ := hX
        try dsimp only [AllF, slotsA, List.getD_cons_zero, List.getD_cons_succ] at hD
        have m0 := (hG.cell (p := ⟨A, 0, none⟩) lA nA).trans a0
        have m1 := (hG.cell (p := ⟨A + 3, 0, none⟩) lA3 nA3).trans o0
      · obtain ⟨d1, -⟩ := hD
        replace d1 : _ = _ := d1
        refine wpOp_step rfl (fun K' hK' => ?_)
        go_simp
        refine (hcopy.out u hG).mono ?_
        rintro e u2 ⟨p2, tb2, mb2, rfl, hp5, ht5, hm5, hS5, hF⟩
        exact hK' _ _ (hK _ _ hF ⟨p2, tb2, mb2, rfl, hS5, Nat.le_trans hG.size hp5, Nat.le_trans hG.size ht5, Nat.le_trans hG.size hm5⟩)
      · obtain ⟨d5, ⟨p2, tb2, mb2, d2, h2, h3, h4, h5⟩, -⟩ := hD
        replace d5 : _ = _ := d5
        replace d2 : _ = _ := d2
        have hBu := (hN rfl).heap HB (by simp)
        have m8 := cell_of hBu 0
        have m9 := free_of hBu 0
        refine wpOp_step rfl (fun K' hK' => ?_)
        go_simp
        exact hK' _ _ (hK undef _ ((Fr.refl _ _).setCell (.inl (by simp)) _) ⟨p2, tb2, mb2, set_of hBu 0 _, h2.fr ((Fr.refl [B] u).setCell (p := ⟨B, 0, none⟩) (.inl (by simp)) _) (by simp; omega) (by simp; omega) (by simp; omega), h3, h4, h5⟩)
  · intro σ u hG h
    obtain ⟨p2, tb2, mb2, hB2, hS2, g1, g2, g3⟩ := h 6 (by decide)
    clear h
    have hG2 := (hA2.mono (T := [B]) (by simp)).transS hG
    have HES2 : Hid (SlAt u (.slice (some ⟨eb, eo, none⟩) N cap) 11 N (es.flatMap edC)) := HES.out.fr hG (by rintro b' o' c' e'; cases e'; simpa using hnB)
    have k1 := hG.heap k1 nA
    have k2 := hG.heap k2 (by simp; omega)
    have k3 := hG.heap k3 (by simp; omega)
    have k4 := hG.heap k4 nA3
    have k5 := hG.heap k5 (by simp; omega)
    have HS2 := Lib.hid hS2
    have zG := hG.size
    clear hS2
    generalize u = W2 at *
    have a0 := cell_of k1 0
    have q0 := cell_of hB2 0
    have x0 := cell_of k2 0
    have lA : A < W2.heap.size := lt_of k1
    have lA1 : A + 1 < W2.heap.size := lt_of k2
    have lB2 : B < W2.heap.size := lt_of hB2
    have nA : A ∉ [p2, tb2, mb2] := by simp; omega
    have nA1 : A + 1 ∉ [p2, tb2, mb2] := by simp; omega
    have nB2 : B ∉ [p2, tb2, mb2] := by simp; omega
    have happly : Hid (∀ u, Fr [] W2 u → Calls Tryz.prog 31 #[.pointer (some ⟨p2, 0, none⟩), .slice (some ⟨eb, eo, none⟩) N cap] u fun e w1 => e = .returned (.tuple #[.int .i64 0, .int .i64 0]) ∧ ShB w1 p2 tb2 mb2 (bytesC (setsC es (sortC l))) (setsC es (sortC l)) ∧ Fr [p2, tb2, mb2] u w1) := by
      intro u hu
      have hs := HS2.out.fr0 hu
      rw [← hbs.out] at hs
      exact shApply p2 tb2 mb2 eb eo N cap (sortC l) es u hs (HES2.out.fr0 hu) hNe hN1 hN2 HG.out HLI.out.sort HM.out.sort (sortC_nodup HND.out) HF.out (by omega)
    go_upto_region 6 with fail
    refine wp_facts (fun u => Fr [p2, tb2, mb2] W2 u) (fun i u u' => Fr (if i = 7 then [p2, tb2, mb2] else []) u u') [(2, .pointer (some ⟨A, 0, none⟩)), (3, .pointer (some ⟨(A + 1), 0, none⟩))] [[], [0], [1], [2], [3], [], [5], [4, 6], [7], [8], [8], [9], [10]]
      (fun i σ u => match i with
        | 0 => σ 27 = .pointer (some ⟨B, 0, none⟩)
        | 1 => σ 28 = .pointer (some ⟨B, 0, none⟩)
        | 2 => σ 29 = .pointer (some ⟨B, 0, none⟩)
        | 3 => σ 30 = .pointer (some ⟨B, 0, none⟩)
        | 4 => σ 31 = .pointer (some ⟨p2, 0, none⟩)
        | 5 => σ 32 = .pointer (some ⟨(A + 1), 0, none⟩)
        | 6 => σ 33 = .slice (some ⟨eb, eo, none⟩) N cap
        | 7 => ShB u p2 tb2 mb2 (bytesC (setsC es (sortC l))) (setsC es (sortC l)) ∧ σ 34 = .tuple #[.int .i64 0, .int .i64 0]
        | 8 => σ 26 = .tuple #[.int .i64 0, .int .i64 0]
        | 9 => σ 35 = .int .i64 0
        | 10 => σ 36 = .int .i64 0
        | 11 => σ 7 = .int .i64 0
        | _ => σ 8 = .int .i64 0) (fun i u => i = 7 → Fr [] W2 u)
      (ds := [27, 28, 29, 30, 31, 32, 33, 34, 26, 35, 36, 7, 8]) (fr := ?fr6) (by kernel_rfl) ?hfr6 ⟨rfl, rfl, trivial⟩ rfl rfl (by kernel_rfl) (by kernel_rfl) (by decide) rfl (Fr.refl _ _).drew (fun _ _ _ => (Fr.refl _ _).drew) ⟨fun j hj i u u' hij _ hG hR hN e => (hN e).trans0 (by subst e; rwa [if_neg hij] at hR), fun i u u' hG hR => (by split at hR; exact hG.trans hR (fun q hq => .inl (by first | exact hq | exact List.mem_cons_of_mem _ hq | exact List.mem_cons.2 (.inl (List.mem_singleton.1 hq)))); exact hG.trans0 hR), ?_, ?_⟩ ?_
    case hfr6 =>
      intro σ
      simp only [layA, List.foldl_cons, List.foldl_nil, List.setIfInBounds_toArray, List.set_cons_zero, List.set_cons_succ]
      rfl
    · intro j hj i σ σ' u u' hij hs hd hG hR h
      have hj : j < 13 := hj
      rcases (by omega : j = 7 ∨ j = 0 ∨ j = 1 ∨ j = 2 ∨ j = 3 ∨ j = 4 ∨ j = 5 ∨ j = 6 ∨ j = 8 ∨ j = 9 ∨ j = 10 ∨ j = 11 ∨ j = 12) with rfl | rfl | rfl | rfl | rfl | rfl | rfl | rfl | rfl | rfl | rfl | rfl | rfl
      · rw [if_neg hij] at hR; exact ⟨h.1.fr0 hR, hs.trans h.2⟩
      all_goals exact hs.trans h
    · intro i hi
      have hi : i < 13 := hi
      rcases (by omega : (i = 0 ∨ i = 1 ∨ i = 2 ∨ i = 3 ∨ i = 4 ∨ i = 5 ∨ i = 6 ∨ i = 9 ∨ i = 10 ∨ i = 11 ∨ i = 12) ∨ (i = 7 ∨ i = 8)) with hi | hi
      · rcases hi with rfl | rfl | rfl | rfl | rfl | rfl | rfl | rfl | rfl | rfl | rfl
        all_goals
          intro a u K hX hG hD hN hZ hK
          obtain ⟨hx2, hx3, -⟩ := hX
          try dsimp only [AllF, slotsA, List.getD_cons_zero, List.getD_cons_succ] at hD
          first | obtain ⟨e0, e1, e2, e3, -⟩ := hD | obtain ⟨e0, e1, e2, -⟩ := hD | obtain ⟨e0, e1, -⟩ := hD | obtain ⟨e0, -⟩ := hD | skip
          try replace e0 : _ = _ := e0
          try replace e1 : _ = _ := e1
          try replace e2 : _ = _ := e2
          try replace e3 : _ = _ := e3
          have m0 := (hG.cell (p := ⟨A, 0, none⟩) lA nA).trans a0
          have m1 := (hG.cell (p := ⟨B, 0, none⟩) lB2 nB2).trans q0
          have m2 := (hG.cell (p := ⟨A + 1, 0, none⟩) lA1 nA1).trans x0
          refine wpOp_step rfl (fun K' hK' => ?_)
          go_simp
          exact hK' _ _ (hK _ _ (Fr.refl _ _) rfl)
      · rcases hi with rfl | rfl
        all_goals
          intro a u K hX hG hD hN hZ hK
          obtain ⟨hx2, hx3, -⟩ := hX
          try dsimp only [AllF, slotsA, List.getD_cons_zero, List.getD_cons_succ] at hD
          have m0 := (hG.cell (p := ⟨A, 0, none⟩) lA nA).trans a0
          have m1 := (hG.cell (p := ⟨B, 0, none⟩) lB2 nB2).trans q0
          have m2 := (hG.cell (p := ⟨A + 1, 0, none⟩) lA1 nA1).trans x0
        · obtain ⟨d4, d6, -⟩ := hD
          replace d4 : _ = _ := d4
          replace d6 : _ = _ := d6
          refine wpOp_step rfl (fun K' hK' => ?_)
          go_simp
          refine (happly.out u (hN rfl)).mono ?_
          rintro e u2 ⟨rfl, hS5, hF⟩
          exact hK' _ _ (hK _ _ hF ⟨hS5, rfl⟩)
        · obtain ⟨⟨-, d7⟩, -⟩ := hD
          replace d7 : _ = _ := d7
          refine wpOp_step rfl (fun K' hK' => ?_)
          go_simp
          exact hK' _ _ (hK _ _ (Fr.refl _ _) rfl)
    · intro σ u hG3 h
      have hS3 := Lib.hid (h 7 (by decide)).1
      have e7 : σ 7 = _ := h 11 (by decide)
      have e8 : σ 8 = _ := h 12 (by decide)
      rw [e7, e8]
      clear h e7 e8
      have nin : ∀ q, q < A + 5 → q ∉ [p2, tb2, mb2] := fun q hq => by simp; omega
      have hBu := hG3.heap hB2 nB2
      have k1 := hG3.heap k1 nA
      have k2 := hG3.heap k2 nA1
      have k3 := hG3.heap k3 (nin _ (by omega))
      have k4 := hG3.heap k4 (nin _ (by omega))
      have k5 := hG3.heap k5 (nin _ (by omega))
      have hGt := hG.trans hG3 (fun q hq => .inr (by simp at hq; rcases hq with rfl | rfl | rfl <;> omega))
      have hGw := hG2.trans hG3 (fun q hq => .inr (by simp at hq; have := hA2.size; rcases hq with rfl | rfl | rfl <;> omega))
      have hGd : Fr [B] w (u.setCell ⟨A + 3 + 1, 0, none⟩ (.bool true)) := hGw.setCell (.inr (by show w.heap.size ≤ A + 3 + 1; omega)) _
      have hD1 := (Fr.refl [A + 3 + 1] u).setCell (p := ⟨A + 3 + 1, 0, none⟩) (.inl (by simp)) (.bool true)
      have HBK := Lib.hid (show BookIs (u.setCell ⟨A + 3 + 1, 0, none⟩ (.bool true)) B p2 tb2 mb2 k ktb kmb dd (bytesC (setsC es (sortC l))) (setsC es (sortC l)) from ⟨hD1.heap hBu (by simp; omega), hS3.out.fr hD1 (by simp; omega) (by simp; omega) (by simp; omega), HST0.out.frB HB0 hGd (by simp)⟩)
      have H3 := Lib.hid (HH0.out.fr hGd (by simp; exact (HH0.out.neB HB0).1) (by simp; exact (HH0.out.neB HB0).2.1) (by simp; exact (HH0.out.neB HB0).2.2))
      have HL3 := (setsC_lits HG.out HLI.out.sort HM.out.sort (sortC_nodup HND.out)).1
      have a0 := cell_of k1 0
      have x1 := cell_of k2 1
      have o0 := cell_of k4 0
      have d0 := cell_of k5 0
      have df := free_of k5 0
      have ld := lt_of k5
      have k1 := hD1.heap k1 (by simp <;> omega)
      have k2 := hD1.heap k2 (by simp <;> omega)
      have k3 := hD1.heap k3 (by simp <;> omega)
      have k4 := hD1.heap k4 (by simp <;> omega)
      have k5 := set_of k5 0 (.bool true)
      go_wp2_with fail
      refine (bookRound B p2 tb2 mb2 k ktb kmb dd _ _ p tb mb _ l _ HBK.out H3.out HF.out HLL.out HL3).mono ?_
      rintro e w6 ⟨rfl, hF6⟩
      have k36 := hF6.heap k3 (by simp)
      have k56 := hF6.heap k5 (by simp)
      obtain ⟨hSt, hn⟩ := setRow_fr (cells := #[.int .i64 0, .int .i64 0, .slice none 0 0, .int .i64 0, .int .i64 0, .int .i64 0, .int .i64 0, .slice none 0 0]) k36
      go_wp2_with (refine wpList_store_row rfl 30 _ _ rfl (A + 1 + 1) #[.int .i64 0, .int .i64 0, .slice none 0 0, .int .i64 0, .int .i64 0, .int .i64 0, .int .i64 0, .slice none 0 0] rfl rfl 30 _ k36 (by kernel_rfl) rfl (by simp [Value.oneCell']) ?_)
      have k57 := hSt.heap k56 (by simp)
      refine leaves_cons (f := 29) (args := #[.pointer (some ⟨A + 3 + 1, 0, none⟩), .pointer (some ⟨A + 3, 0, none⟩), .pointer (some ⟨A, 0, none⟩)]) (by simp) (by simp [go_sem]) ?_
      refine (bookApplyD (A + 3 + 1) (A + 3) A .returning _ ?_).mono ?_
      · exact cell_of k57 0
      · rintro e u' w'' ⟨rfl, rfl, rfl⟩
        refine ⟨repV, results_cell_row Tryz.results14 _ _ (A + 1 + 1) 30 _ (0, 0) _ rfl hn Tryz.underlying30 rfl (by kernel_rfl), rfl, p2, tb2, mb2, ?_, by have := hA2.size; omega, by have := hA2.size; omega, by have := hA2.size; omega, (hGd.trans0 hF6).trans hSt (by simp; omega)⟩
        have hb := HBK.out
        refine ⟨hSt.heap (hF6.heap hb.bk (by simp)) (by simp; omega), (hb.sh.fr0 hF6).fr hSt (by simp; omega) (by simp; omega) (by simp; omega), HST0.out.frB HB0 ((hGd.trans0 hF6).trans hSt (by simp; omega)) (by simp)⟩
end
section
open Go.RowKit Go.Shelf

set_option maxRecDepth 100000 in
set_option maxHeartbeats 3200000 in
theorem bookBecome (B p tb mb k ktb kmb : Nat) (dd : Int) (l : List (Sp × Cel)) (q qtb qmb : Nat) (l2 : List (Sp × Cel)) (w : World) (h : BookIs w B p tb mb k ktb kmb dd (bytesC l) l) (hq : ShB w q qtb qmb (bytesC l2) l2) (hll : l.length ≤ 65536) (hl : Lits l2) (hm : Mays l2) (hl2 : l2.length ≤ 65536) :
    Calls Tryz.prog 40 #[.pointer (some ⟨B, 0, none⟩), .pointer (some ⟨q, 0, none⟩), .slice none 0 0] w fun e w1 => e = .returned repV ∧ ∃ p2 tb2 mb2, BookIs w1 B p2 tb2 mb2 k ktb kmb dd (bytesC (sortC l2)) (sortC l2) ∧
      w.heap.size ≤ p2 ∧ w.heap.size ≤ tb2 ∧ w.heap.size ≤ mb2 ∧ Fr [B] w w1 := by
  have HB := h.bk
  have lB := lt_of HB
  have H := Lib.hid h.sh
  have HST := Lib.hid h.st
  have HQ := Lib.hid hq
  have hlts := h.sh.lts
  have HL := Lib.hid hl
  have HM := Lib.hid hm
  have HLL := Lib.hid hll
  have HL2 := Lib.hid hl2
  have HND := Lib.hid hq.tab.nodup
  have hbs : Hid (bytesC (sortC l2) = bytesC l2) := bytesC_perm (sortC_perm HND.out)
  clear h hq hl hm hll hl2
  go_enter Tryz.func40, Tryz.ntmps40
  go_upto_region 5 with fail
  have hA0 := (Fr.refl [] w).alloc (.cells #[.int .i64 0, .int .i64 0, .slice none 0 0, .int .i64 0, .int .i64 0, .int .i64 0, .int .i64 0, .slice none 0 0] 30)
  have k3 := heap_new w (.cells #[.int .i64 0, .int .i64 0, .slice none 0 0, .int .i64 0, .int .i64 0, .int .i64 0, .int .i64 0, .slice none 0 0] 30)
  obtain ⟨A, hAe⟩ : ∃ A, w.heap.size = A := ⟨_, rfl⟩
  have hAle : A ≤ w.heap.size := by omega
  have zA := hA0.size
  simp only [hAe] at k3 lB hlts zA ⊢
  generalize w.alloc (.cells #[.int .i64 0, .int .i64 0, .slice none 0 0, .int .i64 0, .int .i64 0, .int .i64 0, .int .i64 0, .slice none 0 0] 30) = w0 at *
  have HBa := hA0.heap HB (by simp)
  have lA := lt_of k3
  have c0 := cell_of HBa 0
  have f0 := free_of HBa 0
  have lB0 := lt_of HBa
  go_wp2_with fail
  refine (callsIn_wide.1 (shCopy_in q qtb qmb _ l2 w0 (HQ.out.fr0 hA0) HL2.out HM.out)).mono ?_
  rintro e w1 ⟨p2, tb2, mb2, rfl, h1, h2, h3, hS, hF⟩
  have HS := Lib.hid hS
  clear hS
  have HBb := hF.heap HBa (by simp)
  have c0 := cell_of HBb 0
  have f0 := free_of HBb 0
  have lB0 := lt_of HBb
  have k3 := hF.heap k3 (by simp)
  have nB := H.out.neB HB
  have hFa := (hA0.trans0 hF).mono (T := [B]) (by simp)
  have hFs := hFa.setCell (p := ⟨B, 0, none⟩) (.inl (by simp)) (.pointer (some ⟨p2, 0, none⟩))
  have hD1 := (Fr.refl [B] w1).setCell (p := ⟨B, 0, none⟩) (.inl (by simp)) (.pointer (some ⟨p2, 0, none⟩))
  have HBK : Hid (BookIs (w1.setCell ⟨B, 0, none⟩ (.pointer (some ⟨p2, 0, none⟩))) B p2 tb2 mb2 k ktb kmb dd (bytesC (sortC l2)) (sortC l2)) := by
    rw [hbs.out]
    exact ⟨set_of HBb 0 _, HS.out.fr hD1 (by simp; omega) (by simp; omega) (by simp; omega), HST.out.frB HB hFs (by simp)⟩
  have H3 := Lib.hid (H.out.fr hFs (by simpa using nB.1) (by simpa using nB.2.1) (by simpa using nB.2.2))
  have k3 := hD1.heap k3 (by simp; omega)
  go_wp2_with fail
  refine (bookRound B p2 tb2 mb2 k ktb kmb dd _ _ p tb mb _ l _ HBK.out H3.out (by rw [sortC_len]; exact HL2.out) HLL.out HL.out.sort).mono ?_
  rintro e w6 ⟨rfl, hF6⟩
  have k36 := hF6.heap k3 (by simp)
  obtain ⟨hSt, hn⟩ := setRow_fr (cells := #[.int .i64 0, .int .i64 0, .slice none 0 0, .int .i64 0, .int .i64 0, .int .i64 0, .int .i64 0, .slice none 0 0]) k36
  go_wp2_with (refine wpList_store_row rfl 30 _ _ rfl A #[.int .i64 0, .int .i64 0, .slice none 0 0, .int .i64 0, .int .i64 0, .int .i64 0, .int .i64 0, .slice none 0 0] rfl rfl 30 _ k36 (by kernel_rfl) rfl (by simp [Value.oneCell']) ?_)
  refine bodyPost_ret (v := repV) (results_cell_row Tryz.results40 _ _ A 30 _ (0, 0) _ rfl hn Tryz.underlying30 rfl (by kernel_rfl)) rfl ⟨rfl, p2, tb2, mb2, ?_, by omega, by omega, by omega, (hFs.trans0 hF6).trans hSt (by simp; omega)⟩
  have hb := HBK.out
  exact ⟨hSt.heap (hF6.heap hb.bk (by simp)) (by simp; omega), (hb.sh.fr0 hF6).fr hSt (by simp; omega) (by simp; omega) (by simp; omega), HST.out.frB HB ((hFs.trans0 hF6).trans hSt (by simp; omega)) (by simp)⟩
end
section
open Go.RowKit Go.Shelf
attribute [local go_sem] Oper.semAt_some

/-- What is kept of a sheet: its rows' texts. -/
abbrev txtC (l : List (Sp × Cel)) : List (Sp × ByteArray) := l.map fun x => (x.1, x.2.t)
theorem strCells_tx (t : ByteArray) : Lib.strCells t = u8L (txI t) := by
  simp [Lib.strCells, u8L, txI]

theorem wpListIn_append_str {F : Fence} {nF : Nat} {P : Program} {w : World} {ops : Array Oper} {rest : List Oper} {o : Oper} {a : Act} {Q : Exit → Act → World → Prop} (hgd : o.guard = none) (sl x : Operand) (t u : TypeId)
    (ho : o.op = .call { callee := .builtin .append, args := #[sl, x], argTypes := #[t, u] })
    (base : Nat) (e : TypeId) (i : TypeInfo) (ht : P.underlying t = some (.slice e)) (hu : P.underlying u = some .string) (hi : P.info? e = some i) (hz : i.zero = some (.int .u8 0))
    (hsize : i.size = 1) (hby : i.bytes = 1)
    (v : Value) (n : Nat) (xs : List Value) (hs : a.eval sl = v) (hown : w.ownsRow base e 1 v n xs) (s : ByteArray) (hx : a.eval x = .string s)
    (h63 : n + s.size ≤ maxLen) (hbytes : n + s.size ≤ 140737488355328) (hbase : base ≤ w.heap.size)
    (h : ∀ v' w', w'.ownsRow base e 1 v' (n + s.size) (xs ++ Lib.strCells s) → w.grownBy w' v.ownBlock → wpListIn F nF P ops Q rest (a.put o.dst v') w') : wpListIn F nF P ops Q (o :: rest) a w := by
  refine wpListIn_plain hgd fun K hK => ?_
  obtain ⟨v', w', hr, h2, h3, h4⟩ := Lib.run_append_own_string (P := P) w base t u o.type e i ht hu hi hz hsize hby v n xs hown s h63 hbytes hbase
  unfold Oper.wpIn
  refine ⟨by simp [Oper.about, ho, resolve, Target.leads, Sem.run_pure], ?_⟩
  rw [Oper.semAt_plain F _ _ (by rw [ho]; intro c hc'; cases hc')]
  simp [execOp, ho, resolve, invoke, builtin, hs, hx, hr, Result.andThen]
  exact hK _ _ (h v' w' h2 h3)

/-- An append that must move: what is held stays where it was. -/
theorem wpListIn_append_move {F : Fence} {nF : Nat} {P : Program} {w : World} {ops : Array Oper} {rest : List Oper} {o : Oper} {a : Act} {Q : Exit → Act → World → Prop} (hgd : o.guard = none) (sl x : Operand) (t : TypeId)
    (ho : o.op = .call { callee := .builtin .append, args := #[sl, x], argTypes := #[t, t] })
    (e : TypeId) (i : TypeInfo) (z : Value) (ht : P.underlying t = some (.slice e)) (hi : P.info? e = some i) (hz : i.zero = some z)
    (hsize : i.size = 1) (hby : i.bytes = 1) (hzs : z.cells.size = 1)
    (b : Addr) (n cap : Nat) (olds : List Value) (hs : a.eval sl = .slice (some b) n cap) (hlo : olds.length = n) (holds : ∀ j v, olds[j]? = some v → w.cell? (b.add j) = some v)
    (ad : Addr) (m c : Nat) (news : List Value) (hx : a.eval x = .slice (some ad) m c) (hl : news.length = m) (hnews : ∀ j u, news[j]? = some u → w.cell? (ad.add j) = some u)
    (hg : cap < n + m) (h63 : n + m ≤ maxLen) (hbytes : n + m ≤ 140737488355328)
    (h : ∀ v' w', w'.ownsRow w.heap.size e 1 v' (n + m) (olds ++ news) → Fr [] w w' → wpListIn F nF P ops Q rest (a.put o.dst v') w') : wpListIn F nF P ops Q (o :: rest) a w := by
  refine wpListIn_plain hgd fun K hK => ?_
  have hsmall : n + m ≤ 9223372036854775807 := by simp only [maxLen] at h63; omega
  have hr := run_append_grow (P := P) w t o.type e i z ht hi hz b n cap olds (by rw [hsize]; omega) holds ad m c news (by rw [hsize]; omega) hnews hg (by omega) (by rw [hby]; exact growslice_fits (by omega) (by omega))
  have hge := grownCap_ge w (n + m) cap e
  have hcm := grownCap_le_maxLen w (n + m) cap e h63
  unfold Oper.wpIn
  refine ⟨by simp [Oper.about, ho, resolve, Target.leads, Sem.run_pure], ?_⟩
  rw [Oper.semAt_plain F _ _ (by rw [ho]; intro c hc'; cases hc')]
  simp only [execOp, ho, resolve, invoke, builtin, Sem.run_bind, Sem.run_pure, Result.andThen_ok, List.map_toArray, List.map_cons, List.map_nil, hs, hx, hr]
  refine hK _ _ (h _ _ ⟨by simp; omega, .inr ⟨w.heap.size, _, _, rfl, Nat.le_refl _, heap_alloc_new w.drew _, hge, hcm, ?_, ?_⟩⟩ ⟨rfl, rfl, rfl, by simp, fun k hk _ => heap_alloc_old w.drew _ hk⟩)
  · simp only [Array.size_append, List.size_toArray, size_zeroCells, hzs]
    omega
  · simp only [Array.toList_append]
    exact List.take_left' (by simp; omega)

theorem BookIs.fr0 {w w1 : World} {B p tb mb k ktb kmb : Nat} {dd b : Int} {l : List (Sp × Cel)} (h : BookIs w B p tb mb k ktb kmb dd b l) (hf : Fr [] w w1) : BookIs w1 B p tb mb k ktb kmb dd b l := ⟨hf.heap h.bk (by simp), h.sh.fr0 hf, h.st.fr0 hf⟩
theorem own_ne {w : World} {B0 : Nat} {e t : TypeId} {size n k : Nat} {v : Value} {xs : List Value} {cs : Array Value} {f : Nat × Nat} (h : w.ownsRow B0 e size v n xs) (hk : w.heap[k]? = some (.cells cs t f)) (ht : t ≠ e) : v.ownBlock ≠ some k := by
  rcases h.2 with ⟨h, _⟩ | ⟨g, cap, cur, h, _, hh, _⟩
  · rw [h]; simp [Value.ownBlock]
  · rw [h]
    intro e
    cases e
    rw [hk] at hh
    injection hh with h1
    injection h1 with h2 h3 h4
    exact ht h3
theorem ShB.keptU {w w1 : World} {p tb mb : Nat} {b : Int} {l : List (Sp × Cel)} (h : ShB w p tb mb b l) {B : Nat} {S : List Nat} (hk : KeptT B S (some 5) w w1) (n1 : p ∉ S) (n2 : tb ∉ S) (n3 : mb ∉ S) : ShB w1 p tb mb b l := by
  refine ⟨hk.block _ _ h.sh n1 (.inr (ofT_ne (by decide))), hk.block _ _ h.tab.tab n2 (.inr (ofT_ne (by decide))), ?_⟩
  obtain ⟨es, clock, hm, r⟩ := h.tab.map
  exact ⟨es, clock, hk.block _ _ hm n3 (.inr rfl), r⟩
theorem own_sl {w : World} {B : Nat} {e : TypeId} {size n : Nat} {v : Value} {xs : List Value} (h : w.ownsRow B e size v n xs) : SlAt w v size n xs := by
  rcases h.2 with ⟨rfl, h0⟩ | ⟨g, cap, cur, rfl, hb, hg, h1, h2, h3, h4⟩
  · subst h0
    exact ⟨h.1, ⟨_, _, rfl, by omega, by omega⟩, by omega⟩
  · exact ⟨h.1, ⟨_, _, rfl, h1, by unfold maxLen at h2; omega⟩, fun _ => ⟨g, 0, cap, rfl, lt_of hg, fun j x hx => by rw [Nat.zero_add]; exact take_cells hg h4 j x hx⟩⟩
theorem own_neD {w : World} {B0 : Nat} {e : TypeId} {size n k : Nat} {v : Value} {xs : List Value} {d : Option (List Deferred)} (h : w.ownsRow B0 e size v n xs) (hk : w.heap[k]? = some (.deferred d)) : v.ownBlock ≠ some k := by
  rcases h.2 with ⟨h, _⟩ | ⟨g, cap, cur, h, _, hh, _⟩
  · rw [h]; simp [Value.ownBlock]
  · rw [h]
    intro e
    cases e
    rw [hk] at hh
    cases hh
/-- The bytes that are laid, in their box. -/
def Bys (B0 pb : Nat) (bs : List Int) (w : World) : Prop := ∃ v, w.heap[pb]? = some (.cells #[v] 22 (0, 0)) ∧ w.ownsRow B0 5 1 v bs.length (u8L bs)

theorem bys_own {β : Type} {C B0 pb : Nat} (f : β → List Int) : OwnFrom C (fun s W => Bys B0 pb (f s) W) := by
  rintro s X Y row ⟨v, hb, ho⟩ hg hr
  obtain ⟨v', h1, h2, _⟩ := (Own.from (holdsRow_own B0 pb 22 5 1 (fun bs : List Int => bs.length) (fun bs => u8L bs) (fun _ _ => True)) C) (f s) X Y row ⟨v, hb, ho, trivial⟩ hg hr
  exact ⟨v', h1, h2⟩
theorem bys_put {B0 pb k : Nat} {w w5 : World} {bs : List Int} {v v2 : Value} (hb : w.heap[pb]? = some (.cells #[v] 22 (0, 0))) (hk : KeptT B0 [] (some 5) w w5) (ho : w5.ownsRow B0 5 1 v2 k (u8L bs)) :
    (w5.setCell ⟨pb, 0, none⟩ v2).heap[pb]? = some (.cells #[v2] 22 (0, 0)) ∧ (w5.setCell ⟨pb, 0, none⟩ v2).ownsRow B0 5 1 v2 k (u8L bs) ∧ KeptT B0 [pb] (some 5) w (w5.setCell ⟨pb, 0, none⟩ v2) := by
  have hb5 := hk.block _ _ hb (by simp) (.inr (ofT_ne (by decide)))
  have hne := own_ne ho hb5 (by decide)
  refine ⟨set_of hb5 0 _, owns_fr ho ((Fr.refl [pb] w5).setCell (p := ⟨pb, 0, none⟩) (.inl (by simp)) _) (fun g hg hm => ?_), (hk.mono (Nat.le_refl _) (by simp)).trans (setCell_keptT w5 (by simp) v2)⟩
  rw [List.mem_singleton] at hm
  subst hm
  exact hne hg

set_option maxRecDepth 100000 in
set_option maxHeartbeats 25600000 in
theorem keepSave_in (B p tb mb k ktb kmb : Nat) (dd b : Int) (l : List (Sp × Cel)) (w : World) (h : BookIs w B p tb mb k ktb kmb dd b l) (hll : l.length ≤ 65536) (hl : Lits l) (hm : Mays l) (hd0 : 0 ≤ dd) (hd1 : dd ≤ 64) :
    CallsIn Fence.wide 5 Tryz.prog 15 #[.pointer (some ⟨B, 0, none⟩)] w fun e w1 => ∃ v bs, e = .returned (.tuple #[v, .int .i64 0]) ∧ bs = headI dd (txtC (sortC (sortC l))) ++ beI 8 (fnv (headI dd (txtC (sortC (sortC l))))) ∧
      w1.ownsRow w.heap.size 5 1 v bs.length (u8L bs) ∧ Fr [] w w1 := by
  obtain ⟨i0, hI, hz0, hz1, hz2⟩ := info_parts info5
  have H := Lib.hid h
  have HL := Lib.hid hll
  have HLIT := Lib.hid hl.sort
  have HM := Lib.hid hm
  have hlen : Hid ((sortC l).length = l.length) := sortC_len l
  clear h hll hl hm
  refine callsIn_of_wp_marks Tryz.func15 rfl trivial ?_ rfl
  simp only [Tryz.ntmps15, List.size_toArray, List.length_cons, List.length_nil, Nat.reduceAdd, Nat.reduceSub, Array.replicate_succ, Array.replicate_zero, List.push_toArray, List.append_toArray, List.nil_append, List.cons_append]
  gi_wp2_with fail
  refine ⟨trivial, ?_⟩
  gi_at_call 18
  refine (callsIn_wide.2 (bookSheet B p tb mb k ktb kmb dd b l w H.out HL.out HM.out)).mono ?_
  rintro e w1 ⟨q, qtb, qmb, rfl, g1, g2, g3, hS, h1⟩
  have HS := Lib.hid hS
  clear hS
  have hB1 := h1.heap H.out.bk (by simp)
  have hst1 := H.out.st.fr0 h1
  have hsh1 := H.out.sh.fr0 h1
  have HB1 := Lib.hid (show BookIs w1 B p tb mb k ktb kmb dd b l from ⟨hB1, hsh1, hst1⟩)
  clear hB1 hst1 hsh1
  have hcv : (convert 22 22 (.slice (some ⟨w1.heap.size, 0, none⟩) 4 4)).run Tryz.prog (w1.alloc (.cells #[.int .u8 81, .int .u8 68, .int .u8 82, .int .u8 76] 5)) = .ok (.slice (some ⟨w1.heap.size, 0, none⟩) 4 4) (w1.alloc (.cells #[.int .u8 81, .int .u8 68, .int .u8 82, .int .u8 76] 5 (4, 5))) := Lib.run_convert_bytes_const w1 22 5 _ _ _ Tryz.underlying22 Tryz.underlying5
  gi_wp2_with fail
  have hA := (Fr.refl [] w1).alloc (.cells #[.int .u8 81, .int .u8 68, .int .u8 82, .int .u8 76] 5 (4, 5))
  have k0 := heap_new w1 (.cells #[.int .u8 81, .int .u8 68, .int .u8 82, .int .u8 76] 5 (4, 5))
  refine ⟨trivial, ?_⟩
  gi_at_call 26
  refine (callsIn_wide.2 (bookWidth B p tb mb k ktb kmb dd b l _ (HB1.out.fr0 hA))).mono ?_
  rintro e w2 ⟨rfl, h2⟩
  have k0 := h2.heap k0 (by simp)
  have HS2 := Lib.hid ((HS.out.fr0 hA).fr0 h2)
  have hF2 := (h1.trans0 hA).trans0 h2
  have z2 := hF2.size
  have zq := HS2.out.lts
  obtain ⟨hb, hhb⟩ : ∃ hb, w1.heap.size = hb := ⟨_, rfl⟩
  simp only [hhb] at k0 ⊢
  have hwd : IntKind.u8.wrap dd = dd := by rw [IntKind.wrap_u8]; omega
  have lhb := lt_of k0
  have hne := fun (j : Nat) (y : Value) (hj : [Value.int .u8 81, .int .u8 68, .int .u8 82, .int .u8 76][j]? = some y) => news_blk (((Fr.refl [] w2).alloc (.cells #[.int .u8 dd] 5)).heap k0 (by simp)) j y hj
  gi_wp2_with (gi_at_builtin; refine wpListIn_append_move rfl _ _ 22 rfl 5 i0 (.int .u8 0) Tryz.underlying22 hI hz0 hz1 hz2 rfl ⟨hb, 0, none⟩ 4 4 [.int .u8 81, .int .u8 68, .int .u8 82, .int .u8 76] rfl rfl hne ⟨w2.heap.size, 0, none⟩ 1 1 [.int .u8 dd] rfl rfl (news_of _ _ _) (by omega) (by unfold maxLen; omega) (by omega) ?_; intro v' w3 hown3 hF3; obtain ⟨g4, cap4, rfl⟩ := ownsRow_succ hown3)
  have hF3' := (hF2.trans0 ((Fr.refl [] w2).alloc (.cells #[.int .u8 dd] 5))).trans0 hF3
  have hAW := (Fr.refl [] w3).alloc (.cells #[.slice (some ⟨g4, 0, none⟩) 5 cap4] 22)
  have hbox := heap_new w3 (.cells #[.slice (some ⟨g4, 0, none⟩) 5 cap4] 22)
  have hFW := hF3'.trans0 hAW
  have HSW := Lib.hid (((HS2.out.fr0 ((Fr.refl [] w2).alloc (.cells #[.int .u8 dd] 5))).fr0 hF3).fr0 hAW)
  have hrowW := (owns_mono hown3 (show w.heap.size ≤ _ by simp; omega)).alloc (.cells #[.slice (some ⟨g4, 0, none⟩) 5 cap4] 22)
  have z3 := hF3'.size
  obtain ⟨SB, hSB⟩ : ∃ SB, w3.heap.size = SB := ⟨_, rfl⟩
  have hzq : q < SB ∧ qtb < SB ∧ qmb < SB := by
    have := hF3.size
    simp at this
    omega
  have lSB := lt_of hbox
  obtain ⟨B0, hB0⟩ : ∃ B0, w.heap.size = B0 := ⟨_, rfl⟩
  have HB0 := Lib.hid hB0
  simp only [hSB] at hbox lSB ⊢
  simp only [hB0] at hrowW z3 ⊢
  generalize w3.alloc (.cells #[.slice (some ⟨g4, 0, none⟩) 5 cap4] 22) = W at *
  generalize Value.slice (some ⟨g4, 0, none⟩) 5 cap4 = V at *
  obtain ⟨m, bs, hm9, hbl, hbs, hrowW⟩ : ∃ (m : Nat) (bs : List Int), m ≤ 9 ∧ bs.length = m ∧ bs = [81, 68, 82, 76, dd] ∧ W.ownsRow B0 5 1 V m (u8L bs) := ⟨5, _, by omega, rfl, rfl, hrowW⟩
  have hns : q ∉ [SB] ∧ qtb ∉ [SB] ∧ qmb ∉ [SB] := by simp; omega
  obtain ⟨n, hn⟩ : ∃ n, (sortC l).length = n := ⟨_, rfl⟩
  have hn9 : n ≤ 65536 := by rw [← hn, hlen.out]; exact HL.out
  have hlenq : Hid (∀ u, KeptT B0 [SB] (some 5) W u → Calls Tryz.prog 19 #[.pointer (some ⟨q, 0, none⟩)] u fun e w1 => e = .returned (.int .i64 (n : Int)) ∧ Fr [] u w1) := fun u hu => hn ▸ shLen q qtb qmb b (sortC l) u (HSW.out.keptU hu hns.1 hns.2.1 hns.2.2)
  have hnum : Hid (∀ u, Fr [] W u → Calls Tryz.prog 33 #[V, .int .u64 (n : Int), .int .i64 4] u fun e w1 => ∃ v2, e = .returned v2 ∧ w1.ownsRow B0 5 1 v2 (m + 4) (u8L (bs ++ beI 4 (n : Int))) ∧ KeptT B0 [] (some 5) u w1) := fun u hu =>
    keepNumber B0 V m bs (n : Int) 4 u (owns_fr hrowW hu (fun _ _ => by simp)) (Nat.le_trans (by omega) hu.size) (by omega) (by omega)
  have hwn : IntKind.u64.wrap (n : Int) = (n : Int) := by rw [IntKind.wrap_u64]; omega
  have hB0W : B0 ≤ W.heap.size := by omega
  clear hne hcv hwd hown3 hF3 hF3' hAW k0 hA h2 hF2 z2 zq lhb
  refine wpIn_wide.2 ?_
  refine wp_facts (fun u => KeptT B0 [SB] (some 5) W u) (fun i u u' => if i = 4 then KeptT B0 [] (some 5) u u' else if i = 5 then Fr [SB] u u' else Fr [] u u') [(4, .pointer (some ⟨q, 0, none⟩)), (5, .pointer (some ⟨SB, 0, none⟩))] [[], [], [1], [2], [0, 3], [4, 0]]
    (fun i σ u => match i with
      | 0 => σ 19 = V
      | 1 => σ 20 = .pointer (some ⟨q, 0, none⟩)
      | 2 => σ 21 = .int .i64 (n : Int)
      | 3 => σ 22 = .int .u64 (n : Int)
      | 4 => ∃ v2, σ 23 = v2 ∧ u.ownsRow B0 5 1 v2 (m + 4) (u8L (bs ++ beI 4 (n : Int))) ∧ v2.ownBlock ≠ some SB
      | _ => ∃ v2, u.heap[SB]? = some (.cells #[v2] 22 (0, 0)) ∧ u.ownsRow B0 5 1 v2 (m + 4) (u8L (bs ++ beI 4 (n : Int)))) (fun i u => (i = 0 ∨ i = 4 → Fr [] W u) ∧ (i = 5 → KeptT B0 [] (some 5) W u))
    (ds := [19, 20, 21, 22, 23]) (fr := ?fr5) (by kernel_rfl) ?hfr5 ⟨rfl, rfl, trivial⟩ rfl rfl (by kernel_rfl) (by kernel_rfl) (by decide) rfl (Fr.refl _ _).drew.kt0 (fun _ _ => ⟨fun _ => (Fr.refl _ _).drew, fun _ => (Fr.refl _ _).drew.kt0⟩) ⟨fun j hj i u u' hij hc hG hR hN => ⟨fun e => by have h4 : i ≠ 4 := (by rintro rfl; rcases e with rfl | rfl <;> first | exact hij rfl | exact absurd hc (by decide)); have h5 : i ≠ 5 := (by rintro rfl; rcases e with rfl | rfl <;> exact absurd hc (by decide)); rw [if_neg h4, if_neg h5] at hR; exact (hN.1 e).trans0 hR, fun e => by subst e; split at hR; exact (hN.2 rfl).trans hR; first | (rw [if_neg hij] at hR; exact (hN.2 rfl).trans hR.kt) | exact (hN.2 rfl).trans hR.kt⟩, fun i u u' hG hR => (by split at hR; exact hG.trans (hR.mono (Nat.le_refl _) (by simp)); split at hR; exact hG.trans (hR.keptT _ _); exact hG.trans hR.kt0), ?_, ?_⟩ ?_
  case hfr5 =>
    intro σ
    simp only [layA, List.foldl_cons, List.foldl_nil, List.setIfInBounds_toArray, List.set_cons_zero, List.set_cons_succ]
    rfl
  · intro j hj i σ σ' u u' hij hs hd hG hR h
    have hj : j < 6 := hj
    rcases (by omega : j = 4 ∨ j = 5 ∨ j = 0 ∨ j = 1 ∨ j = 2 ∨ j = 3) with rfl | rfl | rfl | rfl | rfl | rfl
    · obtain ⟨v2, h1, h2, h3⟩ := h; rw [if_neg hij] at hR; exact ⟨v2, hs.trans h1, owns_fr (S := [SB]) h2 (by split at hR; exact hR; exact hR.mono (by simp)) (fun g hg hm => by rw [List.mem_singleton] at hm; subst hm; exact h3 hg), h3⟩
    · obtain ⟨v2, h1, h2⟩ := h; rw [if_neg (fun e => (hd 4 rfl).2 e), if_neg hij] at hR; exact ⟨v2, hR.heap h1 (by simp), owns_fr h2 hR (fun _ _ => by simp)⟩
    all_goals exact hs.trans h
  · intro i hi
    have hi : i < 6 := hi
    rcases (by omega : (i = 1 ∨ i = 3) ∨ (i = 0 ∨ i = 2 ∨ i = 4 ∨ i = 5)) with hi | hi
    · rcases hi with rfl | rfl
      all_goals
        intro a u K hX hG hD hN hZ hK
        obtain ⟨hx4, hx5, -⟩ := hX
        try dsimp only [AllF, slotsA, List.getD_cons_zero, List.getD_cons_succ] at hD
        first | obtain ⟨e0, e1, e2, e3, -⟩ := hD | obtain ⟨e0, e1, e2, -⟩ := hD | obtain ⟨e0, e1, -⟩ := hD | obtain ⟨e0, -⟩ := hD | skip
        try replace e0 : _ = _ := e0
        try replace e1 : _ = _ := e1
        try replace e2 : _ = _ := e2
        try replace e3 : _ = _ := e3
        refine wpOp_step rfl (fun K' hK' => ?_)
        go_simp
        exact hK' _ _ (hK _ _ (Fr.refl _ _) rfl)
    · rcases hi with rfl | rfl | rfl | rfl
      all_goals
        intro a u K hX hG hD hN hZ hK
        obtain ⟨hx4, hx5, -⟩ := hX
        try dsimp only [AllF, slotsA, List.getD_cons_zero, List.getD_cons_succ] at hD
      · have m8 := cell_of ((hN.1 (by simp)).heap hbox (by simp)) 0
        refine wpOp_step rfl (fun K' hK' => ?_)
        go_simp
        exact hK' _ _ (hK _ _ (Fr.refl _ _) rfl)
      · obtain ⟨d1, -⟩ := hD
        replace d1 : _ = _ := d1
        refine wpOp_step rfl (fun K' hK' => ?_)
        go_simp
        refine (hlenq.out u hG).mono ?_
        rintro e u2 ⟨rfl, hF⟩
        exact hK' _ _ (hK _ _ hF rfl)
      · obtain ⟨d0, d3, -⟩ := hD
        replace d0 : _ = _ := d0
        replace d3 : _ = _ := d3
        refine wpOp_step rfl (fun K' hK' => ?_)
        go_simp
        refine (hnum.out u (hN.1 (by simp))).mono ?_
        rintro e u2 ⟨v2, rfl, ho, hk⟩
        exact hK' _ _ (hK _ _ hk ⟨v2, rfl, ho, own_ne ho (hk.block _ _ ((hN.1 (by simp)).heap hbox (by simp)) (by simp) (.inr rfl)) (by decide)⟩)
      · obtain ⟨⟨v2, d4, ho, hne⟩, -⟩ := hD
        obtain ⟨g2, cap2, rfl⟩ := ownsRow_succ ho
        replace d4 : _ = _ := d4
        have hbu := (hN.2 rfl).block _ _ hbox (by simp) (.inr rfl)
        have m9 := cell_of hbu 0
        have m8 := free_of hbu 0
        refine wpOp_step rfl (fun K' hK' => ?_)
        go_simp
        exact hK' _ _ (hK undef _ ((Fr.refl _ _).setCell (.inl (by simp)) _) ⟨_, set_of hbu 0 _, owns_fr ho ((Fr.refl [SB] u).setCell (p := ⟨SB, 0, none⟩) (.inl (by simp)) _) (fun g hg hm => by rw [List.mem_singleton] at hm; subst hm; exact hne hg)⟩)
  · intro σ u hG h
    obtain ⟨v2, hb2, hr2⟩ := h 5 (by decide)
    clear h
    have hSu := HSW.out.keptU hG hns.1 hns.2.1 hns.2.2
    have zu := hG.size
    obtain ⟨h9, hh9⟩ : ∃ h9, bs ++ beI 4 (n : Int) = h9 := ⟨_, rfl⟩
    have hl9 : h9.length = m + 4 := by rw [← hh9]; simp [hbl, beI_len]
    rw [hh9, ← hl9] at hr2
    clear hnum hlenq hrowW hbox HSW
    gi_wp2_with fail
    refine ⟨trivial, ?_⟩
    gi_at_call 34
    refine (callsIn_wide.2 (shAll q qtb qmb b (sortC l) u hSu (by rw [hn]; exact hn9))).mono ?_
    rintro e w6 ⟨B1, rfl, hIt, h6⟩
    have hb6 := h6.heap hb2 (by simp)
    have hr6 := owns_fr hr2 h6 (fun _ _ => by simp)
    have HIt := Lib.hid hIt
    have z6 := h6.size
    clear hIt
    gi_wp2
    refine range_L (gf := 66) (lb := #[.pointer (some ⟨B1, 0, none⟩)]) rfl (enters_of Tryz.func66 (by kernel_rfl) rfl) B0 [SB] (some 5) ?_
      (seqSh B0 [SB] (some 5) _ B1 (sortC (sortC l)) w6 HIt.out ?_ ?_ (by decide) (by decide)) (fun _ => rfl)
      (fun pre W => Bys B0 SB (h9 ++ (txtC (pre.map (·.1))).flatMap cellI) W) (fun _ _ _ => False) (bys_own _) (fun _ _ _ _ _ h _ _ => h) ⟨v2, hb6, by simpa using hr6⟩ ?_ ?_ ?_
    · intro k hk
      rw [List.mem_singleton] at hk
      omega
    · rw [sortC_len, hn]; omega
    · intro k hk
      rw [List.mem_singleton] at hk
      omega
    · intro lp pre x X hl2 hj hk hlen2
      gi_wp2
      refine ⟨(Fr.refl [] X).alloc _, ?_⟩
      intro X2 hcs hsz hr hj2 hk2
      have hat := hcs X.heap.size _ _ _ (heap_new X _)
      have hXz := hk.size
      obtain ⟨A, hAe⟩ : ∃ A, X.heap.size = A := ⟨_, rfl⟩
      simp only [hAe] at hat hXz ⊢
      obtain ⟨v0, hbx, hrw⟩ := hj2
      have hLr : (h9 ++ (txtC (pre.map (·.1))).flatMap cellI).length ≤ 3999000 := by
        rw [List.length_append, flat_cellI, hl9]
        have h1 := bytesN_bd (L := txtC (pre.map (·.1))) (fun y hy => by
          obtain ⟨z, hz, rfl⟩ := List.mem_map.1 hy
          obtain ⟨z2, _, rfl⟩ := List.mem_map.1 hz
          exact HLIT.out.short _ (sortC_mem z2.2))
        have h2 : (txtC (pre.map (·.1))).length = pre.length := by simp
        rw [h2] at h1
        rw [sortC_len, hn] at hlen2
        omega
      have hxm := HM.out.sort.sort x.1 x.2
      have hxt := HLIT.out.short _ (sortC_mem x.2)
      simp only [mayS, decide_eq_true_eq] at hxm
      have hw1 : IntKind.u64.wrap x.1.1.1 = x.1.1.1 := by rw [IntKind.wrap_u64]; omega
      have hw2 : IntKind.u64.wrap x.1.1.2 = x.1.1.2 := by rw [IntKind.wrap_u64]; omega
      have hw3 : IntKind.u64.wrap (x.1.2.t.size : Int) = (x.1.2.t.size : Int) := by rw [IntKind.wrap_u64]; omega
      have eL : h9 ++ (txtC ((pre ++ [x]).map (·.1))).flatMap cellI = (((h9 ++ (txtC (pre.map (·.1))).flatMap cellI) ++ beI 2 x.1.1.1) ++ beI 2 x.1.1.2) ++ beI 4 (x.1.2.t.size : Int) ++ txI x.1.2.t := by
        simp [cellI, List.append_assoc]
      obtain ⟨L0, hL0⟩ : ∃ L0, h9 ++ (txtC (pre.map (·.1))).flatMap cellI = L0 := ⟨_, rfl⟩
      rw [hL0] at hrw eL hLr
      have hzX : B0 ≤ X2.heap.size := by have := hk2.size; omega
      have lA := lt_of hat
      have nA : A ∉ [SB] := by simp; omega
      have a0 := cell_of hat 0
      have a1 := cell_of hat 1
      have m8 := cell_of hbx 0
      gi_wp2_with fail
      refine ⟨trivial, ?_⟩
      gi_at_call 33
      refine (CallsIn.inRound lp (callsIn_wide.2 (keepNumber B0 v0 (L0.length) (L0) x.1.1.1 2 _ hrw hzX (by omega) (by omega)))).mono ?_
      rintro e y1 ⟨u1, rfl, ho1, hk1⟩
      obtain ⟨g1, c1, rfl⟩ := ownsRow_succ (k := L0.length + 1) ho1
      have hbb1 := hk1.block _ _ hbx (by simp) (.inr (ofT_ne (by decide)))
      have m7 := cell_of hbb1 0
      have m9 := free_of hbb1 0
      have zz1 := Nat.le_trans hzX hk1.size
      obtain ⟨hbx1, hrw1, kt1⟩ := bys_put hbx hk1 ho1
      have hat1 := kt1.block _ _ hat nA (.inr (ofT_ne (by decide)))
      have zw1 := Nat.le_trans hzX kt1.size
      clear a0 a1 m8
      have a0 := cell_of hat1 0
      have a1 := cell_of hat1 1
      have m8 := cell_of hbx1 0
      gi_wp2_with fail
      refine ⟨trivial, ?_⟩
      gi_at_call 33
      refine (CallsIn.inRound lp (callsIn_wide.2 (keepNumber B0 _ (L0.length + 2) (L0 ++ beI 2 x.1.1.1) x.1.1.2 2 _ hrw1 zw1 (by omega) (by omega)))).mono ?_
      rintro e y2 ⟨u2, rfl, ho2, hk2⟩
      obtain ⟨g2, c2, rfl⟩ := ownsRow_succ (k := L0.length + 2 + 1) ho2
      have hbb2 := hk2.block _ _ hbx1 (by simp) (.inr (ofT_ne (by decide)))
      have m7 := cell_of hbb2 0
      have m9 := free_of hbb2 0
      have zz2 := Nat.le_trans zw1 hk2.size
      obtain ⟨hbx2, hrw2, kt2⟩ := bys_put hbx1 hk2 ho2
      have hat2 := kt2.block _ _ hat1 nA (.inr (ofT_ne (by decide)))
      have zw2 := Nat.le_trans zw1 kt2.size
      clear a0 a1 m8
      have a0 := cell_of hat2 0
      have a1 := cell_of hat2 1
      have m8 := cell_of hbx2 0
      gi_wp2_with fail
      refine ⟨trivial, ?_⟩
      gi_at_call 33
      refine (CallsIn.inRound lp (callsIn_wide.2 (keepNumber B0 _ (L0.length + 2 + 2) (L0 ++ beI 2 x.1.1.1 ++ beI 2 x.1.1.2) (x.1.2.t.size : Int) 4 _ hrw2 zw2 (by omega) (by omega)))).mono ?_
      rintro e y3 ⟨u3, rfl, ho3, hk3⟩
      obtain ⟨g3, c3, rfl⟩ := ownsRow_succ (k := L0.length + 2 + 2 + 3) ho3
      have hbb3 := hk3.block _ _ hbx2 (by simp) (.inr (ofT_ne (by decide)))
      have m7 := cell_of hbb3 0
      have m9 := free_of hbb3 0
      have zz3 := Nat.le_trans zw2 hk3.size
      obtain ⟨hbx3, hrw3, kt3⟩ := bys_put hbx2 hk3 ho3
      have hat3 := kt3.block _ _ hat2 nA (.inr (ofT_ne (by decide)))
      have zw3 := Nat.le_trans zw2 kt3.size
      clear a0 a1 m8
      have m8 := cell_of hbx3 0
      have hst : ∀ (v4 : Value) (y4 : World), y4.ownsRow B0 5 1 v4 (L0.length + 2 + 2 + 4 + x.1.2.t.size) (u8L (((L0 ++ beI 2 x.1.1.1) ++ beI 2 x.1.1.2) ++ beI 4 (x.1.2.t.size : Int)) ++ Lib.strCells x.1.2.t) →
          (y3.setCell ⟨SB, 0, none⟩ (.slice (some ⟨g3, 0, none⟩) (L0.length + 2 + 2 + 3 + 1) c3)).grownBy y4 (Value.ownBlock (.slice (some ⟨g3, 0, none⟩) (L0.length + 2 + 2 + 3 + 1) c3)) →
          ∃ g4 c4, v4 = .slice (some ⟨g4, 0, none⟩) (L0.length + 2 + 2 + 4 + x.1.2.t.size) c4 ∧ y4.heap[SB]? = some (.cells #[.slice (some ⟨g3, 0, none⟩) (L0.length + 2 + 2 + 3 + 1) c3] 22 (0, 0)) ∧
            Bys B0 SB (h9 ++ (txtC ((pre ++ [x]).map (·.1))).flatMap cellI) (y4.setCell ⟨SB, 0, none⟩ v4) ∧ KeptT B0 [SB] (some 5) X2 (y4.setCell ⟨SB, 0, none⟩ v4) := fun v4 y4 ho4 hgr4 => by
        have hk4 : KeptT B0 [] (some 5) _ y4 := KeptT.grown hgr4 (fun g hg => by
          rcases hrw3.2 with ⟨h, _⟩ | ⟨g', cap, cur, h, hg', hh, _⟩
          · rw [h] at hg; cases hg
          · rw [h] at hg; cases hg; exact ⟨hg', cur, _, hh⟩)
        rw [strCells_tx, ← List.map_append] at ho4
        obtain ⟨g4, c4, hv4⟩ : ∃ g4 c4, v4 = .slice (some ⟨g4, 0, none⟩) (L0.length + 2 + 2 + 4 + x.1.2.t.size) c4 := by
          rcases ho4.2 with ⟨_, h0⟩ | ⟨g, cap, _, hv, _⟩
          · omega
          · exact ⟨g, cap, hv⟩
        obtain ⟨hbx4, hrw4, kt4⟩ := bys_put hbx3 hk4 ho4
        refine ⟨g4, c4, hv4, hk4.block _ _ hbx3 (by simp) (.inr (ofT_ne (by decide))), ⟨v4, hbx4, ?_⟩, kt1.trans (kt2.trans (kt3.trans kt4))⟩
        rw [eL]
        have el : ((((L0 ++ beI 2 x.1.1.1) ++ beI 2 x.1.1.2) ++ beI 4 (x.1.2.t.size : Int)) ++ txI x.1.2.t).length = L0.length + 2 + 2 + 4 + x.1.2.t.size := by simp [beI_len, txI_len]; omega
        rw [el]
        exact hrw4
      gi_wp2_with (gi_at_builtin; refine wpListIn_append_str rfl _ _ 22 9 rfl B0 5 i0 Tryz.underlying22 Tryz.underlying9 hI hz0 hz1 hz2 _ _ _ rfl hrw3 x.1.2.t rfl (by unfold maxLen; omega) (by omega) zw3 ?_; intro v4 y4 ho4 hgr4; obtain ⟨g4, c4, rfl, hb4, hJ4, hK4⟩ := hst v4 y4 ho4 hgr4; have m7 := cell_of hb4 0; have m9 := free_of hb4 0)
      exact ⟨hK4, hJ4⟩
    · intro D xs W4 hD hS4 hJ hf hK
      have hS' : xs.map (·.1) = sortC (sortC l) := hS4
      obtain ⟨V5, hbx9, hrw9⟩ := hJ
      simp only [hS'] at hrw9
      obtain ⟨L9, hL9⟩ : ∃ L9, h9 ++ (txtC (sortC (sortC l))).flatMap cellI = L9 := ⟨_, rfl⟩
      rw [hL9] at hrw9
      have hzW : B0 ≤ W4.heap.size := by have := hf.size; omega
      have hLe : L9 = headI dd (txtC (sortC (sortC l))) := by
        rw [← hL9, ← hh9, hbs, ← hn]
        simp [headI, sortC_len]
      have hb9 : Hid (∀ c ∈ L9, 0 ≤ c ∧ c < 256) := by
        rw [hLe]
        exact headI_byte hd0 (by omega) _
      have hl9' : L9.length ≤ 3999000 := by
        rw [hLe, headI_len]
        have h1 := bytesN_bd (L := txtC (sortC (sortC l))) (fun y hy => by
          obtain ⟨z, hz, rfl⟩ := List.mem_map.1 hy
          exact HLIT.out.short _ (sortC_mem hz))
        have h2 : (txtC (sortC (sortC l))).length = n := by simp [sortC_len, ← hn]
        rw [h2] at h1
        omega
      have hGt := (hG.trans h6.kt0).trans hf
      have hsum : Hid (∀ u, Fr [] W4 u → Calls Tryz.prog 35 #[V5] u fun e w1 => e = .returned (.int .u64 (fnv L9)) ∧ Fr [] u w1) := fun u hu =>
        keepSum V5 L9 u (own_sl (owns_fr hrw9 hu (fun _ _ => by simp))) hb9.out (by omega)
      have hnum8 : Hid (∀ u, Fr [] W4 u → Calls Tryz.prog 33 #[V5, .int .u64 (fnv L9), .int .i64 8] u fun e w1 => ∃ v2, e = .returned v2 ∧ w1.ownsRow B0 5 1 v2 (L9.length + 8) (u8L (L9 ++ beI 8 (fnv L9))) ∧ KeptT B0 [] (some 5) u w1) := fun u hu =>
        keepNumber B0 V5 L9.length L9 (fnv L9) 8 u (owns_fr hrw9 hu (fun _ _ => by simp)) (Nat.le_trans hzW hu.size) (by omega) (by omega)
      obtain ⟨F9, hF9⟩ : ∃ F9, fnv L9 = F9 := ⟨_, rfl⟩
      rw [hF9] at hsum hnum8
      obtain ⟨T8, hT8⟩ : ∃ T8, L9 ++ beI 8 F9 = T8 := ⟨_, rfl⟩
      rw [hT8] at hnum8
      obtain ⟨N8, hN8⟩ : ∃ N8, L9.length + 8 = N8 := ⟨_, rfl⟩
      rw [hN8] at hnum8
      have hTl : T8.length = N8 := by rw [← hT8, List.length_append, beI_len, hN8]
      gi_wp2_with fail
      refine wpIn_wide.2 ?_
      refine wp_facts (fun u => KeptT B0 [SB] (some 5) W4 u) (fun i u u' => if i = 3 then KeptT B0 [] (some 5) u u' else Fr [] u u') [(5, .pointer (some ⟨SB, 0, none⟩))] [[], [], [1], [0, 2, 1], [3], []]
        (fun i σ u => match i with
          | 0 => σ 46 = V5
          | 1 => σ 47 = V5
          | 2 => σ 48 = .int .u64 F9
          | 3 => ∃ v2, σ 49 = v2 ∧ u.ownsRow B0 5 1 v2 N8 (u8L T8)
          | 4 => ∃ v2, σ 2 = v2 ∧ u.ownsRow B0 5 1 v2 N8 (u8L T8)
          | _ => σ 3 = .int .i64 0) (fun i u => (i = 0 ∨ i = 1 ∨ i = 2 ∨ i = 3) → Fr [] W4 u)
        (ds := [46, 47, 48, 49, 2, 3]) (fr := ?fr13) (by kernel_rfl) ?hfr13 ⟨rfl, trivial⟩ rfl rfl (by kernel_rfl) (by kernel_rfl) (by decide) rfl (Fr.refl _ _).drew.kt0 (fun _ _ _ => (Fr.refl _ _).drew) ⟨fun j hj i u u' hij hc hG hR hN e => by have h4 : i ≠ 3 := (by rintro rfl; rcases e with rfl | rfl | rfl | rfl <;> first | exact hij rfl | exact absurd hc (by decide)); rw [if_neg h4] at hR; exact (hN e).trans0 hR, fun i u u' hG hR => (by split at hR; exact hG.trans (hR.mono (Nat.le_refl _) (by simp)); exact hG.trans hR.kt0), ?_, ?_⟩ ?_
      case hfr13 =>
        intro σ
        simp only [layA, List.foldl_cons, List.foldl_nil, List.setIfInBounds_toArray, List.set_cons_zero, List.set_cons_succ]
        rfl
      · intro j hj i σ σ' u u' hij hs hd hG hR h
        have hj : j < 6 := hj
        rcases (by omega : j = 3 ∨ j = 4 ∨ j = 0 ∨ j = 1 ∨ j = 2 ∨ j = 5) with rfl | rfl | rfl | rfl | rfl | rfl
        · obtain ⟨v2, h1, h2⟩ := h; rw [if_neg hij] at hR; exact ⟨v2, hs.trans h1, owns_fr h2 hR (fun _ _ => by simp)⟩
        · obtain ⟨v2, h1, h2⟩ := h; rw [if_neg (fun e => (hd 3 rfl).2 e)] at hR; exact ⟨v2, hs.trans h1, owns_fr h2 hR (fun _ _ => by simp)⟩
        all_goals exact hs.trans h
      · intro i hi
        have hi : i < 6 := hi
        rcases (by omega : (i = 5) ∨ (i = 0 ∨ i = 1 ∨ i = 2 ∨ i = 3 ∨ i = 4)) with hi | hi
        · subst hi
          all_goals
            intro a u K hX hG hD hN hZ hK
            obtain ⟨hx5, -⟩ := hX
            try dsimp only [AllF, slotsA, List.getD_cons_zero, List.getD_cons_succ] at hD
            first | obtain ⟨e0, e1, e2, e3, -⟩ := hD | obtain ⟨e0, e1, e2, -⟩ := hD | obtain ⟨e0, e1, -⟩ := hD | obtain ⟨e0, -⟩ := hD | skip
            try replace e0 : _ = _ := e0
            try replace e1 : _ = _ := e1
            try replace e2 : _ = _ := e2
            try replace e3 : _ = _ := e3
            refine wpOp_step rfl (fun K' hK' => ?_)
            go_simp
            exact hK' _ _ (hK _ _ (Fr.refl _ _) rfl)
        · rcases hi with rfl | rfl | rfl | rfl | rfl
          all_goals
            intro a u K hX hG hD hN hZ hK
            obtain ⟨hx5, -⟩ := hX
            try dsimp only [AllF, slotsA, List.getD_cons_zero, List.getD_cons_succ] at hD
          · have m8 := cell_of ((hN (by simp)).heap hbx9 (by simp)) 0
            refine wpOp_step rfl (fun K' hK' => ?_)
            go_simp
            exact hK' _ _ (hK _ _ (Fr.refl _ _) rfl)
          · have m8 := cell_of ((hN (by simp)).heap hbx9 (by simp)) 0
            refine wpOp_step rfl (fun K' hK' => ?_)
            go_simp
            exact hK' _ _ (hK _ _ (Fr.refl _ _) rfl)
          · obtain ⟨d1, -⟩ := hD
            replace d1 : _ = _ := d1
            refine wpOp_step rfl (fun K' hK' => ?_)
            go_simp
            refine (hsum.out u (hN (by simp))).mono ?_
            rintro e u2 ⟨rfl, hF⟩
            exact hK' _ _ (hK _ _ hF rfl)
          · obtain ⟨d0, d2, -⟩ := hD
            replace d0 : _ = _ := d0
            replace d2 : _ = _ := d2
            refine wpOp_step rfl (fun K' hK' => ?_)
            go_simp
            refine (hnum8.out u (hN (by simp))).mono ?_
            rintro e u2 ⟨v2, rfl, ho, hk⟩
            exact hK' _ _ (hK _ _ hk ⟨v2, rfl, ho⟩)
          · obtain ⟨⟨v2, d3, ho⟩, -⟩ := hD
            replace d3 : _ = _ := d3
            refine wpOp_step rfl (fun K' hK' => ?_)
            go_simp
            exact hK' _ _ (hK _ _ (Fr.refl _ _) ⟨v2, rfl, ho⟩)
      · intro σ9 u9 hG9 h
        obtain ⟨v2, e2, ho⟩ := h 4 (by decide)
        have e3 : σ9 3 = _ := h 5 (by decide)
        rw [e2, e3]
        have hK2 := hG9.block _ _ hK (by simp; omega) (.inr rfl)
        clear h
        gi_wp2
        have hfD : Fr [D] u9 (u9.putObj D (.deferred none)) :=
          have g := grownBy_putObj' u9 D (.deferred none)
          ⟨g.os, g.tape, g.output, g.size, fun k _ hn => World.putObj_heap_other (by simpa using hn)⟩
        have hzD : W.heap.size ≤ D := by have := hG.size; omega
        have hFt := ((KeptT.trans (hFW.kt0 (B := B0) (S := [SB]) (T := some 5)) (hGt.trans hG9)))
        rw [← HB0.out] at hFt
        have hFr : Fr [] w u9 := hFt.fr.mono (by simp; omega)
        refine ⟨by simp, .inl ⟨_, _, rfl, run_takeDeferred hK2, ?_⟩⟩
        refine ⟨.tuple #[v2, .int .i64 0], by simp [results, Tryz.results15, go_sem], v2, _, rfl, rfl, ?_, hFr.trans hfD (by have := hFW.size; simp; omega)⟩
        rw [← hLe, HB0.out, hF9, hT8, hTl]
        have ho' := owns_fr ho hfD (fun g hg hm => by rw [List.mem_singleton] at hm; subst hm; exact own_neD ho hK2 hg)
        exact ho'
    · intro D c pre W _ _ h _
      exact h.elim
end
end Go.Proofs.YtnmkhoebijodhaaGreatDoor
