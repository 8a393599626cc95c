/-
  sheet.Copy: another sheet with the same cells, in row order.
  sheet.Text, Len; sheet.Differ: a row of places, at most so many.
-/
import Derived.Test.YtnmkhoebijodhaaGreatDoorShP
import Derived.Test.YtnmkhoebijodhaaGreatDoorSort
namespace Go.Proofs.YtnmkhoebijodhaaGreatDoor
section
open Go.RowKit Go.Shelf
attribute [local go_sem] Oper.semAt_some

theorem ownFrom_tabC {β : Type} {T : TypeId} {enc : Cel → Value} {B tb mb : Nat} (f : β → List (Sp × Cel)) (h1 : tb < B) (h2 : mb < B) : OwnFrom B (fun s W => TabIs T enc W tb mb (f s)) := fun s X Y row hs hg hr => by
  have hb : ∀ k, k < B → some k ≠ row := fun k hk e => by have := (hr k e.symm).1; omega
  refine ⟨(hg.block tb (lt_of hs.tab) (hb tb h1)).trans hs.tab, ?_⟩
  obtain ⟨es, clock, h, r⟩ := hs.map
  exact ⟨es, clock, (hg.block mb (lt_of h) (hb mb h2)).trans h, r⟩

theorem ShB.ne {w : World} {p tb mb : Nat} {b : Int} {l : List (Sp × Cel)} (h : ShB w p tb mb b l) : p ≠ tb ∧ p ≠ mb := by
  constructor
  · rintro rfl
    have h1 := h.tab.tab
    rw [h.sh] at h1
    injection h1 with h1
    injection h1 with h2 h3 h4
    cases h3
  · rintro rfl
    obtain ⟨_, _, h1, _⟩ := h.tab.map
    rw [h.sh] at h1
    cases h1

set_option maxRecDepth 100000 in
set_option maxHeartbeats 3200000 in
theorem shCopy_in (p tb mb : Nat) (b : Int) (l : List (Sp × Cel)) (w : World) (h : ShB w p tb mb b l) (hl : l.length ≤ 65536) (hm : Mays l) :
    CallsIn Fence.wide 5 Tryz.prog 30 #[.pointer (some ⟨p, 0, none⟩)] w fun e w1 => ∃ p2 tb2 mb2, e = .returned (.pointer (some ⟨p2, 0, none⟩)) ∧
      w.heap.size ≤ p2 ∧ w.heap.size ≤ tb2 ∧ w.heap.size ≤ mb2 ∧ ShB w1 p2 tb2 mb2 b (sortC l) ∧ Fr [] w w1 := by
  have hins : Hid (insR (sortC l) = sortC l) := insR_self _ _ rfl (sortC_nodup h.tab.nodup) hm.sort (by rw [sortC_len]; exact hl)
  have hRl : (sortC l).length ≤ 65536 := by rw [sortC_len]; exact hl
  have HRL := Lib.hid hRl
  have HL := Lib.hid hl
  have H := Lib.hid h
  have c0 := cell_of h.sh 0
  have c1 := cell_of h.sh 1
  have hlt := lt_of h.sh
  clear h hl hm hRl
  refine callsIn_of_wp_marks Tryz.func30 rfl trivial ?_ rfl
  simp only [Tryz.ntmps30, List.size_toArray, List.length_cons, List.length_nil, Nat.reduceAdd, Nat.reduceSub, Array.replicate_succ, Array.replicate_zero, List.push_toArray, List.append_toArray, List.nil_append, List.cons_append]
  gi_wp2_with fail
  refine ⟨trivial, ?_⟩
  gi_at_call 28
  refine (callsIn_wide.2 (newSh _)).mono ?_
  rintro e w1 ⟨p2, tb2, mb2, rfl, lp, lt, lm, hS2, h1⟩
  have c0 := ce_call h1 c0
  have c1 := ce_call h1 c1
  have hlt1 := Nat.lt_of_lt_of_le hlt h1.size
  have HS2 := Lib.hid hS2
  have H1 := Lib.hid (H.out.fr0 h1)
  clear hS2
  gi_wp2_with fail
  have hA := (Fr.refl [] w1).alloc (.cells #[.pointer (some ⟨p2, 0, none⟩)] 55)
  have hO := heap_new w1 (.cells #[.pointer (some ⟨p2, 0, none⟩)] 55)
  have c0 := ce_call hA c0
  have c1 := ce_call hA c1
  have hf2 := h1.trans0 hA
  have H2 := Lib.hid (H1.out.fr0 hA)
  have HS3 := Lib.hid (HS2.out.fr0 hA)
  refine ⟨trivial, ?_⟩
  gi_at_call 58
  refine (callsIn_wide.2 (all_Cell tb mb l _ H2.out.tab HL.out)).mono ?_
  rintro e w3 ⟨B, rv, rfl, hI, h3⟩
  have hf3 := hf2.trans0 h3
  have c1 := ce_call h3 c1
  have hO3 := h3.heap hO (by simp)
  have HS4 := Lib.hid (HS3.out.fr0 h3)
  have hz1 := h1.size
  have hz3 := h3.size
  have hzA := hA.size
  have HI := Lib.hid (show IterCell _ w3 B rv (sortC l) from hI)
  have HS3t := HS3.out.tab.tab
  obtain ⟨hne1, hne2⟩ := HS3.out.ne
  have hp2w := lt_of HS2.out.sh
  have h1t := lt_of HS2.out.tab.tab
  have h1m := HS2.out.tab.map.lt
  have HS3m := HS3.out.tab.map.lt
  clear hI hO H2 HS3 H1 HS2
  generalize hRe : sortC l = R at *
  obtain ⟨ob, hob⟩ : ∃ ob, w1.heap.size = ob := ⟨_, rfl⟩
  simp only [hob] at hO3 ⊢
  gi_wp2
  refine range_L (gf := 114) (lb := #[.pointer (some ⟨B, 0, none⟩)]) rfl (enters_of Tryz.func114 (by kernel_rfl) rfl) w3.heap.size [tb2, mb2] none ?_
    (seqOver w3.heap.size [tb2, mb2] none _ B rv R w3 HI.out.box HI.out.own (by have := HRL.out; omega) (by simp) ?_) ?_
    (fun pre W => TabIs 163 (fun x : Cel => Cel.val x) W tb2 mb2 (insR (pre.map (·.1)))) (fun _ _ _ => False) ?_ (fun _ _ _ _ _ h _ _ => h) ?_ ?_ ?_ ?_
  · intro k hk
    simp only [List.mem_cons, List.not_mem_nil, or_false] at hk
    rcases hk with rfl | rfl
    · exact lt_of HS4.out.tab.tab
    · exact HS4.out.tab.map.lt
  · intro g hg hm
    have h1 := (HI.out.own.lt g hg).1
    have h2 := lt_of HS3t
    have h4 := HS3m
    simp only [List.mem_cons, List.not_mem_nil, or_false] at hm
    rcases hm with rfl | rfl <;> omega
  · exact fun _ => rfl
  · exact ownFrom_tabC (fun pre : List {x // x ∈ R} => insR (pre.map (·.1))) (lt_of HS4.out.tab.tab) HS4.out.tab.map.lt
  · exact HS4.out.tab
  · intro l2 pre x X hl2 hj hk hlen
    gi_wp2
    refine ⟨((Fr.refl [] X).alloc _).alloc _, ?_⟩
    intro X2 hcs hsz hr hj2 hk2
    have hat := hcs X.heap.size _ _ _ (((Fr.refl [] _).alloc _).heap (heap_new X _) (by simp))
    have hxx := hcs (X.heap.size + 1) _ _ _ (hp_new (by simp))
    have hXz := hk.size
    obtain ⟨A, hAe⟩ : ∃ A, X.heap.size = A := ⟨_, rfl⟩
    simp only [hAe] at hat hxx hXz ⊢
    have hk3 := hk2.fr_none
    have hO4 := hk3.heap hO3 (by simp; omega)
    have hP4 := hk3.heap HS4.out.sh (by simp [hne1, hne2])
    have o0 := cell_of hO4 0
    have q0 := cell_of hP4 0
    have a0 := cell_of hat 0
    have a1 := cell_of hat 1
    have lO := lt_of hO4
    have lP := lt_of hP4
    have lA := lt_of hat
    have lS1 := lt_of HS4.out.tab.tab
    have lS2 := HS4.out.tab.map.lt
    have nO : ob ∉ [tb2, mb2] := by simp; omega
    have nP : p2 ∉ [tb2, mb2] := by simp [hne1, hne2]
    have nA : A ∉ [tb2, mb2] := by simp; omega
    have nA1 : A + 1 ∉ [tb2, mb2] := by simp; omega
    gi_wp2_with fail
    refine wp_factsN (fun u => Fr [tb2, mb2] X2 u) (fun i u u' => Fr (if i = 6 then [tb2, mb2] else []) u u') [(3, .pointer (some ⟨ob, 0, none⟩)), (4, .pointer (some ⟨A, 0, none⟩)), (5, .pointer (some ⟨(A + 1), 0, none⟩))] [[], [0], [1], [2], [], [], [3, 4, 5]]
      (fun i σ u => match i with
        | 0 => σ 14 = .pointer (some ⟨p2, 0, none⟩)
        | 1 => σ 15 = .pointer (some ⟨p2, 0, none⟩)
        | 2 => σ 16 = .pointer (some ⟨p2, 0, none⟩)
        | 3 => σ 17 = .pointer (some ⟨tb2, 0, none⟩)
        | 4 => σ 18 = spV x.1.1
        | 5 => σ 19 = Cel.val x.1.2
        | _ => TabIs 163 (fun x : Cel => Cel.val x) u tb2 mb2 (setL x.1.1 x.1.2 (insR (pre.map (·.1))))) (fun i u => i = 6 → Fr [] X2 u)
      (ds := [14, 15, 16, 17, 18, 19, 20]) (fr := ?fr5) (by kernel_rfl) ?hfr5 ⟨rfl, rfl, rfl, trivial⟩ rfl rfl (by kernel_rfl) (by kernel_rfl) (by decide) rfl (by kernel_rfl) ?hlets5 (Fr.refl _ _).drew (fun _ _ _ => (Fr.refl _ _).drew) ⟨fun j hj i u u' hij _ hG hR hN e => (hN e).trans0 (by subst e; rwa [if_neg hij] at hR), fun i u u' hG hR => (by split at hR; exact hG.transS hR; exact hG.trans0 hR), ?_, ?_⟩ ?_
    case hfr5 =>
      intro σ
      simp only [layA, List.foldl_cons, List.foldl_nil, List.setIfInBounds_toArray, List.set_cons_zero, List.set_cons_succ]
      rfl
    case hlets5 => rintro ⟨_, _, h⟩; exact h
    · intro j hj i σ σ' u u' hij hs hd hG hR h
      have hj : j < 7 := hj
      rcases (by omega : j = 6 ∨ j = 0 ∨ j = 1 ∨ j = 2 ∨ j = 3 ∨ j = 4 ∨ j = 5) with rfl | rfl | rfl | rfl | rfl | rfl | rfl
      · rw [if_neg (by omega)] at hR; exact h.fr hR (by simp) (by simp)
      all_goals exact hs.trans h
    · intro i hi
      have hi : i < 7 := hi
      rcases (by omega : (i = 0 ∨ i = 1 ∨ i = 2 ∨ i = 3 ∨ i = 4) ∨ (i = 5 ∨ i = 6)) with hi | hi
      · rcases hi with rfl | rfl | rfl | rfl | rfl
        all_goals
          intro a u K hX hG hD hN hZ hK
          obtain ⟨hx3, hx4, hx5, -⟩ := hX
          try dsimp only [AllF, slotsA, List.getD_cons_zero, List.getD_cons_succ] at hD
          first | obtain ⟨e0, e1, e2, e3, -⟩ := hD | obtain ⟨e0, e1, e2, -⟩ := hD | obtain ⟨e0, e1, -⟩ := hD | obtain ⟨e0, -⟩ := hD | skip
          try replace e0 : _ = _ := e0
          try replace e1 : _ = _ := e1
          try replace e2 : _ = _ := e2
          try replace e3 : _ = _ := e3
          have m0 := (hG.cell (p := ⟨ob, 0, none⟩) lO nO).trans o0
          have m1 := (hG.cell (p := ⟨p2, 0, none⟩) lP nP).trans q0
          have m2 := (hG.cell (p := ⟨A, 0, none⟩) lA nA).trans a0
          have m3 := (hG.cell (p := ⟨A, 1, none⟩) lA nA).trans a1
          refine wpOp_step rfl (fun K' hK' => ?_)
          go_simp
          exact hK' _ _ (hK _ _ (Fr.refl _ _) rfl)
      · rcases hi with rfl | rfl
        all_goals
          intro a u K hX hG hD hN hZ hK
          obtain ⟨hx3, hx4, hx5, -⟩ := hX
          try dsimp only [AllF, slotsA, List.getD_cons_zero, List.getD_cons_succ] at hD
          have m0 := (hG.cell (p := ⟨ob, 0, none⟩) lO nO).trans o0
          have m1 := (hG.cell (p := ⟨p2, 0, none⟩) lP nP).trans q0
          have m2 := (hG.cell (p := ⟨A, 0, none⟩) lA nA).trans a0
          have m3 := (hG.cell (p := ⟨A, 1, none⟩) lA nA).trans a1
        · exact wpOp_plain rfl rfl (wp_load_mid 106 (.tmp 5) rfl (A + 1) 0 ((eval_tmp a 5).trans hx5) (((#[.string x.1.2.t, .int .i64 x.1.2.k, .int .i64 x.1.2.x.k, .int .i64 x.1.2.x.o, .int .i64 x.1.2.x.n, .string x.1.2.x.s, .int .i64 x.1.2.x.r, .int .i64 x.1.2.x.c, .bool x.1.2.x.pr, .bool x.1.2.x.pc, .int .i64 x.1.2.x.r2, .int .i64 x.1.2.x.c2, .bool x.1.2.x.pr2, .bool x.1.2.x.pc2, .int .i64 x.1.2.x.f, .slice x.1.2.x.kp x.1.2.x.kn x.1.2.x.kc] : Array Value).toList.drop 0).take 16) _ (rangeAt_of (hG.heap hxx nA1) 0 16) Tryz.underlying106 rfl (by kernel_rfl) (hK _ _ (Fr.refl _ _) rfl))
        · obtain ⟨d3, d4, d5, -⟩ := hD
          replace d3 : _ = _ := d3
          replace d4 : _ = _ := d4
          replace d5 : _ = _ := d5
          refine wpOp_step rfl (fun K' hK' => ?_)
          go_simp
          refine (set_Cell tb2 mb2 x.1.1 x.1.2 _ u (hj2.fr (hN rfl) (by simp) (by simp))).mono ?_
          rintro e u2 ⟨rfl, hT5, hF⟩
          exact hK' _ _ (hK _ _ hF hT5)
    · intro σ u hG h
      have h6 := h 6 (by decide)
      refine ⟨hG.keptT _ _, ?_⟩
      dsimp only
      rw [List.map_append, List.map_cons, List.map_nil, insR_snoc]
      exact h6
  · intro D xs W hD hS hJ hf hK
    have hk3 := hf.fr_none
    have lS1 := lt_of HS4.out.tab.tab
    have lS2 := HS4.out.tab.map.lt
    have hO4 := hk3.heap hO3 (by simp; omega)
    have hP4 := hk3.heap HS4.out.sh (by simp [hne1, hne2])
    have o0 := cell_of hO4 0
    have lO := lt_of hO4
    have np3 : p ∉ [tb2, mb2] := by simp; omega
    have hlt3 : p < w3.heap.size := Nat.lt_of_lt_of_le hlt hf3.size
    have c1 := (hk3.cell (p := ⟨p, 1, none⟩) hlt3 np3).trans c1
    have lpp : p < W.heap.size := Nat.lt_of_lt_of_le hlt3 hk3.size
    have nO : ob ∉ [p2] := by simp; omega
    have np : p ∉ [p2] := by simp; omega
    gi_wp2_with fail
    refine wpIn_wide.2 ?_
    refine wp_facts (fun u => Fr [p2] W u) (fun i u u' => Fr (if i = 7 then [p2] else []) u u') [(0, .pointer (some ⟨p, 0, none⟩)), (3, .pointer (some ⟨ob, 0, none⟩))] [[], [], [1], [2], [3], [0], [5], [6, 4]]
      (fun i σ u => match i with
        | 0 => σ 21 = .pointer (some ⟨p2, 0, none⟩)
        | 1 => σ 22 = .pointer (some ⟨p, 0, none⟩)
        | 2 => σ 23 = .pointer (some ⟨p, 0, none⟩)
        | 3 => σ 24 = .pointer (some ⟨p, 1, none⟩)
        | 4 => σ 25 = .int .i64 b
        | 5 => σ 26 = .pointer (some ⟨p2, 0, none⟩)
        | 6 => σ 27 = .pointer (some ⟨p2, 1, none⟩)
        | _ => u.heap[p2]? = some (.cells #[.pointer (some ⟨tb2, 0, none⟩), .int .i64 b] 99 (0, 0))) (fun i u => i = 7 → Fr [] W u)
      (ds := [21, 22, 23, 24, 25, 26, 27]) (fr := ?fr6) (by kernel_rfl) ?hfr6 ⟨rfl, rfl, trivial⟩ rfl rfl (by kernel_rfl) (by kernel_rfl) (by decide) rfl (Fr.refl _ _).drew (fun _ _ _ => (Fr.refl _ _).drew) ⟨fun j hj i u u' hij _ hG hR hN e => (hN e).trans0 (by subst e; rwa [if_neg hij] at hR), fun i u u' hG hR => (by split at hR; exact hG.transS hR; exact hG.trans0 hR), ?_, ?_⟩ ?_
    case hfr6 =>
      intro σ
      simp only [layA, List.foldl_cons, List.foldl_nil, List.setIfInBounds_toArray, List.set_cons_zero, List.set_cons_succ]
      rfl
    · intro j hj i σ σ' u u' hij hs hd hG hR h
      have hj : j < 8 := hj
      rcases (by omega : j = 7 ∨ j = 0 ∨ j = 1 ∨ j = 2 ∨ j = 3 ∨ j = 4 ∨ j = 5 ∨ j = 6) with rfl | rfl | rfl | rfl | rfl | rfl | rfl | rfl
      · rw [if_neg (by omega)] at hR; exact hR.heap h (by simp)
      all_goals exact hs.trans h
    · intro i hi
      have hi : i < 8 := hi
      rcases (by omega : (i = 0 ∨ i = 1 ∨ i = 2 ∨ i = 3 ∨ i = 4 ∨ i = 5 ∨ i = 6) ∨ (i = 7)) with hi | hi
      · rcases hi with rfl | rfl | rfl | rfl | rfl | rfl | rfl
        all_goals
          intro a u K hX hG hD hN hZ hK
          obtain ⟨hx0, hx3, -⟩ := hX
          try dsimp only [AllF, slotsA, List.getD_cons_zero, List.getD_cons_succ] at hD
          first | obtain ⟨e0, e1, e2, e3, -⟩ := hD | obtain ⟨e0, e1, e2, -⟩ := hD | obtain ⟨e0, e1, -⟩ := hD | obtain ⟨e0, -⟩ := hD | skip
          try replace e0 : _ = _ := e0
          try replace e1 : _ = _ := e1
          try replace e2 : _ = _ := e2
          try replace e3 : _ = _ := e3
          have m0 := (hG.cell (p := ⟨ob, 0, none⟩) lO nO).trans o0
          have m1 := (hG.cell (p := ⟨p, 1, none⟩) lpp np).trans c1
          refine wpOp_step rfl (fun K' hK' => ?_)
          go_simp
          exact hK' _ _ (hK _ _ (Fr.refl _ _) rfl)
      · subst hi
        all_goals
          intro a u K hX hG hD hN hZ hK
          obtain ⟨hx0, hx3, -⟩ := hX
          try dsimp only [AllF, slotsA, List.getD_cons_zero, List.getD_cons_succ] at hD
          have m0 := (hG.cell (p := ⟨ob, 0, none⟩) lO nO).trans o0
          have m1 := (hG.cell (p := ⟨p, 1, none⟩) lpp np).trans c1
        · obtain ⟨d6, d4, -⟩ := hD
          replace d6 : _ = _ := d6
          replace d4 : _ = _ := d4
          have hP := (hN rfl).heap hP4 (by simp)
          have q1 := cell_of hP 1
          have f1 := free_of hP 1
          refine wpOp_step rfl (fun K' hK' => ?_)
          go_simp
          exact hK' _ _ (hK undef _ ((Fr.refl _ _).setCell (.inl (by simp)) _) (set_of hP 1 _))
    · intro σ u hG h
      have h7 := h 7 (by decide)
      have o1 := (hG.cell (p := ⟨ob, 0, none⟩) lO nO).trans o0
      have hK2 := hG.heap hK (by simp; omega)
      have hT := hJ.fr hG (by simp; exact fun e => hne1 e.symm) (by simp; exact fun e => hne2 e.symm)
      clear h
      gi_wp2
      have hfD : Fr [D] u (u.putObj D (.deferred none)) :=
        have g := grownBy_putObj' u D (.deferred none)
        ⟨g.os, g.tape, g.output, g.size, fun k _ hn => World.putObj_heap_other (by simpa using hn)⟩
      refine ⟨by simp, .inl ⟨_, _, rfl, run_takeDeferred hK2, ?_⟩⟩
      have hS' : xs.map (·.1) = R := hS
      have hT2 := hT.fr hfD (by simp; omega) (by simp; omega)
      simp only [hS', hins.out] at hT2
      refine ⟨_, results_tmp rfl _ _ _, ?_⟩
      refine ⟨p2, rfl, lp, tb2, lt, mb2, lm, ⟨hfD.heap h7 (by simp; omega), hRe ▸ hT2⟩, ((hf3.trans hk3 (by simp; omega)).trans hG (by simp; omega)).trans hfD (by simp; omega)⟩
  · intro D c pre W _ _ h _
    exact h.elim
end
section
open Go.RowKit Go.Shelf
attribute [local go_sem] Oper.semAt_some

set_option maxRecDepth 100000 in
theorem shText (p tb mb : Nat) (b : Int) (s : Sp) (l : List (Sp × Cel)) (w : World) (h : ShB w p tb mb b l) :
    Calls Tryz.prog 20 #[.pointer (some ⟨p, 0, none⟩), spV s] w fun e w1 => e = .returned (.string ((getS s l).getD cel0).t) ∧ Fr [] w w1 := by
  have hg : Hid (∀ u, ShB u p tb mb b l → Calls Tryz.prog 42 #[.pointer (some ⟨p, 0, none⟩), spV s] u fun e w1 => e = .returned ((getS s l).getD cel0).val ∧ Fr [] u w1) := fun u hu => shGet p tb mb b s l u hu
  have H := Lib.hid h
  clear h
  generalize (getS s l).getD cel0 = x at hg ⊢
  go_enter Tryz.func20, Tryz.ntmps20
  go_wp2_with fail
  refine (hg.out _ (H.out.fr0 ((Fr.refl [] w).alloc _))).mono ?_
  rintro e w1 ⟨rfl, hf⟩
  have hfield : ∀ u : World, (Instr.field 106 (.agg #[.string x.t, .int .i64 x.k, .int .i64 x.x.k, .int .i64 x.x.o, .int .i64 x.x.n, .string x.x.s, .int .i64 x.x.r, .int .i64 x.x.c, .bool x.x.pr, .bool x.x.pc, .int .i64 x.x.r2, .int .i64 x.x.c2, .bool x.x.pr2, .bool x.x.pc2, .int .i64 x.x.f, .slice x.x.kp x.x.kn x.x.kc]) 0).run Tryz.prog u = .ok (.string x.t) u := fun u => by kernel_rfl
  dsimp only [Cel.val]
  go_wp2
  go_ret
  exact ⟨rfl, ((Fr.refl [] w).alloc _).trans0 hf⟩

theorem shLen (p tb mb : Nat) (b : Int) (l : List (Sp × Cel)) (w : World) (h : ShB w p tb mb b l) :
    Calls Tryz.prog 19 #[.pointer (some ⟨p, 0, none⟩)] w fun e w1 => e = .returned (.int .i64 (l.length : Int)) ∧ Fr [] w w1 := by
  obtain ⟨hst, hT⟩ := h
  have c0 := cell_of hst 0
  have hlt := lt_of hst
  have HC : Hid (Calls Tryz.prog 41 #[.pointer (some ⟨tb, 0, none⟩)] w fun e w1 => e = .returned (.int .i64 (l.length : Int)) ∧ Fr [] w w1) := len_Cell tb mb l w hT
  generalize (l.length : Int) = n at HC ⊢
  clear hst hT
  go_enter Tryz.func19, Tryz.ntmps19
  go_wp2_with fail
  refine HC.out.mono ?_
  rintro e w1 ⟨rfl, hf⟩
  go_wp2
  go_ret
  exact ⟨rfl, hf⟩

/-- A box that holds a row of the caller's own: places, at most N of them. -/
def SpRow (B0 lb N : Nat) (W : World) : Prop := ∃ (v : Value) (ss : List Sp), Boxed W lb 28 v ∧ W.ownsRow B0 33 2 v ss.length (ss.flatMap spC) ∧ ss.length ≤ N
theorem SpRow.mono {B0 lb N M : Nat} {W : World} (h : SpRow B0 lb N W) (hN : N ≤ M) : SpRow B0 lb M W := by
  obtain ⟨v, ss, h1, h2, h3⟩ := h
  exact ⟨v, ss, h1, h2, Nat.le_trans h3 hN⟩
theorem spRow_own {β : Type} {C B0 lb : Nat} (f : β → Nat) : OwnFrom C (fun s W => SpRow B0 lb (f s) W) := by
  rintro s X Y row ⟨v, ss, hb, ho, hn⟩ hg hr
  obtain ⟨v', h1, h2, _⟩ := (Own.from (holdsRow_own B0 lb 28 33 2 (fun ss : List Sp => ss.length) (fun ss => ss.flatMap spC) (fun _ _ => True)) C) ss X Y row ⟨v, hb, ho, trivial⟩ hg hr
  exact ⟨v', ss, h1, h2, hn⟩
theorem SpRow.fr {B0 lb N : Nat} {W W1 : World} {S : List Nat} (h : SpRow B0 lb N W) (hf : Fr S W W1) (hl : lb ∉ S) (hS : ∀ k ∈ S, k < B0) : SpRow B0 lb N W1 := by
  obtain ⟨v, ss, h1, h2, h3⟩ := h
  exact ⟨v, ss, hf.heap h1 hl, owns_fr h2 hf (fun g hg hm => by have := (h2.lt g hg).1; have := hS g hm; omega), h3⟩
theorem setCell_keptT {B : Nat} {S : List Nat} {T : Option TypeId} (W : World) {p : Addr} (hp : p.block ∈ S) (v : Value) : KeptT B S T W (W.setCell p v) :=
  ⟨rfl, rfl, rfl, by simp [World.setCell], fun k o hk hn _ => (Below.heap_setCell W p v k (by rintro rfl; exact hn hp)).trans hk⟩
/-- 'out = append(out, ..)' in the body of a round: what that keeps. -/
theorem Boxed.appT {W w1 : World} {n0 B : Nat} {e : TypeId} {size : Nat} {v v' : Value} {k : Nat} {xs : List Value} {tmp : Obj} (hrow : W.ownsRow n0 e size v k xs) (hgrow : (W.alloc tmp).grownBy w1 v.ownBlock) :
    KeptT n0 [B] (some e) W (w1.setCell ⟨B, 0, none⟩ v') := by
  have h1 : KeptT n0 [B] (some e) (W.alloc tmp) w1 := KeptT.grown hgrow (fun k hk => by
    rcases hrow.2 with ⟨h, _⟩ | ⟨g, cap, cur, h, hg, hh, _⟩
    · rw [h] at hk; cases hk
    · rw [h] at hk; cases hk
      exact ⟨hg, cur, _, ((Fr.refl [] W).alloc tmp).heap hh (by simp)⟩)
  exact ((((Fr.refl [] W).alloc tmp).keptT n0 (some e)).mono (Nat.le_refl _) (by simp)).trans (h1.trans (setCell_keptT w1 (by simp) v'))
theorem ShB.keptT {w w1 : World} {p tb mb : Nat} {b : Int} {l : List (Sp × Cel)} (h : ShB w p tb mb b l) {B : Nat} {S : List Nat} {T : Option TypeId} (hk : KeptT B S T w w1) (h1 : p < B ∧ tb < B ∧ mb < B) (n1 : p ∉ S) (n2 : tb ∉ S) (n3 : mb ∉ S) : ShB w1 p tb mb b l := by
  refine ⟨hk.block _ _ h.sh n1 (.inl h1.1), hk.block _ _ h.tab.tab n2 (.inl h1.2.1), ?_⟩
  obtain ⟨es, clock, hm, r⟩ := h.tab.map
  exact ⟨es, clock, hk.block _ _ hm n3 (.inl h1.2.2), r⟩
theorem ShB.lts {w : World} {p tb mb : Nat} {b : Int} {l : List (Sp × Cel)} (h : ShB w p tb mb b l) : p < w.heap.size ∧ tb < w.heap.size ∧ mb < w.heap.size := ⟨lt_of h.sh, lt_of h.tab.tab, h.tab.map.lt⟩

theorem sortRow (B0 n : Nat) (v : Value) (ss : List Sp) (w : World) (hrow : w.ownsRow B0 33 2 v ss.length (ss.flatMap spC)) (hss : ss.length ≤ 200000) :
    CallsIn Fence.wide n Tryz.prog 92 #[v, .func (.func 67) #[] #[]] w fun e w1 => e = .returned (.tuple #[]) ∧ w1.ownsRow B0 33 2 v (sortS ss).length ((sortS ss).flatMap spC) ∧ w.grownBy w1 v.ownBlock := by
  have hsl : (sortS ss).length = ss.length := (sortS_perm ss).length_eq
  rcases hrow.2 with ⟨rfl, hz⟩ | ⟨gb, cap, cur, rfl, hbase, hgb, r1, r2, r3, r4⟩
  · have hs0 : ss = [] := List.eq_nil_of_length_eq_zero hz
    subst hs0
    refine (callsIn_wide.2 (sortNoneS 0 none _ w)).mono ?_
    rintro e w' ⟨rfl, rfl⟩
    exact ⟨rfl, by simpa [sortS] using hrow, ⟨rfl, rfl, rfl, Nat.le_refl _, fun _ _ _ => rfl⟩⟩
  · refine (callsIn_wide.2 (sortFuncS gb cap ss w (holdsS hgb r4) (lt_of hgb) (by omega))).mono ?_
    rintro e w' ⟨rfl, nn, os, rfl⟩
    refine ⟨rfl, ?_, grownSorted _⟩
    rw [hsl]
    exact rowSorted hsl hbase hgb r1 r2 r3
theorem grown_heap {w w1 : World} {B0 : Nat} {e : TypeId} {size : Nat} {v : Value} {n : Nat} {xs : List Value} (hg : w.grownBy w1 v.ownBlock) (hrow : w.ownsRow B0 e size v n xs) {k : Nat} {o : Obj} (ho : w.heap[k]? = some o) (hne : ∀ cs f, o ≠ .cells cs e f) : w1.heap[k]? = some o := by
  refine (hg.block k (lt_of ho) (fun hk => ?_)).trans ho
  rcases hrow.2 with ⟨h, _⟩ | ⟨g, cap, cur, h, _, hh, _⟩
  · rw [h] at hk; cases hk
  · rw [h] at hk
    cases hk
    rw [ho] at hh
    cases hh
    exact hne _ _ rfl

set_option maxRecDepth 100000 in
set_option maxHeartbeats 3200000 in
theorem shDiffer_in (p tb mb : Nat) (b : Int) (l : List (Sp × Cel)) (p2 tb2 mb2 : Nat) (b2 : Int) (l2 : List (Sp × Cel)) (w : World) (h : ShB w p tb mb b l) (h2 : ShB w p2 tb2 mb2 b2 l2) (hl : l.length ≤ 65536) (hl2 : l2.length ≤ 65536) :
    CallsIn Fence.wide 5 Tryz.prog 63 #[.pointer (some ⟨p, 0, none⟩), .pointer (some ⟨p2, 0, none⟩)] w fun e w1 => ∃ (v : Value) (ss : List Sp), e = .returned v ∧
      w1.ownsRow w.heap.size 33 2 v ss.length (ss.flatMap spC) ∧ ss.length ≤ 131072 ∧ Fr [] w w1 := by
  obtain ⟨i0, hi, hz0, hz1, hz2⟩ := info_parts infoSpot
  have HL := Lib.hid hl
  have HL2 := Lib.hid hl2
  have H := Lib.hid h
  have H2 := Lib.hid h2
  clear h h2 hl hl2
  refine callsIn_of_wp_marks Tryz.func63 rfl trivial ?_ rfl
  simp only [Tryz.ntmps63, List.size_toArray, List.length_cons, List.length_nil, Nat.reduceAdd, Nat.reduceSub, Array.replicate_succ, Array.replicate_zero, List.push_toArray, List.append_toArray, List.nil_append, List.cons_append]
  gi_wp2_with fail
  have hA : Fr [] w (((w.alloc (.cells #[.pointer (some ⟨p, 0, none⟩)] 55)).alloc (.cells #[.pointer (some ⟨p2, 0, none⟩)] 55)).alloc (.cells #[.slice none 0 0] 28)) := (((Fr.refl [] w).alloc _).alloc _).alloc _
  have k1 := (((Fr.refl [] _).alloc (.cells #[.pointer (some ⟨p2, 0, none⟩)] 55)).alloc (.cells #[.slice none 0 0] 28)).heap (heap_new w (.cells #[.pointer (some ⟨p, 0, none⟩)] 55)) (by simp)
  have k2 := ((Fr.refl [] _).alloc (.cells #[.slice none 0 0] 28)).heap (heap_new (w.alloc (.cells #[.pointer (some ⟨p, 0, none⟩)] 55)) (.cells #[.pointer (some ⟨p2, 0, none⟩)] 55)) (by simp)
  have k3 := heap_new ((w.alloc (.cells #[.pointer (some ⟨p, 0, none⟩)] 55)).alloc (.cells #[.pointer (some ⟨p2, 0, none⟩)] 55)) (.cells #[.slice none 0 0] 28)
  simp only [World.size_alloc] at k2 k3
  refine ⟨trivial, ?_⟩
  gi_at_call 34
  refine (callsIn_wide.2 (shAll p tb mb b l _ (H.out.fr0 hA) HL.out)).mono ?_
  rintro e w1 ⟨B1, rfl, hI, h1⟩
  have k1 := h1.heap k1 (by simp)
  have k2 := h1.heap k2 (by simp)
  have k3 := h1.heap k3 (by simp)
  have hf1 : Fr [] w w1 := hA.trans0 h1
  have hz1w := h1.size
  simp only [World.size_alloc] at hz1w
  simp only [World.size_alloc] at hI
  have H1 := Lib.hid (H.out.fr0 hf1)
  have H21 := Lib.hid (H2.out.fr0 hf1)
  have HRL : Hid ((sortC l).length ≤ 65536) := by rw [sortC_len]; exact HL.out
  have HRL2 : Hid ((sortC l2).length ≤ 65536) := by rw [sortC_len]; exact HL2.out
  have hwl := H.out.lts
  have hwl2 := H2.out.lts
  obtain ⟨sb, hsb⟩ : ∃ sb, w.heap.size = sb := ⟨_, rfl⟩
  simp only [hsb] at k1 k2 k3 hI ⊢
  obtain ⟨ob, hob⟩ : ∃ ob, sb + 1 = ob := ⟨_, rfl⟩
  simp only [hob] at k2 k3 hI ⊢
  obtain ⟨lb, hlb⟩ : ∃ lb, ob + 1 = lb := ⟨_, rfl⟩
  simp only [hlb] at k3 hI ⊢
  have HI := Lib.hid hI
  clear h1 hA hI
  generalize sortC l = R at *
  generalize hR2 : sortC l2 = R2 at *
  have HR2 := Lib.hid hR2
  clear hR2
  gi_wp2
  refine range_L (gf := 66) (lb := #[.pointer (some ⟨B1, 0, none⟩)]) rfl (enters_of Tryz.func66 (by kernel_rfl) rfl) w1.heap.size [lb] (some 33) ?_
    (seqSh w1.heap.size [lb] (some 33) _ B1 R w1 HI.out (by have := HRL.out; omega) ?_ (by decide) (by decide)) (fun _ => rfl)
    (fun pre W => SpRow w1.heap.size lb pre.length W) (fun _ _ _ => False) (spRow_own _) (fun _ _ _ _ _ h _ _ => h) ⟨_, [], k3, World.ownsRow_nil _ _ _ _, Nat.le_refl _⟩ ?_ ?_ ?_
  · intro k hk
    rw [List.mem_singleton] at hk
    omega
  · intro k hk
    rw [List.mem_singleton] at hk
    omega
  · intro lp pre x X hl2 hj hk hlen
    gi_wp2
    refine ⟨(Fr.refl [] X).alloc _, ?_⟩
    intro X2 hcs hsz hr hj2 hk2
    have hat := hcs X.heap.size _ _ _ (heap_new X _)
    have hXz := hk.size
    obtain ⟨A, hAe⟩ : ∃ A, X.heap.size = A := ⟨_, rfl⟩
    simp only [hAe] at hat hXz ⊢
    have a0 := cell_of hat 0
    have a1 := cell_of hat 1
    have lA := lt_of hat
    have kO := hk2.block _ _ k2 (by simp; omega) (.inl (by omega))
    have o0 := cell_of kO 0
    have lO := lt_of kO
    have HO2 := Lib.hid (H21.out.keptT hk2 (by have := hf1.size; omega) (by simp; omega) (by simp; omega) (by simp; omega))
    obtain ⟨v, ss, hv, hrow, hn⟩ := hj2
    gi_wp2_with fail
    refine ⟨trivial, ?_⟩
    gi_at_call 20
    refine (CallsIn.inRound lp (callsIn_wide.2 (shText p2 tb2 mb2 b2 x.1.1 l2 _ HO2.out))).mono ?_
    rintro e w5 ⟨rfl, h5⟩
    have hv5 : Boxed w5 lb 28 v := h5.heap hv (by simp)
    have hrow5 := owns_fr hrow h5 (fun _ _ => by simp)
    have hat5 := h5.heap hat (by simp)
    have kt5 : KeptT w1.heap.size [lb] (some 33) X2 w5 := (h5.keptT _ _).mono (Nat.le_refl _) (by simp)
    have z5 := h5.size
    have zX := hk2.size
    clear a0 a1 o0 hv hrow hat
    have a0 := cell_of hat5 0
    have a1 := cell_of hat5 1
    have hc := hv5.cell
    generalize ((getS x.1.1 l2).getD cel0).t = t2
    generalize x.1.2.t = t1
    have hlen7 : ss.length ≤ 65536 := by have := HRL.out; omega
    have happ := fun (w6 : World) (v' : Value) (g1 : w6.ownsRow w1.heap.size 33 2 v' (ss.length + 1) (ss.flatMap spC ++ spC x.1.1)) (g2 : (w5.alloc (.cells #[.int .i64 x.1.1.1, .int .i64 x.1.1.2] 33)).grownBy w6 v.ownBlock) =>
      Boxed.app (t := 28) (e := 33) hv5 (by decide) hrow5 (by omega) g1 g2
    gi_wp2_with (gi_at_builtin; refine wpListIn_append_own _ rfl _ _ 28 rfl w1.heap.size 33 i0 _ 2 16 Tryz.underlying28 hi hz0 hz1 hz2 rfl (by decide) _ _ _ rfl (hrow5.alloc _) ⟨w5.heap.size, 0, none⟩ 1 1 (spC x.1.1) rfl rfl (news_of _ _ _) (by simp [Value.oneCell', spC]) (by unfold maxLen; omega) (by omega) (by simp; omega) ?_; intro v' w6 hown' hgrow _; obtain ⟨g', cap', rfl⟩ := ownsRow_succ hown'; obtain ⟨hv1, hv2, hr2, hk2, hb2⟩ := happ _ _ hown' hgrow; have hc1 := hv1.cell; have hf1 := hv1.frozen; have hkt := Boxed.appT (v' := .slice (some ⟨g', 0, none⟩) (ss.length + 1) cap') (B := lb) hrow5 hgrow)
    · exact ⟨kt5.trans hkt, _, ss ++ [x.1.1], hv2, by simpa using hr2, by simpa using hn⟩
    · exact ⟨kt5, _, ss, hv5, hrow5, by simp; omega⟩
  · intro D xs W hD hS hJ hf hK
    have hxl : xs.length ≤ 65536 := by
      have e : (xs.map (·.1)).length = R.length := by rw [show xs.map (·.1) = R from hS]
      have := HRL.out
      simp at e
      omega
    have hJ := hJ.mono hxl
    have zW := hf.size
    have kO := hf.block _ _ k2 (by simp; omega) (.inl (by omega))
    have kS := hf.block _ _ k1 (by simp; omega) (.inl (by omega))
    have o0 := cell_of kO 0
    have zf1 := hf1.size
    have H1W := Lib.hid (H1.out.keptT hf (by omega) (by simp; omega) (by simp; omega) (by simp; omega))
    have H2W := Lib.hid (H21.out.keptT hf (by omega) (by simp; omega) (by simp; omega) (by simp; omega))
    gi_wp2_with fail
    refine ⟨trivial, ?_⟩
    gi_at_call 34
    refine (callsIn_wide.2 (shAll p2 tb2 mb2 b2 l2 _ H2W.out HL2.out)).mono ?_
    rintro e w2 ⟨B2, rfl, hI2, h2⟩
    have kS := h2.heap kS (by simp)
    have hK2 := h2.heap hK (by simp)
    have H12 := Lib.hid (H1W.out.fr0 h2)
    have hJ2 := hJ.fr h2 (by simp) (by simp)
    have z2 := h2.size
    have HI2 := Lib.hid (show IterSh _ w2 B2 (sortC l2) from hI2)
    clear hI2 o0 hJ
    rw [HR2.out] at HI2
    gi_wp2
    refine range_L (gf := 66) (lb := #[.pointer (some ⟨B2, 0, none⟩)]) rfl (enters_of Tryz.func66 (by kernel_rfl) rfl) w1.heap.size [lb] (some 33) ?_
      (seqSh w1.heap.size [lb] (some 33) _ B2 R2 w2 HI2.out (by have := HRL2.out; omega) ?_ (by decide) (by decide)) (fun _ => rfl)
      (fun pre W => SpRow w1.heap.size lb (65536 + pre.length) W) (fun _ _ _ => False) (spRow_own _) (fun _ _ _ _ _ h _ _ => h) (hJ2.mono (Nat.le_refl _)) ?_ ?_ ?_
    · intro k hk
      rw [List.mem_singleton] at hk
      omega
    · intro k hk
      rw [List.mem_singleton] at hk
      omega
    · intro lp pre x X hl2 hj hk hlen
      gi_wp2
      refine ⟨(Fr.refl [] X).alloc _, ?_⟩
      intro X2 hcs hsz hr hj2 hk2
      have hat := hcs X.heap.size _ _ _ (heap_new X _)
      have hXz := hk.size
      obtain ⟨A, hAe⟩ : ∃ A, X.heap.size = A := ⟨_, rfl⟩
      simp only [hAe] at hat hXz ⊢
      have a0 := cell_of hat 0
      have a1 := cell_of hat 1
      have lA := lt_of hat
      have kS2 := hk2.block _ _ kS (by simp; omega) (.inl (by omega))
      have o0 := cell_of kS2 0
      have lO := lt_of kS2
      have HS2 := Lib.hid (H12.out.keptT hk2 (by omega) (by simp; omega) (by simp; omega) (by simp; omega))
      obtain ⟨v, ss, hv, hrow, hn⟩ := hj2
      gi_wp2_with fail
      refine ⟨trivial, ?_⟩
      gi_at_call 20
      refine (CallsIn.inRound lp (callsIn_wide.2 (shText p tb mb b x.1.1 l _ HS2.out))).mono ?_
      rintro e w5 ⟨rfl, h5⟩
      have hv5 : Boxed w5 lb 28 v := h5.heap hv (by simp)
      have hrow5 := owns_fr hrow h5 (fun _ _ => by simp)
      have hat5 := h5.heap hat (by simp)
      have kt5 : KeptT w1.heap.size [lb] (some 33) X2 w5 := (h5.keptT _ _).mono (Nat.le_refl _) (by simp)
      have z5 := h5.size
      have zX := hk2.size
      clear a0 a1 o0 hv hrow hat
      have a0 := cell_of hat5 0
      have a1 := cell_of hat5 1
      have hc := hv5.cell
      generalize ((getS x.1.1 l).getD cel0).t = t2
      have hlen7 : ss.length ≤ 131072 := by have := HRL2.out; omega
      have happ := fun (w6 : World) (v' : Value) (g1 : w6.ownsRow w1.heap.size 33 2 v' (ss.length + 1) (ss.flatMap spC ++ spC x.1.1)) (g2 : (w5.alloc (.cells #[.int .i64 x.1.1.1, .int .i64 x.1.1.2] 33)).grownBy w6 v.ownBlock) =>
        Boxed.app (t := 28) (e := 33) hv5 (by decide) hrow5 (by omega) g1 g2
      gi_wp2_with (gi_at_builtin; refine wpListIn_append_own _ rfl _ _ 28 rfl w1.heap.size 33 i0 _ 2 16 Tryz.underlying28 hi hz0 hz1 hz2 rfl (by decide) _ _ _ rfl (hrow5.alloc _) ⟨w5.heap.size, 0, none⟩ 1 1 (spC x.1.1) rfl rfl (news_of _ _ _) (by simp [Value.oneCell', spC]) (by unfold maxLen; omega) (by omega) (by simp; omega) ?_; intro v' w6 hown' hgrow _; obtain ⟨g', cap', rfl⟩ := ownsRow_succ hown'; obtain ⟨hv1, hv2, hr2, hk2, hb2⟩ := happ _ _ hown' hgrow; have hc1 := hv1.cell; have hf1 := hv1.frozen; have hkt := Boxed.appT (v' := .slice (some ⟨g', 0, none⟩) (ss.length + 1) cap') (B := lb) hrow5 hgrow)
      · exact ⟨kt5.trans hkt, _, ss ++ [x.1.1], hv2, by simpa using hr2, by simp; omega⟩
      · exact ⟨kt5, _, ss, hv5, hrow5, by simp; omega⟩
    · intro D2 xs2 W2 hD2 hS2 hJ3 hf3 hK3
      have hK4 := hf3.block _ _ hK2 (by simp; omega) (.inr rfl)
      obtain ⟨v, ss, hv, hrow, hn⟩ := hJ3
      have hc := hv.cell
      have hx2l : xs2.length ≤ 65536 := by
        have e : (xs2.map (·.1)).length = R2.length := by rw [show xs2.map (·.1) = R2 from hS2]
        have := HRL2.out
        simp at e
        omega
      gi_wp2_with fail
      refine ⟨trivial, ?_⟩
      refine (sortRow w1.heap.size _ v ss W2 hrow (by omega)).mono ?_
      rintro e w3 ⟨rfl, hrow3, hg3⟩
      have hK5 := grown_heap hg3 hrow hK4 (fun cs f e => by cases e)
      have hK6 := grown_heap hg3 hrow hK3 (fun cs f e => by cases e)
      have hv3 : Boxed w3 lb 28 v := grown_heap hg3 hrow hv (fun cs f e => by cases e)
      have hc := hv3.cell
      gi_wp2_with fail
      refine ⟨by simp, .inl ⟨_, _, rfl, run_takeDeferred hK6, ?_⟩⟩
      have hDD : D < w2.heap.size := lt_of hK2
      have hK7 : (w3.putObj D2 (.deferred none)).heap[D]? = some (.deferred (some [])) := (World.putObj_heap_other (by omega)).trans hK5
      refine ⟨by simp, .inl ⟨_, _, rfl, run_takeDeferred hK7, ?_⟩⟩
      have F1 : Fr [lb] w1 W2 := ((hf.trans ((h2.keptT _ _).mono (Nat.le_refl _) (by simp))).trans hf3).fr
      have F2 : Fr [lb] w1 w3 := F1.trans (fr_grownB hg3) (fun q hq => .inr (hrow.lt q (by simpa using hq)).1)
      have F3 : Fr [] w w3 := hf1.trans F2 (fun q hq => .inr (by simp at hq; omega))
      exact ⟨_, results_tmp rfl _ _ _, v, sortS ss, rfl, owns_mono (ownsRow_putObj (ownsRow_putObj hrow3 _ hK6 rfl) _ hK7 rfl) hf1.size, by rw [(sortS_perm ss).length_eq]; omega, (F3.putObj (by omega) _).putObj (by omega) _⟩
    · intro D c pre W _ _ h _
      exact h.elim
  · intro D c pre W _ _ h _
    exact h.elim
end
end Go.Proofs.YtnmkhoebijodhaaGreatDoor
