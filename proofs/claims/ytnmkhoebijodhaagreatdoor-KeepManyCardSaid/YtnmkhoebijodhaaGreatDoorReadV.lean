/-
  (*Sheet).Value at a cell that holds the text 5; (*reading).Text, Value.
-/
import Derived.Test.YtnmkhoebijodhaaGreatDoorSave
import Derived.Test.YtnmkhoebijodhaaGreatDoorShD
import Derived.Test.YtnmkhoebijodhaaGreatDoorBld
namespace Go.Proofs.YtnmkhoebijodhaaGreatDoor
open Go.RowKit Go.Shelf

set_option maxRecDepth 100000 in
set_option maxHeartbeats 3200000 in
theorem shValue5 (p tb mb : Nat) (b : Int) (s : Sp) (l : List (Sp × Cel)) (w : World) (h : ShB w p tb mb b l) (hm : mayS s.1 s.2 = true) (hx : (getS s l).getD cel0 = litC ⟨#[53]⟩) :
    Calls Tryz.prog 44 #[.pointer (some ⟨p, 0, none⟩), spV s] w fun e w1 => e = .returned (.tuple #[five, .int .i64 0]) ∧ Fr [] w w1 := by
  have hget := Lib.hid (fun u (hu : ShB u p tb mb b l) => shGet p tb mb b s l u hu)
  rw [hx] at hget
  have hlit := Lib.hid (fun u : World => literal5 ⟨#[53]⟩ rfl u)
  have hmay := Lib.hid (fun u : World => spotMay s.1 s.2 u)
  rw [hm] at hmay
  have H := Lib.hid h
  clear h hx hm
  go_enter Tryz.func44, Tryz.ntmps44
  go_wp2_with fail
  have hA : Fr [] w ((w.alloc (.cells #[.int .i64 s.1, .int .i64 s.2] 33)).alloc (.cells #[.int .i64 0, .int .i64 0, .string ⟨#[]⟩] 62)) := ((Fr.refl [] w).alloc _).alloc _
  have hb := ((Fr.refl [] _).alloc (.cells #[.int .i64 0, .int .i64 0, .string ⟨#[]⟩] 62)).heap (heap_new w (.cells #[.int .i64 s.1, .int .i64 s.2] 33)) (by simp)
  have hb2 := heap_new (w.alloc (.cells #[.int .i64 s.1, .int .i64 s.2] 33)) (.cells #[.int .i64 0, .int .i64 0, .string ⟨#[]⟩] 62)
  rw [World.size_alloc] at hb2
  obtain ⟨A, hAe⟩ : ∃ A, w.heap.size = A := ⟨_, rfl⟩
  simp only [hAe] at hb hb2 ⊢
  have HAE := Lib.hid hAe
  clear hAe
  refine (hmay.out _).mono ?_
  rintro e w1 ⟨rfl, h1⟩
  have hF1 := hA.trans0 h1
  have hb := h1.heap hb (by simp)
  have hb2 := h1.heap hb2 (by simp)
  clear hA h1
  have a0 := cell_of hb 0
  have a1 := cell_of hb 1
  go_wp2_with fail
  refine (hget.out _ (H.out.fr0 hF1)).mono ?_
  rintro e w2 ⟨rfl, h2⟩
  have hF2 := hF1.trans0 h2
  have hb2 := h2.heap hb2 (by simp)
  clear hF1 h2 a0 a1 hb
  go_wp2_with (refine wpList_store_new rfl 106 _ _ rfl w2 106 _ #[.string ⟨#[53]⟩, .int .i64 1, .int .i64 0, .int .i64 0, .int .i64 0, .string ⟨#[]⟩, .int .i64 0, .int .i64 0, .bool false, .bool false, .int .i64 0, .int .i64 0, .bool false, .bool false, .int .i64 0, .slice none 0 0] rfl rfl rfl (by kernel_rfl) rfl (by simp [Value.oneCell']) ?_)
  refine (hlit.out _).mono ?_
  rintro e w3 ⟨rfl, h3⟩
  have hF3 := (hF2.trans0 ((Fr.refl [] w2).alloc _)).trans0 h3
  have hb3 := h3.heap (((Fr.refl [] w2).alloc _).heap hb2 (by simp)) (by simp)
  clear hF2 h3 hb2
  have f0 := free_of hb3 0
  have f1 := free_of hb3 1
  have f2 := free_of hb3 2
  have a0 := cell_of hb3 0
  have a1 := cell_of hb3 1
  have a2 := cell_of hb3 2
  have lb := lt_of hb3
  go_wp2_with fail
  have hb4 := ((Fr.refl [] _).alloc (.cells #[.int .i64 1, .int .i64 5, .string ⟨#[]⟩] 62)).heap (set_of (set_of (set_of hb3 0 (.int .i64 1)) 1 (.int .i64 5)) 2 (.string ⟨#[]⟩)) (by simp)
  have hF4 : Fr [] w ((((w3.setCell ⟨A + 1, 0, none⟩ (.int .i64 1)).setCell ⟨A + 1, 1, none⟩ (.int .i64 5)).setCell ⟨A + 1, 2, none⟩ (.string ⟨#[]⟩)).alloc (.cells #[.int .i64 1, .int .i64 5, .string ⟨#[]⟩] 62)) :=
    (((hF3.setCell (.inr (by have := HAE.out; simp; omega)) _).setCell (.inr (by have := HAE.out; simp; omega)) _).setCell (.inr (by have := HAE.out; simp; omega)) _).alloc _
  generalize (((w3.setCell ⟨A + 1, 0, none⟩ (.int .i64 1)).setCell ⟨A + 1, 1, none⟩ (.int .i64 5)).setCell ⟨A + 1, 2, none⟩ (.string ⟨#[]⟩)).alloc (.cells #[.int .i64 1, .int .i64 5, .string ⟨#[]⟩] 62) = W at *
  have d0 := cell_of hb4 0
  have d1 := cell_of hb4 1
  have d2 := cell_of hb4 2
  simp at d0 d1 d2
  refine bodyPost_ret (v := .tuple #[five, .int .i64 0]) (by simp [results, Tryz.results44, go_sem, d0, d1, d2]) rfl ?_
  exact ⟨rfl, hF4⟩

/-- A workbook's reading: its own block, its sheet. -/
structure RdIs (w : World) (B p tb mb k : Nat) (dd b : Int) (l : List (Sp × Cel)) : Prop where
  bk : w.heap[B]? = some (.cells #[.pointer (some ⟨p, 0, none⟩), .pointer (some ⟨k, 0, none⟩), .int .i64 dd] 68 (0, 0))
  sh : ShB w p tb mb b l
theorem BookIs.rd {w : World} {B p tb mb k ktb kmb : Nat} {dd b : Int} {l : List (Sp × Cel)} (h : BookIs w B p tb mb k ktb kmb dd b l) : RdIs w B p tb mb k dd b l := ⟨h.bk, h.sh⟩
theorem RdIs.fr0 {w w1 : World} {B p tb mb k : Nat} {dd b : Int} {l : List (Sp × Cel)} (h : RdIs w B p tb mb k dd b l) (hf : Fr [] w w1) : RdIs w1 B p tb mb k dd b l := ⟨hf.heap h.bk (by simp), h.sh.fr0 hf⟩

set_option maxRecDepth 100000 in
set_option maxHeartbeats 3200000 in
theorem rdgText (B p tb mb k : Nat) (dd b : Int) (s : Sp) (l : List (Sp × Cel)) (w : World) (h : RdIs w B p tb mb k dd b l) :
    Calls Tryz.prog 50 #[.pointer (some ⟨B, 0, none⟩), spV s] w fun e w1 => e = .returned (.string ((getS s l).getD cel0).t) ∧ Fr [] w w1 := by
  have H := Lib.hid h
  have lB := lt_of h.bk
  clear h
  obtain ⟨t, ht⟩ : ∃ t, ((getS s l).getD cel0).t = t := ⟨_, rfl⟩
  have HTX := Lib.hid ht
  rw [ht]
  clear ht
  go_enter Tryz.func50, Tryz.ntmps50
  go_wp2_with fail
  have hA := (Fr.refl [] w).alloc (.cells #[.int .i64 s.1, .int .i64 s.2] 33)
  have hb := heap_new w (.cells #[.int .i64 s.1, .int .i64 s.2] 33)
  have hsh := H.out.sh.fr0 hA
  have htext := Lib.hid (fun u (hu : Fr [] (w.alloc (.cells #[.int .i64 s.1, .int .i64 s.2] 33)) u) => shText p tb mb b s l u (hsh.fr0 hu))
  have b0 := cell_of (hA.heap H.out.bk (by simp)) 0
  obtain ⟨A, hAe⟩ : ∃ A, w.heap.size = A := ⟨_, rfl⟩
  simp only [hAe] at hb ⊢
  have a0 := cell_of hb 0
  have a1 := cell_of hb 1
  have lA := lt_of hb
  have lB2 := lt_of (hA.heap H.out.bk (by simp))
  simp only [HTX.out] at htext
  generalize w.alloc (.cells #[.int .i64 s.1, .int .i64 s.2] 33) = W at *
  clear hsh hb
  refine wp_facts (fun u => Fr [] W u) (RelS W.heap.size []) [(0, .pointer (some ⟨B, 0, none⟩)), (3, .pointer (some ⟨A, 0, none⟩))] [[], [0], [1], [2], [], [3, 4], [5]]
    (fun i σ u => match i with
      | 0 => σ 5 = .pointer (some ⟨B, 0, none⟩)
      | 1 => σ 6 = .pointer (some ⟨B, 0, none⟩)
      | 2 => σ 7 = .pointer (some ⟨B, 0, none⟩)
      | 3 => σ 8 = .pointer (some ⟨p, 0, none⟩)
      | 4 => σ 9 = spV s
      | 5 => σ 10 = .string t
      | _ => σ 4 = .string t) (fun _ _ => True)
    (ds := [5, 6, 7, 8, 9, 10, 4]) (fr := ?fr1) (by kernel_rfl) ?hfr1 ⟨rfl, rfl, trivial⟩ rfl rfl (by kernel_rfl) (by kernel_rfl) (by decide) rfl (Fr.refl _ _).drew (fun _ _ => trivial) ⟨fun _ _ _ _ _ _ _ _ _ _ => trivial, fun i u u' hG hR => hR.fr hG, ?_, ?_⟩ ?_
  case hfr1 =>
    intro σ
    simp only [layA, List.foldl_cons, List.foldl_nil, List.setIfInBounds_toArray, List.set_cons_zero, List.set_cons_succ]
    rfl
  · intro j hj i σ σ' u u' hij hs hd hG hR h
    have hj : j < 7 := hj
    rcases (by omega : j = 0 ∨ j = 1 ∨ j = 2 ∨ j = 3 ∨ j = 4 ∨ j = 5 ∨ j = 6) with rfl | rfl | rfl | rfl | rfl | rfl | rfl
    all_goals exact hs.trans h
  · intro i hi
    have hi : i < 7 := hi
    rcases (by omega : (i = 0 ∨ i = 1 ∨ i = 2 ∨ i = 3 ∨ i = 4 ∨ i = 6) ∨ (i = 5)) with hi | hi
    · rcases hi with rfl | rfl | rfl | rfl | rfl | rfl
      all_goals
        intro a u K hX hG hD hN hZ hK
        obtain ⟨hx0, hx3, -⟩ := hX
        try dsimp only [AllF, slotsA, List.getD_cons_zero, List.getD_cons_succ] at hD
        first | obtain ⟨e0, e1, e2, e3, -⟩ := hD | obtain ⟨e0, e1, e2, -⟩ := hD | obtain ⟨e0, e1, -⟩ := hD | obtain ⟨e0, -⟩ := hD | skip
        try replace e0 : _ = _ := e0
        try replace e1 : _ = _ := e1
        try replace e2 : _ = _ := e2
        try replace e3 : _ = _ := e3
        have hr := hG.rules.1
        refine wpOp_step rfl (fun K' hK' => ?_)
        go_simp
        exact hK' _ _ (hK _ _ (Fr.refl _ _) rfl)
    · subst hi
      all_goals
        intro a u K hX hG hD hN hZ hK
        obtain ⟨hx0, hx3, -⟩ := hX
        try dsimp only [AllF, slotsA, List.getD_cons_zero, List.getD_cons_succ] at hD
        have hr := hG.rules.1
      · obtain ⟨d3, d4, -⟩ := hD
        replace d3 : _ = _ := d3
        replace d4 : _ = _ := d4
        refine wpOp_step rfl (fun K' hK' => ?_)
        go_simp
        refine (htext.out u hG).mono ?_
        rintro e u2 ⟨rfl, hF⟩
        exact hK' _ _ (hK _ _ hF rfl)
  · intro σ u hG h
    have h6 : σ 4 = .string t := h 6 (by decide)
    clear h
    go_wp2
    go_ret
    exact ⟨by show Ending.returned (σ 4) = _; rw [h6], hA.trans0 hG⟩

set_option maxRecDepth 100000 in
set_option maxHeartbeats 3200000 in
theorem rdgValue (B p tb mb k : Nat) (dd b : Int) (s : Sp) (l : List (Sp × Cel)) (w : World) (h : RdIs w B p tb mb k dd b l) (hm : mayS s.1 s.2 = true) (hx : (getS s l).getD cel0 = litC ⟨#[53]⟩) :
    Calls Tryz.prog 22 #[.pointer (some ⟨B, 0, none⟩), spV s] w fun e w1 => e = .returned five ∧ Fr [] w w1 := by
  have H := Lib.hid h
  have lB := lt_of h.bk
  have HX := Lib.hid hx
  have HM := Lib.hid hm
  clear h hx hm
  go_enter Tryz.func22, Tryz.ntmps22
  go_wp2_with fail
  have hA : Fr [] w ((w.alloc (.cells #[.int .i64 s.1, .int .i64 s.2] 33)).alloc (.cells #[.int .i64 0, .int .i64 0, .string ⟨#[]⟩] 62)) := ((Fr.refl [] w).alloc _).alloc _
  have hb := ((Fr.refl [] _).alloc (.cells #[.int .i64 0, .int .i64 0, .string ⟨#[]⟩] 62)).heap (heap_new w (.cells #[.int .i64 s.1, .int .i64 s.2] 33)) (by simp)
  have hb2 := heap_new (w.alloc (.cells #[.int .i64 s.1, .int .i64 s.2] 33)) (.cells #[.int .i64 0, .int .i64 0, .string ⟨#[]⟩] 62)
  rw [World.size_alloc] at hb2
  have hsh := H.out.sh.fr0 hA
  have hB0 := hA.heap H.out.bk (by simp)
  obtain ⟨A, hAe⟩ : ∃ A, w.heap.size = A := ⟨_, rfl⟩
  simp only [hAe] at hb hb2 ⊢
  generalize (w.alloc (.cells #[.int .i64 s.1, .int .i64 s.2] 33)).alloc (.cells #[.int .i64 0, .int .i64 0, .string ⟨#[]⟩] 62) = W at *
  have hwhat : Hid (∀ u, Fr [] W u → Calls Tryz.prog 43 #[.pointer (some ⟨p, 0, none⟩), spV s] u fun e w1 => e = .returned (.int .i64 1) ∧ Fr [] u w1) := fun u hu => by
    have := shWhat p tb mb b s l u (hsh.fr0 hu)
    rwa [HX.out] at this
  have b0 := cell_of hB0 0
  have a0 := cell_of hb 0
  have a1 := cell_of hb 1
  have lA := lt_of hb
  have lB2 := lt_of hB0
  have HSH := Lib.hid hsh
  clear hsh
  refine wp_facts (fun u => Fr [] W u) (RelS W.heap.size []) [(0, .pointer (some ⟨B, 0, none⟩)), (3, .pointer (some ⟨A, 0, none⟩))] [[], [0], [1], [2], [], [3, 4], [5]]
    (fun i σ u => match i with
      | 0 => σ 9 = .pointer (some ⟨B, 0, none⟩)
      | 1 => σ 10 = .pointer (some ⟨B, 0, none⟩)
      | 2 => σ 11 = .pointer (some ⟨B, 0, none⟩)
      | 3 => σ 12 = .pointer (some ⟨p, 0, none⟩)
      | 4 => σ 13 = spV s
      | 5 => σ 14 = .int .i64 1
      | _ => σ 15 = .bool true) (fun _ _ => True)
    (ds := [9, 10, 11, 12, 13, 14, 15]) (fr := ?fr1) (by kernel_rfl) ?hfr1 ⟨rfl, rfl, trivial⟩ rfl rfl (by kernel_rfl) (by kernel_rfl) (by decide) rfl (Fr.refl _ _).drew (fun _ _ => trivial) ⟨fun _ _ _ _ _ _ _ _ _ _ => trivial, fun i u u' hG hR => hR.fr hG, ?_, ?_⟩ ?_
  case hfr1 =>
    intro σ
    simp only [layA, List.foldl_cons, List.foldl_nil, List.setIfInBounds_toArray, List.set_cons_zero, List.set_cons_succ]
    rfl
  · intro j hj i σ σ' u u' hij hs hd hG hR h
    have hj : j < 7 := hj
    rcases (by omega : j = 0 ∨ j = 1 ∨ j = 2 ∨ j = 3 ∨ j = 4 ∨ j = 5 ∨ j = 6) with rfl | rfl | rfl | rfl | rfl | rfl | rfl
    all_goals exact hs.trans h
  · intro i hi
    have hi : i < 7 := hi
    rcases (by omega : (i = 0 ∨ i = 1 ∨ i = 2 ∨ i = 3 ∨ i = 4 ∨ i = 6) ∨ (i = 5)) with hi | hi
    · rcases hi with rfl | rfl | rfl | rfl | rfl | rfl
      all_goals
        intro a u K hX hG hD hN hZ hK
        obtain ⟨hx0, hx3, -⟩ := hX
        try dsimp only [AllF, slotsA, List.getD_cons_zero, List.getD_cons_succ] at hD
        first | obtain ⟨e0, e1, e2, e3, -⟩ := hD | obtain ⟨e0, e1, e2, -⟩ := hD | obtain ⟨e0, e1, -⟩ := hD | obtain ⟨e0, -⟩ := hD | skip
        try replace e0 : _ = _ := e0
        try replace e1 : _ = _ := e1
        try replace e2 : _ = _ := e2
        try replace e3 : _ = _ := e3
        have hr := hG.rules.1
        refine wpOp_step rfl (fun K' hK' => ?_)
        go_simp
        exact hK' _ _ (hK _ _ (Fr.refl _ _) rfl)
    · subst hi
      all_goals
        intro a u K hX hG hD hN hZ hK
        obtain ⟨hx0, hx3, -⟩ := hX
        try dsimp only [AllF, slotsA, List.getD_cons_zero, List.getD_cons_succ] at hD
        have hr := hG.rules.1
      · obtain ⟨d3, d4, -⟩ := hD
        replace d3 : _ = _ := d3
        replace d4 : _ = _ := d4
        refine wpOp_step rfl (fun K' hK' => ?_)
        go_simp
        refine (hwhat.out u hG).mono ?_
        rintro e u2 ⟨rfl, hF⟩
        exact hK' _ _ (hK _ _ hF rfl)
  · intro σ U hG h
    have h6 : σ 15 = .bool true := h 6 (by decide)
    clear h
    rw [h6]
    have HSU := Lib.hid (HSH.out.fr0 hG)
    have hval : Hid (∀ v, Fr [] U v → Calls Tryz.prog 44 #[.pointer (some ⟨p, 0, none⟩), spV s] v fun e w1 => e = .returned (.tuple #[five, .int .i64 0]) ∧ Fr [] v w1) := fun v hv => shValue5 p tb mb b s l v (HSU.out.fr0 hv) HM.out HX.out
    have hB0 := hG.heap hB0 (by simp)
    have hb := hG.heap hb (by simp)
    have hb2 := hG.heap hb2 (by simp)
    clear b0 a0 a1 lA lB2 hwhat
    have b0 := cell_of hB0 0
    have a0 := cell_of hb 0
    have a1 := cell_of hb 1
    have lA := lt_of hb
    have lB2 := lt_of hB0
    have hWU := hA.trans0 hG
    have HGU := Lib.hid hG
    clear hG
    go_wp2_with fail
    refine wp_facts (fun u => Fr [] U u) (RelS U.heap.size [(10, 62)]) [(0, .pointer (some ⟨B, 0, none⟩)), (3, .pointer (some ⟨A, 0, none⟩))] [[], [0], [1], [2], [], [3, 4], [5], [6], [6], [], [9, 7], [8]]
      (fun i σ u => match i with
        | 0 => σ 17 = .pointer (some ⟨B, 0, none⟩)
        | 1 => σ 18 = .pointer (some ⟨B, 0, none⟩)
        | 2 => σ 19 = .pointer (some ⟨B, 0, none⟩)
        | 3 => σ 20 = .pointer (some ⟨p, 0, none⟩)
        | 4 => σ 21 = spV s
        | 5 => σ 22 = .tuple #[.agg #[.int .i64 1, .int .i64 5, .string ⟨#[]⟩], .int .i64 0]
        | 6 => σ 16 = .tuple #[.agg #[.int .i64 1, .int .i64 5, .string ⟨#[]⟩], .int .i64 0]
        | 7 => σ 23 = .agg #[.int .i64 1, .int .i64 5, .string ⟨#[]⟩]
        | 8 => σ 24 = .int .i64 0
        | 9 => ∃ D cs, σ 5 = .pointer (some ⟨D, 0, none⟩) ∧ U.heap.size ≤ D ∧ cs.size = 3 ∧ u.heap[D]? = some (.cells cs 62 (0, 0))
        | 10 => ∃ D, σ 5 = .pointer (some ⟨D, 0, none⟩) ∧ U.heap.size ≤ D ∧ u.heap[D]? = some (.cells #[.int .i64 1, .int .i64 5, .string ⟨#[]⟩] 62 (0, 0))
        | _ => σ 6 = .int .i64 0) (fun _ _ => True)
      (ds := [17, 18, 19, 20, 21, 22, 16, 23, 24, 5, 6]) (fr := ?fr2) (by kernel_rfl) ?hfr2 ⟨rfl, rfl, trivial⟩ rfl rfl (by kernel_rfl) (by kernel_rfl) (by decide) rfl (Fr.refl _ _).drew (fun _ _ => trivial) ⟨fun _ _ _ _ _ _ _ _ _ _ => trivial, fun i u u' hG hR => hR.fr hG, ?_, ?_⟩ ?_
    case hfr2 =>
      intro σ
      simp only [layA, List.foldl_cons, List.foldl_nil, List.setIfInBounds_toArray, List.set_cons_zero, List.set_cons_succ]
      rfl
    · intro j hj i σ σ' u u' hij hs hd hG hR h
      have hj : j < 12 := hj
      rcases (by omega : j = 9 ∨ j = 10 ∨ j = 0 ∨ j = 1 ∨ j = 2 ∨ j = 3 ∨ j = 4 ∨ j = 5 ∨ j = 6 ∨ j = 7 ∨ j = 8 ∨ j = 11) with rfl | rfl | rfl | rfl | rfl | rfl | rfl | rfl | rfl | rfl | rfl | rfl
      · obtain ⟨D, cs, h1, h2, h3, h4⟩ := h
        obtain ⟨cs', h5, h6⟩ := hR.shape h4
        exact ⟨D, cs', hs.trans h1, h2, h5.trans h3, h6⟩
      · obtain ⟨D, h1, h2, h3⟩ := h
        exact ⟨D, (hd 9 rfl).1.trans h1, h2, hR.block h3 (lookup_ne (by decide) hij)⟩
      all_goals exact hs.trans h
    · intro i hi
      have hi : i < 12 := hi
      rcases (by omega : (i = 0 ∨ i = 1 ∨ i = 2 ∨ i = 3 ∨ i = 4 ∨ i = 6 ∨ i = 7 ∨ i = 8 ∨ i = 11) ∨ (i = 5 ∨ i = 9 ∨ i = 10)) with hi | hi
      · rcases hi with rfl | rfl | rfl | rfl | rfl | rfl | rfl | rfl | rfl
        all_goals
          intro a u K hX hG hD hN hZ hK
          obtain ⟨hx0, hx3, -⟩ := hX
          try dsimp only [AllF, slotsA, List.getD_cons_zero, List.getD_cons_succ] at hD
          first | obtain ⟨e0, e1, e2, e3, -⟩ := hD | obtain ⟨e0, e1, e2, -⟩ := hD | obtain ⟨e0, e1, -⟩ := hD | obtain ⟨e0, -⟩ := hD | skip
          try replace e0 : _ = _ := e0
          try replace e1 : _ = _ := e1
          try replace e2 : _ = _ := e2
          try replace e3 : _ = _ := e3
          have hr := hG.rules.1
          refine wpOp_step rfl (fun K' hK' => ?_)
          go_simp
          exact hK' _ _ (hK _ _ (Fr.refl _ _) rfl)
      · rcases hi with rfl | rfl | rfl
        all_goals
          intro a u K hX hG hD hN hZ hK
          obtain ⟨hx0, hx3, -⟩ := hX
          try dsimp only [AllF, slotsA, List.getD_cons_zero, List.getD_cons_succ] at hD
          have hr := hG.rules.1
        · obtain ⟨d3, d4, -⟩ := hD
          replace d3 : _ = _ := d3
          replace d4 : _ = _ := d4
          refine wpOp_step rfl (fun K' hK' => ?_)
          go_simp
          refine (hval.out u hG).mono ?_
          rintro e u2 ⟨rfl, hF⟩
          exact hK' _ _ (hK _ _ hF rfl)
        · refine wpOp_step rfl (fun K' hK' => ?_)
          go_simp
          exact hK' _ _ (hK _ _ ((Fr.refl [] u).alloc _) ⟨_, _, rfl, hG.size, rfl, heap_new u _⟩)
        · obtain ⟨⟨D, cs, d, hD0, hz, hb⟩, d7, -⟩ := hD
          obtain ⟨hSt, hn⟩ := KeptS.setRow (cells := #[.int .i64 1, .int .i64 5, .string ⟨#[]⟩]) hb hD0 hz
          refine wpOp_plain rfl rfl (wp_store_row 62 (.tmp 5) (.tmp 23) rfl D #[.int .i64 1, .int .i64 5, .string ⟨#[]⟩] ((eval_tmp a 5).trans d) ((eval_tmp a 23).trans d7) 62 cs hb (by kernel_rfl) hz (by simp [Value.oneCell']) ?_)
          exact hK _ _ hSt ⟨D, d, hD0, hn⟩
    · intro σ2 u2 hG2 h
      obtain ⟨D, hD, hz, hb5⟩ := h 10 (by decide)
      have hbr := hG2.heap hb2 (by simp)
      clear h b0 a0 a1
      rw [hD]
      have hDne : D ≠ A + 1 := by have := lt_of hb2; omega
      have q0 := cell_of hb5 0
      have q1 := cell_of hb5 1
      have q2 := cell_of hb5 2
      have r0 := cell_of hbr 0
      have r1 := cell_of hbr 1
      have r2 := cell_of hbr 2
      have f0 := free_of hbr 0
      have f1 := free_of hbr 1
      have f2 := free_of hbr 2
      go_wp2_with fail
      have hb4 := set_of (set_of (set_of hbr 0 (.int .i64 1)) 1 (.int .i64 5)) 2 (.string ⟨#[]⟩)
      have hF4 : Fr [] w (((u2.setCell ⟨A + 1, 0, none⟩ (.int .i64 1)).setCell ⟨A + 1, 1, none⟩ (.int .i64 5)).setCell ⟨A + 1, 2, none⟩ (.string ⟨#[]⟩)) :=
        (((((hA.trans0 HGU.out).trans0 hG2).setCell (.inr (by simp; omega)) _).setCell (.inr (by simp; omega)) _).setCell (.inr (by simp; omega)) _)
      generalize ((u2.setCell ⟨A + 1, 0, none⟩ (.int .i64 1)).setCell ⟨A + 1, 1, none⟩ (.int .i64 5)).setCell ⟨A + 1, 2, none⟩ (.string ⟨#[]⟩) = W9 at *
      have d0 := cell_of hb4 0
      have d1 := cell_of hb4 1
      have d2 := cell_of hb4 2
      simp at d0 d1 d2
      refine bodyPost_ret (v := five) (by simp [results, Tryz.results22, go_sem, d0, d1, d2]) rfl ?_
      exact ⟨rfl, hF4⟩
end Go.Proofs.YtnmkhoebijodhaaGreatDoor
