/-
  sheet.change: lay, put, set.
  sheet.change: set, edit; Sheet.Apply at edits that set literals.
  Sheet.Apply at edits that set literals.
-/
import Derived.Test.YtnmkhoebijodhaaGreatDoorShD
import Derived.Test.YtnmkhoebijodhaaGreatDoorSlice
import Derived.Test.YtnmkhoebijodhaaGreatDoorKeepC
import Derived.Defers
namespace Go.Proofs.YtnmkhoebijodhaaGreatDoor
section
open Go.RowKit Go.Shelf
attribute [local go_sem] Oper.semAt_some

theorem Fr.kt0 {B : Nat} {S : List Nat} {T : Option TypeId} {w w1 : World} (h : Fr [] w w1) : KeptT B S T w w1 := (h.keptT B T).mono (Nat.le_refl _) (by simp)
theorem news_one {u : World} {D : Nat} {x : Value} {t : TypeId} {f : Nat × Nat} (hb : u.heap[D]? = some (.cells #[x] t f)) : ∀ j y, [x][j]? = some y → u.cell? ((⟨D, 0, none⟩ : Addr).add j) = some y := fun j y hj => by
  have e : (⟨D, 0, none⟩ : Addr).add j = ⟨D, j, none⟩ := by
    unfold Addr.add
    split
    · rename_i h0; subst h0; rfl
    · simp
  rw [e, cell_of hb]
  simpa using hj

set_option maxRecDepth 100000 in
set_option maxHeartbeats 1600000 in
theorem chLay (c p tb mb : Nat) (b : Int) (l : List (Sp × Cel)) (v : Value) (s : Sp) (x : Cel) (w : World) (hcb : w.heap[c]? = some (.cells #[.pointer (some ⟨p, 0, none⟩), v] 149 (0, 0))) (h : ShB w p tb mb b l) (hx : x.t.toList.isEmpty = false) :
    Calls Tryz.prog 159 #[.pointer (some ⟨c, 0, none⟩), spV s, Cel.val x] w fun e w1 => e = .returned (.int .i64 (setE s l)) ∧ TabIs 163 (fun x : Cel => Cel.val x) w1 tb mb (setL s x l) ∧ Fr [tb, mb] w w1 := by
  have hset : Hid (∀ u, TabIs 163 (fun x : Cel => Cel.val x) u tb mb l → Calls Tryz.prog 59 #[.pointer (some ⟨tb, 0, none⟩), spV s, Cel.val x] u fun e w1 => e = .returned (.int .i64 (setE s l)) ∧ TabIs 163 (fun x : Cel => Cel.val x) w1 tb mb (setL s x l) ∧ Fr [tb, mb] u w1) := fun u hu => set_Cell tb mb s x l u hu
  obtain ⟨hne1, hne2⟩ := h.ne
  have hpb := h.sh
  have HT := Lib.hid h.tab
  have hctb : c ≠ tb := by
    rintro rfl
    have h1 := h.tab.tab
    rw [hcb] at h1
    injection h1 with h1
    injection h1 with h2 h3 h4
    cases h3
  have hcmb : c ≠ mb := by
    rintro rfl
    obtain ⟨_, _, h1, _⟩ := h.tab.map
    rw [hcb] at h1
    cases h1
  have ltb := lt_of h.tab.tab
  have lmb := h.tab.map.lt
  generalize setE s l = E at *
  clear h
  go_enter Tryz.func159, Tryz.ntmps159
  go_wp2_with fail
  have hW : Fr [] w ((w.alloc (.cells #[.int .i64 s.1, .int .i64 s.2] 33)).alloc (.cells #[.string x.t, .int .i64 x.k, .int .i64 x.x.k, .int .i64 x.x.o, .int .i64 x.x.n, .string x.x.s, .int .i64 x.x.r, .int .i64 x.x.c, .bool x.x.pr, .bool x.x.pc, .int .i64 x.x.r2, .int .i64 x.x.c2, .bool x.x.pr2, .bool x.x.pc2, .int .i64 x.x.f, .slice x.x.kp x.x.kn x.x.kc] 106)) := ((Fr.refl [] w).alloc _).alloc _
  have hat := ((Fr.refl [] _).alloc (.cells #[.string x.t, .int .i64 x.k, .int .i64 x.x.k, .int .i64 x.x.o, .int .i64 x.x.n, .string x.x.s, .int .i64 x.x.r, .int .i64 x.x.c, .bool x.x.pr, .bool x.x.pc, .int .i64 x.x.r2, .int .i64 x.x.c2, .bool x.x.pr2, .bool x.x.pc2, .int .i64 x.x.f, .slice x.x.kp x.x.kn x.x.kc] 106)).heap (heap_new w (.cells #[.int .i64 s.1, .int .i64 s.2] 33)) (by simp)
  have hb2 := heap_new (w.alloc (.cells #[.int .i64 s.1, .int .i64 s.2] 33)) (.cells #[.string x.t, .int .i64 x.k, .int .i64 x.x.k, .int .i64 x.x.o, .int .i64 x.x.n, .string x.x.s, .int .i64 x.x.r, .int .i64 x.x.c, .bool x.x.pr, .bool x.x.pc, .int .i64 x.x.r2, .int .i64 x.x.c2, .bool x.x.pr2, .bool x.x.pc2, .int .i64 x.x.f, .slice x.x.kp x.x.kn x.x.kc] 106)
  rw [World.size_alloc] at hb2
  have hcb := hW.heap hcb (by simp)
  have hpb := hW.heap hpb (by simp)
  have HT := Lib.hid (HT.out.fr hW (by simp) (by simp))
  obtain ⟨A, hA⟩ : ∃ A, w.heap.size = A := ⟨_, rfl⟩
  simp only [hA] at hat hb2 ltb lmb ⊢
  generalize (w.alloc (.cells #[.int .i64 s.1, .int .i64 s.2] 33)).alloc (.cells #[.string x.t, .int .i64 x.k, .int .i64 x.x.k, .int .i64 x.x.o, .int .i64 x.x.n, .string x.x.s, .int .i64 x.x.r, .int .i64 x.x.c, .bool x.x.pr, .bool x.x.pc, .int .i64 x.x.r2, .int .i64 x.x.c2, .bool x.x.pr2, .bool x.x.pc2, .int .i64 x.x.f, .slice x.x.kp x.x.kn x.x.kc] 106) = W at *
  have q0 := cell_of hcb 0
  have c0 := cell_of hpb 0
  have a0 := cell_of hat 0
  have a1 := cell_of hat 1
  have lc := lt_of hcb
  have lp := lt_of hpb
  have lA := lt_of hat
  have nc : c ∉ [tb, mb] := by simp [hctb, hcmb]
  have np : p ∉ [tb, mb] := by simp [hne1, hne2]
  have nA : A ∉ [tb, mb] := by simp; omega
  have nA1 : A + 1 ∉ [tb, mb] := by simp; omega
  refine wp_facts (fun u => Fr [tb, mb] W u) (fun i u u' => Fr (if i = 9 then [tb, mb] else []) u u') [(0, .pointer (some ⟨c, 0, none⟩)), (4, .pointer (some ⟨A, 0, none⟩)), (5, .pointer (some ⟨(A + 1), 0, none⟩))] [[], [0], [1], [2], [3], [4], [5], [], [], [6, 7, 8], [9]]
    (fun i σ u => match i with
      | 0 => σ 19 = .pointer (some ⟨c, 0, none⟩)
      | 1 => σ 20 = .pointer (some ⟨c, 0, none⟩)
      | 2 => σ 21 = .pointer (some ⟨c, 0, none⟩)
      | 3 => σ 22 = .pointer (some ⟨p, 0, none⟩)
      | 4 => σ 23 = .pointer (some ⟨p, 0, none⟩)
      | 5 => σ 24 = .pointer (some ⟨p, 0, none⟩)
      | 6 => σ 25 = .pointer (some ⟨tb, 0, none⟩)
      | 7 => σ 26 = spV s
      | 8 => σ 27 = Cel.val x
      | 9 => TabIs 163 (fun x : Cel => Cel.val x) u tb mb (setL s x l) ∧ σ 28 = .int .i64 E
      | _ => σ 6 = .int .i64 E) (fun i u => i = 9 → Fr [] W u)
    (ds := [19, 20, 21, 22, 23, 24, 25, 26, 27, 28, 6]) (fr := ?fr4) (by kernel_rfl) ?hfr4 ⟨rfl, rfl, rfl, trivial⟩ rfl rfl (by kernel_rfl) (by kernel_rfl) (by decide) rfl (Fr.refl _ _).drew (fun _ _ _ => (Fr.refl _ _).drew) ⟨fun j hj i u u' hij _ hG hR hN e => (hN e).trans0 (by subst e; rwa [if_neg hij] at hR), fun i u u' hG hR => (by split at hR; exact hG.trans hR (fun q hq => .inl (by first | exact hq | exact List.mem_cons_of_mem _ hq | exact List.mem_cons.2 (.inl (List.mem_singleton.1 hq)))); exact hG.trans0 hR), ?_, ?_⟩ ?_
  case hfr4 =>
    intro σ
    simp only [layA, List.foldl_cons, List.foldl_nil, List.setIfInBounds_toArray, List.set_cons_zero, List.set_cons_succ]
    rfl
  · intro j hj i σ σ' u u' hij hs hd hG hR h
    have hj : j < 11 := hj
    rcases (by omega : j = 9 ∨ j = 0 ∨ j = 1 ∨ j = 2 ∨ j = 3 ∨ j = 4 ∨ j = 5 ∨ j = 6 ∨ j = 7 ∨ j = 8 ∨ j = 10) with rfl | rfl | rfl | rfl | rfl | rfl | rfl | rfl | rfl | rfl | rfl
    · rw [if_neg hij] at hR; exact ⟨h.1.fr hR (by simp) (by simp), hs.trans h.2⟩
    all_goals exact hs.trans h
  · intro i hi
    have hi : i < 11 := hi
    rcases (by omega : (i = 0 ∨ i = 1 ∨ i = 2 ∨ i = 3 ∨ i = 4 ∨ i = 5 ∨ i = 6 ∨ i = 7) ∨ (i = 8 ∨ i = 9 ∨ i = 10)) with hi | hi
    · rcases hi with rfl | rfl | rfl | rfl | rfl | rfl | rfl | rfl
      all_goals
        intro a u K hX hG hD hN hZ hK
        obtain ⟨hx0, hx4, hx5, -⟩ := hX
        try dsimp only [AllF, slotsA, List.getD_cons_zero, List.getD_cons_succ] at hD
        first | obtain ⟨e0, e1, e2, e3, -⟩ := hD | obtain ⟨e0, e1, e2, -⟩ := hD | obtain ⟨e0, e1, -⟩ := hD | obtain ⟨e0, -⟩ := hD | skip
        try replace e0 : _ = _ := e0
        try replace e1 : _ = _ := e1
        try replace e2 : _ = _ := e2
        try replace e3 : _ = _ := e3
        have m0 := (hG.cell (p := ⟨c, 0, none⟩) lc nc).trans q0
        have m1 := (hG.cell (p := ⟨p, 0, none⟩) lp np).trans c0
        have m2 := (hG.cell (p := ⟨A, 0, none⟩) lA nA).trans a0
        have m3 := (hG.cell (p := ⟨A, 1, none⟩) lA nA).trans a1
        refine wpOp_step rfl (fun K' hK' => ?_)
        go_simp
        exact hK' _ _ (hK _ _ (Fr.refl _ _) rfl)
    · rcases hi with rfl | rfl | rfl
      all_goals
        intro a u K hX hG hD hN hZ hK
        obtain ⟨hx0, hx4, hx5, -⟩ := hX
        try dsimp only [AllF, slotsA, List.getD_cons_zero, List.getD_cons_succ] at hD
        have m0 := (hG.cell (p := ⟨c, 0, none⟩) lc nc).trans q0
        have m1 := (hG.cell (p := ⟨p, 0, none⟩) lp np).trans c0
        have m2 := (hG.cell (p := ⟨A, 0, none⟩) lA nA).trans a0
        have m3 := (hG.cell (p := ⟨A, 1, none⟩) lA nA).trans a1
      · exact wpOp_plain rfl rfl (wp_load_mid 106 (.tmp 5) rfl (A + 1) 0 ((eval_tmp a 5).trans hx5) (((#[.string x.t, .int .i64 x.k, .int .i64 x.x.k, .int .i64 x.x.o, .int .i64 x.x.n, .string x.x.s, .int .i64 x.x.r, .int .i64 x.x.c, .bool x.x.pr, .bool x.x.pc, .int .i64 x.x.r2, .int .i64 x.x.c2, .bool x.x.pr2, .bool x.x.pc2, .int .i64 x.x.f, .slice x.x.kp x.x.kn x.x.kc] : Array Value).toList.drop 0).take 16) _ (rangeAt_of (hG.heap hb2 nA1) 0 16) Tryz.underlying106 rfl (by kernel_rfl) (hK _ _ (Fr.refl _ _) rfl))
      · obtain ⟨d6, d7, d8, -⟩ := hD
        replace d6 : _ = _ := d6
        replace d7 : _ = _ := d7
        replace d8 : _ = _ := d8
        refine wpOp_step rfl (fun K' hK' => ?_)
        go_simp
        refine (hset.out u (HT.out.fr (hN rfl) (by simp) (by simp))).mono ?_
        rintro e u2 ⟨rfl, hT5, hF⟩
        exact hK' _ _ (hK _ _ hF ⟨hT5, rfl⟩)
      · obtain ⟨⟨-, d9⟩, -⟩ := hD
        replace d9 : _ = _ := d9
        refine wpOp_step rfl (fun K' hK' => ?_)
        go_simp
        exact hK' _ _ (hK _ _ (Fr.refl _ _) rfl)
  · intro σ u hG h
    have h10 : σ 6 = _ := h 10 (by decide)
    have h9 := (h 9 (by decide)).1
    rw [h10]
    clear h
    go_wp2
    go_ret
    exact ⟨rfl, h9, (hW.mono (by simp) : Fr [tb, mb] w W).transS hG⟩

/-- A change under way: its sheet, what takes back the edits so far. -/
def ChAt (B0 c p tb mb : Nat) (b : Int) (l : List (Sp × Cel)) (n : Nat) (w : World) : Prop :=
  ∃ v fs, w.heap[c]? = some (.cells #[.pointer (some ⟨p, 0, none⟩), v] 149 (0, 0)) ∧ w.ownsRow B0 1 1 v n fs ∧ ShB w p tb mb b l
theorem ChAt.fr0 {B0 c p tb mb : Nat} {b : Int} {l : List (Sp × Cel)} {n : Nat} {w w1 : World} (h : ChAt B0 c p tb mb b l n w) (hf : Fr [] w w1) : ChAt B0 c p tb mb b l n w1 := by
  obtain ⟨v, fs, h1, h2, h3⟩ := h
  exact ⟨v, fs, hf.heap h1 (by simp), owns_fr h2 hf (fun _ _ => by simp), h3.fr0 hf⟩
theorem infoFn : (Tryz.prog.info? 1).map (fun i => (i.zero, i.size, i.bytes)) = some (some .nilFunc, 1, 8) := by kernel_rfl

theorem Fr.toKeptT {B : Nat} {S VB : List Nat} {t : TypeId} {w w1 : World} (h : Fr (S ++ VB) w w1) (hV : ∀ g ∈ VB, B ≤ g ∧ ∃ cur f, w.heap[g]? = some (.cells cur t f)) : KeptT B S (some t) w w1 :=
  ⟨h.os, h.tape, h.output, h.size, fun k o ho hn hb => h.heap ho (fun hm => by
    rcases List.mem_append.1 hm with hm | hm
    · exact hn hm
    · obtain ⟨h1, cur, f, h2⟩ := hV k hm
      rw [ho] at h2
      cases h2
      rcases hb with hb | hb
      · omega
      · simp [ofT] at hb)⟩

set_option maxRecDepth 100000 in
set_option maxHeartbeats 3200000 in
theorem chPut (B0 c p tb mb : Nat) (b b2 : Int) (l : List (Sp × Cel)) (n : Nat) (s : Sp) (x : Cel) (w : World) (h : ChAt B0 c p tb mb b l n w) (hB : c < B0 ∧ p < B0 ∧ tb < B0 ∧ mb < B0) (hB0 : B0 ≤ w.heap.size) (hx : x.t.toList.isEmpty = false) (hE : setE s l = 0)
    (hw1 : IntKind.i64.wrap ((x.t.size : Int) - (((getS s l).getD cel0).t.size : Int)) = (x.t.size : Int) - (((getS s l).getD cel0).t.size : Int)) (hw2 : IntKind.i64.wrap (b + ((x.t.size : Int) - (((getS s l).getD cel0).t.size : Int))) = b2) (hn : n < 5000) :
    Calls Tryz.prog 115 #[.pointer (some ⟨c, 0, none⟩), spV s, Cel.val x] w fun e w1 => e = .returned (.int .i64 0) ∧ ChAt B0 c p tb mb b2 (putS s x l) (n + 1) w1 ∧ KeptT B0 [c, p, tb, mb] (some 1) w w1 := by
  obtain ⟨i0, hI, hz0, hz1, hz2⟩ := info_parts infoFn
  obtain ⟨v, fs, hcb, hrow, h⟩ := h
  have hL : setL s x l = putS s x l := by unfold setL; rw [if_pos hE]
  have hlay : Hid (∀ u, u.heap[c]? = some (.cells #[.pointer (some ⟨p, 0, none⟩), v] 149 (0, 0)) → ShB u p tb mb b l → Calls Tryz.prog 159 #[.pointer (some ⟨c, 0, none⟩), spV s, Cel.val x] u fun e w1 => e = .returned (.int .i64 0) ∧ TabIs 163 (fun x : Cel => Cel.val x) w1 tb mb (putS s x l) ∧ Fr [tb, mb] u w1) := by
    intro u h1 h2
    have := chLay c p tb mb b l v s x u h1 h2 hx
    rwa [hE, hL] at this
  obtain ⟨y, hy⟩ : ∃ y, (getS s l).getD cel0 = y := ⟨_, rfl⟩
  have hget : Hid (∀ u, ShB u p tb mb b l → Calls Tryz.prog 42 #[.pointer (some ⟨p, 0, none⟩), spV s] u fun e w1 => e = .returned y.val ∧ Fr [] u w1) := by
    intro u hu
    have := shGet p tb mb b s l u hu
    rwa [hy] at this
  rw [hy] at hw1 hw2
  obtain ⟨hne1, hne2⟩ := h.ne
  have hcp : c ≠ p := by
    rintro rfl
    have h1 := h.sh
    rw [hcb] at h1
    injection h1 with h1
    injection h1 with h2 h3 h4
    cases h3
  have hctb : c ≠ tb := by
    rintro rfl
    have h1 := h.tab.tab
    rw [hcb] at h1
    injection h1 with h1
    injection h1 with h2 h3 h4
    cases h3
  have hcmb : c ≠ mb := by
    rintro rfl
    obtain ⟨_, _, h1, _⟩ := h.tab.map
    rw [hcb] at h1
    cases h1
  have hvB : ∀ g ∈ v.ownBlock.toList, B0 ≤ g ∧ ∃ cur f, w.heap[g]? = some (.cells cur 1 f) := by
    intro g hg
    rcases hrow.2 with ⟨e, _⟩ | ⟨g', cap, cur, e, hg', hh, _⟩
    · rw [e] at hg; simp [Value.ownBlock] at hg
    · rw [e] at hg; simp [Value.ownBlock] at hg
      subst hg
      exact ⟨hg', cur, _, hh⟩
  have H := Lib.hid h
  have HE := Lib.hid hE
  have HX := Lib.hid hx
  clear h hL hE hy hx
  go_enter Tryz.func115, Tryz.ntmps115
  go_wp2_with fail
  have hW : Fr [] w (((w.alloc (.cells #[.pointer (some ⟨c, 0, none⟩)] 146)).alloc (.cells #[.int .i64 s.1, .int .i64 s.2] 33)).alloc (.cells #[.string x.t, .int .i64 x.k, .int .i64 x.x.k, .int .i64 x.x.o, .int .i64 x.x.n, .string x.x.s, .int .i64 x.x.r, .int .i64 x.x.c, .bool x.x.pr, .bool x.x.pc, .int .i64 x.x.r2, .int .i64 x.x.c2, .bool x.x.pr2, .bool x.x.pc2, .int .i64 x.x.f, .slice x.x.kp x.x.kn x.x.kc] 106)) := (((Fr.refl [] w).alloc _).alloc _).alloc _
  have hbc := (((Fr.refl [] _).alloc (.cells #[.int .i64 s.1, .int .i64 s.2] 33)).alloc (.cells #[.string x.t, .int .i64 x.k, .int .i64 x.x.k, .int .i64 x.x.o, .int .i64 x.x.n, .string x.x.s, .int .i64 x.x.r, .int .i64 x.x.c, .bool x.x.pr, .bool x.x.pc, .int .i64 x.x.r2, .int .i64 x.x.c2, .bool x.x.pr2, .bool x.x.pc2, .int .i64 x.x.f, .slice x.x.kp x.x.kn x.x.kc] 106)).heap (heap_new w (.cells #[.pointer (some ⟨c, 0, none⟩)] 146)) (by simp)
  have hat := ((Fr.refl [] _).alloc (.cells #[.string x.t, .int .i64 x.k, .int .i64 x.x.k, .int .i64 x.x.o, .int .i64 x.x.n, .string x.x.s, .int .i64 x.x.r, .int .i64 x.x.c, .bool x.x.pr, .bool x.x.pc, .int .i64 x.x.r2, .int .i64 x.x.c2, .bool x.x.pr2, .bool x.x.pc2, .int .i64 x.x.f, .slice x.x.kp x.x.kn x.x.kc] 106)).heap (heap_new (w.alloc (.cells #[.pointer (some ⟨c, 0, none⟩)] 146)) (.cells #[.int .i64 s.1, .int .i64 s.2] 33)) (by simp)
  have hxx := heap_new ((w.alloc (.cells #[.pointer (some ⟨c, 0, none⟩)] 146)).alloc (.cells #[.int .i64 s.1, .int .i64 s.2] 33)) (.cells #[.string x.t, .int .i64 x.k, .int .i64 x.x.k, .int .i64 x.x.o, .int .i64 x.x.n, .string x.x.s, .int .i64 x.x.r, .int .i64 x.x.c, .bool x.x.pr, .bool x.x.pc, .int .i64 x.x.r2, .int .i64 x.x.c2, .bool x.x.pr2, .bool x.x.pc2, .int .i64 x.x.f, .slice x.x.kp x.x.kn x.x.kc] 106)
  simp only [World.size_alloc] at hat hxx
  have hcbW := hW.heap hcb (by simp)
  have hHW := H.out.fr0 hW
  have hrowW := owns_fr hrow hW (fun _ _ => by simp)
  obtain ⟨A, hA⟩ : ∃ A, w.heap.size = A := ⟨_, rfl⟩
  simp only [hA] at hbc hat hxx ⊢
  generalize ((w.alloc (.cells #[.pointer (some ⟨c, 0, none⟩)] 146)).alloc (.cells #[.int .i64 s.1, .int .i64 s.2] 33)).alloc (.cells #[.string x.t, .int .i64 x.k, .int .i64 x.x.k, .int .i64 x.x.o, .int .i64 x.x.n, .string x.x.s, .int .i64 x.x.r, .int .i64 x.x.c, .bool x.x.pr, .bool x.x.pc, .int .i64 x.x.r2, .int .i64 x.x.c2, .bool x.x.pr2, .bool x.x.pc2, .int .i64 x.x.f, .slice x.x.kp x.x.kn x.x.kc] 106) = W at *
  have q0 := cell_of hcbW 0
  have c0 := cell_of hHW.sh 0
  have c1 := cell_of hHW.sh 1
  have b0 := cell_of hbc 0
  have a0 := cell_of hat 0
  have a1 := cell_of hat 1
  have lc := lt_of hcbW
  have lp := lt_of hHW.sh
  have lA := lt_of hbc
  have lA1 := lt_of hat
  have H := Lib.hid hHW
  clear hHW
  refine wp_facts (fun u => Fr [] W u) (RelS W.heap.size [(15, 106), (16, 3)]) [(3, .pointer (some ⟨A, 0, none⟩)), (4, .pointer (some ⟨(A + 1), 0, none⟩))] [[], [0], [1], [2], [], [3, 4], [], [6], [7], [8], [9], [10], [11], [], [], [13, 5], [14, 12]]
    (fun i σ u => match i with
      | 0 => σ 10 = .pointer (some ⟨c, 0, none⟩)
      | 1 => σ 11 = .pointer (some ⟨c, 0, none⟩)
      | 2 => σ 12 = .pointer (some ⟨c, 0, none⟩)
      | 3 => σ 13 = .pointer (some ⟨p, 0, none⟩)
      | 4 => σ 14 = spV s
      | 5 => σ 15 = Cel.val y
      | 6 => σ 16 = .pointer (some ⟨c, 0, none⟩)
      | 7 => σ 17 = .pointer (some ⟨c, 0, none⟩)
      | 8 => σ 18 = .pointer (some ⟨c, 0, none⟩)
      | 9 => σ 19 = .pointer (some ⟨p, 0, none⟩)
      | 10 => σ 20 = .pointer (some ⟨p, 0, none⟩)
      | 11 => σ 21 = .pointer (some ⟨p, 1, none⟩)
      | 12 => σ 22 = .int .i64 b
      | 13 => ∃ D cs, σ 7 = .pointer (some ⟨D, 0, none⟩) ∧ W.heap.size ≤ D ∧ cs.size = 16 ∧ u.heap[D]? = some (.cells cs 106 (0, 0))
      | 14 => ∃ D cs, σ 8 = .pointer (some ⟨D, 0, none⟩) ∧ W.heap.size ≤ D ∧ cs.size = 1 ∧ u.heap[D]? = some (.cells cs 3 (0, 0))
      | 15 => ∃ D, σ 7 = .pointer (some ⟨D, 0, none⟩) ∧ W.heap.size ≤ D ∧ u.heap[D]? = some (.cells #[.string y.t, .int .i64 y.k, .int .i64 y.x.k, .int .i64 y.x.o, .int .i64 y.x.n, .string y.x.s, .int .i64 y.x.r, .int .i64 y.x.c, .bool y.x.pr, .bool y.x.pc, .int .i64 y.x.r2, .int .i64 y.x.c2, .bool y.x.pr2, .bool y.x.pc2, .int .i64 y.x.f, .slice y.x.kp y.x.kn y.x.kc] 106 (0, 0))
      | _ => ∃ D, σ 8 = .pointer (some ⟨D, 0, none⟩) ∧ W.heap.size ≤ D ∧ u.heap[D]? = some (.cells #[.int .i64 b] 3 (0, 0))) (fun _ _ => True)
    (ds := [10, 11, 12, 13, 14, 15, 16, 17, 18, 19, 20, 21, 22, 7, 8]) (fr := ?fr1) (by kernel_rfl) ?hfr1 ⟨rfl, rfl, trivial⟩ rfl rfl (by kernel_rfl) (by kernel_rfl) (by decide) rfl (Fr.refl _ _).drew (fun _ _ => trivial) ⟨fun _ _ _ _ _ _ _ _ _ _ => trivial, fun i u u' hG hR => hR.fr hG, ?_, ?_⟩ ?_
  case hfr1 =>
    intro σ
    simp only [layA, List.foldl_cons, List.foldl_nil, List.setIfInBounds_toArray, List.set_cons_zero, List.set_cons_succ]
    rfl
  · intro j hj i σ σ' u u' hij hs hd hG hR h
    have hj : j < 17 := hj
    rcases (by omega : j = 13 ∨ j = 14 ∨ j = 15 ∨ j = 16 ∨ j = 0 ∨ j = 1 ∨ j = 2 ∨ j = 3 ∨ j = 4 ∨ j = 5 ∨ j = 6 ∨ j = 7 ∨ j = 8 ∨ j = 9 ∨ j = 10 ∨ j = 11 ∨ j = 12) with rfl | rfl | rfl | rfl | rfl | rfl | rfl | rfl | rfl | rfl | rfl | rfl | rfl | rfl | rfl | rfl | rfl
    · obtain ⟨D, cs, h1, h2, h3, h4⟩ := h
      obtain ⟨cs', h5, h6⟩ := hR.shape h4
      exact ⟨D, cs', hs.trans h1, h2, h5.trans h3, h6⟩
    · obtain ⟨D, cs, h1, h2, h3, h4⟩ := h
      obtain ⟨cs', h5, h6⟩ := hR.shape h4
      exact ⟨D, cs', hs.trans h1, h2, h5.trans h3, h6⟩
    · obtain ⟨D, h1, h2, h3⟩ := h
      exact ⟨D, (hd 13 rfl).1.trans h1, h2, hR.block h3 (lookup_ne (by decide) hij)⟩
    · obtain ⟨D, h1, h2, h3⟩ := h
      exact ⟨D, (hd 14 rfl).1.trans h1, h2, hR.block h3 (lookup_ne (by decide) hij)⟩
    all_goals exact hs.trans h
  · intro i hi
    have hi : i < 17 := hi
    rcases (by omega : (i = 0 ∨ i = 1 ∨ i = 2 ∨ i = 3 ∨ i = 4 ∨ i = 6 ∨ i = 7 ∨ i = 8 ∨ i = 9 ∨ i = 10 ∨ i = 11 ∨ i = 12) ∨ (i = 5 ∨ i = 13 ∨ i = 14 ∨ i = 15 ∨ i = 16)) with hi | hi
    · rcases hi with rfl | rfl | rfl | rfl | rfl | rfl | rfl | rfl | rfl | rfl | rfl | rfl
      all_goals
        intro a u K hX hG hD hN hZ hK
        obtain ⟨hx3, hx4, -⟩ := hX
        try dsimp only [AllF, slotsA, List.getD_cons_zero, List.getD_cons_succ] at hD
        first | obtain ⟨e0, e1, e2, e3, -⟩ := hD | obtain ⟨e0, e1, e2, -⟩ := hD | obtain ⟨e0, e1, -⟩ := hD | obtain ⟨e0, -⟩ := hD | skip
        try replace e0 : _ = _ := e0
        try replace e1 : _ = _ := e1
        try replace e2 : _ = _ := e2
        try replace e3 : _ = _ := e3
        have hr := hG.rules.1
        refine wpOp_step rfl (fun K' hK' => ?_)
        go_simp
        exact hK' _ _ (hK _ _ (Fr.refl _ _) rfl)
    · rcases hi with rfl | rfl | rfl | rfl | rfl
      all_goals
        intro a u K hX hG hD hN hZ hK
        obtain ⟨hx3, hx4, -⟩ := hX
        try dsimp only [AllF, slotsA, List.getD_cons_zero, List.getD_cons_succ] at hD
        have hr := hG.rules.1
      · obtain ⟨d3, d4, -⟩ := hD
        replace d3 : _ = _ := d3
        replace d4 : _ = _ := d4
        refine wpOp_step rfl (fun K' hK' => ?_)
        go_simp
        refine (hget.out u (H.out.fr0 hG)).mono ?_
        rintro e u2 ⟨rfl, hF⟩
        exact hK' _ _ (hK _ _ hF rfl)
      · refine wpOp_step rfl (fun K' hK' => ?_)
        go_simp
        exact hK' _ _ (hK _ _ ((Fr.refl [] u).alloc _) ⟨_, _, rfl, hG.size, rfl, heap_new u _⟩)
      · refine wpOp_step rfl (fun K' hK' => ?_)
        go_simp
        exact hK' _ _ (hK _ _ ((Fr.refl [] u).alloc _) ⟨_, _, rfl, hG.size, rfl, heap_new u _⟩)
      · obtain ⟨⟨D, cs, d, hD0, hz, hb⟩, d5, -⟩ := hD
        obtain ⟨hSt, hn⟩ := KeptS.setRow (cells := #[.string y.t, .int .i64 y.k, .int .i64 y.x.k, .int .i64 y.x.o, .int .i64 y.x.n, .string y.x.s, .int .i64 y.x.r, .int .i64 y.x.c, .bool y.x.pr, .bool y.x.pc, .int .i64 y.x.r2, .int .i64 y.x.c2, .bool y.x.pr2, .bool y.x.pc2, .int .i64 y.x.f, .slice y.x.kp y.x.kn y.x.kc]) hb hD0 hz
        refine wpOp_plain rfl rfl (wp_store_row 106 (.tmp 7) (.tmp 15) rfl D #[.string y.t, .int .i64 y.k, .int .i64 y.x.k, .int .i64 y.x.o, .int .i64 y.x.n, .string y.x.s, .int .i64 y.x.r, .int .i64 y.x.c, .bool y.x.pr, .bool y.x.pc, .int .i64 y.x.r2, .int .i64 y.x.c2, .bool y.x.pr2, .bool y.x.pc2, .int .i64 y.x.f, .slice y.x.kp y.x.kn y.x.kc] ((eval_tmp a 7).trans d) ((eval_tmp a 15).trans d5) 106 cs hb (by kernel_rfl) hz (by simp [Value.oneCell']) ?_)
        exact hK _ _ hSt ⟨D, d, hD0, hn⟩
      · obtain ⟨⟨D, cs, d, hD0, hz, hb⟩, d12, -⟩ := hD
        obtain ⟨x0, rfl⟩ := size_one hz
        obtain ⟨hSt, hn⟩ := KeptS.set1 (v := .int .i64 b) hb hD0
        have q0 := cell_of hb 0
        have f0 := free_of hb 0
        replace d : _ = _ := d
        replace d12 : _ = _ := d12
        refine wpOp_step rfl (fun K' hK' => ?_)
        go_simp
        exact hK' _ _ (hK undef _ hSt ⟨D, d, hD0, hn⟩)
  · intro σ u hG h
    obtain ⟨D1, e7, hD1, y0⟩ := h 15 (by decide)
    obtain ⟨D2, e8, hD2, z0⟩ := h 16 (by decide)
    rw [e7, e8]
    clear h e7 e8
    have hcbu := hG.heap hcbW (by simp)
    have hbcu := hG.heap hbc (by simp)
    have hatu := hG.heap hat (by simp)
    have hxxu := hG.heap hxx (by simp)
    have hrowu := owns_fr hrowW hG (fun _ _ => by simp)
    have Hu := Lib.hid (H.out.fr0 hG)
    have hGz := hG.size
    have b0 := cell_of hbcu 0
    have a0 := cell_of hatu 0
    have a1 := cell_of hatu 1
    have lxx := lt_of hxx
    clear q0 c0 c1 lc lp lA lA1 hcb hrow
    go_wp2_with (first | (refine wpList_load_mid rfl 106 _ rfl (A + 1 + 1) 0 rfl (#[.string x.t, .int .i64 x.k, .int .i64 x.x.k, .int .i64 x.x.o, .int .i64 x.x.n, .string x.x.s, .int .i64 x.x.r, .int .i64 x.x.c, .bool x.x.pr, .bool x.x.pc, .int .i64 x.x.r2, .int .i64 x.x.c2, .bool x.x.pr2, .bool x.x.pc2, .int .i64 x.x.f, .slice x.x.kp x.x.kn x.x.kc] : Array Value).toList _ (rangeAt_of hxxu 0 16) Tryz.underlying106 rfl (by kernel_rfl) ?_))
    refine (hlay.out u hcbu Hu.out).mono ?_
    rintro e u1 ⟨rfl, hT1, hF1⟩
    have HT1 := Lib.hid hT1
    clear hT1
    have ltb := Hu.out.lts
    have nc : c ∉ [tb, mb] := by simp [hctb, hcmb]
    have np : p ∉ [tb, mb] := by simp [hne1, hne2]
    have hfu : Fr [] w u := hW.trans0 hG
    have zu := hfu.size
    have zD1 : A < D1 ∧ A < D2 := by omega
    have hu1z := hF1.size
    have hcb := hF1.heap hcbu nc
    have hrow := owns_fr hrowu hF1 (fun g hg hm => by have := (hvB g (by simpa using hg)).1; simp at hm; omega)
    have hbc1 := hF1.heap hbcu (by simp; omega)
    have hxx1 := hF1.heap hxxu (by simp; omega)
    have hy1 := hF1.heap y0 (by simp; omega)
    have hpb := hF1.heap Hu.out.sh np
    have hVw : ∀ g ∈ v.ownBlock.toList, g < A := fun g hg => by
      obtain ⟨_, _, _, h2⟩ := hvB g hg
      have := lt_of h2
      omega
    have hcV : c ∉ v.ownBlock.toList := fun hm => by have := (hvB c hm).1; omega
    have hpV : p ∉ v.ownBlock.toList := fun hm => by have := (hvB p hm).1; omega
    have a0 := cell_of hbc1 0
    have lA := lt_of hbc1
    have nA : A ∉ c :: v.ownBlock.toList := by
      simp only [List.mem_cons, not_or]
      exact ⟨by omega, fun hm => by have := hVw A hm; omega⟩
    have hB0 : B0 ≤ u1.heap.size := by omega
    have hno : ∀ (i j : Nat), u1.heap.size ≤ j → j ∉ (if i = 7 then v.ownBlock.toList else if i = 10 then [c] else []) := by
      intro i j hj hm
      split at hm
      · have := hVw j hm; omega
      · split at hm
        · simp at hm; omega
        · simp at hm
    clear b0 a1 y0
    go_wp2_with fail
    refine wp_facts (fun u => Fr (c :: v.ownBlock.toList) u1 u) (fun i u u' => Fr (if i = 7 then v.ownBlock.toList else if i = 10 then [c] else []) u u') [(3, .pointer (some ⟨A, 0, none⟩)), (4, .pointer (some ⟨(A + 1), 0, none⟩)), (7, .pointer (some ⟨D1, 0, none⟩)), (8, .pointer (some ⟨D2, 0, none⟩))] [[], [], [1], [2], [3], [], [5], [4, 6], [0], [8], [9, 7, 4]]
      (fun i σ u => match i with
        | 0 => σ 29 = .pointer (some ⟨c, 0, none⟩)
        | 1 => σ 30 = .pointer (some ⟨c, 0, none⟩)
        | 2 => σ 31 = .pointer (some ⟨c, 0, none⟩)
        | 3 => σ 32 = .pointer (some ⟨c, 1, none⟩)
        | 4 => σ 33 = v
        | 5 => σ 34 = .func (.func 160) #[] #[.pointer (some ⟨A, 0, none⟩), .pointer (some ⟨(A + 1), 0, none⟩), .pointer (some ⟨D1, 0, none⟩), .pointer (some ⟨D2, 0, none⟩)]
        | 6 => ∃ D, σ 35 = .slice (some ⟨D, 0, none⟩) 1 1 ∧ u.heap[D]? = some (.cells #[.func (.func 160) #[] #[.pointer (some ⟨A, 0, none⟩), .pointer (some ⟨(A + 1), 0, none⟩), .pointer (some ⟨D1, 0, none⟩), .pointer (some ⟨D2, 0, none⟩)]] 1 (0, 0)) ∧ u1.heap.size ≤ D
        | 7 => ∃ v2, σ 36 = v2 ∧ u.ownsRow B0 1 1 v2 (n + 1) (fs ++ [.func (.func 160) #[] #[.pointer (some ⟨A, 0, none⟩), .pointer (some ⟨(A + 1), 0, none⟩), .pointer (some ⟨D1, 0, none⟩), .pointer (some ⟨D2, 0, none⟩)]])
        | 8 => σ 37 = .pointer (some ⟨c, 0, none⟩)
        | 9 => σ 38 = .pointer (some ⟨c, 1, none⟩)
        | _ => ∃ v2, σ 36 = v2 ∧ u.ownsRow B0 1 1 v2 (n + 1) (fs ++ [.func (.func 160) #[] #[.pointer (some ⟨A, 0, none⟩), .pointer (some ⟨(A + 1), 0, none⟩), .pointer (some ⟨D1, 0, none⟩), .pointer (some ⟨D2, 0, none⟩)]]) ∧ u.heap[c]? = some (.cells #[.pointer (some ⟨p, 0, none⟩), v2] 149 (0, 0))) (fun i u => (i = 4 ∨ i = 7 → Fr [] u1 u) ∧ (i = 10 → Fr v.ownBlock.toList u1 u))
      (ds := [29, 30, 31, 32, 33, 34, 35, 36, 37, 38]) (fr := ?fr4) (by kernel_rfl) ?hfr4 ⟨rfl, rfl, rfl, rfl, trivial⟩ rfl rfl (by kernel_rfl) (by kernel_rfl) (by decide) rfl (Fr.refl _ _).drew (fun _ _ => ⟨fun _ => (Fr.refl _ _).drew, fun _ => (Fr.refl _ _).drew⟩) ⟨fun j hj i u u' hij hc hG hR hN => ⟨fun e => (hN.1 e).trans0 (by have h7 : i ≠ 7 := (by rintro rfl; rcases e with rfl | rfl; exact absurd hc (by decide); exact hij rfl); have h10 : i ≠ 10 := (by rintro rfl; rcases e with rfl | rfl <;> exact absurd hc (by decide)); rwa [if_neg h7, if_neg h10] at hR), fun e => by subst e; rw [if_neg hij] at hR; split at hR; exact (hN.2 rfl).transS hR; exact (hN.2 rfl).trans0 hR⟩, fun i u u' hG hR => (by split at hR; exact hG.trans hR (fun q hq => .inl (by first | exact hq | exact List.mem_cons_of_mem _ hq | exact List.mem_cons.2 (.inl (List.mem_singleton.1 hq)))); split at hR; exact hG.trans hR (fun q hq => .inl (by first | exact hq | exact List.mem_cons_of_mem _ hq | exact List.mem_cons.2 (.inl (List.mem_singleton.1 hq)))); exact hG.trans0 hR), ?_, ?_⟩ ?_
    case hfr4 =>
      intro σ
      simp only [layA, List.foldl_cons, List.foldl_nil, List.setIfInBounds_toArray, List.set_cons_zero, List.set_cons_succ]
      rfl
    · intro j hj i σ σ' u u' hij hs hd hG hR h
      have hj : j < 11 := hj
      rcases (by omega : j = 6 ∨ j = 7 ∨ j = 10 ∨ j = 0 ∨ j = 1 ∨ j = 2 ∨ j = 3 ∨ j = 4 ∨ j = 5 ∨ j = 8 ∨ j = 9) with rfl | rfl | rfl | rfl | rfl | rfl | rfl | rfl | rfl | rfl | rfl
      · obtain ⟨D, h1, h2, h3⟩ := h; exact ⟨D, hs.trans h1, hR.heap h2 (hno _ _ h3), h3⟩
      · obtain ⟨v2, h1, h2⟩ := h; exact ⟨v2, hs.trans h1, owns_fr h2 hR (fun g hg hm => by rw [if_neg hij] at hm; have := (h2.lt g hg).1; split at hm <;> simp at hm; omega)⟩
      · obtain ⟨v2, h1, h2, h3⟩ := h; have h7 : i ≠ 7 := (fun e => (hd 7 rfl).2 e); exact ⟨v2, (hd 7 rfl).1.trans h1, owns_fr h2 hR (fun g hg hm => by rw [if_neg h7, if_neg hij] at hm; simp at hm), hR.heap h3 (by rw [if_neg h7, if_neg hij]; simp)⟩
      all_goals exact hs.trans h
    · intro i hi
      have hi : i < 11 := hi
      rcases (by omega : (i = 0 ∨ i = 1 ∨ i = 2 ∨ i = 3 ∨ i = 5 ∨ i = 8 ∨ i = 9) ∨ (i = 4 ∨ i = 6 ∨ i = 7 ∨ i = 10)) with hi | hi
      · rcases hi with rfl | rfl | rfl | rfl | rfl | rfl | rfl
        all_goals
          intro a u K hX hG hD hN hZ hK
          obtain ⟨hx3, hx4, hx7, hx8, -⟩ := hX
          try dsimp only [AllF, slotsA, List.getD_cons_zero, List.getD_cons_succ] at hD
          first | obtain ⟨e0, e1, e2, e3, -⟩ := hD | obtain ⟨e0, e1, e2, -⟩ := hD | obtain ⟨e0, e1, -⟩ := hD | obtain ⟨e0, -⟩ := hD | skip
          try replace e0 : _ = _ := e0
          try replace e1 : _ = _ := e1
          try replace e2 : _ = _ := e2
          try replace e3 : _ = _ := e3
          have m0 := (hG.cell (p := ⟨A, 0, none⟩) lA nA).trans a0
          refine wpOp_step rfl (fun K' hK' => ?_)
          go_simp
          exact hK' _ _ (hK _ _ (Fr.refl _ _) rfl)
      · rcases hi with rfl | rfl | rfl | rfl
        all_goals
          intro a u K hX hG hD hN hZ hK
          obtain ⟨hx3, hx4, hx7, hx8, -⟩ := hX
          try dsimp only [AllF, slotsA, List.getD_cons_zero, List.getD_cons_succ] at hD
          have m0 := (hG.cell (p := ⟨A, 0, none⟩) lA nA).trans a0
        · obtain ⟨d3, -⟩ := hD
          replace d3 : _ = _ := d3
          have m9 := cell_of ((hN.1 (.inl rfl)).heap hcb (by simp)) 1
          refine wpOp_step rfl (fun K' hK' => ?_)
          go_simp
          exact hK' _ _ (hK _ _ (Fr.refl _ _) rfl)
        · obtain ⟨d5, -⟩ := hD
          replace d5 : _ = _ := d5
          refine wpOp_step rfl (fun K' hK' => ?_)
          go_simp
          exact hK' _ _ (hK _ _ ((Fr.refl [] u).alloc _) ⟨_, rfl, heap_new u _, hG.size⟩)
        · obtain ⟨d4, ⟨D, d6, hb, hz⟩, -⟩ := hD
          replace d4 : _ = _ := d4
          have hrow2 := owns_fr hrow (hN.1 (.inr rfl)) (fun _ _ => by simp)
          refine wpOp_plain rfl rfl (wp_append_own u (.tmp 33) (.tmp 35) 147 rfl B0 1 i0 _ 1 8 Tryz.underlying147 hI hz0 hz1 hz2 rfl (by decide) v n fs ((eval_tmp a 33).trans d4) hrow2 ⟨D, 0, none⟩ 1 1 [.func (.func 160) #[] #[.pointer (some ⟨A, 0, none⟩), .pointer (some ⟨(A + 1), 0, none⟩), .pointer (some ⟨D1, 0, none⟩), .pointer (some ⟨D2, 0, none⟩)]] ((eval_tmp a 35).trans d6) rfl (news_one hb) (by simp [Value.oneCell']) (by unfold maxLen; omega) (by omega) (Nat.le_trans hB0 hG.size) ?_)
          intro v2 u2 ho hgr _
          exact hK _ _ (fr_grownB hgr) ⟨v2, rfl, ho⟩
        · obtain ⟨d9, ⟨v2, d7, ho⟩, -⟩ := hD
          obtain ⟨g2, cap2, rfl⟩ := ownsRow_succ ho
          replace d9 : _ = _ := d9
          replace d7 : _ = _ := d7
          have hcu := (hN.2 rfl).heap hcb hcV
          have m9 := cell_of hcu 1
          have m8 := free_of hcu 1
          refine wpOp_step rfl (fun K' hK' => ?_)
          go_simp
          exact hK' _ _ (hK undef _ ((Fr.refl _ _).setCell (.inl (by simp)) _) ⟨_, d7, owns_fr ho ((Fr.refl [c] u).setCell (p := ⟨c, 1, none⟩) (.inl (by simp)) _) (fun g hg hm => by have := (ho.lt g hg).1; simp at hm; omega), set_of hcu 1 _⟩)
    · intro σ u2 hG2 h
      obtain ⟨v2, e36, hrow2, hc2⟩ := h 10 (by decide)
      clear h
      have hbc2 := hG2.heap hbc1 nA
      have hxx2 := hG2.heap hxx1 (by simp only [List.mem_cons, not_or]; exact ⟨by omega, fun hm => by have := hVw _ hm; omega⟩)
      have hy2 := hG2.heap hy1 (by simp only [List.mem_cons, not_or]; exact ⟨by omega, fun hm => by have := hVw _ hm; omega⟩)
      have hpb2 := hG2.heap hpb (by simp only [List.mem_cons, not_or]; exact ⟨fun e => hcp e.symm, hpV⟩)
      have hT2 := Lib.hid (HT1.out.fr hG2 (by simp only [List.mem_cons, not_or]; exact ⟨fun e => hctb e.symm, fun hm => by have := (hvB tb hm).1; omega⟩) (by simp only [List.mem_cons, not_or]; exact ⟨fun e => hcmb e.symm, fun hm => by have := (hvB mb hm).1; omega⟩))
      have hfr2 : Fr (([c, p, tb, mb] : List Nat) ++ v.ownBlock.toList) w u2 := ((hfu.mono (by simp)).trans hF1 (fun q hq => .inl (by simp at hq ⊢; omega))).trans hG2 (fun q hq => .inl (by simp at hq ⊢; rcases hq with hq | hq <;> simp [hq]))
      have q0 := cell_of hc2 0
      have a0 := cell_of hbc2 0
      have x0 := cell_of hxx2 0
      have y0 := cell_of hy2 0
      have lc := lt_of hc2
      have lA := lt_of hbc2
      have lA2 := lt_of hxx2
      have lD := lt_of hy2
      have nc2 : c ∉ [p] := by simpa using hcp
      have nA : A ∉ [p] := by simp; omega
      have nA2 : A + 1 + 1 ∉ [p] := by simp; omega
      have nD : D1 ∉ [p] := by simp; omega
      have hpb := hpb2
      have nc := nc2
      go_wp2_with fail
      refine wp_facts (fun u => Fr [p] u2 u) (fun i u u' => Fr (if i = 17 then [p] else []) u u') [(3, .pointer (some ⟨A, 0, none⟩)), (5, .pointer (some ⟨(A + 1 + 1), 0, none⟩)), (7, .pointer (some ⟨D1, 0, none⟩))] [[], [0], [1], [2], [3], [4], [5], [], [7], [8], [], [10], [11], [9, 12], [6, 13], [3], [15], [16, 14, 6]]
        (fun i σ u => match i with
          | 0 => σ 39 = .pointer (some ⟨c, 0, none⟩)
          | 1 => σ 40 = .pointer (some ⟨c, 0, none⟩)
          | 2 => σ 41 = .pointer (some ⟨c, 0, none⟩)
          | 3 => σ 42 = .pointer (some ⟨p, 0, none⟩)
          | 4 => σ 43 = .pointer (some ⟨p, 0, none⟩)
          | 5 => σ 44 = .pointer (some ⟨p, 1, none⟩)
          | 6 => σ 45 = .int .i64 b
          | 7 => σ 46 = .pointer (some ⟨(A + 1 + 1), 0, none⟩)
          | 8 => σ 47 = .string x.t
          | 9 => σ 48 = .int .i64 (x.t.size : Int)
          | 10 => σ 49 = .pointer (some ⟨D1, 0, none⟩)
          | 11 => σ 50 = .string y.t
          | 12 => σ 51 = .int .i64 (y.t.size : Int)
          | 13 => σ 52 = .int .i64 (x.t.size - y.t.size : Int)
          | 14 => σ 53 = .int .i64 b2
          | 15 => σ 54 = .pointer (some ⟨p, 0, none⟩)
          | 16 => σ 55 = .pointer (some ⟨p, 1, none⟩)
          | _ => u.heap[p]? = some (.cells #[.pointer (some ⟨tb, 0, none⟩), .int .i64 b2] 99 (0, 0))) (fun i u => i = 6 ∨ i = 17 → Fr [] u2 u)
        (ds := [39, 40, 41, 42, 43, 44, 45, 46, 47, 48, 49, 50, 51, 52, 53, 54, 55]) (fr := ?fr5) (by kernel_rfl) ?hfr5 ⟨rfl, rfl, rfl, trivial⟩ rfl rfl (by kernel_rfl) (by kernel_rfl) (by decide) rfl (Fr.refl _ _).drew (fun _ _ _ => (Fr.refl _ _).drew) ⟨fun j hj i u u' hij hc hG hR hN e => (hN e).trans0 (by have h7 : i ≠ 17 := (by rintro rfl; rcases e with rfl | rfl; exact absurd hc (by decide); exact hij rfl); rwa [if_neg h7] at hR), fun i u u' hG hR => (by split at hR; exact hG.trans hR (fun q hq => .inl (by first | exact hq | exact List.mem_cons_of_mem _ hq | exact List.mem_cons.2 (.inl (List.mem_singleton.1 hq)))); exact hG.trans0 hR), ?_, ?_⟩ ?_
      case hfr5 =>
        intro σ
        simp only [layA, List.foldl_cons, List.foldl_nil, List.setIfInBounds_toArray, List.set_cons_zero, List.set_cons_succ]
        rfl
      · intro j hj i σ σ' u u' hij hs hd hG hR h
        have hj : j < 18 := hj
        rcases (by omega : j = 17 ∨ j = 0 ∨ j = 1 ∨ j = 2 ∨ j = 3 ∨ j = 4 ∨ j = 5 ∨ j = 6 ∨ j = 7 ∨ j = 8 ∨ j = 9 ∨ j = 10 ∨ j = 11 ∨ j = 12 ∨ j = 13 ∨ j = 14 ∨ j = 15 ∨ j = 16) with rfl | rfl | rfl | rfl | rfl | rfl | rfl | rfl | rfl | rfl | rfl | rfl | rfl | rfl | rfl | rfl | rfl | rfl
        · rw [if_neg hij] at hR; exact hR.heap h (by simp)
        all_goals exact hs.trans h
      · intro i hi
        have hi : i < 18 := hi
        rcases (by omega : (i = 0 ∨ i = 1 ∨ i = 2 ∨ i = 3 ∨ i = 4 ∨ i = 5 ∨ i = 7 ∨ i = 8 ∨ i = 9 ∨ i = 10 ∨ i = 11 ∨ i = 12 ∨ i = 13 ∨ i = 14 ∨ i = 15 ∨ i = 16) ∨ (i = 6 ∨ i = 17)) with hi | hi
        · rcases hi with rfl | rfl | rfl | rfl | rfl | rfl | rfl | rfl | rfl | rfl | rfl | rfl | rfl | rfl | rfl | rfl
          all_goals
            intro a u K hX hG hD hN hZ hK
            obtain ⟨hx3, hx5, hx7, -⟩ := hX
            try dsimp only [AllF, slotsA, List.getD_cons_zero, List.getD_cons_succ] at hD
            first | obtain ⟨e0, e1, e2, e3, -⟩ := hD | obtain ⟨e0, e1, e2, -⟩ := hD | obtain ⟨e0, e1, -⟩ := hD | obtain ⟨e0, -⟩ := hD | skip
            try replace e0 : _ = _ := e0
            try replace e1 : _ = _ := e1
            try replace e2 : _ = _ := e2
            try replace e3 : _ = _ := e3
            have m0 := (hG.cell (p := ⟨A, 0, none⟩) lA nA).trans a0
            have m1 := (hG.cell (p := ⟨c, 0, none⟩) lc nc).trans q0
            have m2 := (hG.cell (p := ⟨A + 1 + 1, 0, none⟩) lA2 nA2).trans x0
            have m3 := (hG.cell (p := ⟨D1, 0, none⟩) lD nD).trans y0
            refine wpOp_step rfl (fun K' hK' => ?_)
            go_simp
            exact hK' _ _ (hK _ _ (Fr.refl _ _) rfl)
        · rcases hi with rfl | rfl
          all_goals
            intro a u K hX hG hD hN hZ hK
            obtain ⟨hx3, hx5, hx7, -⟩ := hX
            try dsimp only [AllF, slotsA, List.getD_cons_zero, List.getD_cons_succ] at hD
            have m0 := (hG.cell (p := ⟨A, 0, none⟩) lA nA).trans a0
            have m1 := (hG.cell (p := ⟨c, 0, none⟩) lc nc).trans q0
            have m2 := (hG.cell (p := ⟨A + 1 + 1, 0, none⟩) lA2 nA2).trans x0
            have m3 := (hG.cell (p := ⟨D1, 0, none⟩) lD nD).trans y0
          · obtain ⟨d5, -⟩ := hD
            replace d5 : _ = _ := d5
            have m9 := cell_of ((hN (.inl rfl)).heap hpb (by simp)) 1
            refine wpOp_step rfl (fun K' hK' => ?_)
            go_simp
            exact hK' _ _ (hK _ _ (Fr.refl _ _) rfl)
          · obtain ⟨d16, d14, -⟩ := hD
            replace d16 : _ = _ := d16
            replace d14 : _ = _ := d14
            have hpu := (hN (.inr rfl)).heap hpb (by simp)
            have m9 := cell_of hpu 1
            have m8 := free_of hpu 1
            refine wpOp_step rfl (fun K' hK' => ?_)
            go_simp
            exact hK' _ _ (hK undef _ ((Fr.refl _ _).setCell (.inl (by simp)) _) (set_of hpu 1 _))
      · intro σ u3 hG3 h
        have hp3 : u3.heap[p]? = some (.cells #[.pointer (some ⟨tb, 0, none⟩), .int .i64 b2] 99 (0, 0)) := h 17 (by decide)
        clear h
        go_wp2_with fail
        go_ret
        refine ⟨rfl, ⟨v2, _, hG3.heap hc2 nc, owns_fr hrow2 hG3 (fun g hg hm => by have := (hrow2.lt g hg).1; simp at hm; omega), ⟨hp3, hT2.out.fr hG3 (by simpa using fun e => hne1 e.symm) (by simpa using fun e => hne2 e.symm)⟩⟩, Fr.toKeptT (hfr2.trans hG3 (fun q hq => .inl (by simp at hq ⊢; simp [hq]))) hvB⟩
end
section
open Go.RowKit Go.Shelf

/-- What put of a literal asks, what it leaves: in one. -/
def PutOk (B0 c p tb mb : Nat) (b b2 : Int) (l : List (Sp × Cel)) (n : Nat) (s : Sp) (t : ByteArray) (f : Nat) (args : Array Value) : Prop := ∀ u, ChAt B0 c p tb mb b l n u → B0 ≤ u.heap.size → Calls Tryz.prog f args u fun e w1 => e = .returned (.int .i64 0) ∧ ChAt B0 c p tb mb b2 (putS s (litC t) l) (n + 1) w1 ∧ KeptT B0 [c, p, tb, mb] (some 1) u w1

set_option maxRecDepth 100000 in
set_option maxHeartbeats 1600000 in
theorem chSet (B0 c p tb mb : Nat) (b b2 : Int) (l : List (Sp × Cel)) (n : Nat) (s : Sp) (t : ByteArray) (w : World) (h : ChAt B0 c p tb mb b l n w) (hB : c < B0 ∧ p < B0 ∧ tb < B0 ∧ mb < B0) (hB0 : B0 ≤ w.heap.size) (ht : LitT t) (hE : setE s l = 0)
    (hw1 : IntKind.i64.wrap ((t.size : Int) - (((getS s l).getD cel0).t.size : Int)) = (t.size : Int) - (((getS s l).getD cel0).t.size : Int)) (hw2 : IntKind.i64.wrap (b + ((t.size : Int) - (((getS s l).getD cel0).t.size : Int))) = b2) (hn : n < 5000) :
    Calls Tryz.prog 80 #[.pointer (some ⟨c, 0, none⟩), spV s, .string t] w fun e w1 => e = .returned (.int .i64 0) ∧ ChAt B0 c p tb mb b2 (putS s (litC t) l) (n + 1) w1 ∧ KeptT B0 [c, p, tb, mb] (some 1) w w1 := by
  have hput : Hid (PutOk B0 c p tb mb b b2 l n s t 115 #[.pointer (some ⟨c, 0, none⟩), spV s, Cel.val (litC t)]) := fun u h1 h2 => chPut B0 c p tb mb b b2 l n s (litC t) u h1 hB h2 (bytes_some ht.pos) hE hw1 hw2 hn
  have HLT := Lib.hid ht
  have HC := Lib.hid h
  clear hw1 hw2 hE ht h hn
  go_enter Tryz.func80, Tryz.ntmps80
  go_wp2_with fail
  have hW : Fr [] w (w.alloc (.cells #[.int .i64 s.1, .int .i64 s.2] 33)) := (Fr.refl [] w).alloc _
  have hat := heap_new w (.cells #[.int .i64 s.1, .int .i64 s.2] 33)
  have HC := Lib.hid (HC.out.fr0 hW)
  have hB0 : B0 ≤ (w.alloc (.cells #[.int .i64 s.1, .int .i64 s.2] 33)).heap.size := Nat.le_trans hB0 hW.size
  obtain ⟨A, hA⟩ : ∃ A, w.heap.size = A := ⟨_, rfl⟩
  have hAB : B0 ≤ A := by omega
  simp only [hA] at hat ⊢
  generalize w.alloc (.cells #[.int .i64 s.1, .int .i64 s.2] 33) = W at *
  have nA : A ∉ [c, p, tb, mb] := by simp; omega
  refine wp_facts (fun u => KeptT B0 [c, p, tb, mb] (some 1) W u) (fun i u u' => if i = 4 then KeptT B0 [c, p, tb, mb] (some 1) u u' else Fr [] u u') [(0, .pointer (some ⟨c, 0, none⟩)), (2, .string t), (4, .pointer (some ⟨A, 0, none⟩))] [[], [], [], [2], [0, 1, 3], [4]]
    (fun i σ u => match i with
      | 0 => σ 7 = .pointer (some ⟨c, 0, none⟩)
      | 1 => σ 8 = spV s
      | 2 => σ 9 = .string t
      | 3 => σ 10 = Cel.val (litC t)
      | 4 => ChAt B0 c p tb mb b2 (putS s (litC t) l) (n + 1) u ∧ σ 11 = .int .i64 0
      | _ => σ 6 = .int .i64 0) (fun i u => i = 4 → Fr [] W u)
    (ds := [7, 8, 9, 10, 11, 6]) (fr := ?fr1) (by kernel_rfl) ?hfr1 ⟨rfl, rfl, rfl, trivial⟩ rfl rfl (by kernel_rfl) (by kernel_rfl) (by decide) rfl (Fr.refl _ _).drew.kt0 (fun _ _ _ => (Fr.refl _ _).drew) ⟨fun j hj i u u' hij _ hG hR hN e => (hN e).trans0 (by subst e; rwa [if_neg hij] at hR), fun i u u' hG hR => (by split at hR; exact hG.trans hR; exact hG.trans hR.kt0), ?_, ?_⟩ ?_
  case hfr1 =>
    intro σ
    simp only [layA, List.foldl_cons, List.foldl_nil, List.setIfInBounds_toArray, List.set_cons_zero, List.set_cons_succ]
    rfl
  · intro j hj i σ σ' u u' hij hs hd hG hR h
    have hj : j < 6 := hj
    rcases (by omega : j = 4 ∨ j = 0 ∨ j = 1 ∨ j = 2 ∨ j = 3 ∨ j = 5) with rfl | rfl | rfl | rfl | rfl | rfl
    · rw [if_neg hij] at hR; exact ⟨h.1.fr0 hR, hs.trans h.2⟩
    all_goals exact hs.trans h
  · intro i hi
    have hi : i < 6 := hi
    rcases (by omega : (i = 0 ∨ i = 1 ∨ i = 2) ∨ (i = 3 ∨ i = 4 ∨ i = 5)) with hi | hi
    · rcases hi with rfl | rfl | rfl
      all_goals
        intro a u K hX hG hD hN hZ hK
        obtain ⟨hx0, hx2, hx4, -⟩ := hX
        try dsimp only [AllF, slotsA, List.getD_cons_zero, List.getD_cons_succ] at hD
        first | obtain ⟨e0, e1, e2, e3, -⟩ := hD | obtain ⟨e0, e1, e2, -⟩ := hD | obtain ⟨e0, e1, -⟩ := hD | obtain ⟨e0, -⟩ := hD | skip
        try replace e0 : _ = _ := e0
        try replace e1 : _ = _ := e1
        try replace e2 : _ = _ := e2
        try replace e3 : _ = _ := e3
        have hA5 := hG.block _ _ hat nA (.inr (ofT_ne (by decide)))
        have m0 := cell_of hA5 0
        have m1 := cell_of hA5 1
        refine wpOp_step rfl (fun K' hK' => ?_)
        go_simp
        exact hK' _ _ (hK _ _ (Fr.refl _ _) rfl)
    · rcases hi with rfl | rfl | rfl
      all_goals
        intro a u K hX hG hD hN hZ hK
        obtain ⟨hx0, hx2, hx4, -⟩ := hX
        try dsimp only [AllF, slotsA, List.getD_cons_zero, List.getD_cons_succ] at hD
        have hA5 := hG.block _ _ hat nA (.inr (ofT_ne (by decide)))
        have m0 := cell_of hA5 0
        have m1 := cell_of hA5 1
      · obtain ⟨d2, -⟩ := hD
        replace d2 : _ = _ := d2
        refine wpOp_step rfl (fun K' hK' => ?_)
        go_simp
        refine (shRead t u HLT.out).mono ?_
        rintro e u2 ⟨rfl, hF⟩
        exact hK' _ _ (hK _ _ hF rfl)
      · obtain ⟨d0, d1, d3, -⟩ := hD
        replace d0 : _ = _ := d0
        replace d1 : _ = _ := d1
        replace d3 : _ = _ := d3
        refine wpOp_step rfl (fun K' hK' => ?_)
        go_simp
        refine (hput.out u (HC.out.fr0 (hN rfl)) (Nat.le_trans hB0 (hN rfl).size)).mono ?_
        rintro e u2 ⟨rfl, hC5, hF⟩
        exact hK' _ _ (hK _ _ hF ⟨hC5, rfl⟩)
      · obtain ⟨⟨-, d4⟩, -⟩ := hD
        replace d4 : _ = _ := d4
        refine wpOp_step rfl (fun K' hK' => ?_)
        go_simp
        exact hK' _ _ (hK _ _ (Fr.refl _ _) rfl)
  · intro σ u hG h
    have h5 : σ 6 = _ := h 5 (by decide)
    have h4 := (h 4 (by decide)).1
    rw [h5]
    clear h
    go_wp2
    go_ret
    exact ⟨rfl, h4, (hW.kt0).trans hG⟩

set_option maxRecDepth 100000 in
set_option maxHeartbeats 1600000 in
theorem chEdit (B0 c p tb mb eb eo : Nat) (b b2 : Int) (l : List (Sp × Cel)) (n : Nat) (s : Sp) (t : ByteArray) (w : World) (h : ChAt B0 c p tb mb b l n w) (hB : c < B0 ∧ p < B0 ∧ tb < B0 ∧ mb < B0) (hB0 : B0 ≤ w.heap.size) (ht : LitT t) (hE : setE s l = 0)
    (hw1 : IntKind.i64.wrap ((t.size : Int) - (((getS s l).getD cel0).t.size : Int)) = (t.size : Int) - (((getS s l).getD cel0).t.size : Int)) (hw2 : IntKind.i64.wrap (b + ((t.size : Int) - (((getS s l).getD cel0).t.size : Int))) = b2) (hn : n < 5000)
    (e0 : w.cell? ⟨eb, eo, none⟩ = some (.int .i64 1)) (e1 : w.cell? ⟨eb, eo + 1, none⟩ = some (.int .i64 s.1)) (e2 : w.cell? ⟨eb, eo + 1 + 1, none⟩ = some (.int .i64 s.2)) (e10 : w.cell? ⟨eb, eo + 10, none⟩ = some (.string t)) (leb : eb < B0) (neb : eb ∉ [c, p, tb, mb])
    (hm : mayS s.1 s.2 = true) (hlen : ((putS s (litC t) l).length : Int) ≤ 65536) (hb2 : b2 ≤ 67108864) :
    Calls Tryz.prog 61 #[.pointer (some ⟨c, 0, none⟩), .pointer (some ⟨eb, eo, none⟩)] w fun e w1 => e = .returned (.int .i64 0) ∧ ChAt B0 c p tb mb b2 (putS s (litC t) l) (n + 1) w1 ∧ KeptT B0 [c, p, tb, mb] (some 1) w w1 := by
  have hset : Hid (PutOk B0 c p tb mb b b2 l n s t 80 #[.pointer (some ⟨c, 0, none⟩), spV s, .string t]) := fun u h1 h2 => chSet B0 c p tb mb b b2 l n s t u h1 hB h2 ht hE hw1 hw2 hn
  have HC := Lib.hid h
  have HLEN := Lib.hid hlen
  clear hw1 hw2 hE ht h hn hlen
  go_enter Tryz.func61, Tryz.ntmps61
  go_wp2_with fail
  refine (spotMay s.1 s.2 _).mono ?_
  rw [hm]
  rintro e W ⟨rfl, hW⟩
  have HC := Lib.hid (HC.out.fr0 hW)
  have hB0 : B0 ≤ W.heap.size := Nat.le_trans hB0 hW.size
  have e1 := ce_call hW e1
  have e2 := ce_call hW e2
  have e10 := ce_call hW e10
  go_wp2_with fail
  refine wp_facts (fun u => KeptT B0 [c, p, tb, mb] (some 1) W u) (fun i u u' => if i = 9 then KeptT B0 [c, p, tb, mb] (some 1) u u' else Fr [] u u') [(0, .pointer (some ⟨c, 0, none⟩)), (1, .pointer (some ⟨eb, eo, none⟩))] [[], [], [1], [2], [3], [], [5], [6], [7], [0, 4, 8], [9]]
    (fun i σ u => match i with
      | 0 => σ 17 = .pointer (some ⟨c, 0, none⟩)
      | 1 => σ 18 = .pointer (some ⟨eb, eo, none⟩)
      | 2 => σ 19 = .pointer (some ⟨eb, eo, none⟩)
      | 3 => σ 20 = .pointer (some ⟨eb, eo + 1, none⟩)
      | 4 => σ 21 = spV s
      | 5 => σ 22 = .pointer (some ⟨eb, eo, none⟩)
      | 6 => σ 23 = .pointer (some ⟨eb, eo, none⟩)
      | 7 => σ 24 = .pointer (some ⟨eb, eo + 10, none⟩)
      | 8 => σ 25 = .string t
      | 9 => ChAt B0 c p tb mb b2 (putS s (litC t) l) (n + 1) u ∧ σ 26 = .int .i64 0
      | _ => σ 5 = .int .i64 0) (fun i u => i = 9 → Fr [] W u)
    (ds := [17, 18, 19, 20, 21, 22, 23, 24, 25, 26, 5]) (fr := ?fr6) (by kernel_rfl) ?hfr6 ⟨rfl, rfl, trivial⟩ rfl rfl (by kernel_rfl) (by kernel_rfl) (by decide) rfl (Fr.refl _ _).drew.kt0 (fun _ _ _ => (Fr.refl _ _).drew) ⟨fun j hj i u u' hij _ hG hR hN e => (hN e).trans0 (by subst e; rwa [if_neg hij] at hR), fun i u u' hG hR => (by split at hR; exact hG.trans hR; exact hG.trans hR.kt0), ?_, ?_⟩ ?_
  case hfr6 =>
    intro σ
    simp only [layA, List.foldl_cons, List.foldl_nil, List.setIfInBounds_toArray, List.set_cons_zero, List.set_cons_succ]
    rfl
  · intro j hj i σ σ' u u' hij hs hd hG hR h
    have hj : j < 11 := hj
    rcases (by omega : j = 9 ∨ j = 0 ∨ j = 1 ∨ j = 2 ∨ j = 3 ∨ j = 4 ∨ j = 5 ∨ j = 6 ∨ j = 7 ∨ j = 8 ∨ j = 10) with rfl | rfl | rfl | rfl | rfl | rfl | rfl | rfl | rfl | rfl | rfl
    · rw [if_neg hij] at hR; exact ⟨h.1.fr0 hR, hs.trans h.2⟩
    all_goals exact hs.trans h
  · intro i hi
    have hi : i < 11 := hi
    rcases (by omega : (i = 0 ∨ i = 1 ∨ i = 2 ∨ i = 3 ∨ i = 4 ∨ i = 5 ∨ i = 6 ∨ i = 7 ∨ i = 8) ∨ (i = 9 ∨ i = 10)) with hi | hi
    · rcases hi with rfl | rfl | rfl | rfl | rfl | rfl | rfl | rfl | rfl
      all_goals
        intro a u K hX hG hD hN hZ hK
        obtain ⟨hx0, hx1, -⟩ := hX
        try dsimp only [AllF, slotsA, List.getD_cons_zero, List.getD_cons_succ] at hD
        first | obtain ⟨e0, e1, e2, e3, -⟩ := hD | obtain ⟨e0, e1, e2, -⟩ := hD | obtain ⟨e0, e1, -⟩ := hD | obtain ⟨e0, -⟩ := hD | skip
        try replace e0 : _ = _ := e0
        try replace e1 : _ = _ := e1
        try replace e2 : _ = _ := e2
        try replace e3 : _ = _ := e3
        have m1 := hG.cell e1 leb neb
        have m2 := hG.cell e2 leb neb
        have m3 := hG.cell e10 leb neb
        refine wpOp_step rfl (fun K' hK' => ?_)
        go_simp
        exact hK' _ _ (hK _ _ (Fr.refl _ _) rfl)
    · rcases hi with rfl | rfl
      all_goals
        intro a u K hX hG hD hN hZ hK
        obtain ⟨hx0, hx1, -⟩ := hX
        try dsimp only [AllF, slotsA, List.getD_cons_zero, List.getD_cons_succ] at hD
        have m1 := hG.cell e1 leb neb
        have m2 := hG.cell e2 leb neb
        have m3 := hG.cell e10 leb neb
      · obtain ⟨d0, d4, d8, -⟩ := hD
        replace d0 : _ = _ := d0
        replace d4 : _ = _ := d4
        replace d8 : _ = _ := d8
        refine wpOp_step rfl (fun K' hK' => ?_)
        go_simp
        refine (hset.out u (HC.out.fr0 (hN rfl)) (Nat.le_trans hB0 (hN rfl).size)).mono ?_
        rintro e u2 ⟨rfl, hC5, hF⟩
        exact hK' _ _ (hK _ _ hF ⟨hC5, rfl⟩)
      · obtain ⟨⟨-, d9⟩, -⟩ := hD
        replace d9 : _ = _ := d9
        refine wpOp_step rfl (fun K' hK' => ?_)
        go_simp
        exact hK' _ _ (hK _ _ (Fr.refl _ _) rfl)
  · intro σ u hG h
    have h10 : σ 5 = _ := h 10 (by decide)
    have h9 := (h 9 (by decide)).1
    rw [h10]
    clear h
    have H9 := Lib.hid h9
    obtain ⟨v, fs, hcb, hrow, hS⟩ := h9
    have q0 := cell_of hcb 0
    have p0 := cell_of hS.sh 0
    have p1 := cell_of hS.sh 1
    have lc := lt_of hcb
    have lp := lt_of hS.sh
    have hL := Lib.hid (len_Cell tb mb _ u hS.tab)
    obtain ⟨ln, hln⟩ : ∃ ln, ((putS s (litC t) l).length : Int) = ln := ⟨_, rfl⟩
    have HLN : Hid (ln ≤ 65536) := by
      have := HLEN.out
      rw [hln] at this
      exact this
    rw [hln] at hL
    clear hcb hrow hS
    have hln2 := HLN.out
    go_wp2_with fail
    refine hL.out.mono ?_
    rintro e w5 ⟨rfl, h5⟩
    have q0 := ce_call h5 q0
    have p1 := ce_call h5 p1
    go_wp2_with fail
    go_ret
    exact ⟨rfl, H9.out.fr0 h5, (hW.kt0.trans hG).trans h5.kt0⟩
end
section
open Go.RowKit Go.Shelf

/-- What is taken back behind an edit that was refused: nothing, where none was. -/
theorem applyD (ea cb : Nat) (u : FrameMode) (w : World) (h : w.cell? ⟨ea, 0, none⟩ = some (.int .i64 0)) : CallsD Tryz.prog 60 #[.pointer (some ⟨ea, 0, none⟩), .pointer (some ⟨cb, 0, none⟩)] u w fun e u' w' => u' = u ∧ (e = .returned (.tuple #[]) ∧ w' = w) := by
  go_enter_d Tryz.func60, Tryz.ntmps60
  go_wp2
  go_end0
  exact ⟨rfl, rfl⟩

theorem setE_ok {s : Sp} {x : Cel} {l : List (Sp × Cel)} (hm : mayS s.1 s.2 = true) (hl : (putS s x l).length ≤ 65536) : setE s l = 0 := by
  unfold setE
  rw [if_neg (by rw [hm]; simp)]
  rw [if_neg]
  rintro ⟨h1, h2⟩
  rw [putS_length, if_neg (by simpa using h1)] at hl
  omega
theorem setsC_take_le (es : List (Sp × ByteArray)) (l : List (Sp × Cel)) (k : Nat) : (setsC (es.take k) l).length ≤ (setsC es l).length := by
  have e : setsC es l = setsC (es.drop k) (setsC (es.take k) l) := by
    unfold setsC
    rw [← List.foldl_append, List.take_append_drop]
  rw [e]
  exact setsC_len _
theorem getD_size {l : List (Sp × Cel)} (h : Lits l) (s : Sp) : 0 ≤ (((getS s l).getD cel0).t.size : Int) ∧ (((getS s l).getD cel0).t.size : Int) ≤ 40 := by
  refine ⟨Int.natCast_nonneg _, ?_⟩
  cases hg : getS s l with
  | none => show ((cel0.t.size : Nat) : Int) ≤ 40; decide
  | some y =>
    have := h.short _ (getS_mem hg)
    show ((y.t.size : Nat) : Int) ≤ 40
    have h2 : y.t.size ≤ 40 := this
    omega

set_option maxRecDepth 100000 in
set_option maxHeartbeats 3200000 in
theorem shApply (p tb mb eb eo N cap : Nat) (l : List (Sp × Cel)) (es : List (Sp × ByteArray)) (w : World) (h : ShB w p tb mb (bytesC l) l) (hes : SlAt w (.slice (some ⟨eb, eo, none⟩) N cap) 11 N (es.flatMap edC)) (hN : es.length = N) (hN1 : 0 < N) (hN2 : (N : Int) ≤ 4096) (hg : GoodE es) (hl : Lits l) (hm : Mays l) (hn : (l.map (·.1)).Nodup)
    (hfit : (setsC es l).length ≤ 65536) (hne : eb ≠ p ∧ eb ≠ tb ∧ eb ≠ mb) :
    Calls Tryz.prog 31 #[.pointer (some ⟨p, 0, none⟩), .slice (some ⟨eb, eo, none⟩) N cap] w fun e w1 => e = .returned (.tuple #[.int .i64 0, .int .i64 0]) ∧ ShB w1 p tb mb (bytesC (setsC es l)) (setsC es l) ∧ Fr [p, tb, mb] w w1 := by
  obtain ⟨eb', eo', cap', ec, leb, hc⟩ := hes.cell hN1
  cases ec
  have hcap : N ≤ cap ∧ cap ≤ 9223372036854775807 := by
    obtain ⟨_, _, e, h1, h2⟩ := hes.form
    cases e
    exact ⟨h1, h2⟩
  have hcell : Hid (∀ (k : Nat) (hk : k < es.length) (j : Nat), j < 11 → ∀ v, (edC es[k])[j]? = some v → w.cell? ⟨eb, eo + k * 11 + j, none⟩ = some v) := fun k hk j hj v hv => by
    have := hc (k * 11 + j) v (by rw [flat_get edC 11 (fun _ => rfl) es k j hk hj]; exact hv)
    rwa [← Nat.add_assoc] at this
  have HG := Lib.hid hg
  have HL := Lib.hid hl
  have HM := Lib.hid hm
  have HN := Lib.hid hn
  have HF := Lib.hid hfit
  have H := Lib.hid h
  have hlts := h.lts
  clear hc hes hg hl hm hn hfit h
  go_enter_defers Tryz.func31, Tryz.ntmps31
  go_wp2_with fail
  have hA0 := (Fr.refl [] w).alloc (.cells #[.int .i64 0] 25)
  have he0 := heap_new w (.cells #[.int .i64 0] 25)
  have hcell1 : Hid (∀ (k : Nat) (hk : k < es.length) (j : Nat), j < 11 → ∀ v, (edC es[k])[j]? = some v → (w.alloc (.cells #[.int .i64 0] 25)).cell? ⟨eb, eo + k * 11 + j, none⟩ = some v) := fun k hk j hj v hv => ce_old (hcell.out k hk j hj v hv)
  have H1 := Lib.hid (H.out.fr0 hA0)
  have leb1 : eb < (w.alloc (.cells #[.int .i64 0] 25)).heap.size := Nat.lt_of_lt_of_le leb hA0.size
  obtain ⟨EB, hEB⟩ : ∃ EB, w.heap.size = EB := ⟨_, rfl⟩
  simp only [hEB] at he0 leb hlts ⊢
  generalize w.alloc (.cells #[.int .i64 0] 25) = w0 at *
  clear hcell
  go_loop [6, 13] (fun n i => ∃ (k : Nat) (z : Int), k ≤ N ∧ i = .int .i64 (k : Int) ∧ n = .int .i64 z ∧ 0 ≤ z ∧ z ≤ 40 * (k : Int)) (fun _ i => N - (intOf i).toNat)
  case atStart => exact ⟨0, 0, by omega, rfl, rfl, by omega, by omega⟩
  case round =>
    obtain ⟨k, z, hk, rfl, rfl, hz0, hz1⟩ := hrel
    by_cases hlt : k < N
    · have hke : k < es.length := by omega
      have c0 := hcell1.out k hke 0 (by omega) _ rfl
      have c10 := hcell1.out k hke 10 (by omega) _ rfl
      have hg := (HG.out es[k] (List.getElem_mem _)).2
      have hle := hg.le
      generalize es[k].2 = t at *
      have hw1 : IntKind.i64.wrap (z + (t.size : Int)) = z + (t.size : Int) := by rw [IntKind.wrap_i64]; omega
      rw [Nat.add_zero] at c0
      go_wp2_with fail
      go_round
      case rel => exact ⟨k + 1, z + (t.size : Int), by omega, by go_num, rfl, by omega, by omega⟩
      case measure => simp [intOf]; omega
    · obtain rfl : N = k := by omega
      go_wp2_with fail
      have hA1 := ((Fr.refl [] w0).alloc (.cells #[.pointer (some ⟨p, 0, none⟩), .slice none 0 0] 149)).alloc (.cells #[.pointer (some ⟨w0.heap.size, 0, none⟩)] 146)
      have hcb := ((Fr.refl [] _).alloc (.cells #[.pointer (some ⟨w0.heap.size, 0, none⟩)] 146)).heap (heap_new w0 (.cells #[.pointer (some ⟨p, 0, none⟩), .slice none 0 0] 149)) (by simp)
      have hCb := heap_new (w0.alloc (.cells #[.pointer (some ⟨p, 0, none⟩), .slice none 0 0] 149)) (.cells #[.pointer (some ⟨w0.heap.size, 0, none⟩)] 146)
      simp only [World.size_alloc] at hCb
      have H2 := Lib.hid (H1.out.fr0 hA1)
      have he2 := hA1.heap he0 (by simp)
      have hcell2 : Hid (∀ (k : Nat) (hk : k < es.length) (j : Nat), j < 11 → ∀ v, (edC es[k])[j]? = some v → ((w0.alloc (.cells #[.pointer (some ⟨p, 0, none⟩), .slice none 0 0] 149)).alloc (.cells #[.pointer (some ⟨w0.heap.size, 0, none⟩)] 146)).cell? ⟨eb, eo + k * 11 + j, none⟩ = some v) := fun k hk j hj v hv => ce_old (ce_old (hcell1.out k hk j hj v hv))
      have hB0 : ((w0.alloc (.cells #[.pointer (some ⟨p, 0, none⟩), .slice none 0 0] 149)).alloc (.cells #[.pointer (some ⟨w0.heap.size, 0, none⟩)] 146)).heap.size = w0.heap.size + 2 := by simp
      have z0 := hA0.size
      have lE := lt_of he0
      obtain ⟨c, hce⟩ : ∃ c, w0.heap.size = c := ⟨_, rfl⟩
      simp only [hce] at hcb hCb hB0 hA1 H2 he2 hcell2 leb1 z0 lE ⊢
      generalize (w0.alloc (.cells #[.pointer (some ⟨p, 0, none⟩), .slice none 0 0] 149)).alloc (.cells #[.pointer (some ⟨c, 0, none⟩)] 146) = w1 at *
      obtain ⟨B0, hBe⟩ : ∃ B0, c + 2 = B0 := ⟨_, rfl⟩
      have neb : eb ∉ [c, p, tb, mb] := by simp; omega
      have nC : c + 1 ∉ [c, p, tb, mb] := by simp; omega
      have nE : EB ∉ [c, p, tb, mb] := by simp; omega
      clear hcell1
      go_loopw [42] (fun i wr => ∃ k : Nat, k ≤ N ∧ i = .int .i64 (k : Int) ∧ ChAt B0 c p tb mb (bytesC (setsC (es.take k) l)) (setsC (es.take k) l) k wr ∧ KeptT B0 [c, p, tb, mb] (some 1) w1 wr) (fun i _ => N - (intOf i).toNat)
      case atStart => exact ⟨0, by omega, rfl, ⟨_, [], hcb, World.ownsRow_nil _ _ _ _, H2.out⟩, KeptT.refl _ _ _ _⟩
      case round =>
        obtain ⟨k, hk, rfl, hC, hkt⟩ := hrel
        have HC := Lib.hid hC
        have zk := hkt.size
        clear hC
        by_cases hlt : k < N
        · have hke : k < es.length := by omega
          have q0 : wr.cell? ⟨c + 1, 0, none⟩ = some (.pointer (some ⟨c, 0, none⟩)) := hkt.cell (p := ⟨c + 1, 0, none⟩) ((cell_of hCb 0).trans rfl) (by show c + 1 < B0; omega) nC
          have e0 := hkt.cell (hcell2.out k hke 0 (by omega) _ rfl) (by show eb < B0; omega) neb
          have e1 := hkt.cell (hcell2.out k hke 1 (by omega) _ rfl) (by show eb < B0; omega) neb
          have e2 := hkt.cell (hcell2.out k hke 2 (by omega) _ rfl) (by show eb < B0; omega) neb
          have e10 := hkt.cell (hcell2.out k hke 10 (by omega) _ rfl) (by show eb < B0; omega) neb
          obtain ⟨hms, hts⟩ := HG.out es[k] (List.getElem_mem _)
          have hfk := Nat.le_trans (setsC_take_le es l (k + 1)) HF.out
          have hsnoc : setsC (es.take (k + 1)) l = putS es[k].1 (litC es[k].2) (setsC (es.take k) l) := by rw [List.take_succ_eq_append_getElem hke, setsC_snoc]
          have HS := Lib.hid hsnoc
          rw [hsnoc] at hfk
          obtain ⟨hlk, hmk, hnk⟩ := setsC_lits (es := es.take k) (fun e he => HG.out e (List.mem_of_mem_take he)) HL.out HM.out HN.out
          have hlen0 := setsC_len (l := setsC (es.take k) l) [es[k]]
          have hbl := bytesC_bd hlk.short
          have hbp := bytesC_put es[k].1 (litC es[k].2) (setsC (es.take k) l)
          have hgd := getD_size hlk es[k].1
          have hle := hts.le
          obtain ⟨lk, hlke⟩ : ∃ lk, setsC (es.take k) l = lk := ⟨_, rfl⟩
          rw [hlke] at HC hfk hlk hmk hnk hbl hbp hgd HS
          obtain ⟨s, hs⟩ : ∃ s, es[k].1 = s := ⟨_, rfl⟩
          obtain ⟨t, ht⟩ : ∃ t, es[k].2 = t := ⟨_, rfl⟩
          rw [hs, ht] at hfk hbp HS
          rw [hs] at hgd e1 e2 hms
          rw [ht] at hle hts e10
          rw [Nat.add_zero] at e0
          clear hsnoc hlke hs ht hlen0
          have hbp : bytesC (putS s (litC t) lk) = bytesC lk + (t.size : Int) - (((getS s lk).getD cel0).t.size : Int) := hbp
          have hll : lk.length ≤ 65536 := Nat.le_trans (setsC_len (l := lk) [(s, t)]) hfk
          have hE := setE_ok hms hfk
          have hw1 : IntKind.i64.wrap ((t.size : Int) - (((getS s lk).getD cel0).t.size : Int)) = (t.size : Int) - (((getS s lk).getD cel0).t.size : Int) := by rw [IntKind.wrap_i64]; omega
          have hw2 : IntKind.i64.wrap (bytesC lk + ((t.size : Int) - (((getS s lk).getD cel0).t.size : Int))) = bytesC (putS s (litC t) lk) := by rw [IntKind.wrap_i64]; omega
          have hb64 : bytesC (putS s (litC t) lk) ≤ 67108864 := by omega
          have hedit : Hid (∀ u, ChAt B0 c p tb mb (bytesC lk) lk k u → B0 ≤ u.heap.size → Fr [] wr u → Calls Tryz.prog 61 #[.pointer (some ⟨c, 0, none⟩), .pointer (some ⟨eb, eo + k * 11, none⟩)] u fun e w1 => e = .returned (.int .i64 0) ∧ ChAt B0 c p tb mb (bytesC (putS s (litC t) lk)) (putS s (litC t) lk) (k + 1) w1 ∧ KeptT B0 [c, p, tb, mb] (some 1) u w1) := fun u h1 h2 h3 =>
            chEdit B0 c p tb mb eb (eo + k * 11) (bytesC lk) _ lk k s t u h1 (by omega) h2 hts hE hw1 hw2 (by omega) (ce_call h3 e0) (ce_call h3 e1) (ce_call h3 e2) (ce_call h3 e10) (by omega) neb hms (by omega) hb64
          obtain ⟨b2, hb2⟩ : ∃ b2, bytesC (putS s (litC t) lk) = b2 := ⟨_, rfl⟩
          rw [hb2] at hedit
          have HB2 := Lib.hid hb2
          have lC : c + 1 < B0 := by omega
          have hB0r : B0 ≤ wr.heap.size := by omega
          clear hw1 hw2 hE hbp hgd hbl hfk hlk hmk hnk e0 e1 e2 e10 hts hb2 hb64
          go_upto_region 17 with fail
          have hB0 := hB0r
          refine wp_facts (fun u => KeptT B0 [c, p, tb, mb] (some 1) wr u) (fun i u u' => if i = 4 then KeptT B0 [c, p, tb, mb] (some 1) u u' else Fr [] u u') [(1, .slice (some ⟨eb, eo, none⟩) N cap), (8, .pointer (some ⟨(c + 1), 0, none⟩)), (9, .int .i64 (k : Int))] [[], [], [], [1, 2], [0, 3], [4]]
            (fun i σ u => match i with
              | 0 => σ 45 = .pointer (some ⟨c, 0, none⟩)
              | 1 => σ 46 = .slice (some ⟨eb, eo, none⟩) N cap
              | 2 => σ 47 = .int .i64 (k : Int)
              | 3 => σ 48 = .pointer (some ⟨eb, eo + k * 11, none⟩)
              | 4 => ChAt B0 c p tb mb b2 (putS s (litC t) lk) (k + 1) u ∧ σ 49 = .int .i64 0
              | _ => σ 10 = .int .i64 0) (fun i u => i = 4 → Fr [] wr u)
            (ds := [45, 46, 47, 48, 49, 10]) (fr := ?fr17) (by kernel_rfl) ?hfr17 ⟨rfl, rfl, rfl, trivial⟩ rfl rfl (by kernel_rfl) (by kernel_rfl) (by decide) rfl (Fr.refl _ _).drew.kt0 (fun _ _ _ => (Fr.refl _ _).drew) ⟨fun j hj i u u' hij _ hG hR hN e => (hN e).trans0 (by subst e; rwa [if_neg hij] at hR), fun i u u' hG hR => (by split at hR; exact hG.trans hR; exact hG.trans hR.kt0), ?_, ?_⟩ ?_
          case hfr17 =>
            intro σ
            simp only [layA, List.foldl_cons, List.foldl_nil, List.setIfInBounds_toArray, List.set_cons_zero, List.set_cons_succ]
            rfl
          · intro j hj i σ σ' u u' hij hs hd hG hR h
            have hj : j < 6 := hj
            rcases (by omega : j = 4 ∨ j = 0 ∨ j = 1 ∨ j = 2 ∨ j = 3 ∨ j = 5) with rfl | rfl | rfl | rfl | rfl | rfl
            · rw [if_neg hij] at hR; exact ⟨h.1.fr0 hR, hs.trans h.2⟩
            all_goals exact hs.trans h
          · intro i hi
            have hi : i < 6 := hi
            rcases (by omega : (i = 0 ∨ i = 1 ∨ i = 2 ∨ i = 3) ∨ (i = 4 ∨ i = 5)) with hi | hi
            · rcases hi with rfl | rfl | rfl | rfl
              all_goals
                intro a u K hX hG hD hN hZ hK
                obtain ⟨hx1, hx8, hx9, -⟩ := hX
                try dsimp only [AllF, slotsA, List.getD_cons_zero, List.getD_cons_succ] at hD
                first | obtain ⟨e0, e1, e2, e3, -⟩ := hD | obtain ⟨e0, e1, e2, -⟩ := hD | obtain ⟨e0, e1, -⟩ := hD | obtain ⟨e0, -⟩ := hD | skip
                try replace e0 : _ = _ := e0
                try replace e1 : _ = _ := e1
                try replace e2 : _ = _ := e2
                try replace e3 : _ = _ := e3
                have m0 := hG.cell q0 lC nC
                refine wpOp_step rfl (fun K' hK' => ?_)
                go_simp
                exact hK' _ _ (hK _ _ (Fr.refl _ _) rfl)
            · rcases hi with rfl | rfl
              all_goals
                intro a u K hX hG hD hN hZ hK
                obtain ⟨hx1, hx8, hx9, -⟩ := hX
                try dsimp only [AllF, slotsA, List.getD_cons_zero, List.getD_cons_succ] at hD
                have m0 := hG.cell q0 lC nC
              · obtain ⟨d0, d3, -⟩ := hD
                replace d0 : _ = _ := d0
                replace d3 : _ = _ := d3
                refine wpOp_step rfl (fun K' hK' => ?_)
                go_simp
                refine (hedit.out u (HC.out.fr0 (hN rfl)) (Nat.le_trans hB0 (hN rfl).size) (hN rfl)).mono ?_
                rintro e u2 ⟨rfl, hC5, hF⟩
                exact hK' _ _ (hK _ _ hF ⟨hC5, rfl⟩)
              · obtain ⟨⟨-, d4⟩, -⟩ := hD
                replace d4 : _ = _ := d4
                refine wpOp_step rfl (fun K' hK' => ?_)
                go_simp
                exact hK' _ _ (hK _ _ (Fr.refl _ _) rfl)
          · intro σ u hG h
            have h5 : σ 10 = _ := h 5 (by decide)
            have h4 := (h 4 (by decide)).1
            rw [h5]
            clear h
            go_wp2_with fail
            go_roundw
            case rel => exact ⟨k + 1, by omega, by go_num, by rw [HS.out, HB2.out]; exact h4, hkt.trans hG⟩
            case measure => simp [intOf]; omega
        · obtain rfl : N = k := by omega
          have heE := hkt.block _ _ he2 nE (.inl (by omega))
          have x0 := cell_of heE 0
          have f0 := free_of heE 0
          have lEr := lt_of heE
          go_wp2_with fail
          have heF := set_of heE 0 (.int .i64 0)
          refine leaves_cons (f := 60) (args := #[.pointer (some ⟨EB, 0, none⟩), .pointer (some ⟨c + 1, 0, none⟩)]) (by simp) (by simp [go_sem]) ?_
          refine (applyD EB (c + 1) .returning _ ?_).mono ?_
          · exact cell_of heF 0
          · rintro e u' w'' ⟨rfl, rfl, rfl⟩
            have eT : es.take N = es := List.take_of_length_le (by omega)
            have hC2 := HC.out
            rw [eT] at hC2
            obtain ⟨v, fs, hcw, hroww, hSw⟩ := hC2
            have hBw : w1.heap.size = B0 := by omega
            subst hBw
            have F1 : Fr [p, tb, mb] w wr := ((hA0.trans0 hA1).mono (by simp)).trans hkt.fr (fun q hq => by
              simp only [List.mem_cons, List.not_mem_nil, or_false] at hq ⊢
              rcases hq with rfl | hq
              · right; omega
              · exact .inl hq)
            have y0 := cell_of heF 0
            refine ⟨.tuple #[.int .i64 0, .int .i64 0], by simp [results, Tryz.results31, go_sem, y0], rfl, hSw.fr ((Fr.refl [EB] wr).setCell (p := ⟨EB, 0, none⟩) (.inl (by simp)) _) (by simp; omega) (by simp; omega) (by simp; omega), F1.setCell (.inr (by show w.heap.size ≤ EB; omega)) _⟩
end
end Go.Proofs.YtnmkhoebijodhaaGreatDoor
