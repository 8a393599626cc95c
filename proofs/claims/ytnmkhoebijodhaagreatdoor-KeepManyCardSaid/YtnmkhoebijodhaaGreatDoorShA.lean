/-
  Sheets: New, get, What, All; the loop over All.
-/
import Derived.Test.YtnmkhoebijodhaaGreatDoorAllCell
import Derived.Test.YtnmkhoebijodhaaGreatDoorTab
import Derived.Test.YtnmkhoebijodhaaGreatDoorSeqL
import Derived.Test.YtnmkhoebijodhaaGreatDoorFacts
import Derived.Test.YtnmkhoebijodhaaGreatDoorAgg
namespace Go.Proofs.YtnmkhoebijodhaaGreatDoor
open Go.RowKit Go.Shelf
attribute [local go_sem] Oper.semAt_some
theorem run_storeF (w : World) (a : Addr) (m : Mode) (f : Fn) (x y : Array Value) : (store a (.func f x y) m).run Tryz.prog w = stored Tryz.prog w a (.func f x y) m := run_store Tryz.prog w a _ m rfl
attribute [local go_sem] run_storeF

/-- A sheet: its table and its bytes. -/
structure ShB (w : World) (p tb mb : Nat) (b : Int) (l : List (Sp × Cel)) : Prop where
  sh : w.heap[p]? = some (.cells #[.pointer (some ⟨tb, 0, none⟩), .int .i64 b] 99 (0, 0))
  tab : TabIs 163 (fun x : Cel => Cel.val x) w tb mb l
theorem ShB.fr {w w1 : World} {p tb mb : Nat} {b : Int} {l : List (Sp × Cel)} (h : ShB w p tb mb b l) {S : List Nat} (hf : Fr S w w1) (h1 : p ∉ S) (h2 : tb ∉ S) (h3 : mb ∉ S) : ShB w1 p tb mb b l := ⟨hf.heap h.sh h1, h.tab.fr hf h2 h3⟩
theorem ShB.fr0 {w w1 : World} {p tb mb : Nat} {b : Int} {l : List (Sp × Cel)} (h : ShB w p tb mb b l) (hf : Fr [] w w1) : ShB w1 p tb mb b l := h.fr hf (by simp) (by simp) (by simp)

theorem newSh (w : World) : Calls Tryz.prog 28 #[] w fun e w1 => ∃ p tb mb, e = .returned (.pointer (some ⟨p, 0, none⟩)) ∧ w.heap.size ≤ p ∧ w.heap.size ≤ tb ∧ w.heap.size ≤ mb ∧ ShB w1 p tb mb 0 [] ∧ Fr [] w w1 := by
  go_enter Tryz.func28, Tryz.ntmps28
  go_wp2_with fail
  refine (new_Cell _).mono ?_
  rintro e w1 ⟨tb, mb, rfl, h1, h2, hT, hf⟩
  have HT := Lib.hid hT
  clear hT
  have hz := hf.size
  go_wp2
  go_ret
  exact ⟨_, tb, mb, rfl, hz, h1, h2, ⟨heap_new w1 _, HT.out.fr ((Fr.refl [] w1).alloc _) (by simp) (by simp)⟩, hf.trans0 ((Fr.refl [] w1).alloc _)⟩

set_option maxRecDepth 100000 in
set_option maxHeartbeats 1600000 in
theorem shGet (p tb mb : Nat) (b : Int) (s : Sp) (l : List (Sp × Cel)) (w : World) (h : ShB w p tb mb b l) :
    Calls Tryz.prog 42 #[.pointer (some ⟨p, 0, none⟩), spV s] w fun e w1 => e = .returned ((getS s l).getD cel0).val ∧ Fr [] w w1 := by
  obtain ⟨hst, hT⟩ := h
  have c0 := cell_of hst 0
  have hpl := lt_of hst
  have HT := Lib.hid hT
  obtain ⟨x, hx⟩ : ∃ x, (getS s l).getD cel0 = x := ⟨_, rfl⟩
  have hget : Hid (∀ u, TabIs 163 (fun x : Cel => Cel.val x) u tb mb l → Calls Tryz.prog 68 #[.pointer (some ⟨tb, 0, none⟩), spV s] u fun e w1 => e = .returned (.tuple #[x.val, .bool (getS s l).isSome]) ∧ Fr [] u w1) := by
    intro u hu
    have := get_Cell tb mb s l u hu
    rwa [hx] at this
  obtain ⟨ok, hok⟩ : ∃ ok, (getS s l).isSome = ok := ⟨_, rfl⟩
  rw [hok] at hget
  rw [hx]
  clear hT hst hx hok
  go_enter Tryz.func42, Tryz.ntmps42
  go_wp2_with fail
  have hW : Fr [] w ((w.alloc (.cells #[.int .i64 s.1, .int .i64 s.2] 33)).alloc (.cells #[.string ⟨#[]⟩, .int .i64 0, .int .i64 0, .int .i64 0, .int .i64 0, .string ⟨#[]⟩, .int .i64 0, .int .i64 0, .bool false, .bool false, .int .i64 0, .int .i64 0, .bool false, .bool false, .int .i64 0, .slice none 0 0] 106)) := ((Fr.refl [] w).alloc _).alloc _
  have hb1 := ((Fr.refl [] _).alloc (.cells #[.string ⟨#[]⟩, .int .i64 0, .int .i64 0, .int .i64 0, .int .i64 0, .string ⟨#[]⟩, .int .i64 0, .int .i64 0, .bool false, .bool false, .int .i64 0, .int .i64 0, .bool false, .bool false, .int .i64 0, .slice none 0 0] 106)).heap (heap_new w (.cells #[.int .i64 s.1, .int .i64 s.2] 33)) (by simp)
  have hb2 := heap_new (w.alloc (.cells #[.int .i64 s.1, .int .i64 s.2] 33)) (.cells #[.string ⟨#[]⟩, .int .i64 0, .int .i64 0, .int .i64 0, .int .i64 0, .string ⟨#[]⟩, .int .i64 0, .int .i64 0, .bool false, .bool false, .int .i64 0, .int .i64 0, .bool false, .bool false, .int .i64 0, .slice none 0 0] 106)
  rw [World.size_alloc] at hb2
  have c0 := (hW.cell (p := ⟨p, 0, none⟩) hpl (by simp)).trans c0
  have HT := Lib.hid (HT.out.fr hW (by simp) (by simp))
  have hpl : p < _ := Nat.lt_of_lt_of_le hpl hW.size
  have b0 := cell_of hb1 0
  have b1 := cell_of hb1 1
  have hbl := lt_of hb1
  generalize (w.alloc (.cells #[.int .i64 s.1, .int .i64 s.2] 33)).alloc (.cells #[.string ⟨#[]⟩, .int .i64 0, .int .i64 0, .int .i64 0, .int .i64 0, .string ⟨#[]⟩, .int .i64 0, .int .i64 0, .bool false, .bool false, .int .i64 0, .int .i64 0, .bool false, .bool false, .int .i64 0, .slice none 0 0] 106) = W at *
  refine wp_facts (fun u => Fr [] W u) (RelS W.heap.size [(10, 106)]) [(0, .pointer (some ⟨p, 0, none⟩)), (3, .pointer (some ⟨w.heap.size, 0, none⟩))] [[], [0], [1], [2], [], [3, 4], [5], [6], [6], [], [9, 7], [8]]
    (fun i σ u => match i with
      | 0 => σ 8 = .pointer (some ⟨p, 0, none⟩)
      | 1 => σ 9 = .pointer (some ⟨p, 0, none⟩)
      | 2 => σ 10 = .pointer (some ⟨p, 0, none⟩)
      | 3 => σ 11 = .pointer (some ⟨tb, 0, none⟩)
      | 4 => σ 12 = spV s
      | 5 => σ 13 = .tuple #[x.val, .bool ok]
      | 6 => σ 7 = .tuple #[x.val, .bool ok]
      | 7 => σ 14 = x.val
      | 8 => σ 15 = .bool ok
      | 9 => ∃ D cs, σ 5 = .pointer (some ⟨D, 0, none⟩) ∧ W.heap.size ≤ D ∧ cs.size = 16 ∧ u.heap[D]? = some (.cells cs 106 (0, 0))
      | 10 => ∃ D, σ 5 = .pointer (some ⟨D, 0, none⟩) ∧ W.heap.size ≤ D ∧ u.heap[D]? = some (.cells #[.string x.t, .int .i64 x.k, .int .i64 x.x.k, .int .i64 x.x.o, .int .i64 x.x.n, .string x.x.s, .int .i64 x.x.r, .int .i64 x.x.c, .bool x.x.pr, .bool x.x.pc, .int .i64 x.x.r2, .int .i64 x.x.c2, .bool x.x.pr2, .bool x.x.pc2, .int .i64 x.x.f, .slice x.x.kp x.x.kn x.x.kc] 106 (0, 0))
      | _ => σ 6 = .bool ok) (fun _ _ => True)
    (ds := [8, 9, 10, 11, 12, 13, 7, 14, 15, 5, 6]) (fr := ?fr1) (by kernel_rfl) ?hfr1 ⟨rfl, rfl, trivial⟩ rfl rfl (by kernel_rfl) (by kernel_rfl) (by decide) rfl (Fr.refl _ _).drew (fun _ _ => trivial) ⟨fun _ _ _ _ _ _ _ _ _ _ => trivial, fun i u u' hG hR => hR.fr hG, ?_, ?_⟩ ?_
  case hfr1 =>
    intro σ
    simp only [layA, List.foldl_cons, List.foldl_nil, List.setIfInBounds_toArray, List.set_cons_zero, List.set_cons_succ]
    rfl
  · intro j hj i σ σ' u u' hij hs hd hG hR h
    have hj : j < 12 := hj
    rcases (by omega : j = 9 ∨ j = 10 ∨ j = 0 ∨ j = 1 ∨ j = 2 ∨ j = 3 ∨ j = 4 ∨ j = 5 ∨ j = 6 ∨ j = 7 ∨ j = 8 ∨ j = 11) with rfl | rfl | rfl | rfl | rfl | rfl | rfl | rfl | rfl | rfl | rfl | rfl
    · obtain ⟨D, cs, h1, h2, h3, h4⟩ := h
      obtain ⟨cs', h5, h6⟩ := hR.shape h4
      exact ⟨D, cs', hs.trans h1, h2, h5.trans h3, h6⟩
    · obtain ⟨D, h1, h2, h3⟩ := h
      exact ⟨D, (hd 9 rfl).1.trans h1, h2, hR.block h3 (lookup_ne (by decide) hij)⟩
    all_goals exact hs.trans h
  · intro i hi
    have hi : i < 12 := hi
    rcases (by omega : (i = 0 ∨ i = 1 ∨ i = 2 ∨ i = 3 ∨ i = 4 ∨ i = 6 ∨ i = 7 ∨ i = 8 ∨ i = 11) ∨ (i = 5 ∨ i = 9 ∨ i = 10)) with hi | hi
    · rcases hi with rfl | rfl | rfl | rfl | rfl | rfl | rfl | rfl | rfl
      all_goals
        intro a u K hX hG hD hN hZ hK
        obtain ⟨hx0, hx3, -⟩ := hX
        try dsimp only [AllF, slotsA, List.getD_cons_zero, List.getD_cons_succ] at hD
        first | obtain ⟨e0, e1, e2, e3, -⟩ := hD | obtain ⟨e0, e1, e2, -⟩ := hD | obtain ⟨e0, e1, -⟩ := hD | obtain ⟨e0, -⟩ := hD | skip
        try replace e0 : _ = _ := e0
        try replace e1 : _ = _ := e1
        try replace e2 : _ = _ := e2
        try replace e3 : _ = _ := e3
        have hr := hG.rules.1
        refine wpOp_step rfl (fun K' hK' => ?_)
        go_simp
        exact hK' _ _ (hK _ _ (Fr.refl _ _) rfl)
    · rcases hi with rfl | rfl | rfl
      all_goals
        intro a u K hX hG hD hN hZ hK
        obtain ⟨hx0, hx3, -⟩ := hX
        try dsimp only [AllF, slotsA, List.getD_cons_zero, List.getD_cons_succ] at hD
        have hr := hG.rules.1
      · obtain ⟨d3, d4, -⟩ := hD
        replace d3 : _ = _ := d3
        replace d4 : _ = _ := d4
        refine wpOp_step rfl (fun K' hK' => ?_)
        go_simp
        refine (hget.out u (HT.out.fr hG (by simp) (by simp))).mono ?_
        rintro e u2 ⟨rfl, hF⟩
        exact hK' _ _ (hK _ _ hF rfl)
      · refine wpOp_step rfl (fun K' hK' => ?_)
        go_simp
        exact hK' _ _ (hK _ _ ((Fr.refl [] u).alloc _) ⟨_, _, rfl, hG.size, rfl, heap_new u _⟩)
      · obtain ⟨⟨D, cs, d, hD0, hz, hb⟩, d7, -⟩ := hD
        obtain ⟨hSt, hn⟩ := KeptS.setRow (cells := #[.string x.t, .int .i64 x.k, .int .i64 x.x.k, .int .i64 x.x.o, .int .i64 x.x.n, .string x.x.s, .int .i64 x.x.r, .int .i64 x.x.c, .bool x.x.pr, .bool x.x.pc, .int .i64 x.x.r2, .int .i64 x.x.c2, .bool x.x.pr2, .bool x.x.pc2, .int .i64 x.x.f, .slice x.x.kp x.x.kn x.x.kc]) hb hD0 hz
        refine wpOp_plain rfl rfl (wp_store_row 106 (.tmp 5) (.tmp 14) rfl D #[.string x.t, .int .i64 x.k, .int .i64 x.x.k, .int .i64 x.x.o, .int .i64 x.x.n, .string x.x.s, .int .i64 x.x.r, .int .i64 x.x.c, .bool x.x.pr, .bool x.x.pc, .int .i64 x.x.r2, .int .i64 x.x.c2, .bool x.x.pr2, .bool x.x.pc2, .int .i64 x.x.f, .slice x.x.kp x.x.kn x.x.kc] ((eval_tmp a 5).trans d) ((eval_tmp a 14).trans d7) 106 cs hb (by kernel_rfl) hz (by simp [Value.oneCell']) ?_)
        exact hK _ _ hSt ⟨D, d, hD0, hn⟩
  · intro σ u hG h
    obtain ⟨D, h5, hD, hb⟩ := h 10 (by decide)
    rw [h5]
    have hb2 := hG.heap hb2 (by simp)
    clear h
    go_wp2_with (first | (refine wpList_load_mid rfl 106 _ rfl D 0 rfl (#[.string x.t, .int .i64 x.k, .int .i64 x.x.k, .int .i64 x.x.o, .int .i64 x.x.n, .string x.x.s, .int .i64 x.x.r, .int .i64 x.x.c, .bool x.x.pr, .bool x.x.pc, .int .i64 x.x.r2, .int .i64 x.x.c2, .bool x.x.pr2, .bool x.x.pc2, .int .i64 x.x.f, .slice x.x.kp x.x.kn x.x.kc] : Array Value).toList _ (rangeAt_of hb 0 16) Tryz.underlying106 rfl (by kernel_rfl) ?_) | (refine wpList_store_row rfl 106 _ _ rfl (w.heap.size + 1) #[.string x.t, .int .i64 x.k, .int .i64 x.x.k, .int .i64 x.x.o, .int .i64 x.x.n, .string x.x.s, .int .i64 x.x.r, .int .i64 x.x.c, .bool x.x.pr, .bool x.x.pc, .int .i64 x.x.r2, .int .i64 x.x.c2, .bool x.x.pr2, .bool x.x.pc2, .int .i64 x.x.f, .slice x.x.kp x.x.kn x.x.kc] rfl rfl 106 _ hb2 (by kernel_rfl) rfl (by simp [Value.oneCell']) ?_))
    obtain ⟨hSt, hn⟩ := KeptS.setRow (B := w.heap.size) (cells := #[.string x.t, .int .i64 x.k, .int .i64 x.x.k, .int .i64 x.x.o, .int .i64 x.x.n, .string x.x.s, .int .i64 x.x.r, .int .i64 x.x.c, .bool x.x.pr, .bool x.x.pc, .int .i64 x.x.r2, .int .i64 x.x.c2, .bool x.x.pr2, .bool x.x.pc2, .int .i64 x.x.f, .slice x.x.kp x.x.kn x.x.kc]) hb2 (by omega) rfl
    exact bodyPost_ret (v := x.val) (results_cell_row Tryz.results42 _ _ (w.heap.size + 1) 106 _ (0, 0) _ rfl hn Tryz.underlying106 rfl (by kernel_rfl)) rfl ⟨rfl, hSt.fr (hW.trans0 hG)⟩

set_option maxRecDepth 100000 in
theorem shWhat (p tb mb : Nat) (b : Int) (s : Sp) (l : List (Sp × Cel)) (w : World) (h : ShB w p tb mb b l) :
    Calls Tryz.prog 43 #[.pointer (some ⟨p, 0, none⟩), spV s] w fun e w1 => e = .returned (.int .i64 ((getS s l).getD cel0).k) ∧ Fr [] w w1 := by
  have hg : Hid (∀ u, ShB u p tb mb b l → Calls Tryz.prog 42 #[.pointer (some ⟨p, 0, none⟩), spV s] u fun e w1 => e = .returned ((getS s l).getD cel0).val ∧ Fr [] u w1) := fun u hu => shGet p tb mb b s l u hu
  have H := Lib.hid h
  clear h
  generalize (getS s l).getD cel0 = x at hg ⊢
  go_enter Tryz.func43, Tryz.ntmps43
  go_wp2_with fail
  refine (hg.out _ (H.out.fr0 ((Fr.refl [] w).alloc _))).mono ?_
  rintro e w1 ⟨rfl, hf⟩
  have hfield : ∀ u : World, (Instr.field 106 (.agg #[.string x.t, .int .i64 x.k, .int .i64 x.x.k, .int .i64 x.x.o, .int .i64 x.x.n, .string x.x.s, .int .i64 x.x.r, .int .i64 x.x.c, .bool x.x.pr, .bool x.x.pc, .int .i64 x.x.r2, .int .i64 x.x.c2, .bool x.x.pr2, .bool x.x.pc2, .int .i64 x.x.f, .slice x.x.kp x.x.kn x.x.kc]) 1).run Tryz.prog u = .ok (.int .i64 x.k) u := fun u => by kernel_rfl
  dsimp only [Cel.val]
  go_wp2
  go_ret
  exact ⟨rfl, ((Fr.refl [] w).alloc _).trans0 hf⟩

/-- What a sheet's All hands back: the closure's box, the rows' box, the rows. -/
structure IterSh (n0 : Nat) (w : World) (B : Nat) (R : List (Sp × Cel)) : Prop where
  ex : ∃ (B2 : Nat) (rv : Value), w.cell? ⟨B, 0, none⟩ = some (.func (.func 114) #[] #[.pointer (some ⟨B2, 0, none⟩)]) ∧ IterCell n0 w B2 rv R
  le : n0 ≤ B
  lt : B < w.heap.size

/-- The rows in row order. -/
def sortC (l : List (Sp × Cel)) : List (Sp × Cel) := rowsS cel0 (fun _ => true) l (sortS (l.map (·.1)))

set_option maxRecDepth 100000 in
theorem shAll (p tb mb : Nat) (b : Int) (l : List (Sp × Cel)) (w : World) (h : ShB w p tb mb b l) (hl : l.length ≤ 65536) :
    Calls Tryz.prog 34 #[.pointer (some ⟨p, 0, none⟩)] w fun e w1 => ∃ B : Nat, e = .returned (.func (.func 66) #[] #[.pointer (some ⟨B, 0, none⟩)]) ∧
      IterSh w.heap.size w1 B (sortC l) ∧ Fr [] w w1 := by
  obtain ⟨hs, hT⟩ := h
  have c0 := cell_of hs 0
  have hlt := lt_of hs
  have HT := Lib.hid hT
  have HL := Lib.hid hl
  clear hs hT hl
  go_enter Tryz.func34, Tryz.ntmps34
  go_wp2_with fail
  refine (all_Cell tb mb l _ HT.out HL.out).mono ?_
  rintro e w1 ⟨B2, rv, rfl, hI, hf⟩
  have HI := Lib.hid hI
  have hz := hf.size
  clear hI
  go_wp2
  go_ret
  have hA := (Fr.refl [] w1).alloc (.cells #[.func (.func 114) #[] #[.pointer (some ⟨B2, 0, none⟩)]] 143)
  refine ⟨_, rfl, ⟨⟨B2, rv, cell_of (heap_new w1 _) 0, (ce_old HI.out.box), Nat.lt_of_lt_of_le HI.out.lt hA.size, HI.out.le, owns_fr HI.out.own hA (fun _ _ => by simp)⟩, hz, by simp⟩, hf.trans0 hA⟩

theorem KeptT.cell {B : Nat} {S : List Nat} {T : Option TypeId} {w w1 : World} (h : KeptT B S T w w1) {p : Addr} {v : Value} (hp : w.cell? p = some v) (hb : p.block < B) (hn : p.block ∉ S) : w1.cell? p = some v := by
  obtain ⟨o, ho⟩ : ∃ o, w.heap[p.block]? = some o := ⟨_, Array.getElem?_eq_getElem (World.block_lt_of_cell? w p hp)⟩
  exact (World.cell?_of_block ((h.block _ o ho hn (.inl hb)).trans ho.symm)).trans hp
theorem owns_keptT {w w1 : World} {B0 : Nat} {e : TypeId} {size : Nat} {v : Value} {n : Nat} {xs : List Value} (h : w.ownsRow B0 e size v n xs) {B : Nat} {S : List Nat} {T : Option TypeId} (hk : KeptT B S T w w1) (hT : T ≠ some e) (hS : ∀ g, v.ownBlock = some g → g ∉ S) : w1.ownsRow B0 e size v n xs := by
  obtain ⟨h1, h2⟩ := h
  refine ⟨h1, ?_⟩
  rcases h2 with h2 | ⟨g, cap, cur, hv, hg, hh, r⟩
  · exact .inl h2
  · exact .inr ⟨g, cap, cur, hv, hg, hk.block _ _ hh (hS g (by rw [hv]; rfl)) (.inr (ofT_ne hT)), r⟩

/-- The rows' iterator, for whatever loop. -/
theorem seqOver (B : Nat) (S : List Nat) (T : Option TypeId) (n0 B2 : Nat) (rv : Value) (R : List (Sp × Cel)) (w : World) (hI : w.cell? ⟨B2, 0, none⟩ = some rv) (hown : w.ownsRow n0 218 18 rv R.length (R.flatMap rowCell)) (hsz : (R.length : Int) ≤ 70000)
    (hT : T ≠ some 218) (hS : ∀ g, rv.ownBlock = some g → g ∉ S) :
    SeqL Tryz.prog 114 #[.pointer (some ⟨B2, 0, none⟩)] (fun x : {x // x ∈ R} => #[spV x.1.1, Cel.val x.1.2]) B S T (fun ys => ys.map (·.1) = R) (fun pre => pre.map (·.1) <+: R) R.length w :=
  SeqL.ofK fun l hl => overK_Cell 4 (by omega) B2 rv R _ (fun W => W.ownsRow n0 218 18 rv R.length (R.flatMap rowCell)) (fun W h => RIs.of_owns h) (fun W W' hf h => owns_fr h hf (fun _ _ => by simp))
    (fun W W' hk h => owns_keptT h hk hT (fun g hg hm => by
      rcases List.mem_cons.1 hm with rfl | hm
      · have := (hown.lt g hg).2; omega
      · exact hS g hg hm)) w hI (World.block_lt_of_cell? w ⟨B2, 0, none⟩ hI) hown hsz

set_option maxRecDepth 100000 in
set_option maxHeartbeats 1600000 in
/-- A sheet's iterator, for whatever loop. -/
theorem seqSh (B : Nat) (S : List Nat) (T : Option TypeId) (n0 Bc : Nat) (R : List (Sp × Cel)) (w : World) (hI : IterSh n0 w Bc R) (hsz : (R.length : Int) ≤ 70000) (hS : ∀ k ∈ S, k < n0) (hT0 : T ≠ some 218) (hT : T ≠ some 158) :
    SeqL Tryz.prog 66 #[.pointer (some ⟨Bc, 0, none⟩)] (fun x : {x // x ∈ R} => #[spV x.1.1, .string x.1.2.t]) B S T (fun ys => ys.map (·.1) = R) (fun pre => pre.map (·.1) <+: R) R.length w := by
  obtain ⟨⟨B2, rv, hc, hI2⟩, hle, hlt⟩ := hI
  intro n l J Jx W hW hwl hlW hJ hJx hY h0
  have hWf : Fr [] w W := Fr.of_below hW []
  have hown := hI2.own
  have hrb : ∀ g, rv.ownBlock = some g → n0 ≤ g ∧ g < w.heap.size := fun g hg => hown.lt g hg
  have hcW : W.cell? ⟨Bc, 0, none⟩ = some (.func (.func 114) #[] #[.pointer (some ⟨B2, 0, none⟩)]) := ce_call hWf hc
  have hbW : W.cell? ⟨B2, 0, none⟩ = some rv := ce_call hWf hI2.box
  have hBW := World.block_lt_of_cell? W ⟨Bc, 0, none⟩ hcW
  have hRW := owns_fr hown hWf (fun _ _ => by simp)
  have hz := hWf.size
  clear hI2 hown
  refine callsIn_of_wp_marks Tryz.func66 rfl trivial ?_ rfl
  simp only [Tryz.ntmps66, List.size_toArray, List.length_cons, List.length_nil, Nat.reduceAdd, Nat.reduceSub, Array.replicate_succ, Array.replicate_zero, List.push_toArray, List.append_toArray, List.nil_append, List.cons_append]
  gi_wp2
  have hA := (Fr.refl [] W).alloc (.cells #[.func (.yield l) #[] #[]] 158)
  have hY0 := heap_new W (.cells #[.func (.yield l) #[] #[]] 158)
  have hJ0 : J [] (W.alloc (.cells #[.func (.yield l) #[] #[]] 158)) := hJ.alloc _ h0
  have hbA := ce_call hA hbW
  have hRA := owns_fr hRW hA (fun _ _ => by simp)
  generalize hWA : W.alloc (.cells #[.func (.yield l) #[] #[]] 158) = WA at *
  have hzA : WA.heap.size = W.heap.size + 1 := by rw [← hWA]; simp
  obtain ⟨yb, hyb⟩ : ∃ yb, W.heap.size = yb := ⟨_, rfl⟩
  simp only [hyb] at hY0 hzA hlW ⊢
  have hyS : yb ∉ l :: S := by
    intro hm
    rcases List.mem_cons.1 hm with rfl | hm
    · omega
    · have := hS _ hm; omega
  refine range_L (gf := 114) (lb := #[.pointer (some ⟨B2, 0, none⟩)]) rfl (enters_of Tryz.func114 (by kernel_rfl) rfl) B (l :: S) T ?_
    (seqOver B (l :: S) T n0 B2 rv R WA hbA hRA hsz hT0 ?_) ?_
    (fun pre X => J pre X ∧ X.heap[yb]? = some (.cells #[.func (.yield l) #[] #[]] 158 (0, 0))) (fun c pre X => c = .ret ∧ Jx pre X) ?_ ?_ ⟨hJ0, hY0⟩ ?_ ?_ ?_
  · intro k hk
    rcases List.mem_cons.1 hk with rfl | hk
    · omega
    · have := hS k hk; omega
  · intro g hg
    have h1 := hrb g hg
    intro hm
    rcases List.mem_cons.1 hm with rfl | hm
    · omega
    · have := hS g hm; omega
  · exact fun _ => rfl
  · exact (ownFrom_mono hJ (by omega)).and (ownFrom_at yb (fun _ => _) (by omega))
  · intro c s X Y row hs hg hr
    exact ⟨hs.1, ownFrom_mono hJx (by omega) s X Y row hs.2 hg hr⟩
  · intro l2 pre x X hl2 hj hk hlen
    gi_wp2
    refine ⟨((Fr.refl [] X).alloc _).alloc _, ?_⟩
    intro X2 hcs hsz hr hj2 hk2
    have hat := hcs X.heap.size _ _ _ (((Fr.refl [] _).alloc _).heap (heap_new X _) (by simp))
    have hxx := hcs (X.heap.size + 1) _ _ _ (hp_new (by simp))
    obtain ⟨fn, tmps, asg, bo, hy, hR⟩ := hY (n - 1) pre x X2 hj2.1 hlen
    try dsimp only [spV] at hy
    have a0 := cell_of hat 0
    have a1 := cell_of hat 1
    have x0 := cell_of hxx 0
    have y0 := cell_of hj2.2 0
    gi_wp2
    refine ⟨fun h => (by simp [Fence.wide] at h), hR.mono ?_⟩
    rintro e X3 ⟨hk3, (⟨rfl, hJ3⟩ | ⟨rfl, hJx3⟩)⟩
    · gi_wp2
      exact ⟨hk3, hJ3, hk3.block _ _ hj2.2 hyS (.inr (ofT_ne hT))⟩
    · gi_wp2
      exact ⟨hk3, rfl, hJx3⟩
  · intro D xs X hD hxs hj hk hK
    gi_wp2
    refine ⟨by simp, .inl ⟨_, _, rfl, run_takeDeferred hK, ?_⟩⟩
    exact ⟨_, results_none rfl _ _ _, ⟨_, rfl⟩, .inl ⟨xs, hxs, hJ.putObj _ hj.1 (by omega) hK rfl⟩⟩
  · rintro D c pre X hD hp ⟨rfl, hj⟩ hK
    gi_wp2
    refine ⟨by simp, .inl ⟨_, _, rfl, run_takeDeferred hK, ?_⟩⟩
    exact ⟨_, results_none rfl _ _ _, ⟨_, rfl⟩, .inr ⟨pre, hp, hJx.putObj _ hj (by omega) hK rfl⟩⟩
end Go.Proofs.YtnmkhoebijodhaaGreatDoor
