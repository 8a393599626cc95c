/-
  The tables of sheet.cell, with nothing in them: New, over, All, over$1; sheet.New, All, All$1 of a sheet that is blank.
-/
import Derived.Test.YtldppdafgbipjaaOver
import Derived.Test.YtldppdafgbipjaaIterK
import Derived.Test.YtldppdafgbipjaaLoopK
namespace Go.Proofs.Ytldppdafgbipjaa
open Go.RowKit Go.Shelf
attribute [local go_sem] Oper.semAt_some

theorem run_storeF (w : World) (a : Addr) (m : Mode) (f : Fn) (x y : Array Value) : (store a (.func f x y) m).run Try.prog w = stored Try.prog w a (.func f x y) m := run_store Try.prog w a _ m rfl
attribute [local go_sem] run_storeF

/-- A table of cells that has none. -/
abbrev CellTab (w : World) (tb mb : Nat) : Prop := TabIs 216 (fun _ : Unit => Value.agg #[]) w tb mb []

theorem new_Cell (w : World) : Calls Try.prog 84 #[] w fun e w1 => ∃ tb mb, e = .returned (.pointer (some ⟨tb, 0, none⟩)) ∧ w.heap.size ≤ tb ∧ w.heap.size ≤ mb ∧ CellTab w1 tb mb ∧ Fr [] w w1 := by
  have hmm := @run_makeMap Try.prog
  go_enter Try.func84, Try.ntmps84
  go_wp2
  go_ret
  refine ⟨w.heap.size + 1, w.heap.size, rfl, by omega, by omega, ⟨?_, ?_⟩, ((Fr.refl [] w).alloc _).alloc _⟩
  · have := heap_new (w.alloc (.map #[] 0)) (.cells #[.map (some w.heap.size), .slice none 0 0] 216)
    simpa using this
  · exact (MapIs.made w).fr ((Fr.refl [] _).alloc _) (by simp)

section
attribute [local go_sem] ob_alloc ob_alloc2 ob_alloc3 ob_alloc4 ob_drew ob_drewN ob_setCell
set_option maxRecDepth 100000 in
set_option maxHeartbeats 2000000 in
theorem over_Cell (tb mb : Nat) (pg : Nat) (pb : Array Value) (w : World) (h : CellTab w tb mb) :
    Calls Try.prog 135 #[.pointer (some ⟨tb, 0, none⟩), .func (.func pg) #[] pb] w fun e w1 => ∃ (B : Nat), e = .returned (.func (.func 149) #[] #[.pointer (some ⟨B, 0, none⟩)]) ∧
      w1.cell? ⟨B, 0, none⟩ = some (.slice none 0 0) ∧ w.heap.size ≤ B ∧ Fr [] w w1 := by
  obtain ⟨ht, hmap⟩ := h
  have ht0 := cell_of ht 0
  have ht1 := cell_of ht 1
  have htl := lt_of ht
  have hml := hmap.lt
  have hseq := keysStops_Cell 1 (by omega) w.heap.size mb (valsOf (fun _ : Unit => Value.agg #[]) []) (w.alloc (.cells #[.map (some mb)] 214)) (by simp) (cell_of (heap_new w _) 0) (hmap.fr ((Fr.refl [] w).alloc _) (by simp))
  rw [vals_keys, vals_length] at hseq
  have hsort := sortedS 162 _ (enters_of Try.func162 (by kernel_rfl) rfl) _ _ (fun ss (hs : ss.Perm _) => by rw [hs.length_eq, List.length_map]; simp) _ (by simp) _ hseq
  clear ht hseq
  go_enter Try.func135, Try.ntmps135
  have heq := eql_nil
  go_wp2_with fail
  refine (keys_Cell (some mb) _).mono ?_
  rintro e w' ⟨rfl, hw⟩
  rw [hw]
  clear hw
  go_wp2_with fail
  refine hsort.mono ?_
  rintro e w2 ⟨v, ss, rfl, hS, hrow, _, hB2⟩
  have h2 : Fr [] w w2 := ((Fr.refl [] w).alloc _).trans0 (Fr.of_below hB2 [])
  have hss : ss = [] := by simpa using hS
  subst hss
  clear hsort hS hB2
  obtain ⟨⟨qa, qc, rfl⟩, hRc⟩ := RAt.of_owns hrow (Nat.le_refl _)
  clear hRc hrow
  simp only [List.length_nil]
  go_wp2_with fail
  have h3 : Fr [] w (w2.alloc (.cells #[.slice none 0 0] 251)) := h2.alloc _
  have hbX := heap_new w2 (.cells #[.slice none 0 0] 251)
  have hXw := h2.size
  generalize w2.alloc (.cells #[.slice none 0 0] 251) = W at *
  generalize w2.heap.size = X at *
  have hXlt := lt_of hbX
  go_loopw [23] (fun i wr => i = .int .i64 0 ∧ Fr [] W wr) (fun i _ => 0)
  case atStart => exact ⟨rfl, Fr.refl _ _⟩
  case round =>
    obtain ⟨rfl, hfr⟩ := hrel
    have hXr := hfr.heap hbX (by simp)
    go_wp2_with fail
    go_ret
    exact ⟨X, rfl, cell_of hXr 0, hXw, h3.trans0 hfr⟩
end

theorem all_Cell (tb mb : Nat) (w : World) (h : CellTab w tb mb) :
    Calls Try.prog 112 #[.pointer (some ⟨tb, 0, none⟩)] w fun e w1 => ∃ (B : Nat), e = .returned (.func (.func 149) #[] #[.pointer (some ⟨B, 0, none⟩)]) ∧
      w1.cell? ⟨B, 0, none⟩ = some (.slice none 0 0) ∧ w.heap.size ≤ B ∧ Fr [] w w1 := by
  go_enter Try.func112, Try.ntmps112
  go_wp2_with fail
  refine (over_Cell tb mb 136 #[] _ h).mono ?_
  rintro e w1 ⟨B, rfl, hb, hB, hf⟩
  go_wp2
  go_ret
  exact ⟨B, rfl, hb, hB, hf⟩

section
variable {F : Fence} {n : Nat} {P : Program}
/-- A loop over an iterator that yields nothing. -/
theorem range_none {g : Operand} {ps : Array Tmp} {assign body : Code} {Q : Exit → Act → World → Prop} {a : Act} {w : World}
    (hro : F.round = none) (h1 : 1 ≤ n) {gf : Nat} {lb : Array Value} (hg : a.eval g = .func (.func gf) #[] lb) (hFg : F.fn gf) (eg : ∀ args w, (callFunc gf args).run P w = .ok (.enter gf args) w)
    (hcall : ∀ l W, Fr [] w W → CallsIn F (n - 1) P gf (#[.func (.yield l) #[] #[]] ++ lb) W fun e W' => (∃ v, e = .returned v) ∧ Fr [] W W')
    (hdone : ∀ D W, w.heap.size ≤ D → Fr [] w W → W.heap[D]? = some (.deferred (some [])) → Q .normal { a with defers := { target := .collected D, args := #[] } :: a.defers } W) :
    (Code.rangeFunc g ps assign body).wpIn F n P Q a w := by
  refine wpIn_rangeFunc ?_
  intro fn hfn
  rw [hro]
  obtain ⟨rec, hrec⟩ : ∃ rec : LoopState → Option Code → Loop, rec = fun st pe => { state := st, pending := pe, fn, tmps := a.tmps, params := ps, assign, body, defers := w.heap.size } := ⟨_, rfl⟩
  obtain ⟨W1, hW1⟩ : ∃ W1, (w.alloc (.deferred (some []))).alloc (.loop (rec .ready none)) = W1 := ⟨_, rfl⟩
  have hL1 : W1.heap[w.heap.size + 1]? = some (.loop (rec .ready none)) := by
    rw [← hW1]; have := World.alloc_heap_new (w.alloc (.deferred (some []))) (.loop (rec .ready none)); rwa [World.size_alloc] at this
  have hK1 : W1.heap[w.heap.size]? = some (.deferred (some [])) := by
    rw [← hW1]; exact (Below.heap_alloc _ _ _ (by simp)).trans (World.alloc_heap_new w _)
  have hF1 : Fr [] w W1 := by rw [← hW1]; exact ((Fr.refl [] w).alloc _).alloc _
  refine ⟨w.heap.size + 1, [{ target := .collected w.heap.size, args := #[] }], W1, { target := .fn (.func gf) lb, args := #[.func (.yield (w.heap.size + 1)) #[] #[]] }, W1, gf,
    #[.func (.yield (w.heap.size + 1)) #[] #[]] ++ lb, W1, ?_, ?_, ?_, ?_, fun _ => h1, ?_⟩
  · rw [← hW1, hrec]; exact run_enterLoop_outer _ _ _ _ _
  · simp only [resolve, hg]
    simp [go_sem]
  · intro f' hf'; simp [Target.leads] at hf'; subst hf'; exact hFg
  · simp [invoke, go_sem, eg]
  · refine (hcall _ W1 hF1).mono ?_
    rintro e W2 ⟨⟨v, rfl⟩, hf⟩
    have hl := hf.heap hL1 (by simp)
    have hk := hf.heap hK1 (by simp)
    exact ⟨none, _, by have := run_endLoop (P := P) hl (by rw [hrec]; simp); rw [hrec] at this; exact this, hdone _ _ (Nat.le_refl _) ((hF1.trans0 hf).putObj (by omega) _) ((World.putObj_heap_other (by omega)).trans hk)⟩
end

set_option maxRecDepth 100000 in
theorem none_Cell (n : Nat) (Bl l : Nat) (W : World) (hbox : W.cell? ⟨Bl, 0, none⟩ = some (.slice none 0 0)) :
    CallsIn Fence.wide n Try.prog 149 #[.func (.yield l) #[] #[], .pointer (some ⟨Bl, 0, none⟩)] W fun e W' => (∃ v, e = .returned v) ∧ Fr [] W W' := by
  have hBl := World.block_lt_of_cell? W ⟨Bl, 0, none⟩ hbox
  refine callsIn_of_wp Try.func149 rfl trivial ?_ rfl
  simp only [Try.ntmps149, List.size_toArray, List.length_cons, List.length_nil, Nat.reduceAdd, Nat.reduceSub, Array.replicate_succ, Array.replicate_zero, List.push_toArray, List.append_toArray, List.nil_append, List.cons_append]
  gi_wp2
  gi_loopw [7] (fun i wr => i = .int .i64 0 ∧ Fr [] W wr) (fun i _ => 0)
  case atStart => exact ⟨rfl, Fr.refl _ _⟩
  case round =>
    obtain ⟨rfl, hJ0⟩ := hrel
    gi_wp2
    go_end0
    exact ⟨⟨_, rfl⟩, hJ0⟩

/-- A blank sheet. -/
structure Blank (w : World) (p tb mb : Nat) : Prop where
  sh : w.heap[p]? = some (.cells #[.pointer (some ⟨tb, 0, none⟩), .int .i64 0] 173 (0, 0))
  tab : CellTab w tb mb
theorem Blank.fr {w w1 : World} {p tb mb : Nat} (h : Blank w p tb mb) (hf : Fr [] w w1) : Blank w1 p tb mb := ⟨hf.heap h.sh (by simp), h.tab.fr hf (by simp) (by simp)⟩

theorem newSheet (w : World) : Calls Try.prog 46 #[] w fun e w1 => ∃ p tb mb, e = .returned (.pointer (some ⟨p, 0, none⟩)) ∧ Blank w1 p tb mb ∧ Fr [] w w1 := by
  go_enter Try.func46, Try.ntmps46
  go_wp2_with fail
  refine (new_Cell _).mono ?_
  rintro e w1 ⟨tb, mb, rfl, _, _, hT, hf⟩
  have HT := Lib.hid hT
  clear hT
  go_wp2
  go_ret
  exact ⟨_, tb, mb, rfl, ⟨heap_new w1 _, HT.out.fr ((Fr.refl [] w1).alloc _) (by simp) (by simp)⟩, hf.trans0 ((Fr.refl [] w1).alloc _)⟩

theorem allSheet (p tb mb : Nat) (w : World) (h : Blank w p tb mb) :
    Calls Try.prog 88 #[.pointer (some ⟨p, 0, none⟩)] w fun e w1 => ∃ B B2 : Nat, e = .returned (.func (.func 113) #[] #[.pointer (some ⟨B, 0, none⟩)]) ∧
      w1.cell? ⟨B, 0, none⟩ = some (.func (.func 149) #[] #[.pointer (some ⟨B2, 0, none⟩)]) ∧ w1.cell? ⟨B2, 0, none⟩ = some (.slice none 0 0) ∧ Fr [] w w1 := by
  obtain ⟨hs, hT⟩ := h
  have c0 := cell_of hs 0
  have hlt := lt_of hs
  have HT := Lib.hid hT
  clear hs hT
  go_enter Try.func88, Try.ntmps88
  go_wp2_with fail
  refine (all_Cell tb mb _ HT.out).mono ?_
  rintro e w1 ⟨B2, rfl, hb, hB, hf⟩
  go_wp2
  go_ret
  exact ⟨_, B2, rfl, cell_of (heap_new w1 _) 0, (((Fr.refl [] w1).alloc _).cell (p := ⟨B2, 0, none⟩) (World.block_lt_of_cell? w1 ⟨B2, 0, none⟩ hb) (by simp)).trans hb, hf.trans0 ((Fr.refl [] w1).alloc _)⟩

set_option maxRecDepth 100000 in
theorem none_Sheet (n : Nat) (hn : 1 ≤ n) (B B2 l : Nat) (W : World)
    (c1 : W.cell? ⟨B, 0, none⟩ = some (.func (.func 149) #[] #[.pointer (some ⟨B2, 0, none⟩)])) (c2 : W.cell? ⟨B2, 0, none⟩ = some (.slice none 0 0)) :
    CallsIn Fence.wide n Try.prog 113 #[.func (.yield l) #[] #[], .pointer (some ⟨B, 0, none⟩)] W fun e W' => (∃ v, e = .returned v) ∧ Fr [] W W' := by
  have hlt := World.block_lt_of_cell? W ⟨B, 0, none⟩ c1
  have hlt2 := World.block_lt_of_cell? W ⟨B2, 0, none⟩ c2
  refine callsIn_of_wp_marks Try.func113 rfl trivial ?_ rfl
  simp only [Try.ntmps113, List.size_toArray, List.length_cons, List.length_nil, Nat.reduceAdd, Nat.reduceSub, Array.replicate_succ, Array.replicate_zero, List.push_toArray, List.append_toArray, List.nil_append, List.cons_append]
  gi_wp2
  refine range_none rfl hn (gf := 149) (lb := #[.pointer (some ⟨B2, 0, none⟩)]) rfl trivial (enters_of Try.func149 (by kernel_rfl) rfl)
    (fun l X hX => none_Cell (n - 1) B2 l X (((((Fr.refl [] W).alloc _).trans0 hX).cell (p := ⟨B2, 0, none⟩) hlt2 (by simp)).trans c2)) ?_
  intro D X hD hX hK
  have hsz : W.heap.size ≤ D := by simp at hD; omega
  gi_wp2
  refine ⟨by simp, .inl ⟨_, _, rfl, run_takeDeferred hK, ?_⟩⟩
  exact ⟨_, results_none rfl _ _ _, ⟨_, rfl⟩, (((Fr.refl [] W).alloc _).trans0 hX).putObj hsz _⟩
end Go.Proofs.Ytldppdafgbipjaa
