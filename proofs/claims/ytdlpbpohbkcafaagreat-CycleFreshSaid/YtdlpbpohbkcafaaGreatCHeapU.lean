/-
  cycle.ready: Len, Less, Swap, Push, Pop.
  container/heap at cycle.ready: up, down, Push, Pop.
-/
import Derived.Test.YtdlpbpohbkcafaaGreatCRingM
import Derived.Deep.RegionLaw
import Derived.Deep.AppendLies
import Derived.Deep.LoopGhost
import Derived.Deep.CutBlock
namespace Go.Proofs.YtdlpbpohbkcafaaGreat
section
open Go.RowKit Go.Shelf Go.Sort Go.Proofs

abbrev tR : TypeId := 82
/-- The heap's slice in its box. -/
structure HeapAt (R B : Nat) (v : Value) (l : List Nat) (w : World) : Prop where
  box : w.heap[R]? = some (.cells #[v] tR (0, 0))
  row : w.ownsRow B tI 1 v l.length (l.flatMap nC)
theorem HeapAt.fr {R B : Nat} {v : Value} {l : List Nat} {w w1 : World} (h : HeapAt R B v l w) (hf : Fr [] w w1) : HeapAt R B v l w1 := ⟨hf.heap h.box (by simp), owns_fr h.row hf (by simp)⟩
theorem own_cellI {w : World} {B : Nat} {v : Value} {l : List Nat} (h : w.ownsRow B tI 1 v l.length (l.flatMap nC)) {i : Nat} (hi : i < l.length) : ∃ g c, v = .slice (some ⟨g, 0, none⟩) l.length c ∧ g < w.heap.size ∧ w.cell? ⟨g, i, none⟩ = some (.int .i64 (l[i] : Int)) ∧ w.frozen? ⟨g, i, none⟩ = false := by
  obtain ⟨g, c, rfl, _, hl⟩ := h.form (by omega)
  refine ⟨g, c, rfl, hl, ?_, h.frozenAt i⟩
  rw [h.cellAt i (by omega)]
  have := flat_get nC 1 (fun _ => rfl) l i 0 hi (by omega)
  simpa using this

theorem rLen (v : Value) (q : Option Addr) (n c : Nat) (hv : v = .slice q n c) (w : World) : Calls Tryz.prog 33 #[v] w fun e w1 => e = .returned (.int .i64 (n : Int)) ∧ w1 = w := by
  subst hv
  go_enter Tryz.func33, Tryz.ntmps33
  go_wp2
  go_ret
  exact ⟨rfl, rfl⟩
theorem rLess (v : Value) (B : Nat) (l : List Nat) (i j : Nat) (w : World) (h : w.ownsRow B tI 1 v l.length (l.flatMap nC)) (hi : i < l.length) (hj : j < l.length) :
    Calls Tryz.prog 140 #[v, .int .i64 (i : Int), .int .i64 (j : Int)] w fun e w1 => e = .returned (.bool (decide (l[i] < l[j]))) ∧ Fr [] w w1 := by
  obtain ⟨g, c, rfl, hg, ci, _⟩ := own_cellI h hi
  obtain ⟨g', c', e, _, cj, _⟩ := own_cellI h hj
  cases e
  have hi1 : (i : Int) < (l.length : Int) := by omega
  have hj1 : (j : Int) < (l.length : Int) := by omega
  have HB : Hid (decide ((l[i] : Int) < (l[j] : Int)) = decide (l[i] < l[j])) := by show _ = _; simp
  clear h
  generalize l[i] = x at *
  generalize l[j] = y at *
  go_enter Tryz.func140, Tryz.ntmps140
  go_wp2_with fail
  go_region
  all_goals
    go_wp2
    go_ret
    exact ⟨ret_bool (by first | exact HB.out | simp), (Fr.refl [] w).drew⟩
/-- Two that change places. -/
def swapL (l : List Nat) (i j : Nat) : List Nat := (l.set i (l.getD j 0)).set j (l.getD i 0)
theorem swapL_len (l : List Nat) (i j : Nat) : (swapL l i j).length = l.length := by simp [swapL]
theorem flat_set (l : List Nat) (i x : Nat) : (l.set i x).flatMap nC = (l.flatMap nC).set i (.int .i64 (x : Int)) := by
  rw [nC_iC, nC_iC, List.map_set, List.map_set]
theorem rSwap (v : Value) (B : Nat) (l : List Nat) (i j : Nat) (w : World) (h : w.ownsRow B tI 1 v l.length (l.flatMap nC)) (hi : i < l.length) (hj : j < l.length) :
    Calls Tryz.prog 143 #[v, .int .i64 (i : Int), .int .i64 (j : Int)] w fun e w1 => e = .returned (.tuple #[]) ∧ w1.ownsRow B tI 1 v (swapL l i j).length ((swapL l i j).flatMap nC) ∧ w.grownBy w1 v.ownBlock := by
  obtain ⟨g, c, rfl, hg, ci, fi⟩ := own_cellI h hi
  obtain ⟨g', c', e, _, cj, fj⟩ := own_cellI h hj
  cases e
  have hi1 : (i : Int) < (l.length : Int) := by omega
  have hj1 : (j : Int) < (l.length : Int) := by omega
  obtain ⟨s1, r1⟩ := h.stored i (.int .i64 (l[j] : Int))
  obtain ⟨s2, r2⟩ := s1.stored j (.int .i64 (l[i] : Int))
  rw [← flat_set, ← flat_set] at s2
  have hsw : (l.set i l[j]).set j l[i] = swapL l i j := by simp [swapL, hi, hj]
  rw [hsw] at s2
  have HS : Hid (((w.setCell ⟨g, i, none⟩ (.int .i64 (l[j] : Int))).setCell ⟨g, j, none⟩ (.int .i64 (l[i] : Int))).ownsRow B tI 1 (.slice (some ⟨g, 0, none⟩) l.length c) (swapL l i j).length ((swapL l i j).flatMap nC)) := by
    show World.ownsRow _ _ _ _ _ _ _
    rw [swapL_len]
    exact s2
  have HG : Hid (w.grownBy ((w.setCell ⟨g, i, none⟩ (.int .i64 (l[j] : Int))).setCell ⟨g, j, none⟩ (.int .i64 (l[i] : Int))) (some g)) :=
    ⟨rfl, rfl, rfl, by simp, fun k hk hne => by rw [r2.block k (by simpa using hk) hne, r1.block k hk hne]⟩
  obtain ⟨z, hz⟩ : ∃ z, (w.setCell ⟨g, i, none⟩ (.int .i64 (l[j] : Int))).cell? ⟨g, j, none⟩ = some z := by
    rw [s1.cellAt j (by omega)]
    exact ⟨_, List.getElem?_eq_getElem (by rw [List.length_set, flat_len nC 1 (fun _ => rfl)]; omega)⟩
  have hzf := s1.frozenAt j
  clear h s1 r1 s2 r2 hsw
  generalize l[i] = x at *
  generalize l[j] = y at *
  go_enter Tryz.func143, Tryz.ntmps143
  go_wp2_with fail
  go_region
  all_goals
    go_wp2
    go_end0
    exact ⟨rfl, owns_fr HS.out ((Fr.refl [] _).drew) (by simp), ⟨HG.out.os, HG.out.tape, HG.out.output, HG.out.size, HG.out.block⟩⟩
theorem rPush (R B : Nat) (v : Value) (l : List Nat) (x : Nat) (w : World) (h : HeapAt R B v l w) (hl : l.length ≤ 65536) (hB : B ≤ w.heap.size) :
    Calls Tryz.prog 142 #[.pointer (some ⟨R, 0, none⟩), .iface tI (.int .i64 (x : Int))] w fun e w1 => e = .returned (.tuple #[]) ∧ ∃ v1, HeapAt R B v1 (l ++ [x]) w1 ∧ Fr (R :: v.ownBlock.toList) w w1 ∧ ∀ k, v1.ownBlock = some k → v.ownBlock = some k ∨ w.heap.size ≤ k := by
  obtain ⟨hb, hr⟩ := h
  obtain ⟨q1, n1, p1, rfl⟩ := own_form hr
  obtain ⟨i0, hi0, hz0, hz1, hz2⟩ := info_parts infoInt
  have hRl := lt_of hb
  have c0 := cell_of hb 0
  have f0 := free_of hb 0
  have hGo : some R ≠ (Value.slice q1 n1 p1).ownBlock := fun e => by
    obtain ⟨_, cur, hc⟩ := own_hp hr e.symm
    rw [hb] at hc
    cases hc
  have HR := Lib.hid hr
  have HBX := Lib.hid hb
  have hta : ∀ W : World, (Instr.typeAssert (.iface tI (.int .i64 (x : Int))) 20 tI false).run Tryz.prog W = .ok (.int .i64 (x : Int)) W := fun _ => by kernel_rfl
  clear hb hr
  go_enter Tryz.func142, Tryz.ntmps142
  go_wp2_with fail
  go_region_law (first | (refine step_append_lies _ (by rfl) _ _ _ (by rfl) B tI i0 _ 1 8 Tryz.underlying82 hi0 hz0 hz1 hz2 rfl (by omega) (.slice q1 n1 p1) l.length (l.flatMap nC) (by rfl) ((HR.out.alloc _).drew) ⟨w.heap.size, 0, none⟩ 1 1 (nC x) (by rfl) (by rfl) (World.news_of_block (cs := (nC x).toArray) (t := tI) (fr := (0, 0)) (heap_alloc_new w _)) (by simp [Value.oneCell']) (by omega) (by unfold maxLen; omega) (by omega) (by simp; omega) (w.heap.size + 1) (by simp) ?_; intro gg cap w7 hown7 hgrow hat hlt7; have hG7 := (hgrow.block R (by simp; omega) hGo).trans ((((Fr.refl [] w).alloc _).drew).heap HBX.out (by simp)); have hG7c := cell_of hG7 0; have hG7f := free_of hG7 0))
  all_goals
    have hne7 : ∀ k, (Value.slice (some ⟨gg, 0, none⟩) (l.length + 1) cap).ownBlock = some k → k ∉ [R] := fun k hk hm => by
      obtain ⟨_, cur, hc⟩ := own_hp hown7 hk
      rw [List.mem_singleton] at hm
      rw [hm, hG7] at hc
      cases hc
    have HH : Hid (HeapAt R B (.slice (some ⟨gg, 0, none⟩) (l.length + 1) cap) (l ++ [x]) (w7.setCell ⟨R, 0, none⟩ (.slice (some ⟨gg, 0, none⟩) (l.length + 1) cap))) := by
      refine ⟨by rw [set_of hG7]; rfl, ?_⟩
      have := owns_fr hown7 (fr_cell w7 R 0 (.slice (some ⟨gg, 0, none⟩) (l.length + 1) cap)) hne7
      simpa using this
    have HF : Hid (Fr (R :: (Value.slice q1 n1 p1).ownBlock.toList) w (w7.setCell ⟨R, 0, none⟩ (.slice (some ⟨gg, 0, none⟩) (l.length + 1) cap))) :=
      ((((Fr.refl (R :: (Value.slice q1 n1 p1).ownBlock.toList) w).alloc _).drew).grown hgrow (fun k hk => .inl (by simp [hk]))).setCell (.inl (by simp)) _
    have HAT : Hid (∀ k, (Value.slice (some ⟨gg, 0, none⟩) (l.length + 1) cap).ownBlock = some k → (Value.slice q1 n1 p1).ownBlock = some k ∨ w.heap.size ≤ k) := fun k hk => by
      cases hk
      rcases hat with h | h
      · exact .inl h
      · exact .inr (by show w.heap.size ≤ gg; omega)
    clear hown7 hgrow hat hG7 hne7
    go_wp2
    go_end0
    exact ⟨rfl, _, HH.out, HF.out, HAT.out⟩
theorem rPop (R B : Nat) (v : Value) (l : List Nat) (x : Nat) (w : World) (h : HeapAt R B v (l ++ [x]) w) (hl : l.length ≤ 65536) :
    Calls Tryz.prog 141 #[.pointer (some ⟨R, 0, none⟩)] w fun e w1 => e = .returned (.iface tI (.int .i64 (x : Int))) ∧ ∃ v1, HeapAt R B v1 l w1 ∧ Fr [R] w w1 ∧ v1.ownBlock = v.ownBlock := by
  obtain ⟨hb, hr⟩ := h
  obtain ⟨g, c, rfl, hg, cx, _⟩ := own_cellI hr (i := l.length) (by simp)
  obtain ⟨_, _, e0, hc1, hc2⟩ := (own_sl hr).form
  cases e0
  simp only [List.length_append, List.length_cons, List.length_nil, Nat.zero_add] at *
  rw [show (l ++ [x])[l.length]'(by simp) = x by simp] at cx
  have hRl := lt_of hb
  have c0 := cell_of hb 0
  have f0 := free_of hb 0
  have hgR : g ∉ [R] := fun hm => by
    obtain ⟨_, cur, hc⟩ := own_hp hr (g := g) rfl
    rw [List.mem_singleton] at hm
    rw [hm, hb] at hc
    cases hc
  have ht := own_take hr (m := l.length) (ys := l.flatMap nC) (by omega) (by
    rw [List.flatMap_append, List.take_append, flat_len nC 1 (fun _ => rfl)]
    rw [List.take_of_length_le (by rw [flat_len nC 1 (fun _ => rfl)]; exact Nat.le_refl _)]
    simp)
  have HH : Hid (HeapAt R B (.slice (some ⟨g, 0, none⟩) l.length c) l (w.setCell ⟨R, 0, none⟩ (.slice (some ⟨g, 0, none⟩) l.length c))) :=
    ⟨by rw [set_of hb]; rfl, owns_fr ht (fr_cell w R 0 (.slice (some ⟨g, 0, none⟩) l.length c)) (fun k hk => by cases hk; exact hgR)⟩
  clear ht hr hb hgR
  have hw1 : IntKind.i64.wrap ((l.length : Int) + 1 - 1) = (l.length : Int) := by rw [IntKind.wrap_i64]; omega
  have hk1 : (l.length : Int) ≤ (c : Int) := by omega
  have hk2 : (c : Int) ≤ 9223372036854775807 := by omega
  have hk3 : (l.length : Int) < (l.length : Int) + 1 := by omega
  go_enter Tryz.func141, Tryz.ntmps141
  go_wp2
  go_ret
  exact ⟨rfl, _, HH.out, fr_cell _ _ _ _, rfl⟩
end
section
open Go.RowKit Go.Shelf Go.Sort Go.Proofs

abbrev hV (R : Nat) : Value := .iface 81 (.pointer (some ⟨R, 0, none⟩))
theorem methLess' (d : Nat) (a : Addr) (W : World) : (method (d + 1) 81 (.pointer (some a)) "Less").run Tryz.prog W = ((fun v => ((140 : FuncId), v)) <$> load a).run Tryz.prog W := by kernel_rfl
theorem methLess (d R : Nat) (v : Value) (W : World) (h : W.cell? ⟨R, 0, none⟩ = some v) : (method (d + 1) 81 (.pointer (some ⟨R, 0, none⟩)) "Less").run Tryz.prog W = .ok (140, v) W := by
  rw [methLess']
  simp [h, go_sem]
theorem methLen' (d : Nat) (a : Addr) (W : World) : (method (d + 1) 81 (.pointer (some a)) "Len").run Tryz.prog W = ((fun v => ((33 : FuncId), v)) <$> load a).run Tryz.prog W := by kernel_rfl
theorem methLen (d R : Nat) (v : Value) (W : World) (h : W.cell? ⟨R, 0, none⟩ = some v) : (method (d + 1) 81 (.pointer (some ⟨R, 0, none⟩)) "Len").run Tryz.prog W = .ok (33, v) W := by
  rw [methLen']
  simp [h, go_sem]
theorem methSwap' (d : Nat) (a : Addr) (W : World) : (method (d + 1) 81 (.pointer (some a)) "Swap").run Tryz.prog W = ((fun v => ((143 : FuncId), v)) <$> load a).run Tryz.prog W := by kernel_rfl
theorem methSwap (d R : Nat) (v : Value) (W : World) (h : W.cell? ⟨R, 0, none⟩ = some v) : (method (d + 1) 81 (.pointer (some ⟨R, 0, none⟩)) "Swap").run Tryz.prog W = .ok (143, v) W := by
  rw [methSwap']
  simp [h, go_sem]
theorem methPush (d R : Nat) (W : World) : (method (d + 1) 81 (.pointer (some ⟨R, 0, none⟩)) "Push").run Tryz.prog W = .ok (142, .pointer (some ⟨R, 0, none⟩)) W := by kernel_rfl
theorem methPop (d R : Nat) (W : World) : (method (d + 1) 81 (.pointer (some ⟨R, 0, none⟩)) "Pop").run Tryz.prog W = .ok (141, .pointer (some ⟨R, 0, none⟩)) W := by kernel_rfl
/-- One goes up. -/
def upL : Nat → List Nat → Nat → List Nat
  | 0, l, _ => l
  | f + 1, l, j => if j = 0 then l else if l.getD j 0 < l.getD ((j - 1) / 2) 0 then upL f (swapL l ((j - 1) / 2) j) ((j - 1) / 2) else l
set_option maxRecDepth 100000 in
theorem upC (R B : Nat) (v : Value) (l : List Nat) (j : Nat) (w : World) (h : HeapAt R B v l w) (hj : j < l.length) (hl : l.length ≤ 65537) :
    Calls Tryz.prog 57 #[hV R, .int .i64 (j : Int)] w fun e w1 => e = .returned (.tuple #[]) ∧ HeapAt R B v (upL l.length l j) w1 ∧ Fr v.ownBlock.toList w w1 := by
  generalize hT : upL l.length l j = T
  have HT := Lib.hid hT
  clear hT
  go_enter Tryz.func57, Tryz.ntmps57
  go_wp2_with fail
  go_loopg [1, 4] l.length (fun f jv _ wr => ∃ (j' : Nat) (l' : List Nat), jv = .int .i64 (j' : Int) ∧ j' < l'.length ∧ l'.length = l.length ∧ j' ≤ f ∧ upL f l' j' = T ∧ HeapAt R B v l' wr ∧ Fr v.ownBlock.toList w wr)
  case atStart => exact ⟨j, l, rfl, hj, rfl, by omega, HT.out, h, Fr.refl _ _⟩
  case round =>
    obtain ⟨j, l', rfl, hj', hll, hjf, hup, hH, hf⟩ := hrel
    by_cases h0 : j = 0
    · subst h0
      have HU : Hid (l' = T) := by
        cases gk with
        | zero => exact hup
        | succ f => rw [upL, if_pos rfl] at hup; exact hup
      clear hup
      go_wp2
      go_end0
      exact ⟨rfl, by rw [← HU.out]; exact hH, hf⟩
    · obtain ⟨f, rfl⟩ : ∃ f, gk = f + 1 := ⟨gk - 1, by omega⟩
      obtain ⟨i, hi⟩ : ∃ i, (j - 1) / 2 = i := ⟨_, rfl⟩
      have hi1 : i < j := by omega
      have hi2 : i < l'.length := by omega
      have hsub : IntKind.i64.wrap ((j : Int) - 1) = (j : Int) - 1 := by rw [IntKind.wrap_i64]; omega
      have hquo : Int.tdiv ((j : Int) - 1) 2 = (i : Int) := by
        rw [show (j : Int) - 1 = ((j - 1 : Nat) : Int) by omega, ← hi]
        rfl
      have hqw : IntKind.i64.wrap (i : Int) = (i : Int) := by rw [IntKind.wrap_i64]; omega
      have hne : ¬ (i : Int) = (j : Int) := by omega
      have hbe : ((i : Int) == (j : Int)) = false := by rw [beq_eq_false_iff_ne]; exact hne
      rw [upL, if_neg h0, hi] at hup
      have HUP := Lib.hid hup
      have HI := Lib.hid hi
      have c0 := cell_of hH.box 0
      have hmL := methLess (R := R) (v := v) (h := c0)
      clear hup hi
      go_wp2_with fail
      refine (rLess v B l' j i wr hH.row hj' hi2).mono ?_
      rintro e w3 ⟨rfl, h3⟩
      have hH3 := hH.fr h3
      have hf3 := hf.trans0 h3
      have e1 : l'.getD j 0 = l'[j] := by rw [List.getD_eq_getElem?_getD, List.getElem?_eq_getElem hj']; rfl
      have e2 : l'.getD i 0 = l'[i] := by rw [List.getD_eq_getElem?_getD, List.getElem?_eq_getElem hi2]; rfl
      rw [e1, e2] at HUP
      clear e1 e2 c0 hmL h3 hH hf
      by_cases hlt : l'[j] < l'[i]
      · rw [if_pos hlt] at HUP
        rw [decide_eq_true hlt]
        have c0 := cell_of hH3.box 0
        have hmS := methSwap (R := R) (v := v) (h := c0)
        clear hlt
        go_wp2_with fail
        refine (rSwap v B l' i j w3 hH3.row hi2 hj').mono ?_
        rintro e w4 ⟨rfl, hr4, hg4⟩
        have hH4 : HeapAt R B v (swapL l' i j) w4 := ⟨(hg4.block R (lt_of hH3.box) (fun e => by
          obtain ⟨_, cur, hc⟩ := own_hp hH3.row e.symm
          rw [hH3.box] at hc
          cases hc)).trans hH3.box, hr4⟩
        have hf4 : Fr v.ownBlock.toList w w4 := hf3.transS (fr_grown hg4)
        clear c0 hmS hH3 hf3 hr4 hg4
        go_wp2
        go_roundg f
        case rel => exact ⟨i, swapL l' i j, rfl, by rw [swapL_len]; exact hi2, by rw [swapL_len]; exact hll, by omega, HUP.out, hH4, hf4⟩
        case measure => omega
      · rw [if_neg hlt] at HUP
        rw [decide_eq_false hlt]
        clear hlt
        go_wp2
        go_end0
        exact ⟨rfl, by rw [← HUP.out]; exact hH3, hf3⟩
/-- One goes down. -/
def downL : Nat → List Nat → Nat → Nat → List Nat
  | 0, l, _, _ => l
  | f + 1, l, i, n => if n ≤ 2 * i + 1 then l else
      if l.getD (if 2 * i + 2 < n ∧ l.getD (2 * i + 2) 0 < l.getD (2 * i + 1) 0 then 2 * i + 2 else 2 * i + 1) 0 < l.getD i 0
      then downL f (swapL l i (if 2 * i + 2 < n ∧ l.getD (2 * i + 2) 0 < l.getD (2 * i + 1) 0 then 2 * i + 2 else 2 * i + 1)) (if 2 * i + 2 < n ∧ l.getD (2 * i + 2) 0 < l.getD (2 * i + 1) 0 then 2 * i + 2 else 2 * i + 1) n
      else l
set_option maxRecDepth 100000 in
set_option maxHeartbeats 1600000 in
theorem downC (R B : Nat) (v : Value) (l : List Nat) (i n : Nat) (w : World) (h : HeapAt R B v l w) (hi : i < l.length) (hn : n ≤ l.length) (hl : l.length ≤ 65537) :
    Calls Tryz.prog 58 #[hV R, .int .i64 (i : Int), .int .i64 (n : Int)] w fun e w1 => (∃ x : Value, e = .returned x) ∧ HeapAt R B v (downL n l i n) w1 ∧ Fr v.ownBlock.toList w w1 := by
  generalize hT : downL n l i n = T
  have HT := Lib.hid hT
  clear hT
  go_enter Tryz.func58, Tryz.ntmps58
  go_wp2_with fail
  go_loopg [7, 8, 9, 10] n (fun f iv _ _ _ wr => ∃ (i' : Nat) (l' : List Nat), iv = .int .i64 (i' : Int) ∧ i' < l'.length ∧ l'.length = l.length ∧ n ≤ i' + f ∧ downL f l' i' n = T ∧ HeapAt R B v l' wr ∧ Fr v.ownBlock.toList w wr)
  case atStart => exact ⟨i, l, rfl, hi, rfl, by omega, HT.out, h, Fr.refl _ _⟩
  case round =>
    obtain ⟨i, l', rfl, hi', hll, hif, hdn, hH, hf⟩ := hrel
    obtain ⟨j1, hj1⟩ : ∃ j1, 2 * i + 1 = j1 := ⟨_, rfl⟩
    obtain ⟨j2, hj2⟩ : ∃ j2, 2 * i + 2 = j2 := ⟨_, rfl⟩
    have hm1 : IntKind.i64.wrap (2 * (i : Int)) = 2 * (i : Int) := by rw [IntKind.wrap_i64]; omega
    have hm2 : IntKind.i64.wrap (2 * (i : Int) + 1) = (j1 : Int) := by rw [IntKind.wrap_i64]; omega
    have hm3 : IntKind.i64.wrap ((j1 : Int) + 1) = (j2 : Int) := by rw [IntKind.wrap_i64]; omega
    have h0n : ¬ (j1 : Int) < 0 := by omega
    by_cases h0 : n ≤ j1
    · have HU : Hid (l' = T) := by
        cases gk with
        | zero => exact hdn
        | succ f => rw [downL, if_pos (by omega)] at hdn; exact hdn
      have h0' : (n : Int) ≤ (j1 : Int) := by omega
      clear hdn
      go_wp2
      go_ret
      exact ⟨⟨_, rfl⟩, by rw [← HU.out]; exact hH, hf⟩
    · obtain ⟨f, rfl⟩ : ∃ f, gk = f + 1 := ⟨gk - 1, by omega⟩
      have h0' : ¬ (n : Int) ≤ (j1 : Int) := by omega
      rw [downL, hj1, hj2, if_neg h0] at hdn
      have hl1 : j1 < l'.length := by omega
      have hij : i < j1 := by omega
      have hij2 : i < j2 := by omega
      generalize hJ : (if j2 < n ∧ l'.getD j2 0 < l'.getD j1 0 then j2 else j1) = J at hdn
      have hJb : i < J ∧ J < l'.length := by
        rw [← hJ]
        split <;> omega
      obtain ⟨hJ1, hJ2⟩ := hJb
      have HDN := Lib.hid hdn
      have HJ := Lib.hid hJ
      have c0 := cell_of hH.box 0
      have hmL := methLess (R := R) (v := v) (h := c0)
      have hif2 : n ≤ i + (f + 1) := hif
      clear hdn hJ hj1 hj2 hif
      go_upto_region 6 with fail
      clear hm1 hm2 hm3
      go_cut [33] from 25 to 32 (fun b wx => b = .bool (decide (j2 < n ∧ l'.getD j2 0 < l'.getD j1 0)) ∧ Fr [] wr wx)
      case first =>
        by_cases h2 : j2 < n
        · have h2' : (j2 : Int) < (n : Int) := by omega
          have hl2 : j2 < l'.length := by omega
          go_wp2_with fail
          refine (rLess v B l' j2 j1 wr hH.row hl2 hl1).mono ?_
          rintro e w3 ⟨rfl, h3⟩
          have HD : Hid (decide (l'[j2] < l'[j1]) = decide (j2 < n ∧ l'.getD j2 0 < l'.getD j1 0)) := by
            show _ = _
            rw [decide_eq_decide, List.getD_eq_getElem?_getD, List.getD_eq_getElem?_getD, List.getElem?_eq_getElem hl1, List.getElem?_eq_getElem hl2]
            exact ⟨fun h => ⟨h2, h⟩, fun h => h.2⟩
          obtain ⟨b, hb⟩ : ∃ b, decide (l'[j2] < l'[j1]) = b := ⟨_, rfl⟩
          rw [hb]
          rw [hb] at HD
          clear hb
          go_wp2
          go_meet
          exact ⟨by rw [HD.out], h3⟩
        · have h2' : ¬ (j2 : Int) < (n : Int) := by omega
          have HD : Hid (decide (j2 < n ∧ l'.getD j2 0 < l'.getD j1 0) = false) := decide_eq_false fun h => h2 h.1
          go_wp2
          go_meet
          exact ⟨by rw [HD.out], Fr.refl _ _⟩
      case rest =>
        obtain ⟨rfl, h3⟩ := hcut
        have hH3 := hH.fr h3
        have hf3 := hf.trans0 h3
        clear c0 hmL hH hf h3
        go_upto_if 33 with fail
        go_cut [9] from 33 to 34 (fun jv wx => jv = .int .i64 (J : Int) ∧ HeapAt R B v l' wx ∧ Fr v.ownBlock.toList w wx)
        case first =>
          by_cases hc : j2 < n ∧ l'.getD j2 0 < l'.getD j1 0
          · rw [if_pos hc] at HJ
            rw [decide_eq_true hc]
            clear hc
            go_wp2
            go_meet
            exact ⟨by rw [HJ.out], hH3, hf3⟩
          · rw [if_neg hc] at HJ
            rw [decide_eq_false hc]
            clear hc
            go_wp2
            go_meet
            exact ⟨by rw [HJ.out], hH3, hf3⟩
        case rest =>
          clear hH3 hf3
          obtain ⟨rfl, hH4, hf4⟩ := hcut
          have c0 := cell_of hH4.box 0
          have hmL := methLess (R := R) (v := v) (h := c0)
          go_wp2_with fail
          refine (rLess v B l' J i wc hH4.row hJ2 hi').mono ?_
          rintro e w5 ⟨rfl, h5⟩
          have hH5 := hH4.fr h5
          have hf5 := hf4.trans0 h5
          have e1 : l'.getD J 0 = l'[J] := by rw [List.getD_eq_getElem?_getD, List.getElem?_eq_getElem hJ2]; rfl
          have e2 : l'.getD i 0 = l'[i] := by rw [List.getD_eq_getElem?_getD, List.getElem?_eq_getElem hi']; rfl
          rw [e1, e2] at HDN
          clear e1 e2 c0 hmL h5 hH4 hf4
          by_cases hlt : l'[J] < l'[i]
          · rw [if_pos hlt] at HDN
            rw [decide_eq_true hlt]
            have c0 := cell_of hH5.box 0
            have hmS := methSwap (R := R) (v := v) (h := c0)
            clear hlt
            go_wp2_with fail
            refine (rSwap v B l' i J w5 hH5.row hi' hJ2).mono ?_
            rintro e w6 ⟨rfl, hr6, hg6⟩
            have hH6 : HeapAt R B v (swapL l' i J) w6 := ⟨(hg6.block R (lt_of hH5.box) (fun e => by
              obtain ⟨_, cur, hc⟩ := own_hp hH5.row e.symm
              rw [hH5.box] at hc
              cases hc)).trans hH5.box, hr6⟩
            have hf6 : Fr v.ownBlock.toList w w6 := hf5.transS (fr_grown hg6)
            clear c0 hmS hH5 hf5 hr6 hg6
            go_wp2
            go_roundg f
            case rel => exact ⟨J, swapL l' i J, rfl, by rw [swapL_len]; exact hJ2, by rw [swapL_len]; exact hll, by omega, HDN.out, hH6, hf6⟩
            case measure => omega
          · rw [if_neg hlt] at HDN
            rw [decide_eq_false hlt]
            clear hlt
            go_wp2
            go_ret
            exact ⟨⟨_, rfl⟩, by rw [← HDN.out]; exact hH5, hf5⟩
theorem upL_len : ∀ (f : Nat) (l : List Nat) (j : Nat), (upL f l j).length = l.length
  | 0, l, j => rfl
  | f + 1, l, j => by
    rw [upL]
    split
    · rfl
    · split
      · rw [upL_len f, swapL_len]
      · rfl
theorem downL_len : ∀ (f : Nat) (l : List Nat) (i n : Nat), (downL f l i n).length = l.length
  | 0, l, i, n => rfl
  | f + 1, l, i, n => by
    rw [downL]
    generalize (if 2 * i + 2 < n ∧ l.getD (2 * i + 2) 0 < l.getD (2 * i + 1) 0 then 2 * i + 2 else 2 * i + 1) = J
    split
    · rfl
    · split
      · rw [downL_len f, swapL_len]
      · rfl
def pushL (l : List Nat) (x : Nat) : List Nat := upL (l.length + 1) (l ++ [x]) l.length
/-- What Pop leaves, and what it answers. -/
def popL (l : List Nat) : List Nat × Nat := ((downL (l.length - 1) (swapL l 0 (l.length - 1)) 0 (l.length - 1)).take (l.length - 1), (downL (l.length - 1) (swapL l 0 (l.length - 1)) 0 (l.length - 1)).getD (l.length - 1) 0)
set_option maxRecDepth 100000 in
theorem hPush (R B : Nat) (v : Value) (l : List Nat) (x : Nat) (w : World) (h : HeapAt R B v l w) (hl : l.length ≤ 65536) (hB : B ≤ w.heap.size) :
    Calls Tryz.prog 32 #[hV R, .iface tI (.int .i64 (x : Int))] w fun e w1 => e = .returned (.tuple #[]) ∧ ∃ v1, HeapAt R B v1 (pushL l x) w1 ∧ Fr (R :: v.ownBlock.toList) w w1 ∧ ∀ k, v1.ownBlock = some k → v.ownBlock = some k ∨ w.heap.size ≤ k := by
  have hmP := methPush (R := R)
  go_enter Tryz.func32, Tryz.ntmps32
  go_wp2_with fail
  refine (rPush R B v l x _ h hl hB).mono ?_
  rintro e w3 ⟨rfl, v1, hH, hf, hv1⟩
  have c0 := cell_of hH.box 0
  have hmL := methLen (R := R) (v := v1) (h := c0)
  obtain ⟨q1, c1, hv1e, hc1, hc2⟩ := (own_sl hH.row).form
  have hll : (l ++ [x]).length = l.length + 1 := by simp
  have HV := Lib.hid hv1e
  clear hv1e
  go_wp2_with fail
  refine (rLen v1 _ _ _ HV.out _).mono ?_
  rintro e w4 ⟨rfl, rfl⟩
  have hw : IntKind.i64.wrap (((l ++ [x]).length : Int) - 1) = (l.length : Int) := by rw [IntKind.wrap_i64, hll]; omega
  have hw2 : IntKind.i64.wrap ((l.length : Int) + 1 - 1) = (l.length : Int) := by rw [IntKind.wrap_i64]; omega
  have HUP := Lib.hid (upC R B v1 (l ++ [x]) l.length w4 hH (by omega) (by omega))
  have HF := Lib.hid hf
  have HV1 := Lib.hid hv1
  clear c0 hmL hc1 hc2 hmP hv1 hf hll
  go_wp2_with fail
  refine HUP.out.mono ?_
  rintro e w5 ⟨rfl, hH5, hf5⟩
  go_wp2
  go_end0
  refine ⟨rfl, v1, ?_, HF.out.trans hf5 (fun k hk => ?_), HV1.out⟩
  · unfold pushL
    simpa using hH5
  · rcases HV1.out k (by simpa using hk) with h | h
    · exact .inl (by simp [h])
    · exact .inr h
set_option maxRecDepth 100000 in
theorem hPop (R B : Nat) (v : Value) (l : List Nat) (w : World) (h : HeapAt R B v l w) (hl : l.length ≤ 65536) (h0 : 0 < l.length) :
    Calls Tryz.prog 34 #[hV R] w fun e w1 => e = .returned (.iface tI (.int .i64 ((popL l).2 : Int))) ∧ ∃ v1, HeapAt R B v1 (popL l).1 w1 ∧ Fr (R :: v.ownBlock.toList) w w1 ∧ v1.ownBlock = v.ownBlock := by
  obtain ⟨n, hn⟩ : ∃ n, l.length - 1 = n := ⟨_, rfl⟩
  have hn1 : n < l.length := by omega
  obtain ⟨d, hd⟩ : ∃ d, downL n (swapL l 0 n) 0 n = d := ⟨_, rfl⟩
  have hdl : d.length = l.length := by rw [← hd, downL_len, swapL_len]
  have hpop : popL l = (d.take n, d.getD n 0) := by unfold popL; rw [hn, hd]
  have hde : d = d.take n ++ [d.getD n 0] := by
    have h1 : d[n]'(by omega) = d.getD n 0 := by rw [List.getD_eq_getElem?_getD, List.getElem?_eq_getElem (by omega)]; rfl
    rw [← h1, List.take_append_getElem (by omega)]
    rw [List.take_of_length_le (by omega)]
  rw [hpop]
  simp only
  generalize hR : d.take n = rl at *
  generalize d.getD n 0 = x at *
  have hrl : rl.length ≤ 65536 := by rw [← hR, List.length_take]; omega
  have HD := Lib.hid hd
  have HDE := Lib.hid hde
  have hln : l.length = n + 1 := by omega
  have c0 := cell_of h.box 0
  have hmL := methLen (R := R) (v := v) (h := c0)
  have hmS := methSwap (R := R) (v := v) (h := c0)
  have hmP := methPop (R := R)
  obtain ⟨q1, c1, hve, hc1, hc2⟩ := (own_sl h.row).form
  have HV := Lib.hid hve
  have hw : IntKind.i64.wrap ((l.length : Int) - 1) = (n : Int) := by rw [IntKind.wrap_i64]; omega
  clear hd hde hve hpop hR hn
  go_enter Tryz.func34, Tryz.ntmps34
  go_wp2_with fail
  refine (rLen v _ _ _ HV.out _).mono ?_
  rintro e w3 ⟨rfl, rfl⟩
  have HSW := Lib.hid (rSwap v B l 0 n w3 h.row (by omega) hn1)
  go_wp2_with fail
  refine HSW.out.mono ?_
  rintro e w4 ⟨rfl, hr4, hg4⟩
  have hH4 : HeapAt R B v (swapL l 0 n) w4 := ⟨(hg4.block R (lt_of h.box) (fun e => by
    obtain ⟨_, cur, hc⟩ := own_hp h.row e.symm
    rw [h.box] at hc
    cases hc)).trans h.box, hr4⟩
  have hf4 := fr_grown hg4
  have HDN := Lib.hid (downC R B v (swapL l 0 n) 0 n w4 hH4 (by rw [swapL_len]; omega) (by rw [swapL_len]; omega) (by rw [swapL_len]; omega))
  clear c0 hmL hmS hr4 hg4 HSW
  go_wp2_with fail
  refine HDN.out.mono ?_
  rintro e w5 ⟨⟨b, rfl⟩, hH5, hf5⟩
  rw [HD.out, HDE.out] at hH5
  have hf45 := hf4.transS hf5
  clear HDN hH4 hf4 hf5
  go_wp2_with fail
  refine (rPop R B v rl x _ hH5 hrl).mono ?_
  rintro e w6 ⟨rfl, v1, hH6, hf6, hv6⟩
  go_wp2
  go_ret
  refine ⟨rfl, v1, hH6, (hf45.mono (fun k hk => .inl (List.mem_cons_of_mem _ hk))).trans hf6 (fun k hk => .inl (by rw [List.mem_singleton] at hk; simp [hk])), hv6⟩
end
end Go.Proofs.YtdlpbpohbkcafaaGreat
