/-
  cycle.ready: Len, Less, Swap, Push, Pop.
-/
import Derived.Test.YtdlpbpohbkcafaaCRingM
import Derived.Deep.RegionLaw
import Derived.Deep.AppendLies
namespace Go.Proofs.Ytdlpbpohbkcafaa
open Go.RowKit Go.Shelf Go.Sort Go.Proofs

abbrev tR : TypeId := 83
/-- The heap's slice in its box. -/
structure HeapAt (R B : Nat) (v : Value) (l : List Nat) (w : World) : Prop where
  box : w.heap[R]? = some (.cells #[v] tR (0, 0))
  row : w.ownsRow B tI 1 v l.length (l.flatMap nC)
theorem HeapAt.fr {R B : Nat} {v : Value} {l : List Nat} {w w1 : World} (h : HeapAt R B v l w) (hf : Fr [] w w1) : HeapAt R B v l w1 := ⟨hf.heap h.box (by simp), owns_fr h.row hf (by simp)⟩
theorem own_cellI {w : World} {B : Nat} {v : Value} {l : List Nat} (h : w.ownsRow B tI 1 v l.length (l.flatMap nC)) {i : Nat} (hi : i < l.length) : ∃ g c, v = .slice (some ⟨g, 0, none⟩) l.length c ∧ g < w.heap.size ∧ w.cell? ⟨g, i, none⟩ = some (.int .i64 (l[i] : Int)) ∧ w.frozen? ⟨g, i, none⟩ = false := by
  obtain ⟨g, c, rfl, _, hl⟩ := h.form (by omega)
  refine ⟨g, c, rfl, hl, ?_, h.frozenAt i⟩
  rw [h.cellAt i (by omega)]
  have := flat_get nC 1 (fun _ => rfl) l i 0 hi (by omega)
  simpa using this

theorem rLen (v : Value) (q : Option Addr) (n c : Nat) (hv : v = .slice q n c) (w : World) : Calls Try.prog 37 #[v] w fun e w1 => e = .returned (.int .i64 (n : Int)) ∧ w1 = w := by
  subst hv
  go_enter Try.func37, Try.ntmps37
  go_wp2
  go_ret
  exact ⟨rfl, rfl⟩
theorem rLess (v : Value) (B : Nat) (l : List Nat) (i j : Nat) (w : World) (h : w.ownsRow B tI 1 v l.length (l.flatMap nC)) (hi : i < l.length) (hj : j < l.length) :
    Calls Try.prog 116 #[v, .int .i64 (i : Int), .int .i64 (j : Int)] w fun e w1 => e = .returned (.bool (decide (l[i] < l[j]))) ∧ Fr [] w w1 := by
  obtain ⟨g, c, rfl, hg, ci, _⟩ := own_cellI h hi
  obtain ⟨g', c', e, _, cj, _⟩ := own_cellI h hj
  cases e
  have hi1 : (i : Int) < (l.length : Int) := by omega
  have hj1 : (j : Int) < (l.length : Int) := by omega
  have HB : Hid (decide ((l[i] : Int) < (l[j] : Int)) = decide (l[i] < l[j])) := by show _ = _; simp
  clear h
  generalize l[i] = x at *
  generalize l[j] = y at *
  go_enter Try.func116, Try.ntmps116
  go_wp2_with fail
  go_region
  all_goals
    go_wp2
    go_ret
    exact ⟨ret_bool (by first | exact HB.out | simp), (Fr.refl [] w).drew⟩
/-- Two that change places. -/
def swapL (l : List Nat) (i j : Nat) : List Nat := (l.set i (l.getD j 0)).set j (l.getD i 0)
theorem swapL_len (l : List Nat) (i j : Nat) : (swapL l i j).length = l.length := by simp [swapL]
theorem flat_set (l : List Nat) (i x : Nat) : (l.set i x).flatMap nC = (l.flatMap nC).set i (.int .i64 (x : Int)) := by
  rw [nC_iC, nC_iC, List.map_set, List.map_set]
theorem rSwap (v : Value) (B : Nat) (l : List Nat) (i j : Nat) (w : World) (h : w.ownsRow B tI 1 v l.length (l.flatMap nC)) (hi : i < l.length) (hj : j < l.length) :
    Calls Try.prog 119 #[v, .int .i64 (i : Int), .int .i64 (j : Int)] w fun e w1 => e = .returned (.tuple #[]) ∧ w1.ownsRow B tI 1 v (swapL l i j).length ((swapL l i j).flatMap nC) ∧ w.grownBy w1 v.ownBlock := by
  obtain ⟨g, c, rfl, hg, ci, fi⟩ := own_cellI h hi
  obtain ⟨g', c', e, _, cj, fj⟩ := own_cellI h hj
  cases e
  have hi1 : (i : Int) < (l.length : Int) := by omega
  have hj1 : (j : Int) < (l.length : Int) := by omega
  obtain ⟨s1, r1⟩ := h.stored i (.int .i64 (l[j] : Int))
  obtain ⟨s2, r2⟩ := s1.stored j (.int .i64 (l[i] : Int))
  rw [← flat_set, ← flat_set] at s2
  have hsw : (l.set i l[j]).set j l[i] = swapL l i j := by simp [swapL, hi, hj]
  rw [hsw] at s2
  have HS : Hid (((w.setCell ⟨g, i, none⟩ (.int .i64 (l[j] : Int))).setCell ⟨g, j, none⟩ (.int .i64 (l[i] : Int))).ownsRow B tI 1 (.slice (some ⟨g, 0, none⟩) l.length c) (swapL l i j).length ((swapL l i j).flatMap nC)) := by
    show World.ownsRow _ _ _ _ _ _ _
    rw [swapL_len]
    exact s2
  have HG : Hid (w.grownBy ((w.setCell ⟨g, i, none⟩ (.int .i64 (l[j] : Int))).setCell ⟨g, j, none⟩ (.int .i64 (l[i] : Int))) (some g)) :=
    ⟨rfl, rfl, rfl, by simp, fun k hk hne => by rw [r2.block k (by simpa using hk) hne, r1.block k hk hne]⟩
  obtain ⟨z, hz⟩ : ∃ z, (w.setCell ⟨g, i, none⟩ (.int .i64 (l[j] : Int))).cell? ⟨g, j, none⟩ = some z := by
    rw [s1.cellAt j (by omega)]
    exact ⟨_, List.getElem?_eq_getElem (by rw [List.length_set, flat_len nC 1 (fun _ => rfl)]; omega)⟩
  have hzf := s1.frozenAt j
  clear h s1 r1 s2 r2 hsw
  generalize l[i] = x at *
  generalize l[j] = y at *
  go_enter Try.func119, Try.ntmps119
  go_wp2_with fail
  go_region
  all_goals
    go_wp2
    go_end0
    exact ⟨rfl, owns_fr HS.out ((Fr.refl [] _).drew) (by simp), ⟨HG.out.os, HG.out.tape, HG.out.output, HG.out.size, HG.out.block⟩⟩
theorem rPush (R B : Nat) (v : Value) (l : List Nat) (x : Nat) (w : World) (h : HeapAt R B v l w) (hl : l.length ≤ 65536) (hB : B ≤ w.heap.size) :
    Calls Try.prog 118 #[.pointer (some ⟨R, 0, none⟩), .iface tI (.int .i64 (x : Int))] w fun e w1 => e = .returned (.tuple #[]) ∧ ∃ v1, HeapAt R B v1 (l ++ [x]) w1 ∧ Fr (R :: v.ownBlock.toList) w w1 ∧ ∀ k, v1.ownBlock = some k → v.ownBlock = some k ∨ w.heap.size ≤ k := by
  obtain ⟨hb, hr⟩ := h
  obtain ⟨q1, n1, p1, rfl⟩ := own_form hr
  obtain ⟨i0, hi0, hz0, hz1, hz2⟩ := info_parts infoInt
  have hRl := lt_of hb
  have c0 := cell_of hb 0
  have f0 := free_of hb 0
  have hGo : some R ≠ (Value.slice q1 n1 p1).ownBlock := fun e => by
    obtain ⟨_, cur, hc⟩ := own_hp hr e.symm
    rw [hb] at hc
    cases hc
  have HR := Lib.hid hr
  have HBX := Lib.hid hb
  have hta : ∀ W : World, (Instr.typeAssert (.iface tI (.int .i64 (x : Int))) 20 tI false).run Try.prog W = .ok (.int .i64 (x : Int)) W := fun _ => by kernel_rfl
  clear hb hr
  go_enter Try.func118, Try.ntmps118
  go_wp2_with fail
  go_region_law (first | (refine step_append_lies _ (by rfl) _ _ _ (by rfl) B tI i0 _ 1 8 Try.underlying83 hi0 hz0 hz1 hz2 rfl (by omega) (.slice q1 n1 p1) l.length (l.flatMap nC) (by rfl) ((HR.out.alloc _).drew) ⟨w.heap.size, 0, none⟩ 1 1 (nC x) (by rfl) (by rfl) (World.news_of_block (cs := (nC x).toArray) (t := tI) (fr := (0, 0)) (heap_alloc_new w _)) (by simp [Value.oneCell']) (by omega) (by unfold maxLen; omega) (by omega) (by simp; omega) (w.heap.size + 1) (by simp) ?_; intro gg cap w7 hown7 hgrow hat hlt7; have hG7 := (hgrow.block R (by simp; omega) hGo).trans ((((Fr.refl [] w).alloc _).drew).heap HBX.out (by simp)); have hG7c := cell_of hG7 0; have hG7f := free_of hG7 0))
  all_goals
    have hne7 : ∀ k, (Value.slice (some ⟨gg, 0, none⟩) (l.length + 1) cap).ownBlock = some k → k ∉ [R] := fun k hk hm => by
      obtain ⟨_, cur, hc⟩ := own_hp hown7 hk
      rw [List.mem_singleton] at hm
      rw [hm, hG7] at hc
      cases hc
    have HH : Hid (HeapAt R B (.slice (some ⟨gg, 0, none⟩) (l.length + 1) cap) (l ++ [x]) (w7.setCell ⟨R, 0, none⟩ (.slice (some ⟨gg, 0, none⟩) (l.length + 1) cap))) := by
      refine ⟨by rw [set_of hG7]; rfl, ?_⟩
      have := owns_fr hown7 (fr_cell w7 R 0 (.slice (some ⟨gg, 0, none⟩) (l.length + 1) cap)) hne7
      simpa using this
    have HF : Hid (Fr (R :: (Value.slice q1 n1 p1).ownBlock.toList) w (w7.setCell ⟨R, 0, none⟩ (.slice (some ⟨gg, 0, none⟩) (l.length + 1) cap))) :=
      ((((Fr.refl (R :: (Value.slice q1 n1 p1).ownBlock.toList) w).alloc _).drew).grown hgrow (fun k hk => .inl (by simp [hk]))).setCell (.inl (by simp)) _
    have HAT : Hid (∀ k, (Value.slice (some ⟨gg, 0, none⟩) (l.length + 1) cap).ownBlock = some k → (Value.slice q1 n1 p1).ownBlock = some k ∨ w.heap.size ≤ k) := fun k hk => by
      cases hk
      rcases hat with h | h
      · exact .inl h
      · exact .inr (by show w.heap.size ≤ gg; omega)
    clear hown7 hgrow hat hG7 hne7
    go_wp2
    go_end0
    exact ⟨rfl, _, HH.out, HF.out, HAT.out⟩
theorem rPop (R B : Nat) (v : Value) (l : List Nat) (x : Nat) (w : World) (h : HeapAt R B v (l ++ [x]) w) (hl : l.length ≤ 65536) :
    Calls Try.prog 117 #[.pointer (some ⟨R, 0, none⟩)] w fun e w1 => e = .returned (.iface tI (.int .i64 (x : Int))) ∧ ∃ v1, HeapAt R B v1 l w1 ∧ Fr [R] w w1 ∧ v1.ownBlock = v.ownBlock := by
  obtain ⟨hb, hr⟩ := h
  obtain ⟨g, c, rfl, hg, cx, _⟩ := own_cellI hr (i := l.length) (by simp)
  obtain ⟨_, _, e0, hc1, hc2⟩ := (own_sl hr).form
  cases e0
  simp only [List.length_append, List.length_cons, List.length_nil, Nat.zero_add] at *
  rw [show (l ++ [x])[l.length]'(by simp) = x by simp] at cx
  have hRl := lt_of hb
  have c0 := cell_of hb 0
  have f0 := free_of hb 0
  have hgR : g ∉ [R] := fun hm => by
    obtain ⟨_, cur, hc⟩ := own_hp hr (g := g) rfl
    rw [List.mem_singleton] at hm
    rw [hm, hb] at hc
    cases hc
  have ht := own_take hr (m := l.length) (ys := l.flatMap nC) (by omega) (by
    rw [List.flatMap_append, List.take_append, flat_len nC 1 (fun _ => rfl)]
    rw [List.take_of_length_le (by rw [flat_len nC 1 (fun _ => rfl)]; exact Nat.le_refl _)]
    simp)
  have HH : Hid (HeapAt R B (.slice (some ⟨g, 0, none⟩) l.length c) l (w.setCell ⟨R, 0, none⟩ (.slice (some ⟨g, 0, none⟩) l.length c))) :=
    ⟨by rw [set_of hb]; rfl, owns_fr ht (fr_cell w R 0 (.slice (some ⟨g, 0, none⟩) l.length c)) (fun k hk => by cases hk; exact hgR)⟩
  clear ht hr hb hgR
  have hw1 : IntKind.i64.wrap ((l.length : Int) + 1 - 1) = (l.length : Int) := by rw [IntKind.wrap_i64]; omega
  have hk1 : (l.length : Int) ≤ (c : Int) := by omega
  have hk2 : (c : Int) ≤ 9223372036854775807 := by omega
  have hk3 : (l.length : Int) < (l.length : Int) + 1 := by omega
  go_enter Try.func117, Try.ntmps117
  go_wp2
  go_ret
  exact ⟨rfl, _, HH.out, fr_cell _ _ _ _, rfl⟩
end Go.Proofs.Ytdlpbpohbkcafaa
