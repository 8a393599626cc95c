/-
  quadrilleref21's heap: put.
  quadrilleref21's heap: pop.
  quadrilleref21.Order: the walk.
-/
import Derived.Test.YtdlpbpohbkcafaaGreatRfF
import Derived.Test.YtdlpbpohbkcafaaGreatCOrdB
import Derived.Deep.QuietTactic
import Derived.BigQuiet
import Derived.Test.YtdlpbpohbkcafaaGreatOrdQ
import Derived.Test.YtdlpbpohbkcafaaGreatCRingM
import Derived.Test.YtdlpbpohbkcafaaGreatRfR
namespace Go.Proofs.YtdlpbpohbkcafaaGreat
section
open Go.RowKit Go.Shelf Go.Sort Go.Proofs

set_option maxRecDepth 100000 in
set_option maxHeartbeats 1600000 in
theorem rfPut (B : Nat) (v : Value) (l : List Nat) (x : Nat) (w : World) (h : w.ownsRow B tI 1 v l.length (l.flatMap nC)) (hl : l.length ≤ 65536) (hB : B ≤ w.heap.size) :
    Calls Tryz.prog 35 #[v, .int .i64 (x : Int)] w fun e w1 => ∃ v1, e = .returned v1 ∧ w1.ownsRow B tI 1 v1 (pushL l x).length ((pushL l x).flatMap nC) ∧ Fr v.ownBlock.toList w w1 ∧ ∀ k, v1.ownBlock = some k → v.ownBlock = some k ∨ w.heap.size ≤ k := by
  obtain ⟨q1, n1, p1, rfl⟩ := own_form h
  obtain ⟨i0, hi0, hz0, hz1, hz2⟩ := info_parts infoInt
  generalize hT : pushL l x = T
  have HT := Lib.hid hT
  clear hT
  have hown2 := h.alloc (.cells #[.int .i64 (x : Int)] tI)
  have H := Lib.hid h
  clear h
  go_enter Tryz.func35, Tryz.ntmps35
  go_upto_region 2 with (at_builtin; refine wpList_append_lies _ rfl _ _ 86 rfl B tI i0 _ 1 8 Tryz.underlying86 hi0 hz0 hz1 hz2 rfl (by decide) _ _ _ rfl hown2 ⟨w.heap.size, 0, none⟩ 1 1 (nC x) rfl rfl (by have := news_of w (nC x) tI; simpa using this) (one_mem rfl) (by omega) (by unfold maxLen; omega) (by omega) (by simp; omega) (w.heap.size + 1) (by simp) ?_; intro gg cap w7 hown7 hgrow hat hlt7)
  have hr0 : w7.ownsRow B tI 1 (.slice (some ⟨gg, 0, none⟩) (l.length + 1) cap) (l ++ [x]).length ((l ++ [x]).flatMap nC) := by simpa using hown7
  have HF7 : Hid (Fr (Value.slice q1 n1 p1).ownBlock.toList w w7) := ((Fr.refl _ w).alloc _).grown hgrow (fun k hk => .inl (by
    have hk2 : (Value.slice q1 n1 p1).ownBlock = some k := hk
    rw [hk2]
    exact List.mem_singleton.2 rfl))
  have HAT : Hid (∀ k, (Value.slice (some ⟨gg, 0, none⟩) (l.length + 1) cap).ownBlock = some k → (Value.slice q1 n1 p1).ownBlock = some k ∨ w.heap.size ≤ k) := fun k hk => by
    cases hk
    rcases hat with h | h
    · exact .inl h
    · exact .inr (by show w.heap.size ≤ gg; omega)
  have HT2 : Hid (upL (l.length + 1) (l ++ [x]) l.length = T) := HT.out
  have HGG : Hid (∀ y ∈ [gg], y ∈ (Value.slice q1 n1 p1).ownBlock.toList ∨ w.heap.size ≤ y) := fun y hy => by
    rw [List.mem_singleton] at hy
    subst hy
    rcases HAT.out y rfl with h | h
    · refine .inl ?_
      rw [h]
      exact List.mem_singleton.2 rfl
    · exact .inr h
  obtain ⟨n, hn⟩ : ∃ n, l.length + 1 = n := ⟨_, rfl⟩
  have HLN : Hid ((l ++ [x]).length = n) := by
    show _ = _
    rw [List.length_append, ← hn]
    rfl
  have hn2 : l.length < n := by omega
  have hnb : n ≤ 65537 := by omega
  have hsub0 : IntKind.i64.wrap ((n : Int) - 1) = (l.length : Int) := by rw [IntKind.wrap_i64]; omega
  have HLE : Hid (l.length ≤ n) := by
    show _ ≤ _
    omega
  have HEQ := Lib.hid hn
  have hcast : ((l.length : Int) + 1) = (n : Int) := by omega
  rw [hn] at hr0 HAT HT2 ⊢
  clear hown7 hgrow hat hown2 HT
  go_wp2_with fail
  go_loopg [5] n (fun f jv wr => ∃ (j : Nat) (l' : List Nat), jv = .int .i64 (j : Int) ∧ j < l'.length ∧ l'.length = n ∧ j ≤ f ∧ upL f l' j = T ∧ wr.ownsRow B tI 1 (.slice (some ⟨gg, 0, none⟩) n cap) n (l'.flatMap nC) ∧ Fr [gg] w7 wr)
  case atStart => exact ⟨l.length, l ++ [x], rfl, by rw [HLN.out]; exact hn2, HLN.out, HLE.out, HT2.out, by rw [HLN.out] at hr0; exact hr0, Fr.refl _ _⟩
  case round =>
    obtain ⟨j, l', rfl, hj', hll, hjf, hup, hH, hf⟩ := hrel
    by_cases h0 : j = 0
    · have HU : Hid (l' = T) := by
        cases gk with
        | zero => exact hup
        | succ f => rw [upL, if_pos h0] at hup; exact hup
      have hd : decide ((0 : Int) < (j : Int)) = false := decide_eq_false (by omega)
      have HH := Lib.hid hH
      clear hup hH hcast hsub0
      go_wp2_with fail
      go_quiet (fail)
      go_wp2
      go_ret
      refine ⟨_, rfl, ?_, (HF7.out.trans hf HGG.out).drewN _, HAT.out⟩
      rw [← HU.out, hll]
      exact owns_fr HH.out ((Fr.refl [] wr).drewN _) (by simp)
    · obtain ⟨f, rfl⟩ : ∃ f, gk = f + 1 := ⟨gk - 1, by omega⟩
      obtain ⟨i, hi⟩ : ∃ i, (j - 1) / 2 = i := ⟨_, rfl⟩
      have hi1 : i < j := by omega
      have hi2 : i < l'.length := by omega
      have hsub : IntKind.i64.wrap ((j : Int) - 1) = (j : Int) - 1 := by rw [IntKind.wrap_i64]; omega
      have hquo : Int.tdiv ((j : Int) - 1) 2 = (i : Int) := by
        rw [show (j : Int) - 1 = ((j - 1 : Nat) : Int) by omega, ← hi]
        rfl
      have hqw : IntKind.i64.wrap (i : Int) = (i : Int) := by rw [IntKind.wrap_i64]; omega
      have hd : decide (0 < j) = true := decide_eq_true (by omega)
      have hjp : 0 < j := by omega
      have hjn : (j : Int) < (n : Int) := by omega
      have hin : (i : Int) < (n : Int) := by omega
      rw [upL, if_neg h0, hi] at hup
      have HUP := Lib.hid hup
      rw [← hll] at hH
      obtain ⟨g, c, e, hg, ci, fi⟩ := own_cellI hH hi2
      cases e
      obtain ⟨g, c, e, _, cj, fj⟩ := own_cellI hH hj'
      cases e
      have e1 : l'.getD j 0 = l'[j] := by rw [List.getD_eq_getElem?_getD, List.getElem?_eq_getElem hj']; rfl
      have e2 : l'.getD i 0 = l'[i] := by rw [List.getD_eq_getElem?_getD, List.getElem?_eq_getElem hi2]; rfl
      have hsw : (l'.set j l'[i]).set i l'[j] = swapL l' i j := by
        rw [List.set_comm _ _ (by omega : j ≠ i)]
        unfold swapL
        rw [e1, e2]
      rw [e1, e2] at HUP
      have HB : Hid (decide ((l'[j] : Int) < (l'[i] : Int)) = decide (l'[j] < l'[i])) := by show _ = _; simp
      have HROW := Lib.hid hH
      have HSW := Lib.hid hsw
      clear hup hi e1 e2 hH hsw
      generalize l'[j] = y at *
      generalize l'[i] = z at *
      go_wp2_with fail
      go_cut [27] (fun b wx => b = .bool (decide (y < z)) ∧ Fr [] wr wx)
      case first =>
        go_quiet (fail)
        go_wp2
        go_meet
        exact ⟨by first | rw [HB.out] | simp, (Fr.refl _ _).drewN _⟩
      case rest =>
        obtain ⟨rfl, h3⟩ := hcut
        have hf3 := hf.trans0 h3
        have hr3 := owns_fr HROW.out h3 (by simp)
        have ci2 := (h3.cell (p := ⟨gg, i, none⟩) hg (by simp)).trans ci
        have cj2 := (h3.cell (p := ⟨gg, j, none⟩) hg (by simp)).trans cj
        have fj2 := hr3.frozenAt j
        by_cases hyz : y < z
        · rw [if_pos hyz] at HUP
          rw [decide_eq_true hyz]
          obtain ⟨s1, _⟩ := hr3.stored j (.int .i64 (z : Int))
          obtain ⟨s2, _⟩ := s1.stored i (.int .i64 (y : Int))
          rw [← flat_set, ← flat_set, HSW.out] at s2
          have HS := Lib.hid s2
          obtain ⟨z0, hz0⟩ : ∃ z0, (wc.setCell ⟨gg, j, none⟩ (.int .i64 (z : Int))).cell? ⟨gg, i, none⟩ = some z0 := by
            rw [s1.cellAt i (by omega)]
            exact ⟨_, List.getElem?_eq_getElem (by rw [List.length_set, flat_len nC 1 (fun _ => rfl)]; omega)⟩
          have hzf := s1.frozenAt i
          have HF4 : Hid (Fr [gg] w7 ((wc.setCell ⟨gg, j, none⟩ (.int .i64 (z : Int))).setCell ⟨gg, i, none⟩ (.int .i64 (y : Int)))) := (hf3.setCell (.inl (by simp)) _).setCell (.inl (by simp)) _
          clear s1 s2 hr3 hf3 h3 ci cj hyz
          go_wp2_with fail
          go_region
          all_goals
            go_wp2
            go_roundg f
            case rel =>
              refine ⟨i, swapL l' i j, rfl, by rw [swapL_len]; exact hi2, by rw [swapL_len, hll], by omega, HUP.out, ?_, HF4.out.drew⟩
              have := owns_fr HS.out ((Fr.refl [] _).drew) (by simp)
              rw [hll] at this
              exact this
            case measure => omega
        · rw [if_neg hyz] at HUP
          rw [decide_eq_false hyz]
          have HR3 := Lib.hid hr3
          clear ci2 cj2 hr3 hyz
          go_wp2
          go_ret
          refine ⟨_, rfl, ?_, HF7.out.trans hf3 HGG.out, HAT.out⟩
          rw [← HUP.out]
          have := HR3.out
          rw [hll] at this ⊢
          exact this
end
section
open Go.RowKit Go.Shelf Go.Sort Go.Proofs

theorem downL_take : ∀ (f : Nat) (l : List Nat) (i n : Nat), i < n → n ≤ l.length → (downL f l i n).take n = downL f (l.take n) i n
  | 0, l, i, n, _, _ => rfl
  | f + 1, l, i, n, hi, hn => by
    have hg : ∀ k, k < n → (l.take n).getD k 0 = l.getD k 0 := fun k hk => by
      rw [List.getD_eq_getElem?_getD, List.getD_eq_getElem?_getD, List.getElem?_take_of_lt hk]
    rw [downL, downL]
    by_cases h0 : n ≤ 2 * i + 1
    · rw [if_pos h0, if_pos h0]
    · rw [if_neg h0, if_neg h0, hg i hi]
      have e : (if 2 * i + 2 < n ∧ (l.take n).getD (2 * i + 2) 0 < (l.take n).getD (2 * i + 1) 0 then 2 * i + 2 else 2 * i + 1) = (if 2 * i + 2 < n ∧ l.getD (2 * i + 2) 0 < l.getD (2 * i + 1) 0 then 2 * i + 2 else 2 * i + 1) := by
        by_cases h2 : 2 * i + 2 < n
        · rw [hg _ h2, hg _ (by omega)]
        · rw [if_neg (fun h => h2 h.1), if_neg (fun h => h2 h.1)]
      rw [e]
      have hJ : (if 2 * i + 2 < n ∧ l.getD (2 * i + 2) 0 < l.getD (2 * i + 1) 0 then 2 * i + 2 else 2 * i + 1) < n := by split <;> omega
      generalize (if 2 * i + 2 < n ∧ l.getD (2 * i + 2) 0 < l.getD (2 * i + 1) 0 then 2 * i + 2 else 2 * i + 1) = J at hJ
      rw [hg J hJ]
      have hs : (swapL l i J).take n = swapL (l.take n) i J := by
        unfold swapL
        rw [hg i hi, hg J hJ, List.take_set, List.take_set]
      split
      · rw [downL_take f _ J n hJ (by rw [swapL_len]; exact hn), hs]
      · rfl
/-- What pop tells and leaves is what the heap of Go's library does. -/
theorem popL_eq {l : List Nat} (h : 0 < l.length) : popL l = (downL (l.length - 1) ((l.set 0 (l.getD (l.length - 1) 0)).take (l.length - 1)) 0 (l.length - 1), l.getD 0 0) := by
  unfold popL
  obtain ⟨n, hn⟩ : ∃ n, l.length - 1 = n := ⟨_, rfl⟩
  rw [hn]
  have hs : (swapL l 0 n).take n = (l.set 0 (l.getD n 0)).take n := by
    unfold swapL
    rw [List.take_set_of_le (Nat.le_refl n)]
  by_cases h0 : n = 0
  · subst h0
    have hd : downL 0 (swapL l 0 0) 0 0 = swapL l 0 0 := rfl
    have hd2 : downL 0 ((l.set 0 (l.getD 0 0)).take 0) 0 0 = [] := rfl
    rw [hd, hd2]
    refine Prod.ext rfl ?_
    show (swapL l 0 0).getD 0 0 = l.getD 0 0
    rw [swapL_get h h, if_pos rfl]
  · refine Prod.ext ?_ ?_
    · show (downL n (swapL l 0 n) 0 n).take n = _
      rw [downL_take n _ 0 n (by omega) (by rw [swapL_len]; omega), hs]
    · show (downL n (swapL l 0 n) 0 n).getD n 0 = l.getD 0 0
      rw [downL_rest n _ 0 n n (by omega) (by rw [swapL_len]; omega) (Nat.le_refl _), swapL_get h (by omega), if_pos rfl]
theorem own_cellN {w : World} {B n g c : Nat} {l : List Nat} (h : w.ownsRow B tI 1 (.slice (some ⟨g, 0, none⟩) n c) n (l.flatMap nC)) (hn : l.length = n) {i : Nat} (hi : i < l.length) : w.cell? ⟨g, i, none⟩ = some (.int .i64 (l[i] : Int)) := by
  subst hn
  obtain ⟨_, _, e, _, h1, _⟩ := own_cellI h hi
  cases e
  exact h1
def PopPost (B : Nat) (v : Value) (l : List Nat) (w : World) (e : Ending) (w1 : World) : Prop := ∃ v1, e = .returned (.tuple #[.int .i64 ((popL l).2 : Int), v1]) ∧ w1.ownsRow B tI 1 v1 (popL l).1.length ((popL l).1.flatMap nC) ∧ Fr v.ownBlock.toList w w1 ∧ v1.ownBlock = v.ownBlock
theorem PopPost.of {B : Nat} {v : Value} {l T : List Nat} {y : Nat} {w : World} {e : Ending} {w1 : World} {v1 : Value} (hp : popL l = (T, y)) (he : e = .returned (.tuple #[.int .i64 (y : Int), v1])) (h : w1.ownsRow B tI 1 v1 T.length (T.flatMap nC)) (hf : Fr v.ownBlock.toList w w1) (hb : v1.ownBlock = v.ownBlock) : PopPost B v l w e w1 := by
  refine ⟨v1, ?_, ?_, hf, hb⟩
  · rw [hp]
    exact he
  · rw [hp]
    exact h
set_option maxRecDepth 100000 in
set_option maxHeartbeats 3200000 in
theorem rfPop (B : Nat) (v : Value) (l : List Nat) (w : World) (h : w.ownsRow B tI 1 v l.length (l.flatMap nC)) (hl : l.length ≤ 65536) (h0 : 0 < l.length) :
    Calls Tryz.prog 36 #[v] w (PopPost B v l w) := by
  obtain ⟨n, hn⟩ : ∃ n, l.length = n + 1 := ⟨l.length - 1, by omega⟩
  have hnl : n < l.length := by omega
  obtain ⟨g, c, e, hg, c0, f0⟩ := own_cellI h h0
  obtain ⟨_, _, e2, _, cn, _⟩ := own_cellI h hnl
  rw [e] at e2
  cases e2
  subst e
  have hcap := (own_sl h).form
  obtain ⟨_, _, ee, hc1, hc2⟩ := hcap
  cases ee
  obtain ⟨s1, _⟩ := h.stored 0 (.int .i64 (l[n] : Int))
  rw [← flat_set] at s1
  have s2 : (w.setCell ⟨g, 0, none⟩ (.int .i64 (l[n] : Int))).ownsRow B tI 1 (.slice (some ⟨g, 0, none⟩) n c) n (((l.set 0 l[n]).take n).flatMap nC) := own_take s1 (by omega) (flat_take nC 1 (fun _ => rfl) (l.set 0 l[n]) n)
  have hpe := popL_eq h0
  have eN : l.getD n 0 = l[n] := by rw [List.getD_eq_getElem?_getD, List.getElem?_eq_getElem hnl]; rfl
  have e0 : l.getD 0 0 = l[0] := by rw [List.getD_eq_getElem?_getD, List.getElem?_eq_getElem h0]; rfl
  rw [show l.length - 1 = n by omega, eN, e0] at hpe
  have hlen2 : ((l.set 0 l[n]).take n).length = n := by rw [List.length_take, List.length_set]; omega
  generalize (l.set 0 l[n]).take n = l2 at *
  generalize hT : downL n l2 0 n = T at hpe
  have HPE := Lib.hid hpe
  have HT := Lib.hid hT
  have HL2 := Lib.hid hlen2
  have HOWN := Lib.hid s2
  generalize l[n] = z at *
  generalize l[0] = y at *
  have hF0 : Fr [g] w (w.setCell ⟨g, 0, none⟩ (.int .i64 (z : Int))) := (Fr.refl _ w).setCell (.inl (by simp)) _
  have HF := Lib.hid hF0
  have hw1 : IntKind.i64.wrap ((n : Int) + 1 - 1) = (n : Int) := by rw [IntKind.wrap_i64]; omega
  have hn1 : (n : Int) < (n : Int) + 1 := by omega
  have hn2 : (0 : Int) < (n : Int) + 1 := by omega
  have hn3 : (n : Int) ≤ (c : Int) := by omega
  have hnb : n ≤ 65535 := by omega
  rw [hn] at *
  clear h s1 s2 hpe hT hlen2 hF0 hn hl h0 hnl eN e0
  go_enter Tryz.func36, Tryz.ntmps36
  go_upto_block 0 with fail
  clear hw1 hn1 hn2 hn3 c0 cn f0
  generalize w.setCell ⟨g, 0, none⟩ (.int .i64 (z : Int)) = W at *
  go_wp2_with fail
  go_loopg [6, 7] n (fun f iv kv wr => ∃ (i : Nat) (l' : List Nat), iv = .int .i64 (i : Int) ∧ l'.length = n ∧ i ≤ n ∧ (i < n ∨ n = 0) ∧ n ≤ i + f ∧ downL f l' i n = T ∧ wr.ownsRow B tI 1 (.slice (some ⟨g, 0, none⟩) n c) n (l'.flatMap nC) ∧ Fr [g] w wr)
  case atStart => exact ⟨0, l2, rfl, HL2.out, by omega, by omega, by omega, HT.out, HOWN.out, HF.out⟩
  case round =>
    obtain ⟨i, l', rfl, hll, hin, hi, hif, hdn, hH, hf⟩ := hrel
    obtain ⟨j1, hj1⟩ : ∃ j1, 2 * i + 1 = j1 := ⟨_, rfl⟩
    obtain ⟨j2, hj2⟩ : ∃ j2, 2 * i + 2 = j2 := ⟨_, rfl⟩
    have hib : i ≤ 65536 := by omega
    have hm1 : IntKind.i64.wrap (2 * (i : Int)) = 2 * (i : Int) := by rw [IntKind.wrap_i64]; omega
    have hm2 : IntKind.i64.wrap (2 * (i : Int) + 1) = (j1 : Int) := by rw [IntKind.wrap_i64]; omega
    have hm3 : IntKind.i64.wrap ((j1 : Int) + 1) = (j2 : Int) := by rw [IntKind.wrap_i64]; omega
    by_cases h0 : n ≤ j1
    · have HU : Hid (l' = T) := by
        cases gk with
        | zero => exact hdn
        | succ f => rw [downL, if_pos (by omega)] at hdn; exact hdn
      have hd1 : decide ((j2 : Int) < (n : Int)) = false := decide_eq_false (by omega)
      have hd1' : decide (j2 < n) = false := decide_eq_false (by omega)
      have hd2 : decide ((n : Int) ≤ (j1 : Int)) = true := decide_eq_true (by omega)
      have hd2' : decide (n ≤ j1) = true := decide_eq_true (by omega)
      have HH := Lib.hid hH
      have HLL := Lib.hid hll
      clear hdn hj1 hj2 hH hll
      go_upto_region 7 with fail
      go_quiet (fail)
      go_wp2_with fail
      go_quiet (fail)
      go_wp2
      go_ret2
      refine PopPost.of HPE.out rfl ?_ ((hf.drewN _).drewN _) rfl
      rw [← HU.out, HLL.out]
      exact owns_fr HH.out (((Fr.refl [] wr).drewN _).drewN _) (by simp)
    · obtain ⟨f, rfl⟩ : ∃ f, gk = f + 1 := ⟨gk - 1, by omega⟩
      rw [downL, hj1, hj2, if_neg h0] at hdn
      have hl1 : j1 < l'.length := by omega
      have hij : i < j1 := by omega
      have hij2 : i < j2 := by omega
      generalize hJ : (if j2 < n ∧ l'.getD j2 0 < l'.getD j1 0 then j2 else j1) = J at hdn
      have hJb : i < J ∧ J < l'.length := by
        rw [← hJ]
        split <;> omega
      obtain ⟨hJ1, hJ2⟩ := hJb
      have hi' : i < l'.length := by omega
      have HDN := Lib.hid hdn
      have HJ := Lib.hid hJ
      have HH := Lib.hid hH
      have HLL := Lib.hid hll
      have hif2 : n ≤ i + (f + 1) := hif
      have hn1 : n = l'.length := hll.symm
      clear hdn hJ hj1 hj2 hif hll hH
      go_upto_region 7 with fail
      clear hm1 hm2
      go_cut [42] from 26 to 42 (fun b wx => b = .bool (decide (j2 < n ∧ l'.getD j2 0 < l'.getD j1 0)) ∧ Fr [] wr wx)
      case first =>
        by_cases h2 : j2 < n
        · have hl2 : j2 < l'.length := by omega
          have HD : Hid (decide (l'[j2] < l'[j1]) = decide (j2 < n ∧ l'.getD j2 0 < l'.getD j1 0)) := by
            show _ = _
            rw [decide_eq_decide, List.getD_eq_getElem?_getD, List.getD_eq_getElem?_getD, List.getElem?_eq_getElem hl1, List.getElem?_eq_getElem hl2]
            exact ⟨fun h => ⟨h2, h⟩, fun h => h.2⟩
          have c1 := own_cellN HH.out HLL.out hl1
          have c2 := own_cellN HH.out HLL.out hl2
          have hj2n : (j2 : Int) < (n : Int) := by omega
          have hj1n : (j1 : Int) < (n : Int) := by omega
          have hd1 : decide ((j2 : Int) < (n : Int)) = true := decide_eq_true hj2n
          have hd1' : decide (j2 < n) = true := decide_eq_true h2
          have HB : Hid (decide ((l'[j2] : Int) < (l'[j1] : Int)) = decide (l'[j2] < l'[j1])) := by show _ = _; simp
          clear hn1
          generalize l'[j2] = x2 at *
          generalize l'[j1] = x1 at *
          go_quiet (fail)
          go_wp2
          go_meet
          exact ⟨by first | rw [← HD.out] | (rw [← HD.out, ← HB.out]), (Fr.refl _ _).drewN _⟩
        · have HD : Hid (decide (j2 < n ∧ l'.getD j2 0 < l'.getD j1 0) = false) := decide_eq_false fun h => h2 h.1
          have hd1 : decide ((j2 : Int) < (n : Int)) = false := decide_eq_false (by omega)
          have hd1' : decide (j2 < n) = false := decide_eq_false (by omega)
          clear hn1
          go_quiet (fail)
          go_wp2
          go_meet
          exact ⟨by rw [HD.out], (Fr.refl _ _).drewN _⟩
      case rest =>
        obtain ⟨rfl, h3⟩ := hcut
        have hH3 := Lib.hid (owns_fr HH.out h3 (by simp))
        have hf3 := hf.trans0 h3
        clear HH hf h3 hn1
        go_upto_if 42 with fail
        go_cut [7] from 42 to 44 (fun jv wx => jv = .int .i64 (J : Int) ∧ wx = wc)
        case first =>
          by_cases hc : j2 < n ∧ l'.getD j2 0 < l'.getD j1 0
          · rw [if_pos hc] at HJ
            rw [decide_eq_true hc]
            clear hc
            go_wp2
            go_meet
            exact ⟨by rw [HJ.out], rfl⟩
          · rw [if_neg hc] at HJ
            rw [decide_eq_false hc]
            clear hc
            go_wp2
            go_meet
            exact ⟨by rw [HJ.out], rfl⟩
        case rest =>
          obtain ⟨rfl, rfl⟩ := hcut
          have ci := own_cellN hH3.out HLL.out hi'
          have cJ := own_cellN hH3.out HLL.out hJ2
          have e1 : l'.getD J 0 = l'[J] := by rw [List.getD_eq_getElem?_getD, List.getElem?_eq_getElem hJ2]; rfl
          have e2 : l'.getD i 0 = l'[i] := by rw [List.getD_eq_getElem?_getD, List.getElem?_eq_getElem hi']; rfl
          have hJn : (J : Int) < (n : Int) := by have := HLL.out; omega
          have hin' : (i : Int) < (n : Int) := by have := HLL.out; omega
          have hd1 : decide ((n : Int) ≤ (J : Int)) = false := decide_eq_false (by omega)
          have hd1' : decide (n ≤ J) = false := decide_eq_false (by omega)
          have hsw : (l'.set i l'[J]).set J l'[i] = swapL l' i J := by
            unfold swapL
            rw [e1, e2]
          rw [e1, e2] at HDN
          have HSW := Lib.hid hsw
          clear e1 e2 hsw hm3
          by_cases hlt : l'[J] < l'[i]
          · rw [if_pos hlt] at HDN
            have hle1 : ¬ (l'[i] : Int) ≤ (l'[J] : Int) := by omega
            have hle2 : ¬ l'[i] ≤ l'[J] := by omega
            clear hlt
            generalize l'[i] = x at *
            generalize l'[J] = y2 at *
            go_wp2_with fail
            go_quiet (fail)
            have ci2 : (wc.drewN nq).cell? ⟨g, i, none⟩ = some (.int .i64 (x : Int)) := ci
            have cJ2 : (wc.drewN nq).cell? ⟨g, J, none⟩ = some (.int .i64 (y2 : Int)) := cJ
            have hr := owns_fr hH3.out ((Fr.refl [] wc).drewN nq) (by simp)
            have fi := hr.frozenAt i
            have fJ := hr.frozenAt J
            obtain ⟨s1, _⟩ := hr.stored i (.int .i64 (y2 : Int))
            obtain ⟨s2, _⟩ := s1.stored J (.int .i64 (x : Int))
            rw [← flat_set, ← flat_set, HSW.out] at s2
            have HS := Lib.hid s2
            obtain ⟨z0, hz0⟩ : ∃ z0, ((wc.drewN nq).setCell ⟨g, i, none⟩ (.int .i64 (y2 : Int))).cell? ⟨g, J, none⟩ = some z0 := by
              rw [s1.cellAt J (by omega)]
              exact ⟨_, List.getElem?_eq_getElem (by rw [List.length_set, flat_len nC 1 (fun _ => rfl)]; omega)⟩
            have hzf := s1.frozenAt J
            have HF4 : Hid (Fr [g] w (((wc.drewN nq).setCell ⟨g, i, none⟩ (.int .i64 (y2 : Int))).setCell ⟨g, J, none⟩ (.int .i64 (x : Int)))) := (((hf3.drewN nq).setCell (.inl (by simp)) _).setCell (.inl (by simp)) _)
            clear s1 s2 hr hf3 ci cJ hle1 hle2
            generalize wc.drewN nq = W2 at *
            go_wp2_with fail
            go_region
            all_goals
              go_wp2
              go_roundg f
              case rel =>
                refine ⟨J, swapL l' i J, rfl, by rw [swapL_len, HLL.out], by have := HLL.out; omega, by have := HLL.out; omega, by omega, HDN.out, ?_, HF4.out.drew⟩
                exact owns_fr HS.out ((Fr.refl [] _).drew) (by simp)
              case measure => omega
          · rw [if_neg hlt] at HDN
            have hle1 : (l'[i] : Int) ≤ (l'[J] : Int) := by omega
            have hle2 : l'[i] ≤ l'[J] := by omega
            clear hlt HSW
            generalize l'[i] = x at *
            generalize l'[J] = y2 at *
            go_wp2_with fail
            go_quiet (fail)
            go_wp2
            go_ret2
            refine PopPost.of HPE.out rfl ?_ (hf3.drewN _) rfl
            have h1 := owns_fr hH3.out ((Fr.refl [] wc).drewN nq) (by simp)
            rw [← HDN.out, HLL.out]
            exact h1
end
section
open Go.RowKit Go.Shelf Go.Sort Go.Proofs

/-- The order's state in memory. -/
structure OJ (W0 : World) (Lf B n : Nat) (spots : List Sp) (s : OS) (hv ov : Value) (w : World) : Prop where
  lf : w.rowIs Lf tI n fun i => .int .i64 (s.waits i : Int)
  hp : w.ownsRow B tI 1 hv s.heap.length (s.heap.flatMap nC)
  out : w.ownsRow B tSp 2 ov s.out.length ((spotsOf spots s.out).flatMap spC)
  fr : Fr [Lf] W0 w
  sz : B ≤ w.heap.size
  lo : Lf < B
  w0 : W0.heap.size = B
section
variable {W0 w w1 : World} {Lf B n : Nat} {spots : List Sp} {s : OS} {hv ov : Value}
theorem OJ.fr0 (h : OJ W0 Lf B n spots s hv ov w) (hf : Fr [] w w1) : OJ W0 Lf B n spots s hv ov w1 :=
  ⟨row_fr h.lf hf (by simp), owns_fr h.hp hf (by simp), owns_fr h.out hf (by simp), h.fr.trans0 hf, Nat.le_trans h.sz hf.size, h.lo, h.w0⟩
theorem OJ.putLf (h : OJ W0 Lf B n spots s hv ov w) (v c : Nat) : OJ W0 Lf B n spots { s with waits := upd s.waits v c } hv ov (w.setCell ⟨Lf, v, none⟩ (.int .i64 (c : Int))) :=
  ⟨(h.lf.set v _).congr fun i _ => by simp only [upd]; split <;> rfl, owns_fr h.hp (fr_cell w Lf v _) (own_low h.hp h.lo), owns_fr h.out (fr_cell w Lf v _) (own_low h.out h.lo), h.fr.transS (fr_cell w Lf v _), by simpa using h.sz, h.lo, h.w0⟩
theorem OJ.putHp (h : OJ W0 Lf B n spots s hv ov w) {hv2 : Value} {l : List Nat} (ho : w1.ownsRow B tI 1 hv2 l.length (l.flatMap nC)) (hf : Fr hv.ownBlock.toList w w1) : OJ W0 Lf B n spots { s with heap := l } hv2 ov w1 :=
  ⟨row_fr h.lf hf (low_not h.hp h.lo), ho, owns_fr h.out hf (own_not h.out h.hp (by decide)), h.fr.trans hf (fun x hx => .inr (by rw [h.w0]; exact (h.hp.lt x (by simpa using hx)).1)), Nat.le_trans h.sz hf.size, h.lo, h.w0⟩
theorem OJ.putOut (h : OJ W0 Lf B n spots s hv ov w) {ov2 : Value} {o : List Nat} (ho : w1.ownsRow B tSp 2 ov2 o.length ((spotsOf spots o).flatMap spC)) (hg : w.grownBy w1 ov.ownBlock) : OJ W0 Lf B n spots { s with out := o } hv ov2 w1 :=
  ⟨row_fr h.lf (fr_grown hg) (low_not h.out h.lo), owns_fr h.hp (fr_grown hg) (own_not h.hp h.out (by decide)), ho, h.fr.trans (fr_grown hg) (fun x hx => .inr (by rw [h.w0]; exact (h.out.lt x (by simpa using hx)).1)), Nat.le_trans h.sz (fr_grown hg).size, h.lo, h.w0⟩
theorem OJ.congr (h : OJ W0 Lf B n spots s hv ov w) {s2 : OS} (hw : ∀ i, i < n → s.waits i = s2.waits i) (hh : s.heap = s2.heap) (ho : s.out = s2.out) : OJ W0 Lf B n spots s2 hv ov w :=
  ⟨h.lf.congr fun i hi => by rw [hw i hi], hh ▸ h.hp, ho ▸ h.out, h.fr, h.sz, h.lo, h.w0⟩
end
theorem startO_succ (g : Dg) (k : Nat) : (startO g (k + 1)).heap = (if nxs g k = [] then pushL (startO g k).heap k else (startO g k).heap) := by
  simp only [startO, List.range_succ, List.foldl_append, List.foldl_cons, List.foldl_nil]
theorem startH_len (g : Dg) : ∀ k, (startO g k).heap.length ≤ k := fun k => by
  have h1 := startH_nodup g k
  exact nodup_lt h1 fun x hx => ((startH_mem g k x).1 hx).1
theorem OrderRes.err {ns : List Nd} {w w1 : World} {e : Ending} (h0 : madeE ns ≠ 0) (he : e = .returned (.tuple #[.slice none 0 0, .int .i64 (madeE ns)])) (hf : Fr [] w w1) : OrderRes ns w e w1 := by
  refine ⟨.slice none 0 0, ?_, ?_, hf⟩
  · unfold ordE
    rw [if_neg h0]
    exact he
  · unfold ordL
    rw [if_neg h0]
    exact World.ownsRow_nil _ _ _ _
theorem OrderRes.stuck {ns : List Nd} {w w1 : World} {e : Ending} (h0 : madeE ns = 0) (h1 : (orderT (gNx ns)).length < (gSp ns).length) (he : e = .returned (.tuple #[.slice none 0 0, .int .i64 3])) (hf : Fr [] w w1) : OrderRes ns w e w1 := by
  refine ⟨.slice none 0 0, ?_, ?_, hf⟩
  · unfold ordE
    rw [if_pos h0, if_pos h1]
    exact he
  · unfold ordL
    rw [if_pos h0, if_pos h1]
    exact World.ownsRow_nil _ _ _ _
theorem OrderRes.all {ns : List Nd} {w w1 : World} {e : Ending} {sv : Value} (h0 : madeE ns = 0) (h1 : ¬ (orderT (gNx ns)).length < (gSp ns).length) (he : e = .returned (.tuple #[sv, .int .i64 0])) (h2 : w1.ownsRow w.heap.size tSp 2 sv (orderT (gNx ns)).length ((spotsOf (gSp ns) (orderT (gNx ns))).flatMap spC)) (hf : Fr [] w w1) : OrderRes ns w e w1 := by
  refine ⟨sv, ?_, ?_, hf⟩
  · unfold ordE
    rw [if_pos h0, if_neg h1]
    exact he
  · unfold ordL
    rw [if_pos h0, if_neg h1]
    have hl : (spotsOf (gSp ns) (orderT (gNx ns))).length = (orderT (gNx ns)).length := by simp [spotsOf]
    rw [hl]
    exact h2
set_option maxRecDepth 100000 in
set_option maxHeartbeats 6400000 in
theorem rfOrderC (v : Value) (ns : List Nd) (w : World) (hv : NodesAt w v ns) (hB : ns.length + tot ns ≤ 4194304) : Calls Tryz.prog 12 #[v] w (OrderRes ns w) := by
  have HV := Lib.hid hv
  obtain ⟨vq, vc, rfl, hv1, hv2⟩ := hv.row.form
  obtain ⟨i0, hi0, hz0, hz1, hz2⟩ := info_parts infoSpot
  clear hv
  go_enter Tryz.func12, Tryz.ntmps12
  go_wp2_with fail
  refine (rfGraph _ ns w HV.out hB).mono ?_
  rintro e w1 ⟨hf1, ⟨h0, rfl⟩ | ⟨h0, G, rfl, hG⟩⟩
  · have hne : (madeE ns != 0) = true := by simpa using h0
    have hne2 : ¬ madeE ns = 0 := h0
    have HM : Hid (∀ E, E = madeE ns → ∀ w1, Fr [] w w1 → OrderRes ns w (.returned (.tuple #[.slice none 0 0, .int .i64 E])) w1) := fun E hE w1 hf => by
      subst hE
      exact OrderRes.err h0 rfl hf
    clear h0
    generalize hE : madeE ns = E at *
    have HEE := Lib.hid hE
    clear hE
    go_wp2
    go_ret2
    exact HM.out _ rfl _ hf1
  · have H0 := Lib.hid h0
    have HF1 := Lib.hid hf1
    have hmo := made_ok h0
    have hlen : (gSp ns).length = (gNx ns).length := by rw [gNx_len, gSp_len]
    have hgl : (gSp ns).length ≤ 65536 := by rw [gSp_len]; exact hmo.1
    have HN : Hid (OkN (gNx ns)) := gNx_nd ns
    have HFO := Lib.hid (gFr_ok (made_nd h0))
    have HO := Lib.hid (gNx_ok ns)
    have HNON : Hid ((orderT (gNx ns)).length < (gSp ns).length → ∀ {w1 : World}, Fr [] w w1 → OrderRes ns w (.returned (.tuple #[.slice none 0 0, .int .i64 3])) w1) := fun h w1 hf => OrderRes.stuck h0 h rfl hf
    have HALL : Hid (¬ (orderT (gNx ns)).length < (gSp ns).length → ∀ {w1 : World} {sv : Value}, w1.ownsRow w.heap.size tSp 2 sv (orderT (gNx ns)).length ((spotsOf (gSp ns) (orderT (gNx ns))).flatMap spC) → Fr [] w w1 → OrderRes ns w (.returned (.tuple #[sv, .int .i64 0])) w1) := fun h w1 sv h2 hf => OrderRes.all h0 h rfl h2 hf
    have HG := Lib.hid hG
    obtain ⟨av, tv, fv, hbx, hav, htv, hfv⟩ := hG.ex
    obtain ⟨aq, ac, rfl, ha1, ha2⟩ := hav.form
    obtain ⟨tq, tc, rfl, htc1, htc2⟩ := htv.form
    obtain ⟨fq, fc, rfl, hfc1, hfc2⟩ := hfv.form
    have HBX := Lib.hid hbx
    have HAV := Lib.hid hav
    have HTV := Lib.hid htv
    have HFV := Lib.hid hfv
    have HLEN := Lib.hid hlen
    clear hG h0 hf1 hmo hbx hav htv hfv hlen ha1 ha2 htc1 htc2 hfc1 hfc2 HG
    generalize gSp ns = spots at *
    generalize gNx ns = g at *
    generalize gFr ns = F at *
    have b0 := cell_of HBX.out 0
    have hGl := lt_of HBX.out
    have hmk := mkI spots.length (by omega)
    go_upto_block 0 with fail
    clear hmk b0
    have hrow := heap_new w1 (.cells (Array.replicate spots.length (.int .i64 0)) tI)
    have hF2 : Fr [] w1 (w1.alloc (.cells (Array.replicate spots.length (.int .i64 0)) tI)) := (Fr.refl [] w1).alloc _
    have hsz : (w1.alloc (.cells (Array.replicate spots.length (.int .i64 0)) tI)).heap.size = w1.heap.size + 1 := by simp
    generalize w1.alloc (.cells (Array.replicate spots.length (.int .i64 0)) tI) = W0 at *
    have hw1 := HF1.out.size
    have HF2 := Lib.hid hF2
    have HST : Hid (∀ {u : World}, Fr [w1.heap.size] W0 u → Fr [] w1 u) := fun {u} hf => HF2.out.trans hf (fun x hx => .inr (by rw [List.mem_singleton] at hx; omega))
    generalize hLfe : w1.heap.size = Lf at *
    have HLFE := Lib.hid hLfe
    clear hLfe
    have hJ0 : OJ W0 Lf (Lf + 1) spots.length spots ⟨fun _ => 0, [], []⟩ (.slice none 0 0) (.slice none 0 0) W0 := ⟨row_new hrow, World.ownsRow_nil _ _ _ _, World.ownsRow_nil _ _ _ _, Fr.refl _ _, by omega, by omega, hsz⟩
    have HJ0 := Lib.hid hJ0
    clear hJ0 hrow hF2
    go_cut [7] (fun hv wx => OJ W0 Lf (Lf + 1) spots.length spots (startO g g.length) hv (.slice none 0 0) wx)
    case first =>
      go_wp2_with fail
      go_loopw [7, 8] (fun hv iv wr => ∃ k : Nat, iv = .int .i64 (k : Int) ∧ k ≤ spots.length ∧ OJ W0 Lf (Lf + 1) spots.length spots (startO g k) hv (.slice none 0 0) wr) (fun _ iv _ => spots.length - (intOf iv).toNat)
      case atStart => exact ⟨0, rfl, by omega, HJ0.out.congr (fun i _ => by simp [startO]) rfl rfl⟩
      case round =>
        obtain ⟨k, rfl, hk, hJ⟩ := hrel
        have HJ := Lib.hid hJ
        clear hJ HJ0
        have hfw := HST.out HJ.out.fr
        have hbw := hfw.heap HBX.out (by simp)
        have b0 := cell_of hbw 0
        have b1 := cell_of hbw 1
        have hGw := lt_of hbw
        clear hbw
        by_cases hlt : k < spots.length
        · have hk1 : (k : Int) < (spots.length : Int) := by omega
          have hkg : k < g.length := by have := HLEN.out; omega
          have hkg1 : (k : Int) < (g.length : Int) := by omega
          obtain ⟨tb, t1, _, u, e, htb, d0, hu⟩ := HTV.out.cell hkg
          cases e
          rw [← nxs_get hkg] at hu
          obtain ⟨uq, uc, rfl, hu1, hu2⟩ := hu.form
          have d0' := ce_call hfw d0
          have htb' := Nat.lt_of_lt_of_le htb hfw.size
          have l0 := HJ.out.lf.cell hlt
          have lz := HJ.out.lf.frozen k
          have ll := HJ.out.lf.lt
          have hJ1 := (HJ.out.putLf k (nxs g k).length).congr (s2 := ⟨(startO g (k + 1)).waits, (startO g k).heap, []⟩) (fun i _ => by
            show upd (startO g k).waits k (nxs g k).length i = _
            simp only [upd, startO]
            by_cases e : i = k
            · rw [if_pos e, if_pos (by omega), e]
            · rw [if_neg e]
              by_cases h2 : i < k
              · rw [if_pos h2, if_pos (by omega)]
              · rw [if_neg h2, if_neg (by omega)]) rfl rfl
          have HJ1 := Lib.hid hJ1
          have HSU := Lib.hid (startO_succ g k)
          have HSL := Lib.hid (startH_len g k)
          have lS := hJ1.lf.cell hlt
          have hwt : (startO g (k + 1)).waits k = (nxs g k).length := by simp [startO]
          simp only [hwt] at lS
          have hll : Lf < (wr.setCell ⟨Lf, k, none⟩ (.int .i64 ((nxs g k).length : Int))).heap.size := hJ1.lf.lt
          have HNL : Hid (nxs g k = [] ↔ (nxs g k).length = 0) := List.length_eq_zero_iff.symm
          clear hu d0 htb hfw hJ1 hwt
          generalize hnl : (nxs g k).length = nl at *
          have HNLe := Lib.hid hnl
          clear hnl
          go_upto_region 10 with fail
          clear b0 b1 hGw d0' htb' l0 lz ll
          generalize wr.setCell ⟨Lf, k, none⟩ (.int .i64 (nl : Int)) = W1 at *
          by_cases hz : nl = 0
          · subst hz
            have hnil := HNL.out.2 rfl
            have HHP : Hid ((startO g (k + 1)).heap = pushL (startO g k).heap k) := by
              show _ = _
              rw [HSU.out, if_pos hnil]
            have hsz1 := HJ1.out.sz
            have hl1 : (startO g k).heap.length ≤ 65536 := by have := HSL.out; omega
            have hbe : (((0 : Nat) : Int) == 0) = true := rfl
            simp only [show ((0 : Nat) : Int) = 0 from rfl] at lS ⊢
            clear hnil
            go_wp2_with fail
            refine (rfPut (Lf + 1) _ (startO g k).heap k W1 HJ1.out.hp hl1 hsz1).mono ?_
            rintro e w5 ⟨hv5, rfl, ho5, hf5, _⟩
            have HJ5 := Lib.hid ((HJ1.out.putHp ho5 hf5).congr (s2 := startO g (k + 1)) (fun i _ => rfl) HHP.out.symm rfl)
            clear ho5 hf5
            go_wp2
            go_roundw
            case rel => exact ⟨k + 1, by go_num, by omega, HJ5.out⟩
            case measure => simp [intOf]; omega
          · have hbe : ((nl : Int) == 0) = false := by rw [beq_eq_false_iff_ne]; omega
            have hbe2 : ¬ (nl : Int) = 0 := by omega
            have HHP : Hid ((startO g k).heap = (startO g (k + 1)).heap) := by
              show _ = _
              rw [HSU.out, if_neg (fun h => hz (HNL.out.1 h))]
            have HJ5 := Lib.hid (HJ1.out.congr (s2 := startO g (k + 1)) (fun i _ => rfl) HHP.out rfl)
            clear hz
            go_wp2
            go_roundw
            case rel => exact ⟨k + 1, by go_num, by omega, HJ5.out⟩
            case measure => simp [intOf]; omega
        · obtain rfl : k = spots.length := by omega
          have hJ5 := HJ.out
          rw [show startO g spots.length = startO g g.length by rw [HLEN.out]] at hJ5
          have HJ5 := Lib.hid hJ5
          clear hJ5
          go_wp2
          go_meet
          exact HJ5.out
    case rest =>
      have hJS := hcut
      have HOK0 := Lib.hid (start_okO g)
      have HHP0 := Lib.hid (startH_hp g g.length)
      have HGR0 := Lib.hid (Greedy.nil g)
      have HJS := Lib.hid hJS
      clear hcut hJS HJ0
      go_wp2_with fail
      go_loopg [7, 9] (g.length + 1) (fun f hv ov wr => ∃ s : OS, OkO g s.out 0 [] s ∧ Hp s.heap ∧ Greedy g s.out ∧ g.length < s.out.length + f ∧ OJ W0 Lf (Lf + 1) spots.length spots s hv ov wr)
      case atStart => exact ⟨startO g g.length, HOK0.out, HHP0.out, HGR0.out, by show g.length < 0 + (g.length + 1); omega, HJS.out⟩
      case round =>
        clear HOK0 HHP0 HGR0 HJS
        obtain ⟨s, hok, hhp, hgr, hfu, hJ⟩ := hrel
        have hhl := hok.heap_len
        have hsg : s.heap.length ≤ 65536 := by have := HLEN.out; omega
        have hog : s.out.length ≤ 65536 := by have := HLEN.out; omega
        have HJ := Lib.hid hJ
        have HOK := Lib.hid hok
        have HHP := Lib.hid hhp
        have HGR := Lib.hid hgr
        obtain ⟨hq, hc, rfl, _, _⟩ := (own_sl hJ.hp).form
        have hfw := HST.out hJ.fr
        have hbw := hfw.heap HBX.out (by simp)
        have b0 := cell_of hbw 0
        have b2 := cell_of hbw 2
        have hGw := lt_of hbw
        clear hJ hok hhp hgr hbw
        by_cases h0 : s.heap.length = 0
        · have hnil : s.heap = [] := List.eq_nil_of_length_eq_zero h0
          have HSAME := Lib.hid (order_same HN.out HOK.out hnil HGR.out)
          obtain ⟨oq, on, oc, rfl⟩ := own_form HJ.out.out
          have hon : on = s.out.length := by
            obtain ⟨_, _, e, _, _⟩ := (own_sl HJ.out.out).form
            cases e
            rfl
          subst hon
          have HO2 : Hid (wr.ownsRow w.heap.size tSp 2 (.slice oq s.out.length oc) s.out.length ((spotsOf spots s.out).flatMap spC)) := owns_mono HJ.out.out (by have := HLFE.out; omega)
          have HFW := Lib.hid (HF1.out.trans0 hfw)
          clear hnil HJ hfw hhl
          rw [h0]
          rw [← HSAME.out] at HNON HALL
          generalize s.out = o at *
          clear HSAME HOK h0 hsg
          by_cases hlt : o.length < spots.length
          · have hlt1 : (o.length : Int) < (spots.length : Int) := by omega
            have HNON2 := Lib.hid (HNON.out hlt HFW.out)
            clear HNON HALL hlt
            go_wp2
            go_ret2
            exact HNON2.out
          · have hlt1 : ¬ (o.length : Int) < (spots.length : Int) := by omega
            have HALL2 := Lib.hid (HALL.out hlt HO2.out HFW.out)
            clear HNON HALL hlt
            go_wp2
            go_ret2
            exact HALL2.out
        · obtain ⟨f, rfl⟩ : ∃ f, gk = f + 1 := ⟨gk - 1, by omega⟩
          have hpos : 0 < s.heap.length := by omega
          have hpos1 : (0 : Int) < (s.heap.length : Int) := by omega
          have hne : s.heap ≠ [] := List.length_pos_iff.1 hpos
          have HDK := Lib.hid (fun k => decF_ok HN.out HFO.out HOK.out hne k)
          have HDH := Lib.hid (fun k => decF_hp (F := F) HHP.out hne k)
          have HDE := Lib.hid (decF_end HN.out HFO.out HOK.out hne HHP.out HGR.out)
          have hvl := (HDK.out 0).2.2.2
          have HDS := Lib.hid (fun k hk => decF_succ F s (k := k) hk)
          clear h0 hne HHP HGR
          go_wp2_with fail
          refine (rfPop (Lf + 1) _ s.heap wr HJ.out.hp hsg hpos).mono ?_
          rintro e w5 ⟨hv5, rfl, ho5, hf5, _⟩
          have hJ5 := HJ.out.putHp ho5 hf5
          have HJ5 := Lib.hid hJ5
          clear ho5 hf5 HJ b0 b2 hGw hfw hpos hpos1 hhl
          have hfw := HST.out hJ5.fr
          have hbw := hfw.heap HBX.out (by simp)
          have b0 := cell_of hbw 0
          have hGw := lt_of hbw
          have hB5 := hJ5.sz
          generalize hve : (popL s.heap).2 = v at *
          have HVE := Lib.hid hve
          have hvs : v < spots.length := by have := HLEN.out; omega
          have hvs1 : (v : Int) < (spots.length : Int) := by omega
          obtain ⟨ab, ao, _, e, hab, a0, a1⟩ := spots_cell (HAV.out.fr0 hfw) hvs
          cases e
          have HSV : Hid (spotsOf spots (s.out ++ [v]) = spotsOf spots s.out ++ [spots[v]]) := by
            show _ = _
            unfold spotsOf
            rw [List.map_append, List.map_cons, List.map_nil, List.getD_eq_getElem?_getD, List.getElem?_eq_getElem hvs]
            rfl
          clear hJ5 hbw hve hfw
          generalize spots[v] = sp at *
          have hown := HJ5.out.out.alloc (.cells #[.int .i64 sp.1, .int .i64 sp.2] tSp)
          obtain ⟨oq, on, oc, rfl⟩ := own_form hown
          simp only at hown
          go_upto_block 4 with (at_builtin; refine wpList_append_own _ rfl _ _ 28 rfl (Lf + 1) tSp i0 _ 2 16 Tryz.underlying28 hi0 hz0 hz1 hz2 rfl (by decide) _ _ _ rfl hown ⟨w5.heap.size, 0, none⟩ 1 1 [.int .i64 sp.1, .int .i64 sp.2] rfl rfl (by have := news_of w5 [.int .i64 sp.1, .int .i64 sp.2] tSp; simpa using this) (fun x hx => by simp at hx; rcases hx with rfl | rfl <;> rfl) (by unfold maxLen; omega) (by omega) (by simp; omega) ?_; intro ov9 w9 hown9 hgrow _)
          have HJ9 : Hid (OJ W0 Lf (Lf + 1) spots.length spots (decF F s 0) hv5 ov9 w9) := by
            have h1 := (HJ5.out.fr0 ((Fr.refl [] w5).alloc (.cells #[.int .i64 sp.1, .int .i64 sp.2] tSp))).putOut (o := s.out ++ [v]) (ov2 := ov9) (w1 := w9) (by
              rw [HSV.out, List.flatMap_append]
              simpa using hown9) hgrow
            have h2 := h1.congr (s2 := decF F s 0) (fun i _ => rfl) rfl (by
              show s.out ++ [v] = (decF F s 0).out
              exact (HDK.out 0).2.1.symm)
            exact h2
          clear hown hown9 hgrow HJ5 b0 hGw a0 a1 hab HSV hB5
          have hvF : v < F.length := by rw [HFO.out.len]; have := HLEN.out; omega
          have hvF1 : (v : Int) < (F.length : Int) := by omega
          obtain ⟨fb, fo, _, u, e, hfb, d0, hu⟩ := HFV.out.cell hvF
          cases e
          rw [← nxs_get hvF] at hu
          obtain ⟨uq, uc, rfl, hu1, hu2⟩ := hu.form
          have HU := Lib.hid hu
          clear hu
          go_wp2_with fail
          go_loopw [7, 11] (fun hv kv wx => ∃ k : Nat, kv = .int .i64 (k : Int) ∧ k ≤ (nxs F v).length ∧ OJ W0 Lf (Lf + 1) spots.length spots (decF F s k) hv ov9 wx) (fun _ kv _ => (nxs F v).length - (intOf kv).toNat)
          case atStart => exact ⟨0, rfl, by omega, HJ9.out⟩
          case round =>
            obtain ⟨k, rfl, hk, hJ⟩ := hrel
            have HJ := Lib.hid hJ
            have hfw := HST.out hJ.fr
            have hbw := hfw.heap HBX.out (by simp)
            have b2 := cell_of hbw 2
            have hGw := lt_of hbw
            have d0' := ce_call hfw d0
            have hfb' := Nat.lt_of_lt_of_le hfb hfw.size
            obtain ⟨hq2, hn2, hc2, rfl⟩ := own_form hJ.hp
            clear hJ hbw HJ9
            by_cases hkl : k < (nxs F v).length
            · have hk1 : (k : Int) < ((nxs F v).length : Int) := by omega
              obtain ⟨ub, uo, _, e, hub, dc⟩ := (HU.out.fr0 hfw).cell (by omega)
              cases e
              have d1 := dc k (.int .i64 ((nxs F v)[k] : Int)) (by
                have := flat_get nC 1 (fun _ => rfl) (nxs F v) k 0 hkl (by omega)
                simpa using this)
              obtain ⟨hok1, hou1, hwt1, _⟩ := HDK.out k
              obtain ⟨hwp, hyg⟩ := hwt1 hkl
              have HDS2 := Lib.hid (HDS.out k hkl)
              have hwb : (decF F s k).waits (nxs F v)[k] ≤ 65536 := by
                rw [hok1.wt _ hyg]
                refine Nat.le_trans (List.length_filter_le _ _) ?_
                have := nodup_lt (HN.out (nxs F v)[k]) (fun x hx => HO.out.nx hx)
                have := HLEN.out
                omega
              have hhl2 : (decF F s k).heap.length ≤ 65536 := by
                have := hok1.heap_len
                have := HLEN.out
                omega
              have hys : (nxs F v)[k] < spots.length := by have := HLEN.out; omega
              clear hok1 hou1 hwt1 dc hfw
              generalize hyy : (nxs F v)[k] = y at *
              clear hyy
              have hys1 : (y : Int) < (spots.length : Int) := by omega
              have l0 := HJ.out.lf.cell hys
              have lz := HJ.out.lf.frozen y
              have ll := HJ.out.lf.lt
              obtain ⟨c, hc⟩ : ∃ c, (decF F s k).waits y = c + 1 := ⟨(decF F s k).waits y - 1, by omega⟩
              simp only [hc] at l0
              rw [show ((c + 1 : Nat) : Int) = (c : Int) + 1 by omega] at l0
              have hw1' : IntKind.i64.wrap (c : Int) = (c : Int) := by rw [IntKind.wrap_i64]; omega
              have hJ1 := HJ.out.putLf y c
              have l1 := hJ1.lf.cell hys
              simp only [upd_same] at l1
              have hl1 : Lf < (wr.setCell ⟨Lf, y, none⟩ (.int .i64 (c : Int))).heap.size := hJ1.lf.lt
              have HJ1 := Lib.hid hJ1
              have HC := Lib.hid hc
              clear hJ1 hwp hwb
              clear hc
              go_upto_region 22 with fail
              clear l0 lz ll hw1' b2 hGw d0' hfb' hub d1
              generalize wr.setCell ⟨Lf, y, none⟩ (.int .i64 (c : Int)) = W1 at *
              by_cases hz : c = 0
              · subst hz
                have HNX : Hid (decF F s (k + 1) = { waits := upd (decF F s k).waits y 0, heap := pushL (decF F s k).heap y, out := (decF F s k).out }) := by
                  show _ = _
                  rw [HDS2.out]
                  unfold dec1
                  rw [HC.out]
                  rfl
                have hsz1 := HJ1.out.sz
                have hbe : (((0 : Nat) : Int) == 0) = true := rfl
                simp only [show ((0 : Nat) : Int) = 0 from rfl] at l1 ⊢
                go_wp2_with fail
                refine (rfPut (Lf + 1) _ (decF F s k).heap y W1 HJ1.out.hp hhl2 hsz1).mono ?_
                rintro e w6 ⟨hv6, rfl, ho6, hf6, _⟩
                have HJ6 : Hid (OJ W0 Lf (Lf + 1) spots.length spots (decF F s (k + 1)) hv6 ov9 w6) := by
                  show OJ _ _ _ _ _ _ _ _ _
                  rw [HNX.out]
                  exact HJ1.out.putHp ho6 hf6
                clear ho6 hf6
                go_wp2
                go_roundw
                case rel => exact ⟨k + 1, by go_num, by omega, HJ6.out⟩
                case measure => simp [intOf]; omega
              · have hbe : ((c : Int) == 0) = false := by rw [beq_eq_false_iff_ne]; omega
                have hbe2 : ¬ (c : Int) = 0 := by omega
                have HJ6 : Hid (OJ W0 Lf (Lf + 1) spots.length spots (decF F s (k + 1)) (.slice hq2 hn2 hc2) ov9 W1) := by
                  show OJ _ _ _ _ _ _ _ _ _
                  have e : decF F s (k + 1) = { waits := upd (decF F s k).waits y c, heap := (decF F s k).heap, out := (decF F s k).out } := by
                    rw [HDS2.out]
                    unfold dec1
                    rw [HC.out, if_neg (by omega)]
                    rfl
                  rw [e]
                  exact HJ1.out
                clear hz
                go_wp2
                go_roundw
                case rel => exact ⟨k + 1, by go_num, by omega, HJ6.out⟩
                case measure => simp [intOf]; omega
            · obtain rfl : k = (nxs F v).length := by omega
              have HJ2 := HJ
              obtain ⟨he1, he2⟩ := HDE.out
              have HE1 := Lib.hid he1
              have HE2 := Lib.hid he2
              have HE3 := Lib.hid (HDH.out (nxs F v).length)
              have HE4 := Lib.hid (HDK.out (nxs F v).length).2.1
              clear he1 he2 hfw HDE HDH HDK HDS
              generalize decF F s (nxs F v).length = s2 at *
              generalize (nxs F v).length = nm at *
              go_wp2
              go_roundg f
              case rel => exact ⟨s2, HE1.out, HE3.out, HE2.out, by rw [HE4.out]; simp; omega, HJ2.out⟩
              case measure => omega
end
end Go.Proofs.YtdlpbpohbkcafaaGreat
