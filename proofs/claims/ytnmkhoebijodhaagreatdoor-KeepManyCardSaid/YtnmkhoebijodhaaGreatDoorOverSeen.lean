/-
  (*Table[T]).over at quadrille/trace.seen.
-/
import Derived.Test.YtnmkhoebijodhaaGreatDoorOver
namespace Go.Proofs.YtnmkhoebijodhaaGreatDoor
open Go.RowKit

theorem infoRowSeen : (Tryz.prog.info? 372).map (fun i => (i.zero, i.size, i.bytes)) = some (some (.agg #[.int .i64 0, .int .i64 0, .int .i64 0, .int .i64 0, .string ⟨#[]⟩, .slice none 0 0]), 6, 72) := by kernel_rfl
theorem zeroOSeen (w : World) : (zeroValue 138).run Tryz.prog w = .ok (Seen.val seen0) w := by kernel_rfl

section
attribute [local go_sem] ob_alloc ob_alloc2 ob_alloc3 ob_alloc4 ob_drew ob_drewN ob_setCell
set_option maxRecDepth 100000 in
set_option maxHeartbeats 2000000 in
theorem over_Seen (tb mb : Nat) (l : List (Sp × Seen)) (pg : Nat) (pb : Array Value) (pred : Sp → Bool) (w : World) (h : TabIs 175 (fun x : Seen => Seen.val x) w tb mb l) (hl : l.length ≤ 65536)
    (epg : ∀ args w, (callFunc pg args).run Tryz.prog w = .ok (.enter pg args) w)
    (hp : ∀ s W', Fr [] w W' → Calls Tryz.prog pg (#[spV s] ++ pb) W' fun e w1 => e = .returned (.bool (pred s)) ∧ Fr [] W' w1) :
    Calls Tryz.prog 183 #[.pointer (some ⟨tb, 0, none⟩), .func (.func pg) #[] pb] w fun e w1 => ∃ (B : Nat) (rv : Value), e = .returned (.func (.func 239) #[] #[.pointer (some ⟨B, 0, none⟩)]) ∧
      w1.cell? ⟨B, 0, none⟩ = some rv ∧ w.heap.size ≤ B ∧ w1.ownsRow w.heap.size 372 6 rv (rowsS seen0 pred l (sortS (l.map (·.1)))).length ((rowsS seen0 pred l (sortS (l.map (·.1)))).flatMap rowSeen) ∧ Fr [] w w1 := by
  have HT := Lib.hid h
  obtain ⟨ht, hmap⟩ := h
  have ht0 := cell_of ht 0
  have ht1 := cell_of ht 1
  have htl := lt_of ht
  have hml := hmap.lt
  have hseq := keysStops_Seen 1 (by omega) w.heap.size mb (valsOf (fun x : Seen => Seen.val x) l) (w.alloc (.cells #[.map (some mb)] 173)) (by simp) (cell_of (heap_new w _) 0) (hmap.fr ((Fr.refl [] w).alloc _) (by simp))
  rw [vals_keys, vals_length] at hseq
  have hsort := sortedS 294 _ (enters_of Tryz.func294 (by kernel_rfl) rfl) _ _ (fun ss (hs : ss.Perm _) => by rw [hs.length_eq, List.length_map]; omega) _ (by omega) _ hseq
  obtain ⟨i0, hi0, hz0, hz1, hz2⟩ := info_parts infoRowSeen
  obtain ⟨srt, hsrt⟩ : ∃ x, sortS (l.map (·.1)) = x := ⟨_, rfl⟩
  rw [hsrt]
  have HSRT := Lib.hid hsrt
  clear ht hseq hsrt
  go_enter Tryz.func183, Tryz.ntmps183
  have heq := eql_nil
  go_wp2_with fail
  refine (keys_Seen (some mb) _).mono ?_
  rintro e w' ⟨rfl, hw⟩
  rw [hw]
  clear hw
  go_wp2_with fail
  refine hsort.mono ?_
  rintro e w2 ⟨v, ss, rfl, hS, hrow, _, hB2⟩
  have h2 : Fr [] w w2 := ((Fr.refl [] w).alloc _).trans0 (Fr.of_below hB2 [])
  rw [sortS_of_perm hS] at hrow
  have hsl : ss.length = (sortS (l.map (·.1))).length := by rw [(sortS_perm _).length_eq, hS.length_eq]
  rw [hsl] at hrow
  have hsn : (sortS (l.map (·.1))).length ≤ 65536 := by rw [(sortS_perm _).length_eq, List.length_map]; exact hl
  rw [HSRT.out] at hrow hsn
  have HSN := Lib.hid hsn
  clear hsort hS hsl hsn hB2
  obtain ⟨⟨qa, qc, rfl⟩, hRc⟩ := RAt.of_owns hrow (Nat.le_refl _)
  go_wp2_with fail
  have h3 : Fr [] w (w2.alloc (.cells #[.slice none 0 0] 370)) := h2.alloc _
  have hbX := heap_new w2 (.cells #[.slice none 0 0] 370)
  have hWs : (w2.alloc (.cells #[.slice none 0 0] 370)).heap.size ≤ w2.heap.size + 1 := by simp
  have hXw := h2.size
  have hR2 : RAt w2.heap.size (w2.alloc (.cells #[.slice none 0 0] 370)) (.slice qa srt.length qc) 2 srt.length (srt.flatMap spC) := (show RAt w2.heap.size w2 _ _ _ _ from ⟨⟨_, _, rfl⟩, hRc⟩).below ((Below.refl _ w2).alloc (Nat.le_refl _) _)
  clear hRc hrow
  generalize w2.alloc (.cells #[.slice none 0 0] 370) = W at *
  generalize w2.heap.size = X at *
  have hXlt := lt_of hbX
  go_loopw [23] (fun i wr => ∃ k : Nat, i = .int .i64 (k : Int) ∧ k ≤ srt.length ∧ Fr [X] W wr ∧ ∃ q n c, wr.heap[X]? = some (.cells #[.slice q n c] 370) ∧
      wr.ownsRow (X + 1) 372 6 (.slice q n c) (rowsS seen0 pred l (srt.take k)).length ((rowsS seen0 pred l (srt.take k)).flatMap rowSeen)) (fun i _ => srt.length - (intOf i).toNat)
  case atStart => exact ⟨0, rfl, by omega, Fr.refl _ _, none, 0, 0, hbX, World.ownsRow_nil _ _ _ _⟩
  case round =>
    obtain ⟨k, rfl, hk, hfr, q, n, c, hX, hown⟩ := hrel
    by_cases hlt : k < srt.length
    · obtain ⟨b, c2, e, hb, hc⟩ := hR2.cell (by omega)
      cases e
      have hbX0 : b ∉ [X] := by simp; omega
      have hfrw : Fr [] w wr := h3.trans hfr (by simp; omega)
      have hbW : b < W.heap.size := by omega
      have hget : ∀ j, j < 2 → (srt.flatMap spC)[k * 2 + j]? = (spC srt[k])[j]? := fun j hj => flat_get spC 2 (fun _ => rfl) srt k j hlt hj
      have hd1 : wr.cell? ⟨b, k * 2, none⟩ = some (.int .i64 srt[k].1) := (hfr.cell (p := ⟨b, k * 2, none⟩) hbW hbX0).trans (hc _ _ (hget 0 (by omega)))
      have hd2 : wr.cell? ⟨b, k * 2 + 1, none⟩ = some (.int .i64 srt[k].2) := (hfr.cell (p := ⟨b, k * 2 + 1, none⟩) hbW hbX0).trans (hc _ _ (hget 1 (by omega)))
      have hts : Hid (rowsS seen0 pred l (srt.take (k + 1)) = rowsS seen0 pred l (srt.take k) ++ (if pred srt[k] then [(srt[k], (getS srt[k] l).getD seen0)] else [])) := by
        show _ = _
        rw [List.take_succ_eq_append_getElem hlt, rowsS_snoc]
      have hrl : (rowsS seen0 pred l (srt.take k)).length ≤ k := Nat.le_trans (rowsS_le _ _ _ _) (by rw [List.length_take]; omega)
      obtain ⟨s, hs⟩ : ∃ s, srt[k] = s := ⟨_, rfl⟩
      rw [hs] at hd1 hd2 hts
      have hTr := Lib.hid (HT.out.fr hfrw (by simp) (by simp))
      have hklen : (k : Int) < (srt.length : Int) := by omega
      clear hc hget hs
      go_upto_block 1 with fail
      go_cut [] (fun wx => ∃ q' n' c', wx.heap[X]? = some (.cells #[.slice q' n' c'] 370) ∧ wx.ownsRow (X + 1) 372 6 (.slice q' n' c') (rowsS seen0 pred l (srt.take (k + 1))).length ((rowsS seen0 pred l (srt.take (k + 1))).flatMap rowSeen) ∧ Fr [X] W wx)
      case first =>
        go_wp2_with fail
        have hW2 : Fr [] wr (wr.alloc (.cells #[.int .i64 s.1, .int .i64 s.2] 33)) := (Fr.refl [] wr).alloc _
        have hbd := heap_new wr (.cells #[.int .i64 s.1, .int .i64 s.2] 33)
        generalize wr.alloc (.cells #[.int .i64 s.1, .int .i64 s.2] 33) = W2 at *
        generalize wr.heap.size = D at *
        refine (hp s W2 (hfrw.trans0 hW2)).mono ?_
        rintro e w3 ⟨rfl, h4⟩
        have hD3 := h4.heap hbd (by simp)
        have hX3 := (hW2.trans0 h4).heap hX (by simp)
        have hown3 := owns_fr hown (hW2.trans0 h4) (by simp)
        have hT3 := hTr.out.fr (hW2.trans0 h4) (by simp) (by simp)
        have hfr3 : Fr [X] W w3 := hfr.trans0 (hW2.trans0 h4)
        obtain ⟨R0, hR0⟩ : ∃ R0, rowsS seen0 pred l (srt.take k) = R0 := ⟨_, rfl⟩
        rw [hR0] at hown hown3 hts hrl
        have hk2 : k ≤ 65536 := Nat.le_trans hk HSN.out
        cases hps : pred s with
        | false =>
          rw [hps] at hts
          go_wp2_with fail
          go_meet
          exact ⟨q, n, c, hX3, by rw [hts.out]; simpa using hown3, hfr3⟩
        | true =>
          rw [hps] at hts
          obtain ⟨x, hx⟩ : ∃ x, (getS s l).getD seen0 = x := ⟨_, rfl⟩
          rw [hx] at hts
          obtain ⟨hT3t, es, clock, hob, hpr, _⟩ := hT3
          have hlook : ∀ W : World, ob W mb = some (.map es clock) → (Instr.lookup 173 (.map (some mb)) (spV s) false).run Tryz.prog W = .ok (Seen.val x) W := fun W hW => by
            have := run_look (P := Tryz.prog) spotKey Tryz.underlying173 zeroOSeen hW hpr s false
            rw [this, getS_vals, ← hx]
            cases getS s l <;> rfl
          have hob3 : ob w3 mb = some (.map es clock) := hob
          have hmb3 := lt_of hob
          have htb3 : w3.cell? ⟨tb, 0, none⟩ = some (.map (some mb)) := cell_of hT3t 0
          have htl3 := lt_of hT3t
          have hXc := cell_of hX3 0
          have hXf := free_of hX3 0
          have hDc0 := cell_of hD3 0
          have hDc1 := cell_of hD3 1
          have hXl3 := lt_of hX3
          have hDl3 := lt_of hD3
          clear hob hpr hx
          obtain ⟨⟨xk, xn, xs⟩, xp, xl, xc⟩ := x
          go_wp2_with fail
          have hXo : some X ≠ (Value.slice q n c).ownBlock := fun e => by have := (hown.lt X e.symm).1; omega
          go_region_law (first | (refine step_append_lies _ (by rfl) _ _ _ (by rfl) (X + 1) 372 i0 _ 6 72 Tryz.underlying370 hi0 hz0 hz1 hz2 rfl (by omega) (.slice q n c) R0.length (R0.flatMap rowSeen) (by rfl) ((hown3.alloc _).drew) ⟨w3.heap.size, 0, none⟩ 1 1 (rowSeen (s, ⟨⟨xk, xn, xs⟩, xp, xl, xc⟩)) (by rfl) (by rfl) (World.news_of_block (cs := (rowSeen (s, ⟨⟨xk, xn, xs⟩, xp, xl, xc⟩)).toArray) (t := 372) (fr := (0, 0)) (heap_alloc_new w3 _)) (by simp [Value.oneCell']) (by omega) (by unfold maxLen; omega) (by omega) (by simp; omega) (w3.heap.size + 1) (by simp) ?_; intro gg cap w5 hown5 hgrow hat hlt5; have hX5 := (hgrow.block X (by simp; omega) hXo).trans ((((Fr.refl [] w3).alloc _).drew).heap hX3 (by simp)); have hXc5 := cell_of hX5 0; have hXf5 := free_of hX5 0))
          all_goals
            have hfin : Fr [X] W w5 := (hfr3.alloc _).drew.grown hgrow (fun g hg => .inr (by have h1 := (hown.lt g hg).1; omega))
            go_wp2_with fail
            go_meet
            refine ⟨_, _, _, set_of hX5 0 _, ?_, hfin.setCell (.inl (by simp)) _⟩
            rw [hts.out]
            have := owns_fr hown5 ((Fr.refl [X] w5).setCell (p := ⟨X, 0, none⟩) (.inl (by simp)) (.slice (some ⟨gg, 0, none⟩) (R0.length + 1) cap)) (fun g hg => by simp; have := (hown5.lt g hg).1; omega)
            simpa using this
      case rest =>
        obtain ⟨q', n', c', hX6, hown6, hfr6⟩ := hcut
        have hn : (srt.length : Int) ≤ 65536 := by have := HSN.out; omega
        go_wp2_with fail
        go_roundw
        case rel => exact ⟨k + 1, by go_num, by omega, hfr6, q', n', c', hX6, hown6⟩
        case measure => simp [intOf]; omega
    · obtain rfl : k = srt.length := by omega
      rw [List.take_length] at hown
      have hXc := cell_of hX
      have hXl := lt_of hX
      have hfrw : Fr [] w wr := h3.trans hfr (by simp; omega)
      go_wp2_with fail
      go_ret
      exact ⟨X, .slice q n c, rfl, cell_of hX 0, hXw, owns_mono hown (by omega), hfrw⟩
end
end Go.Proofs.YtnmkhoebijodhaaGreatDoor
