/-
  quadrillelaw7.within: copies of what lies in an area.
-/
import Derived.Test.YtldppdafgbipjaaPair7
namespace Go.Proofs.Ytldppdafgbipjaa
open Go.RowKit

theorem own_apart {w : World} {B B' : Nat} {e e' : TypeId} {size size' n n' : Nat} {v v' : Value} {xs xs' : List Value} (h : w.ownsRow B e size v n xs) (h' : w.ownsRow B' e' size' v' n' xs') (hne : e ≠ e') :
    v'.ownBlock = none ∨ v'.ownBlock ≠ v.ownBlock := by
  cases hq : v'.ownBlock with
  | none => exact .inl rfl
  | some f =>
    refine .inr fun hh => ?_
    obtain ⟨_, h1⟩ := own_heap (owns_mono h' (Nat.zero_le _)) hq
    obtain ⟨_, h2⟩ := own_heap (owns_mono h (Nat.zero_le _)) hh.symm
    rw [h1] at h2
    injection h2 with h2
    injection h2 with _ h3 _
    exact hne h3.symm

theorem filt_snoc {p : Sp × Int → Bool} {R : List (Sp × Int)} {k : Nat} (hk : k < R.length) : (R.take (k + 1)).filter p = (R.take k).filter p ++ (if p R[k] then [R[k]] else []) := by
  rw [List.take_succ_eq_append_getElem hk, List.filter_append]
  cases h : p R[k] <;> simp [h]

set_option maxRecDepth 100000 in
set_option maxHeartbeats 1600000 in
theorem within7 (rb : Nat) (vA vX : Value) (R : List (Sp × Int)) (a : Ar) (w : World) (h : RIn w rb vA vX R R) (hl : R.length ≤ 65536) :
    Calls Try.prog 75 #[.pointer (some ⟨rb, 0, none⟩), a.val] w fun e w1 => ∃ vl vx, e = .returned (.tuple #[vl, vx]) ∧
      w1.ownsRow w.heap.size 26 2 vl (R.filter fun x => hasA a x.1).length ((R.filter fun x => hasA a x.1).flatMap encA) ∧
      w1.ownsRow w.heap.size 3 1 vx (R.filter fun x => hasA a x.1).length ((R.filter fun x => hasA a x.1).flatMap encX) ∧ Fr [] w w1 := by
  obtain ⟨i0, hi0, hz0, hz1, hz2⟩ := info_parts infoSpot
  obtain ⟨j0, hj0, hy0, hy1, hy2⟩ := info_parts infoInt
  have HL := Lib.hid hl
  obtain ⟨qa, ca, rfl⟩ := (RIs.of_owns h.at').form
  obtain ⟨qx, cx, rfl⟩ := (RIs.of_owns h.xs).form
  have HH := Lib.hid h
  clear h hl
  go_enter Try.func75, Try.ntmps75
  go_wp2_with fail
  have hW : Fr [] w (w.alloc (.cells #[.int .i64 a.t, .int .i64 a.l, .int .i64 a.b, .int .i64 a.r] 54)) := (Fr.refl [] w).alloc _
  have hBn := heap_new w (.cells #[.int .i64 a.t, .int .i64 a.l, .int .i64 a.b, .int .i64 a.r] 54)
  have HW := Lib.hid (HH.out.fr hW)
  generalize w.alloc (.cells #[.int .i64 a.t, .int .i64 a.l, .int .i64 a.b, .int .i64 a.r] 54) = W at *
  obtain ⟨B, hBe⟩ : ∃ B, w.heap.size = B := ⟨_, rfl⟩
  rw [hBe] at hBn
  simp only [hBe]
  have hWz := hW.size
  go_loopw [6, 7, 8] (fun vl vx iv wr => ∃ k : Nat, iv = .int .i64 (k : Int) ∧ k ≤ R.length ∧ wr.ownsRow W.heap.size 26 2 vl ((R.take k).filter fun x => hasA a x.1).length (((R.take k).filter fun x => hasA a x.1).flatMap encA) ∧
      wr.ownsRow W.heap.size 3 1 vx ((R.take k).filter fun x => hasA a x.1).length (((R.take k).filter fun x => hasA a x.1).flatMap encX) ∧ Fr [] W wr) (fun _ _ iv _ => R.length - (intOf iv).toNat)
  case atStart => exact ⟨0, rfl, Nat.zero_le _, World.ownsRow_nil _ _ _ _, World.ownsRow_nil _ _ _ _, Fr.refl _ _⟩
  case round =>
    obtain ⟨k, rfl, hkR, hoA, hoX, hfr⟩ := hrel
    have HR := Lib.hid (HW.out.fr hfr)
    have t0 : wr.cell? ⟨rb, 0, none⟩ = some (.slice qa R.length ca) := cell_of HR.out.tab 0
    have hrl := lt_of HR.out.tab
    by_cases hlt : (k : Int) < (R.length : Int)
    · have hk : k < R.length := by omega
      obtain ⟨g, c, eg, hg, e0, e1⟩ := HR.out.atC hk
      cases eg
      obtain ⟨f, cf, ef, hf, x0⟩ := HW.out.xsC hk
      cases ef
      have t1 : W.cell? ⟨rb, 1, none⟩ = some (.slice (some ⟨f, 0, none⟩) R.length cx) := cell_of HW.out.tab 1
      have HFS := Lib.hid (filt_snoc (p := fun x => hasA a x.1) hk)
      obtain ⟨y, hy⟩ : ∃ y, R[k] = y := ⟨_, rfl⟩
      rw [hy] at e0 e1 x0 HFS
      have hBr := hfr.heap hBn (by simp)
      have b0 : wr.cell? ⟨B, 0, none⟩ = some (.int .i64 a.t) := cell_of hBr 0
      have b1 : wr.cell? ⟨B, 1, none⟩ = some (.int .i64 a.l) := cell_of hBr 1
      have b2 : wr.cell? ⟨B, 2, none⟩ = some (.int .i64 a.b) := cell_of hBr 2
      have b3 : wr.cell? ⟨B, 3, none⟩ = some (.int .i64 a.r) := cell_of hBr 3
      have HLE := Lib.hid (show ((R.take k).filter fun x => hasA a x.1).length ≤ 65536 from Nat.le_trans (List.length_filter_le _ _) (by rw [List.length_take]; have := HL.out; omega))
      obtain ⟨L, hL⟩ : ∃ L, (R.take k).filter (fun x => hasA a x.1) = L := ⟨_, rfl⟩
      rw [hL] at hoA hoX HFS HLE
      have HOA := Lib.hid hoA
      have HOX := Lib.hid hoX
      have hw1 : IntKind.i64.wrap ((k : Int) + 1) = (k : Int) + 1 := by have := HL.out; rw [IntKind.wrap_i64]; omega
      clear hy hL hBr hk hoA hoX
      go_wp2_with fail
      go_region_held3 (fun u => u.cell? ⟨rb, 0, none⟩ = some (.slice (some ⟨g, 0, none⟩) R.length ca) ∧ u.cell? ⟨g, k * 2, none⟩ = some (.int .i64 y.1.1) ∧ u.cell? ⟨g, k * 2 + 1, none⟩ = some (.int .i64 y.1.2) ∧ u.cell? ⟨B, 0, none⟩ = some (.int .i64 a.t) ∧ u.cell? ⟨B, 1, none⟩ = some (.int .i64 a.l) ∧ u.cell? ⟨B, 2, none⟩ = some (.int .i64 a.b) ∧ u.cell? ⟨B, 3, none⟩ = some (.int .i64 a.r))
        ((first | exact ⟨ce_drew t0, ce_drew e0, ce_drew e1, ce_drew b0, ce_drew b1, ce_drew b2, ce_drew b3⟩ | exact ⟨ce_call hA (ce_drew t0), ce_call hA (ce_drew e0), ce_call hA (ce_drew e1), ce_call hA (ce_drew b0), ce_call hA (ce_drew b1), ce_call hA (ce_drew b2), ce_call hA (ce_drew b3)⟩))
        ((go_at_call 28; refine (refHas a y.1 _).mono ?_; rintro e wA ⟨rfl, hA⟩))
      have hF := (hfr.drew).trans0 hA
      have hFA : Fr [] wr wA := ((Fr.refl [] wr).drew).trans0 hA
      have HOA := Lib.hid (owns_fr HOA.out hFA (by simp))
      have HOX := Lib.hid (owns_fr HOX.out hFA (by simp))
      cases hb : hasA a y.1 with
      | false =>
        have HE := Lib.hid (show (R.take (k + 1)).filter (fun x => hasA a x.1) = L by rw [HFS.out, hb]; simp)
        clear hb
        go_wp2_with fail
        go_roundw
        case rel => exact ⟨k + 1, by go_num, by omega, by rw [HE.out]; exact HOA.out, by rw [HE.out]; exact HOX.out, hF⟩
        case measure => simp [intOf]; omega
      | true =>
        have HE := Lib.hid (show (R.take (k + 1)).filter (fun x => hasA a x.1) = L ++ [y] by rw [HFS.out, hb]; simp)
        have t0 := ce_call hFA t0
        have e0 := ce_call hFA e0
        have e1 := ce_call hFA e1
        have X0 := Lib.hid x0
        have T1 := Lib.hid t1
        have hFz := hF.size
        have hxn := own_apart HOA.out HOX.out (by decide)
        clear hb x0 t1
        go_wp2_with (at_builtin; first | (refine wpList_append_own _ rfl _ _ 35 rfl W.heap.size 26 i0 _ 2 16 Try.underlying35 hi0 hz0 hz1 hz2 rfl (by decide) _ _ _ rfl (HOA.out.alloc _) ⟨wA.heap.size, 0, none⟩ 1 1 (encA y) rfl rfl (news_of _ _ _) (by simp [Value.oneCell', encA, spC]) (by have := HLE.out; unfold maxLen; omega) (by have := HLE.out; omega) (by simp; omega) ?_; intro vl' w5 hA5 hg5 _; obtain ⟨g5, c5, rfl⟩ := ownsRow_succ hA5; have hF5 : Fr [] W w5 := (hF.alloc _).grown hg5 (fun g hg => .inr (HOA.out.lt g hg).1); have t1 := ce_call hF5 T1.out; have x0 := ce_call hF5 X0.out; have hrl5 : rb < w5.heap.size := World.block_lt_of_cell? w5 ⟨rb, 1, none⟩ t1; have hfl5 : f < w5.heap.size := World.block_lt_of_cell? w5 ⟨f, k, none⟩ x0; have hF5z := hF5.size; have HOX5 := Lib.hid ((HOX.out.alloc (.cells #[.int .i64 y.1.1, .int .i64 y.1.2] 26)).kept hg5 hxn)) | (refine wpList_append_own _ rfl _ _ 48 rfl W.heap.size 3 j0 (.int .i64 0) 1 8 Try.underlying48 hj0 hy0 hy1 hy2 rfl (by decide) _ _ _ rfl (HOX5.out.alloc _) ⟨w5.heap.size, 0, none⟩ 1 1 (encX y) rfl rfl (news_of _ _ _) (by simp [Value.oneCell', encX]) (by have := HLE.out; unfold maxLen; omega) (by have := HLE.out; omega) (by simp; omega) ?_; intro vx' w7 hX7 hg7 _; obtain ⟨g7, c7, rfl⟩ := ownsRow_succ hX7))
        have hF7 : Fr [] W w7 := (hF5.alloc _).grown hg7 (fun g hg => .inr (HOX5.out.lt g hg).1)
        have hA7 := (hA5.alloc (.cells #[.int .i64 y.2] 3)).kept hg7 (own_apart HOX5.out hA5 (by decide))
        have HA7 := Lib.hid hA7
        have HX7 := Lib.hid hX7
        clear hA7 hX7 hA5 hg5 hg7
        go_roundw
        case rel => exact ⟨k + 1, by go_num, by omega, by rw [HE.out, List.length_append, List.flatMap_append]; simpa using HA7.out, by rw [HE.out, List.length_append, List.flatMap_append]; simpa using HX7.out, hF7⟩
        case measure => simp [intOf]; omega
    · obtain rfl : k = R.length := by omega
      rw [List.take_length] at hoA hoX
      have HOA := Lib.hid hoA
      have HOX := Lib.hid hoX
      clear hoA hoX
      go_wp2_with fail
      refine bodyPost_ret (v := .tuple #[_, _]) (by simp [results, Try.results75, go_sem]) rfl ⟨_, _, rfl, owns_mono HOA.out (by omega), owns_mono HOX.out (by omega), hW.trans0 hfr⟩
end Go.Proofs.Ytldppdafgbipjaa
