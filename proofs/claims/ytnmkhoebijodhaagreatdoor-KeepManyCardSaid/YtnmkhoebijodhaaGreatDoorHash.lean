/-
  Contracts of value.Same, grid.New, hash.Bytes, hash.Sum.
-/
import Derived.Test.YtnmkhoebijodhaaGreatDoorLeaf
import Derived.Lib.AppendStr
namespace Go.Proofs.YtnmkhoebijodhaaGreatDoor
open Go.RowKit

def sameVB (a b : V) : Bool := decide (a.k = b.k ∧ a.n = b.n ∧ a.s.toList = b.s.toList)
theorem valueSame (a b : V) (w : World) : Calls Tryz.prog 201 #[a.val, b.val] w fun e w1 => e = .returned (.bool (sameVB a b)) ∧ Fr [] w w1 := by
  go_enter Tryz.func201, Tryz.ntmps201
  go_wp2
  all_goals
    go_ret
    refine ⟨ret_bool ?_, ((Fr.refl _ _).alloc _).alloc _⟩
    simp [sameVB, *]

theorem info5 : (Tryz.prog.info? 5).map (fun i => (i.zero, i.size, i.bytes)) = some (some (.int .u8 0), 1, 1) := by kernel_rfl

/-- The bytes of a number, the greatest first. -/
def be8 (n : Int) : List Int := (List.range 8).map fun i => n / 2 ^ (56 - 8 * i) % 256
/-- A value as bytes. -/
def bytesOf (v : V) : List Int := if v.k = 1 then 1 :: be8 v.n else if v.k = 2 ∨ v.k = 4 then [v.k, v.n % 256] else v.k :: v.s.data.toList.map fun b => (b.toNat : Int)
def goodV (v : V) : V := if mayV v = true then v else ⟨4, 4, ByteArray.empty⟩
def bytesV (v : V) : List Int := bytesOf (goodV v)

/-- What hash.Bytes leaves. -/
def BytesPost (B : Nat) (l : List Int) (w : World) (e : Ending) (w1 : World) : Prop :=
  ∃ x, e = .returned x ∧ w1.ownsRow B 5 1 x l.length (l.map (Value.int .u8)) ∧ Fr [] w w1

set_option maxRecDepth 100000 in
theorem bytes1 (n : Int) (s : ByteArray) (w : World) (hs : s.size ≤ 9223372036854775807) (h : mayV (V.mk 1 n s) = true) :
    Calls Tryz.prog 246 #[.agg #[.int .i64 1, .int .i64 n, .string s]] w (BytesPost w.heap.size (1 :: be8 n) w) := by
  have H := Lib.hid h
  clear h
  obtain ⟨i0, hi, hz0, hz1, hz2⟩ := info_parts info5
  go_enter Tryz.func246, Tryz.ntmps246
  go_wp2_with fail
  refine (valueMay ⟨1, n, s⟩ _ hs).mono ?_; rintro e w1 ⟨rfl, h1⟩
  rw [H.out]
  obtain ⟨h2, hb, hz⟩ := h1.new1 (by simp)
  clear h1
  have hc := cell_of hb
  have hf := free_of hb
  go_wp2_with fail
  go_loopw [3, 4] (fun b a wr => ∃ j : Nat, j ≤ 8 ∧ a = .int .i64 (56 - 8 * (j : Int)) ∧ Fr [] w wr ∧ wr.heap[w.heap.size]? = some (.cells #[.int .i64 1, .int .i64 n, .string s] 62 (0, 0)) ∧
      wr.ownsRow (w.heap.size + 1) 5 1 b (j + 1) ((1 :: (List.range j).map fun i => n / 2 ^ (56 - 8 * i) % 256).map (Value.int .u8))) (fun _ a _ => (intOf a + 8).toNat)
  case atStart => exact ⟨0, by omega, rfl, h2.alloc _, (Fr.refl [] _).alloc _ |>.heap hb (by simp), by simp, .inr ⟨_, 1, #[.int .u8 1], rfl, by omega, heap_new _ _, by omega, by unfold maxLen; omega, rfl, rfl⟩⟩
  case round =>
    obtain ⟨j, hj, rfl, hfr, hbk, hown⟩ := hrel
    have hc := cell_of hbk
    have hf := free_of hbk
    by_cases hlt : j < 8
    · go_wp2_with (at_builtin; refine wpList_append_own _ rfl _ _ 22 rfl (w.heap.size + 1) 5 i0 (.int .u8 0) 1 1 Tryz.underlying22 hi hz0 hz1 hz2 rfl (by decide) _ _ _ rfl (hown.alloc _) ⟨wr.heap.size, 0, none⟩ 1 1 [.int .u8 (n / 2 ^ (56 - 8 * j) % 256)] rfl rfl (news_of _ _ _) (one_mem rfl) (by unfold maxLen; omega) (by omega) (by have := lt_of hbk; simp; omega) ?_; intro v' w1 hown' hgrow _)
      go_roundw
      case rel =>
        refine ⟨j + 1, by omega, by go_num, (hfr.alloc _).grown hgrow ?_, ((hgrow.block _ ?_ ?_).trans (((Fr.refl [] _).alloc _).heap hbk (by simp))), by rw [List.range_succ]; simpa using hown'⟩
        · intro k hk
          have := (hown.lt k hk).1
          omega
        · have := lt_of hbk
          simp
          omega
        · intro hk
          have := (hown.lt _ hk.symm).1
          omega
      case measure => simp [intOf]; omega
    · obtain rfl : j = 8 := by omega
      go_wp2
      go_ret
      exact ⟨_, rfl, owns_mono (by simpa [be8] using hown) (by omega), hfr⟩

set_option maxRecDepth 100000 in
theorem bytes24 (k n : Int) (s : ByteArray) (w : World) (hs : s.size ≤ 9223372036854775807) (hk : k = 2 ∨ k = 4) (h : mayV (V.mk k n s) = true) :
    Calls Tryz.prog 246 #[.agg #[.int .i64 k, .int .i64 n, .string s]] w (BytesPost w.heap.size [k, n % 256] w) := by
  obtain ⟨i0, hi, hz0, hz1, hz2⟩ := info_parts info5
  rcases hk with rfl | rfl
  all_goals
    have H := Lib.hid h
    clear h
    go_enter Tryz.func246, Tryz.ntmps246
    go_wp2_with fail
    refine (valueMay ⟨_, n, s⟩ _ hs).mono ?_; rintro e w1 ⟨rfl, h1⟩
    rw [H.out]
    obtain ⟨h2, hb, hz⟩ := h1.new1 (by simp)
    clear h1
    have hc := cell_of hb
    have hf := free_of hb
  · have hown : (w1.alloc (.cells #[.int .u8 2] 5)).ownsRow (w.heap.size + 1) 5 1 (.slice (some ⟨w1.heap.size, 0, none⟩) 1 1) 1 [.int .u8 2] := ⟨by simp, .inr ⟨_, 1, #[.int .u8 2], rfl, by omega, heap_new _ _, by omega, by unfold maxLen; omega, rfl, rfl⟩⟩
    go_wp2_with (at_builtin; refine wpList_append_own _ rfl _ _ 22 rfl (w.heap.size + 1) 5 i0 (.int .u8 0) 1 1 Tryz.underlying22 hi hz0 hz1 hz2 rfl (by decide) _ _ _ rfl (hown.alloc _) ⟨w1.heap.size + 1, 0, none⟩ 1 1 [.int .u8 (n % 256)] rfl rfl (by have := news_of (w1.alloc (.cells #[.int .u8 2] 5)) [.int .u8 (n % 256)] 5; simpa using this) (one_mem rfl) (by unfold maxLen; omega) (by omega) (by simp; omega) ?_; intro v' w2 hown' hgrow _)
    go_ret
    exact ⟨_, rfl, owns_mono hown' (by omega), ((h2.alloc _).alloc _).grown hgrow (fun k hk => .inr (by have := (hown.lt k hk).1; omega))⟩
  · have hown : (w1.alloc (.cells #[.int .u8 4] 5)).ownsRow (w.heap.size + 1) 5 1 (.slice (some ⟨w1.heap.size, 0, none⟩) 1 1) 1 [.int .u8 4] := ⟨by simp, .inr ⟨_, 1, #[.int .u8 4], rfl, by omega, heap_new _ _, by omega, by unfold maxLen; omega, rfl, rfl⟩⟩
    go_wp2_with (at_builtin; refine wpList_append_own _ rfl _ _ 22 rfl (w.heap.size + 1) 5 i0 (.int .u8 0) 1 1 Tryz.underlying22 hi hz0 hz1 hz2 rfl (by decide) _ _ _ rfl (hown.alloc _) ⟨w1.heap.size + 1, 0, none⟩ 1 1 [.int .u8 (n % 256)] rfl rfl (by have := news_of (w1.alloc (.cells #[.int .u8 4] 5)) [.int .u8 (n % 256)] 5; simpa using this) (one_mem rfl) (by unfold maxLen; omega) (by omega) (by simp; omega) ?_; intro v' w2 hown' hgrow _)
    go_ret
    exact ⟨_, rfl, owns_mono hown' (by omega), ((h2.alloc _).alloc _).grown hgrow (fun k hk => .inr (by have := (hown.lt k hk).1; omega))⟩

set_option maxRecDepth 100000 in
theorem bytesText (k n : Int) (s : ByteArray) (w : World) (hs : s.size ≤ 9223372036854775807) (hl : s.size ≤ 32767) (hk : k = 0 ∨ k = 3) (h : mayV (V.mk k n s) = true) :
    Calls Tryz.prog 246 #[.agg #[.int .i64 k, .int .i64 n, .string s]] w (BytesPost w.heap.size (k :: s.data.toList.map fun b => (b.toNat : Int)) w) := by
  obtain ⟨i0, hi, hz0, hz1, hz2⟩ := info_parts info5
  rcases hk with rfl | rfl
  all_goals
    have H := Lib.hid h
    clear h
    go_enter Tryz.func246, Tryz.ntmps246
    go_wp2_with fail
    refine (valueMay ⟨_, n, s⟩ _ hs).mono ?_; rintro e w1 ⟨rfl, h1⟩
    rw [H.out]
    obtain ⟨h2, hb, hz⟩ := h1.new1 (by simp)
    clear h1
    have hc := cell_of hb
    have hf := free_of hb
  · have hown : (w1.alloc (.cells #[.int .u8 0] 5)).ownsRow (w.heap.size + 1) 5 1 (.slice (some ⟨w1.heap.size, 0, none⟩) 1 1) 1 [.int .u8 0] := ⟨by simp, .inr ⟨_, 1, #[.int .u8 0], rfl, by omega, heap_new _ _, by omega, by unfold maxLen; omega, rfl, rfl⟩⟩
    go_wp2_with (at_builtin; refine Lib.wpList_append_own_string _ rfl _ _ 22 9 rfl (w.heap.size + 1) 5 i0 Tryz.underlying22 Tryz.underlying9 hi hz0 hz1 hz2 _ _ _ rfl hown s rfl (by unfold maxLen; omega) (by omega) (by simp; omega) ?_; intro v' w2 hown' hgrow _)
    go_ret
    refine ⟨_, rfl, owns_mono (B := w.heap.size + 1) ?_ (by omega), (h2.alloc _).grown hgrow (fun k hk => .inr (by have := (hown.lt k hk).1; omega))⟩
    have e : (0 :: s.data.toList.map fun b => (b.toNat : Int)).length = 1 + s.size := by rw [List.length_cons, List.length_map, Array.length_toList]; exact Nat.add_comm _ _
    rw [e]
    simpa [Lib.strCells, Function.comp_def] using hown'
  · have hown : (w1.alloc (.cells #[.int .u8 3] 5)).ownsRow (w.heap.size + 1) 5 1 (.slice (some ⟨w1.heap.size, 0, none⟩) 1 1) 1 [.int .u8 3] := ⟨by simp, .inr ⟨_, 1, #[.int .u8 3], rfl, by omega, heap_new _ _, by omega, by unfold maxLen; omega, rfl, rfl⟩⟩
    go_wp2_with (at_builtin; refine Lib.wpList_append_own_string _ rfl _ _ 22 9 rfl (w.heap.size + 1) 5 i0 Tryz.underlying22 Tryz.underlying9 hi hz0 hz1 hz2 _ _ _ rfl hown s rfl (by unfold maxLen; omega) (by omega) (by simp; omega) ?_; intro v' w2 hown' hgrow _)
    go_ret
    refine ⟨_, rfl, owns_mono (B := w.heap.size + 1) ?_ (by omega), (h2.alloc _).grown hgrow (fun k hk => .inr (by have := (hown.lt k hk).1; omega))⟩
    have e : (3 :: s.data.toList.map fun b => (b.toNat : Int)).length = 1 + s.size := by rw [List.length_cons, List.length_map, Array.length_toList]; exact Nat.add_comm _ _
    rw [e]
    simpa [Lib.strCells, Function.comp_def] using hown'

set_option maxRecDepth 100000 in
theorem bytesBad (k n : Int) (s : ByteArray) (w : World) (hs : s.size ≤ 9223372036854775807) (h : mayV (V.mk k n s) = false) :
    Calls Tryz.prog 246 #[.agg #[.int .i64 k, .int .i64 n, .string s]] w (BytesPost w.heap.size [4, 4] w) := by
  obtain ⟨i0, hi, hz0, hz1, hz2⟩ := info_parts info5
  have H := Lib.hid h
  clear h
  go_enter Tryz.func246, Tryz.ntmps246
  go_wp2_with fail
  refine (valueMay ⟨_, n, s⟩ _ hs).mono ?_; rintro e w1 ⟨rfl, h1⟩
  rw [H.out]
  obtain ⟨h2, hb, hz⟩ := h1.new1 (by simp)
  clear h1
  have hc := cell_of hb
  have hf := free_of hb
  have hown : (((w1.setCell ⟨w.heap.size, 0, none⟩ (.int .i64 4)).setCell ⟨w.heap.size, 1, none⟩ (.int .i64 4)).setCell ⟨w.heap.size, 2, none⟩ (.string ⟨#[]⟩) |>.alloc (.cells #[.int .u8 4] 5)).ownsRow (w.heap.size + 1) 5 1 (.slice (some ⟨w1.heap.size, 0, none⟩) 1 1) 1 [.int .u8 4] := ⟨by simp, .inr ⟨_, 1, #[.int .u8 4], rfl, by omega, by have := heap_new (((w1.setCell ⟨w.heap.size, 0, none⟩ (.int .i64 4)).setCell ⟨w.heap.size, 1, none⟩ (.int .i64 4)).setCell ⟨w.heap.size, 2, none⟩ (.string ⟨#[]⟩)) (.cells #[.int .u8 4] 5); simpa using this, by omega, by unfold maxLen; omega, rfl, rfl⟩⟩
  go_wp2_with (at_builtin; go_must (refine wpList_append_own _ rfl _ _ 22 rfl (w.heap.size + 1) 5 i0 (.int .u8 0) 1 1 Tryz.underlying22 hi hz0 hz1 hz2 rfl (by decide) _ _ _ rfl (hown.alloc _) ⟨w1.heap.size + 1, 0, none⟩ 1 1 [.int .u8 4] rfl rfl (by intro j u hj; have := news_of ((((w1.setCell ⟨w.heap.size, 0, none⟩ (.int .i64 4)).setCell ⟨w.heap.size, 1, none⟩ (.int .i64 4)).setCell ⟨w.heap.size, 2, none⟩ (.string ⟨#[]⟩)).alloc (.cells #[.int .u8 4] 5)) [.int .u8 4] 5 j u hj; simpa using this) (one_mem rfl) (by unfold maxLen; omega) (by omega) (by simp; omega) ?_); intro v' w2 hown' hgrow _)
  go_ret
  refine ⟨_, rfl, owns_mono hown' (by omega), (((((h2.setCell ?_ _).setCell ?_ _).setCell ?_ _).alloc _).alloc _).grown hgrow (fun k hk => .inr (by have := (hown.lt k hk).1; omega))⟩
  all_goals exact .inr (Nat.le_refl _)
end Go.Proofs.YtnmkhoebijodhaaGreatDoor
