/-
  The document's value.May, value.Same, and its sums (quadrilleref4, quadrilleref6); its places (quadrilleref22).
-/
import Derived.Test.YtldppdafgbipjaaSum
namespace Go.Proofs.Ytldppdafgbipjaa
open Go.RowKit

set_option maxHeartbeats 800000 in
theorem refMay (v : V) (w : World) (hs : v.s.size ≤ 9223372036854775807) : Calls Try.prog 120 #[v.val] w fun e w1 => e = .returned (.bool (mayV v)) ∧ Fr [] w w1 := by
  obtain ⟨k, n, s⟩ := v
  dsimp only at hs
  rcases (by omega : k = 0 ∨ k = 1 ∨ k = 2 ∨ k = 3 ∨ k = 4 ∨ (k ≠ 0 ∧ k ≠ 1 ∧ k ≠ 2 ∧ k ≠ 3 ∧ k ≠ 4)) with rfl | rfl | rfl | rfl | rfl | ⟨h0, h1, h2, h3, h4⟩
  all_goals
    go_enter Try.func120, Try.ntmps120
    go_wp2
    all_goals
      go_ret
      refine ⟨ret_bool ?_, (Fr.refl _ _).alloc _⟩
      simp [mayV, *]
      try omega

theorem refSame (a b : V) (w : World) : Calls Try.prog 122 #[a.val, b.val] w fun e w1 => e = .returned (.bool (sameVB a b)) ∧ Fr [] w w1 := by
  go_enter Try.func122, Try.ntmps122
  go_wp2
  all_goals
    go_ret
    refine ⟨ret_bool ?_, ((Fr.refl _ _).alloc _).alloc _⟩
    simp [sameVB, *]

set_option maxHeartbeats 400000 in
theorem refPlace (r c : Int) (w : World) : Calls Try.prog 139 #[spotV r c] w fun e w1 => e = .returned (.bool (mayS r c)) ∧ Fr [] w w1 := by
  by_cases h1 : 0 ≤ r
  · by_cases h2 : r < 65536
    · by_cases h3 : 0 ≤ c
      · by_cases h4 : c < 702
        all_goals
          go_enter Try.func139, Try.ntmps139
          go_wp2
          go_ret
          exact ⟨ret_bool (by simp [mayS, *] <;> omega), (Fr.refl _ _).alloc _⟩
      · go_enter Try.func139, Try.ntmps139
        go_wp2
        go_ret
        exact ⟨ret_bool (by simp [mayS, *] <;> omega), (Fr.refl _ _).alloc _⟩
    · go_enter Try.func139, Try.ntmps139
      go_wp2
      go_ret
      exact ⟨ret_bool (by simp [mayS, *] <;> omega), (Fr.refl _ _).alloc _⟩
  · go_enter Try.func139, Try.ntmps139
    go_wp2
    go_ret
    exact ⟨ret_bool (by simp [mayS, *] <;> omega), (Fr.refl _ _).alloc _⟩

theorem refErr (n : Int) (w : World) : Calls Try.prog 151 #[.int .i64 n] w fun e w1 => e = .returned (V.mk 4 n ⟨#[]⟩).val ∧ Fr [] w w1 := by
  go_enter Try.func151, Try.ntmps151
  go_wp2
  refine bodyPost_ret (v := (V.mk 4 n ⟨#[]⟩).val) (by simp [results, Try.results151, go_sem]) rfl ⟨rfl, (Fr.refl _ _).alloc _⟩

theorem shr8 (n : Int) (j : Nat) (hj : j ≤ 7) : IntKind.u64.wrap n / 2 ^ (56 - 8 * j) % 256 = n / 2 ^ (56 - 8 * j) % 256 := by
  rw [IntKind.wrap_u64]
  rcases (by omega : j = 0 ∨ j = 1 ∨ j = 2 ∨ j = 3 ∨ j = 4 ∨ j = 5 ∨ j = 6 ∨ j = 7) with rfl | rfl | rfl | rfl | rfl | rfl | rfl | rfl <;> simp <;> omega

set_option maxRecDepth 100000 in
theorem rbytes1 (n : Int) (s : ByteArray) (w : World) (hs : s.size ≤ 9223372036854775807) (h : mayV (V.mk 1 n s) = true) :
    Calls Try.prog 141 #[.agg #[.int .i64 1, .int .i64 n, .string s]] w (BytesPost w.heap.size (1 :: be8 n) w) := by
  have H := Lib.hid h
  clear h
  obtain ⟨i0, hi, hz0, hz1, hz2⟩ := info_parts info5
  go_enter Try.func141, Try.ntmps141
  go_wp2_with fail
  refine (refMay ⟨1, n, s⟩ _ hs).mono ?_; rintro e w1 ⟨rfl, h1⟩
  rw [H.out]
  obtain ⟨h2, hb, hz⟩ := h1.new1 (by simp)
  clear h1
  have hc := cell_of hb
  have hf := free_of hb
  go_wp2_with fail
  go_loopw [3, 4] (fun b a wr => ∃ j : Nat, j ≤ 8 ∧ a = .int .i64 (56 - 8 * (j : Int)) ∧ Fr [] w wr ∧ wr.heap[w.heap.size]? = some (.cells #[.int .i64 1, .int .i64 n, .string s] 23 (0, 0)) ∧
      wr.ownsRow (w.heap.size + 1) 5 1 b (j + 1) ((1 :: (List.range j).map fun i => IntKind.u64.wrap n / 2 ^ (56 - 8 * i) % 256).map (Value.int .u8))) (fun _ a _ => (intOf a + 8).toNat)
  case atStart => exact ⟨0, by omega, rfl, h2.alloc _, (Fr.refl [] _).alloc _ |>.heap hb (by simp), by simp, .inr ⟨_, 1, #[.int .u8 1], rfl, by omega, heap_new _ _, by omega, by unfold maxLen; omega, rfl, rfl⟩⟩
  case round =>
    obtain ⟨j, hj, rfl, hfr, hbk, hown⟩ := hrel
    have hc := cell_of hbk
    have hf := free_of hbk
    by_cases hlt : j < 8
    · go_wp2_with (at_builtin; refine wpList_append_own _ rfl _ _ 194 rfl (w.heap.size + 1) 5 i0 (.int .u8 0) 1 1 Try.underlying194 hi hz0 hz1 hz2 rfl (by decide) _ _ _ rfl (hown.alloc _) ⟨wr.heap.size, 0, none⟩ 1 1 [.int .u8 (IntKind.u64.wrap n / 2 ^ (56 - 8 * j) % 256)] rfl rfl (news_of _ _ _) (one_mem rfl) (by unfold maxLen; omega) (by omega) (by have := lt_of hbk; simp; omega) ?_; intro v' w1 hown' hgrow _)
      go_roundw
      case rel =>
        refine ⟨j + 1, by omega, by go_num, (hfr.alloc _).grown hgrow ?_, ((hgrow.block _ ?_ ?_).trans (((Fr.refl [] _).alloc _).heap hbk (by simp))), by rw [List.range_succ]; simpa using hown'⟩
        · intro k hk
          have := (hown.lt k hk).1
          omega
        · have := lt_of hbk
          simp
          omega
        · intro hk
          have := (hown.lt _ hk.symm).1
          omega
      case measure => simp [intOf]; omega
    · obtain rfl : j = 8 := by omega
      have e8 : ((List.range 8).map fun i => IntKind.u64.wrap n / 2 ^ (56 - 8 * i) % 256) = be8 n := by
        unfold be8
        refine List.map_congr_left fun i hi => ?_
        exact shr8 n i (by have := List.mem_range.1 hi; omega)
      rw [e8] at hown
      go_wp2
      go_ret
      exact ⟨_, rfl, owns_mono (by simpa [be8] using hown) (by omega), hfr⟩

set_option maxRecDepth 100000 in
theorem rbytes24 (k n : Int) (s : ByteArray) (w : World) (hs : s.size ≤ 9223372036854775807) (hk : k = 2 ∨ k = 4) (h : mayV (V.mk k n s) = true) :
    Calls Try.prog 141 #[.agg #[.int .i64 k, .int .i64 n, .string s]] w (BytesPost w.heap.size [k, n % 256] w) := by
  obtain ⟨i0, hi, hz0, hz1, hz2⟩ := info_parts info5
  rcases hk with rfl | rfl
  all_goals
    have H := Lib.hid h
    clear h
    go_enter Try.func141, Try.ntmps141
    go_wp2_with fail
    refine (refMay ⟨_, n, s⟩ _ hs).mono ?_; rintro e w1 ⟨rfl, h1⟩
    rw [H.out]
    obtain ⟨h2, hb, hz⟩ := h1.new1 (by simp)
    clear h1
    have hc := cell_of hb
    have hf := free_of hb
  · have hown : (w1.alloc (.cells #[.int .u8 2] 5)).ownsRow (w.heap.size + 1) 5 1 (.slice (some ⟨w1.heap.size, 0, none⟩) 1 1) 1 [.int .u8 2] := ⟨by simp, .inr ⟨_, 1, #[.int .u8 2], rfl, by omega, heap_new _ _, by omega, by unfold maxLen; omega, rfl, rfl⟩⟩
    go_wp2_with (at_builtin; refine wpList_append_own _ rfl _ _ 194 rfl (w.heap.size + 1) 5 i0 (.int .u8 0) 1 1 Try.underlying194 hi hz0 hz1 hz2 rfl (by decide) _ _ _ rfl (hown.alloc _) ⟨w1.heap.size + 1, 0, none⟩ 1 1 [.int .u8 (n % 256)] rfl rfl (by have := news_of (w1.alloc (.cells #[.int .u8 2] 5)) [.int .u8 (n % 256)] 5; simpa using this) (one_mem rfl) (by unfold maxLen; omega) (by omega) (by simp; omega) ?_; intro v' w2 hown' hgrow _)
    go_ret
    exact ⟨_, rfl, owns_mono hown' (by omega), ((h2.alloc _).alloc _).grown hgrow (fun k hk => .inr (by have := (hown.lt k hk).1; omega))⟩
  · have hown : (w1.alloc (.cells #[.int .u8 4] 5)).ownsRow (w.heap.size + 1) 5 1 (.slice (some ⟨w1.heap.size, 0, none⟩) 1 1) 1 [.int .u8 4] := ⟨by simp, .inr ⟨_, 1, #[.int .u8 4], rfl, by omega, heap_new _ _, by omega, by unfold maxLen; omega, rfl, rfl⟩⟩
    go_wp2_with (at_builtin; refine wpList_append_own _ rfl _ _ 194 rfl (w.heap.size + 1) 5 i0 (.int .u8 0) 1 1 Try.underlying194 hi hz0 hz1 hz2 rfl (by decide) _ _ _ rfl (hown.alloc _) ⟨w1.heap.size + 1, 0, none⟩ 1 1 [.int .u8 (n % 256)] rfl rfl (by have := news_of (w1.alloc (.cells #[.int .u8 4] 5)) [.int .u8 (n % 256)] 5; simpa using this) (one_mem rfl) (by unfold maxLen; omega) (by omega) (by simp; omega) ?_; intro v' w2 hown' hgrow _)
    go_ret
    exact ⟨_, rfl, owns_mono hown' (by omega), ((h2.alloc _).alloc _).grown hgrow (fun k hk => .inr (by have := (hown.lt k hk).1; omega))⟩

theorem blank_empty {n : Int} {s : ByteArray} (h : mayV (V.mk 0 n s) = true) : s.data.toList = [] := by
  simp [mayV] at h
  have h2 : s.toList = [] := by simpa using h.2
  rwa [ByteArray.toList_eq] at h2

set_option maxRecDepth 100000 in
theorem rbytes0 (n : Int) (s : ByteArray) (w : World) (hs : s.size ≤ 9223372036854775807) (h : mayV (V.mk 0 n s) = true) :
    Calls Try.prog 141 #[.agg #[.int .i64 0, .int .i64 n, .string s]] w (BytesPost w.heap.size [0] w) := by
  have H := Lib.hid h
  clear h
  go_enter Try.func141, Try.ntmps141
  go_wp2_with fail
  refine (refMay ⟨_, n, s⟩ _ hs).mono ?_; rintro e w1 ⟨rfl, h1⟩
  rw [H.out]
  obtain ⟨h2, hb, hz⟩ := h1.new1 (by simp)
  clear h1
  have hc := cell_of hb
  have hf := free_of hb
  have hown : (w1.alloc (.cells #[.int .u8 0] 5)).ownsRow w.heap.size 5 1 (.slice (some ⟨w1.heap.size, 0, none⟩) 1 1) 1 [.int .u8 0] := ⟨by simp, .inr ⟨_, 1, #[.int .u8 0], rfl, by omega, heap_new _ _, by omega, by unfold maxLen; omega, rfl, rfl⟩⟩
  go_wp2
  go_ret
  exact ⟨_, rfl, hown, h2.alloc _⟩

set_option maxRecDepth 100000 in
theorem rbytes3 (n : Int) (s : ByteArray) (w : World) (hs : s.size ≤ 9223372036854775807) (hl : s.size ≤ 32767) (h : mayV (V.mk 3 n s) = true) :
    Calls Try.prog 141 #[.agg #[.int .i64 3, .int .i64 n, .string s]] w (BytesPost w.heap.size (3 :: s.data.toList.map fun b => (b.toNat : Int)) w) := by
  obtain ⟨i0, hi, hz0, hz1, hz2⟩ := info_parts info5
  have H := Lib.hid h
  clear h
  go_enter Try.func141, Try.ntmps141
  go_wp2_with fail
  refine (refMay ⟨_, n, s⟩ _ hs).mono ?_; rintro e w1 ⟨rfl, h1⟩
  rw [H.out]
  obtain ⟨h2, hb, hz⟩ := h1.new1 (by simp)
  clear h1
  have hc := cell_of hb
  have hf := free_of hb
  have hown : (w1.alloc (.cells #[.int .u8 3] 5)).ownsRow (w.heap.size + 1) 5 1 (.slice (some ⟨w1.heap.size, 0, none⟩) 1 1) 1 [.int .u8 3] := ⟨by simp, .inr ⟨_, 1, #[.int .u8 3], rfl, by omega, heap_new _ _, by omega, by unfold maxLen; omega, rfl, rfl⟩⟩
  go_wp2_with (at_builtin; refine Lib.wpList_append_own_string _ rfl _ _ 194 9 rfl (w.heap.size + 1) 5 i0 Try.underlying194 Try.underlying9 hi hz0 hz1 hz2 _ _ _ rfl hown s rfl (by unfold maxLen; omega) (by omega) (by simp; omega) ?_; intro v' w2 hown' hgrow _)
  go_ret
  refine ⟨_, rfl, owns_mono (B := w.heap.size + 1) ?_ (by omega), (h2.alloc _).grown hgrow (fun k hk => .inr (by have := (hown.lt k hk).1; omega))⟩
  have e : (3 :: s.data.toList.map fun b => (b.toNat : Int)).length = 1 + s.size := by rw [List.length_cons, List.length_map, Array.length_toList]; exact Nat.add_comm _ _
  rw [e]
  simpa [Lib.strCells, Function.comp_def] using hown'

set_option maxRecDepth 100000 in
theorem rbytesBad (k n : Int) (s : ByteArray) (w : World) (hs : s.size ≤ 9223372036854775807) (h : mayV (V.mk k n s) = false) :
    Calls Try.prog 141 #[.agg #[.int .i64 k, .int .i64 n, .string s]] w (BytesPost w.heap.size [4, 4] w) := by
  obtain ⟨i0, hi, hz0, hz1, hz2⟩ := info_parts info5
  have H := Lib.hid h
  clear h
  go_enter Try.func141, Try.ntmps141
  go_wp2_with fail
  refine (refMay ⟨_, n, s⟩ _ hs).mono ?_; rintro e w1 ⟨rfl, h1⟩
  rw [H.out]
  obtain ⟨h2, hb, hz⟩ := h1.new1 (by simp)
  clear h1
  go_wp2_with fail
  refine (refErr 4 _).mono ?_; rintro e w1' ⟨rfl, h1⟩
  have hb := h1.heap hb (by simp)
  have h2 := h2.trans0 h1
  have hz : w.heap.size < w1'.heap.size := lt_of hb
  clear h1
  have hc := cell_of hb
  have hf := free_of hb
  have hown : (((w1'.setCell ⟨w.heap.size, 0, none⟩ (.int .i64 4)).setCell ⟨w.heap.size, 1, none⟩ (.int .i64 4)).setCell ⟨w.heap.size, 2, none⟩ (.string ⟨#[]⟩) |>.alloc (.cells #[.int .u8 4] 5)).ownsRow (w.heap.size + 1) 5 1 (.slice (some ⟨w1'.heap.size, 0, none⟩) 1 1) 1 [.int .u8 4] := ⟨by simp, .inr ⟨_, 1, #[.int .u8 4], rfl, by omega, by have := heap_new (((w1'.setCell ⟨w.heap.size, 0, none⟩ (.int .i64 4)).setCell ⟨w.heap.size, 1, none⟩ (.int .i64 4)).setCell ⟨w.heap.size, 2, none⟩ (.string ⟨#[]⟩)) (.cells #[.int .u8 4] 5); simpa using this, by omega, by unfold maxLen; omega, rfl, rfl⟩⟩
  go_wp2_with (at_builtin; go_must (refine wpList_append_own _ rfl _ _ 194 rfl (w.heap.size + 1) 5 i0 (.int .u8 0) 1 1 Try.underlying194 hi hz0 hz1 hz2 rfl (by decide) _ _ _ rfl (hown.alloc _) ⟨w1'.heap.size + 1, 0, none⟩ 1 1 [.int .u8 4] rfl rfl (by intro j u hj; have := news_of ((((w1'.setCell ⟨w.heap.size, 0, none⟩ (.int .i64 4)).setCell ⟨w.heap.size, 1, none⟩ (.int .i64 4)).setCell ⟨w.heap.size, 2, none⟩ (.string ⟨#[]⟩)).alloc (.cells #[.int .u8 4] 5)) [.int .u8 4] 5 j u hj; simpa using this) (one_mem rfl) (by unfold maxLen; omega) (by omega) (by simp; omega) ?_); intro v' w2 hown' hgrow _)
  go_ret
  refine ⟨_, rfl, owns_mono hown' (by omega), (((((h2.setCell ?_ _).setCell ?_ _).setCell ?_ _).alloc _).alloc _).grown hgrow (fun k hk => .inr (by have := (hown.lt k hk).1; omega))⟩
  all_goals exact .inr (Nat.le_refl _)

theorem refBytes (v : V) (w : World) (hs : v.s.size ≤ 9223372036854775807) : Calls Try.prog 141 #[v.val] w (BytesPost w.heap.size (bytesV v) w) := by
  obtain ⟨k, n, s⟩ := v
  cases h : mayV (V.mk k n s) with
  | false =>
    have e : bytesV (V.mk k n s) = [4, 4] := by simp [bytesV, goodV, h, bytesOf]
    rw [e]
    exact rbytesBad k n s w hs h
  | true =>
    have hk : k = 0 ∨ k = 1 ∨ k = 2 ∨ k = 3 ∨ k = 4 := by
      apply Classical.byContradiction
      intro hk
      have h0 : k ≠ 0 := by omega
      have h1 : k ≠ 1 := by omega
      have h2 : k ≠ 2 := by omega
      have h3 : k ≠ 3 := by omega
      have h4 : k ≠ 4 := by omega
      simp [mayV, h0, h1, h2, h3, h4] at h
    rcases hk with rfl | rfl | rfl | rfl | rfl
    · have e : bytesV (V.mk 0 n s) = [0] := by simp [bytesV, goodV, h, bytesOf, blank_empty h]
      rw [e]
      exact rbytes0 n s w hs h
    · have e : bytesV (V.mk 1 n s) = 1 :: be8 n := by simp [bytesV, goodV, h, bytesOf]
      rw [e]
      exact rbytes1 n s w hs h
    · have e : bytesV (V.mk 2 n s) = [2, n % 256] := by simp [bytesV, goodV, h, bytesOf]
      rw [e]
      exact rbytes24 2 n s w hs (.inl rfl) h
    · have e : bytesV (V.mk 3 n s) = 3 :: s.data.toList.map fun b => (b.toNat : Int) := by simp [bytesV, goodV, h, bytesOf]
      rw [e]
      exact rbytes3 n s w hs (mayV_text (.inr rfl) h) h
    · have e : bytesV (V.mk 4 n s) = [4, n % 256] := by simp [bytesV, goodV, h, bytesOf]
      rw [e]
      exact rbytes24 4 n s w hs (.inr rfl) h

set_option maxRecDepth 100000 in
theorem refFnv (l : List Int) (g cap : Nat) (w : World) (hbd : ∀ c ∈ l, 0 ≤ c ∧ c < 256) (hcap : l.length ≤ cap) (hcm : cap ≤ 9223372036854775807) (hC : ∀ j x, l[j]? = some x → w.cell? ⟨g, j, none⟩ = some (.int .u8 x)) :
    Calls Try.prog 140 #[.slice (some ⟨g, 0, none⟩) l.length cap] w fun e w1 => e = .returned (.int .u64 (fnv l)) ∧ Fr [] w w1 := by
  have Hc := Lib.hid hC
  have Hb := Lib.hid hbd
  clear hC hbd
  go_enter Try.func140, Try.ntmps140
  go_wp2_with fail
  go_loop [3, 4] (fun h i => ∃ k : Nat, k ≤ l.length ∧ i = .int .i64 (k : Int) ∧ h = .int .u64 (fnv (l.take k))) (fun _ i => l.length - (intOf i).toNat)
  case atStart => exact ⟨0, by omega, rfl, fnv_nil⟩
  case round =>
    obtain ⟨k, hk, rfl, rfl⟩ := hrel
    by_cases hlt : k < l.length
    · have hcell : w.cell? ⟨g, k, none⟩ = some (.int .u8 (l[k]?.getD 0)) := Hc.out k _ (by simp [hlt])
      have hb := Hb.out (l[k]?.getD 0) (by simp [hlt])
      have hs1 := Lib.hid (fnv_snoc l k hlt)
      generalize fnv (l.take k) = z at *
      go_wp2
      go_round
      case rel => exact ⟨k + 1, by omega, by go_num, by rw [hs1.out]; rfl⟩
      case measure => simp [intOf]; omega
    · obtain rfl : k = l.length := by omega
      rw [List.take_length]
      have hz : Hid (∃ z, fnv l = z) := ⟨_, rfl⟩
      obtain ⟨z, hz⟩ := hz.out
      rw [hz]
      have HZ := Lib.hid hz
      clear hz
      go_wp2
      go_ret
      exact ⟨by rw [HZ.out]; rfl, Fr.refl _ _⟩

theorem shl_shr (z : Int) (d : Nat) (hd : d ≤ 64) : IntKind.u64.wrap (z * 2 ^ (64 - d)) / 2 ^ (64 - d) = z % 2 ^ d := by
  rw [IntKind.wrap_u64]
  have e : (18446744073709551616 : Int) = 2 ^ d * 2 ^ (64 - d) := by
    rw [← Int.pow_add, show d + (64 - d) = 64 by omega]
    decide
  have hp : (0 : Int) < 2 ^ (64 - d) := Int.pow_pos (by decide)
  rw [e, Int.mul_comm z, Int.mul_comm (2 ^ d), Int.mul_emod_mul_of_pos _ _ hp, Int.mul_ediv_cancel_left _ (by omega)]

set_option maxRecDepth 100000 in
theorem refSum (v : V) (d : Int) (w : World) (hs : v.s.size ≤ 9223372036854775807) (h0 : 0 ≤ d) (h1 : d ≤ 64) : Calls Try.prog 121 #[v.val, .int .i64 d] w fun e w1 => e = .returned (.tuple #[.int .u64 (sumV v d), .int .i64 0]) ∧ Fr [] w w1 := by
  by_cases hd0 : d = 0
  · subst hd0
    go_enter Try.func121, Try.ntmps121
    go_wp2
    go_ret2
    exact ⟨by rw [sumV_zero]; rfl, (Fr.refl _ _).alloc _⟩
  · have hp := bytesV_pos v
    have hbd := Lib.hid (bytesV_bd v)
    generalize hl : bytesV v = l at *
    have HL := Lib.hid hl
    clear hl
    go_enter Try.func121, Try.ntmps121
    go_wp2_with fail
    refine (refBytes v _ hs).mono ?_
    rw [HL.out]
    rintro e w1 ⟨x, rfl, hown, h1⟩
    obtain ⟨h2, hb, hz⟩ := h1.new1 (by simp)
    clear h1
    obtain ⟨g, cap, cur, rfl, hg, hcur, hnc, hcm, hcs, ht⟩ := owns_open hown hp
    have Hc := take_cells hcur ht
    clear hown ht hcs
    unfold maxLen at hcm
    go_wp2_with fail
    refine (refFnv l g cap _ hbd.out hnc hcm (fun j x hj => Hc j _ (by rw [List.getElem?_map, hj]; rfl))).mono ?_
    rintro e w2 ⟨rfl, h3⟩
    have hm := Lib.hid (shl_shr (fnv l) d.toNat (by omega))
    have hS : Hid (sumV v d = fnv l % 2 ^ d.toNat) := by show sumV v d = _; unfold sumV; rw [HL.out]
    generalize fnv l = z at *
    go_wp2
    go_ret2
    refine ⟨?_, h2.trans0 h3⟩
    have hst : (64 - d).toNat = 64 - d.toNat := by omega
    rw [hS.out, ← hm.out, ← hst]
    rfl
end Go.Proofs.Ytldppdafgbipjaa
