/-
  keep.number (a number laid in so many bytes), keep.sum.
-/
import Derived.Test.YtnmkhoebijodhaaGreatDoorSeqL
import Derived.Test.YtnmkhoebijodhaaGreatDoorSum
import Derived.Test.YtnmkhoebijodhaaGreatDoorKpP
namespace Go.Proofs.YtnmkhoebijodhaaGreatDoor
open Go.RowKit Go.Shelf

abbrev u8L (l : List Int) : List Value := l.map (Value.int .u8)
theorem beI_get (k : Nat) (n : Int) (j : Nat) (hj : j < k) : (beI k n)[j]? = some (n / 2 ^ (8 * (k - 1 - j)) % 256) := by
  rw [beI_range]
  simp [hj]
theorem Fr.kt {B : Nat} {T : Option TypeId} {w w1 : World} (h : Fr [] w w1) : KeptT B [] T w w1 := h.keptT B T

set_option maxRecDepth 100000 in
set_option maxHeartbeats 1600000 in
theorem keepNumber (B0 : Nat) (v : Value) (m : Nat) (bs : List Int) (n : Int) (k : Nat) (w : World) (hrow : w.ownsRow B0 5 1 v m (u8L bs)) (hB0 : B0 ≤ w.heap.size) (hm : m ≤ 4000000) (hk : 1 ≤ k ∧ k ≤ 8) :
    Calls Tryz.prog 33 #[v, .int .u64 n, .int .i64 (k : Int)] w fun e w1 => ∃ v2, e = .returned v2 ∧ w1.ownsRow B0 5 1 v2 (m + k) (u8L (bs ++ beI k n)) ∧ KeptT B0 [] (some 5) w w1 := by
  obtain ⟨i0, hi, hz0, hz1, hz2⟩ := info_parts info5
  obtain ⟨hk1, hk8⟩ := hk
  have hw1 : IntKind.i64.wrap ((k : Int) - 1) = (k : Int) - 1 := by rw [IntKind.wrap_i64]; omega
  have hw2 : IntKind.i64.wrap (8 * ((k : Int) - 1)) = 8 * ((k : Int) - 1) := by rw [IntKind.wrap_i64]; omega
  go_enter Tryz.func33, Tryz.ntmps33
  go_wp2_with fail
  go_loopw [0, 7] (fun b a wr => ∃ j : Nat, j ≤ k ∧ a = .int .i64 (8 * ((k : Int) - 1 - (j : Int))) ∧ KeptT B0 [] (some 5) w wr ∧
      wr.ownsRow B0 5 1 b (m + j) (u8L (bs ++ (beI k n).take j))) (fun _ a _ => (intOf a + 8).toNat)
  case atStart => exact ⟨0, by omega, by go_num, KeptT.refl _ _ _ _, by simpa using hrow⟩
  case round =>
    obtain ⟨j, hj, rfl, hkt, hown⟩ := hrel
    have hz := hkt.size
    by_cases hlt : j < k
    · have hg := Lib.hid (beI_get k n j hlt)
      have hx : 8 * ((k : Int) - 1 - (j : Int)) = ((8 * (k - 1 - j) : Nat) : Int) := by omega
      rw [hx]
      have hs8 : 8 * (k - 1 - j) < 64 := by omega
      have hw3 : IntKind.i64.wrap (((8 * (k - 1 - j) : Nat) : Int) - 8) = 8 * ((k : Int) - 1 - ((j + 1 : Nat) : Int)) := by rw [IntKind.wrap_i64]; omega
      generalize 8 * (k - 1 - j) = q at *
      obtain ⟨y, hy⟩ : ∃ y, n / 2 ^ q % 256 = y := ⟨_, rfl⟩
      go_wp2_with (at_builtin; refine wpList_append_own _ rfl _ _ 22 rfl B0 5 i0 (.int .u8 0) 1 1 Tryz.underlying22 hi hz0 hz1 hz2 rfl (by decide) _ _ _ rfl (hown.alloc _) ⟨wr.heap.size, 0, none⟩ 1 1 [.int .u8 y] rfl rfl (news_of _ _ _) (one_mem rfl) (by unfold maxLen; omega) (by omega) (by simp; omega) ?_; intro v' w2 hown' hgrow _)
      go_roundw
      case rel =>
        have hk5 : KeptT B0 [] (some 5) wr w2 := ((Fr.refl [] wr).alloc _).kt.trans (KeptT.grown hgrow (fun g hg => by
          rcases hown.2 with ⟨h, _⟩ | ⟨g', cap, cur, h, hg', hh, _⟩
          · rw [h] at hg; cases hg
          · rw [h] at hg; cases hg
            exact ⟨hg', cur, _, ((Fr.refl [] wr).alloc _).heap hh (by simp)⟩))
        have e : u8L (bs ++ (beI k n).take (j + 1)) = u8L (bs ++ (beI k n).take j) ++ [.int .u8 y] := by
          rw [List.take_add_one, hg.out, hy]
          simp
        refine ⟨j + 1, by omega, by go_num, hkt.trans hk5, ?_⟩
        rw [e]
        exact hown'
      case measure => simp [intOf]; omega
    · obtain rfl : j = k := by omega
      go_wp2
      go_ret
      exact ⟨_, rfl, by simpa [List.take_of_length_le, beI_len] using hown, hkt⟩

set_option maxRecDepth 100000 in
theorem keepSum (v : Value) (l : List Int) (w : World) (hv : SlAt w v 1 l.length (u8L l)) (hb : ∀ c ∈ l, 0 ≤ c ∧ c < 256) (hl : l.length ≤ 4000000) : Calls Tryz.prog 35 #[v] w fun e w1 => e = .returned (.int .u64 (fnv l)) ∧ Fr [] w w1 := by
  have hbd := Lib.hid hb
  obtain ⟨a, cap, rfl, hc1, hc2⟩ := hv.form
  have HV := Lib.hid hv
  clear hb hv
  go_enter Tryz.func35, Tryz.ntmps35
  go_wp2_with fail
  go_loop [3, 8] (fun h i => ∃ k : Nat, k ≤ l.length ∧ i = .int .i64 (k : Int) ∧ h = .int .u64 (fnv (l.take k))) (fun _ i => l.length - (intOf i).toNat)
  case atStart => exact ⟨0, by omega, rfl, fnv_nil⟩
  case round =>
    obtain ⟨k, hk, rfl, rfl⟩ := hrel
    by_cases hlt : k < l.length
    · obtain ⟨b, off, c, ec, hbl, hcell0⟩ := HV.out.cell (by omega)
      cases ec
      have hcell : w.cell? ⟨b, off + k, none⟩ = some (.int .u8 (l[k]?.getD 0)) := hcell0 k _ (by simp [hlt])
      have hb := hbd.out (l[k]?.getD 0) (by simp [hlt])
      have hs1 := Lib.hid (fnv_snoc l k hlt)
      clear hcell0
      generalize fnv (l.take k) = z at *
      go_wp2
      go_round
      case rel => exact ⟨k + 1, by omega, by go_num, by rw [hs1.out]; rfl⟩
      case measure => simp [intOf]; omega
    · obtain rfl : k = l.length := by omega
      rw [List.take_length]
      go_wp2
      go_ret
      exact ⟨rfl, Fr.refl _ _⟩
end Go.Proofs.YtnmkhoebijodhaaGreatDoor
