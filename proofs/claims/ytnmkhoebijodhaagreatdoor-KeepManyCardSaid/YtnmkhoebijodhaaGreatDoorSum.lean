/-
  Contracts of hash.Bytes (whole) and hash.Sum.
-/
import Derived.Test.YtnmkhoebijodhaaGreatDoorHash
import Derived.Laws.Bits64b
namespace Go.Proofs.YtnmkhoebijodhaaGreatDoor
open Go.RowKit

theorem mayV_text {k n : Int} {s : ByteArray} (hk : k = 0 ∨ k = 3) (h : mayV (V.mk k n s) = true) : s.size ≤ 32767 := by
  rcases hk with rfl | rfl
  · simp [mayV] at h
    have h2 : s.toList = [] := by simpa using h.2
    rw [ByteArray.toList_eq] at h2
    have h3 : s.data.toList.length = 0 := by rw [h2]; rfl
    rw [Array.length_toList] at h3
    have h4 : s.data.size = s.size := rfl
    omega
  · simp [mayV] at h
    exact h.2

theorem hashBytes (v : V) (w : World) (hs : v.s.size ≤ 9223372036854775807) : Calls Tryz.prog 246 #[v.val] w (BytesPost w.heap.size (bytesV v) w) := by
  obtain ⟨k, n, s⟩ := v
  cases h : mayV (V.mk k n s) with
  | false =>
    have e : bytesV (V.mk k n s) = [4, 4] := by simp [bytesV, goodV, h, bytesOf]
    rw [e]
    exact bytesBad k n s w hs h
  | true =>
    have hk : k = 0 ∨ k = 1 ∨ k = 2 ∨ k = 3 ∨ k = 4 := by
      apply Classical.byContradiction
      intro hk
      have h0 : k ≠ 0 := by omega
      have h1 : k ≠ 1 := by omega
      have h2 : k ≠ 2 := by omega
      have h3 : k ≠ 3 := by omega
      have h4 : k ≠ 4 := by omega
      simp [mayV, h0, h1, h2, h3, h4] at h
    rcases hk with rfl | rfl | rfl | rfl | rfl
    · have e : bytesV (V.mk 0 n s) = 0 :: s.data.toList.map fun b => (b.toNat : Int) := by simp [bytesV, goodV, h, bytesOf]
      rw [e]
      exact bytesText 0 n s w hs (mayV_text (.inl rfl) h) (.inl rfl) h
    · have e : bytesV (V.mk 1 n s) = 1 :: be8 n := by simp [bytesV, goodV, h, bytesOf]
      rw [e]
      exact bytes1 n s w hs h
    · have e : bytesV (V.mk 2 n s) = [2, n % 256] := by simp [bytesV, goodV, h, bytesOf]
      rw [e]
      exact bytes24 2 n s w hs (.inl rfl) h
    · have e : bytesV (V.mk 3 n s) = 3 :: s.data.toList.map fun b => (b.toNat : Int) := by simp [bytesV, goodV, h, bytesOf]
      rw [e]
      exact bytesText 3 n s w hs (mayV_text (.inr rfl) h) (.inr rfl) h
    · have e : bytesV (V.mk 4 n s) = [4, n % 256] := by simp [bytesV, goodV, h, bytesOf]
      rw [e]
      exact bytes24 4 n s w hs (.inr rfl) h

/-- Every byte is one. -/
theorem goodV_kind (v : V) : 0 ≤ (goodV v).k ∧ (goodV v).k < 256 := by
  unfold goodV
  split
  · rename_i h
    by_cases hk : 0 ≤ v.k ∧ v.k < 256
    · exact hk
    · have h0 : v.k ≠ 0 := by omega
      have h1 : v.k ≠ 1 := by omega
      have h2 : v.k ≠ 2 := by omega
      have h3 : v.k ≠ 3 := by omega
      have h4 : v.k ≠ 4 := by omega
      simp [mayV, h0, h1, h2, h3, h4] at h
  · exact ⟨by decide, by decide⟩
theorem bytesV_bd (v : V) : ∀ c ∈ bytesV v, 0 ≤ c ∧ c < 256 := by
  intro c hc
  have hk := goodV_kind v
  unfold bytesV bytesOf at hc
  split at hc
  · simp only [List.mem_cons, be8, List.mem_map] at hc
    rcases hc with rfl | ⟨i, _, rfl⟩
    · omega
    · omega
  · split at hc
    · simp only [List.mem_cons, List.not_mem_nil, or_false] at hc
      rcases hc with rfl | rfl <;> omega
    · simp only [List.mem_cons, List.mem_map] at hc
      rcases hc with rfl | ⟨b, _, rfl⟩
      · exact hk
      · have := b.toNat_lt
        omega

theorem bytesV_pos (v : V) : 0 < (bytesV v).length := by
  unfold bytesV bytesOf
  split
  · simp
  · split <;> simp

/-- One byte more. -/
def hstep (z c : Int) : Int := IntKind.u64.wrap (bits BinOp.xor IntKind.u64 z (IntKind.u64.wrap c) * 1099511628211)
/-- The sum of 64 bits. -/
def fnv (l : List Int) : Int := l.foldl hstep 14695981039346656037
theorem fnv_nil : Value.int .u64 14695981039346656037 = .int .u64 (fnv []) := rfl
theorem fnv_snoc (l : List Int) (k : Nat) (h : k < l.length) : fnv (l.take (k + 1)) = hstep (fnv (l.take k)) l[k] := by
  unfold fnv
  rw [List.take_succ_eq_append_getElem h, List.foldl_append]
  rfl

theorem hstep_bd (z c : Int) : 0 ≤ hstep z c ∧ hstep z c < 18446744073709551616 := by
  unfold hstep
  rw [IntKind.wrap_u64]
  omega
theorem fold_bd (l : List Int) : ∀ z : Int, 0 ≤ z ∧ z < 18446744073709551616 → 0 ≤ l.foldl hstep z ∧ l.foldl hstep z < 18446744073709551616 := by
  induction l with
  | nil => exact fun z h => h
  | cons c l ih => exact fun z _ => ih _ (hstep_bd z c)
theorem fnv_bd (l : List Int) : 0 ≤ fnv l ∧ fnv l < 18446744073709551616 := fold_bd l _ (by omega)

/-- The sum of a value, of so many bits. -/
def sumV (v : V) (d : Int) : Int := fnv (bytesV v) % 2 ^ d.toNat

theorem mask_eq (z : Int) (d : Nat) (h0 : 0 ≤ z) (h1 : z < 18446744073709551616) (hd : d ≤ 64) :
    bits BinOp.and IntKind.u64 z (IntKind.u64.wrap (IntKind.u64.wrap (2 ^ d) - 1)) = z % 2 ^ d := by
  obtain ⟨n, rfl⟩ := Int.eq_ofNat_of_zero_le h0
  have hn : n < 18446744073709551616 := by omega
  have hm : IntKind.u64.wrap (IntKind.u64.wrap (2 ^ d) - 1) = ((2 ^ d - 1 : Nat) : Int) := by
    rw [IntKind.wrap_u64, IntKind.wrap_u64]
    have hp : 1 ≤ 2 ^ d := Nat.one_le_two_pow
    by_cases h64 : d = 64
    · subst h64
      decide
    · have hlt : 2 ^ d ≤ 2 ^ 63 := Nat.pow_le_pow_right (by omega) (by omega)
      have e : (2 : Int) ^ d = ((2 ^ d : Nat) : Int) := by simp
      rw [e]
      generalize 2 ^ d = q at *
      omega
  rw [hm]
  have hq : 2 ^ d - 1 < 18446744073709551616 := by
    have : 2 ^ d ≤ 2 ^ 64 := Nat.pow_le_pow_right (by omega) hd
    omega
  have h := bits_and_u64_nat n (2 ^ d - 1) hn hq
  rw [h, Nat.and_two_pow_sub_one_eq_mod]
  simp

theorem sumV_zero (v : V) : sumV v 0 = 0 := by
  unfold sumV
  exact Int.emod_one _
theorem sumV_less {a b : V} {d : Int} (h0 : 0 ≤ d) (h : sumV a (d + 1) = sumV b (d + 1)) : sumV a d = sumV b d := by
  obtain ⟨n, rfl⟩ := Int.eq_ofNat_of_zero_le h0
  unfold sumV at h ⊢
  have e1 : ((n : Int) + 1).toNat = n + 1 := by omega
  have e2 : (n : Int).toNat = n := by omega
  rw [e1] at h
  rw [e2]
  have hd : (2 : Int) ^ n ∣ 2 ^ (n + 1) := ⟨2, by rw [Int.pow_succ]⟩
  rw [← Int.emod_emod_of_dvd (fnv (bytesV a)) hd, ← Int.emod_emod_of_dvd (fnv (bytesV b)) hd, h]

set_option maxRecDepth 100000 in
theorem hashSum (v : V) (d : Int) (w : World) (hs : v.s.size ≤ 9223372036854775807) (h0 : 0 ≤ d) (h1 : d ≤ 64) : Calls Tryz.prog 200 #[v.val, .int .i64 d] w fun e w1 => e = .returned (.tuple #[.int .u64 (sumV v d), .int .i64 0]) ∧ Fr [] w w1 := by
  have hp := bytesV_pos v
  have hbd := Lib.hid (bytesV_bd v)
  generalize hl : bytesV v = l at *
  have HL := Lib.hid hl
  clear hl
  go_enter Tryz.func200, Tryz.ntmps200
  go_wp2_with fail
  refine (hashBytes v _ hs).mono ?_
  rw [HL.out]
  rintro e w1 ⟨x, rfl, hown, h1⟩
  obtain ⟨h2, hb, hz⟩ := h1.new1 (by simp)
  clear h1
  obtain ⟨g, cap, cur, rfl, hg, hcur, hnc, hcm, hcs, ht⟩ := owns_open hown hp
  have Hc := Lib.hid (take_cells hcur ht)
  clear hown hcur ht hcs
  unfold maxLen at hcm
  go_wp2_with fail
  go_loop [6, 18] (fun h i => ∃ k : Nat, k ≤ l.length ∧ i = .int .i64 (k : Int) ∧ h = .int .u64 (fnv (l.take k))) (fun _ i => l.length - (intOf i).toNat)
  case atStart => exact ⟨0, by omega, rfl, fnv_nil⟩
  case round =>
    obtain ⟨k, hk, rfl, rfl⟩ := hrel
    by_cases hlt : k < l.length
    · have hcell : w1.cell? ⟨g, k, none⟩ = some (.int .u8 (l[k]?.getD 0)) := Hc.out k _ (by simp [hlt])
      have hb := hbd.out (l[k]?.getD 0) (by simp [hlt])
      have hs1 := Lib.hid (fnv_snoc l k hlt)
      generalize fnv (l.take k) = z at *
      go_wp2
      go_round
      case rel => exact ⟨k + 1, by omega, by go_num, by rw [hs1.out]; rfl⟩
      case measure => simp [intOf]; omega
    · obtain rfl : k = l.length := by omega
      rw [List.take_length]
      have hm := Lib.hid (mask_eq (fnv l) d.toNat (fnv_bd l).1 (fnv_bd l).2 (by omega))
      have hS : Hid (sumV v d = fnv l % 2 ^ d.toNat) := by show sumV v d = _; unfold sumV; rw [HL.out]
      generalize fnv l = z at *
      go_wp2
      go_ret2
      refine ⟨?_, h2⟩
      rw [hS.out, ← hm.out]
      rfl
end Go.Proofs.YtnmkhoebijodhaaGreatDoor
