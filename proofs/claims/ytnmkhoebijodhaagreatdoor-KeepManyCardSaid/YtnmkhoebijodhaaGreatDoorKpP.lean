/-
  A kept workbook's bytes, in plain words.
-/
import Derived.Test.YtnmkhoebijodhaaGreatDoorMap
import Derived.Laws.Bits64b
namespace Go.Proofs.YtnmkhoebijodhaaGreatDoor
open Go.RowKit

/-- A number in so many bytes, the highest first. -/
def beI : Nat → Int → List Int
  | 0, _ => []
  | k + 1, n => n / 256 ^ k % 256 :: beI k n
theorem beI_len : ∀ (k : Nat) (n : Int), (beI k n).length = k
  | 0, _ => rfl
  | k + 1, n => by rw [beI, List.length_cons, beI_len k n]
theorem beI_byte : ∀ (k : Nat) (n : Int), ∀ b ∈ beI k n, 0 ≤ b ∧ b < 256
  | 0, _, b, h => by simp [beI] at h
  | k + 1, n, b, h => by
    rcases List.mem_cons.1 h with rfl | h
    · exact ⟨Int.emod_nonneg _ (by decide), Int.emod_lt_of_pos _ (by decide)⟩
    · exact beI_byte k n b h
theorem beI_range : ∀ (k : Nat) (n : Int), beI k n = (List.range k).map fun i => n / 2 ^ (8 * (k - 1 - i)) % 256
  | 0, _ => rfl
  | k + 1, n => by
    rw [beI, List.range_succ_eq_map, List.map_cons, List.map_map, beI_range k n]
    have e1 : (256 : Int) ^ k = 2 ^ (8 * (k + 1 - 1 - 0)) := by
      rw [show k + 1 - 1 - 0 = k by omega, Int.pow_mul]
      rfl
    rw [e1]
    congr 1
    refine List.map_congr_left fun i _ => ?_
    show _ = n / 2 ^ (8 * (k + 1 - 1 - (i + 1))) % 256
    rw [show k + 1 - 1 - (i + 1) = k - 1 - i by omega]
/-- Bytes read as a number, behind what was read ahead. -/
def numI (a : Int) (l : List Int) : Int := l.foldl (fun x c => x * 256 + c) a
theorem numI_beI : ∀ (k : Nat) (a n : Int), numI a (beI k n) = a * 256 ^ k + n % 256 ^ k
  | 0, a, n => by simp [numI, beI, Int.emod_one]
  | k + 1, a, n => by
    have ih := numI_beI k (a * 256 + n / 256 ^ k % 256) n
    have h1 : numI a (beI (k + 1) n) = numI (a * 256 + n / 256 ^ k % 256) (beI k n) := rfl
    rw [h1, ih]
    have hp : (0 : Int) < 256 ^ k := Int.pow_pos (by decide)
    have h2 : n % 256 ^ (k + 1) = (n / 256 ^ k % 256) * 256 ^ k + n % 256 ^ k := by
      have e1 := Int.emod_add_mul_ediv n (256 ^ k)
      have e2 := Int.emod_add_mul_ediv (n / 256 ^ k) 256
      have e3 := Int.emod_add_mul_ediv n (256 ^ (k + 1))
      have hb1 := Int.emod_nonneg n (Int.ne_of_gt hp)
      have hb2 := Int.emod_lt_of_pos n hp
      have hb3 := Int.emod_nonneg (n / 256 ^ k) (show (256 : Int) ≠ 0 by decide)
      have hb4 := Int.emod_lt_of_pos (n / 256 ^ k) (show (0 : Int) < 256 by decide)
      have hpe : (256 : Int) ^ (k + 1) = 256 ^ k * 256 := Int.pow_succ ..
      generalize hQ : n / 256 ^ k = q at *
      generalize hR : n % 256 ^ k = r at *
      generalize (256 : Int) ^ k = P at *
      have hn : n = (q % 256 * P + r) + 256 ^ (k + 1) * (q / 256) := by
        rw [hpe]
        have : P * q = P * (q % 256) + P * (256 * (q / 256)) := by rw [← Int.mul_add, e2]
        rw [← e1, this, Int.mul_comm (q % 256) P, Int.mul_assoc P 256]
        omega
      have hlt : q % 256 * P + r < 256 ^ (k + 1) := by
        rw [hpe]
        have : q % 256 * P ≤ 255 * P := Int.mul_le_mul_of_nonneg_right (by omega) (Int.le_of_lt hp)
        omega
      have hge : 0 ≤ q % 256 * P + r := Int.add_nonneg (Int.mul_nonneg hb3 (Int.le_of_lt hp)) hb1
      rw [hn, Int.add_mul_emod_self_left, Int.emod_eq_of_lt hge hlt]
    rw [h2, Int.pow_succ, Int.add_mul, Int.mul_assoc, Int.mul_comm 256 (256 ^ k)]
    omega
theorem numI_beI0 {k : Nat} {n : Int} (h0 : 0 ≤ n) (h1 : n < 256 ^ k) : numI 0 (beI k n) = n := by
  rw [numI_beI, Int.zero_mul, Int.zero_add, Int.emod_eq_of_lt h0 h1]
theorem or_byte (x c : Nat) (hx : x < 72057594037927936) (hc : c < 256) : bits BinOp.or IntKind.u64 ((x * 256 : Nat) : Int) (c : Int) = ((x * 256 + c : Nat) : Int) := by
  rw [bits_or_u64_nat (x * 256) c (by omega) (by omega)]
  have := Nat.two_pow_add_eq_or_of_lt (i := 8) (b := c) (by simpa using hc) x
  rw [show x * 256 = 2 ^ 8 * x by omega, ← this]
/-- A text's bytes. -/
def txI (s : ByteArray) : List Int := s.data.toList.map fun b => (b.toNat : Int)
theorem txI_len (s : ByteArray) : (txI s).length = s.size := by simp [txI]
def cellI (x : Sp × ByteArray) : List Int := beI 2 x.1.1 ++ (beI 2 x.1.2 ++ (beI 4 (x.2.size : Int) ++ txI x.2))
theorem cellI_len (x : Sp × ByteArray) : (cellI x).length = 8 + x.2.size := by
  simp only [cellI, List.length_append, beI_len, txI_len]
  omega
/-- All that the sum is taken of. -/
def headI (d : Int) (l : List (Sp × ByteArray)) : List Int := [81, 68, 82, 76, d] ++ (beI 4 (l.length : Int) ++ l.flatMap cellI)
def bytesN (l : List (Sp × ByteArray)) : Nat := (l.map fun x => 8 + x.2.size).sum
theorem flat_cellI : ∀ l : List (Sp × ByteArray), (l.flatMap cellI).length = bytesN l
  | [] => rfl
  | x :: l => by
    have ih := flat_cellI l
    simp only [List.flatMap_cons, List.length_append, cellI_len, ih]
    simp [bytesN]
theorem headI_len (d : Int) (l : List (Sp × ByteArray)) : (headI d l).length = 9 + bytesN l := by
  simp only [headI, List.length_append, beI_len, flat_cellI, List.length_cons, List.length_nil]
  omega
/-- The places that are filled, one behind the other. -/
def spN (cols i : Nat) : Sp := (((i / cols : Nat) : Int), ((i % cols : Nat) : Int))
theorem spN_lt {cols i j : Nat} (hc : 0 < cols) (h : i < j) : (spN cols i).1 < (spN cols j).1 ∨ ((spN cols i).1 = (spN cols j).1 ∧ (spN cols i).2 < (spN cols j).2) := by
  have h1 := Nat.div_add_mod i cols
  have h2 := Nat.div_add_mod j cols
  have h3 := Nat.mod_lt i hc
  have h4 := Nat.mod_lt j hc
  have h5 : i / cols ≤ j / cols := Nat.div_le_div_right (Nat.le_of_lt h)
  unfold spN
  rcases Nat.lt_or_ge (i / cols) (j / cols) with h6 | h6
  · exact .inl (Int.ofNat_lt.2 h6)
  · have h7 : i / cols = j / cols := Nat.le_antisymm h5 h6
    refine .inr ⟨by rw [h7], ?_⟩
    rw [h7] at h1
    simp only [Int.ofNat_lt]
    omega
theorem spN_ne {cols i j : Nat} (hc : 0 < cols) (h : i ≠ j) : spN cols i ≠ spN cols j := fun e => by
  rcases Nat.lt_or_gt_of_ne h with h1 | h1
  · have := spN_lt hc h1
    rw [e] at this
    omega
  · have := spN_lt hc h1
    rw [e] at this
    omega
theorem spN_may {cols i : Nat} (hc : 0 < cols) (h7 : cols ≤ 702) (hi : i < 65536) : 0 ≤ (spN cols i).1 ∧ (spN cols i).1 < 65536 ∧ 0 ≤ (spN cols i).2 ∧ (spN cols i).2 < 702 := by
  have h1 : i / cols ≤ i := Nat.div_le_self _ _
  have h2 := Nat.mod_lt i hc
  have h3 : i / cols < 65536 := by omega
  have h4 : i % cols < 702 := by omega
  exact ⟨Int.natCast_nonneg _, Int.ofNat_lt.2 h3, Int.natCast_nonneg _, Int.ofNat_lt.2 h4⟩
theorem getS_new {α : Type} (s : Sp) : ∀ l : List (Sp × α), (∀ p ∈ l, p.1 ≠ s) → getS s l = none
  | [], _ => rfl
  | p :: l, h => by
    rw [getS, if_neg (fun e => h p (by simp) e.symm)]
    exact getS_new s l fun q hq => h q (by simp [hq])
theorem putS_new {α : Type} (s : Sp) (v : α) : ∀ l : List (Sp × α), (∀ p ∈ l, p.1 ≠ s) → putS s v l = l ++ [(s, v)]
  | [], _ => rfl
  | p :: l, h => by
    rw [putS, if_neg (fun e => h p (by simp) e.symm), putS_new s v l fun q hq => h q (by simp [hq])]
    rfl
theorem take_new {α : Type} {l : List (Sp × α)} (hn : (l.map (·.1)).Nodup) {k : Nat} (hk : k < l.length) : ∀ p ∈ l.take k, p.1 ≠ l[k].1 := fun p hp e => by
  obtain ⟨i, hi, rfl⟩ := List.mem_iff_getElem.1 hp
  rw [List.length_take] at hi
  rw [List.getElem_take] at e
  have := List.pairwise_iff_getElem.1 hn i k (by simp; omega) (by simpa using hk) (by omega)
  simp only [List.getElem_map] at this
  exact this e
theorem putS_take {α : Type} {l : List (Sp × α)} (hn : (l.map (·.1)).Nodup) {k : Nat} (hk : k < l.length) : putS l[k].1 l[k].2 (l.take k) = l.take (k + 1) ∧ getS l[k].1 (l.take k) = none :=
  ⟨by rw [putS_new _ _ _ (take_new hn hk), List.take_succ_eq_append_getElem hk], getS_new _ _ (take_new hn hk)⟩
/-- So many places, the same at each. -/
def manyL {α : Type} (cols n : Nat) (x : α) : List (Sp × α) := (List.range n).map fun i => (spN cols i, x)
theorem manyL_len {α : Type} (cols n : Nat) (x : α) : (manyL cols n x).length = n := by simp [manyL]
theorem manyL_get {α : Type} (cols n : Nat) (x : α) {i : Nat} (h : i < (manyL cols n x).length) : (manyL cols n x)[i] = (spN cols i, x) := by simp [manyL]
theorem manyL_asc {α : Type} {cols : Nat} (hc : 0 < cols) (n : Nat) (x : α) : ((manyL cols n x).map (·.1)).Pairwise fun s t => s.1 < t.1 ∨ (s.1 = t.1 ∧ s.2 < t.2) := by
  rw [List.pairwise_iff_getElem]
  intro i j hi hj hij
  simp only [List.getElem_map, manyL_get]
  exact spN_lt hc hij
theorem manyL_nodup {α : Type} {cols : Nat} (hc : 0 < cols) (n : Nat) (x : α) : ((manyL cols n x).map (·.1)).Nodup :=
  (manyL_asc hc n x).imp fun {a b} h e => by
    subst e
    omega
theorem manyL_take {α : Type} (cols : Nat) {n k : Nat} (h : k ≤ n) (x : α) : (manyL cols n x).take k = manyL cols k x := by
  unfold manyL
  rw [← List.map_take, List.take_range, Nat.min_eq_left h]
theorem manyL_put {α : Type} {cols : Nat} (hc : 0 < cols) (n : Nat) (x : α) : putS (spN cols n) x (manyL cols n x) = manyL cols (n + 1) x ∧ getS (spN cols n) (manyL cols n x) = none := by
  have hk : n < (manyL cols (n + 1) x).length := by rw [manyL_len]; omega
  have := putS_take (manyL_nodup hc (n + 1) x) hk
  rw [manyL_get, manyL_take cols (Nat.le_succ n), manyL_take cols (Nat.le_refl _)] at this
  exact this
theorem manyL_bytes {cols n : Nat} (t : ByteArray) : bytesN (manyL cols n t) = n * (8 + t.size) := by
  unfold bytesN manyL
  rw [List.map_map]
  induction n with
  | zero => simp
  | succ n ih =>
    rw [List.range_succ, List.map_append, List.sum_append, ih]
    simp [Nat.succ_mul]
end Go.Proofs.YtnmkhoebijodhaaGreatDoor
