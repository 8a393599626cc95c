/-
  The plain law of GridFull: what the table holds. No program in sight.
-/
import Derived.Test.YtldppdafgbipjaaTab
import Derived.Test.YtldppdafgbipjaaSortP
namespace Go.Proofs.Ytldppdafgbipjaa
open Go.RowKit

/-- What the first n sets make. -/
def fullL (n : Nat) : List (Sp × Int) := (List.range n).map fun (i : Nat) => ((((i : Int) % 1000), ((i : Int) / 1000)), (i : Int) % 256)
theorem fullL_len (n : Nat) : (fullL n).length = n := by simp [fullL]
theorem fullL_succ (n : Nat) : fullL (n + 1) = fullL n ++ [((((n : Int) % 1000), ((n : Int) / 1000)), (n : Int) % 256)] := by simp [fullL, List.range_succ]
theorem fullL_mem (n : Nat) (s : Sp) : s ∈ (fullL n).map (·.1) ↔ ∃ i : Nat, i < n ∧ s = (((i : Int) % 1000), ((i : Int) / 1000)) := by
  simp only [fullL, List.map_map, List.mem_map, List.mem_range, Function.comp]
  constructor
  · rintro ⟨i, h, rfl⟩; exact ⟨i, h, rfl⟩
  · rintro ⟨i, h, rfl⟩; exact ⟨i, h, rfl⟩
theorem fullL_new (n : Nat) : getS (((n : Int) % 1000), ((n : Int) / 1000)) (fullL n) = none := by
  rw [getS_none, fullL_mem]
  rintro ⟨i, h, e⟩
  injection e with e1 e2
  omega
theorem full_setE (n : Nat) (h : n < 65536) : setE (((n : Int) % 1000), ((n : Int) / 1000)) (fullL n) = 0 := by
  unfold setE
  rw [if_neg, if_neg]
  · rw [fullL_len]; omega
  · simp only [mayS, decide_eq_false_iff_not]
    omega
theorem full_setL (n : Nat) (h : n < 65536) : setL (((n : Int) % 1000), ((n : Int) / 1000)) ((n : Int) % 256) (fullL n) = fullL (n + 1) := by
  unfold setL
  rw [if_pos (full_setE n h), put_none (idx_none (fullL_new n)), fullL_succ]
theorem full_far (n : Nat) : getS (60000, 9) (fullL n) = none := by
  rw [getS_none, fullL_mem]
  rintro ⟨i, h, e⟩
  injection e with e1 e2
  omega
theorem full_some (n i : Nat) (h : i < n) : (getS (((i : Int) % 1000), ((i : Int) / 1000)) (fullL n)).isSome = true := by
  cases hg : getS (((i : Int) % 1000), ((i : Int) / 1000)) (fullL n) with
  | some x => rfl
  | none => exact absurd ((fullL_mem n _).2 ⟨i, h, rfl⟩) (getS_none.1 hg)
theorem full_no (n : Nat) (hn : n = 65536) : setE (60000, 9) (fullL n) = 4 := by
  unfold setE
  rw [if_neg (by simp [mayS]), if_pos ⟨by rw [full_far]; rfl, by rw [fullL_len, hn]⟩]
theorem full_noL (n : Nat) (hn : n = 65536) (x : Int) : setL (60000, 9) x (fullL n) = fullL n := by
  unfold setL
  rw [full_no n hn, if_neg (by decide)]
/-- Behind the second store at (5, 5). -/
def full2 (n : Nat) : List (Sp × Int) := putS (5, 5) 77 (fullL n)
theorem full_55 (n : Nat) (hn : n = 65536) : (getS (5, 5) (fullL n)).isSome = true := full_some n 5005 (by omega)
theorem full_00 (n : Nat) (hn : n = 65536) : (getS (0, 0) (fullL n)).isSome = true := full_some n 0 (by omega)
theorem full_55E (n : Nat) (hn : n = 65536) : setE (5, 5) (fullL n) = 0 := by
  unfold setE
  rw [if_neg (by simp [mayS]), if_neg]
  rintro ⟨h, _⟩
  have := full_55 n hn
  cases hg : getS (5, 5) (fullL n) with
  | none => rw [hg] at this; cases this
  | some y => rw [hg] at h; cases h
theorem full_55L (n : Nat) (hn : n = 65536) : setL (5, 5) 77 (fullL n) = full2 n := by
  unfold setL
  rw [if_pos (full_55E n hn)]
  rfl
theorem full2_len (n : Nat) (hn : n = 65536) : (full2 n).length = n := by
  unfold full2
  rw [putS_length, if_pos (full_55 n hn), fullL_len]
theorem full2_nodup (n : Nat) (h : ((fullL n).map (·.1)).Nodup) : ((full2 n).map (·.1)).Nodup := putS_nodup h
theorem full2_neg (l : List (Sp × Int)) : setE (-1, 0) l = 10 := by simp [setE, mayS]
theorem full2_negL (l : List (Sp × Int)) (x : Int) : setL (-1, 0) x l = l := by simp [setL, full2_neg]
theorem full2_55 (n : Nat) : getS (5, 5) (full2 n) = some 77 := by
  unfold full2
  rw [getS_put, if_pos rfl]
theorem full2_far (n : Nat) : getS (60000, 9) (full2 n) = none := by
  unfold full2
  rw [getS_put, if_neg (by decide), full_far]
theorem full2_00 (n : Nat) (hn : n = 65536) : (getS (0, 0) (full2 n)).isSome = true := by
  unfold full2
  rw [getS_put, if_neg (by decide)]
  exact full_00 n hn
/-- Behind the Drop at (0, 0). -/
def full3 (n : Nat) : List (Sp × Int) := delS (0, 0) (full2 n)
theorem full3_len (n : Nat) (hn : n = 65536) : (full3 n).length = 65535 := by
  unfold full3
  rw [delS_length, if_pos (full2_00 n hn), full2_len n hn, hn]
theorem full3_keep (n : Nat) (hn : n = 65536) : setE (60000, 9) (full3 n) = 0 := by
  unfold setE
  rw [if_neg (by simp [mayS]), if_neg]
  rintro ⟨_, h⟩
  rw [full3_len n hn] at h
  omega
def full4 (n : Nat) : List (Sp × Int) := putS (60000, 9) 1 (full3 n)
theorem full3_keepL (n : Nat) (hn : n = 65536) : setL (60000, 9) 1 (full3 n) = full4 n := by
  unfold setL
  rw [if_pos (full3_keep n hn)]
  rfl
theorem full4_no (n : Nat) (hn : n = 65536) (hd : ((full2 n).map (·.1)).Nodup) : setE (0, 0) (full4 n) = 4 := by
  have h1 : getS (0, 0) (full4 n) = none := by
    unfold full4 full3
    rw [getS_put, if_neg (by decide), getS_del _ hd, if_pos rfl]
  have h2 : (full4 n).length = 65536 := by
    have h3 : getS (60000, 9) (full3 n) = none := by
      unfold full3
      rw [getS_del _ hd, if_neg (by decide), full2_far]
    unfold full4
    rw [putS_length, h3, full3_len n hn]
    rfl
  unfold setE
  rw [if_neg (by simp [mayS]), if_pos ⟨by rw [h1]; rfl, h2⟩]
end Go.Proofs.Ytldppdafgbipjaa
