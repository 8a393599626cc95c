/-
  What the document fixes, reckoned out: rings, orders and leads of a few small graphs. No program's step here.
-/
import Derived.Test.YtdlpbpohbkcafaaGreatCycP
import Derived.Test.YtdlpbpohbkcafaaGreatOrdQ
import Derived.KernelRfl
namespace Go.Proofs.YtdlpbpohbkcafaaGreat

theorem gSp_of {ns : List Nd} {ps : List Pn} (h : era ns = ps) : gSp ns = sortS (atsP ps) := by unfold gSp; rw [atsN_era, h]
theorem gNx_of {ns : List Nd} {ps : List Pn} {l : List Sp} (h : era ns = ps) (hl : gSp ns = l) : gNx ns = l.map fun s => numsOf l (nextP ps s) := by
  unfold gNx
  rw [hl]
  refine List.map_congr_left fun s _ => ?_
  rw [nextAt_era, h]
theorem sortS_eq {a b : List Sp} (h : a.Perm b) (hs : b.Pairwise fun x y => (!ltS y x) = true) : sortS a = b := by
  rw [sortS_of_perm h]
  exact List.mergeSort_of_pairwise hs
section
variable {ns : List Nd}
theorem beg1 (h : era ns = [((0, 1), [(0, 0)]), ((0, 0), [(0, 1)]), ((0, 2), [(0, 0)])]) : madeE ns = 0 ∧ ringsOf (gSp ns) (gNx ns) = [[(0, 0), (0, 1)]] := by
  have h1 : gSp ns = [(0, 0), (0, 1), (0, 2)] := (gSp_of h).trans (sortS_eq (by decide) (by decide))
  have h2 : gNx ns = [[1], [0], [0]] := (gNx_of h h1).trans (by decide)
  refine ⟨by rw [madeE_era, h]; decide, ?_⟩
  rw [h1, h2]
  have h3 : (allT [[1], [0], [0]]).rings = [sortN [0, 1]] := by kernel_rfl
  have h4 : sortN [0, 1] = [0, 1] := List.mergeSort_of_pairwise (by decide)
  unfold ringsOf
  rw [h3, h4]
  exact List.mergeSort_of_pairwise (by decide)
theorem beg2 (h : era ns = [((0, 0), [(0, 1)]), ((0, 1), [(0, 2)]), ((0, 2), [])]) : madeE ns = 0 ∧ spotsOf (gSp ns) (orderT (gNx ns)) = [(0, 2), (0, 1), (0, 0)] ∧ (orderT (gNx ns)).length = 3 ∧ (gSp ns).length = 3 := by
  have h1 : gSp ns = [(0, 0), (0, 1), (0, 2)] := (gSp_of h).trans (sortS_eq (by decide) (by decide))
  have h2 : gNx ns = [[1], [2], []] := (gNx_of h h1).trans (by decide)
  refine ⟨by rw [madeE_era, h]; decide, ?_⟩
  rw [h1, h2]
  have h3 : orderT [[1], [2], []] = [2, 1, 0] := by decide +kernel
  rw [h3]
  decide
theorem beg3 (h : era ns = [((0, 0), [(0, 0)])]) : madeE ns = 0 ∧ (orderT (gNx ns)).length < (gSp ns).length := by
  have h1 : gSp ns = [(0, 0)] := (gSp_of h).trans (sortS_eq (by decide) (by decide))
  have h2 : gNx ns = [[0]] := (gNx_of h h1).trans (by decide)
  refine ⟨by rw [madeE_era, h]; decide, ?_⟩
  rw [h1, h2]
  have h3 : orderT [[0]] = [] := by decide +kernel
  rw [h3]
  decide
theorem beg4_rch {a b : Nat} (h : Rch [[1], [2], [1]] a b) (ha : 1 ≤ a) : 1 ≤ b := by
  induction h with
  | refl => exact ha
  | @step w u _ hu ih =>
    have hw : w = 1 ∨ w = 2 ∨ 3 ≤ w := by omega
    rcases hw with rfl | rfl | hw
    · have : u ∈ [2] := hu
      simp at this
      omega
    · have : u ∈ [1] := hu
      simp at this
      omega
    · unfold nxs at hu
      rw [List.getD_eq_getElem?_getD, List.getElem?_eq_none (by simpa using hw)] at hu
      simp at hu
theorem beg4 (h : era ns = [((0, 0), [(0, 1)]), ((0, 1), [(0, 2)]), ((0, 2), [(0, 1)])]) : madeE ns = 0 ∧ gSp ns = [(0, 0), (0, 1), (0, 2)] ∧ (∀ x, x < 3 → (nxs (gNx ns) x).length ≤ 1) ∧ leadOf (gNx ns) 0 = ⟨true, 1, 1⟩ ∧ leadOf (gNx ns) 1 = ⟨true, 0, 1⟩ ∧ leadOf (gNx ns) 2 = ⟨true, 0, 1⟩ := by
  have h1 : gSp ns = [(0, 0), (0, 1), (0, 2)] := (gSp_of h).trans (sortS_eq (by decide) (by decide))
  have h2 : gNx ns = [[1], [2], [1]] := (gNx_of h h1).trans (by decide)
  refine ⟨by rw [madeE_era, h]; decide, h1, ?_⟩
  rw [h2]
  have n0 : nxs [[1], [2], [1]] 0 = [1] := rfl
  have n1 : nxs [[1], [2], [1]] 1 = [2] := rfl
  have n2 : nxs [[1], [2], [1]] 2 = [1] := rfl
  have r12 : Rch [[1], [2], [1]] 1 2 := Rch.one (by rw [n1]; simp)
  have r21 : Rch [[1], [2], [1]] 2 1 := Rch.one (by rw [n2]; simp)
  have l1 : IsLead [[1], [2], [1]] 1 ⟨true, 0, 1⟩ := IsLead.ring ⟨2, by rw [n1]; simp, r21⟩ (Rch.refl _) fun u hu => beg4_rch hu (by omega)
  have l2 : IsLead [[1], [2], [1]] 2 ⟨true, 0, 1⟩ := IsLead.ring ⟨1, by rw [n2]; simp, r12⟩ r21 fun u hu => beg4_rch hu (by omega)
  have l0 : IsLead [[1], [2], [1]] 0 ⟨true, 1, 1⟩ := IsLead.step n0 (fun ⟨c, hc, hr⟩ => by
    rw [n0, List.mem_singleton] at hc
    subst hc
    have := beg4_rch hr (by omega)
    omega) l1
  refine ⟨by decide, leadOf_eq l0, leadOf_eq l1, leadOf_eq l2⟩
theorem beg5 (h : era ns = [((0, 0), []), ((0, 0), [])]) : madeE ns = 1 := by rw [madeE_era, h]; decide
end
end Go.Proofs.YtdlpbpohbkcafaaGreat
