/-
  The plain law of GridOrder: what setting places one behind the other makes; what is gone over. And quadrilleref7.Ahead, quadrilleref3.May, Has.
-/
import Derived.Test.YtldppdafgbipjaaGridShares
import Derived.Test.YtldppdafgbipjaaAllint
namespace Go.Proofs.Ytldppdafgbipjaa
open Go.RowKit

section
variable {α : Type}
def insM (zs : List (Sp × α)) : List (Sp × α) := zs.foldl (fun m z => if mayS z.1.1 z.1.2 then putS z.1 z.2 m else m) []
theorem insM_snoc (zs : List (Sp × α)) (z : Sp × α) : insM (zs ++ [z]) = if mayS z.1.1 z.1.2 then putS z.1 z.2 (insM zs) else insM zs := by simp [insM]
theorem insM_props : ∀ (n : Nat) (zs : List (Sp × α)), zs.length = n → MayK (insM zs) ∧ (insM zs).length ≤ n ∧ (∀ z ∈ zs, mayS z.1.1 z.1.2 = true → getS z.1 (insM zs) ≠ none) ∧ ((insM zs).map (·.1)).Nodup ∧
    ∀ s v, getS s (insM zs) = some v → ∃ (L : Nat) (_ : L < zs.length), zs[L] = (s, v) ∧ mayS s.1 s.2 = true ∧ ∀ j (hj : j < zs.length), L < j → zs[j].1 ≠ s
  | 0, zs, h => by
    rw [List.eq_nil_of_length_eq_zero h]
    exact ⟨fun x hx => by simp [insM] at hx, Nat.le_refl _, by simp, by simp [insM], fun s v hs => by simp [insM, getS] at hs⟩
  | n + 1, zs, h => by
    rcases List.eq_nil_or_concat zs with rfl | ⟨zs', z, rfl⟩
    · simp at h
    · rw [List.concat_eq_append] at *
      have h1 : zs'.length = n := by simpa using h
      obtain ⟨a1, a2, a3, a4, a5⟩ := insM_props n zs' h1
      have keep : ∀ s v, s ≠ z.1 ∨ mayS z.1.1 z.1.2 = false → getS s (insM zs') = some v → ∃ (L : Nat) (_ : L < (zs' ++ [z]).length), (zs' ++ [z])[L] = (s, v) ∧ mayS s.1 s.2 = true ∧ ∀ j (hj : j < (zs' ++ [z]).length), L < j → (zs' ++ [z])[j].1 ≠ s := by
        intro s v hne hg
        obtain ⟨L, hL, e, hm, hl⟩ := a5 s v hg
        refine ⟨L, by simp; omega, by rw [List.getElem_append_left hL]; exact e, hm, fun j hj hLj => ?_⟩
        by_cases hjn : j < zs'.length
        · rw [List.getElem_append_left hjn]
          exact hl j hjn hLj
        · have e2 : j = zs'.length := by simp at hj; omega
          subst e2
          rw [List.getElem_append_right (by omega)]
          simp only [Nat.sub_self, List.getElem_singleton]
          rcases hne with hne | hne
          · exact fun e => hne e.symm
          · intro e
            rw [e] at hne
            rw [hne] at hm
            cases hm
      rw [insM_snoc]
      cases hm : mayS z.1.1 z.1.2 with
      | true =>
        simp only [if_true]
        refine ⟨a1.put hm _, Nat.le_trans (putS_le _ _ _) (by omega), fun y hy hym => ?_, putS_nodup a4, fun s v hg => ?_⟩
        · rw [getS_put]
          split
          · exact fun e => by cases e
          · rename_i hne
            rcases List.mem_append.1 hy with hy | hy
            · exact a3 y hy hym
            · rw [List.mem_singleton] at hy
              exact absurd (by rw [hy]) hne
        · rw [getS_put] at hg
          by_cases e : s = z.1
          · rw [if_pos e] at hg
            cases hg
            refine ⟨zs'.length, by simp, by simp [e], by rw [e]; exact hm, fun j hj hLj => ?_⟩
            simp at hj
            omega
          · rw [if_neg e] at hg
            exact keep s v (.inl e) hg
      | false =>
        simp only [Bool.false_eq_true, if_false]
        refine ⟨a1, by omega, fun y hy hym => ?_, a4, fun s v hg => keep s v (.inr hm) hg⟩
        rcases List.mem_append.1 hy with hy | hy
        · exact a3 y hy hym
        · rw [List.mem_singleton] at hy
          rw [hy, hm] at hym
          cases hym
/-- One behind the last that may be. -/
def nOf (zs : List (Sp × α)) : Nat := (zs.reverse.dropWhile fun z => !mayS z.1.1 z.1.2).length
theorem nOf_snoc (zs : List (Sp × α)) (z : Sp × α) : nOf (zs ++ [z]) = if mayS z.1.1 z.1.2 then zs.length + 1 else nOf zs := by
  unfold nOf
  rw [List.reverse_append, List.reverse_singleton, List.singleton_append, List.dropWhile_cons]
  cases mayS z.1.1 z.1.2 <;> simp
theorem nOf_le (zs : List (Sp × α)) : nOf zs ≤ zs.length := by
  unfold nOf
  have := (List.dropWhile_sublist (l := zs.reverse) fun z => !mayS z.1.1 z.1.2).length_le
  rwa [List.length_reverse] at this
theorem nOf_lt : ∀ (n : Nat) (zs : List (Sp × α)), zs.length = n → ∀ j (hj : j < zs.length), mayS zs[j].1.1 zs[j].1.2 = true → j < nOf zs
  | 0, zs, h => fun j hj => by omega
  | n + 1, zs, h => by
    rcases List.eq_nil_or_concat zs with rfl | ⟨zs', z, rfl⟩
    · simp at h
    · rw [List.concat_eq_append] at *
      have h1 : zs'.length = n := by simpa using h
      intro j hj hm
      rw [nOf_snoc]
      by_cases hjn : j < zs'.length
      · rw [List.getElem_append_left hjn] at hm
        have := nOf_lt n zs' h1 j hjn hm
        have := nOf_le zs'
        split <;> omega
      · have e2 : j = zs'.length := by simp at hj; omega
        subst e2
        rw [List.getElem_append_right (by omega)] at hm
        simp only [Nat.sub_self, List.getElem_singleton] at hm
        rw [hm]
        simp
end

/-- The places and their numbers. -/
def numd (ats : List Sp) : List (Sp × Int) := ats.zip ((List.range ats.length).map fun (i : Nat) => (i : Int))
theorem numd_len (ats : List Sp) : (numd ats).length = ats.length := by simp [numd]
theorem numd_get (ats : List Sp) (j : Nat) (hj : j < ats.length) : (numd ats)[j]'(by rw [numd_len]; exact hj) = (ats[j], (j : Int)) := by
  unfold numd
  rw [List.getElem_zip]
  simp

/-- The place of the last row. -/
def lastOf (pre : List (Sp × Int)) : Sp := (pre.getLast?.map (·.1)).getD (-1, 0)
theorem lastOf_snoc (pre : List (Sp × Int)) (x : Sp × Int) : lastOf (pre ++ [x]) = x.1 := by simp [lastOf]
theorem rows_mem {z : Int} {p : Sp → Bool} {l : List (Sp × Int)} {ss : List Sp} (hs : ∀ s ∈ ss, s ∈ l.map (·.1)) {x : Sp × Int} (hx : x ∈ rowsS z p l ss) : getS x.1 l = some x.2 ∧ p x.1 = true ∧ x.1 ∈ ss := by
  unfold rowsS at hx
  obtain ⟨s, h1, rfl⟩ := List.mem_map.1 hx
  obtain ⟨h2, h3⟩ := List.mem_filter.1 h1
  cases hg : getS s l with
  | none => exact absurd (hs s h2) (getS_none.1 hg)
  | some y => exact ⟨rfl, h3, h2⟩
theorem rows_keysP (z : Int) (p : Sp → Bool) (l : List (Sp × Int)) (ss : List Sp) : (rowsS z p l ss).map (·.1) = ss.filter p := by
  unfold rowsS
  rw [List.map_map]
  exact List.map_id _
theorem lt_next {R pre : List (Sp × Int)} {x : Sp × Int} (hR : (R.map (·.1)).Pairwise fun a b => ltS a b = true) (hm : ∀ y ∈ R, mayS y.1.1 y.1.2 = true) (hp : pre ++ [x] <+: R) : ltS (lastOf pre) x.1 = true := by
  have hx : x ∈ R := hp.subset (by simp)
  rcases List.eq_nil_or_concat pre with rfl | ⟨q, y, rfl⟩
  · have h1 := hm x hx
    simp only [mayS, decide_eq_true_eq] at h1
    show ltS (-1, 0) x.1 = true
    unfold ltS
    simp only [decide_eq_true_eq]
    omega
  · rw [List.concat_eq_append] at *
    rw [lastOf_snoc]
    have h1 : ((q ++ [y] ++ [x]).map (·.1)).Pairwise fun a b => ltS a b = true := hR.sublist (hp.sublist.map _)
    rw [List.map_append, List.pairwise_append] at h1
    exact h1.2.2 y.1 (by simp) x.1 (by simp)

set_option maxHeartbeats 800000 in
theorem aheadC (s t : Sp) (w : World) : Calls Try.prog 27 #[spV s, spV t] w fun e w1 => e = .returned (.bool (ltS s t)) ∧ Fr [] w w1 := by
  have h5 : (s.1 < t.1) ∨ (¬ s.1 < t.1 ∧ s.1 = t.1 ∧ s.2 < t.2) ∨ (¬ s.1 < t.1 ∧ s.1 = t.1 ∧ ¬ s.2 < t.2) ∨ (¬ s.1 < t.1 ∧ ¬ s.1 = t.1) := by omega
  rcases h5 with h1 | ⟨h1, h2, h3⟩ | ⟨h1, h2, h3⟩ | ⟨h1, h2⟩
  all_goals
    go_enter Try.func27, Try.ntmps27
    go_wp2
    go_ret
    exact ⟨ret_bool (by simp [ltS] <;> omega), ((Fr.refl [] w).alloc _).alloc _⟩

set_option maxHeartbeats 1600000 in
theorem refMay (a : Ar) (w : World) : Calls Try.prog 79 #[a.val] w fun e w1 => e = .returned (.int .i64 (errA a)) ∧ Fr [] w w1 := by
  have h5 : (a.t < 0) ∨ (¬ a.t < 0 ∧ a.b < a.t) ∨ (¬ a.t < 0 ∧ ¬ a.b < a.t ∧ 65536 ≤ a.b) ∨ (¬ a.t < 0 ∧ ¬ a.b < a.t ∧ ¬ 65536 ≤ a.b ∧ a.l < 0) ∨ (¬ a.t < 0 ∧ ¬ a.b < a.t ∧ ¬ 65536 ≤ a.b ∧ ¬ a.l < 0 ∧ a.r < a.l) ∨
      (¬ a.t < 0 ∧ ¬ a.b < a.t ∧ ¬ 65536 ≤ a.b ∧ ¬ a.l < 0 ∧ ¬ a.r < a.l ∧ 702 ≤ a.r) ∨ (¬ a.t < 0 ∧ ¬ a.b < a.t ∧ ¬ 65536 ≤ a.b ∧ ¬ a.l < 0 ∧ ¬ a.r < a.l ∧ ¬ 702 ≤ a.r) := by omega
  rcases h5 with h1 | ⟨h1, h2⟩ | ⟨h1, h2, h3⟩ | ⟨h1, h2, h3, h4⟩ | ⟨h1, h2, h3, h4, h5⟩ | ⟨h1, h2, h3, h4, h5, h6⟩ | ⟨h1, h2, h3, h4, h5, h6⟩
  all_goals
    go_enter Try.func79, Try.ntmps79
    go_wp2
    go_ret
    refine ⟨ret_int ?_, (Fr.refl [] w).alloc _⟩
    unfold errA mayA mayS
    first
      | (rw [if_pos (by simp; omega)])
      | (rw [if_neg (by simp; omega)])

set_option maxHeartbeats 1600000 in
theorem refHas (a : Ar) (s : Sp) (w : World) : Calls Try.prog 28 #[a.val, spV s] w fun e w1 => e = .returned (.bool (hasA a s)) ∧ Fr [] w w1 := by
  obtain ⟨m, hm⟩ : ∃ m, errA a = m := ⟨_, rfl⟩
  have HM := Lib.hid hm
  clear hm
  have hma : Hid (mayA a = decide (m = 0)) := by
    show _ = _
    rw [← HM.out]
    unfold errA
    cases mayA a <;> rfl
  go_enter Try.func28, Try.ntmps28
  go_wp2_with fail
  refine (refMay a _).mono ?_
  rw [HM.out]
  rintro e w1 ⟨rfl, h1⟩
  obtain ⟨hf, hb, hb2, _⟩ := h1.new2 (by simp)
  clear h1
  have c0 : w1.cell? ⟨w.heap.size, 0, none⟩ = some (.int .i64 a.t) := cell_of hb 0
  have c1 : w1.cell? ⟨w.heap.size, 1, none⟩ = some (.int .i64 a.l) := cell_of hb 1
  have c2 : w1.cell? ⟨w.heap.size, 2, none⟩ = some (.int .i64 a.b) := cell_of hb 2
  have c3 : w1.cell? ⟨w.heap.size, 3, none⟩ = some (.int .i64 a.r) := cell_of hb 3
  have d0 : w1.cell? ⟨w.heap.size + 1, 0, none⟩ = some (.int .i64 s.1) := cell_of hb2 0
  have d1 : w1.cell? ⟨w.heap.size + 1, 1, none⟩ = some (.int .i64 s.2) := cell_of hb2 1
  have h5 : (m = 0 ∧ a.t ≤ s.1 ∧ s.1 ≤ a.b ∧ a.l ≤ s.2 ∧ s.2 ≤ a.r) ∨ (m = 0 ∧ a.t ≤ s.1 ∧ s.1 ≤ a.b ∧ a.l ≤ s.2 ∧ ¬ s.2 ≤ a.r) ∨ (m = 0 ∧ a.t ≤ s.1 ∧ s.1 ≤ a.b ∧ ¬ a.l ≤ s.2) ∨ (m = 0 ∧ a.t ≤ s.1 ∧ ¬ s.1 ≤ a.b) ∨ (m = 0 ∧ ¬ a.t ≤ s.1) ∨ ¬ m = 0 := by omega
  rcases h5 with ⟨h0, h1, h2, h3, h4⟩ | ⟨h0, h1, h2, h3, h4⟩ | ⟨h0, h1, h2, h3⟩ | ⟨h0, h1, h2⟩ | ⟨h0, h1⟩ | h0
  all_goals
    go_wp2
    go_ret
    exact ⟨ret_bool (by simp [hasA, hma.out] <;> omega), hf⟩
end Go.Proofs.Ytldppdafgbipjaa
