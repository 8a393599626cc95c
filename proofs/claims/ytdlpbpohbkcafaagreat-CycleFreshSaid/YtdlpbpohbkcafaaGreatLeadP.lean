/-
  Where ways lead (as cycle.Leads goes). No program's step here.
-/
import Derived.Test.YtdlpbpohbkcafaaGreatRingR
namespace Go.Proofs.YtdlpbpohbkcafaaGreat

structure Ld where
  ring : Bool
  steps : Nat
  first : Nat
/-- Where one's way leads. -/
inductive IsLead (g : Dg) : Nat → Ld → Prop
  | sink {v : Nat} : nxs g v = [] → IsLead g v ⟨false, 0, v⟩
  | ring {v f : Nat} : Rch1 g v v → Rch g v f → (∀ u, Rch g v u → f ≤ u) → IsLead g v ⟨true, 0, f⟩
  | step {v u : Nat} {r : Bool} {s f : Nat} : nxs g v = [u] → ¬ Rch1 g v v → IsLead g u ⟨r, s, f⟩ → IsLead g v ⟨r, s + 1, f⟩
theorem nil_no1 {g : Dg} {v : Nat} (h : nxs g v = []) : ¬ Rch1 g v v := fun ⟨c, h1, _⟩ => by rw [h] at h1; simp at h1
theorem IsLead.same {g : Dg} {v : Nat} {x y : Ld} (h : IsLead g v x) : IsLead g v y → x = y := by
  intro k
  induction h generalizing y with
  | sink h0 =>
    cases k with
    | sink _ => rfl
    | ring h1 _ _ => exact absurd h1 (nil_no1 h0)
    | step h1 _ _ => rw [h0] at h1; cases h1
  | ring h1 h2 h3 =>
    cases k with
    | sink h0 => exact absurd h1 (nil_no1 h0)
    | ring _ k2 k3 => rw [Nat.le_antisymm (h3 _ k2) (k3 _ h2)]
    | step _ k1 _ => exact absurd h1 k1
  | step h1 h2 _ ih =>
    cases k with
    | sink h0 => rw [h0] at h1; cases h1
    | ring k1 _ _ => exact absurd k1 h2
    | step k1 _ k3 =>
      rw [h1] at k1
      cases k1
      cases ih k3
      rfl
theorem OkG.rch {g : Dg} (hg : OkG g) {a b : Nat} (h : Rch g a b) (ha : a < g.length) : b < g.length := by
  induction h with
  | refl => exact ha
  | step _ hu _ => exact hg.nx hu
theorem IsLead.chain {g : Dg} {v : Nat} {x : Ld} (h : IsLead g v x) : ∃ l : List Nat, l.length = x.steps + 1 ∧ l.Nodup ∧ ∀ a ∈ l, Rch g v a := by
  induction h with
  | @sink v _ => exact ⟨[v], rfl, by simp, fun a ha => by rw [List.mem_singleton] at ha; rw [ha]; exact Rch.refl _⟩
  | @ring v _ _ _ _ => exact ⟨[v], rfl, by simp, fun a ha => by rw [List.mem_singleton] at ha; rw [ha]; exact Rch.refl _⟩
  | @step v u r s f h1 h2 _ ih =>
    obtain ⟨l, e1, e2, e3⟩ := ih
    refine ⟨v :: l, by simp [e1], List.nodup_cons.2 ⟨fun hv => h2 ⟨u, by simp [h1], e3 v hv⟩, e2⟩, fun a ha => ?_⟩
    rcases List.mem_cons.1 ha with rfl | ha
    · exact Rch.refl _
    · exact (Rch.one (by simp [h1])).trans (e3 a ha)
theorem IsLead.steps_lt {g : Dg} (hg : OkG g) {v : Nat} {x : Ld} (h : IsLead g v x) (hv : v < g.length) : x.steps < g.length := by
  obtain ⟨l, e1, e2, e3⟩ := h.chain
  have := nodup_lt e2 fun a ha => hg.rch (e3 a ha) hv
  omega
theorem IsLead.first_lt {g : Dg} (hg : OkG g) {v : Nat} {x : Ld} (h : IsLead g v x) (hv : v < g.length) : x.first < g.length := by
  induction h with
  | sink _ => exact hv
  | ring _ h2 _ => exact hg.rch h2 hv
  | step h1 _ _ ih => exact ih (hg.nx (v := _) (u := _) (by rw [h1]; simp))

/-- Each of the way points to the next one; the last one's are L. -/
def Way (g : Dg) (W L : List Nat) : Prop := ∀ i (h : i < W.length), nxs g W[i] = if h2 : i + 1 < W.length then [W[i + 1]] else L
theorem Way.nil (g : Dg) (L : List Nat) : Way g [] L := fun i h => by simp at h
theorem Way.snoc {g : Dg} {W : List Nat} {v : Nat} (h : Way g W [v]) : Way g (W ++ [v]) (nxs g v) := by
  intro i hi
  simp only [List.length_append, List.length_cons, List.length_nil, Nat.zero_add] at hi ⊢
  by_cases e : i < W.length
  · have h1 := h i e
    rw [List.getElem_append_left e, h1, dif_pos (show i + 1 < W.length + 1 by omega)]
    by_cases e2 : i + 1 < W.length
    · rw [dif_pos e2, List.getElem_append_left e2]
    · rw [dif_neg e2]
      have : i + 1 = W.length := by omega
      rw [List.getElem_append_right (by omega)]
      simp
  · have e2 : i = W.length := by omega
    subst e2
    rw [dif_neg (by simp)]
    simp
/-- What the ones ahead of k come to. -/
theorem Way.rch {g : Dg} {W L : List Nat} (h : Way g W L) {D : Nat → Prop} (hD : ∀ a, D a → ∀ u ∈ nxs g a, D u) {k : Nat} (hk : k ≤ W.length) (hL : ∀ u ∈ L, u ∈ W.drop k ∨ D u) {j : Nat} (hj : j < W.length) {a : Nat} (hr : Rch1 g W[j] a) :
    (∃ i, ∃ hi : i < W.length, (j < i ∨ k ≤ i) ∧ W[i] = a) ∨ D a := by
  have key : ∀ i (hi : i < W.length), (j ≤ i ∨ k ≤ i) → ∀ u ∈ nxs g W[i], (∃ i, ∃ hi : i < W.length, (j < i ∨ k ≤ i) ∧ W[i] = u) ∨ D u := by
    intro i hi hji u hu
    rw [h i hi] at hu
    split at hu
    · rename_i h2
      rw [List.mem_singleton] at hu
      exact .inl ⟨i + 1, h2, by omega, hu.symm⟩
    · rcases hL u hu with hm | hm
      · obtain ⟨m, hm1, hm2⟩ := List.getElem_of_mem hm
        rw [List.getElem_drop] at hm2
        rw [List.length_drop] at hm1
        exact .inl ⟨k + m, by omega, by omega, hm2⟩
      · exact .inr hm
  obtain ⟨c, hc, hr⟩ := hr
  have h0 := key j hj (.inl (Nat.le_refl _)) c hc
  induction hr with
  | refl => exact h0
  | step _ hu ih =>
    rcases ih with ⟨i, hi, h1, rfl⟩ | h1
    · exact key i hi (by omega) _ hu
    · exact .inr (hD _ h1 _ hu)
theorem Way.no {g : Dg} {W L : List Nat} (h : Way g W L) (hn : W.Nodup) {D : Nat → Prop} (hD : ∀ a, D a → ∀ u ∈ nxs g a, D u) (hW : ∀ a ∈ W, ¬ D a) {k : Nat} (hk : k ≤ W.length) (hL : ∀ u ∈ L, u ∈ W.drop k ∨ D u) {j : Nat} (hj : j < k) : ¬ Rch1 g (W[j]'(by omega)) (W[j]'(by omega)) := by
  intro hr
  rcases h.rch hD hk hL (by omega) hr with ⟨i, hi, h1, h2⟩ | h1
  · have := (List.getElem_inj hn).1 h2
    omega
  · exact hW _ (List.getElem_mem _) h1
/-- The ring at the way's end. -/
theorem Way.toEnd {g : Dg} {W L : List Nat} (h : Way g W L) : ∀ (d j : Nat) (hj : j + d < W.length), Rch g (W[j]'(by omega)) W[j + d]
  | 0, j, hj => Rch.refl _
  | d + 1, j, hj => by
    refine (h.toEnd d j (by omega)).step ?_
    rw [h (j + d) (by omega), dif_pos (by omega)]
    simp [Nat.add_assoc]
theorem Way.ring {g : Dg} {W : List Nat} {v k : Nat} (h : Way g W [v]) (hk : k < W.length) (hv : W[k] = v) {i j : Nat} (hi2 : i < W.length) (hj : k ≤ j) (hj2 : j < W.length) : Rch1 g W[i] W[j] := by
  have e : i + (W.length - 1 - i) = W.length - 1 := by omega
  have h1 := h.toEnd (W.length - 1 - i) i (by omega)
  have h2 := h.toEnd (j - k) k (by omega)
  have e2 : k + (j - k) = j := by omega
  simp only [e, e2] at h1 h2
  have h3 : v ∈ nxs g (W[W.length - 1]'(by omega)) := by rw [h (W.length - 1) (by omega), dif_neg (by omega)]; simp
  rw [hv] at h2
  exact Rch1.trans_l h1 ⟨v, h3, h2⟩
theorem Way.ring_in {g : Dg} {W : List Nat} {v k : Nat} (h : Way g W [v]) (hk : k < W.length) (hv : W[k] = v) {i : Nat} (hi2 : i < W.length) (hi : k ≤ i) {a : Nat} (hr : Rch g W[i] a) : a ∈ W.drop k := by
  have hm : ∀ m (hm : m < W.length), k ≤ m → W[m] ∈ W.drop k := fun m hm hkm => by
    rw [List.mem_iff_getElem]
    exact ⟨m - k, by rw [List.length_drop]; omega, by rw [List.getElem_drop]; congr 1; omega⟩
  rcases hr.one_of with rfl | hr
  · exact hm i hi2 hi
  · rcases h.rch (D := fun _ => False) (fun _ h => h.elim) (k := k) (by omega) (fun u hu => .inl (by
      rw [List.mem_singleton] at hu
      rw [hu, ← hv]
      exact hm k hk (Nat.le_refl _))) hi2 hr with ⟨m, hm1, hm2, rfl⟩ | h1
    · exact hm m hm1 (by omega)
    · exact h1.elim

def HasL (g : Dg) (v : Nat) : Prop := ∃ x, IsLead g v x
open Classical in
/-- Where it leads. -/
noncomputable def leadOf (g : Dg) (v : Nat) : Ld := if h : HasL g v then h.choose else ⟨false, 0, 0⟩
theorem leadOf_is {g : Dg} {v : Nat} (h : HasL g v) : IsLead g v (leadOf g v) := by
  unfold leadOf
  rw [dif_pos h]
  exact h.choose_spec
theorem leadOf_eq {g : Dg} {v : Nat} {x : Ld} (h : IsLead g v x) : leadOf g v = x := (leadOf_is ⟨x, h⟩).same h
def bump (x : Ld) : Ld := ⟨x.ring, x.steps + 1, x.first⟩
theorem lead_bump {g : Dg} {v u : Nat} (h1 : nxs g v = [u]) (h2 : ¬ Rch1 g v v) (h : HasL g u) : HasL g v ∧ leadOf g v = bump (leadOf g u) := by
  have h3 : IsLead g v (bump (leadOf g u)) := IsLead.step h1 h2 (leadOf_is h)
  exact ⟨⟨_, h3⟩, leadOf_eq h3⟩
/-- What holds of those that are told. -/
structure OkD (g : Dg) (st : Nat → Nat) : Prop where
  cl : ∀ v, st v = 2 → ∀ u ∈ nxs g v, st u = 2
  has : ∀ v, st v = 2 → HasL g v
structure OkW (g : Dg) (st0 st : Nat → Nat) (W : List Nat) (n : Nat) : Prop where
  nd : W.Nodup
  lt : ∀ a ∈ W, a < n
  one : ∀ a ∈ W, st a = 1 ∧ st0 a = 0
  rest : ∀ a, a ∉ W → st a = st0 a
theorem OkW.nil (g : Dg) (st : Nat → Nat) (n : Nat) : OkW g st st [] n := ⟨by simp, by simp, by simp, fun _ _ => rfl⟩
theorem OkW.snoc {g : Dg} {st0 st : Nat → Nat} {W : List Nat} {n v : Nat} (h : OkW g st0 st W n) (h0 : st v = 0) (hv : v < n) : OkW g st0 (upd st v 1) (W ++ [v]) n := by
  have hvW : v ∉ W := fun hm => by have := (h.one v hm).1; omega
  refine ⟨List.nodup_append.2 ⟨h.nd, by simp, fun a ha b hb e => ?_⟩, fun a ha => ?_, fun a ha => ?_, fun a ha => ?_⟩
  · rw [List.mem_singleton] at hb
    exact hvW (by rw [← hb, ← e]; exact ha)
  · rcases List.mem_append.1 ha with ha | ha
    · exact h.lt a ha
    · rw [List.mem_singleton] at ha; rw [ha]; exact hv
  · by_cases e : a = v
    · subst e
      exact ⟨upd_same _ _ _, by rw [← h.rest a hvW]; exact h0⟩
    · rw [upd_other e]
      refine h.one a ?_
      rcases List.mem_append.1 ha with ha | ha
      · exact ha
      · exact absurd (List.mem_singleton.1 ha) e
  · rw [List.mem_append, not_or, List.mem_singleton] at ha
    rw [upd_other ha.2]
    exact h.rest a ha.1
section
variable {g : Dg} {st0 st : Nat → Nat} {W L : List Nat} {n : Nat}
theorem OkW.noD (h : OkW g st0 st W n) : ∀ a ∈ W, ¬ st0 a = 2 := fun a ha => by have := (h.one a ha).2; omega
/-- Those ahead of k, one by one. -/
theorem OkW.ahead (hD : OkD g st0) (h : OkW g st0 st W n) (hW : Way g W L) {k : Nat} (hk : k ≤ W.length) (hL : ∀ u ∈ L, u ∈ W.drop k ∨ st0 u = 2) {j : Nat} (hj : j < k) (hj1 : j + 1 < W.length) (hh : HasL g W[j + 1]) : HasL g (W[j]'(by omega)) ∧ leadOf g (W[j]'(by omega)) = bump (leadOf g W[j + 1]) := by
  refine lead_bump ?_ (hW.no h.nd (D := fun a => st0 a = 2) hD.cl h.noD hk hL hj) hh
  rw [hW j (by omega), dif_pos hj1]
theorem OkW.all (hD : OkD g st0) (h : OkW g st0 st W n) (hW : Way g W L) {k : Nat} (hk : k ≤ W.length) (hL : ∀ u ∈ L, u ∈ W.drop k ∨ st0 u = 2) {b : Nat} (hb : b < W.length) (hbk : b ≤ k) (hh : HasL g W[b]) : ∀ (d j : Nat) (_ : j + d = b), HasL g (W[j]'(by omega))
  | 0, j, e => by
    have : j = b := by omega
    subst this
    exact hh
  | d + 1, j, e => (h.ahead hD hW hk hL (j := j) (by omega) (by omega) (h.all hD hW hk hL hb hbk hh d (j + 1) (by omega))).1
/-- An end. -/
theorem OkW.sink (hD : OkD g st0) (h : OkW g st0 st W n) (hW : Way g W []) (h0 : 0 < W.length) : leadOf g (W[W.length - 1]'(by omega)) = ⟨false, 0, W[W.length - 1]'(by omega)⟩ ∧ ∀ a ∈ W, HasL g a := by
  have e : nxs g (W[W.length - 1]'(by omega)) = [] := by rw [hW _ (by omega), dif_neg (by omega)]
  have hl := IsLead.sink e
  refine ⟨leadOf_eq hl, fun a ha => ?_⟩
  obtain ⟨j, hj, rfl⟩ := List.getElem_of_mem ha
  exact h.all hD hW (Nat.le_refl _) (by simp) (b := W.length - 1) (by omega) (by omega) ⟨_, hl⟩ (W.length - 1 - j) j (by omega)
/-- One that is told. -/
theorem OkW.told (hD : OkD g st0) (h : OkW g st0 st W n) {v : Nat} (hW : Way g W [v]) (hv : st0 v = 2) (h0 : 0 < W.length) : leadOf g (W[W.length - 1]'(by omega)) = bump (leadOf g v) ∧ ∀ a ∈ W, HasL g a := by
  have hL : ∀ u ∈ [v], u ∈ W.drop W.length ∨ st0 u = 2 := fun u hu => .inr (by rw [List.mem_singleton] at hu; rw [hu]; exact hv)
  have e : nxs g (W[W.length - 1]'(by omega)) = [v] := by rw [hW _ (by omega), dif_neg (by omega)]
  have hno := hW.no h.nd (D := fun a => st0 a = 2) hD.cl h.noD (Nat.le_refl _) hL (j := W.length - 1) (by omega)
  obtain ⟨hh, hb⟩ := lead_bump e hno (hD.has v hv)
  refine ⟨hb, fun a ha => ?_⟩
  obtain ⟨j, hj, rfl⟩ := List.getElem_of_mem ha
  exact h.all hD hW (Nat.le_refl _) hL (b := W.length - 1) (by omega) (by omega) hh (W.length - 1 - j) j (by omega)
/-- A new ring. -/
theorem OkW.ring (hD : OkD g st0) (h : OkW g st0 st W n) {v k : Nat} (hW : Way g W [v]) (hk : k < W.length) (hv : W[k] = v) {m : Nat} (hm : m ∈ W.drop k) (hmin : ∀ a ∈ W.drop k, m ≤ a) : (∀ a ∈ W.drop k, leadOf g a = ⟨true, 0, m⟩) ∧ ∀ a ∈ W, HasL g a := by
  have hL : ∀ u ∈ [v], u ∈ W.drop k ∨ st0 u = 2 := fun u hu => .inl (by
    rw [List.mem_singleton] at hu
    rw [hu, ← hv, List.mem_iff_getElem]
    exact ⟨0, by rw [List.length_drop]; omega, by simp⟩)
  have hr : ∀ i (hi : i < W.length), k ≤ i → IsLead g W[i] ⟨true, 0, m⟩ := fun i hi hki => by
    refine IsLead.ring (hW.ring hk hv hi hki hi) ?_ fun u hu => hmin u (hW.ring_in hk hv hi hki hu)
    obtain ⟨j, hj, rfl⟩ := List.getElem_of_mem hm
    rw [List.getElem_drop]
    rw [List.length_drop] at hj
    exact (hW.ring hk hv hi (by omega) (by omega)).rch
  refine ⟨fun a ha => ?_, fun a ha => ?_⟩
  · obtain ⟨j, hj, rfl⟩ := List.getElem_of_mem ha
    rw [List.getElem_drop]
    rw [List.length_drop] at hj
    exact leadOf_eq (hr _ (by omega) (by omega))
  · obtain ⟨j, hj, rfl⟩ := List.getElem_of_mem ha
    by_cases e : k ≤ j
    · exact ⟨_, hr j hj e⟩
    · exact h.all hD hW (by omega) hL hk (Nat.le_refl _) ⟨_, hr k hk (Nat.le_refl _)⟩ (k - j) j (by omega)
/-- All of the way are told. -/
theorem OkD.done (hD : OkD g st0) (hW : Way g W L) (hL : ∀ u ∈ L, u ∈ W ∨ st0 u = 2) (hh : ∀ a ∈ W, HasL g a) : OkD g fun a => if a ∈ W then 2 else st0 a := by
  refine ⟨fun v hv u hu => ?_, fun v hv => ?_⟩
  · show (if u ∈ W then 2 else st0 u) = 2
    replace hv : (if v ∈ W then 2 else st0 v) = 2 := hv
    by_cases e : v ∈ W
    · obtain ⟨j, hj, rfl⟩ := List.getElem_of_mem e
      rw [hW j hj] at hu
      split at hu
      · rw [List.mem_singleton] at hu
        rw [if_pos (by rw [hu]; exact List.getElem_mem _)]
      · rcases hL u hu with h1 | h1
        · rw [if_pos h1]
        · split
          · rfl
          · exact h1
    · rw [if_neg e] at hv
      have := hD.cl v hv u hu
      split
      · rfl
      · exact this
  · replace hv : (if v ∈ W then 2 else st0 v) = 2 := hv
    by_cases e : v ∈ W
    · exact hh v e
    · rw [if_neg e] at hv
      exact hD.has v hv
end
end Go.Proofs.YtdlpbpohbkcafaaGreat
