/-
  Rings by one walk in depth: all that are told, and no more. No program in sight.
-/
import Derived.Test.YtdlpbpohbkcafaaRingL
import Derived.Test.YtdlpbpohbkcafaaRingQ
namespace Go.Proofs.Ytdlpbpohbkcafaa

theorem Inv.way {g : Dg} {s : TS} {x y : Option Nat} (h : Inv g s x) (hxy : ∀ v u, s.index v ≠ 0 → Exp g s.way v u → (s.index u ≠ 0 ∨ x = some u) → (s.index u ≠ 0 ∨ y = some u)) : Inv g s y :=
  ⟨h.cnt, h.inj, h.pil, h.vis, h.on, h.wp, h.wo, h.wc, fun v u hv hE => hxy v u hv hE (h.ex v u hv hE), h.cl, h.base, h.own, h.lo1, h.lo2, h.ro⟩
/-- What holds between two steps. -/
def Jv (g : Dg) (s : TS) : Prop :=
  ((∃ u rest, s.way = (u, 0) :: rest ∧ s.index u = 0 ∧ Inv g { s with way := rest } (some u) ∧ ∀ b ∈ rest.map (·.1), Rch g b u) ∨ ((∀ p r, s.way = p :: r → s.index p.1 ≠ 0) ∧ Inv g s none)) ∧ ∀ v, s.index v ≠ 0 → v < g.length
theorem step_index {g : Dg} {s : TS} {v k : Nat} {rest : List (Nat × Nat)} (hw : s.way = (v, k) :: rest) : (stepT g s).index = (visit s v).index := by
  unfold stepT
  rw [hw]
  simp only
  split
  · unfold ahead1
    repeat' split
    all_goals rfl
  · rw [close1_index, back1_index]
theorem Jv.visit {g : Dg} {s : TS} (h : Jv g s) {v k : Nat} {rest : List (Nat × Nat)} (hw : s.way = (v, k) :: rest) (hv : v < g.length) : Inv g (visit s v) none ∧ (visit s v).way = (v, k) :: rest ∧ ∀ u, (visit s v).index u ≠ 0 → u < g.length := by
  have hn : ∀ u, (Go.Proofs.Ytdlpbpohbkcafaa.visit s v).index u ≠ 0 → u < g.length := fun u hu => by
    rw [visit_index] at hu
    split at hu
    · rename_i h2
      rw [h2.2]; exact hv
    · exact h.2 u hu
  refine ⟨?_, by rw [visit_way]; exact hw, hn⟩
  rcases h.1 with ⟨u, r, h1, h2, h3, h4⟩ | ⟨h1, h2⟩
  · rw [h1] at hw
    obtain ⟨e1, e2⟩ := List.cons.inj hw
    cases e1
    subst e2
    have := inv_visit h3 h2 h4
    have e : { Go.Proofs.Ytdlpbpohbkcafaa.visit s v with way := (v, 0) :: r } = Go.Proofs.Ytdlpbpohbkcafaa.visit s v := by
      rw [← h1, ← visit_way s v]
    rwa [e] at this
  · have hne := h1 _ _ hw
    have e : Go.Proofs.Ytdlpbpohbkcafaa.visit s v = s := by unfold Go.Proofs.Ytdlpbpohbkcafaa.visit; rw [if_neg hne]
    rw [e]
    exact h2
theorem step_J {g : Dg} {s : TS} (h : Jv g s) (ht : OkT g s) (hw : s.way ≠ []) : Jv g (stepT g s) := by
  cases hway : s.way with
  | nil => exact absurd hway hw
  | cons p rest =>
    obtain ⟨v, k⟩ := p
    have hv := (ht.bd (v, k) (by rw [hway]; simp)).1
    obtain ⟨hI, hw2, hn⟩ := h.visit hway hv
    have hix := step_index (g := g) hway
    refine ⟨?_, by rw [hix]; exact hn⟩
    have hvv := visit_ne s v
    unfold stepT
    rw [hway]
    simp only
    generalize visit s v = s2 at *
    by_cases hkl : k < (nxs g v).length
    · rw [if_pos hkl]
      have hedge : Rch g v ((nxs g v).getD k 0) := Rch.one (by simp [hkl])
      unfold ahead1
      by_cases h0 : s2.index ((nxs g v).getD k 0) = 0
      · rw [if_pos h0]
        refine .inl ⟨_, _, rfl, h0, ?_, ?_⟩
        · have := inv_next hI hw2 hkl (some ((nxs g v).getD k 0)) s2.low (.inr rfl) (.inl ⟨rfl, fun hm => hI.vis _ hm h0⟩)
          exact this
        · intro b hb
          have hwc := hI.wc
          simp only [wayN, hw2, List.map_cons] at hwc
          rcases List.mem_cons.1 hb with e | hb
          · rw [e]; exact hedge
          · exact ((List.pairwise_cons.1 hwc).1 b hb).trans hedge
      · rw [if_neg h0]
        right
        by_cases h1 : s2.on ((nxs g v).getD k 0) = true
        · rw [if_pos h1]
          refine ⟨fun p r e => by cases e; exact hvv, ?_⟩
          exact inv_next hI hw2 hkl none _ (.inl h0) (.inr ⟨(hI.on _).1 h1, rfl⟩)
        · rw [if_neg h1]
          refine ⟨fun p r e => by cases e; exact hvv, ?_⟩
          exact inv_next hI hw2 hkl none s2.low (.inl h0) (.inl ⟨rfl, fun hm => h1 ((hI.on _).2 hm)⟩)
    · rw [if_neg hkl]
      right
      have hwn : wayN s2 = v :: rest.map (·.1) := by simp [wayN, hw2]
      have hwp := hI.wp
      have hwo := hI.wo
      have hlo := hI.lo1
      rw [hwn] at hwp hwo hlo
      have hlowv : (back1 v rest s2).low v = s2.low v := by
        unfold back1
        split
        · rfl
        · rename_i up j r
          have := (List.pairwise_cons.1 hwo).1 up (by simp)
          exact upd_other (fun e => by rw [e] at this; omega)
      refine ⟨fun p r e => ?_, ?_⟩
      · rw [close1_way, back1_way] at e
        rw [close1_index, back1_index]
        exact hI.vis _ (hwp _ (by rw [e]; simp))
      · by_cases hl : s2.low v = s2.index v
        · have e : back1 v rest s2 = { s2 with way := rest } := by
            unfold back1
            split
            · rfl
            · rename_i up j r
              have h1 := (List.pairwise_cons.1 hwo).1 up (by simp)
              have h2 := (hlo up (by simp)).1
              have h3 : upd s2.low up (min (s2.low up) (s2.low v)) = s2.low := by
                funext y
                by_cases hy : y = up
                · rw [hy, upd_same, Nat.min_eq_left (by omega)]
                · rw [upd_other hy]
              rw [h3]
          rw [e]
          exact inv_close hI hw2 hkl hl
        · have e : close1 g v (back1 v rest s2) = back1 v rest s2 := by
            unfold close1
            rw [hlowv, back1_index, if_pos hl]
          rw [e]
          exact inv_back hI hw2 hkl hl
theorem step_seen {g : Dg} {s : TS} (hw : s.way ≠ []) {a : Nat} (ha : s.index a ≠ 0) : (stepT g s).index a ≠ 0 := by
  cases hway : s.way with
  | nil => exact absurd hway hw
  | cons p rest =>
    obtain ⟨v, k⟩ := p
    rw [step_index hway, visit_index]
    split
    · omega
    · exact ha
theorem run_J {g : Dg} (hg : OkG g) : ∀ (f : Nat) (s : TS), OkT g s → Jv g s → Jv g (runT g f s)
  | 0, s, _, hj => by rw [runT]; exact hj
  | f + 1, s, h, hj => by
    rw [runT]
    split
    · exact hj
    · rename_i hw
      exact run_J hg f _ (step_ok hg h hw).1 (step_J hj h hw)
theorem run_seen {g : Dg} : ∀ (f : Nat) (s : TS) {a : Nat}, s.index a ≠ 0 → (runT g f s).index a ≠ 0
  | 0, s, _, ha => by rw [runT]; exact ha
  | f + 1, s, _, ha => by
    rw [runT]
    split
    · exact ha
    · rename_i hw
      exact run_seen f _ (step_seen hw ha)
theorem from_J {g : Dg} (hg : OkG g) {s : TS} (h : OkB g s) (hj : Jv g s) {v : Nat} (hv : v < g.length) : Jv g (fromT g s v) ∧ (fromT g s v).index v ≠ 0 ∧ ∀ a, s.index a ≠ 0 → (fromT g s v).index a ≠ 0 := by
  unfold fromT
  split
  · rename_i h0
    exact ⟨hj, by omega, fun a ha => ha⟩
  · rename_i h0
    have h0 : s.index v = 0 := by omega
    obtain ⟨h1, h2, h3⟩ := from_ok h hv h0
    have hI : Inv g s none := by
      rcases hj.1 with ⟨u, r, e, _⟩ | ⟨_, h4⟩
      · rw [h.way] at e; cases e
      · exact h4
    have hj2 : Jv g { s with way := [(v, 0)] } := by
      refine ⟨.inl ⟨v, [], rfl, h0, ?_, by simp⟩, hj.2⟩
      have e : { s with way := ([] : List (Nat × Nat)) } = s := by rw [← h.way]
      have := hI.way (y := some v) (fun a u _ _ hx => .inl (hx.resolve_right (by simp)))
      rwa [← e] at this
    refine ⟨run_J hg _ _ h2 hj2, ?_, fun a ha => run_seen _ _ ha⟩
    rw [runT, if_neg (by simp)]
    refine run_seen _ _ ?_
    rw [step_index (g := g) (s := { s with way := [(v, 0)] }) rfl]
    exact visit_ne _ _
theorem start_J (g : Dg) : Jv g startT := by
  refine ⟨.inr ⟨by simp [startT], ?_⟩, by simp [startT]⟩
  constructor <;> simp [startT, wayN]
  exact ⟨by simp, by simp, by simp⟩
theorem first_J {g : Dg} (hg : OkG g) : ∀ k, k ≤ g.length → Jv g (firstT g k) ∧ ∀ v, v < k → (firstT g k).index v ≠ 0
  | 0, _ => ⟨start_J g, fun v hv => by omega⟩
  | k + 1, hk => by
    rw [firstT_succ]
    obtain ⟨h1, h2⟩ := first_J hg k (by omega)
    obtain ⟨h3, h4, h5⟩ := from_J hg (firstT_ok hg k (by omega)) h1 (v := k) (by omega)
    refine ⟨h3, fun v hv => ?_⟩
    by_cases e : v = k
    · rw [e]; exact h4
    · exact h5 v (h2 v (by omega))
/-- THE RINGS. -/
theorem rings_ok {g : Dg} (hg : OkG g) : RingsOk g (allT g).rings fun v => v < g.length := by
  have hB := firstT_ok hg g.length (Nat.le_refl _)
  obtain ⟨h1, h2⟩ := first_J hg g.length (Nat.le_refl _)
  have e : firstT g g.length = allT g := rfl
  rw [e] at hB h1 h2
  have hI : Inv g (allT g) none := by
    rcases h1.1 with ⟨u, r, e, _⟩ | ⟨_, h4⟩
    · rw [hB.way] at e; cases e
    · exact h4
  refine hI.ro.mono fun v => ⟨fun h => h1.2 v h.1, fun h => ⟨h2 v h, fun hm => ?_⟩⟩
  obtain ⟨y, hy, _⟩ := hI.base v hm
  simp [wayN, hB.way] at hy
end Go.Proofs.Ytdlpbpohbkcafaa
