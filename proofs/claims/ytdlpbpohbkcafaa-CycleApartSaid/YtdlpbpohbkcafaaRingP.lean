/-
  Rings by one walk in depth (as cycle.Rings goes): the steps, what bounds them. No program in sight.
-/
import Derived.Test.YtdlpbpohbkcafaaBase
namespace Go.Proofs.Ytdlpbpohbkcafaa

/-- Of each number those that it points to. -/
abbrev Dg := List (List Nat)
def nxs (g : Dg) (v : Nat) : List Nat := g.getD v []
def upd {α : Type} (f : Nat → α) (v : Nat) (x : α) : Nat → α := fun w => if w = v then x else f w
theorem upd_same {α : Type} (f : Nat → α) (v : Nat) (x : α) : upd f v x v = x := by simp [upd]
theorem upd_other {α : Type} {f : Nat → α} {v w : Nat} {x : α} (h : w ≠ v) : upd f v x w = f w := by simp [upd, h]

structure TS where
  index : Nat → Nat
  low : Nat → Nat
  on : Nat → Bool
  count : Nat
  pile : List Nat
  rings : List (List Nat)
  way : List (Nat × Nat)

/-- Numbers, the least one first. -/
def sortN (l : List Nat) : List Nat := l.mergeSort fun a b => decide (a ≤ b)

/-- A place that is come to for the first time. -/
def visit (s : TS) (v : Nat) : TS := if s.index v = 0 then { s with count := s.count + 1, index := upd s.index v (s.count + 1), low := upd s.low v (s.count + 1), on := upd s.on v true, pile := s.pile ++ [v] } else s
/-- The next step ahead. -/
def ahead1 (v u k : Nat) (rest : List (Nat × Nat)) (s : TS) : TS :=
  if s.index u = 0 then { s with way := (u, 0) :: (v, k + 1) :: rest }
  else if s.on u = true then { s with way := (v, k + 1) :: rest, low := upd s.low v (min (s.low v) (s.index u)) }
  else { s with way := (v, k + 1) :: rest }
/-- A ring is done. -/
def close1 (g : Dg) (v : Nat) (s : TS) : TS :=
  if s.low v ≠ s.index v then s
  else { s with on := (s.pile.drop (s.pile.idxOf v)).foldl (fun o u => upd o u false) s.on, rings := if 1 < (s.pile.drop (s.pile.idxOf v)).length ∨ v ∈ nxs g v then s.rings ++ [sortN (s.pile.drop (s.pile.idxOf v))] else s.rings, pile := s.pile.take (s.pile.idxOf v) }
/-- Back by one. -/
def back1 (v : Nat) (rest : List (Nat × Nat)) (s : TS) : TS :=
  match rest with
  | [] => { s with way := [] }
  | (up, k) :: r => { s with way := (up, k) :: r, low := upd s.low up (min (s.low up) (s.low v)) }
def stepT (g : Dg) (s : TS) : TS :=
  match s.way with
  | [] => s
  | (v, k) :: rest => if k < (nxs g v).length then ahead1 v ((nxs g v).getD k 0) k rest (visit s v) else close1 g v (back1 v rest (visit s v))
def runT (g : Dg) : Nat → TS → TS
  | 0, s => s
  | f + 1, s => if s.way = [] then s else runT g f (stepT g s)
/-- From one place on. -/
def fromT (g : Dg) (s : TS) (v : Nat) : TS := if 0 < s.index v then s else runT g ((g.map fun l => l.length + 1).sum + 1) { s with way := [(v, 0)] }
def startT : TS := ⟨fun _ => 0, fun _ => 0, fun _ => false, 0, [], [], []⟩
def allT (g : Dg) : TS := (List.range g.length).foldl (fromT g) startT

/-- What holds on the way. -/
structure OkT (g : Dg) (s : TS) : Prop where
  bd : ∀ p ∈ s.way, p.1 < g.length ∧ p.2 ≤ (nxs g p.1).length
  nd : (s.way.map (·.1)).Nodup
  vis : ∀ p ∈ s.way.tail, s.index p.1 ≠ 0
/-- All are numbers of the graph. -/
def OkG (g : Dg) : Prop := ∀ l ∈ g, ∀ u ∈ l, u < g.length
theorem OkG.nx {g : Dg} (h : OkG g) {v u : Nat} (hu : u ∈ nxs g v) : u < g.length := by
  unfold nxs at hu
  rw [List.getD_eq_getElem?_getD] at hu
  cases hg : g[v]? with
  | none => rw [hg] at hu; simp at hu
  | some l =>
    rw [hg] at hu
    exact h l (List.mem_of_getElem? hg) u hu

/-- How many steps there are yet. -/
def leftW (g : Dg) (way : List (Nat × Nat)) : Nat := (way.map fun p => (nxs g p.1).length - p.2 + 1).sum
def leftN (g : Dg) (s : TS) : Nat := ((List.range g.length).map fun v => if s.index v = 0 ∧ v ∉ s.way.map (·.1) then (nxs g v).length + 1 else 0).sum
def leftT (g : Dg) (s : TS) : Nat := leftW g s.way + leftN g s

theorem sum_le {n : Nat} {f f' : Nat → Nat} (h : ∀ v, v < n → f' v ≤ f v) : ((List.range n).map f').sum ≤ ((List.range n).map f).sum := by
  induction n with
  | zero => simp
  | succ n ih =>
    rw [List.range_succ, List.map_append, List.map_append, List.sum_append, List.sum_append]
    have h1 := ih (fun v hv => h v (by omega))
    have h2 := h n (by omega)
    simp
    omega
theorem sum_lt {n : Nat} {f f' : Nat → Nat} (h : ∀ v, v < n → f' v ≤ f v) {u d : Nat} (hu : u < n) (hd : f' u + d ≤ f u) : ((List.range n).map f').sum + d ≤ ((List.range n).map f).sum := by
  induction n with
  | zero => omega
  | succ n ih =>
    rw [List.range_succ, List.map_append, List.map_append, List.sum_append, List.sum_append]
    have h2 := h n (by omega)
    by_cases he : u = n
    · subst he
      have h1 := sum_le (n := u) (f := f) (f' := f') (fun v hv => h v (by omega))
      simp
      omega
    · have h1 := ih (fun v hv => h v (by omega)) (by omega)
      simp
      omega

theorem visit_index (s : TS) (v w : Nat) : (visit s v).index w = if s.index v = 0 ∧ w = v then s.count + 1 else s.index w := by
  unfold visit
  by_cases h : s.index v = 0
  · rw [if_pos h]
    by_cases hw : w = v
    · simp [upd, h, hw]
    · simp [upd, hw]
  · rw [if_neg h, if_neg (fun h2 => h h2.1)]
theorem visit_way (s : TS) (v : Nat) : (visit s v).way = s.way := by unfold visit; split <;> rfl
theorem visit_ne (s : TS) (v : Nat) : (visit s v).index v ≠ 0 := by
  rw [visit_index]
  by_cases h : s.index v = 0
  · rw [if_pos ⟨h, rfl⟩]; omega
  · rw [if_neg (fun h2 => h h2.1)]; exact h
theorem visit_zero {s : TS} {v w : Nat} (h : (visit s v).index w = 0) : s.index w = 0 ∧ w ≠ v := by
  have hne : w ≠ v := fun e => visit_ne s v (e ▸ h)
  rw [visit_index, if_neg (fun h2 => hne h2.2)] at h
  exact ⟨h, hne⟩

/-- ONE STEP: what holds on the way is kept, and there is one step less. -/
theorem step_ok {g : Dg} (hg : OkG g) {s : TS} (h : OkT g s) (hw : s.way ≠ []) : OkT g (stepT g s) ∧ leftT g (stepT g s) + 1 ≤ leftT g s := by
  obtain ⟨hbd, hnd, hvis⟩ := h
  cases hway : s.way with
  | nil => exact absurd hway hw
  | cons p rest =>
    obtain ⟨v, k⟩ := p
    rw [hway] at hbd hnd hvis
    have hv := (hbd (v, k) (by simp)).1
    have hk := (hbd (v, k) (by simp)).2
    simp only at hv hk
    have hrest : ∀ p ∈ rest, p.1 < g.length ∧ p.2 ≤ (nxs g p.1).length := fun p hp => hbd p (by simp [hp])
    have hnr : (rest.map (·.1)).Nodup := (List.nodup_cons.1 (by simpa using hnd)).2
    have hvr : v ∉ rest.map (·.1) := (List.nodup_cons.1 (by simpa using hnd)).1
    have hvis2 : ∀ p ∈ rest, (visit s v).index p.1 ≠ 0 := fun p hp h0 => hvis p (by simpa using hp) (visit_zero h0).1
    unfold stepT
    rw [hway]
    simp only
    by_cases hkl : k < (nxs g v).length
    · rw [if_pos hkl]
      have hu : (nxs g v).getD k 0 < g.length := by
        rw [List.getD_eq_getElem?_getD, List.getElem?_eq_getElem hkl]
        exact hg.nx (List.getElem_mem hkl)
      generalize (nxs g v).getD k 0 = u at hu ⊢
      unfold ahead1
      by_cases h0 : (visit s v).index u = 0
      · rw [if_pos h0]
        have hz := visit_zero h0
        have hur : u ∉ rest.map (·.1) := fun hm => by
          obtain ⟨p, hp, rfl⟩ := List.mem_map.1 hm
          exact hvis2 p hp h0
        refine ⟨⟨fun p hp => ?_, ?_, fun p hp => ?_⟩, ?_⟩
        · simp only [List.mem_cons] at hp
          rcases hp with rfl | rfl | hp
          · exact ⟨hu, Nat.zero_le _⟩
          · exact ⟨hv, hkl⟩
          · exact hrest p hp
        · simp only [List.map_cons, List.nodup_cons, List.mem_cons, not_or]
          exact ⟨⟨hz.2, hur⟩, hvr, hnr⟩
        · simp only [List.tail_cons, List.mem_cons] at hp
          rcases hp with rfl | hp
          · exact visit_ne s v
          · exact hvis2 p hp
        · have hN : leftN g { visit s v with way := (u, 0) :: (v, k + 1) :: rest } + ((nxs g u).length + 1) ≤ leftN g s := by
            unfold leftN
            refine sum_lt (fun w hw2 => ?_) hu ?_
            · simp only [hway, List.map_cons]
              split
              · rename_i hc
                have := visit_zero hc.1
                rw [if_pos ⟨this.1, fun hm => hc.2 (by simp at hm ⊢; exact .inr hm)⟩]
                exact Nat.le_refl _
              · exact Nat.zero_le _
            · simp only [hway, List.map_cons]
              rw [if_neg (fun hc => hc.2 (by simp)), if_pos ⟨hz.1, by simp; exact ⟨hz.2, fun x hx => hur (List.mem_map.2 ⟨_, hx, rfl⟩)⟩⟩]
              omega
          unfold leftT leftW
          dsimp only at hN ⊢
          simp only [List.map_cons, List.sum_cons, hway]
          omega
      · have hkeep : ∀ lw, OkT g { visit s v with way := (v, k + 1) :: rest, low := lw } ∧ leftT g { visit s v with way := (v, k + 1) :: rest, low := lw } + 1 ≤ leftT g s := fun lw => by
          refine ⟨⟨fun p hp => ?_, ?_, fun p hp => ?_⟩, ?_⟩
          · simp only [List.mem_cons] at hp
            rcases hp with rfl | hp
            · exact ⟨hv, hkl⟩
            · exact hrest p hp
          · simp only [List.map_cons, List.nodup_cons]
            exact ⟨hvr, hnr⟩
          · exact hvis2 p (by simpa using hp)
          · have hN : leftN g { visit s v with way := (v, k + 1) :: rest, low := lw } ≤ leftN g s := by
              unfold leftN
              refine sum_le (fun w hw2 => ?_)
              simp only [hway, List.map_cons]
              split
              · rename_i hc
                have := visit_zero hc.1
                rw [if_pos ⟨this.1, hc.2⟩]
                exact Nat.le_refl _
              · exact Nat.zero_le _
            unfold leftT leftW
            dsimp only at hN ⊢
            simp only [List.map_cons, List.sum_cons, hway]
            omega
        rw [if_neg h0]
        split
        · exact hkeep _
        · exact hkeep (visit s v).low
    · rw [if_neg hkl]
      have hgen : ∀ s2 : TS, s2.way = rest → s2.index = (visit s v).index → OkT g s2 ∧ leftT g s2 + 1 ≤ leftT g s := fun s2 e1 e2 => by
        refine ⟨⟨by rw [e1]; exact hrest, by rw [e1]; exact hnr, fun p hp => by rw [e2]; exact hvis2 p (by rw [e1] at hp; exact List.mem_of_mem_tail hp)⟩, ?_⟩
        have hN : leftN g s2 ≤ leftN g s := by
          unfold leftN
          refine sum_le (fun w hw2 => ?_)
          rw [e1, e2]
          simp only [hway, List.map_cons]
          split
          · rename_i hc
            have := visit_zero hc.1
            rw [if_pos ⟨this.1, fun hm => by
              simp only [List.mem_cons] at hm
              rcases hm with hm | hm
              · exact this.2 hm
              · exact hc.2 hm⟩]
            exact Nat.le_refl _
          · exact Nat.zero_le _
        unfold leftT leftW
        rw [e1]
        simp only [List.map_cons, List.sum_cons, hway]
        omega
      refine hgen _ ?_ ?_
      · unfold close1 back1
        cases rest with
        | nil => simp only; split <;> rfl
        | cons q r => obtain ⟨up, j⟩ := q; simp only; split <;> rfl
      · unfold close1 back1
        cases rest with
        | nil => simp only; split <;> rfl
        | cons q r => obtain ⟨up, j⟩ := q; simp only; split <;> rfl

theorem run_nil (g : Dg) (f : Nat) {s : TS} (h : s.way = []) : runT g f s = s := by
  cases f with
  | zero => rfl
  | succ f => rw [runT, if_pos h]
/-- With steps enough the way ends. -/
theorem run_ends {g : Dg} (hg : OkG g) : ∀ (f : Nat) (s : TS), OkT g s → leftT g s ≤ f → (runT g f s).way = []
  | 0, s, _, hl => by
    cases hw : s.way with
    | nil => exact hw
    | cons p r =>
      unfold leftT leftW at hl
      rw [hw] at hl
      simp at hl
  | f + 1, s, h, hl => by
    rw [runT]
    split
    · assumption
    · rename_i hw
      obtain ⟨h1, h2⟩ := step_ok hg h hw
      exact run_ends hg f _ h1 (by omega)
end Go.Proofs.Ytdlpbpohbkcafaa
