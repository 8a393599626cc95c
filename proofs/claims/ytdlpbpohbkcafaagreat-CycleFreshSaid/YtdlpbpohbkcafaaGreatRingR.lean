/-
  Rings by one walk in depth (as cycle.Rings goes): the steps, what bounds them. No program in sight.
  Rings by one walk in depth: what keeps the walk from a fault. No program in sight.
  Rings by one walk in depth: what comes out are the rings. No program in sight.
  Rings by one walk in depth: all that are told, and no more. No program in sight.
-/
import Derived.Test.YtdlpbpohbkcafaaGreatBase
namespace Go.Proofs.YtdlpbpohbkcafaaGreat
section

/-- Of each number those that it points to. -/
abbrev Dg := List (List Nat)
def nxs (g : Dg) (v : Nat) : List Nat := g.getD v []
def upd {α : Type} (f : Nat → α) (v : Nat) (x : α) : Nat → α := fun w => if w = v then x else f w
theorem upd_same {α : Type} (f : Nat → α) (v : Nat) (x : α) : upd f v x v = x := by simp [upd]
theorem upd_other {α : Type} {f : Nat → α} {v w : Nat} {x : α} (h : w ≠ v) : upd f v x w = f w := by simp [upd, h]

structure TS where
  index : Nat → Nat
  low : Nat → Nat
  on : Nat → Bool
  count : Nat
  pile : List Nat
  rings : List (List Nat)
  way : List (Nat × Nat)

/-- Numbers, the least one first. -/
def sortN (l : List Nat) : List Nat := l.mergeSort fun a b => decide (a ≤ b)

/-- A place that is come to for the first time. -/
def visit (s : TS) (v : Nat) : TS := if s.index v = 0 then { s with count := s.count + 1, index := upd s.index v (s.count + 1), low := upd s.low v (s.count + 1), on := upd s.on v true, pile := s.pile ++ [v] } else s
/-- The next step ahead. -/
def ahead1 (v u k : Nat) (rest : List (Nat × Nat)) (s : TS) : TS :=
  if s.index u = 0 then { s with way := (u, 0) :: (v, k + 1) :: rest }
  else if s.on u = true then { s with way := (v, k + 1) :: rest, low := upd s.low v (min (s.low v) (s.index u)) }
  else { s with way := (v, k + 1) :: rest }
/-- A ring is done. -/
def close1 (g : Dg) (v : Nat) (s : TS) : TS :=
  if s.low v ≠ s.index v then s
  else { s with on := (s.pile.drop (s.pile.idxOf v)).foldl (fun o u => upd o u false) s.on, rings := if 1 < (s.pile.drop (s.pile.idxOf v)).length ∨ v ∈ nxs g v then s.rings ++ [sortN (s.pile.drop (s.pile.idxOf v))] else s.rings, pile := s.pile.take (s.pile.idxOf v) }
/-- Back by one. -/
def back1 (v : Nat) (rest : List (Nat × Nat)) (s : TS) : TS :=
  match rest with
  | [] => { s with way := [] }
  | (up, k) :: r => { s with way := (up, k) :: r, low := upd s.low up (min (s.low up) (s.low v)) }
def stepT (g : Dg) (s : TS) : TS :=
  match s.way with
  | [] => s
  | (v, k) :: rest => if k < (nxs g v).length then ahead1 v ((nxs g v).getD k 0) k rest (visit s v) else close1 g v (back1 v rest (visit s v))
def runT (g : Dg) : Nat → TS → TS
  | 0, s => s
  | f + 1, s => if s.way = [] then s else runT g f (stepT g s)
/-- From one place on. -/
def fromT (g : Dg) (s : TS) (v : Nat) : TS := if 0 < s.index v then s else runT g ((g.map fun l => l.length + 1).sum + 1) { s with way := [(v, 0)] }
def startT : TS := ⟨fun _ => 0, fun _ => 0, fun _ => false, 0, [], [], []⟩
def allT (g : Dg) : TS := (List.range g.length).foldl (fromT g) startT

/-- What holds on the way. -/
structure OkT (g : Dg) (s : TS) : Prop where
  bd : ∀ p ∈ s.way, p.1 < g.length ∧ p.2 ≤ (nxs g p.1).length
  nd : (s.way.map (·.1)).Nodup
  vis : ∀ p ∈ s.way.tail, s.index p.1 ≠ 0
/-- All are numbers of the graph. -/
def OkG (g : Dg) : Prop := ∀ l ∈ g, ∀ u ∈ l, u < g.length
theorem OkG.nx {g : Dg} (h : OkG g) {v u : Nat} (hu : u ∈ nxs g v) : u < g.length := by
  unfold nxs at hu
  rw [List.getD_eq_getElem?_getD] at hu
  cases hg : g[v]? with
  | none => rw [hg] at hu; simp at hu
  | some l =>
    rw [hg] at hu
    exact h l (List.mem_of_getElem? hg) u hu

/-- How many steps there are yet. -/
def leftW (g : Dg) (way : List (Nat × Nat)) : Nat := (way.map fun p => (nxs g p.1).length - p.2 + 1).sum
def leftN (g : Dg) (s : TS) : Nat := ((List.range g.length).map fun v => if s.index v = 0 ∧ v ∉ s.way.map (·.1) then (nxs g v).length + 1 else 0).sum
def leftT (g : Dg) (s : TS) : Nat := leftW g s.way + leftN g s

theorem sum_le {n : Nat} {f f' : Nat → Nat} (h : ∀ v, v < n → f' v ≤ f v) : ((List.range n).map f').sum ≤ ((List.range n).map f).sum := by
  induction n with
  | zero => simp
  | succ n ih =>
    rw [List.range_succ, List.map_append, List.map_append, List.sum_append, List.sum_append]
    have h1 := ih (fun v hv => h v (by omega))
    have h2 := h n (by omega)
    simp
    omega
theorem sum_lt {n : Nat} {f f' : Nat → Nat} (h : ∀ v, v < n → f' v ≤ f v) {u d : Nat} (hu : u < n) (hd : f' u + d ≤ f u) : ((List.range n).map f').sum + d ≤ ((List.range n).map f).sum := by
  induction n with
  | zero => omega
  | succ n ih =>
    rw [List.range_succ, List.map_append, List.map_append, List.sum_append, List.sum_append]
    have h2 := h n (by omega)
    by_cases he : u = n
    · subst he
      have h1 := sum_le (n := u) (f := f) (f' := f') (fun v hv => h v (by omega))
      simp
      omega
    · have h1 := ih (fun v hv => h v (by omega)) (by omega)
      simp
      omega

theorem visit_index (s : TS) (v w : Nat) : (visit s v).index w = if s.index v = 0 ∧ w = v then s.count + 1 else s.index w := by
  unfold visit
  by_cases h : s.index v = 0
  · rw [if_pos h]
    by_cases hw : w = v
    · simp [upd, h, hw]
    · simp [upd, hw]
  · rw [if_neg h, if_neg (fun h2 => h h2.1)]
theorem visit_way (s : TS) (v : Nat) : (visit s v).way = s.way := by unfold visit; split <;> rfl
theorem visit_ne (s : TS) (v : Nat) : (visit s v).index v ≠ 0 := by
  rw [visit_index]
  by_cases h : s.index v = 0
  · rw [if_pos ⟨h, rfl⟩]; omega
  · rw [if_neg (fun h2 => h h2.1)]; exact h
theorem visit_zero {s : TS} {v w : Nat} (h : (visit s v).index w = 0) : s.index w = 0 ∧ w ≠ v := by
  have hne : w ≠ v := fun e => visit_ne s v (e ▸ h)
  rw [visit_index, if_neg (fun h2 => hne h2.2)] at h
  exact ⟨h, hne⟩

/-- ONE STEP: what holds on the way is kept, and there is one step less. -/
theorem step_ok {g : Dg} (hg : OkG g) {s : TS} (h : OkT g s) (hw : s.way ≠ []) : OkT g (stepT g s) ∧ leftT g (stepT g s) + 1 ≤ leftT g s := by
  obtain ⟨hbd, hnd, hvis⟩ := h
  cases hway : s.way with
  | nil => exact absurd hway hw
  | cons p rest =>
    obtain ⟨v, k⟩ := p
    rw [hway] at hbd hnd hvis
    have hv := (hbd (v, k) (by simp)).1
    have hk := (hbd (v, k) (by simp)).2
    simp only at hv hk
    have hrest : ∀ p ∈ rest, p.1 < g.length ∧ p.2 ≤ (nxs g p.1).length := fun p hp => hbd p (by simp [hp])
    have hnr : (rest.map (·.1)).Nodup := (List.nodup_cons.1 (by simpa using hnd)).2
    have hvr : v ∉ rest.map (·.1) := (List.nodup_cons.1 (by simpa using hnd)).1
    have hvis2 : ∀ p ∈ rest, (visit s v).index p.1 ≠ 0 := fun p hp h0 => hvis p (by simpa using hp) (visit_zero h0).1
    unfold stepT
    rw [hway]
    simp only
    by_cases hkl : k < (nxs g v).length
    · rw [if_pos hkl]
      have hu : (nxs g v).getD k 0 < g.length := by
        rw [List.getD_eq_getElem?_getD, List.getElem?_eq_getElem hkl]
        exact hg.nx (List.getElem_mem hkl)
      generalize (nxs g v).getD k 0 = u at hu ⊢
      unfold ahead1
      by_cases h0 : (visit s v).index u = 0
      · rw [if_pos h0]
        have hz := visit_zero h0
        have hur : u ∉ rest.map (·.1) := fun hm => by
          obtain ⟨p, hp, rfl⟩ := List.mem_map.1 hm
          exact hvis2 p hp h0
        refine ⟨⟨fun p hp => ?_, ?_, fun p hp => ?_⟩, ?_⟩
        · simp only [List.mem_cons] at hp
          rcases hp with rfl | rfl | hp
          · exact ⟨hu, Nat.zero_le _⟩
          · exact ⟨hv, hkl⟩
          · exact hrest p hp
        · simp only [List.map_cons, List.nodup_cons, List.mem_cons, not_or]
          exact ⟨⟨hz.2, hur⟩, hvr, hnr⟩
        · simp only [List.tail_cons, List.mem_cons] at hp
          rcases hp with rfl | hp
          · exact visit_ne s v
          · exact hvis2 p hp
        · have hN : leftN g { visit s v with way := (u, 0) :: (v, k + 1) :: rest } + ((nxs g u).length + 1) ≤ leftN g s := by
            unfold leftN
            refine sum_lt (fun w hw2 => ?_) hu ?_
            · simp only [hway, List.map_cons]
              split
              · rename_i hc
                have := visit_zero hc.1
                rw [if_pos ⟨this.1, fun hm => hc.2 (by simp at hm ⊢; exact .inr hm)⟩]
                exact Nat.le_refl _
              · exact Nat.zero_le _
            · simp only [hway, List.map_cons]
              rw [if_neg (fun hc => hc.2 (by simp)), if_pos ⟨hz.1, by simp; exact ⟨hz.2, fun x hx => hur (List.mem_map.2 ⟨_, hx, rfl⟩)⟩⟩]
              omega
          unfold leftT leftW
          dsimp only at hN ⊢
          simp only [List.map_cons, List.sum_cons, hway]
          omega
      · have hkeep : ∀ lw, OkT g { visit s v with way := (v, k + 1) :: rest, low := lw } ∧ leftT g { visit s v with way := (v, k + 1) :: rest, low := lw } + 1 ≤ leftT g s := fun lw => by
          refine ⟨⟨fun p hp => ?_, ?_, fun p hp => ?_⟩, ?_⟩
          · simp only [List.mem_cons] at hp
            rcases hp with rfl | hp
            · exact ⟨hv, hkl⟩
            · exact hrest p hp
          · simp only [List.map_cons, List.nodup_cons]
            exact ⟨hvr, hnr⟩
          · exact hvis2 p (by simpa using hp)
          · have hN : leftN g { visit s v with way := (v, k + 1) :: rest, low := lw } ≤ leftN g s := by
              unfold leftN
              refine sum_le (fun w hw2 => ?_)
              simp only [hway, List.map_cons]
              split
              · rename_i hc
                have := visit_zero hc.1
                rw [if_pos ⟨this.1, hc.2⟩]
                exact Nat.le_refl _
              · exact Nat.zero_le _
            unfold leftT leftW
            dsimp only at hN ⊢
            simp only [List.map_cons, List.sum_cons, hway]
            omega
        rw [if_neg h0]
        split
        · exact hkeep _
        · exact hkeep (visit s v).low
    · rw [if_neg hkl]
      have hgen : ∀ s2 : TS, s2.way = rest → s2.index = (visit s v).index → OkT g s2 ∧ leftT g s2 + 1 ≤ leftT g s := fun s2 e1 e2 => by
        refine ⟨⟨by rw [e1]; exact hrest, by rw [e1]; exact hnr, fun p hp => by rw [e2]; exact hvis2 p (by rw [e1] at hp; exact List.mem_of_mem_tail hp)⟩, ?_⟩
        have hN : leftN g s2 ≤ leftN g s := by
          unfold leftN
          refine sum_le (fun w hw2 => ?_)
          rw [e1, e2]
          simp only [hway, List.map_cons]
          split
          · rename_i hc
            have := visit_zero hc.1
            rw [if_pos ⟨this.1, fun hm => by
              simp only [List.mem_cons] at hm
              rcases hm with hm | hm
              · exact this.2 hm
              · exact hc.2 hm⟩]
            exact Nat.le_refl _
          · exact Nat.zero_le _
        unfold leftT leftW
        rw [e1]
        simp only [List.map_cons, List.sum_cons, hway]
        omega
      refine hgen _ ?_ ?_
      · unfold close1 back1
        cases rest with
        | nil => simp only; split <;> rfl
        | cons q r => obtain ⟨up, j⟩ := q; simp only; split <;> rfl
      · unfold close1 back1
        cases rest with
        | nil => simp only; split <;> rfl
        | cons q r => obtain ⟨up, j⟩ := q; simp only; split <;> rfl

theorem run_nil (g : Dg) (f : Nat) {s : TS} (h : s.way = []) : runT g f s = s := by
  cases f with
  | zero => rfl
  | succ f => rw [runT, if_pos h]
/-- With steps enough the way ends. -/
theorem run_ends {g : Dg} (hg : OkG g) : ∀ (f : Nat) (s : TS), OkT g s → leftT g s ≤ f → (runT g f s).way = []
  | 0, s, _, hl => by
    cases hw : s.way with
    | nil => exact hw
    | cons p r =>
      unfold leftT leftW at hl
      rw [hw] at hl
      simp at hl
  | f + 1, s, h, hl => by
    rw [runT]
    split
    · assumption
    · rename_i hw
      obtain ⟨h1, h2⟩ := step_ok hg h hw
      exact run_ends hg f _ h1 (by omega)
end
section

theorem leftT_def (g : Dg) (s : TS) : leftT g s = leftW g s.way + leftN g s := rfl
def total (g : Dg) : Nat := (g.map fun l => l.length + 1).sum
theorem total_eq (g : Dg) : total g = ((List.range g.length).map fun v => (nxs g v).length + 1).sum := by
  unfold total
  congr 1
  apply List.ext_getElem
  · simp
  · intro i h1 h2
    have hi : i < g.length := by simpa using h1
    simp [nxs, hi]
theorem len_total (g : Dg) : g.length ≤ total g := by
  unfold total
  induction g with
  | nil => simp
  | cons a g ih => simp only [List.map_cons, List.sum_cons, List.length_cons]; omega

structure OkL (g : Dg) (s : TS) : Prop where
  pnd : s.pile.Nodup
  pin : ∀ x ∈ s.pile, x < g.length ∧ s.index x ≠ 0
  way : ∀ p r, s.way = p :: r → ((r.map (·.1)).reverse.Sublist s.pile) ∧ (s.index p.1 ≠ 0 → ((s.way.map (·.1)).reverse.Sublist s.pile))
  rin : ∀ r ∈ s.rings, r ≠ [] ∧ ∀ x ∈ r, x < g.length ∧ s.index x ≠ 0 ∧ x ∉ s.pile
  rap : s.rings.Pairwise fun r q => ∀ x ∈ r, x ∉ q
  cnt : s.count + leftT g s ≤ total g

theorem sub_take {xs p : List Nat} {v : Nat} (h : (xs ++ [v]).Sublist p) (hn : p.Nodup) : xs.Sublist (p.take (p.idxOf v)) := by
  obtain ⟨r1, r2, rfl, h1, h2⟩ := List.append_sublist_iff.1 h
  have hv : v ∈ r2 := h2.subset (by simp)
  have hn1 : v ∉ r1 := fun hm => (List.nodup_append.1 hn).2.2 v hm v hv rfl
  rw [List.idxOf_append, if_neg hn1, List.take_append]
  exact (h1.trans (by rw [List.take_of_length_le (by omega)]; exact List.Sublist.refl _)).trans (List.sublist_append_left _ _)

/-- What holds behind the visit of the way's top. -/
structure OkV (g : Dg) (s : TS) (v : Nat) (rest : List (Nat × Nat)) : Prop where
  pnd : s.pile.Nodup
  pin : ∀ x ∈ s.pile, x < g.length ∧ s.index x ≠ 0
  sub : ((rest.map (·.1)).reverse ++ [v]).Sublist s.pile
  rin : ∀ r ∈ s.rings, r ≠ [] ∧ ∀ x ∈ r, x < g.length ∧ s.index x ≠ 0 ∧ x ∉ s.pile
  rap : s.rings.Pairwise fun r q => ∀ x ∈ r, x ∉ q
theorem OkV.mem {g : Dg} {s : TS} {v : Nat} {rest : List (Nat × Nat)} (h : OkV g s v rest) : v ∈ s.pile := h.sub.subset (by simp)
theorem visit_ok {g : Dg} {s : TS} {v k : Nat} {rest : List (Nat × Nat)} (h : OkL g s) (hv : v < g.length) (hw : s.way = (v, k) :: rest) : OkV g (visit s v) v rest := by
  obtain ⟨h1, h2⟩ := h.way _ _ hw
  by_cases h0 : s.index v = 0
  · have e : visit s v = { s with count := s.count + 1, index := upd s.index v (s.count + 1), low := upd s.low v (s.count + 1), on := upd s.on v true, pile := s.pile ++ [v] } := by unfold visit; rw [if_pos h0]
    have hnv : v ∉ s.pile := fun hm => (h.pin v hm).2 h0
    have hix : ∀ x, s.index x ≠ 0 → (visit s v).index x ≠ 0 := fun x hx => by
      rw [visit_index, if_neg (fun hc : s.index v = 0 ∧ x = v => hx (by rw [hc.2]; exact h0))]
      exact hx
    rw [e] at hix ⊢
    refine ⟨?_, ?_, ?_, ?_, h.rap⟩
    · rw [List.nodup_append]
      exact ⟨h.pnd, by simp, fun a ha b hb => by simp at hb; subst hb; exact fun e => hnv (e ▸ ha)⟩
    · intro x hx
      rcases List.mem_append.1 hx with hx | hx
      · exact ⟨(h.pin x hx).1, hix x (h.pin x hx).2⟩
      · simp at hx
        subst hx
        exact ⟨hv, by simp [upd]⟩
    · exact h1.append (List.Sublist.refl _)
    · intro r hr
      refine ⟨(h.rin r hr).1, fun x hx => ?_⟩
      obtain ⟨a, b, c⟩ := (h.rin r hr).2 x hx
      refine ⟨a, hix x b, fun hm => ?_⟩
      rcases List.mem_append.1 hm with hm | hm
      · exact c hm
      · simp at hm
        subst hm
        exact b h0
  · have e : visit s v = s := by unfold visit; rw [if_neg h0]
    rw [e]
    refine ⟨h.pnd, h.pin, ?_, h.rin, h.rap⟩
    have := h2 h0
    rw [hw] at this
    simpa using this

theorem visit_count (s : TS) (v : Nat) : (visit s v).count ≤ s.count + 1 := by
  unfold visit
  split
  · exact Nat.le_refl _
  · exact Nat.le_succ _
theorem close1_count (g : Dg) (v : Nat) (s : TS) : (close1 g v s).count = s.count := by unfold close1; split <;> rfl
theorem back1_count (v : Nat) (r : List (Nat × Nat)) (s : TS) : (back1 v r s).count = s.count := by unfold back1; split <;> rfl
theorem close1_index (g : Dg) (v : Nat) (s : TS) : (close1 g v s).index = s.index := by unfold close1; split <;> rfl
theorem close1_way (g : Dg) (v : Nat) (s : TS) : (close1 g v s).way = s.way := by unfold close1; split <;> rfl
theorem back1_index (v : Nat) (r : List (Nat × Nat)) (s : TS) : (back1 v r s).index = s.index := by unfold back1; split <;> rfl
theorem back1_pile (v : Nat) (r : List (Nat × Nat)) (s : TS) : (back1 v r s).pile = s.pile := by unfold back1; split <;> rfl
theorem back1_rings (v : Nat) (r : List (Nat × Nat)) (s : TS) : (back1 v r s).rings = s.rings := by unfold back1; split <;> rfl
theorem back1_on (v : Nat) (r : List (Nat × Nat)) (s : TS) : (back1 v r s).on = s.on := by unfold back1; split <;> rfl
theorem back1_way (v : Nat) (r : List (Nat × Nat)) (s : TS) : (back1 v r s).way = r := by unfold back1; split <;> rfl
theorem step_count (g : Dg) (s : TS) : (stepT g s).count ≤ s.count + 1 := by
  unfold stepT
  split
  · omega
  · rename_i v k rest hw
    have h0 := visit_count s v
    split
    · unfold ahead1
      repeat' split
      all_goals exact h0
    · rw [close1_count, back1_count]
      exact h0

theorem mem_sortN {l : List Nat} {x : Nat} : x ∈ sortN l ↔ x ∈ l := (List.mergeSort_perm l _).mem_iff
/-- What a ring of the pile's end brings. -/
theorem OkV.cut {g : Dg} {s : TS} {v : Nat} {rest : List (Nat × Nat)} (h : OkV g s v rest) : (s.pile.take (s.pile.idxOf v)).Nodup ∧ (∀ x ∈ s.pile.take (s.pile.idxOf v), x < g.length ∧ s.index x ≠ 0) ∧ ((rest.map (·.1)).reverse.Sublist (s.pile.take (s.pile.idxOf v))) ∧
    s.pile.idxOf v < s.pile.length ∧ s.pile.drop (s.pile.idxOf v) ≠ [] ∧ (∀ x ∈ s.pile.drop (s.pile.idxOf v), x < g.length ∧ s.index x ≠ 0 ∧ x ∉ s.pile.take (s.pile.idxOf v)) := by
  have hi : s.pile.idxOf v < s.pile.length := List.idxOf_lt_length_of_mem h.mem
  refine ⟨h.pnd.sublist (List.take_sublist _ _), fun x hx => h.pin x (List.mem_of_mem_take hx), sub_take h.sub h.pnd, hi, fun e => ?_, fun x hx => ?_⟩
  · have := congrArg List.length e
    simp at this
    omega
  · have := h.pin x (List.mem_of_mem_drop hx)
    refine ⟨this.1, this.2, fun hm => ?_⟩
    have hn := h.pnd
    rw [← List.take_append_drop (s.pile.idxOf v) s.pile, List.nodup_append] at hn
    exact hn.2.2 x hm x hx rfl

theorem step_okL {g : Dg} (hg : OkG g) {s : TS} (h : OkL g s) (ht : OkT g s) (hw : s.way ≠ []) : OkL g (stepT g s) := by
  have hcnt : (stepT g s).count + leftT g (stepT g s) ≤ total g := by
    have h1 := (step_ok hg ht hw).2
    have h2 := step_count g s
    have h3 := h.cnt
    omega
  cases hway : s.way with
  | nil => exact absurd hway hw
  | cons p rest =>
    obtain ⟨v, k⟩ := p
    have hv := (ht.bd (v, k) (by rw [hway]; simp)).1
    have hV := visit_ok h hv hway
    unfold stepT at hcnt ⊢
    rw [hway] at hcnt ⊢
    simp only at hcnt ⊢
    by_cases hkl : k < (nxs g v).length
    · rw [if_pos hkl] at hcnt ⊢
      generalize (nxs g v).getD k 0 = u at hcnt ⊢
      have hS : ∀ W p, ∀ s2 : TS, s2.way = p :: W → s2.pile = (visit s v).pile → s2.index = (visit s v).index → s2.rings = (visit s v).rings → (p :: W = (v, k + 1) :: rest ∨ (p.1 = u ∧ (visit s v).index u = 0 ∧ W = (v, k + 1) :: rest)) → s2.count + leftT g s2 ≤ total g → OkL g s2 := by
        intro W p s2 e1 e2 e3 e4 e5 e6
        refine ⟨by rw [e2]; exact hV.pnd, by rw [e2, e3]; exact hV.pin, fun q r e => ?_, by rw [e2, e3, e4]; exact hV.rin, by rw [e4]; exact hV.rap, e6⟩
        rw [e1] at e
        obtain ⟨rfl, rfl⟩ := List.cons.inj e
        rw [e1, e2, e3]
        rcases e5 with e5 | ⟨e5, e6, e7⟩
        · obtain ⟨rfl, rfl⟩ := List.cons.inj e5
          have := hV.sub
          exact ⟨(List.sublist_append_left _ _).trans this, fun _ => by simpa using this⟩
        · subst e7
          refine ⟨by simpa using hV.sub, fun h0 => absurd e6 (by rw [← e5]; exact h0)⟩
      unfold ahead1 at hcnt ⊢
      by_cases h0 : (visit s v).index u = 0
      · rw [if_pos h0] at hcnt ⊢
        exact hS _ _ _ rfl rfl rfl rfl (.inr ⟨rfl, h0, rfl⟩) hcnt
      · rw [if_neg h0] at hcnt ⊢
        by_cases h1 : (visit s v).on u = true
        · rw [if_pos h1] at hcnt ⊢
          exact hS _ _ _ rfl rfl rfl rfl (.inl rfl) hcnt
        · rw [if_neg h1] at hcnt ⊢
          exact hS _ _ _ rfl rfl rfl rfl (.inl rfl) hcnt
    · rw [if_neg hkl] at hcnt ⊢
      have hB : OkV g (back1 v rest (visit s v)) v rest := by
        refine ⟨?_, ?_, ?_, ?_, ?_⟩ <;> simp only [back1_pile, back1_index, back1_rings]
        · exact hV.pnd
        · exact hV.pin
        · exact hV.sub
        · exact hV.rin
        · exact hV.rap
      have hBw := back1_way v rest (visit s v)
      generalize back1 v rest (visit s v) = s2 at *
      obtain ⟨c1, c2, c3, c4, c5, c6⟩ := hB.cut
      have hwayOk : ∀ (P : List Nat), ((rest.map (·.1)).reverse.Sublist P) → ∀ p r, rest = p :: r → ((r.map (·.1)).reverse.Sublist P) ∧ (s2.index p.1 ≠ 0 → ((rest.map (·.1)).reverse.Sublist P)) := fun P hP p r e => by
        refine ⟨?_, fun _ => hP⟩
        rw [e, List.map_cons, List.reverse_cons] at hP
        exact (List.sublist_append_left _ _).trans hP
      by_cases hlow : s2.low v ≠ s2.index v
      · have e : close1 g v s2 = s2 := by unfold close1; rw [if_pos hlow]
        rw [e] at hcnt ⊢
        refine ⟨hB.pnd, hB.pin, fun p r e2 => ?_, hB.rin, hB.rap, hcnt⟩
        rw [hBw] at e2
        rw [hBw]
        exact hwayOk _ ((List.sublist_append_left _ _).trans hB.sub) p r e2
      · unfold close1 at hcnt ⊢
        rw [if_neg hlow] at hcnt ⊢
        refine ⟨c1, c2, fun p r e2 => ?_, ?_, ?_, hcnt⟩
        · rw [hBw] at e2
          simp only [hBw]
          exact hwayOk _ c3 p r e2
        · simp only
          have hold : ∀ r ∈ s2.rings, r ≠ [] ∧ ∀ x ∈ r, x < g.length ∧ s2.index x ≠ 0 ∧ x ∉ s2.pile.take (s2.pile.idxOf v) := fun r hr => ⟨(hB.rin r hr).1, fun x hx => ⟨((hB.rin r hr).2 x hx).1, ((hB.rin r hr).2 x hx).2.1, fun hm => ((hB.rin r hr).2 x hx).2.2 (List.mem_of_mem_take hm)⟩⟩
          split
          · intro r hr
            rcases List.mem_append.1 hr with hr | hr
            · exact hold r hr
            · simp at hr
              subst hr
              refine ⟨fun e => c5 ?_, fun x hx => c6 x (mem_sortN.1 hx)⟩
              have h1 : (sortN (s2.pile.drop (s2.pile.idxOf v))).length = 0 := by rw [e]; rfl
              rw [show (sortN (s2.pile.drop (s2.pile.idxOf v))).length = (s2.pile.drop (s2.pile.idxOf v)).length from (List.mergeSort_perm _ _).length_eq] at h1
              exact List.eq_nil_of_length_eq_zero h1
          · exact hold
        · simp only
          split
          · rw [List.pairwise_append]
            refine ⟨hB.rap, by simp, fun r hr q hq x hx => ?_⟩
            simp at hq
            subst hq
            rw [mem_sortN]
            exact fun hm => ((hB.rin r hr).2 x hx).2.2 (List.mem_of_mem_drop hm)
          · exact hB.rap

/-- Between two of the outer loop's rounds. -/
structure OkB (g : Dg) (s : TS) : Prop where
  way : s.way = []
  l : OkL g s
theorem start_ok (g : Dg) : OkB g startT := by
  refine ⟨rfl, ⟨by simp [startT], by simp [startT], by simp [startT], by simp [startT], by simp [startT], ?_⟩⟩
  rw [total_eq]
  simp [startT, leftT, leftW, leftN]
theorem from_ok {g : Dg} {s : TS} (h : OkB g s) {v : Nat} (hv : v < g.length) (h0 : s.index v = 0) :
    OkL g { s with way := [(v, 0)] } ∧ OkT g { s with way := [(v, 0)] } ∧ leftT g { s with way := [(v, 0)] } ≤ total g := by
  have hN : leftN g { s with way := [(v, 0)] } + ((nxs g v).length + 1) ≤ leftN g s := by
    unfold leftN
    refine sum_lt (fun w hw2 => ?_) hv ?_
    · simp only [h.way]
      split
      · rename_i hc
        rw [if_pos ⟨hc.1, by simp⟩]
        exact Nat.le_refl _
      · exact Nat.zero_le _
    · simp only [h.way]
      rw [if_neg (fun hc => hc.2 (by simp)), if_pos ⟨h0, by simp⟩]
      omega
  have hc := h.l.cnt
  have hT : s.count + leftT g { s with way := [(v, 0)] } ≤ total g := by
    rw [leftT_def] at hc ⊢
    have e1 : leftW g s.way = 0 := by rw [h.way]; rfl
    have e2 : leftW g [(v, 0)] = (nxs g v).length + 1 := by simp [leftW]
    simp only [e2]
    omega
  refine ⟨⟨h.l.pnd, h.l.pin, fun p r e => ?_, h.l.rin, h.l.rap, hT⟩, ⟨fun p hp => ?_, by simp, by simp⟩, by omega⟩
  · obtain ⟨rfl, rfl⟩ := List.cons.inj e
    exact ⟨by simp, fun hne => absurd h0 hne⟩
  · simp at hp
    subst hp
    exact ⟨hv, Nat.zero_le _⟩
theorem run_ok {g : Dg} (hg : OkG g) : ∀ (f : Nat) (s : TS), OkT g s → OkL g s → leftT g s ≤ f → OkB g (runT g f s)
  | 0, s, h, hl, hf => ⟨run_ends hg 0 s h hf, by rw [runT]; exact hl⟩
  | f + 1, s, h, hl, hf => by
    rw [runT]
    split
    · rename_i hw
      exact ⟨hw, hl⟩
    · rename_i hw
      obtain ⟨h1, h2⟩ := step_ok hg h hw
      exact run_ok hg f _ h1 (step_okL hg hl h hw) (by omega)
theorem fromT_ok {g : Dg} (hg : OkG g) {s : TS} (h : OkB g s) {v : Nat} (hv : v < g.length) : OkB g (fromT g s v) := by
  unfold fromT
  split
  · exact h
  · rename_i h0
    obtain ⟨h1, h2, h3⟩ := from_ok h hv (by omega)
    exact run_ok hg _ _ h2 h1 (Nat.le_succ_of_le h3)
/-- The first k places have been gone from. -/
def firstT (g : Dg) (k : Nat) : TS := (List.range k).foldl (fromT g) startT
theorem firstT_succ (g : Dg) (k : Nat) : firstT g (k + 1) = fromT g (firstT g k) k := by
  unfold firstT
  rw [List.range_succ, List.foldl_append]
  rfl
theorem firstT_ok {g : Dg} (hg : OkG g) : ∀ k, k ≤ g.length → OkB g (firstT g k)
  | 0, _ => start_ok g
  | k + 1, hk => by
    rw [firstT_succ]
    exact fromT_ok hg (firstT_ok hg k (by omega)) (by omega)

theorem nodup_lt : ∀ {n : Nat} {l : List Nat}, l.Nodup → (∀ x ∈ l, x < n) → l.length ≤ n
  | 0, [], _, _ => by simp
  | 0, a :: _, _, h => absurd (h a (by simp)) (by omega)
  | n + 1, l, hn, h => by
    have h1 := nodup_lt (n := n) (l := l.erase n) (hn.erase n) (fun x hx => by
      have h2 := hn.mem_erase_iff.1 hx
      have h3 := h x h2.2
      have h4 := h2.1
      omega)
    rw [List.length_erase] at h1
    split at h1 <;> omega
theorem OkT.way_len {g : Dg} {s : TS} (h : OkT g s) : s.way.length ≤ g.length := by
  have := nodup_lt h.nd (fun x hx => by obtain ⟨p, hp, rfl⟩ := List.mem_map.1 hx; exact (h.bd p hp).1)
  simpa using this
theorem pile_len {g : Dg} {s : TS} (h : s.pile.Nodup) (h2 : ∀ x ∈ s.pile, x < g.length ∧ s.index x ≠ 0) : s.pile.length ≤ g.length := nodup_lt h fun x hx => (h2 x hx).1
theorem head_mem {r : List Nat} (h : r ≠ []) : r.headD 0 ∈ r := by
  cases r with
  | nil => exact absurd rfl h
  | cons a l => simp
theorem heads_nodup {rings : List (List Nat)} (h : rings.Pairwise fun r q => ∀ x ∈ r, x ∉ q) (hne : ∀ r ∈ rings, r ≠ []) : (rings.map fun r => r.headD 0).Nodup := by
  unfold List.Nodup
  rw [List.pairwise_map]
  refine h.imp_of_mem fun {a b} ha hb hab e => hab _ (head_mem (hne a ha)) ?_
  rw [e]
  exact head_mem (hne b hb)
theorem rings_len {g : Dg} {s : TS} (h : s.rings.Pairwise fun r q => ∀ x ∈ r, x ∉ q) (h2 : ∀ r ∈ s.rings, r ≠ [] ∧ ∀ x ∈ r, x < g.length ∧ s.index x ≠ 0 ∧ x ∉ s.pile) : s.rings.length ≤ g.length := by
  have := nodup_lt (n := g.length) (heads_nodup h fun r hr => (h2 r hr).1) (fun x hx => by
    obtain ⟨r, hr, rfl⟩ := List.mem_map.1 hx
    exact ((h2 r hr).2 _ (head_mem (h2 r hr).1)).1)
  simpa using this
end
section

/-- There is a way, maybe of no step. -/
inductive Rch (g : Dg) : Nat → Nat → Prop
  | refl (v : Nat) : Rch g v v
  | step {v w u : Nat} : Rch g v w → u ∈ nxs g w → Rch g v u
theorem Rch.trans {g : Dg} {a b c : Nat} (h : Rch g a b) (k : Rch g b c) : Rch g a c := by
  induction k with
  | refl => exact h
  | step _ hu ih => exact ih.step hu
theorem Rch.one {g : Dg} {a b : Nat} (h : b ∈ nxs g a) : Rch g a b := (Rch.refl a).step h
/-- A way of one step or more. -/
def Rch1 (g : Dg) (a b : Nat) : Prop := ∃ c, c ∈ nxs g a ∧ Rch g c b
theorem Rch1.rch {g : Dg} {a b : Nat} (h : Rch1 g a b) : Rch g a b := by
  obtain ⟨c, h1, h2⟩ := h
  exact (Rch.one h1).trans h2
theorem Rch.one_of {g : Dg} {a b : Nat} (h : Rch g a b) : a = b ∨ Rch1 g a b := by
  induction h with
  | refl => exact .inl rfl
  | step _ hu ih =>
    rcases ih with rfl | ⟨c, h1, h2⟩
    · exact .inr ⟨_, hu, Rch.refl _⟩
    · exact .inr ⟨c, h1, h2.step hu⟩
theorem Rch1.trans_r {g : Dg} {a b c : Nat} (h : Rch1 g a b) (k : Rch g b c) : Rch1 g a c := by
  obtain ⟨d, h1, h2⟩ := h
  exact ⟨d, h1, h2.trans k⟩
theorem Rch1.trans_l {g : Dg} {a b c : Nat} (h : Rch g a b) (k : Rch1 g b c) : Rch1 g a c := by
  rcases h.one_of with rfl | h
  · exact k
  · exact h.trans_r k.rch

/-- The places of the way. -/
abbrev wayN (s : TS) : List Nat := s.way.map (·.1)
/-- The entry has been looked at. -/
def Exp (g : Dg) (way : List (Nat × Nat)) (v u : Nat) : Prop := (v ∉ way.map (·.1) ∧ u ∈ nxs g v) ∨ ∃ k, (v, k) ∈ way ∧ u ∈ (nxs g v).take k
/-- y is the last place of the way that came ahead of w, or w itself. -/
def Seg (idx : Nat → Nat) (W : List Nat) (w y : Nat) : Prop := y ∈ W ∧ idx y ≤ idx w ∧ ∀ z ∈ W, idx z ≤ idx w → idx z ≤ idx y

/-- The rings that are told. -/
structure RingsOk (g : Dg) (rings : List (List Nat)) (D : Nat → Prop) : Prop where
  el : ∀ r ∈ rings, ∃ part : List Nat, r = sortN part ∧ part.Nodup ∧ part ≠ [] ∧ (∀ a ∈ part, D a) ∧ ∀ a ∈ part, ∀ b, b ∈ part ↔ Rch1 g a b ∧ Rch1 g b a
  all : ∀ v, D v → Rch1 g v v → ∃ r ∈ rings, v ∈ r
  apart : rings.Pairwise fun r q => ∀ a ∈ r, a ∉ q

/-- What holds between two steps: all of the way have been come to; x: one that comes next. -/
structure Inv (g : Dg) (s : TS) (x : Option Nat) : Prop where
  cnt : ∀ v, s.index v ≤ s.count
  inj : ∀ v u, s.index v = s.index u → s.index v ≠ 0 → v = u
  pil : s.pile.Pairwise fun a b => s.index a < s.index b
  vis : ∀ v ∈ s.pile, s.index v ≠ 0
  on : ∀ v, s.on v = true ↔ v ∈ s.pile
  wp : ∀ v ∈ wayN s, v ∈ s.pile
  wo : (wayN s).Pairwise fun a b => s.index b < s.index a
  wc : (wayN s).Pairwise fun a b => Rch g b a
  ex : ∀ v u, s.index v ≠ 0 → Exp g s.way v u → s.index u ≠ 0 ∨ x = some u
  cl : ∀ v, s.index v ≠ 0 → v ∉ s.pile → ∀ u ∈ nxs g v, s.index u ≠ 0 ∧ u ∉ s.pile
  base : ∀ w ∈ s.pile, ∃ y ∈ wayN s, s.index y ≤ s.index w
  own : ∀ w ∈ s.pile, ∀ y, Seg s.index (wayN s) w y → Rch g w y ∧ Rch g y w
  lo1 : ∀ y ∈ wayN s, s.low y ≤ s.index y ∧ ∃ u ∈ s.pile, s.index u = s.low y ∧ Rch g y u
  lo2 : ∀ w ∈ s.pile, ∀ y, Seg s.index (wayN s) w y → ∀ u, Exp g s.way w u → u ∈ s.pile → s.low y ≤ s.index u
  ro : RingsOk g s.rings fun v => s.index v ≠ 0 ∧ v ∉ s.pile

theorem seg_ex {idx : Nat → Nat} {w : Nat} : ∀ {W : List Nat}, (∃ y ∈ W, idx y ≤ idx w) → ∃ y, Seg idx W w y
  | [], h => by obtain ⟨y, hy, _⟩ := h; simp at hy
  | a :: W, h => by
    by_cases hW : ∃ y ∈ W, idx y ≤ idx w
    · obtain ⟨y, h1, h2, h3⟩ := seg_ex hW
      by_cases ha : idx a ≤ idx w ∧ idx y ≤ idx a
      · refine ⟨a, by simp, ha.1, fun z hz hzw => ?_⟩
        rcases List.mem_cons.1 hz with rfl | hz
        · exact Nat.le_refl _
        · exact Nat.le_trans (h3 z hz hzw) ha.2
      · refine ⟨y, by simp [h1], h2, fun z hz hzw => ?_⟩
        rcases List.mem_cons.1 hz with rfl | hz
        · omega
        · exact h3 z hz hzw
    · obtain ⟨y, hy, hyw⟩ := h
      rcases List.mem_cons.1 hy with rfl | hy
      · refine ⟨y, by simp, hyw, fun z hz hzw => ?_⟩
        rcases List.mem_cons.1 hz with rfl | hz
        · exact Nat.le_refl _
        · exact absurd ⟨z, hz, hzw⟩ hW
      · exact absurd ⟨y, hy, hyw⟩ hW

theorem RingsOk.mono {g : Dg} {rings : List (List Nat)} {D E : Nat → Prop} (h : RingsOk g rings D) (hDE : ∀ v, D v ↔ E v) : RingsOk g rings E :=
  ⟨fun r hr => by
    obtain ⟨p, h1, h2, h3, h4, h5⟩ := h.el r hr
    exact ⟨p, h1, h2, h3, fun a ha => (hDE a).1 (h4 a ha), h5⟩, fun v hv => h.all v ((hDE v).2 hv), h.apart⟩

theorem exp_push {g : Dg} {way : List (Nat × Nat)} {u v w : Nat} (h : Exp g ((u, 0) :: way) v w) (hu : u ∉ way.map (·.1)) : v ≠ u ∧ Exp g way v w := by
  rcases h with ⟨h1, h2⟩ | ⟨k, h1, h2⟩
  · simp only [List.map_cons, List.mem_cons, not_or] at h1
    exact ⟨h1.1, .inl ⟨h1.2, h2⟩⟩
  · rcases List.mem_cons.1 h1 with h1 | h1
    · cases h1
      simp at h2
    · refine ⟨fun e => hu (List.mem_map.2 ⟨(v, k), h1, e⟩), .inr ⟨k, h1, h2⟩⟩

/-- COME TO FOR THE FIRST TIME. -/
theorem inv_visit {g : Dg} {s : TS} {u : Nat} {rest : List (Nat × Nat)} (h : Inv g { s with way := rest } (some u)) (h0 : s.index u = 0) (hr : ∀ b ∈ rest.map (·.1), Rch g b u) :
    Inv g { visit s u with way := (u, 0) :: rest } none := by
  obtain ⟨cnt, inj, pil, vis, on, wp, wo, wc, ex, cl, base, own, lo1, lo2, ro⟩ := h
  simp only at cnt inj pil vis on wp wo wc ex cl base own lo1 lo2 ro
  have e : visit s u = { s with count := s.count + 1, index := upd s.index u (s.count + 1), low := upd s.low u (s.count + 1), on := upd s.on u true, pile := s.pile ++ [u] } := by unfold visit; rw [if_pos h0]
  rw [e]
  have hne : ∀ {v}, s.index v ≠ 0 → v ≠ u := fun hv e => hv (e ▸ h0)
  have hio : ∀ {v}, v ≠ u → upd s.index u (s.count + 1) v = s.index v := fun hv => upd_other hv
  have hiu : upd s.index u (s.count + 1) u = s.count + 1 := upd_same _ _ _
  have hpu : ∀ v ∈ s.pile, v ≠ u := fun v hv => hne (vis v hv)
  have hwu : ∀ v ∈ rest.map (·.1), v ≠ u := fun v hv => hpu v (wp v hv)
  have hur : u ∉ rest.map (·.1) := fun hm => hwu u hm rfl
  have hsegu : ∀ {y}, Seg (upd s.index u (s.count + 1)) (u :: rest.map (·.1)) u y → y = u := fun {y} hy => by
    rcases List.mem_cons.1 hy.1 with e | hm
    · exact e
    · have h1 := hy.2.2 u (by simp) (Nat.le_refl _)
      rw [hiu, hio (hwu y hm)] at h1
      have := cnt y
      omega
  have hsego : ∀ {w y}, w ∈ s.pile → Seg (upd s.index u (s.count + 1)) (u :: rest.map (·.1)) w y → y ≠ u ∧ Seg s.index (rest.map (·.1)) w y := fun {w y} hw hy => by
    obtain ⟨a, b, c⟩ := hy
    have hwi := hio (hpu w hw)
    rw [hwi] at b
    have hyu : y ≠ u := fun e => by
      rw [e, hiu] at b
      have := cnt w
      omega
    have hm := (List.mem_cons.1 a).resolve_left hyu
    rw [hio hyu] at b
    refine ⟨hyu, hm, b, fun z hz hzw => ?_⟩
    have := c z (List.mem_cons_of_mem _ hz) (by rw [hwi, hio (hwu z hz)]; exact hzw)
    rwa [hio (hwu z hz), hio hyu] at this
  constructor <;> simp only [wayN, List.map_cons]
  · intro v
    by_cases hv : v = u
    · rw [hv, hiu]; exact Nat.le_refl _
    · rw [hio hv]; have := cnt v; omega
  · intro v w hvw hv
    by_cases h1 : v = u <;> by_cases h2 : w = u
    · rw [h1, h2]
    · rw [h1, hiu, hio h2] at hvw; have := cnt w; omega
    · rw [h2, hiu, hio h1] at hvw; have := cnt v; omega
    · rw [hio h1, hio h2] at hvw; rw [hio h1] at hv; exact inj v w hvw hv
  · rw [List.pairwise_append]
    refine ⟨pil.imp_of_mem fun {a b} ha hb hab => by rw [hio (hpu a ha), hio (hpu b hb)]; exact hab, by simp, fun a ha b hb => ?_⟩
    simp at hb
    subst hb
    rw [hio (hpu a ha), hiu]
    have := cnt a
    omega
  · intro v hv
    rcases List.mem_append.1 hv with hv | hv
    · rw [hio (hpu v hv)]; exact vis v hv
    · simp at hv; rw [hv, hiu]; omega
  · intro v
    by_cases hv : v = u
    · simp [upd, hv]
    · simp only [upd, List.mem_append, List.mem_singleton, hv, or_false]; exact on v
  · intro v hv
    rcases List.mem_cons.1 hv with rfl | hv
    · simp
    · exact List.mem_append_left _ (wp v hv)
  · rw [List.pairwise_cons]
    refine ⟨fun b hb => ?_, wo.imp_of_mem fun {a b} ha hb hab => by rw [hio (hwu a ha), hio (hwu b hb)]; exact hab⟩
    rw [hio (hwu b hb), hiu]
    have := cnt b
    omega
  · rw [List.pairwise_cons]
    exact ⟨hr, wc⟩
  · intro v w hv hE
    obtain ⟨hvu, hE⟩ := exp_push hE hur
    rw [hio hvu] at hv
    left
    by_cases hwu2 : w = u
    · rw [hwu2, hiu]; omega
    · rw [hio hwu2]
      rcases ex v w hv hE with h1 | h1
      · exact h1
      · injection h1 with h1
        exact absurd h1.symm hwu2
  · intro v hv hp w hw
    simp only [List.mem_append, List.mem_singleton, not_or] at hp
    rw [hio hp.2] at hv
    obtain ⟨h1, h2⟩ := cl v hv hp.1 w hw
    have := hne h1
    exact ⟨by rw [hio this]; exact h1, by simp [h2, this]⟩
  · intro w hw
    rcases List.mem_append.1 hw with hw | hw
    · obtain ⟨y, h1, h2⟩ := base w hw
      exact ⟨y, List.mem_cons_of_mem _ h1, by rw [hio (hwu y h1), hio (hpu w hw)]; exact h2⟩
    · simp at hw
      exact ⟨u, by simp, by rw [hw]; exact Nat.le_refl _⟩
  · intro w hw y hy
    rcases List.mem_append.1 hw with hw | hw
    · exact own w hw y (hsego hw hy).2
    · simp at hw
      rw [hw] at hy ⊢
      rw [hsegu hy]
      exact ⟨Rch.refl _, Rch.refl _⟩
  · intro y hy
    rcases List.mem_cons.1 hy with rfl | hy
    · exact ⟨by simp [upd], y, by simp, by simp [upd], Rch.refl _⟩
    · have hyu := hwu y hy
      obtain ⟨h1, z, h2, h3, h4⟩ := lo1 y hy
      refine ⟨by rw [upd_other hyu, hio hyu]; exact h1, z, List.mem_append_left _ h2, by rw [hio (hpu z h2), upd_other hyu]; exact h3, h4⟩
  · intro w hw y hy z hE hz
    obtain ⟨hvu, hE⟩ := exp_push hE hur
    have hw := (List.mem_append.1 hw).resolve_right (by simpa using hvu)
    obtain ⟨hyu, hy2⟩ := hsego hw hy
    rw [upd_other hyu]
    rcases List.mem_append.1 hz with hz | hz
    · rw [hio (hpu z hz)]
      exact lo2 w hw y hy2 z hE hz
    · simp at hz
      rw [hz, hiu]
      have h1 := (lo1 y hy2.1).1
      have h2 := cnt y
      omega
  · refine ro.mono fun v => ?_
    by_cases hv : v = u
    · simp [hv, h0]
    · rw [hio hv]
      simp [hv]

/-- A state that differs in the way's top alone. -/
theorem exp_next {g : Dg} {v k : Nat} {rest : List (Nat × Nat)} (hk : k < (nxs g v).length) {a w : Nat} (h : Exp g ((v, k + 1) :: rest) a w) : Exp g ((v, k) :: rest) a w ∨ (a = v ∧ w = (nxs g v).getD k 0) := by
  rcases h with ⟨h1, h2⟩ | ⟨j, h1, h2⟩
  · exact .inl (.inl ⟨h1, h2⟩)
  · rcases List.mem_cons.1 h1 with h1 | h1
    · cases h1
      rw [List.take_succ_eq_append_getElem hk, List.mem_append] at h2
      rcases h2 with h2 | h2
      · exact .inl (.inr ⟨k, by simp, h2⟩)
      · right
        simp at h2
        exact ⟨rfl, by simp [h2, hk]⟩
    · exact .inl (.inr ⟨j, List.mem_cons_of_mem _ h1, h2⟩)
theorem exp_next' {g : Dg} {v k : Nat} {rest : List (Nat × Nat)} {a w : Nat} (h : Exp g ((v, k) :: rest) a w) : Exp g ((v, k + 1) :: rest) a w := by
  rcases h with ⟨h1, h2⟩ | ⟨j, h1, h2⟩
  · exact .inl ⟨h1, h2⟩
  · rcases List.mem_cons.1 h1 with h1 | h1
    · cases h1
      exact .inr ⟨k + 1, by simp, (List.take_subset_take_left _ (Nat.le_succ k)) h2⟩
    · exact .inr ⟨j, List.mem_cons_of_mem _ h1, h2⟩

/-- ONE ENTRY AHEAD. -/
theorem inv_next {g : Dg} {s : TS} {v k : Nat} {rest : List (Nat × Nat)} (h : Inv g s none) (hw : s.way = (v, k) :: rest) (hk : k < (nxs g v).length) (x : Option Nat) (lw : Nat → Nat) (hx : s.index ((nxs g v).getD k 0) ≠ 0 ∨ x = some ((nxs g v).getD k 0))
    (hl : lw = s.low ∧ (nxs g v).getD k 0 ∉ s.pile ∨ (nxs g v).getD k 0 ∈ s.pile ∧ lw = upd s.low v (min (s.low v) (s.index ((nxs g v).getD k 0)))) : Inv g { s with way := (v, k + 1) :: rest, low := lw } x := by
  obtain ⟨cnt, inj, pil, vis, on, wp, wo, wc, ex, cl, base, own, lo1, lo2, ro⟩ := h
  have hwn : wayN s = v :: rest.map (·.1) := by simp [wayN, hw]
  rw [hwn] at wp wo wc base own lo1 lo2
  rw [hw] at ex lo2
  have hvr : v ∉ rest.map (·.1) := fun hm => by
    have := (List.pairwise_cons.1 wo).1 v hm
    omega
  have hedge : Rch g v ((nxs g v).getD k 0) := Rch.one (by simp [hk])
  generalize hu : (nxs g v).getD k 0 = u at *
  have hle : ∀ y, lw y ≤ s.low y := fun y => by
    rcases hl with ⟨hl, _⟩ | ⟨_, hl⟩
    · rw [hl]; exact Nat.le_refl _
    · rw [hl]
      by_cases hy : y = v
      · rw [hy, upd_same]; exact Nat.min_le_left _ _
      · rw [upd_other hy]; exact Nat.le_refl _
  constructor <;> simp only [wayN, List.map_cons]
  · exact cnt
  · exact inj
  · exact pil
  · exact vis
  · exact on
  · exact wp
  · exact wo
  · exact wc
  · intro a w ha hE
    rcases exp_next hk hE with hE | ⟨rfl, e⟩
    · exact .inl ((ex a w ha hE).resolve_right (by simp))
    · rw [hu] at e
      rw [e]
      exact hx
  · exact cl
  · exact base
  · exact own
  · intro y hy
    obtain ⟨h1, z, h2, h3, h4⟩ := lo1 y hy
    refine ⟨Nat.le_trans (hle y) h1, ?_⟩
    rcases hl with ⟨hl, _⟩ | ⟨hup, hl⟩
    · rw [hl]; exact ⟨z, h2, h3, h4⟩
    · rw [hl]
      by_cases hyv : y = v
      · rw [hyv, upd_same]
        rw [hyv] at h3 h4
        rcases Nat.le_total (s.low v) (s.index u) with h5 | h5
        · rw [Nat.min_eq_left h5]; exact ⟨z, h2, h3, h4⟩
        · rw [Nat.min_eq_right h5]; exact ⟨u, hup, rfl, hedge⟩
      · rw [upd_other hyv]; exact ⟨z, h2, h3, h4⟩
  · intro w hw2 y hy z hE hz
    rcases exp_next hk hE with hE | ⟨rfl, e⟩
    · exact Nat.le_trans (hle y) (lo2 w hw2 y hy z hE hz)
    · rw [hu] at e
      rw [e] at hz ⊢
      have hyw : y = w := inj y w (Nat.le_antisymm hy.2.1 (hy.2.2 w (by simp) (Nat.le_refl _))) (vis y (wp y hy.1))
      rcases hl with ⟨_, hl⟩ | ⟨_, hl⟩
      · exact absurd hz hl
      · rw [hl, hyw, upd_same]
        exact Nat.min_le_right _ _
  · exact ro
/-- What the way's top being done means for what has been looked at. -/
theorem exp_done {g : Dg} {v k : Nat} {rest : List (Nat × Nat)} (hk : ¬ k < (nxs g v).length) (hv : v ∉ rest.map (·.1)) {a w : Nat} : Exp g rest a w ↔ Exp g ((v, k) :: rest) a w := by
  have ht : (nxs g v).take k = nxs g v := List.take_of_length_le (by omega)
  constructor
  · rintro (⟨h1, h2⟩ | ⟨j, h1, h2⟩)
    · by_cases ha : a = v
      · subst ha
        exact .inr ⟨k, by simp, by rw [ht]; exact h2⟩
      · exact .inl ⟨by simp only [List.map_cons, List.mem_cons, not_or]; exact ⟨ha, h1⟩, h2⟩
    · exact .inr ⟨j, List.mem_cons_of_mem _ h1, h2⟩
  · rintro (⟨h1, h2⟩ | ⟨j, h1, h2⟩)
    · simp only [List.map_cons, List.mem_cons, not_or] at h1
      exact .inl ⟨h1.2, h2⟩
    · rcases List.mem_cons.1 h1 with h1 | h1
      · cases h1
        exact .inl ⟨hv, by rw [ht] at h2; exact h2⟩
      · exact .inr ⟨j, h1, h2⟩

/-- BACK, THE RING NOT DONE YET. -/
theorem inv_back {g : Dg} {s : TS} {v k : Nat} {rest : List (Nat × Nat)} (h : Inv g s none) (hw : s.way = (v, k) :: rest) (hk : ¬ k < (nxs g v).length) (hl : s.low v ≠ s.index v) : Inv g (back1 v rest s) none := by
  obtain ⟨cnt, inj, pil, vis, on, wp, wo, wc, ex, cl, base, own, lo1, lo2, ro⟩ := h
  have hwn : wayN s = v :: rest.map (·.1) := by simp [wayN, hw]
  rw [hwn] at wp wo wc base own lo1 lo2
  rw [hw] at ex lo2
  have hvr : v ∉ rest.map (·.1) := fun hm => by
    have := (List.pairwise_cons.1 wo).1 v hm
    omega
  obtain ⟨hl1, z, hz, hzl, hvz⟩ := lo1 v (by simp)
  have hlt : s.low v < s.index v := by omega
  obtain ⟨y1, hy1, hy1z⟩ := base z hz
  have hy1r : y1 ∈ rest.map (·.1) := (List.mem_cons.1 hy1).resolve_left (fun e => by rw [e] at hy1z; omega)
  cases rest with
  | nil => simp at hy1r
  | cons q r =>
    obtain ⟨up, j⟩ := q
    have hupv : s.index up < s.index v := (List.pairwise_cons.1 wo).1 up (by simp)
    have hupm : up ∈ (((up, j) :: r).map (·.1)) := by simp
    have wo2 := (List.pairwise_cons.1 wo).2
    have wc2 := (List.pairwise_cons.1 wc).2
    have huv : Rch g up v := (List.pairwise_cons.1 wc).1 up hupm
    have htoup : ∀ y ∈ (((up, j) :: r).map (·.1)), Rch g y up := fun y hy => by
      rcases List.mem_cons.1 hy with e | hy
      · rw [e]; exact Rch.refl _
      · exact (List.pairwise_cons.1 wc2).1 y hy
    have hleup : ∀ y ∈ (((up, j) :: r).map (·.1)), s.index y ≤ s.index up := fun y hy => by
      rcases List.mem_cons.1 hy with e | hy
      · rw [e]; exact Nat.le_refl _
      · exact Nat.le_of_lt ((List.pairwise_cons.1 wo2).1 y hy)
    have hseg : ∀ {w y}, s.index w < s.index v → Seg s.index (((up, j) :: r).map (·.1)) w y → Seg s.index (v :: ((up, j) :: r).map (·.1)) w y := fun {w y} hwv hy =>
      ⟨List.mem_cons_of_mem _ hy.1, hy.2.1, fun x hx hxw => by
        rcases List.mem_cons.1 hx with e | hx
        · rw [e] at hxw; omega
        · exact hy.2.2 x hx hxw⟩
    have hsegv : ∀ {w}, s.index v ≤ s.index w → Seg s.index (v :: ((up, j) :: r).map (·.1)) w v := fun {w} hvw =>
      ⟨by simp, hvw, fun x hx _ => by
        rcases List.mem_cons.1 hx with e | hx
        · rw [e]; exact Nat.le_refl _
        · have := hleup x hx; omega⟩
    have hsegup : ∀ {w y}, s.index v ≤ s.index w → Seg s.index (((up, j) :: r).map (·.1)) w y → y = up := fun {w y} hvw hy =>
      inj y up (Nat.le_antisymm (hleup y hy.1) (hy.2.2 up hupm (by omega))) (vis y (wp y (List.mem_cons_of_mem _ hy.1)))
    have hvup : Rch g v up := by
      obtain ⟨y0, h0⟩ := seg_ex (W := ((up, j) :: r).map (·.1)) ⟨y1, hy1r, hy1z⟩
      exact hvz.trans ((own z hz y0 (hseg (by omega) h0)).1.trans (htoup y0 h0.1))
    have hle : ∀ y, upd s.low up (min (s.low up) (s.low v)) y ≤ s.low y := fun y => by
      by_cases hy : y = up
      · rw [hy, upd_same]; exact Nat.min_le_left _ _
      · rw [upd_other hy]; exact Nat.le_refl _
    unfold back1
    constructor <;> simp only [wayN]
    · exact cnt
    · exact inj
    · exact pil
    · exact vis
    · exact on
    · exact fun y hy => wp y (List.mem_cons_of_mem _ hy)
    · exact wo2
    · exact wc2
    · exact fun a w ha hE => ex a w ha ((exp_done hk hvr).1 hE)
    · exact cl
    · intro w hw2
      obtain ⟨y, h1, h2⟩ := base w hw2
      rcases List.mem_cons.1 h1 with e | h1
      · exact ⟨up, hupm, by rw [e] at h2; omega⟩
      · exact ⟨y, h1, h2⟩
    · intro w hw2 y hy
      by_cases hvw : s.index v ≤ s.index w
      · obtain ⟨h1, h2⟩ := own w hw2 v (hsegv hvw)
        rw [hsegup hvw hy]
        exact ⟨h1.trans hvup, huv.trans h2⟩
      · exact own w hw2 y (hseg (by omega) hy)
    · intro y hy
      obtain ⟨h1, x, h2, h3, h4⟩ := lo1 y (List.mem_cons_of_mem _ hy)
      refine ⟨Nat.le_trans (hle y) h1, ?_⟩
      by_cases hyu : y = up
      · rw [hyu, upd_same]
        rw [hyu] at h3 h4
        rcases Nat.le_total (s.low up) (s.low v) with h5 | h5
        · rw [Nat.min_eq_left h5]; exact ⟨x, h2, h3, h4⟩
        · rw [Nat.min_eq_right h5]; exact ⟨z, hz, hzl, huv.trans hvz⟩
      · rw [upd_other hyu]; exact ⟨x, h2, h3, h4⟩
    · intro w hw2 y hy x hE hx
      have hE := (exp_done hk hvr).1 hE
      by_cases hvw : s.index v ≤ s.index w
      · have h1 := lo2 w hw2 v (hsegv hvw) x hE hx
        rw [hsegup hvw hy, upd_same]
        exact Nat.le_trans (Nat.min_le_right _ _) h1
      · exact Nat.le_trans (hle y) (lo2 w hw2 y (hseg (by omega) hy) x hE hx)
    · exact ro

theorem off_get (l : List Nat) (f : Nat → Bool) (a : Nat) : (l.foldl (fun o u => upd o u false) f) a = if a ∈ l then false else f a := by
  induction l generalizing f with
  | nil => simp
  | cons x l ih =>
    rw [List.foldl_cons, ih]
    by_cases hl : a ∈ l
    · simp [hl]
    · by_cases hx : a = x
      · simp [hx, upd]
      · simp [hl, hx, upd]
theorem pile_split {idx : Nat → Nat} {p : List Nat} (h : p.Pairwise fun a b => idx a < idx b) {v : Nat} (hv : v ∈ p) : (∀ a, a ∈ p.take (p.idxOf v) ↔ a ∈ p ∧ idx a < idx v) ∧ (∀ a, a ∈ p.drop (p.idxOf v) ↔ a ∈ p ∧ idx v ≤ idx a) := by
  have hi : p.idxOf v < p.length := List.idxOf_lt_length_of_mem hv
  have hd : p.drop (p.idxOf v) = v :: p.drop (p.idxOf v + 1) := by
    rw [List.drop_eq_getElem_cons hi]
    simp
  have hsp : p.take (p.idxOf v) ++ p.drop (p.idxOf v) = p := List.take_append_drop _ _
  rw [← hsp, List.pairwise_append] at h
  obtain ⟨_, h2, h3⟩ := h
  have ht : ∀ a ∈ p.take (p.idxOf v), idx a < idx v := fun a ha => h3 a ha v (by rw [hd]; simp)
  have hdr : ∀ a ∈ p.drop (p.idxOf v), idx v ≤ idx a := fun a ha => by
    rw [hd] at ha h2
    rcases List.mem_cons.1 ha with e | ha
    · rw [e]; exact Nat.le_refl _
    · exact Nat.le_of_lt ((List.pairwise_cons.1 h2).1 a ha)
  have hmem : ∀ a, a ∈ p ↔ a ∈ p.take (p.idxOf v) ∨ a ∈ p.drop (p.idxOf v) := fun a => by
    rw [← List.mem_append, hsp]
  constructor <;> intro a
  · refine ⟨fun ha => ⟨(hmem a).2 (.inl ha), ht a ha⟩, fun ⟨ha, hlt⟩ => ?_⟩
    rcases (hmem a).1 ha with ha | ha
    · exact ha
    · have := hdr a ha; omega
  · refine ⟨fun ha => ⟨(hmem a).2 (.inr ha), hdr a ha⟩, fun ⟨ha, hlt⟩ => ?_⟩
    rcases (hmem a).1 ha with ha | ha
    · have := ht a ha; omega
    · exact ha

/-- A RING IS DONE. -/
theorem inv_close {g : Dg} {s : TS} {v k : Nat} {rest : List (Nat × Nat)} (h : Inv g s none) (hw : s.way = (v, k) :: rest) (hk : ¬ k < (nxs g v).length) (hl : s.low v = s.index v) : Inv g (close1 g v { s with way := rest }) none := by
  obtain ⟨cnt, inj, pil, vis, on, wp, wo, wc, ex, cl, base, own, lo1, lo2, ro⟩ := h
  have hwn : wayN s = v :: rest.map (·.1) := by simp [wayN, hw]
  rw [hwn] at wp wo wc base own lo1 lo2
  rw [hw] at ex lo2
  have hvr : v ∉ rest.map (·.1) := fun hm => by
    have := (List.pairwise_cons.1 wo).1 v hm
    omega
  have hrv : ∀ y ∈ rest.map (·.1), s.index y < s.index v := (List.pairwise_cons.1 wo).1
  have hvp : v ∈ s.pile := wp v (by simp)
  obtain ⟨hP1, hP2⟩ := pile_split pil hvp
  have hne : v ∈ s.pile.drop (s.pile.idxOf v) := (hP2 v).2 ⟨hvp, Nat.le_refl _⟩
  have hnd : (s.pile.drop (s.pile.idxOf v)).Nodup := (pil.imp fun {a b} hab e => by rw [e] at hab; omega).sublist (List.drop_sublist _ _)
  have pil1 : (s.pile.take (s.pile.idxOf v)).Pairwise fun a b => s.index a < s.index b := pil.sublist (List.take_sublist _ _)
  have e : close1 g v { s with way := rest } = { s with way := rest, on := (s.pile.drop (s.pile.idxOf v)).foldl (fun o u => upd o u false) s.on, rings := if 1 < (s.pile.drop (s.pile.idxOf v)).length ∨ v ∈ nxs g v then s.rings ++ [sortN (s.pile.drop (s.pile.idxOf v))] else s.rings, pile := s.pile.take (s.pile.idxOf v) } := by
    unfold close1
    rw [if_neg (fun hc => hc hl)]
  rw [e]
  clear e
  generalize s.pile.drop (s.pile.idxOf v) = P2 at *
  generalize s.pile.take (s.pile.idxOf v) = P1 at *
  have hin : ∀ a ∈ s.pile, a ∈ P1 ∨ a ∈ P2 := fun a ha => by
    by_cases h1 : s.index a < s.index v
    · exact .inl ((hP1 a).2 ⟨ha, h1⟩)
    · exact .inr ((hP2 a).2 ⟨ha, by omega⟩)
  have hsegv : ∀ {w}, s.index v ≤ s.index w → Seg s.index (v :: rest.map (·.1)) w v := fun {w} hvw =>
    ⟨by simp, hvw, fun x hx _ => by
      rcases List.mem_cons.1 hx with e | hx
      · rw [e]; exact Nat.le_refl _
      · have := hrv x hx; omega⟩
  have hseg : ∀ {w y}, s.index w < s.index v → Seg s.index (rest.map (·.1)) w y → Seg s.index (v :: rest.map (·.1)) w y := fun {w y} hwv hy =>
    ⟨List.mem_cons_of_mem _ hy.1, hy.2.1, fun x hx hxw => by
      rcases List.mem_cons.1 hx with e | hx
      · rw [e] at hxw; omega
      · exact hy.2.2 x hx hxw⟩
  have hmut : ∀ a ∈ P2, Rch g a v ∧ Rch g v a := fun a ha => own a ((hP2 a).1 ha).1 v (hsegv ((hP2 a).1 ha).2)
  have hexp : ∀ a ∈ P2, ∀ u ∈ nxs g a, Exp g ((v, k) :: rest) a u := fun a ha u hu => by
    refine (exp_done hk hvr).1 (.inl ⟨fun hm => ?_, hu⟩)
    have := hrv a hm
    have := ((hP2 a).1 ha).2
    omega
  have hout : ∀ a ∈ P2, ∀ u ∈ nxs g a, u ∈ P2 ∨ (s.index u ≠ 0 ∧ u ∉ s.pile) := fun a ha u hu => by
    have hE := hexp a ha u hu
    have hp := (hP2 a).1 ha
    have hv0 := (ex a u (vis a hp.1) hE).resolve_right (by simp)
    by_cases hup : u ∈ s.pile
    · have := lo2 a hp.1 v (hsegv hp.2) u hE hup
      exact .inl ((hP2 u).2 ⟨hup, by omega⟩)
    · exact .inr ⟨hv0, hup⟩
  have hDs : ∀ {a b}, Rch g a b → (s.index a ≠ 0 ∧ a ∉ s.pile) → (s.index b ≠ 0 ∧ b ∉ s.pile) := fun {a b} hab ha => by
    induction hab with
    | refl => exact ha
    | step _ hu ih => exact cl _ ih.1 ih.2 _ hu
  have hPs : ∀ {a b}, Rch g a b → a ∈ P2 → b ∈ P2 ∨ (s.index b ≠ 0 ∧ b ∉ s.pile) := fun {a b} hab ha => by
    induction hab with
    | refl => exact .inl ha
    | step _ hu ih =>
      rcases ih with ih | ih
      · exact hout _ ih _ hu
      · exact .inr (cl _ ih.1 ih.2 _ hu)
  have hback : ∀ {a b}, a ∈ P2 → Rch g a b → Rch g b a → b ∈ P2 := fun {a b} ha hab hba => (hPs hab ha).resolve_right fun hb => (hDs hba hb).2 ((hP2 a).1 ha).1
  have hD' : ∀ a, (s.index a ≠ 0 ∧ a ∉ P1) ↔ ((s.index a ≠ 0 ∧ a ∉ s.pile) ∨ a ∈ P2) := fun a => by
    constructor
    · rintro ⟨h1, h2⟩
      by_cases hp : a ∈ s.pile
      · exact .inr ((hin a hp).resolve_left h2)
      · exact .inl ⟨h1, hp⟩
    · rintro (⟨h1, h2⟩ | h1)
      · exact ⟨h1, fun hm => h2 ((hP1 a).1 hm).1⟩
      · refine ⟨vis a ((hP2 a).1 h1).1, fun hm => ?_⟩
        have := ((hP1 a).1 hm).2
        have := ((hP2 a).1 h1).2
        omega
  constructor <;> simp only [wayN]
  · exact cnt
  · exact inj
  · exact pil1
  · exact fun a ha => vis a ((hP1 a).1 ha).1
  · intro a
    rw [off_get]
    by_cases ha : a ∈ P2
    · rw [if_pos ha]
      refine ⟨fun h => (Bool.false_ne_true h).elim, fun hm => ?_⟩
      have := ((hP1 a).1 hm).2
      have := ((hP2 a).1 ha).2
      omega
    · rw [if_neg ha, on a]
      exact ⟨fun hm => (hin a hm).resolve_right ha, fun hm => ((hP1 a).1 hm).1⟩
  · exact fun y hy => (hP1 y).2 ⟨wp y (List.mem_cons_of_mem _ hy), hrv y hy⟩
  · exact (List.pairwise_cons.1 wo).2
  · exact (List.pairwise_cons.1 wc).2
  · exact fun a w ha hE => ex a w ha ((exp_done hk hvr).1 hE)
  · intro a ha hap u hu
    rcases (hD' a).1 ⟨ha, hap⟩ with h1 | h1
    · exact (hD' u).2 (.inl (cl a h1.1 h1.2 u hu))
    · exact (hD' u).2 ((hout a h1 u hu).symm)
  · intro w hw2
    obtain ⟨h1, h2⟩ := (hP1 w).1 hw2
    obtain ⟨y, h3, h4⟩ := base w h1
    exact ⟨y, (List.mem_cons.1 h3).resolve_left (fun e => by rw [e] at h4; omega), h4⟩
  · intro w hw2 y hy
    obtain ⟨h1, h2⟩ := (hP1 w).1 hw2
    exact own w h1 y (hseg h2 hy)
  · intro y hy
    obtain ⟨h1, x, h2, h3, h4⟩ := lo1 y (List.mem_cons_of_mem _ hy)
    have := hrv y hy
    exact ⟨h1, x, (hP1 x).2 ⟨h2, by omega⟩, h3, h4⟩
  · intro w hw2 y hy x hE hx
    obtain ⟨h1, h2⟩ := (hP1 w).1 hw2
    exact lo2 w h1 y (hseg h2 hy) x ((exp_done hk hvr).1 hE) ((hP1 x).1 hx).1
  · have hself : ∀ a ∈ P2, Rch1 g a a → 1 < P2.length ∨ v ∈ nxs g v := fun a ha hc => by
      by_cases hlen : 1 < P2.length
      · exact .inl hlen
      · right
        have hone : ∀ b ∈ P2, b = v := fun b hb => by
          cases P2 with
          | nil => simp at hb
          | cons x l =>
            have hl0 : l = [] := List.eq_nil_of_length_eq_zero (by simp only [List.length_cons] at hlen; omega)
            subst hl0
            simp at hb hne
            rw [hb, hne]
        rw [hone a ha] at hc
        obtain ⟨c, h1, h2⟩ := hc
        have h3 := hback hne (Rch.one h1) h2
        rw [hone c h3] at h1
        exact h1
    have hel : ∀ r ∈ s.rings, ∃ part : List Nat, r = sortN part ∧ part.Nodup ∧ part ≠ [] ∧ (∀ a ∈ part, s.index a ≠ 0 ∧ a ∉ P1) ∧ ∀ a ∈ part, ∀ b, b ∈ part ↔ Rch1 g a b ∧ Rch1 g b a := fun r hr => by
      obtain ⟨part, h1, h2, h3, h4, h5⟩ := ro.el r hr
      exact ⟨part, h1, h2, h3, fun a ha => (hD' a).2 (.inl (h4 a ha)), h5⟩
    by_cases hc : 1 < P2.length ∨ v ∈ nxs g v
    · rw [if_pos hc]
      have hcyc : ∀ a ∈ P2, Rch1 g a a := fun a ha => by
        by_cases hx : ∃ b ∈ P2, b ≠ a
        · obtain ⟨b, hb, hba⟩ := hx
          have h1 : Rch g a b := (hmut a ha).1.trans (hmut b hb).2
          have h2 : Rch g b a := (hmut b hb).1.trans (hmut a ha).2
          exact ((h1.one_of).resolve_left (fun e => hba e.symm)).trans_r h2
        · have hall : ∀ b ∈ P2, b = a := fun b hb => Decidable.byContradiction fun h => hx ⟨b, hb, h⟩
          have hva := hall v hne
          rcases hc with hc | hc
          · exfalso
            cases P2 with
            | nil => simp at hc
            | cons x l =>
              cases l with
              | nil => simp at hc
              | cons y l =>
                have h1 := hall x (by simp)
                have h2 := hall y (by simp)
                simp [h1, h2] at hnd
          · rw [← hva]
            exact ⟨v, hc, Rch.refl _⟩
      refine ⟨fun r hr => ?_, fun a ha hcy => ?_, ?_⟩
      · rcases List.mem_append.1 hr with hr | hr
        · exact hel r hr
        · simp at hr
          refine ⟨P2, hr, hnd, fun e => by rw [e] at hne; simp at hne, fun a ha => (hD' a).2 (.inr ha), fun a ha b => ⟨fun hb => ?_, fun hb => hback ha hb.1.rch hb.2.rch⟩⟩
          have h1 : Rch g a b := (hmut a ha).1.trans (hmut b hb).2
          have h2 : Rch g b a := (hmut b hb).1.trans (hmut a ha).2
          exact ⟨(hcyc a ha).trans_r h1, (hcyc b hb).trans_r h2⟩
      · rcases (hD' a).1 ha with h1 | h1
        · obtain ⟨r, h2, h3⟩ := ro.all a h1 hcy
          exact ⟨r, List.mem_append_left _ h2, h3⟩
        · exact ⟨sortN P2, by simp, (List.mergeSort_perm _ _).mem_iff.2 h1⟩
      · rw [List.pairwise_append]
        refine ⟨ro.apart, by simp, fun r hr q hq a ha hm => ?_⟩
        simp at hq
        rw [hq] at hm
        have h1 := ((hP2 a).1 ((List.mergeSort_perm _ _).mem_iff.1 hm)).1
        obtain ⟨part, e1, _, _, e4, _⟩ := ro.el r hr
        rw [e1] at ha
        exact (e4 a ((List.mergeSort_perm _ _).mem_iff.1 ha)).2 h1
    · rw [if_neg hc]
      refine ⟨hel, fun a ha hcy => ?_, ro.apart⟩
      rcases (hD' a).1 ha with h1 | h1
      · exact ro.all a h1 hcy
      · exact absurd (hself a h1 hcy) hc
end
section

theorem Inv.way {g : Dg} {s : TS} {x y : Option Nat} (h : Inv g s x) (hxy : ∀ v u, s.index v ≠ 0 → Exp g s.way v u → (s.index u ≠ 0 ∨ x = some u) → (s.index u ≠ 0 ∨ y = some u)) : Inv g s y :=
  ⟨h.cnt, h.inj, h.pil, h.vis, h.on, h.wp, h.wo, h.wc, fun v u hv hE => hxy v u hv hE (h.ex v u hv hE), h.cl, h.base, h.own, h.lo1, h.lo2, h.ro⟩
/-- What holds between two steps. -/
def Jv (g : Dg) (s : TS) : Prop :=
  ((∃ u rest, s.way = (u, 0) :: rest ∧ s.index u = 0 ∧ Inv g { s with way := rest } (some u) ∧ ∀ b ∈ rest.map (·.1), Rch g b u) ∨ ((∀ p r, s.way = p :: r → s.index p.1 ≠ 0) ∧ Inv g s none)) ∧ ∀ v, s.index v ≠ 0 → v < g.length
theorem step_index {g : Dg} {s : TS} {v k : Nat} {rest : List (Nat × Nat)} (hw : s.way = (v, k) :: rest) : (stepT g s).index = (visit s v).index := by
  unfold stepT
  rw [hw]
  simp only
  split
  · unfold ahead1
    repeat' split
    all_goals rfl
  · rw [close1_index, back1_index]
theorem Jv.visit {g : Dg} {s : TS} (h : Jv g s) {v k : Nat} {rest : List (Nat × Nat)} (hw : s.way = (v, k) :: rest) (hv : v < g.length) : Inv g (visit s v) none ∧ (visit s v).way = (v, k) :: rest ∧ ∀ u, (visit s v).index u ≠ 0 → u < g.length := by
  have hn : ∀ u, (Go.Proofs.YtdlpbpohbkcafaaGreat.visit s v).index u ≠ 0 → u < g.length := fun u hu => by
    rw [visit_index] at hu
    split at hu
    · rename_i h2
      rw [h2.2]; exact hv
    · exact h.2 u hu
  refine ⟨?_, by rw [visit_way]; exact hw, hn⟩
  rcases h.1 with ⟨u, r, h1, h2, h3, h4⟩ | ⟨h1, h2⟩
  · rw [h1] at hw
    obtain ⟨e1, e2⟩ := List.cons.inj hw
    cases e1
    subst e2
    have := inv_visit h3 h2 h4
    have e : { Go.Proofs.YtdlpbpohbkcafaaGreat.visit s v with way := (v, 0) :: r } = Go.Proofs.YtdlpbpohbkcafaaGreat.visit s v := by
      rw [← h1, ← visit_way s v]
    rwa [e] at this
  · have hne := h1 _ _ hw
    have e : Go.Proofs.YtdlpbpohbkcafaaGreat.visit s v = s := by unfold Go.Proofs.YtdlpbpohbkcafaaGreat.visit; rw [if_neg hne]
    rw [e]
    exact h2
theorem step_J {g : Dg} {s : TS} (h : Jv g s) (ht : OkT g s) (hw : s.way ≠ []) : Jv g (stepT g s) := by
  cases hway : s.way with
  | nil => exact absurd hway hw
  | cons p rest =>
    obtain ⟨v, k⟩ := p
    have hv := (ht.bd (v, k) (by rw [hway]; simp)).1
    obtain ⟨hI, hw2, hn⟩ := h.visit hway hv
    have hix := step_index (g := g) hway
    refine ⟨?_, by rw [hix]; exact hn⟩
    have hvv := visit_ne s v
    unfold stepT
    rw [hway]
    simp only
    generalize visit s v = s2 at *
    by_cases hkl : k < (nxs g v).length
    · rw [if_pos hkl]
      have hedge : Rch g v ((nxs g v).getD k 0) := Rch.one (by simp [hkl])
      unfold ahead1
      by_cases h0 : s2.index ((nxs g v).getD k 0) = 0
      · rw [if_pos h0]
        refine .inl ⟨_, _, rfl, h0, ?_, ?_⟩
        · have := inv_next hI hw2 hkl (some ((nxs g v).getD k 0)) s2.low (.inr rfl) (.inl ⟨rfl, fun hm => hI.vis _ hm h0⟩)
          exact this
        · intro b hb
          have hwc := hI.wc
          simp only [wayN, hw2, List.map_cons] at hwc
          rcases List.mem_cons.1 hb with e | hb
          · rw [e]; exact hedge
          · exact ((List.pairwise_cons.1 hwc).1 b hb).trans hedge
      · rw [if_neg h0]
        right
        by_cases h1 : s2.on ((nxs g v).getD k 0) = true
        · rw [if_pos h1]
          refine ⟨fun p r e => by cases e; exact hvv, ?_⟩
          exact inv_next hI hw2 hkl none _ (.inl h0) (.inr ⟨(hI.on _).1 h1, rfl⟩)
        · rw [if_neg h1]
          refine ⟨fun p r e => by cases e; exact hvv, ?_⟩
          exact inv_next hI hw2 hkl none s2.low (.inl h0) (.inl ⟨rfl, fun hm => h1 ((hI.on _).2 hm)⟩)
    · rw [if_neg hkl]
      right
      have hwn : wayN s2 = v :: rest.map (·.1) := by simp [wayN, hw2]
      have hwp := hI.wp
      have hwo := hI.wo
      have hlo := hI.lo1
      rw [hwn] at hwp hwo hlo
      have hlowv : (back1 v rest s2).low v = s2.low v := by
        unfold back1
        split
        · rfl
        · rename_i up j r
          have := (List.pairwise_cons.1 hwo).1 up (by simp)
          exact upd_other (fun e => by rw [e] at this; omega)
      refine ⟨fun p r e => ?_, ?_⟩
      · rw [close1_way, back1_way] at e
        rw [close1_index, back1_index]
        exact hI.vis _ (hwp _ (by rw [e]; simp))
      · by_cases hl : s2.low v = s2.index v
        · have e : back1 v rest s2 = { s2 with way := rest } := by
            unfold back1
            split
            · rfl
            · rename_i up j r
              have h1 := (List.pairwise_cons.1 hwo).1 up (by simp)
              have h2 := (hlo up (by simp)).1
              have h3 : upd s2.low up (min (s2.low up) (s2.low v)) = s2.low := by
                funext y
                by_cases hy : y = up
                · rw [hy, upd_same, Nat.min_eq_left (by omega)]
                · rw [upd_other hy]
              rw [h3]
          rw [e]
          exact inv_close hI hw2 hkl hl
        · have e : close1 g v (back1 v rest s2) = back1 v rest s2 := by
            unfold close1
            rw [hlowv, back1_index, if_pos hl]
          rw [e]
          exact inv_back hI hw2 hkl hl
theorem step_seen {g : Dg} {s : TS} (hw : s.way ≠ []) {a : Nat} (ha : s.index a ≠ 0) : (stepT g s).index a ≠ 0 := by
  cases hway : s.way with
  | nil => exact absurd hway hw
  | cons p rest =>
    obtain ⟨v, k⟩ := p
    rw [step_index hway, visit_index]
    split
    · omega
    · exact ha
theorem run_J {g : Dg} (hg : OkG g) : ∀ (f : Nat) (s : TS), OkT g s → Jv g s → Jv g (runT g f s)
  | 0, s, _, hj => by rw [runT]; exact hj
  | f + 1, s, h, hj => by
    rw [runT]
    split
    · exact hj
    · rename_i hw
      exact run_J hg f _ (step_ok hg h hw).1 (step_J hj h hw)
theorem run_seen {g : Dg} : ∀ (f : Nat) (s : TS) {a : Nat}, s.index a ≠ 0 → (runT g f s).index a ≠ 0
  | 0, s, _, ha => by rw [runT]; exact ha
  | f + 1, s, _, ha => by
    rw [runT]
    split
    · exact ha
    · rename_i hw
      exact run_seen f _ (step_seen hw ha)
theorem from_J {g : Dg} (hg : OkG g) {s : TS} (h : OkB g s) (hj : Jv g s) {v : Nat} (hv : v < g.length) : Jv g (fromT g s v) ∧ (fromT g s v).index v ≠ 0 ∧ ∀ a, s.index a ≠ 0 → (fromT g s v).index a ≠ 0 := by
  unfold fromT
  split
  · rename_i h0
    exact ⟨hj, by omega, fun a ha => ha⟩
  · rename_i h0
    have h0 : s.index v = 0 := by omega
    obtain ⟨h1, h2, h3⟩ := from_ok h hv h0
    have hI : Inv g s none := by
      rcases hj.1 with ⟨u, r, e, _⟩ | ⟨_, h4⟩
      · rw [h.way] at e; cases e
      · exact h4
    have hj2 : Jv g { s with way := [(v, 0)] } := by
      refine ⟨.inl ⟨v, [], rfl, h0, ?_, by simp⟩, hj.2⟩
      have e : { s with way := ([] : List (Nat × Nat)) } = s := by rw [← h.way]
      have := hI.way (y := some v) (fun a u _ _ hx => .inl (hx.resolve_right (by simp)))
      rwa [← e] at this
    refine ⟨run_J hg _ _ h2 hj2, ?_, fun a ha => run_seen _ _ ha⟩
    rw [runT, if_neg (by simp)]
    refine run_seen _ _ ?_
    rw [step_index (g := g) (s := { s with way := [(v, 0)] }) rfl]
    exact visit_ne _ _
theorem start_J (g : Dg) : Jv g startT := by
  refine ⟨.inr ⟨by simp [startT], ?_⟩, by simp [startT]⟩
  constructor <;> simp [startT, wayN]
  exact ⟨by simp, by simp, by simp⟩
theorem first_J {g : Dg} (hg : OkG g) : ∀ k, k ≤ g.length → Jv g (firstT g k) ∧ ∀ v, v < k → (firstT g k).index v ≠ 0
  | 0, _ => ⟨start_J g, fun v hv => by omega⟩
  | k + 1, hk => by
    rw [firstT_succ]
    obtain ⟨h1, h2⟩ := first_J hg k (by omega)
    obtain ⟨h3, h4, h5⟩ := from_J hg (firstT_ok hg k (by omega)) h1 (v := k) (by omega)
    refine ⟨h3, fun v hv => ?_⟩
    by_cases e : v = k
    · rw [e]; exact h4
    · exact h5 v (h2 v (by omega))
/-- THE RINGS. -/
theorem rings_ok {g : Dg} (hg : OkG g) : RingsOk g (allT g).rings fun v => v < g.length := by
  have hB := firstT_ok hg g.length (Nat.le_refl _)
  obtain ⟨h1, h2⟩ := first_J hg g.length (Nat.le_refl _)
  have e : firstT g g.length = allT g := rfl
  rw [e] at hB h1 h2
  have hI : Inv g (allT g) none := by
    rcases h1.1 with ⟨u, r, e, _⟩ | ⟨_, h4⟩
    · rw [hB.way] at e; cases e
    · exact h4
  refine hI.ro.mono fun v => ⟨fun h => h1.2 v h.1, fun h => ⟨h2 v h, fun hm => ?_⟩⟩
  obtain ⟨y, hy, _⟩ := hI.base v hm
  simp [wayN, hB.way] at hy
end
end Go.Proofs.YtdlpbpohbkcafaaGreat
