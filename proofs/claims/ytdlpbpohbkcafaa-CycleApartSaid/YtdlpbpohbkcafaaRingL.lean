/-
  Rings by one walk in depth: what keeps the walk from a fault. No program in sight.
-/
import Derived.Test.YtdlpbpohbkcafaaRingP
namespace Go.Proofs.Ytdlpbpohbkcafaa

theorem leftT_def (g : Dg) (s : TS) : leftT g s = leftW g s.way + leftN g s := rfl
def total (g : Dg) : Nat := (g.map fun l => l.length + 1).sum
theorem total_eq (g : Dg) : total g = ((List.range g.length).map fun v => (nxs g v).length + 1).sum := by
  unfold total
  congr 1
  apply List.ext_getElem
  · simp
  · intro i h1 h2
    have hi : i < g.length := by simpa using h1
    simp [nxs, hi]
theorem len_total (g : Dg) : g.length ≤ total g := by
  unfold total
  induction g with
  | nil => simp
  | cons a g ih => simp only [List.map_cons, List.sum_cons, List.length_cons]; omega

structure OkL (g : Dg) (s : TS) : Prop where
  pnd : s.pile.Nodup
  pin : ∀ x ∈ s.pile, x < g.length ∧ s.index x ≠ 0
  way : ∀ p r, s.way = p :: r → ((r.map (·.1)).reverse.Sublist s.pile) ∧ (s.index p.1 ≠ 0 → ((s.way.map (·.1)).reverse.Sublist s.pile))
  rin : ∀ r ∈ s.rings, r ≠ [] ∧ ∀ x ∈ r, x < g.length ∧ s.index x ≠ 0 ∧ x ∉ s.pile
  rap : s.rings.Pairwise fun r q => ∀ x ∈ r, x ∉ q
  cnt : s.count + leftT g s ≤ total g

theorem sub_take {xs p : List Nat} {v : Nat} (h : (xs ++ [v]).Sublist p) (hn : p.Nodup) : xs.Sublist (p.take (p.idxOf v)) := by
  obtain ⟨r1, r2, rfl, h1, h2⟩ := List.append_sublist_iff.1 h
  have hv : v ∈ r2 := h2.subset (by simp)
  have hn1 : v ∉ r1 := fun hm => (List.nodup_append.1 hn).2.2 v hm v hv rfl
  rw [List.idxOf_append, if_neg hn1, List.take_append]
  exact (h1.trans (by rw [List.take_of_length_le (by omega)]; exact List.Sublist.refl _)).trans (List.sublist_append_left _ _)

/-- What holds behind the visit of the way's top. -/
structure OkV (g : Dg) (s : TS) (v : Nat) (rest : List (Nat × Nat)) : Prop where
  pnd : s.pile.Nodup
  pin : ∀ x ∈ s.pile, x < g.length ∧ s.index x ≠ 0
  sub : ((rest.map (·.1)).reverse ++ [v]).Sublist s.pile
  rin : ∀ r ∈ s.rings, r ≠ [] ∧ ∀ x ∈ r, x < g.length ∧ s.index x ≠ 0 ∧ x ∉ s.pile
  rap : s.rings.Pairwise fun r q => ∀ x ∈ r, x ∉ q
theorem OkV.mem {g : Dg} {s : TS} {v : Nat} {rest : List (Nat × Nat)} (h : OkV g s v rest) : v ∈ s.pile := h.sub.subset (by simp)
theorem visit_ok {g : Dg} {s : TS} {v k : Nat} {rest : List (Nat × Nat)} (h : OkL g s) (hv : v < g.length) (hw : s.way = (v, k) :: rest) : OkV g (visit s v) v rest := by
  obtain ⟨h1, h2⟩ := h.way _ _ hw
  by_cases h0 : s.index v = 0
  · have e : visit s v = { s with count := s.count + 1, index := upd s.index v (s.count + 1), low := upd s.low v (s.count + 1), on := upd s.on v true, pile := s.pile ++ [v] } := by unfold visit; rw [if_pos h0]
    have hnv : v ∉ s.pile := fun hm => (h.pin v hm).2 h0
    have hix : ∀ x, s.index x ≠ 0 → (visit s v).index x ≠ 0 := fun x hx => by
      rw [visit_index, if_neg (fun hc : s.index v = 0 ∧ x = v => hx (by rw [hc.2]; exact h0))]
      exact hx
    rw [e] at hix ⊢
    refine ⟨?_, ?_, ?_, ?_, h.rap⟩
    · rw [List.nodup_append]
      exact ⟨h.pnd, by simp, fun a ha b hb => by simp at hb; subst hb; exact fun e => hnv (e ▸ ha)⟩
    · intro x hx
      rcases List.mem_append.1 hx with hx | hx
      · exact ⟨(h.pin x hx).1, hix x (h.pin x hx).2⟩
      · simp at hx
        subst hx
        exact ⟨hv, by simp [upd]⟩
    · exact h1.append (List.Sublist.refl _)
    · intro r hr
      refine ⟨(h.rin r hr).1, fun x hx => ?_⟩
      obtain ⟨a, b, c⟩ := (h.rin r hr).2 x hx
      refine ⟨a, hix x b, fun hm => ?_⟩
      rcases List.mem_append.1 hm with hm | hm
      · exact c hm
      · simp at hm
        subst hm
        exact b h0
  · have e : visit s v = s := by unfold visit; rw [if_neg h0]
    rw [e]
    refine ⟨h.pnd, h.pin, ?_, h.rin, h.rap⟩
    have := h2 h0
    rw [hw] at this
    simpa using this

theorem visit_count (s : TS) (v : Nat) : (visit s v).count ≤ s.count + 1 := by
  unfold visit
  split
  · exact Nat.le_refl _
  · exact Nat.le_succ _
theorem close1_count (g : Dg) (v : Nat) (s : TS) : (close1 g v s).count = s.count := by unfold close1; split <;> rfl
theorem back1_count (v : Nat) (r : List (Nat × Nat)) (s : TS) : (back1 v r s).count = s.count := by unfold back1; split <;> rfl
theorem close1_index (g : Dg) (v : Nat) (s : TS) : (close1 g v s).index = s.index := by unfold close1; split <;> rfl
theorem close1_way (g : Dg) (v : Nat) (s : TS) : (close1 g v s).way = s.way := by unfold close1; split <;> rfl
theorem back1_index (v : Nat) (r : List (Nat × Nat)) (s : TS) : (back1 v r s).index = s.index := by unfold back1; split <;> rfl
theorem back1_pile (v : Nat) (r : List (Nat × Nat)) (s : TS) : (back1 v r s).pile = s.pile := by unfold back1; split <;> rfl
theorem back1_rings (v : Nat) (r : List (Nat × Nat)) (s : TS) : (back1 v r s).rings = s.rings := by unfold back1; split <;> rfl
theorem back1_on (v : Nat) (r : List (Nat × Nat)) (s : TS) : (back1 v r s).on = s.on := by unfold back1; split <;> rfl
theorem back1_way (v : Nat) (r : List (Nat × Nat)) (s : TS) : (back1 v r s).way = r := by unfold back1; split <;> rfl
theorem step_count (g : Dg) (s : TS) : (stepT g s).count ≤ s.count + 1 := by
  unfold stepT
  split
  · omega
  · rename_i v k rest hw
    have h0 := visit_count s v
    split
    · unfold ahead1
      repeat' split
      all_goals exact h0
    · rw [close1_count, back1_count]
      exact h0

theorem mem_sortN {l : List Nat} {x : Nat} : x ∈ sortN l ↔ x ∈ l := (List.mergeSort_perm l _).mem_iff
/-- What a ring of the pile's end brings. -/
theorem OkV.cut {g : Dg} {s : TS} {v : Nat} {rest : List (Nat × Nat)} (h : OkV g s v rest) : (s.pile.take (s.pile.idxOf v)).Nodup ∧ (∀ x ∈ s.pile.take (s.pile.idxOf v), x < g.length ∧ s.index x ≠ 0) ∧ ((rest.map (·.1)).reverse.Sublist (s.pile.take (s.pile.idxOf v))) ∧
    s.pile.idxOf v < s.pile.length ∧ s.pile.drop (s.pile.idxOf v) ≠ [] ∧ (∀ x ∈ s.pile.drop (s.pile.idxOf v), x < g.length ∧ s.index x ≠ 0 ∧ x ∉ s.pile.take (s.pile.idxOf v)) := by
  have hi : s.pile.idxOf v < s.pile.length := List.idxOf_lt_length_of_mem h.mem
  refine ⟨h.pnd.sublist (List.take_sublist _ _), fun x hx => h.pin x (List.mem_of_mem_take hx), sub_take h.sub h.pnd, hi, fun e => ?_, fun x hx => ?_⟩
  · have := congrArg List.length e
    simp at this
    omega
  · have := h.pin x (List.mem_of_mem_drop hx)
    refine ⟨this.1, this.2, fun hm => ?_⟩
    have hn := h.pnd
    rw [← List.take_append_drop (s.pile.idxOf v) s.pile, List.nodup_append] at hn
    exact hn.2.2 x hm x hx rfl

theorem step_okL {g : Dg} (hg : OkG g) {s : TS} (h : OkL g s) (ht : OkT g s) (hw : s.way ≠ []) : OkL g (stepT g s) := by
  have hcnt : (stepT g s).count + leftT g (stepT g s) ≤ total g := by
    have h1 := (step_ok hg ht hw).2
    have h2 := step_count g s
    have h3 := h.cnt
    omega
  cases hway : s.way with
  | nil => exact absurd hway hw
  | cons p rest =>
    obtain ⟨v, k⟩ := p
    have hv := (ht.bd (v, k) (by rw [hway]; simp)).1
    have hV := visit_ok h hv hway
    unfold stepT at hcnt ⊢
    rw [hway] at hcnt ⊢
    simp only at hcnt ⊢
    by_cases hkl : k < (nxs g v).length
    · rw [if_pos hkl] at hcnt ⊢
      generalize (nxs g v).getD k 0 = u at hcnt ⊢
      have hS : ∀ W p, ∀ s2 : TS, s2.way = p :: W → s2.pile = (visit s v).pile → s2.index = (visit s v).index → s2.rings = (visit s v).rings → (p :: W = (v, k + 1) :: rest ∨ (p.1 = u ∧ (visit s v).index u = 0 ∧ W = (v, k + 1) :: rest)) → s2.count + leftT g s2 ≤ total g → OkL g s2 := by
        intro W p s2 e1 e2 e3 e4 e5 e6
        refine ⟨by rw [e2]; exact hV.pnd, by rw [e2, e3]; exact hV.pin, fun q r e => ?_, by rw [e2, e3, e4]; exact hV.rin, by rw [e4]; exact hV.rap, e6⟩
        rw [e1] at e
        obtain ⟨rfl, rfl⟩ := List.cons.inj e
        rw [e1, e2, e3]
        rcases e5 with e5 | ⟨e5, e6, e7⟩
        · obtain ⟨rfl, rfl⟩ := List.cons.inj e5
          have := hV.sub
          exact ⟨(List.sublist_append_left _ _).trans this, fun _ => by simpa using this⟩
        · subst e7
          refine ⟨by simpa using hV.sub, fun h0 => absurd e6 (by rw [← e5]; exact h0)⟩
      unfold ahead1 at hcnt ⊢
      by_cases h0 : (visit s v).index u = 0
      · rw [if_pos h0] at hcnt ⊢
        exact hS _ _ _ rfl rfl rfl rfl (.inr ⟨rfl, h0, rfl⟩) hcnt
      · rw [if_neg h0] at hcnt ⊢
        by_cases h1 : (visit s v).on u = true
        · rw [if_pos h1] at hcnt ⊢
          exact hS _ _ _ rfl rfl rfl rfl (.inl rfl) hcnt
        · rw [if_neg h1] at hcnt ⊢
          exact hS _ _ _ rfl rfl rfl rfl (.inl rfl) hcnt
    · rw [if_neg hkl] at hcnt ⊢
      have hB : OkV g (back1 v rest (visit s v)) v rest := by
        refine ⟨?_, ?_, ?_, ?_, ?_⟩ <;> simp only [back1_pile, back1_index, back1_rings]
        · exact hV.pnd
        · exact hV.pin
        · exact hV.sub
        · exact hV.rin
        · exact hV.rap
      have hBw := back1_way v rest (visit s v)
      generalize back1 v rest (visit s v) = s2 at *
      obtain ⟨c1, c2, c3, c4, c5, c6⟩ := hB.cut
      have hwayOk : ∀ (P : List Nat), ((rest.map (·.1)).reverse.Sublist P) → ∀ p r, rest = p :: r → ((r.map (·.1)).reverse.Sublist P) ∧ (s2.index p.1 ≠ 0 → ((rest.map (·.1)).reverse.Sublist P)) := fun P hP p r e => by
        refine ⟨?_, fun _ => hP⟩
        rw [e, List.map_cons, List.reverse_cons] at hP
        exact (List.sublist_append_left _ _).trans hP
      by_cases hlow : s2.low v ≠ s2.index v
      · have e : close1 g v s2 = s2 := by unfold close1; rw [if_pos hlow]
        rw [e] at hcnt ⊢
        refine ⟨hB.pnd, hB.pin, fun p r e2 => ?_, hB.rin, hB.rap, hcnt⟩
        rw [hBw] at e2
        rw [hBw]
        exact hwayOk _ ((List.sublist_append_left _ _).trans hB.sub) p r e2
      · unfold close1 at hcnt ⊢
        rw [if_neg hlow] at hcnt ⊢
        refine ⟨c1, c2, fun p r e2 => ?_, ?_, ?_, hcnt⟩
        · rw [hBw] at e2
          simp only [hBw]
          exact hwayOk _ c3 p r e2
        · simp only
          have hold : ∀ r ∈ s2.rings, r ≠ [] ∧ ∀ x ∈ r, x < g.length ∧ s2.index x ≠ 0 ∧ x ∉ s2.pile.take (s2.pile.idxOf v) := fun r hr => ⟨(hB.rin r hr).1, fun x hx => ⟨((hB.rin r hr).2 x hx).1, ((hB.rin r hr).2 x hx).2.1, fun hm => ((hB.rin r hr).2 x hx).2.2 (List.mem_of_mem_take hm)⟩⟩
          split
          · intro r hr
            rcases List.mem_append.1 hr with hr | hr
            · exact hold r hr
            · simp at hr
              subst hr
              refine ⟨fun e => c5 ?_, fun x hx => c6 x (mem_sortN.1 hx)⟩
              have h1 : (sortN (s2.pile.drop (s2.pile.idxOf v))).length = 0 := by rw [e]; rfl
              rw [show (sortN (s2.pile.drop (s2.pile.idxOf v))).length = (s2.pile.drop (s2.pile.idxOf v)).length from (List.mergeSort_perm _ _).length_eq] at h1
              exact List.eq_nil_of_length_eq_zero h1
          · exact hold
        · simp only
          split
          · rw [List.pairwise_append]
            refine ⟨hB.rap, by simp, fun r hr q hq x hx => ?_⟩
            simp at hq
            subst hq
            rw [mem_sortN]
            exact fun hm => ((hB.rin r hr).2 x hx).2.2 (List.mem_of_mem_drop hm)
          · exact hB.rap

/-- Between two of the outer loop's rounds. -/
structure OkB (g : Dg) (s : TS) : Prop where
  way : s.way = []
  l : OkL g s
theorem start_ok (g : Dg) : OkB g startT := by
  refine ⟨rfl, ⟨by simp [startT], by simp [startT], by simp [startT], by simp [startT], by simp [startT], ?_⟩⟩
  rw [total_eq]
  simp [startT, leftT, leftW, leftN]
theorem from_ok {g : Dg} {s : TS} (h : OkB g s) {v : Nat} (hv : v < g.length) (h0 : s.index v = 0) :
    OkL g { s with way := [(v, 0)] } ∧ OkT g { s with way := [(v, 0)] } ∧ leftT g { s with way := [(v, 0)] } ≤ total g := by
  have hN : leftN g { s with way := [(v, 0)] } + ((nxs g v).length + 1) ≤ leftN g s := by
    unfold leftN
    refine sum_lt (fun w hw2 => ?_) hv ?_
    · simp only [h.way]
      split
      · rename_i hc
        rw [if_pos ⟨hc.1, by simp⟩]
        exact Nat.le_refl _
      · exact Nat.zero_le _
    · simp only [h.way]
      rw [if_neg (fun hc => hc.2 (by simp)), if_pos ⟨h0, by simp⟩]
      omega
  have hc := h.l.cnt
  have hT : s.count + leftT g { s with way := [(v, 0)] } ≤ total g := by
    rw [leftT_def] at hc ⊢
    have e1 : leftW g s.way = 0 := by rw [h.way]; rfl
    have e2 : leftW g [(v, 0)] = (nxs g v).length + 1 := by simp [leftW]
    simp only [e2]
    omega
  refine ⟨⟨h.l.pnd, h.l.pin, fun p r e => ?_, h.l.rin, h.l.rap, hT⟩, ⟨fun p hp => ?_, by simp, by simp⟩, by omega⟩
  · obtain ⟨rfl, rfl⟩ := List.cons.inj e
    exact ⟨by simp, fun hne => absurd h0 hne⟩
  · simp at hp
    subst hp
    exact ⟨hv, Nat.zero_le _⟩
theorem run_ok {g : Dg} (hg : OkG g) : ∀ (f : Nat) (s : TS), OkT g s → OkL g s → leftT g s ≤ f → OkB g (runT g f s)
  | 0, s, h, hl, hf => ⟨run_ends hg 0 s h hf, by rw [runT]; exact hl⟩
  | f + 1, s, h, hl, hf => by
    rw [runT]
    split
    · rename_i hw
      exact ⟨hw, hl⟩
    · rename_i hw
      obtain ⟨h1, h2⟩ := step_ok hg h hw
      exact run_ok hg f _ h1 (step_okL hg hl h hw) (by omega)
theorem fromT_ok {g : Dg} (hg : OkG g) {s : TS} (h : OkB g s) {v : Nat} (hv : v < g.length) : OkB g (fromT g s v) := by
  unfold fromT
  split
  · exact h
  · rename_i h0
    obtain ⟨h1, h2, h3⟩ := from_ok h hv (by omega)
    exact run_ok hg _ _ h2 h1 (Nat.le_succ_of_le h3)
/-- The first k places have been gone from. -/
def firstT (g : Dg) (k : Nat) : TS := (List.range k).foldl (fromT g) startT
theorem firstT_succ (g : Dg) (k : Nat) : firstT g (k + 1) = fromT g (firstT g k) k := by
  unfold firstT
  rw [List.range_succ, List.foldl_append]
  rfl
theorem firstT_ok {g : Dg} (hg : OkG g) : ∀ k, k ≤ g.length → OkB g (firstT g k)
  | 0, _ => start_ok g
  | k + 1, hk => by
    rw [firstT_succ]
    exact fromT_ok hg (firstT_ok hg k (by omega)) (by omega)

theorem nodup_lt : ∀ {n : Nat} {l : List Nat}, l.Nodup → (∀ x ∈ l, x < n) → l.length ≤ n
  | 0, [], _, _ => by simp
  | 0, a :: _, _, h => absurd (h a (by simp)) (by omega)
  | n + 1, l, hn, h => by
    have h1 := nodup_lt (n := n) (l := l.erase n) (hn.erase n) (fun x hx => by
      have h2 := hn.mem_erase_iff.1 hx
      have h3 := h x h2.2
      have h4 := h2.1
      omega)
    rw [List.length_erase] at h1
    split at h1 <;> omega
theorem OkT.way_len {g : Dg} {s : TS} (h : OkT g s) : s.way.length ≤ g.length := by
  have := nodup_lt h.nd (fun x hx => by obtain ⟨p, hp, rfl⟩ := List.mem_map.1 hx; exact (h.bd p hp).1)
  simpa using this
theorem pile_len {g : Dg} {s : TS} (h : s.pile.Nodup) (h2 : ∀ x ∈ s.pile, x < g.length ∧ s.index x ≠ 0) : s.pile.length ≤ g.length := nodup_lt h fun x hx => (h2 x hx).1
theorem head_mem {r : List Nat} (h : r ≠ []) : r.headD 0 ∈ r := by
  cases r with
  | nil => exact absurd rfl h
  | cons a l => simp
theorem heads_nodup {rings : List (List Nat)} (h : rings.Pairwise fun r q => ∀ x ∈ r, x ∉ q) (hne : ∀ r ∈ rings, r ≠ []) : (rings.map fun r => r.headD 0).Nodup := by
  unfold List.Nodup
  rw [List.pairwise_map]
  refine h.imp_of_mem fun {a b} ha hb hab e => hab _ (head_mem (hne a ha)) ?_
  rw [e]
  exact head_mem (hne b hb)
theorem rings_len {g : Dg} {s : TS} (h : s.rings.Pairwise fun r q => ∀ x ∈ r, x ∉ q) (h2 : ∀ r ∈ s.rings, r ≠ [] ∧ ∀ x ∈ r, x < g.length ∧ s.index x ≠ 0 ∧ x ∉ s.pile) : s.rings.length ≤ g.length := by
  have := nodup_lt (n := g.length) (heads_nodup h fun r hr => (h2 r hr).1) (fun x hx => by
    obtain ⟨r, hr, rfl⟩ := List.mem_map.1 hx
    exact ((h2 r hr).2 _ (head_mem (h2 r hr).1)).1)
  simpa using this
end Go.Proofs.Ytdlpbpohbkcafaa
