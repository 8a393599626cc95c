/-
  An order by a heap (as cycle.Order goes): the steps, and what holds on the way. No program's step here.
  A heap of numbers (as container/heap keeps it): what is on top is the least. No program's step here.
  The order that comes of a heap: at each step the least one that is ready. No program's step here.
-/
import Derived.Test.YtdlpbpohbkcafaaGreatCHeapU
import Derived.Test.YtdlpbpohbkcafaaGreatRingR
namespace Go.Proofs.YtdlpbpohbkcafaaGreat
section

theorem swapL_perm {l : List Nat} {i j : Nat} (hi : i < l.length) (hj : j < l.length) : (swapL l i j).Perm l := by
  have : swapL l i j = (l.set i l[j]).set j l[i] := by simp [swapL, hi, hj]
  rw [this]
  exact List.set_set_perm hi hj
theorem upL_perm : ∀ (f : Nat) (l : List Nat) (j : Nat), j < l.length → (upL f l j).Perm l
  | 0, l, j, _ => List.Perm.refl _
  | f + 1, l, j, hj => by
    rw [upL]
    split
    · exact List.Perm.refl _
    · split
      · exact (upL_perm f _ _ (by rw [swapL_len]; omega)).trans (swapL_perm (by omega) hj)
      · exact List.Perm.refl _
theorem downL_perm : ∀ (f : Nat) (l : List Nat) (i n : Nat), i < l.length → n ≤ l.length → (downL f l i n).Perm l
  | 0, l, i, n, _, _ => List.Perm.refl _
  | f + 1, l, i, n, hi, hn => by
    rw [downL]
    split
    · exact List.Perm.refl _
    · rename_i h0
      have hJ : (if 2 * i + 2 < n ∧ l.getD (2 * i + 2) 0 < l.getD (2 * i + 1) 0 then 2 * i + 2 else 2 * i + 1) < l.length := by
        split <;> omega
      generalize (if 2 * i + 2 < n ∧ l.getD (2 * i + 2) 0 < l.getD (2 * i + 1) 0 then 2 * i + 2 else 2 * i + 1) = J at hJ
      split
      · exact (downL_perm f _ _ n (by rw [swapL_len]; exact hJ) (by rw [swapL_len]; exact hn)).trans (swapL_perm hi hJ)
      · exact List.Perm.refl _
theorem pushL_perm (l : List Nat) (x : Nat) : (pushL l x).Perm (l ++ [x]) := upL_perm _ _ _ (by simp)
theorem popL_perm {l : List Nat} (h : l ≠ []) : ((popL l).1 ++ [(popL l).2]).Perm l := by
  have hl := List.length_pos_iff.2 h
  have h1 : (downL (l.length - 1) (swapL l 0 (l.length - 1)) 0 (l.length - 1)).Perm l := (downL_perm _ _ _ _ (by rw [swapL_len]; exact hl) (by rw [swapL_len]; omega)).trans (swapL_perm hl (by omega))
  unfold popL
  simp only
  generalize hd : downL (l.length - 1) (swapL l 0 (l.length - 1)) 0 (l.length - 1) = d at h1
  have hdl := h1.length_eq
  have hx : d.getD (l.length - 1) 0 = d[l.length - 1]'(by omega) := by rw [List.getD_eq_getElem?_getD, List.getElem?_eq_getElem (by omega)]; rfl
  rw [hx, List.take_append_getElem (by omega), List.take_of_length_le (by omega)]
  exact h1

/-- Of each number those that point to it. -/
def bk (g : Dg) (v : Nat) : List Nat := (List.range g.length).filter fun u => decide (v ∈ nxs g u)
theorem bk_mem {g : Dg} {v u : Nat} : u ∈ bk g v ↔ u < g.length ∧ v ∈ nxs g u := by simp [bk, List.mem_filter]
theorem bk_nodup (g : Dg) (v : Nat) : (bk g v).Nodup := List.Pairwise.filter _ List.nodup_range
structure OS where
  waits : Nat → Nat
  heap : List Nat
  out : List Nat
/-- One that waits for one less. -/
def dec1 (s : OS) (u : Nat) : OS := if s.waits u - 1 = 0 then { s with waits := upd s.waits u (s.waits u - 1), heap := pushL s.heap u } else { s with waits := upd s.waits u (s.waits u - 1) }
def take1 (s : OS) : OS := { s with heap := (popL s.heap).1, out := s.out ++ [(popL s.heap).2] }
def pop1 (g : Dg) (s : OS) : OS := (bk g (popL s.heap).2).foldl dec1 (take1 s)
def runO (g : Dg) : Nat → OS → OS
  | 0, s => s
  | f + 1, s => if s.heap = [] then s else runO g f (pop1 g s)
def startO (g : Dg) (k : Nat) : OS := ⟨fun v => if v < k then (nxs g v).length else 0, (List.range k).foldl (fun h v => if nxs g v = [] then pushL h v else h) [], []⟩
def orderT (g : Dg) : List Nat := (runO g (g.length + 1) (startO g g.length)).out

structure OkO (g : Dg) (o : List Nat) (v : Nat) (xs : List Nat) (s : OS) : Prop where
  nd : (s.heap ++ s.out).Nodup
  lt : ∀ x ∈ s.heap ++ s.out, x < g.length
  wt : ∀ u, u < g.length → s.waits u = ((nxs g u).filter fun x => decide (¬ (x ∈ o ∨ (x = v ∧ u ∈ xs)))).length
  zr : ∀ u, u < g.length → (s.waits u = 0 ↔ u ∈ s.heap ++ s.out)
/-- No number twice. -/
def OkN (g : Dg) : Prop := ∀ v, (nxs g v).Nodup
theorem OkO.heap_len {g : Dg} {o : List Nat} {v : Nat} {xs : List Nat} {s : OS} (h : OkO g o v xs s) : s.heap.length + s.out.length ≤ g.length := by
  have := nodup_lt h.nd h.lt
  simpa using this
theorem filter_less {l : List Nat} {p q : Nat → Bool} {v : Nat} (hn : l.Nodup) (hv : v ∈ l) (hp : p v = true) (hq : ∀ x ∈ l, q x = (p x && decide (x ≠ v))) : (l.filter q).length + 1 = (l.filter p).length := by
  have h1 : l.filter q = (l.filter p).filter fun x => decide (x ≠ v) := by
    rw [List.filter_filter]
    refine List.filter_congr fun x hx => ?_
    rw [hq x hx, Bool.and_comm]
  have hm : v ∈ l.filter p := List.mem_filter.2 ⟨hv, hp⟩
  have hn2 : (l.filter p).Nodup := List.Pairwise.filter _ hn
  have h2 : (l.filter p).filter (fun x => decide (x ≠ v)) = (l.filter p).erase v := by
    rw [hn2.erase_eq_filter]
    refine List.filter_congr fun x _ => ?_
    by_cases e : x = v <;> simp [e]
  rw [h1, h2, List.length_erase_of_mem hm]
  have := List.length_pos_of_mem hm
  omega
theorem dec_ok {g : Dg} (hN : OkN g) {o : List Nat} {v u : Nat} {xs : List Nat} {s : OS} (h : OkO g o v xs s) (hu : u < g.length) (hvu : v ∈ nxs g u) (hvo : v ∉ o) (hux : u ∉ xs) : OkO g o v (xs ++ [u]) (dec1 s u) ∧ 0 < s.waits u := by
  have hless : ((nxs g u).filter fun x => decide (¬ (x ∈ o ∨ (x = v ∧ u ∈ xs ++ [u])))).length + 1 = ((nxs g u).filter fun x => decide (¬ (x ∈ o ∨ (x = v ∧ u ∈ xs)))).length := by
    refine filter_less (hN u) hvu (by simp [hvo, hux]) fun x _ => ?_
    simp [hux]
  have hw := h.wt u hu
  have hpos : 0 < s.waits u := by omega
  have hnm : u ∉ s.heap ++ s.out := fun hm => by
    have := (h.zr u hu).2 hm
    omega
  refine ⟨?_, hpos⟩
  have hwt : ∀ a, a < g.length → upd s.waits u (s.waits u - 1) a = ((nxs g a).filter fun x => decide (¬ (x ∈ o ∨ (x = v ∧ a ∈ xs ++ [u])))).length := fun a ha => by
    by_cases e : a = u
    · rw [e, upd_same]
      omega
    · rw [upd_other e, h.wt a ha]
      congr 1
      refine List.filter_congr fun x _ => ?_
      simp [e]
  unfold dec1
  by_cases h0 : s.waits u - 1 = 0
  · rw [if_pos h0]
    have hp : (pushL s.heap u ++ s.out).Perm (u :: (s.heap ++ s.out)) := ((pushL_perm s.heap u).append_right s.out).trans (by
      rw [List.append_assoc]
      exact (List.perm_middle (a := u) (l₁ := s.heap) (l₂ := s.out)))
    refine ⟨hp.nodup_iff.2 (List.nodup_cons.2 ⟨hnm, h.nd⟩), fun x hx => ?_, hwt, fun a ha => ?_⟩
    · rcases List.mem_cons.1 (hp.mem_iff.1 hx) with e | hx
      · rw [e]; exact hu
      · exact h.lt x hx
    · simp only
      rw [hp.mem_iff, List.mem_cons]
      by_cases e : a = u
      · rw [e, upd_same]
        exact ⟨fun _ => .inl rfl, fun _ => h0⟩
      · rw [upd_other e, h.zr a ha]
        simp [e]
  · rw [if_neg h0]
    refine ⟨h.nd, h.lt, hwt, fun a ha => ?_⟩
    simp only
    by_cases e : a = u
    · rw [e, upd_same]
      exact ⟨fun h => absurd h h0, fun h => absurd h hnm⟩
    · rw [upd_other e]
      exact h.zr a ha
theorem dec1_out (s : OS) (u : Nat) : (dec1 s u).out = s.out := by unfold dec1; split <;> rfl
theorem decs_out : ∀ (l : List Nat) (s : OS), (l.foldl dec1 s).out = s.out
  | [], _ => rfl
  | u :: l, s => by rw [List.foldl_cons, decs_out l, dec1_out]
theorem take_ok {g : Dg} {s : OS} {v0 : Nat} (h : OkO g s.out v0 [] s) (h0 : s.heap ≠ []) : OkO g s.out (popL s.heap).2 [] (take1 s) ∧ (popL s.heap).2 < g.length ∧ (popL s.heap).2 ∉ s.out := by
  have hp := popL_perm h0
  have hp2 : ((popL s.heap).1 ++ (s.out ++ [(popL s.heap).2])).Perm (s.heap ++ s.out) := by
    refine List.Perm.trans ?_ (hp.append_right s.out)
    rw [List.append_assoc]
    exact List.Perm.append_left _ List.perm_append_comm
  have hm : (popL s.heap).2 ∈ s.heap := hp.mem_iff.1 (by simp)
  refine ⟨⟨hp2.nodup_iff.2 h.nd, fun x hx => h.lt x (hp2.mem_iff.1 hx), fun u hu => ?_, fun u hu => ?_⟩, h.lt _ (List.mem_append_left _ hm), fun hx => ?_⟩
  · rw [show (take1 s).waits u = s.waits u from rfl, h.wt u hu]
    congr 1
    refine List.filter_congr fun x _ => ?_
    simp
  · show s.waits u = 0 ↔ u ∈ (popL s.heap).1 ++ (s.out ++ [(popL s.heap).2])
    rw [hp2.mem_iff]
    exact h.zr u hu
  · exact (List.nodup_append.1 h.nd).2.2 _ hm _ hx rfl
theorem decs_ok {g : Dg} (hN : OkN g) {o : List Nat} {v : Nat} (hvo : v ∉ o) : ∀ (ys xs : List Nat) (s : OS), OkO g o v xs s → (∀ u ∈ ys, u < g.length ∧ v ∈ nxs g u ∧ u ∉ xs) → ys.Nodup → OkO g o v (xs ++ ys) (ys.foldl dec1 s)
  | [], xs, s, h, _, _ => by simpa using h
  | u :: ys, xs, s, h, hy, hn => by
    obtain ⟨h1, h2, h3⟩ := hy u (by simp)
    have hn2 := List.nodup_cons.1 hn
    rw [List.foldl_cons]
    have := decs_ok hN hvo ys (xs ++ [u]) (dec1 s u) (dec_ok hN h h1 h2 hvo h3).1 (fun a ha => by
      obtain ⟨k1, k2, k3⟩ := hy a (List.mem_cons_of_mem _ ha)
      refine ⟨k1, k2, fun hm => ?_⟩
      rcases List.mem_append.1 hm with hm | hm
      · exact k3 hm
      · simp at hm
        exact hn2.1 (hm ▸ ha)) hn2.2
    simpa using this
theorem done_ok {g : Dg} {o : List Nat} {v : Nat} {s : OS} (h : OkO g o v (bk g v) s) (w : Nat) : OkO g (o ++ [v]) w [] s := by
  refine ⟨h.nd, h.lt, fun u hu => ?_, h.zr⟩
  rw [h.wt u hu]
  congr 1
  refine List.filter_congr fun x hx => ?_
  rw [decide_eq_decide]
  simp only [List.mem_append, List.mem_singleton, List.not_mem_nil, and_false, or_false, bk_mem]
  constructor
  · intro h hc
    rcases hc with hc | hc
    · exact h (.inl hc)
    · exact h (.inr ⟨hc, hu, hc ▸ hx⟩)
  · intro h hc
    rcases hc with hc | hc
    · exact h (.inl hc)
    · exact h (.inr hc.1)
theorem pop_ok {g : Dg} (hN : OkN g) {s : OS} {v0 : Nat} (h : OkO g s.out v0 [] s) (h0 : s.heap ≠ []) : OkO g (pop1 g s).out v0 [] (pop1 g s) ∧ (pop1 g s).out = s.out ++ [(popL s.heap).2] := by
  obtain ⟨h1, h2, h3⟩ := take_ok h h0
  have h4 := decs_ok hN h3 (bk g (popL s.heap).2) [] (take1 s) h1 (fun u hu => ⟨(bk_mem.1 hu).1, (bk_mem.1 hu).2, by simp⟩) (bk_nodup g _)
  have h5 : (pop1 g s).out = s.out ++ [(popL s.heap).2] := decs_out _ _
  rw [h5]
  rw [List.nil_append] at h4
  exact ⟨done_ok h4 v0, rfl⟩
theorem nil_iff {l : List Nat} : l.length = 0 ↔ l = [] := List.length_eq_zero_iff
theorem startH_mem (g : Dg) : ∀ (k u : Nat), u ∈ (startO g k).heap ↔ u < k ∧ nxs g u = []
  | 0, u => by simp [startO]
  | k + 1, u => by
    have ih := startH_mem g k u
    have e : (startO g (k + 1)).heap = if nxs g k = [] then pushL (startO g k).heap k else (startO g k).heap := by
      simp only [startO, List.range_succ, List.foldl_append, List.foldl_cons, List.foldl_nil]
    rw [e]
    by_cases h0 : nxs g k = []
    · rw [if_pos h0, (pushL_perm _ _).mem_iff, List.mem_append, ih, List.mem_singleton]
      constructor
      · rintro (⟨h1, h2⟩ | rfl)
        · exact ⟨by omega, h2⟩
        · exact ⟨by omega, h0⟩
      · rintro ⟨h1, h2⟩
        by_cases e : u = k
        · exact .inr e
        · exact .inl ⟨by omega, h2⟩
    · rw [if_neg h0, ih]
      constructor
      · rintro ⟨h1, h2⟩
        exact ⟨by omega, h2⟩
      · rintro ⟨h1, h2⟩
        refine ⟨?_, h2⟩
        rcases Nat.lt_or_ge u k with h | h
        · exact h
        · exact absurd (show u = k by omega) (fun e => h0 (e ▸ h2))
theorem startH_nodup (g : Dg) : ∀ k : Nat, (startO g k).heap.Nodup
  | 0 => by simp [startO]
  | k + 1 => by
    have ih := startH_nodup g k
    have e : (startO g (k + 1)).heap = if nxs g k = [] then pushL (startO g k).heap k else (startO g k).heap := by
      simp only [startO, List.range_succ, List.foldl_append, List.foldl_cons, List.foldl_nil]
    rw [e]
    split
    · refine (pushL_perm _ _).nodup_iff.2 (List.nodup_append.2 ⟨ih, by simp, fun a ha b hb e => ?_⟩)
      simp at hb
      have := ((startH_mem g k a).1 ha).1
      omega
    · exact ih
theorem start_okO (g : Dg) : OkO g [] 0 [] (startO g g.length) := by
  refine ⟨by simpa [startO] using startH_nodup g g.length, fun x hx => ?_, fun u hu => ?_, fun u hu => ?_⟩
  · rw [show (startO g g.length).out = [] from rfl, List.append_nil] at hx
    exact ((startH_mem g _ x).1 hx).1
  · have e : ((nxs g u).filter fun x => decide (¬ (x ∈ ([] : List Nat) ∨ (x = 0 ∧ u ∈ ([] : List Nat))))) = nxs g u := List.filter_eq_self.2 fun x _ => by simp
    rw [e]
    simp [startO, hu]
  · rw [show (startO g g.length).out = [] from rfl, List.append_nil, startH_mem]
    show (if u < g.length then (nxs g u).length else 0) = 0 ↔ _
    rw [if_pos hu, nil_iff]
    exact ⟨fun h => ⟨hu, h⟩, fun h => h.2⟩
/-- At the end nothing is ready. -/
theorem runO_ok {g : Dg} (hN : OkN g) : ∀ (f : Nat) (s : OS), OkO g s.out 0 [] s → g.length < s.out.length + f → OkO g (runO g f s).out 0 [] (runO g f s) ∧ (runO g f s).heap = []
  | 0, s, h, hf => by
    have := h.heap_len
    omega
  | f + 1, s, h, hf => by
    rw [runO]
    split
    · rename_i h0
      exact ⟨h, h0⟩
    · rename_i h0
      obtain ⟨h1, h2⟩ := pop_ok hN h h0
      exact runO_ok hN f _ h1 (by rw [h2]; simp; omega)
end
section
section

theorem swapL_get {l : List Nat} {i j : Nat} (hi : i < l.length) (hj : j < l.length) (k : Nat) : (swapL l i j).getD k 0 = if k = j then l.getD i 0 else if k = i then l.getD j 0 else l.getD k 0 := by
  unfold swapL
  rw [List.getD_eq_getElem?_getD, List.getElem?_set]
  by_cases h1 : k = j
  · rw [if_pos h1.symm, if_pos (by simpa using hj), if_pos h1]
    rfl
  · rw [if_neg (fun e => h1 e.symm), if_neg h1, List.getElem?_set]
    by_cases h2 : k = i
    · rw [if_pos h2.symm, if_pos hi, if_pos h2]
      rfl
    · rw [if_neg (fun e => h2 e.symm), if_neg h2, ← List.getD_eq_getElem?_getD]
/-- Each of the first n is no less than the one above it. -/
def HpN (l : List Nat) (n : Nat) : Prop := ∀ i, 0 < i → i < n → l.getD ((i - 1) / 2) 0 ≤ l.getD i 0
abbrev Hp (l : List Nat) : Prop := HpN l l.length
theorem HpN.top {l : List Nat} {n : Nat} (h : HpN l n) : ∀ i, i < n → l.getD 0 0 ≤ l.getD i 0 := by
  intro i
  induction i using Nat.strongRecOn with
  | ind i ih =>
    intro hi
    by_cases h0 : i = 0
    · rw [h0]; exact Nat.le_refl _
    · exact Nat.le_trans (ih ((i - 1) / 2) (by omega) (by omega)) (h i (by omega) hi)
def HpUp (l : List Nat) (j : Nat) : Prop := (∀ i, 0 < i → i < l.length → i ≠ j → l.getD ((i - 1) / 2) 0 ≤ l.getD i 0) ∧ ∀ i, i < l.length → 0 < i → (i - 1) / 2 = j → 0 < j → l.getD ((j - 1) / 2) 0 ≤ l.getD i 0
theorem upL_hp : ∀ (f : Nat) (l : List Nat) (j : Nat), j < l.length → j ≤ f → HpUp l j → Hp (upL f l j)
  | 0, l, j, _, hf, h => by
    have : j = 0 := by omega
    subst this
    intro i h0 hi
    exact h.1 i h0 hi (by omega)
  | f + 1, l, j, hj, hf, h => by
    rw [upL]
    split
    · rename_i h0
      subst h0
      intro i hi0 hi
      exact h.1 i hi0 hi (by omega)
    · rename_i h0
      split
      · rename_i hlt
        obtain ⟨p, hp⟩ : ∃ p, (j - 1) / 2 = p := ⟨_, rfl⟩
        rw [hp] at hlt ⊢
        have hpl : p < l.length := by omega
        refine upL_hp f _ p (by rw [swapL_len]; exact hpl) (by omega) ⟨fun i hi0 hi hip => ?_, fun i hi hi0 hpi hp0 => ?_⟩
        · rw [swapL_len] at hi
          rw [swapL_get hpl hj, swapL_get hpl hj]
          by_cases e : i = j
          · rw [if_pos e, e, hp, if_neg (by omega), if_pos rfl]
            omega
          · rw [if_neg e, if_neg hip]
            have h1 := h.1 i hi0 hi e
            by_cases e2 : (i - 1) / 2 = j
            · rw [if_pos e2]
              have := h.2 i hi hi0 e2 (by omega)
              rwa [hp] at this
            · rw [if_neg e2]
              by_cases e3 : (i - 1) / 2 = p
              · rw [if_pos e3]
                rw [e3] at h1
                omega
              · rw [if_neg e3]
                exact h1
        · rw [swapL_len] at hi
          rw [swapL_get hpl hj, swapL_get hpl hj, if_neg (by omega), if_neg (by omega)]
          have h2 := h.1 p hp0 hpl (by omega)
          by_cases e : i = j
          · rw [if_pos e]
            exact h2
          · rw [if_neg e, if_neg (by omega)]
            have := h.1 i hi0 hi e
            rw [hpi] at this
            exact Nat.le_trans h2 this
      · rename_i hlt
        intro i hi0 hi
        by_cases e : i = j
        · subst e
          omega
        · exact h.1 i hi0 hi e
theorem getD_snoc_lt {l : List Nat} {x k : Nat} (h : k < l.length) : (l ++ [x]).getD k 0 = l.getD k 0 := by
  rw [List.getD_eq_getElem?_getD, List.getD_eq_getElem?_getD, List.getElem?_append_left h]
theorem pushL_hp {l : List Nat} (h : Hp l) (x : Nat) : Hp (pushL l x) := by
  unfold pushL
  refine upL_hp _ _ _ (by simp) (by simp) ⟨fun i hi0 hi hne => ?_, fun i hi hi0 hpi h0 => ?_⟩
  · simp only [List.length_append, List.length_cons, List.length_nil, Nat.zero_add] at hi
    rw [getD_snoc_lt (by omega), getD_snoc_lt (by omega)]
    exact h i hi0 (by omega)
  · simp only [List.length_append, List.length_cons, List.length_nil, Nat.zero_add] at hi
    omega
def HpDn (l : List Nat) (i n : Nat) : Prop := (∀ m, 0 < m → m < n → (m - 1) / 2 ≠ i → l.getD ((m - 1) / 2) 0 ≤ l.getD m 0) ∧ ∀ m, 0 < m → m < n → (m - 1) / 2 = i → 0 < i → l.getD ((i - 1) / 2) 0 ≤ l.getD m 0
theorem downL_hp : ∀ (f : Nat) (l : List Nat) (i n : Nat), i < l.length → n ≤ l.length → n ≤ i + f → HpDn l i n → HpN (downL f l i n) n
  | 0, l, i, n, _, _, hf, h => by
    intro m hm0 hm
    exact h.1 m hm0 hm (by omega)
  | f + 1, l, i, n, hi, hn, hf, h => by
    rw [downL]
    split
    · rename_i h0
      intro m hm0 hm
      exact h.1 m hm0 hm (by omega)
    · rename_i h0
      have hJ : ∃ J, (if 2 * i + 2 < n ∧ l.getD (2 * i + 2) 0 < l.getD (2 * i + 1) 0 then 2 * i + 2 else 2 * i + 1) = J ∧ J < n ∧ (J - 1) / 2 = i ∧ i < J ∧ ∀ m, 0 < m → m < n → (m - 1) / 2 = i → l.getD J 0 ≤ l.getD m 0 := by
        refine ⟨_, rfl, ?_⟩
        split
        · rename_i h1
          refine ⟨h1.1, by omega, by omega, fun m hm0 hm e => ?_⟩
          rcases (show m = 2 * i + 1 ∨ m = 2 * i + 2 by omega) with rfl | rfl
          · exact Nat.le_of_lt h1.2
          · exact Nat.le_refl _
        · rename_i h1
          refine ⟨by omega, by omega, by omega, fun m hm0 hm e => ?_⟩
          rcases (show m = 2 * i + 1 ∨ m = 2 * i + 2 by omega) with rfl | rfl
          · exact Nat.le_refl _
          · exact Nat.le_of_not_lt fun h2 => h1 ⟨hm, h2⟩
      obtain ⟨J, eJ, hJn, hJi, hiJ, hmin⟩ := hJ
      rw [eJ]
      have hJl : J < l.length := by omega
      split
      · rename_i hlt
        refine downL_hp f _ J n (by rw [swapL_len]; exact hJl) (by rw [swapL_len]; exact hn) (by omega) ⟨fun m hm0 hm hne => ?_, fun m hm0 hm he hJ0 => ?_⟩
        · rw [swapL_get hi hJl, swapL_get hi hJl, if_neg hne]
          by_cases e : m = J
          · rw [if_pos e, e, hJi, if_pos rfl]
            omega
          · rw [if_neg e]
            by_cases e2 : m = i
            · have h3 := h.2 J (by omega) hJn hJi (by omega)
              subst e2
              rw [if_pos rfl, if_neg (by omega)]
              exact h3
            · rw [if_neg e2]
              by_cases e3 : (m - 1) / 2 = i
              · rw [if_pos e3]
                exact hmin m hm0 hm e3
              · rw [if_neg e3]
                exact h.1 m hm0 hm e3
        · rw [swapL_get hi hJl, swapL_get hi hJl, hJi, if_neg (by omega), if_pos rfl, if_neg (by omega), if_neg (by omega)]
          have := h.1 m hm0 hm (by omega)
          rwa [he] at this
      · rename_i hlt
        intro m hm0 hm
        by_cases e : (m - 1) / 2 = i
        · rw [e]
          exact Nat.le_trans (Nat.le_of_not_lt hlt) (hmin m hm0 hm e)
        · exact h.1 m hm0 hm e
/-- What lies behind the first n stays. -/
theorem downL_rest : ∀ (f : Nat) (l : List Nat) (i n k : Nat), i < n → n ≤ l.length → n ≤ k → (downL f l i n).getD k 0 = l.getD k 0
  | 0, l, i, n, k, _, _, _ => rfl
  | f + 1, l, i, n, k, hi, hn, hk => by
    rw [downL]
    split
    · rfl
    · rename_i h0
      have hJ : (if 2 * i + 2 < n ∧ l.getD (2 * i + 2) 0 < l.getD (2 * i + 1) 0 then 2 * i + 2 else 2 * i + 1) < n := by
        split <;> omega
      generalize (if 2 * i + 2 < n ∧ l.getD (2 * i + 2) 0 < l.getD (2 * i + 1) 0 then 2 * i + 2 else 2 * i + 1) = J at hJ
      split
      · rw [downL_rest f _ J n k hJ (by rw [swapL_len]; exact hn) hk, swapL_get (by omega) (by omega), if_neg (by omega), if_neg (by omega)]
      · rfl
theorem getD_mem_le {l : List Nat} {m : Nat} (h : ∀ i, i < l.length → m ≤ l.getD i 0) : ∀ x ∈ l, m ≤ x := by
  intro x hx
  obtain ⟨i, hi, rfl⟩ := List.getElem_of_mem hx
  have := h i hi
  rwa [List.getD_eq_getElem?_getD, List.getElem?_eq_getElem hi] at this
theorem popL_hp {l : List Nat} (h : Hp l) (h0 : l ≠ []) : Hp (popL l).1 ∧ ∀ x ∈ l, (popL l).2 ≤ x := by
  have hl := List.length_pos_iff.2 h0
  have hmin := getD_mem_le h.top
  have hd : HpN (downL (l.length - 1) (swapL l 0 (l.length - 1)) 0 (l.length - 1)) (l.length - 1) := by
    refine downL_hp _ _ _ _ (by rw [swapL_len]; exact hl) (by rw [swapL_len]; omega) (by omega) ⟨fun m hm0 hm hne => ?_, fun m hm0 hm he h0 => by omega⟩
    rw [swapL_get hl (by omega), swapL_get hl (by omega), if_neg (by omega), if_neg (by omega), if_neg (by omega), if_neg (by omega)]
    exact h m hm0 (by omega)
  have hlen : (downL (l.length - 1) (swapL l 0 (l.length - 1)) 0 (l.length - 1)).length = l.length := by
    rw [(downL_perm _ _ _ _ (by rw [swapL_len]; exact hl) (by rw [swapL_len]; omega)).length_eq, swapL_len]
  have hlast : (downL (l.length - 1) (swapL l 0 (l.length - 1)) 0 (l.length - 1)).getD (l.length - 1) 0 = l.getD 0 0 := by
    by_cases h1 : l.length - 1 = 0
    · rw [h1]
      rw [show downL 0 (swapL l 0 0) 0 0 = swapL l 0 0 from rfl, swapL_get hl hl, if_pos rfl]
    · rw [downL_rest _ _ _ _ _ (by omega) (by rw [swapL_len]; omega) (Nat.le_refl _), swapL_get hl (by omega), if_pos rfl]
  unfold popL
  simp only
  refine ⟨fun i hi0 hi => ?_, by rw [hlast]; exact hmin⟩
  rw [List.length_take, hlen] at hi
  have e : ∀ k, k < l.length - 1 → ((downL (l.length - 1) (swapL l 0 (l.length - 1)) 0 (l.length - 1)).take (l.length - 1)).getD k 0 = (downL (l.length - 1) (swapL l 0 (l.length - 1)) 0 (l.length - 1)).getD k 0 := fun k hk => by
    rw [List.getD_eq_getElem?_getD, List.getD_eq_getElem?_getD, List.getElem?_take_of_lt hk]
  rw [e _ (by omega), e _ (by omega)]
  exact hd i hi0 (by omega)
end
section

/-- All that it points to are told, it is not. -/
def Rdy (g : Dg) (out : List Nat) (v : Nat) : Prop := v < g.length ∧ v ∉ out ∧ ∀ x ∈ nxs g v, x ∈ out
/-- An order as it is told: each time the least one that is ready. -/
def Greedy (g : Dg) (out : List Nat) : Prop := ∀ i (h : i < out.length), Rdy g (out.take i) out[i] ∧ ∀ w, w < out[i] → ¬ Rdy g (out.take i) w
theorem Greedy.nil (g : Dg) : Greedy g [] := fun i h => by simp at h
theorem Greedy.snoc {g : Dg} {out : List Nat} {v : Nat} (h : Greedy g out) (hv : Rdy g out v) (hm : ∀ w, w < v → ¬ Rdy g out w) : Greedy g (out ++ [v]) := by
  intro i hi
  simp only [List.length_append, List.length_cons, List.length_nil, Nat.zero_add] at hi
  by_cases e : i < out.length
  · rw [List.getElem_append_left e, List.take_append_of_le_length (by omega)]
    exact h i e
  · have e2 : i = out.length := by omega
    subst e2
    rw [List.getElem_append_right (Nat.le_refl _), List.take_left']
    · simpa using ⟨hv, hm⟩
    · rfl
/-- An order that can't go on. -/
def Stuck (g : Dg) (out : List Nat) : Prop := ∀ v, ¬ Rdy g out v
theorem Greedy.pre {g : Dg} {a b : List Nat} (ha : Greedy g a) (hb : Greedy g b) : ∀ n, n ≤ a.length → n ≤ b.length → a.take n = b.take n
  | 0, _, _ => rfl
  | n + 1, h1, h2 => by
    have ih := Greedy.pre ha hb n (by omega) (by omega)
    rw [List.take_succ_eq_append_getElem (by omega), List.take_succ_eq_append_getElem (by omega), ih]
    obtain ⟨p1, p2⟩ := ha n (by omega)
    obtain ⟨q1, q2⟩ := hb n (by omega)
    rw [ih] at p1 p2
    congr 2
    rcases Nat.lt_trichotomy (a[n]'(by omega)) (b[n]'(by omega)) with h | h | h
    · exact absurd p1 (q2 _ h)
    · exact h
    · exact absurd q1 (p2 _ h)
/-- There is one order alone. -/
theorem Greedy.same {g : Dg} {a b : List Nat} (ha : Greedy g a) (hb : Greedy g b) (sa : Stuck g a) (sb : Stuck g b) : a = b := by
  rcases Nat.lt_trichotomy a.length b.length with h | h | h
  · have := ha.pre hb a.length (Nat.le_refl _) (by omega)
    rw [List.take_length] at this
    have h1 := (hb a.length h).1
    rw [← this] at h1
    exact absurd h1 (sa _)
  · have := ha.pre hb a.length (Nat.le_refl _) (by omega)
    rwa [List.take_length, h, List.take_length] at this
  · have := ha.pre hb b.length (by omega) (Nat.le_refl _)
    rw [List.take_length] at this
    have h1 := (ha b.length h).1
    rw [this] at h1
    exact absurd h1 (sb _)
theorem Greedy.nodup {g : Dg} {out : List Nat} (h : Greedy g out) : out.Nodup := by
  rw [List.Nodup, List.pairwise_iff_getElem]
  intro i j hi hj hij e
  refine (h j hj).1.2.1 ?_
  rw [← e, List.mem_take_iff_getElem]
  exact ⟨i, by omega, rfl⟩
theorem Greedy.lt {g : Dg} {out : List Nat} (h : Greedy g out) : ∀ x ∈ out, x < g.length := by
  intro x hx
  obtain ⟨i, hi, rfl⟩ := List.getElem_of_mem hx
  exact (h i hi).1.1
/-- Those that it points to come ahead. -/
theorem Greedy.ahead {g : Dg} {out : List Nat} (h : Greedy g out) {i : Nat} (hi : i < out.length) {x : Nat} (hx : x ∈ nxs g out[i]) : ∃ j, ∃ hj : j < i, out[j]'(by omega) = x := by
  have := (h i hi).1.2.2 x hx
  obtain ⟨j, hj, e⟩ := List.mem_take_iff_getElem.1 this
  exact ⟨j, by omega, e⟩
theorem Greedy.rch {g : Dg} {out : List Nat} (h : Greedy g out) {i : Nat} (hi : i < out.length) {x : Nat} (hx : Rch1 g out[i] x) : ∃ j, ∃ hj : j < i, out[j]'(by omega) = x := by
  obtain ⟨c, hc, hr⟩ := hx
  have h0 := h.ahead hi hc
  induction hr with
  | refl => exact h0
  | step _ hu ih =>
    obtain ⟨j, hj, rfl⟩ := ih
    obtain ⟨k, hk, e⟩ := h.ahead (i := j) (by omega) hu
    exact ⟨k, by omega, e⟩
theorem Greedy.noRing {g : Dg} {out : List Nat} (h : Greedy g out) {v : Nat} (hv : v ∈ out) : ¬ Rch1 g v v := by
  obtain ⟨i, hi, rfl⟩ := List.getElem_of_mem hv
  intro hr
  obtain ⟨j, hj, e⟩ := h.rch hi hr
  have := (List.getElem_inj h.nodup).1 e
  omega
theorem mem_of_len {g : Dg} {out : List Nat} (h : Greedy g out) (hl : out.length = g.length) {v : Nat} (hv : v < g.length) : v ∈ out := by
  refine Decidable.byContradiction fun hn => ?_
  have h1 : (v :: out).Nodup := List.nodup_cons.2 ⟨hn, h.nodup⟩
  have := nodup_lt h1 (n := g.length) (fun x hx => by
    rcases List.mem_cons.1 hx with rfl | hx
    · exact hv
    · exact h.lt x hx)
  simp at this
  omega
/-- Where it is stuck ahead of the end there is a ring. -/
theorem stuck_ring {g : Dg} (hg : OkG g) {out : List Nat} (hs : Stuck g out) {v : Nat} (hv : v < g.length) (hvo : v ∉ out) : ∃ u, u < g.length ∧ Rch1 g u u := by
  refine Classical.byContradiction fun hno => ?_
  have hno : ∀ u, u < g.length → ¬ Rch1 g u u := fun u hu hr => hno ⟨u, hu, hr⟩
  have hnext : ∀ u, u < g.length → u ∉ out → ∃ x, x ∈ nxs g u ∧ x < g.length ∧ x ∉ out := fun u hu huo => by
    refine Classical.byContradiction fun hc => hs u ⟨hu, huo, fun x hx => ?_⟩
    refine Decidable.byContradiction fun hxo => hc ⟨x, hx, hg.nx hx, hxo⟩
  have hpath : ∀ n, ∃ l : List Nat, l.length = n + 1 ∧ l.Nodup ∧ (∀ a ∈ l, a < g.length) ∧ ∃ a, ∃ r, l = a :: r ∧ a ∉ out ∧ ∀ b ∈ r, Rch1 g b a := by
    intro n
    induction n with
    | zero => exact ⟨[v], rfl, by simp, by simpa using hv, v, [], rfl, hvo, by simp⟩
    | succ n ih =>
      obtain ⟨l, h1, h2, h3, a, r, rfl, h4, h5⟩ := ih
      have ha := h3 a (by simp)
      obtain ⟨x, hx1, hx2, hx3⟩ := hnext a ha h4
      have hxr : ∀ b ∈ a :: r, Rch1 g b x := fun b hb => by
        rcases List.mem_cons.1 hb with rfl | hb
        · exact ⟨x, hx1, Rch.refl _⟩
        · exact (h5 b hb).trans_r (Rch.one hx1)
      refine ⟨x :: a :: r, by simp [h1], List.nodup_cons.2 ⟨fun hm => hno x hx2 (hxr x hm), h2⟩, fun b hb => ?_, x, a :: r, rfl, hx3, hxr⟩
      rcases List.mem_cons.1 hb with rfl | hb
      · exact hx2
      · exact h3 b hb
  obtain ⟨l, h1, h2, h3, _⟩ := hpath g.length
  have := nodup_lt h2 h3
  omega
theorem nodup_sub : ∀ {l m : List Nat}, l.Nodup → (∀ x ∈ l, x ∈ m) → l.length ≤ m.length
  | [], _, _, _ => Nat.zero_le _
  | a :: l, m, hn, h => by
    obtain ⟨h1, h2⟩ := List.nodup_cons.1 hn
    have h3 := nodup_sub (m := m.erase a) h2 fun x hx => (List.mem_erase_of_ne (fun e : x = a => h1 (by rw [← e]; exact hx))).2 (h x (by simp [hx]))
    rw [List.length_erase_of_mem (h a (by simp))] at h3
    have := List.length_pos_of_mem (h a (by simp))
    simp only [List.length_cons]
    omega
/-- There are rings just where the order stops short. -/
theorem Greedy.full {g : Dg} (hg : OkG g) {out : List Nat} (h : Greedy g out) (hs : Stuck g out) : out.length = g.length ↔ ∀ v, v < g.length → ¬ Rch1 g v v := by
  constructor
  · intro hl v hv
    exact h.noRing (mem_of_len h hl hv)
  · intro hno
    refine Nat.le_antisymm (nodup_lt h.nodup h.lt) (Nat.le_of_not_lt fun hlt => ?_)
    have : ∃ v, v < g.length ∧ v ∉ out := by
      refine Classical.byContradiction fun hc => ?_
      have h1 : (List.range g.length).length ≤ out.length := nodup_sub List.nodup_range fun v hv => Classical.byContradiction fun hn => hc ⟨v, List.mem_range.1 hv, hn⟩
      rw [List.length_range] at h1
      omega
    obtain ⟨v, hv, hvo⟩ := this
    obtain ⟨u, hu, hr⟩ := stuck_ring hg hs hv hvo
    exact hno u hu hr

theorem OkO.rdy {g : Dg} {v0 : Nat} {s : OS} (h : OkO g s.out v0 [] s) (u : Nat) : u ∈ s.heap ↔ Rdy g s.out u := by
  have hw : ∀ u, u < g.length → (s.waits u = 0 ↔ ∀ x ∈ nxs g u, x ∈ s.out) := fun u hu => by
    rw [h.wt u hu, List.length_eq_zero_iff, List.filter_eq_nil_iff]
    simp
  constructor
  · intro hu
    have hl := h.lt u (List.mem_append_left _ hu)
    refine ⟨hl, fun ho => (List.nodup_append.1 h.nd).2.2 u hu u ho rfl, (hw u hl).1 ((h.zr u hl).2 (List.mem_append_left _ hu))⟩
  · rintro ⟨h1, h2, h3⟩
    rcases List.mem_append.1 ((h.zr u h1).1 ((hw u h1).2 h3)) with h4 | h4
    · exact h4
    · exact absurd h4 h2
theorem dec1_hp {s : OS} (h : Hp s.heap) (u : Nat) : Hp (dec1 s u).heap := by
  unfold dec1
  split
  · exact pushL_hp h u
  · exact h
theorem decs_hp : ∀ (l : List Nat) (s : OS), Hp s.heap → Hp (l.foldl dec1 s).heap
  | [], _, h => h
  | u :: l, _, h => decs_hp l _ (dec1_hp h u)
theorem runO_greedy {g : Dg} (hN : OkN g) : ∀ (f : Nat) (s : OS), OkO g s.out 0 [] s → Hp s.heap → Greedy g s.out → g.length < s.out.length + f → Greedy g (runO g f s).out ∧ Stuck g (runO g f s).out
  | 0, s, h, _, _, hf => by
    have := h.heap_len
    omega
  | f + 1, s, h, hh, hg, hf => by
    rw [runO]
    split
    · rename_i h0
      refine ⟨hg, fun v hv => ?_⟩
      have := (h.rdy v).2 hv
      rw [h0] at this
      simp at this
    · rename_i h0
      obtain ⟨h1, h2⟩ := pop_ok hN h h0
      obtain ⟨k1, k2⟩ := popL_hp hh h0
      have hm : (popL s.heap).2 ∈ s.heap := (popL_perm h0).mem_iff.1 (by simp)
      refine runO_greedy hN f _ h1 (decs_hp _ _ k1) ?_ (by rw [h2]; simp; omega)
      rw [h2]
      refine hg.snoc ((h.rdy _).1 hm) fun w hw hr => ?_
      have := k2 w ((h.rdy w).2 hr)
      omega
theorem startH_hp (g : Dg) : ∀ k, Hp (startO g k).heap
  | 0 => fun i _ hi => by simp [startO] at hi
  | k + 1 => by
    have ih := startH_hp g k
    have e : (startO g (k + 1)).heap = if nxs g k = [] then pushL (startO g k).heap k else (startO g k).heap := by
      simp only [startO, List.range_succ, List.foldl_append, List.foldl_cons, List.foldl_nil]
    rw [e]
    split
    · exact pushL_hp ih k
    · exact ih
/-- What cycle.Order tells. -/
theorem orderT_ok {g : Dg} (hN : OkN g) : Greedy g (orderT g) ∧ Stuck g (orderT g) :=
  runO_greedy hN _ _ (start_okO g) (startH_hp g _) (Greedy.nil g) (by show g.length < 0 + _; omega)
end
end
end Go.Proofs.YtdlpbpohbkcafaaGreat
