/-
  An order by a heap (as cycle.Order goes): the steps, and what holds on the way. No program's step here.
-/
import Derived.Test.YtdlpbpohbkcafaaCHeapU
import Derived.Test.YtdlpbpohbkcafaaRingL
namespace Go.Proofs.Ytdlpbpohbkcafaa

theorem swapL_perm {l : List Nat} {i j : Nat} (hi : i < l.length) (hj : j < l.length) : (swapL l i j).Perm l := by
  have : swapL l i j = (l.set i l[j]).set j l[i] := by simp [swapL, hi, hj]
  rw [this]
  exact List.set_set_perm hi hj
theorem upL_perm : ∀ (f : Nat) (l : List Nat) (j : Nat), j < l.length → (upL f l j).Perm l
  | 0, l, j, _ => List.Perm.refl _
  | f + 1, l, j, hj => by
    rw [upL]
    split
    · exact List.Perm.refl _
    · split
      · exact (upL_perm f _ _ (by rw [swapL_len]; omega)).trans (swapL_perm (by omega) hj)
      · exact List.Perm.refl _
theorem downL_perm : ∀ (f : Nat) (l : List Nat) (i n : Nat), i < l.length → n ≤ l.length → (downL f l i n).Perm l
  | 0, l, i, n, _, _ => List.Perm.refl _
  | f + 1, l, i, n, hi, hn => by
    rw [downL]
    split
    · exact List.Perm.refl _
    · rename_i h0
      have hJ : (if 2 * i + 2 < n ∧ l.getD (2 * i + 2) 0 < l.getD (2 * i + 1) 0 then 2 * i + 2 else 2 * i + 1) < l.length := by
        split <;> omega
      generalize (if 2 * i + 2 < n ∧ l.getD (2 * i + 2) 0 < l.getD (2 * i + 1) 0 then 2 * i + 2 else 2 * i + 1) = J at hJ
      split
      · exact (downL_perm f _ _ n (by rw [swapL_len]; exact hJ) (by rw [swapL_len]; exact hn)).trans (swapL_perm hi hJ)
      · exact List.Perm.refl _
theorem pushL_perm (l : List Nat) (x : Nat) : (pushL l x).Perm (l ++ [x]) := upL_perm _ _ _ (by simp)
theorem popL_perm {l : List Nat} (h : l ≠ []) : ((popL l).1 ++ [(popL l).2]).Perm l := by
  have hl := List.length_pos_iff.2 h
  have h1 : (downL (l.length - 1) (swapL l 0 (l.length - 1)) 0 (l.length - 1)).Perm l := (downL_perm _ _ _ _ (by rw [swapL_len]; exact hl) (by rw [swapL_len]; omega)).trans (swapL_perm hl (by omega))
  unfold popL
  simp only
  generalize hd : downL (l.length - 1) (swapL l 0 (l.length - 1)) 0 (l.length - 1) = d at h1
  have hdl := h1.length_eq
  have hx : d.getD (l.length - 1) 0 = d[l.length - 1]'(by omega) := by rw [List.getD_eq_getElem?_getD, List.getElem?_eq_getElem (by omega)]; rfl
  rw [hx, List.take_append_getElem (by omega), List.take_of_length_le (by omega)]
  exact h1

/-- Of each number those that point to it. -/
def bk (g : Dg) (v : Nat) : List Nat := (List.range g.length).filter fun u => decide (v ∈ nxs g u)
theorem bk_mem {g : Dg} {v u : Nat} : u ∈ bk g v ↔ u < g.length ∧ v ∈ nxs g u := by simp [bk, List.mem_filter]
theorem bk_nodup (g : Dg) (v : Nat) : (bk g v).Nodup := List.Pairwise.filter _ List.nodup_range
structure OS where
  waits : Nat → Nat
  heap : List Nat
  out : List Nat
/-- One that waits for one less. -/
def dec1 (s : OS) (u : Nat) : OS := if s.waits u - 1 = 0 then { s with waits := upd s.waits u (s.waits u - 1), heap := pushL s.heap u } else { s with waits := upd s.waits u (s.waits u - 1) }
def take1 (s : OS) : OS := { s with heap := (popL s.heap).1, out := s.out ++ [(popL s.heap).2] }
def pop1 (g : Dg) (s : OS) : OS := (bk g (popL s.heap).2).foldl dec1 (take1 s)
def runO (g : Dg) : Nat → OS → OS
  | 0, s => s
  | f + 1, s => if s.heap = [] then s else runO g f (pop1 g s)
def startO (g : Dg) (k : Nat) : OS := ⟨fun v => if v < k then (nxs g v).length else 0, (List.range k).foldl (fun h v => if nxs g v = [] then pushL h v else h) [], []⟩
def orderT (g : Dg) : List Nat := (runO g (g.length + 1) (startO g g.length)).out

structure OkO (g : Dg) (o : List Nat) (v : Nat) (xs : List Nat) (s : OS) : Prop where
  nd : (s.heap ++ s.out).Nodup
  lt : ∀ x ∈ s.heap ++ s.out, x < g.length
  wt : ∀ u, u < g.length → s.waits u = ((nxs g u).filter fun x => decide (¬ (x ∈ o ∨ (x = v ∧ u ∈ xs)))).length
  zr : ∀ u, u < g.length → (s.waits u = 0 ↔ u ∈ s.heap ++ s.out)
/-- No number twice. -/
def OkN (g : Dg) : Prop := ∀ v, (nxs g v).Nodup
theorem OkO.heap_len {g : Dg} {o : List Nat} {v : Nat} {xs : List Nat} {s : OS} (h : OkO g o v xs s) : s.heap.length + s.out.length ≤ g.length := by
  have := nodup_lt h.nd h.lt
  simpa using this
theorem filter_less {l : List Nat} {p q : Nat → Bool} {v : Nat} (hn : l.Nodup) (hv : v ∈ l) (hp : p v = true) (hq : ∀ x ∈ l, q x = (p x && decide (x ≠ v))) : (l.filter q).length + 1 = (l.filter p).length := by
  have h1 : l.filter q = (l.filter p).filter fun x => decide (x ≠ v) := by
    rw [List.filter_filter]
    refine List.filter_congr fun x hx => ?_
    rw [hq x hx, Bool.and_comm]
  have hm : v ∈ l.filter p := List.mem_filter.2 ⟨hv, hp⟩
  have hn2 : (l.filter p).Nodup := List.Pairwise.filter _ hn
  have h2 : (l.filter p).filter (fun x => decide (x ≠ v)) = (l.filter p).erase v := by
    rw [hn2.erase_eq_filter]
    refine List.filter_congr fun x _ => ?_
    by_cases e : x = v <;> simp [e]
  rw [h1, h2, List.length_erase_of_mem hm]
  have := List.length_pos_of_mem hm
  omega
theorem dec_ok {g : Dg} (hN : OkN g) {o : List Nat} {v u : Nat} {xs : List Nat} {s : OS} (h : OkO g o v xs s) (hu : u < g.length) (hvu : v ∈ nxs g u) (hvo : v ∉ o) (hux : u ∉ xs) : OkO g o v (xs ++ [u]) (dec1 s u) ∧ 0 < s.waits u := by
  have hless : ((nxs g u).filter fun x => decide (¬ (x ∈ o ∨ (x = v ∧ u ∈ xs ++ [u])))).length + 1 = ((nxs g u).filter fun x => decide (¬ (x ∈ o ∨ (x = v ∧ u ∈ xs)))).length := by
    refine filter_less (hN u) hvu (by simp [hvo, hux]) fun x _ => ?_
    simp [hux]
  have hw := h.wt u hu
  have hpos : 0 < s.waits u := by omega
  have hnm : u ∉ s.heap ++ s.out := fun hm => by
    have := (h.zr u hu).2 hm
    omega
  refine ⟨?_, hpos⟩
  have hwt : ∀ a, a < g.length → upd s.waits u (s.waits u - 1) a = ((nxs g a).filter fun x => decide (¬ (x ∈ o ∨ (x = v ∧ a ∈ xs ++ [u])))).length := fun a ha => by
    by_cases e : a = u
    · rw [e, upd_same]
      omega
    · rw [upd_other e, h.wt a ha]
      congr 1
      refine List.filter_congr fun x _ => ?_
      simp [e]
  unfold dec1
  by_cases h0 : s.waits u - 1 = 0
  · rw [if_pos h0]
    have hp : (pushL s.heap u ++ s.out).Perm (u :: (s.heap ++ s.out)) := ((pushL_perm s.heap u).append_right s.out).trans (by
      rw [List.append_assoc]
      exact (List.perm_middle (a := u) (l₁ := s.heap) (l₂ := s.out)))
    refine ⟨hp.nodup_iff.2 (List.nodup_cons.2 ⟨hnm, h.nd⟩), fun x hx => ?_, hwt, fun a ha => ?_⟩
    · rcases List.mem_cons.1 (hp.mem_iff.1 hx) with e | hx
      · rw [e]; exact hu
      · exact h.lt x hx
    · simp only
      rw [hp.mem_iff, List.mem_cons]
      by_cases e : a = u
      · rw [e, upd_same]
        exact ⟨fun _ => .inl rfl, fun _ => h0⟩
      · rw [upd_other e, h.zr a ha]
        simp [e]
  · rw [if_neg h0]
    refine ⟨h.nd, h.lt, hwt, fun a ha => ?_⟩
    simp only
    by_cases e : a = u
    · rw [e, upd_same]
      exact ⟨fun h => absurd h h0, fun h => absurd h hnm⟩
    · rw [upd_other e]
      exact h.zr a ha
theorem dec1_out (s : OS) (u : Nat) : (dec1 s u).out = s.out := by unfold dec1; split <;> rfl
theorem decs_out : ∀ (l : List Nat) (s : OS), (l.foldl dec1 s).out = s.out
  | [], _ => rfl
  | u :: l, s => by rw [List.foldl_cons, decs_out l, dec1_out]
theorem take_ok {g : Dg} {s : OS} {v0 : Nat} (h : OkO g s.out v0 [] s) (h0 : s.heap ≠ []) : OkO g s.out (popL s.heap).2 [] (take1 s) ∧ (popL s.heap).2 < g.length ∧ (popL s.heap).2 ∉ s.out := by
  have hp := popL_perm h0
  have hp2 : ((popL s.heap).1 ++ (s.out ++ [(popL s.heap).2])).Perm (s.heap ++ s.out) := by
    refine List.Perm.trans ?_ (hp.append_right s.out)
    rw [List.append_assoc]
    exact List.Perm.append_left _ List.perm_append_comm
  have hm : (popL s.heap).2 ∈ s.heap := hp.mem_iff.1 (by simp)
  refine ⟨⟨hp2.nodup_iff.2 h.nd, fun x hx => h.lt x (hp2.mem_iff.1 hx), fun u hu => ?_, fun u hu => ?_⟩, h.lt _ (List.mem_append_left _ hm), fun hx => ?_⟩
  · rw [show (take1 s).waits u = s.waits u from rfl, h.wt u hu]
    congr 1
    refine List.filter_congr fun x _ => ?_
    simp
  · show s.waits u = 0 ↔ u ∈ (popL s.heap).1 ++ (s.out ++ [(popL s.heap).2])
    rw [hp2.mem_iff]
    exact h.zr u hu
  · exact (List.nodup_append.1 h.nd).2.2 _ hm _ hx rfl
theorem decs_ok {g : Dg} (hN : OkN g) {o : List Nat} {v : Nat} (hvo : v ∉ o) : ∀ (ys xs : List Nat) (s : OS), OkO g o v xs s → (∀ u ∈ ys, u < g.length ∧ v ∈ nxs g u ∧ u ∉ xs) → ys.Nodup → OkO g o v (xs ++ ys) (ys.foldl dec1 s)
  | [], xs, s, h, _, _ => by simpa using h
  | u :: ys, xs, s, h, hy, hn => by
    obtain ⟨h1, h2, h3⟩ := hy u (by simp)
    have hn2 := List.nodup_cons.1 hn
    rw [List.foldl_cons]
    have := decs_ok hN hvo ys (xs ++ [u]) (dec1 s u) (dec_ok hN h h1 h2 hvo h3).1 (fun a ha => by
      obtain ⟨k1, k2, k3⟩ := hy a (List.mem_cons_of_mem _ ha)
      refine ⟨k1, k2, fun hm => ?_⟩
      rcases List.mem_append.1 hm with hm | hm
      · exact k3 hm
      · simp at hm
        exact hn2.1 (hm ▸ ha)) hn2.2
    simpa using this
theorem done_ok {g : Dg} {o : List Nat} {v : Nat} {s : OS} (h : OkO g o v (bk g v) s) (w : Nat) : OkO g (o ++ [v]) w [] s := by
  refine ⟨h.nd, h.lt, fun u hu => ?_, h.zr⟩
  rw [h.wt u hu]
  congr 1
  refine List.filter_congr fun x hx => ?_
  rw [decide_eq_decide]
  simp only [List.mem_append, List.mem_singleton, List.not_mem_nil, and_false, or_false, bk_mem]
  constructor
  · intro h hc
    rcases hc with hc | hc
    · exact h (.inl hc)
    · exact h (.inr ⟨hc, hu, hc ▸ hx⟩)
  · intro h hc
    rcases hc with hc | hc
    · exact h (.inl hc)
    · exact h (.inr hc.1)
theorem pop_ok {g : Dg} (hN : OkN g) {s : OS} {v0 : Nat} (h : OkO g s.out v0 [] s) (h0 : s.heap ≠ []) : OkO g (pop1 g s).out v0 [] (pop1 g s) ∧ (pop1 g s).out = s.out ++ [(popL s.heap).2] := by
  obtain ⟨h1, h2, h3⟩ := take_ok h h0
  have h4 := decs_ok hN h3 (bk g (popL s.heap).2) [] (take1 s) h1 (fun u hu => ⟨(bk_mem.1 hu).1, (bk_mem.1 hu).2, by simp⟩) (bk_nodup g _)
  have h5 : (pop1 g s).out = s.out ++ [(popL s.heap).2] := decs_out _ _
  rw [h5]
  rw [List.nil_append] at h4
  exact ⟨done_ok h4 v0, rfl⟩
theorem nil_iff {l : List Nat} : l.length = 0 ↔ l = [] := List.length_eq_zero_iff
theorem startH_mem (g : Dg) : ∀ (k u : Nat), u ∈ (startO g k).heap ↔ u < k ∧ nxs g u = []
  | 0, u => by simp [startO]
  | k + 1, u => by
    have ih := startH_mem g k u
    have e : (startO g (k + 1)).heap = if nxs g k = [] then pushL (startO g k).heap k else (startO g k).heap := by
      simp only [startO, List.range_succ, List.foldl_append, List.foldl_cons, List.foldl_nil]
    rw [e]
    by_cases h0 : nxs g k = []
    · rw [if_pos h0, (pushL_perm _ _).mem_iff, List.mem_append, ih, List.mem_singleton]
      constructor
      · rintro (⟨h1, h2⟩ | rfl)
        · exact ⟨by omega, h2⟩
        · exact ⟨by omega, h0⟩
      · rintro ⟨h1, h2⟩
        by_cases e : u = k
        · exact .inr e
        · exact .inl ⟨by omega, h2⟩
    · rw [if_neg h0, ih]
      constructor
      · rintro ⟨h1, h2⟩
        exact ⟨by omega, h2⟩
      · rintro ⟨h1, h2⟩
        refine ⟨?_, h2⟩
        rcases Nat.lt_or_ge u k with h | h
        · exact h
        · exact absurd (show u = k by omega) (fun e => h0 (e ▸ h2))
theorem startH_nodup (g : Dg) : ∀ k : Nat, (startO g k).heap.Nodup
  | 0 => by simp [startO]
  | k + 1 => by
    have ih := startH_nodup g k
    have e : (startO g (k + 1)).heap = if nxs g k = [] then pushL (startO g k).heap k else (startO g k).heap := by
      simp only [startO, List.range_succ, List.foldl_append, List.foldl_cons, List.foldl_nil]
    rw [e]
    split
    · refine (pushL_perm _ _).nodup_iff.2 (List.nodup_append.2 ⟨ih, by simp, fun a ha b hb e => ?_⟩)
      simp at hb
      have := ((startH_mem g k a).1 ha).1
      omega
    · exact ih
theorem start_okO (g : Dg) : OkO g [] 0 [] (startO g g.length) := by
  refine ⟨by simpa [startO] using startH_nodup g g.length, fun x hx => ?_, fun u hu => ?_, fun u hu => ?_⟩
  · rw [show (startO g g.length).out = [] from rfl, List.append_nil] at hx
    exact ((startH_mem g _ x).1 hx).1
  · have e : ((nxs g u).filter fun x => decide (¬ (x ∈ ([] : List Nat) ∨ (x = 0 ∧ u ∈ ([] : List Nat))))) = nxs g u := List.filter_eq_self.2 fun x _ => by simp
    rw [e]
    simp [startO, hu]
  · rw [show (startO g g.length).out = [] from rfl, List.append_nil, startH_mem]
    show (if u < g.length then (nxs g u).length else 0) = 0 ↔ _
    rw [if_pos hu, nil_iff]
    exact ⟨fun h => ⟨hu, h⟩, fun h => h.2⟩
/-- At the end nothing is ready. -/
theorem runO_ok {g : Dg} (hN : OkN g) : ∀ (f : Nat) (s : OS), OkO g s.out 0 [] s → g.length < s.out.length + f → OkO g (runO g f s).out 0 [] (runO g f s) ∧ (runO g f s).heap = []
  | 0, s, h, hf => by
    have := h.heap_len
    omega
  | f + 1, s, h, hf => by
    rw [runO]
    split
    · rename_i h0
      exact ⟨h, h0⟩
    · rename_i h0
      obtain ⟨h1, h2⟩ := pop_ok hN h h0
      exact runO_ok hN f _ h1 (by rw [h2]; simp; omega)
end Go.Proofs.Ytdlpbpohbkcafaa
