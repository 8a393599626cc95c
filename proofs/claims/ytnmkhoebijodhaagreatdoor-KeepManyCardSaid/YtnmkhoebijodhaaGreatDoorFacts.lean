/-
  A region that draws its order, by one fact an operation: what its slot holds, and what then lies in memory. No program in sight.
-/
import Derived.Test.YtnmkhoebijodhaaGreatDoorRegW
import Derived.Test.YtnmkhoebijodhaaGreatDoorRoundR
import Derived.Laws.Rows
import Derived.Laws.Tables
namespace Go.Proofs.YtnmkhoebijodhaaGreatDoor
open Go.RowKit

variable {P : Program} {ops : Array Oper} {Q : Exit → Act → World → Prop}

/-- The frame a0, its slots ds holding what σ says. -/
def layA (a0 : Act) (ds : List Nat) (σ : Nat → Value) : Act := { a0 with tmps := ds.foldl (fun t d => t.setIfInBounds d (σ d)) a0.tmps }
def dsts (ops : Array Oper) : List Nat := ops.toList.filterMap (·.dst)
/-- What operation i has yielded. -/
def slotOf (ops : Array Oper) (σ : Nat → Value) (i : Nat) : Value := match (ops[i]?).bind (·.dst) with | some d => σ d | none => undef

theorem lay_size : ∀ (ds : List Nat) (σ : Nat → Value) (t : Array Value), (ds.foldl (fun t d => t.setIfInBounds d (σ d)) t).size = t.size
  | [], _, _ => rfl
  | d :: ds, σ, t => by rw [List.foldl_cons, lay_size ds σ]; simp
theorem lay_get : ∀ (ds : List Nat) (σ : Nat → Value) (t : Array Value) (k : Nat), k < t.size → (ds.foldl (fun t d => t.setIfInBounds d (σ d)) t)[k]? = if k ∈ ds then some (σ k) else t[k]?
  | [], _, _, _, _ => by simp
  | d :: ds, σ, t, k, h => by
    rw [List.foldl_cons, lay_get ds σ _ k (by simpa using h)]
    by_cases hk : k ∈ ds
    · simp [hk]
    · rw [if_neg hk, Array.getElem?_setIfInBounds]
      by_cases e : d = k
      · subst e
        simp [h]
      · simp [e, hk, Ne.symm e]
theorem lay_self (a0 : Act) (ds : List Nat) : layA a0 ds (fun d => a0.tmps.getD d undef) = a0 := by
  unfold layA
  have : ds.foldl (fun t d => t.setIfInBounds d (a0.tmps.getD d undef)) a0.tmps = a0.tmps := by
    refine Array.ext_getElem? fun k => ?_
    by_cases h : k < a0.tmps.size
    · rw [lay_get _ _ _ _ h]
      split
      · simp [h]
      · rfl
    · rw [Array.getElem?_eq_none (by rw [lay_size]; omega), Array.getElem?_eq_none (by omega)]
  rw [this]
theorem lay_put (a0 : Act) (ds : List Nat) (σ : Nat → Value) (d : Nat) (v : Value) (hd : d ∈ ds) : (layA a0 ds σ).put (some d) v = layA a0 ds (fun k => if k = d then v else σ k) := by
  unfold layA Act.put
  simp only
  congr 1
  refine Array.ext_getElem? fun k => ?_
  by_cases h : k < a0.tmps.size
  · rw [Array.getElem?_setIfInBounds, lay_get _ _ _ _ h, lay_get _ _ _ _ h, lay_size]
    by_cases e : d = k
    · subst e
      simp [h, hd]
    · simp only [e, if_false, Ne.symm e]
  · rw [Array.getElem?_eq_none (by simp [lay_size]; omega), Array.getElem?_eq_none (by rw [lay_size]; omega)]

/-- The slots behind operation i. -/
def updS (ops : Array Oper) (σ : Nat → Value) (i : Nat) (v : Value) : Nat → Value := match (ops[i]?).bind (·.dst) with | some d => fun k => if k = d then v else σ k | none => σ

/-- What operation i waits for. -/
def depsOf (ops : Array Oper) (i : Nat) : List Nat := match ops[i]? with | some o => (o.after.toList.filter (Region.binds .any)).map (·.on) | none => []
/-- L i: what operation i asks of others: such as it waits for, or such as they ask for. -/
def coversB (ops : Array Oper) (L : List (List Nat)) : Bool := (List.range ops.size).all fun i => (L.getD i []).all fun k => (depsOf ops i).any fun m => m == k || (L.getD m []).contains k
def AllF (F : Nat → Prop) : List Nat → Prop
  | [] => True
  | k :: l => F k ∧ AllF F l
/-- Slots laid ahead of the region. -/
def AllX (a : Act) : List (Nat × Value) → Prop
  | [] => True
  | (k, v) :: l => a.tmps[k]?.getD undef = v ∧ AllX a l
/-- A frame's slots. -/
abbrev slotsA (a : Act) : Nat → Value := fun d => a.tmps[d]?.getD undef

/-- What the operations are to keep: G: what holds all along; Rl i: what operation i does to the world; Φ i: its fact, on its own slot and those that it waits for. -/
structure FactsOk (P : Program) (ops : Array Oper) (Q : Exit → Act → World → Prop) (X : List (Nat × Value)) (L : List (List Nat)) (G : World → Prop) (Rl : Nat → World → World → Prop) (Φ : Nat → (Nat → Value) → World → Prop) (N : Nat → World → Prop) (Z : Nat → Value) : Prop where
  keepN : ∀ j, j < ops.size → ∀ i u u', i ≠ j → (L.getD i []).contains j = false → G u → Rl i u u' → N j u → N j u'
  all : ∀ i u u', G u → Rl i u u' → G u'
  keep : ∀ j, j < ops.size → ∀ i σ σ' u u', i ≠ j → slotOf ops σ' j = slotOf ops σ j → (∀ k, (depsOf ops j).contains k = true → slotOf ops σ' k = slotOf ops σ k ∧ i ≠ k) → G u → Rl i u u' → Φ j σ u → Φ j σ' u'
  step : ∀ i, i < ops.size → ∀ (a : Act) (u : World) (K : Act → World → Prop), AllX a X → G u → AllF (fun k => Φ k (slotsA a) u) (L.getD i []) → N i u → (∀ j d, (ops[j]?).bind (·.dst) = some d → (L.getD j []).contains i = true → slotsA a d = Z d) →
    (∀ v u', Rl i u u' → Φ i (updS ops (slotsA a) i v) u' → K (a.put ((ops[i]?).bind (·.dst)) v) u') → wpOp P ops Q i K a u

theorem allF_of {F : Nat → Prop} : ∀ {l : List Nat}, (∀ k ∈ l, F k) → AllF F l
  | [], _ => trivial
  | k :: l, h => ⟨h k (by simp), allF_of fun j hj => h j (by simp [hj])⟩
theorem allX_of {a b : Act} {ds : List Nat} (h : ∀ d, ds.contains d = false → b.tmps[d]?.getD undef = a.tmps[d]?.getD undef) : ∀ {l : List (Nat × Value)}, (l.all fun p => !ds.contains p.1) = true → AllX a l → AllX b l
  | [], _, _ => trivial
  | (k, v) :: l, hl, hx => by
    simp only [List.all_cons, Bool.and_eq_true, Bool.not_eq_true'] at hl
    exact ⟨(h k hl.1).trans hx.1, allX_of h hl.2 hx.2⟩

theorem depsOf_mem {i k : Nat} (h : (depsOf ops i).contains k = true) : ∃ o, ops[i]? = some o ∧ ∃ e ∈ o.after, Region.binds .any e = true ∧ e.on = k := by
  unfold depsOf at h
  cases ho : ops[i]? with
  | none => rw [ho] at h; simp at h
  | some o =>
    rw [ho] at h
    have h := List.contains_iff_mem.1 h
    obtain ⟨e, he, rfl⟩ := List.mem_map.1 h
    obtain ⟨h1, h2⟩ := List.mem_filter.1 he
    exact ⟨o, rfl, e, Array.mem_toList_iff.1 h1, h2, rfl⟩

theorem dst_inj {i j d : Nat} (hn : (dsts ops).Nodup) (hi : (ops[i]?).bind (·.dst) = some d) (hj : (ops[j]?).bind (·.dst) = some d) : i = j := by
  have key : ∀ (l : List Oper) (i j : Nat), (l.filterMap (fun o => o.dst)).Nodup → (l[i]?).bind (fun o => o.dst) = some d → (l[j]?).bind (fun o => o.dst) = some d → i = j := by
    intro l
    induction l with
    | nil => intro i j _ h _; simp at h
    | cons o l ih =>
      have hmem : ∀ k : Nat, (l[k]?).bind (fun o : Oper => o.dst) = some d → d ∈ l.filterMap (fun o : Oper => o.dst) := fun (k : Nat) h => by
        cases hk : l[k]? with
        | none => rw [hk] at h; cases h
        | some x => rw [hk] at h; exact List.mem_filterMap.2 ⟨x, List.mem_of_getElem? hk, h⟩
      intro i j hn hi hj
      cases i with
      | zero =>
        cases j with
        | zero => rfl
        | succ j =>
          have h0 : o.dst = some d := by simpa using hi
          rw [List.filterMap_cons_some h0, List.nodup_cons] at hn
          exact absurd (hmem j (by simpa using hj)) hn.1
      | succ i =>
        cases j with
        | zero =>
          have h0 : o.dst = some d := by simpa using hj
          rw [List.filterMap_cons_some h0, List.nodup_cons] at hn
          exact absurd (hmem i (by simpa using hi)) hn.1
        | succ j =>
          have hn' : (l.filterMap (fun o : Oper => o.dst)).Nodup := by
            cases ho : o.dst with
            | none => rwa [List.filterMap_cons_none ho] at hn
            | some x => rw [List.filterMap_cons_some ho, List.nodup_cons] at hn; exact hn.2
          rw [ih i j hn' (by simpa using hi) (by simpa using hj)]
  refine key ops.toList i j hn ?_ ?_
  · simpa using hi
  · simpa using hj

theorem dst_mem {i d : Nat} (hi : (ops[i]?).bind (·.dst) = some d) : d ∈ dsts ops := by
  cases h : ops[i]? with
  | none => rw [h] at hi; cases hi
  | some o =>
    rw [h] at hi
    exact List.mem_filterMap.2 ⟨o, List.mem_of_getElem? (by simpa using h), hi⟩

theorem slot_upd {σ : Nat → Value} {v : Value} {i k : Nat} (hn : (dsts ops).Nodup) (hki : k ≠ i) : slotOf ops (updS ops σ i v) k = slotOf ops σ k := by
  unfold slotOf
  cases hk : (ops[k]?).bind (·.dst) with
  | none => rfl
  | some d =>
    show updS ops σ i v d = σ d
    unfold updS
    cases hi : (ops[i]?).bind (·.dst) with
    | none => rfl
    | some d' =>
      show (if d = d' then v else σ d) = σ d
      rw [if_neg (fun e => hki (dst_inj hn hk (by rw [hi, e])))]

theorem lay_slots {a0 : Act} {ds : List Nat} (hin : ds.all (fun d => decide (d < a0.tmps.size)) = true) (σ : Nat → Value) (d : Nat) : (ds.contains d = true → slotsA (layA a0 ds σ) d = σ d) ∧ (ds.contains d = false → slotsA (layA a0 ds σ) d = slotsA a0 d) := by
  constructor
  · intro hd
    have hmem := List.contains_iff_mem.1 hd
    have hsz : d < a0.tmps.size := by simpa using List.all_eq_true.1 hin d hmem
    show (List.foldl _ a0.tmps ds)[d]?.getD undef = _
    rw [lay_get _ _ _ _ hsz, if_pos hmem]
    rfl
  · intro hd
    have hmem : d ∉ ds := fun h => by rw [List.contains_iff_mem.2 h] at hd; cases hd
    show (List.foldl _ a0.tmps ds)[d]?.getD undef = a0.tmps[d]?.getD undef
    by_cases hsz : d < a0.tmps.size
    · rw [lay_get _ _ _ _ hsz, if_neg hmem]
    · rw [Array.getElem?_eq_none (by rw [lay_size]; omega), Array.getElem?_eq_none (by omega)]

theorem facts_any {a0 : Act} {w : World} {X : List (Nat × Value)} {L : List (List Nat)} {G : World → Prop} {Rl : Nat → World → World → Prop} {Φ : Nat → (Nat → Value) → World → Prop} {N : Nat → World → Prop} {ds : List Nat} {fr : (Nat → Value) → Act} (hds : dsts ops = ds) (hfr : ∀ σ, layA a0 ds σ = fr σ) (hdeps : depsOk .any ops = true) (hL : coversB ops L = true) (hnd : ds.Nodup) (hin : ds.all (fun d => decide (d < a0.tmps.size)) = true)
    (hX : AllX a0 X) (hXd : (X.all fun p => !ds.contains p.1) = true) (h : FactsOk P ops Q X L G Rl Φ N (slotsA a0)) (h0 : G w) (hN0 : ∀ j, j < ops.size → N j w)
    (hend : ∀ σ u, G u → (∀ i, i < ops.size → Φ i σ u) → Q .normal (fr σ) u) : wpAny P .any ops Q ops.size (Array.replicate ops.size false) a0 w := by
  subst hds
  obtain rfl : (fun σ => layA a0 (dsts ops) σ) = fr := funext hfr
  have hlt : ∀ i o, ops[i]? = some o → ∀ e ∈ o.after, Region.binds .any e = true → e.on < i := by
    intro i o ho e he hb
    have hi : i < ops.size := (Array.getElem?_eq_some_iff.1 ho).1
    have h1 := List.all_eq_true.1 hdeps i (List.mem_range.2 hi)
    rw [ho] at h1
    simp only [Option.map_some, Option.getD_some] at h1
    obtain ⟨k, hk, hke⟩ := Array.getElem_of_mem he
    have h2 := Array.all_eq_true.1 h1 k hk
    rw [hke, hb] at h2
    simpa using h2
  refine wpAny_inv (fun S a u => ∃ σ, a = layA a0 (dsts ops) σ ∧ σ = slotsA a ∧ G u ∧ (∀ j, j < ops.size → S j = true → Φ j σ u) ∧ (∀ j, j < ops.size → S j = true → (∀ k ∈ depsOf ops j, S k = true) ∧ ∀ k ∈ L.getD j [], S k = true ∧ k < ops.size) ∧ ∀ j, j < ops.size → S j = false → N j u ∧ ∀ d, (ops[j]?).bind (·.dst) = some d → slotsA a d = slotsA a0 d) hdeps ?_ ?_ _ _ _ _ (by simp) ?_ ?_
  · rintro i hi S a u ⟨σ, rfl, hσ, hG, hS, hC, hN⟩ hSi hdep
    have hdd : ∀ k ∈ depsOf ops i, S k = true ∧ k < i := fun k hk => by
      obtain ⟨o, ho, e, he, hb, rfl⟩ := depsOf_mem (List.contains_iff_mem.2 hk)
      exact ⟨hdep o ho e he hb, hlt i o ho e he hb⟩
    have hLi : ∀ k ∈ L.getD i [], S k = true ∧ k < ops.size := fun k hk => by
      have h1 := List.all_eq_true.1 (List.all_eq_true.1 hL i (List.mem_range.2 hi)) k hk
      obtain ⟨m, hm, h2⟩ := List.any_eq_true.1 h1
      obtain ⟨h3, h4⟩ := hdd m hm
      rw [Bool.or_eq_true] at h2
      rcases h2 with h2 | h2
      · have : m = k := by simpa using h2
        subst this
        exact ⟨h3, by omega⟩
      · exact (hC m (by omega) h3).2 k (List.contains_iff_mem.1 h2)
    refine h.step i hi _ u _ (allX_of (fun d hd => (lay_slots hin σ d).2 hd) hXd hX) hG (allF_of fun k hk => ?_) (hN i hi hSi).1 (fun j d hjd hc => ?_) (fun v u' hR hv => ?_)
    · rw [← hσ]
      exact hS k (hLi k hk).2 (hLi k hk).1
    · have hj : j < ops.size := by
        rcases Nat.lt_or_ge j ops.size with h | h
        · exact h
        · rw [Array.getElem?_eq_none h] at hjd; cases hjd
      cases hSj : S j with
      | false => exact (hN j hj hSj).2 d hjd
      | true =>
        have := ((hC j hj hSj).2 i (List.contains_iff_mem.1 hc)).1
        rw [hSi] at this
        cases this
    have hG' := h.all i u u' hG hR
    have hNN : ∀ j, j < ops.size → (S j || j == i) = false → N j u' := fun j hj hl => by
      simp only [Bool.or_eq_false_iff, beq_eq_false_iff_ne, ne_eq] at hl
      exact h.keepN j hj i u u' (Ne.symm hl.2) (Bool.eq_false_iff.2 fun hc => by
        have := (hLi j (List.contains_iff_mem.1 hc)).1
        rw [hl.1] at this
        cases this) hG hR (hN j hj hl.1).1
    have hC' : ∀ j, j < ops.size → (S j || j == i) = true → (∀ k ∈ depsOf ops j, (S k || k == i) = true) ∧ ∀ k ∈ L.getD j [], (S k || k == i) = true ∧ k < ops.size := by
      intro j hj hl
      by_cases ej : j = i
      · subst ej
        exact ⟨fun k hk => by simp [(hdd k hk).1], fun k hk => ⟨by simp [(hLi k hk).1], (hLi k hk).2⟩⟩
      · have hc := hC j hj (by simpa [ej] using hl)
        exact ⟨fun k hk => by simp [hc.1 k hk], fun k hk => ⟨by simp [(hc.2 k hk).1], (hc.2 k hk).2⟩⟩
    have hK : ∀ σ', (∀ k, k ≠ i → slotOf ops σ' k = slotOf ops σ k) → Φ i σ' u' → ∀ j, j < ops.size → (S j || j == i) = true → Φ j σ' u' := by
      intro σ' hs hi' j hj hl
      by_cases ej : j = i
      · subst ej; exact hi'
      · have hSj : S j = true := by simpa [ej] using hl
        refine h.keep j hj i σ σ' u u' (Ne.symm ej) (hs j ej) (fun k hk => ?_) hG hR (hS j hj hSj)
        have hLe := (hC j hj hSj).1 k (List.contains_iff_mem.1 hk)
        have hne : k ≠ i := fun e2 => by rw [e2, hSi] at hLe; cases hLe
        exact ⟨hs _ hne, Ne.symm hne⟩
    rw [← hσ] at hv
    cases hd : (ops[i]?).bind (·.dst) with
    | none =>
      have e1 : updS ops σ i v = σ := by unfold updS; rw [hd]
      rw [e1] at hv
      exact ⟨σ, rfl, hσ, hG', hK σ (fun _ _ => rfl) hv, hC', fun j hj hl => ⟨hNN j hj hl, fun d' hd' => by
        simp only [Bool.or_eq_false_iff, beq_eq_false_iff_ne, ne_eq] at hl
        exact (hN j hj hl.1).2 d' hd'⟩⟩
    | some d =>
      have e1 : (fun k => if k = d then v else σ k) = updS ops σ i v := by unfold updS; rw [hd]
      have hp : (layA a0 (dsts ops) σ).put (some d) v = layA a0 (dsts ops) (updS ops σ i v) := by rw [← e1]; exact lay_put _ _ _ _ _ (dst_mem hd)
      refine ⟨updS ops σ i v, hp, ?_, hG', hK _ (fun k hk => slot_upd hnd hk) hv, hC', fun j hj hl => ⟨hNN j hj hl, fun d' hd' => ?_⟩⟩
      rotate_left
      · simp only [Bool.or_eq_false_iff, beq_eq_false_iff_ne, ne_eq] at hl
        have h0 := (hN j hj hl.1).2 d' hd'
        have hdd : (dsts ops).contains d' = true := List.contains_iff_mem.2 (dst_mem hd')
        rw [← h0, hp, (lay_slots hin (updS ops σ i v) d').1 hdd, (lay_slots hin σ d').1 hdd, ← e1]
        exact if_neg (fun e => hl.2 (dst_inj hnd hd' (by rw [hd, e])))
      rw [hp]
      funext k
      have hk1 := lay_slots hin (updS ops σ i v) k
      have hk0 := lay_slots hin σ k
      cases hc : (dsts ops).contains k with
      | true => exact (hk1.1 hc).symm
      | false =>
        rw [hk1.2 hc, ← hk0.2 hc, ← congrFun hσ k, ← e1]
        exact if_neg (fun e => by rw [e, List.contains_iff_mem.2 (dst_mem hd)] at hc; cases hc)
  · rintro S a u hAll ⟨σ, rfl, -, hG, hS, -, -⟩
    exact hend σ u hG (fun i hi => hS i hi (hAll i hi))
  · rw [Array.toList_replicate]
    exact Nat.le_trans List.count_le_length (by simp)
  · have hno : ∀ j, (Array.replicate ops.size false).getD j false = false := fun j => by
      rw [Array.getD_eq_getD_getElem?, Array.getElem?_replicate]
      split <;> rfl
    refine ⟨slotsA a0, ?_, rfl, h0, fun j _ hj => (by dsimp only at hj; rw [hno] at hj; cases hj), fun j _ hj => (by dsimp only at hj; rw [hno] at hj; cases hj), fun j hj _ => ⟨hN0 j hj, fun _ _ => rfl⟩⟩
    have := lay_self a0 (dsts ops)
    rw [show (fun d => a0.tmps.getD d undef) = slotsA a0 from funext fun d => Array.getD_eq_getD_getElem?] at this
    exact this.symm

/-- THE LAW. -/
theorem wp_facts {id : Nat} {a0 : Act} {w : World} (G : World → Prop) (Rl : Nat → World → World → Prop) (X : List (Nat × Value)) (L : List (List Nat)) (Φ : Nat → (Nat → Value) → World → Prop) (N : Nat → World → Prop) {ds : List Nat} {fr : (Nat → Value) → Act} (hds : dsts ops = ds) (hfr : ∀ σ, layA a0 ds σ = fr σ) (hX : AllX a0 X) (hXd : (X.all fun p => !ds.contains p.1) = true) (hm : P.follows .mixedOrders = true) (hdeps : depsOk .any ops = true) (hL : coversB ops L = true) (hnd : ds.Nodup) (hin : ds.all (fun d => decide (d < a0.tmps.size)) = true) (h0 : G w.drew) (hN0 : ∀ j, j < ops.size → N j w.drew) (h : FactsOk P ops Q X L G Rl Φ N (slotsA a0))
    (hend : ∀ σ u, G u → (∀ i, i < ops.size → Φ i σ u) → Q .normal (fr σ) u) : (Code.region id ops true).wp P Q a0 w :=
  wp_region_any hm (facts_any hds hfr hdeps hL hnd hin hX hXd h h0 hN0 hend)
/-- The same within a round. -/
theorem wp_factsN {l n id : Nat} {a0 : Act} {w : World} (G : World → Prop) (Rl : Nat → World → World → Prop) (X : List (Nat × Value)) (L : List (List Nat)) (Φ : Nat → (Nat → Value) → World → Prop) (N : Nat → World → Prop) {ds : List Nat} {fr : (Nat → Value) → Act} (hds : dsts ops = ds) (hfr : ∀ σ, layA a0 ds σ = fr σ) (hX : AllX a0 X) (hXd : (X.all fun p => !ds.contains p.1) = true) (hm : P.follows .mixedOrders = true) (hdeps : depsOk .any ops = true) (hL : coversB ops L = true) (hnd : ds.Nodup) (hin : ds.all (fun d => decide (d < a0.tmps.size)) = true) (hno : noDefer ops = true) (hLO : ¬ LetsOut Q) (h0 : G w.drew) (hN0 : ∀ j, j < ops.size → N j w.drew) (h : FactsOk P ops Q X L G Rl Φ N (slotsA a0))
    (hend : ∀ σ u, G u → (∀ i, i < ops.size → Φ i σ u) → Q .normal (fr σ) u) : (Code.region id ops true).wpIn (Fence.wide.inRound l) n P Q a0 w :=
  wpIn_region_any hm (anyIn_of_any hno hLO _ _ _ _ (facts_any hds hfr hdeps hL hnd hin hX hXd h h0 hN0 hend))
/-- An operation without a guard. -/
theorem wpOp_plain {i : Nat} {o : Oper} {K : Act → World → Prop} {a : Act} {w : World} (ho : ops[i]? = some o) (hg : o.guard = none) (h : Oper.wp P o a w K Q) : wpOp P ops Q i K a w :=
  wpOp_step ho fun K' hK' => by
    simp only [Region.wanted, hg, if_true]
    exact Oper.wp_mono hK' h
theorem eval_tmp (a : Act) (t : Nat) : a.eval (.tmp t) = a.tmps[t]?.getD undef := by simp [Act.eval]
theorem fr_grownB {u u2 : World} {row : Option Nat} (hg : u.grownBy u2 row) : Fr row.toList u u2 := ⟨hg.os, hg.tape, hg.output, hg.size, fun k hk hn => hg.block k hk (fun e => hn (by simp [← e]))⟩
/-- What a store into a block of the region's own leaves. -/
structure KeptS (B : Nat) (t : TypeId) (u u' : World) : Prop where
  os : u'.os = u.os
  tape : u'.tape = u.tape
  output : u'.output = u.output
  size : u.heap.size ≤ u'.heap.size
  block : ∀ (k : Nat) o, u.heap[k]? = some o → (k < B ∨ ∀ cs f, o ≠ Obj.cells cs t f) → u'.heap[k]? = some o
  shape : ∀ (k : Nat) (cs : Array Value) f, u.heap[k]? = some (Obj.cells cs t f) → ∃ cs' : Array Value, cs'.size = cs.size ∧ u'.heap[k]? = some (Obj.cells cs' t f)
theorem Fr.keptS {u u' : World} (h : Fr [] u u') (B : Nat) (t : TypeId) : KeptS B t u u' := ⟨h.os, h.tape, h.output, h.size, fun _ _ ho _ => h.heap ho (by simp), fun k cs f ho => ⟨cs, rfl, h.heap ho (by simp)⟩⟩
theorem setRow_fr {u : World} {g : Nat} {t : TypeId} {old cells : Array Value} (hg : u.heap[g]? = some (.cells old t (0, 0))) : Fr [g] u (u.setRow g cells) ∧ (u.setRow g cells).heap[g]? = some (.cells cells t (0, 0)) := by
  have hz : (u.setRow g cells).heap.size = u.heap.size := by unfold World.setRow; simp
  have hget : ∀ k, (u.setRow g cells).heap[k]? = if k = g then some (.cells cells t (0, 0)) else u.heap[k]? := fun k => by
    unfold World.setRow
    simp only [Array.getElem?_modify]
    by_cases e : k = g
    · subst e
      simp [hg]
    · simp [e, Ne.symm e]
  exact ⟨⟨rfl, rfl, rfl, Nat.le_of_eq hz.symm, fun k _ hn => by rw [hget, if_neg (by simpa using hn)]⟩, by rw [hget, if_pos rfl]⟩
theorem KeptS.fr {w u u' : World} {t : TypeId} (h : KeptS w.heap.size t u u') (hw : Fr [] w u) : Fr [] w u' :=
  ⟨h.os.trans hw.os, h.tape.trans hw.tape, h.output.trans hw.output, Nat.le_trans hw.size h.size, fun k hk _ => by
    obtain ⟨o, ho⟩ : ∃ o, w.heap[k]? = some o := ⟨_, Array.getElem?_eq_getElem hk⟩
    rw [ho]
    exact h.block k o (hw.heap ho (by simp)) (.inl hk)⟩
/-- A row stored whole into a block known. -/
theorem KeptS.setRow {u : World} {B g : Nat} {t : TypeId} {old cells : Array Value} (hg : u.heap[g]? = some (.cells old t (0, 0))) (hB : B ≤ g) (hs : old.size = cells.size) : KeptS B t u (u.setRow g cells) ∧ (u.setRow g cells).heap[g]? = some (.cells cells t (0, 0)) := by
  have hz : (u.setRow g cells).heap.size = u.heap.size := by unfold World.setRow; simp
  have hget : ∀ k, (u.setRow g cells).heap[k]? = if k = g then some (.cells cells t (0, 0)) else u.heap[k]? := fun k => by
    unfold World.setRow
    simp only [Array.getElem?_modify]
    by_cases e : k = g
    · subst e
      simp [hg]
    · simp [e, Ne.symm e]
  refine ⟨⟨rfl, rfl, rfl, Nat.le_of_eq hz.symm, fun k o ho hb => ?_, fun k cs f ho => ?_⟩, by rw [hget, if_pos rfl]⟩
  · rw [hget, if_neg]
    · exact ho
    · rintro rfl
      rw [hg] at ho
      cases ho
      rcases hb with hb | hb
      · omega
      · exact hb _ _ rfl
  · by_cases e : k = g
    · subst e
      rw [hg] at ho
      cases ho
      exact ⟨cells, hs.symm, by rw [hget, if_pos rfl]⟩
    · exact ⟨cs, rfl, by rw [hget, if_neg e]; exact ho⟩
/-- One cell stored into a block known. -/
theorem KeptS.set1 {u : World} {B g : Nat} {t : TypeId} {x v : Value} (hg : u.heap[g]? = some (.cells #[x] t (0, 0))) (hB : B ≤ g) : KeptS B t u (u.setCell ⟨g, 0, none⟩ v) ∧ (u.setCell ⟨g, 0, none⟩ v).heap[g]? = some (.cells #[v] t (0, 0)) := by
  have hn : (u.setCell ⟨g, 0, none⟩ v).heap[g]? = some (.cells #[v] t (0, 0)) := set_of hg 0 v
  have ho : ∀ k, k ≠ g → (u.setCell ⟨g, 0, none⟩ v).heap[k]? = u.heap[k]? := fun k hk => Below.heap_setCell u ⟨g, 0, none⟩ v k hk
  refine ⟨⟨rfl, rfl, rfl, by simp [World.setCell], fun k o hk hb => ?_, fun k cs f hk => ?_⟩, hn⟩
  · rw [ho k ?_]
    · exact hk
    · rintro rfl
      rw [hg] at hk
      cases hk
      rcases hb with hb | hb
      · omega
      · exact hb _ _ rfl
  · by_cases e : k = g
    · subst e
      rw [hg] at hk
      cases hk
      exact ⟨#[v], rfl, hn⟩
    · exact ⟨cs, rfl, (ho k e).trans hk⟩
theorem size_one {cs : Array Value} (h : cs.size = 1) : ∃ x, cs = #[x] := by
  obtain ⟨l⟩ := cs
  match l, h with
  | [x], _ => exact ⟨x, rfl⟩
theorem KeptS.heap {B : Nat} {t : TypeId} {u u' : World} (h : KeptS B t u u') {k : Nat} {o : Obj} (ho : u.heap[k]? = some o) (hne : ∀ cs f, o ≠ .cells cs t f) : u'.heap[k]? = some o := h.block k o ho (.inr hne)

/-- What operation i does, where those of L store into blocks of the region's own, of these types. -/
def RelS (B : Nat) (L : List (Nat × TypeId)) (i : Nat) (u u' : World) : Prop := match L.lookup i with | some t => KeptS B t u u' | none => Fr [] u u'
theorem RelS.fr {w u u' : World} {L : List (Nat × TypeId)} {i : Nat} (h : RelS w.heap.size L i u u') (hw : Fr [] w u) : Fr [] w u' := by
  unfold RelS at h
  split at h
  · exact h.fr hw
  · exact hw.trans0 h
theorem RelS.block {B : Nat} {L : List (Nat × TypeId)} {i : Nat} {u u' : World} (h : RelS B L i u u') {k : Nat} {cs : Array Value} {t : TypeId} {f : Nat × Nat} (ho : u.heap[k]? = some (.cells cs t f)) (hne : L.lookup i ≠ some t) : u'.heap[k]? = some (.cells cs t f) := by
  unfold RelS at h
  split at h
  · rename_i t' ht
    exact h.heap ho (fun cs' f' e => by cases e; exact hne ht)
  · exact h.heap ho (by simp)
theorem RelS.map {B : Nat} {L : List (Nat × TypeId)} {i : Nat} {u u' : World} (h : RelS B L i u u') {k : Nat} {o : Obj} (ho : u.heap[k]? = some o) (hc : o.isCells = false) : u'.heap[k]? = some o := by
  unfold RelS at h
  split at h
  · exact h.heap ho (fun cs' f' e => by cases e; cases hc)
  · exact h.heap ho (by simp)
theorem RelS.shape {B : Nat} {L : List (Nat × TypeId)} {i : Nat} {u u' : World} (h : RelS B L i u u') {k : Nat} {cs : Array Value} {t : TypeId} {f : Nat × Nat} (ho : u.heap[k]? = some (.cells cs t f)) : ∃ cs' : Array Value, cs'.size = cs.size ∧ u'.heap[k]? = some (.cells cs' t f) := by
  unfold RelS at h
  split at h
  · rename_i t' ht
    by_cases e : t' = t
    · subst e; exact h.shape k cs f ho
    · exact ⟨cs, rfl, h.heap ho (fun cs' f' e2 => by cases e2; exact e rfl)⟩
  · exact ⟨cs, rfl, h.heap ho (by simp)⟩
theorem lookup_ne {L : List (Nat × TypeId)} {i i0 : Nat} {t : TypeId} (h : (L.all fun p => p.2 != t || p.1 == i0) = true) (hi : i ≠ i0) : L.lookup i ≠ some t := by
  induction L with
  | nil => simp
  | cons p L ih =>
    obtain ⟨k, t'⟩ := p
    simp only [List.all_cons, Bool.and_eq_true] at h
    rw [List.lookup_cons]
    by_cases e : i = k
    · subst e
      simp only [beq_self_eq_true]
      intro hh
      cases hh
      have := h.1
      simp only [bne_self_eq_false, Bool.false_or, beq_iff_eq] at this
      exact hi this
    · rw [show (i == k) = false by simpa using e]
      exact ih h.2
theorem lookup_no {L : List (Nat × TypeId)} {t : TypeId} (h : (L.all fun p => p.2 != t) = true) (i : Nat) : L.lookup i ≠ some t := by
  induction L with
  | nil => simp
  | cons p L ih =>
    obtain ⟨k, t'⟩ := p
    simp only [List.all_cons, Bool.and_eq_true] at h
    rw [List.lookup_cons]
    split
    · intro hh
      cases hh
      simp at h
    · exact ih h.2
/-- Nothing is stored: all lies as it lay. -/
theorem RelS.fr0 {B : Nat} {L : List (Nat × TypeId)} {i : Nat} {u u' : World} (h : RelS B L i u u') (hL : L.lookup i = none) : Fr [] u u' := by
  unfold RelS at h
  rw [hL] at h
  exact h
end Go.Proofs.YtnmkhoebijodhaaGreatDoor
