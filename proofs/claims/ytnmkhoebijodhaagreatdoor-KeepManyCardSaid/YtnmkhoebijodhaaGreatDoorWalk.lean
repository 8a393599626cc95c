/-
  A walk over a map whose keys are places, over any program: whichever entry the tape says comes next. No program in sight.
-/
import Derived.Test.YtnmkhoebijodhaaGreatDoorMap
import Derived.RangeFuncGives
import Derived.Sort.MapsRangeIn
import Derived.Lib.Hide
namespace Go.Proofs.YtnmkhoebijodhaaGreatDoor
open Go.RowKit

theorem spV_inj {s t : Sp} (h : spV s = spV t) : s = t := by
  obtain ⟨a, b⟩ := s
  obtain ⟨c, d⟩ := t
  simp [spV] at h
  simp [h.1, h.2]

/-- Nothing is left. -/
def AllCome (l : List (Sp × Value)) (done : List Sp) : Prop := ∀ s ∈ l.map (·.1), s ∈ done
theorem nodup_le : ∀ (a b : List Sp), a.Nodup → (∀ s ∈ a, s ∈ b) → a.length ≤ b.length
  | [], _, _, _ => by simp
  | x :: a, b, hn, hs => by
    obtain ⟨h1, h2⟩ := List.nodup_cons.1 hn
    have hx := hs x (by simp)
    have := nodup_le a (b.erase x) h2 (fun s h => (List.mem_erase_of_ne (fun e => h1 (by rw [← e]; exact h))).2 (hs s (by simp [h])))
    have hb := List.length_pos_of_mem hx
    rw [List.length_erase_of_mem hx] at this
    simp only [List.length_cons]
    omega

/-- The walk stands in block r: those of 'done' have come. -/
def Going (w : World) (b r : Nat) (l : List (Sp × Value)) (done : List Sp) : Prop :=
  ∃ es clock since seen c0, w.heap[b]? = some (.map es clock) ∧ es.toList.map prE = l.map encS ∧ Stamp es.toList clock ∧ (l.map (·.1)).Nodup ∧
    w.heap[r]? = some (.mapIter (some b) since seen c0) ∧ (∀ x ∈ es.toList, x.born < since) ∧ since ≤ c0 ∧ since ≤ clock ∧
    done.Nodup ∧ (∀ s ∈ done, s ∈ l.map (·.1)) ∧ (∀ x ∈ es.toList, ∀ s, x.key = spV s → (s ∈ done ↔ seen.contains x.born = true))

theorem ent_of {es : List MapEntry} {l : List (Sp × Value)} (h : es.map prE = l.map encS) {e : MapEntry} (he : e ∈ es) : ∃ s v, e.key = spV s ∧ e.val = v ∧ (s, v) ∈ l := by
  have hm : prE e ∈ l.map encS := h ▸ List.mem_map.2 ⟨e, he, rfl⟩
  obtain ⟨p, hp, hpe⟩ := List.mem_map.1 hm
  have := Prod.mk.inj hpe
  exact ⟨p.1, p.2, this.1.symm, this.2.symm, hp⟩
theorem ent_at {es : List MapEntry} {l : List (Sp × Value)} (h : es.map prE = l.map encS) {s : Sp} (hs : s ∈ l.map (·.1)) : ∃ e ∈ es, e.key = spV s := by
  obtain ⟨p, hp, rfl⟩ := List.mem_map.1 hs
  have hm : encS p ∈ es.map prE := h ▸ List.mem_map.2 ⟨p, hp, rfl⟩
  obtain ⟨e, he, hpe⟩ := List.mem_map.1 hm
  exact ⟨e, he, (Prod.mk.inj hpe).1⟩
theorem keys_apart {es : List MapEntry} {l : List (Sp × Value)} (h : es.map prE = l.map encS) (hn : (l.map (·.1)).Nodup) : es.Pairwise fun x y => x.key ≠ y.key := by
  have e1 : es.map (·.key) = (l.map (·.1)).map spV := by
    have := congrArg (List.map Prod.fst) h
    simpa [Function.comp_def] using this
  have h2 : (es.map (·.key)).Pairwise (· ≠ ·) := by
    rw [e1, List.pairwise_map]
    exact (List.nodup_iff_pairwise_ne.1 hn).imp fun hab e => hab (spV_inj e)
  exact List.pairwise_map.1 h2
theorem born_nodup {es : List MapEntry} {clock : Nat} (h : Stamp es clock) : (es.map (·.born)).Nodup := by
  rw [List.nodup_iff_pairwise_ne, List.pairwise_map]
  exact h.1.imp fun hab => Nat.ne_of_lt hab

theorem Going.map {w : World} {b r : Nat} {l : List (Sp × Value)} {done : List Sp} (h : Going w b r l done) : MapIs w b l := by
  obtain ⟨es, clock, _, _, _, hb, h1, h2, h3, _⟩ := h
  exact ⟨es, clock, hb, h1, h2, h3⟩
theorem Going.nodup {w : World} {b r : Nat} {l : List (Sp × Value)} {done : List Sp} (h : Going w b r l done) : done.Nodup := by
  obtain ⟨_, _, _, _, _, _, _, _, _, _, _, _, _, h, _⟩ := h
  exact h
theorem Going.sub {w : World} {b r : Nat} {l : List (Sp × Value)} {done : List Sp} (h : Going w b r l done) : ∀ s ∈ done, s ∈ l.map (·.1) := by
  obtain ⟨_, _, _, _, _, _, _, _, _, _, _, _, _, _, h, _⟩ := h
  exact h
theorem Going.walk {w : World} {b r : Nat} {l : List (Sp × Value)} {done : List Sp} (h : Going w b r l done) : ∃ o : Obj, w.heap[r]? = some o ∧ o.isWalk = true := by
  obtain ⟨_, _, _, _, _, _, _, _, _, hr, _⟩ := h
  exact ⟨_, hr, rfl⟩
theorem Going.of_walks {w w' : World} {b r : Nat} {l : List (Sp × Value)} {done : List Sp} (h : Going w b r l done) (hk : KeepsWalks w w') : Going w' b r l done ∧ w'.rangeLeft b r = w.rangeLeft b r := by
  obtain ⟨es, clock, since, seen, c0, hb, h1, h2, h3, hr, rest⟩ := h
  have hb' := hk.same b _ hb rfl
  have hr' := hk.same r _ hr rfl
  refine ⟨⟨es, clock, since, seen, c0, hb', h1, h2, h3, hr', rest⟩, ?_⟩
  simp [World.rangeLeft, hb, hr, hb', hr']

/-- 'range m'. -/
theorem MapIs.range {P : Program} {w : World} {b : Nat} {l : List (Sp × Value)} (h : MapIs w b l) {t kt e : TypeId} (ht : P.underlying t = some (.map kt e)) :
    ∃ w', (Instr.range t (.map (some b))).run P w = .ok (.pointer (some ⟨w.heap.size, 0, none⟩)) w' ∧ Going w' b w.heap.size l [] ∧ w.grownBy w' none ∧ w'.heap.size = w.heap.size + 1 := by
  have hlt := h.lt
  obtain ⟨es, clock, hb, h1, h2, h3⟩ := h
  refine ⟨_, run_range_map w t kt e b es clock ht hb, ⟨es, clock, clock, #[], clock, ((MapKept.heap_alloc w _).2 b hlt).trans hb, h1, h2, h3, (MapKept.heap_alloc w _).1, h2.2, Nat.le_refl _, Nat.le_refl _, by simp, by simp, by simp⟩, World.grownBy_alloc w _ none, by simp⟩

/-- THE STEP. -/
theorem Going.next {P : Program} {w : World} {b r : Nat} {l : List (Sp × Value)} {done : List Sp} (h : Going w b r l done) (ty : TypeId) :
    ((∀ s ∈ l.map (·.1), s ∈ done) ∧ (Instr.next (.pointer (some ⟨r, 0, none⟩)) false ty).run P w = .ok (.tuple #[.bool false]) w) ∨
    ∃ s v w', getS s l = some v ∧ s ∉ done ∧ (Instr.next (.pointer (some ⟨r, 0, none⟩)) false ty).run P w = .ok (.tuple #[.bool true, spV s, v]) w' ∧ Going w' b r l (done ++ [s]) ∧ w'.rangeLeft b r < w.rangeLeft b r ∧
      w.grownBy w' (some r) ∧ w'.heap.size = w.heap.size ∧ (Instr.entry (.pointer (some ⟨r, 0, none⟩))).run P w' = .ok (.tuple #[spV s, v]) w' := by
  obtain ⟨es, clock, since, seen, c0, hb, h1, h2, h3, hr, hold, hsc, hsk, hd, hdm, hds⟩ := h
  have hne : r ≠ b := by
    rintro rfl
    rw [hb] at hr
    cases hr
  rcases run_next_at (P := P) w ty r b since c0 seen es clock hr hb hold hsc with ⟨h0, hrun⟩ | ⟨e, he, w1, hal, hrun⟩
  · refine .inl ⟨fun s hs => ?_, hrun⟩
    obtain ⟨x, hx, hk⟩ := ent_at h1 hs
    exact (hds x hx s hk).2 (all_seen es seen h0 x hx)
  · obtain ⟨hem, hes⟩ := mem_left he
    obtain ⟨s, v, hk, hv, hmem⟩ := ent_of h1 hem
    have hr1 : w1.heap[r]? = some (.mapIter (some b) since seen c0) := by rcases hal with rfl | rfl <;> exact hr
    have hb1 : w1.heap[b]? = some (.map es clock) := by rcases hal with rfl | rfl <;> exact hb
    have hset := MapKept.heap_set (o' := .mapIter (some b) since (seen.push e.born) clock) hr1
    have hb' : (ChangeMaps.setBlock w1 r (.mapIter (some b) since (seen.push e.born) clock)).heap[b]? = some (.map es clock) := (hset.2 b (fun e1 => hne e1.symm)).trans hb1
    have hsd : s ∉ done := fun hs => by
      have := (hds e hem s hk).1 hs
      rw [hes] at this
      cases this
    have hr2 : (ChangeMaps.setBlock w1 r (.mapIter (some b) since (seen.push e.born) clock)).heap[r]? = some (.mapIter (some b) since (seen.push e.born) clock) := hset.1
    refine .inr ⟨s, v, _, getS_of_mem h3 hmem, hsd, by rw [hrun, hk, hv], ⟨es, clock, since, seen.push e.born, clock, hb', h1, h2, h3, hr2, hold, hsk, hsk, ?_, ?_, fun x hx t ht => ?_⟩, ?_, ?_, ?_, ?_⟩
    · rw [List.nodup_append]
      exact ⟨hd, by simp, fun a ha c hc e1 => hsd (by simp at hc; rw [← hc, ← e1]; exact ha)⟩
    · intro t ht
      rcases List.mem_append.1 ht with ht | ht
      · exact hdm t ht
      · simp at ht
        rw [ht]
        exact List.mem_map.2 ⟨_, hmem, rfl⟩
    · rw [contains_push, List.mem_append, Bool.or_eq_true, hds x hx t ht]
      refine or_congr Iff.rfl ?_
      rw [List.mem_singleton, beq_iff_eq]
      constructor
      · intro e1
        rw [entry_eq_of_key (keys_apart h1 h3) hx hem (by rw [ht, hk, e1])]
      · intro e1
        have := born_inj (born_nodup h2) hx hem e1
        rw [this, hk] at ht
        exact (spV_inj ht).symm
    · have e1 : w.rangeLeft b r = (leftOf es seen).size := by simp [World.rangeLeft, hb, hr]
      have e2 : (ChangeMaps.setBlock w1 r (.mapIter (some b) since (seen.push e.born) clock)).rangeLeft b r = (leftOf es (seen.push e.born)).size := by simp only [World.rangeLeft, hb', hr2]
      rw [e1, e2]
      exact left_shrinks es seen e he
    · rcases hal with rfl | rfl <;> exact ⟨rfl, rfl, rfl, by simp [ChangeMaps.setBlock], fun i _ hi => hset.2 i (fun e1 => hi (by rw [e1]))⟩
    · rcases hal with rfl | rfl <;> simp [ChangeMaps.setBlock]
    · rw [run_entry_at _ r b since seen es clock e hr2 hb' hem (born_nodup h2), hk, hv]

section
variable {F : Fence} {n : Nat} {P : Program} (w : World) {ops : Array Oper} {rest : List Oper} {o : Oper} {a : Act} {Q : Exit → Act → World → Prop}

theorem wpListIn_rangeS (hg : o.guard = none) (m : Operand) (t : TypeId) (hop : o.op = Op.range t m) (kt e : TypeId) (ht : P.underlying t = some (.map kt e)) (b : Nat) (l : List (Sp × Value)) (hm : a.eval m = .map (some b)) (hown : MapIs w b l)
    (hK : ∀ w', Going w' b w.heap.size l [] → w.grownBy w' none → w'.heap.size = w.heap.size + 1 → wpListIn F n P ops Q rest (a.put o.dst (.pointer (some ⟨w.heap.size, 0, none⟩))) w') :
    wpListIn F n P ops Q (o :: rest) a w := by
  refine wpListIn_plain hg fun K' hK' => ?_
  obtain ⟨w', hrun, r1, r2, r3⟩ := hown.range (P := P) ht
  unfold Oper.wpIn
  refine ⟨?_, ?_⟩
  · simp [Oper.about, hop]
  · rw [Oper.semAt_plain F _ _ (by rw [hop]; intro c hc'; cases hc')]
    simp [execOp, hop, hm, hrun, Result.andThen]
    exact hK' _ _ (hK w' r1 r2 r3)

theorem wpListIn_nextS (hg : o.guard = none) (it : Operand) (hop : o.op = Op.next it false) (b r : Nat) (l : List (Sp × Value)) (done : List Sp) (hit : a.eval it = .pointer (some ⟨r, 0, none⟩)) (h : Going w b r l done)
    (hDone : AllCome l done → wpListIn F n P ops Q rest (a.put o.dst (.tuple #[.bool false])) w)
    (hMore : ∀ (s : Sp) (v : Value) (w' : World), getS s l = some v → s ∉ done → Going w' b r l (done ++ [s]) → w'.rangeLeft b r < w.rangeLeft b r → w.grownBy w' (some r) → w'.heap.size = w.heap.size →
      (Instr.entry (.pointer (some ⟨r, 0, none⟩))).run P w' = .ok (.tuple #[spV s, v]) w' → wpListIn F n P ops Q rest (a.put o.dst (.tuple #[.bool true, spV s, v])) w') :
    wpListIn F n P ops Q (o :: rest) a w := by
  refine wpListIn_plain hg fun K' hK' => ?_
  unfold Oper.wpIn
  refine ⟨by simp [Oper.about, hop], ?_⟩
  rw [Oper.semAt_plain F _ _ (by rw [hop]; intro c hc'; cases hc')]
  rcases h.next (P := P) o.type with ⟨hl, hrun⟩ | ⟨s, v, w', h1, h2, hrun, h3, h4, h5, h6, h7⟩
  · simp [execOp, hop, hit, hrun, Result.andThen]
    exact hK' _ _ (hDone hl)
  · simp [execOp, hop, hit, hrun, Result.andThen]
    exact hK' _ _ (hMore s v w' h1 h2 h3 h4 h5 h6 h7)
end
end Go.Proofs.YtnmkhoebijodhaaGreatDoor
