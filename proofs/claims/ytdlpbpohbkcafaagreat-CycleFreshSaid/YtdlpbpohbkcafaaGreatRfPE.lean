/-
  quadrilleref21.ends, rings: what the walks in depth and back tell. No program's step here.
  quadrilleref21.graph: what its lists are on the way. No program's step here.
  quadrilleref21.Order, Leads: what their walks tell. No program's step here.
-/
import Derived.Test.YtdlpbpohbkcafaaGreatCycP
import Derived.Test.YtdlpbpohbkcafaaGreatCGraph2
import Derived.Test.YtdlpbpohbkcafaaGreatOrdQ
namespace Go.Proofs.YtdlpbpohbkcafaaGreat
section

/-- Of each number those that point to it. -/
structure FromOk (g F : Dg) : Prop where
  len : F.length = g.length
  nd : ∀ v, v < g.length → (nxs F v).Nodup
  mem : ∀ v, v < g.length → ∀ u, u ∈ nxs F v ↔ u < g.length ∧ v ∈ nxs g u
structure ES where
  seen : Nat → Bool
  out : List Nat
  way : List (Nat × Nat)
abbrev wN (way : List (Nat × Nat)) : List Nat := way.map (·.1)
/-- What has been ended ahead of each place on the way. -/
def TT (g : Dg) (out : List Nat) : List (Nat × Nat) → Prop
  | [] => True
  | p :: rest => (∃ t, t ≤ out.length ∧ (∀ x ∈ out.drop t, Rch g p.1 x) ∧ ∀ x ∈ out.take t, ∀ y ∈ nxs g x, y ∈ out.take t ∨ y ∈ wN rest) ∧ TT g out rest
/-- Each one's end, by those that ended ahead. -/
def Fin1 (g : Dg) (out : List Nat) : Prop := ∀ n (h : n < out.length), ∃ t, t ≤ n ∧ (∀ x ∈ (out.take n).drop t, Rch g out[n] x) ∧ ∀ x ∈ out.take t, ∀ y ∈ nxs g x, y ∈ out.take (n + 1) → y ∈ out.take t
structure EOk (g : Dg) (s : ES) : Prop where
  nd : (s.out ++ wN s.way).Nodup
  seen : ∀ v, s.seen v = true ↔ v ∈ s.out ++ wN s.way
  lt : ∀ v ∈ s.out ++ wN s.way, v < g.length
  kb : ∀ p ∈ s.way, p.2 ≤ (nxs g p.1).length
  sk : ∀ p ∈ s.way, ∀ x ∈ (nxs g p.1).take p.2, s.seen x = true
  so : ∀ u ∈ s.out, ∀ x ∈ nxs g u, s.seen x = true
  ch : s.way.Pairwise fun a b => Rch g b.1 a.1
  tt : TT g s.out s.way
  fin : Fin1 g s.out
def leftE (g : Dg) (s : ES) : Nat := leftW g s.way + ((List.range g.length).map fun v => if s.seen v = true then 0 else (nxs g v).length + 1).sum
theorem EOk.start (g : Dg) : EOk g ⟨fun _ => false, [], []⟩ :=
  ⟨by simp, by simp, by simp, by simp, by simp, by simp, by simp, trivial, fun n h => by simp at h⟩
theorem TT.pop {g : Dg} {out : List Nat} {v : Nat} : ∀ {W : List (Nat × Nat)}, TT g out W → (∀ q ∈ W, Rch g q.1 v) → TT g (out ++ [v]) W
  | [], _, _ => trivial
  | p :: rest, ⟨⟨t, h1, h2, h3⟩, h4⟩, hq => by
    refine ⟨⟨t, by simp; omega, fun x hx => ?_, ?_⟩, h4.pop fun q hm => hq q (by simp [hm])⟩
    · rw [List.drop_append_of_le_length h1] at hx
      rcases List.mem_append.1 hx with hx | hx
      · exact h2 x hx
      · rw [List.mem_singleton] at hx
        rw [hx]
        exact hq p (by simp)
    · rw [List.take_append_of_le_length h1]
      exact h3
theorem Fin1.snoc {g : Dg} {out : List Nat} {v t : Nat} {rest : List Nat} (h : Fin1 g out) (ht : t ≤ out.length) (h1 : ∀ x ∈ out.drop t, Rch g v x) (h2 : ∀ x ∈ out.take t, ∀ y ∈ nxs g x, y ∈ out.take t ∨ y ∈ rest) (hd : ∀ y ∈ rest, y ∉ out ++ [v]) : Fin1 g (out ++ [v]) := by
  intro n hn
  rcases Nat.lt_or_ge n out.length with hl | hl
  · obtain ⟨t', k1, k2, k3⟩ := h n hl
    refine ⟨t', k1, ?_, ?_⟩
    · rw [List.take_append_of_le_length (by omega), List.getElem_append_left hl]
      exact k2
    · rw [List.take_append_of_le_length (by omega), List.take_append_of_le_length (by omega)]
      exact k3
  · have e : n = out.length := by simp at hn; omega
    subst e
    refine ⟨t, ht, ?_, ?_⟩
    · rw [List.take_append_of_le_length (Nat.le_refl _), List.take_length]
      simpa using h1
    · rw [List.take_append_of_le_length ht, List.take_of_length_le (l := out ++ [v]) (by simp)]
      intro x hx y hy hm
      rcases h2 x hx y hy with h | h
      · exact h
      · exact absurd hm (hd y h)
/-- Begun at a place that has not been met. -/
theorem EOk.begin {g : Dg} {sn : Nat → Bool} {out : List Nat} (h : EOk g ⟨sn, out, []⟩) {i : Nat} (hi : i < g.length) (hs : sn i = false) : EOk g ⟨upd sn i true, out, [(i, 0)]⟩ := by
  have hno : i ∉ out := fun hm => by
    have : sn i = true := (h.seen i).2 (by simpa using hm)
    rw [hs] at this
    cases this
  have hup : ∀ v, (upd sn i true) v = true ↔ v ∈ out ++ wN [(i, 0)] := fun v => by
    have := h.seen v
    simp only [wN, List.map_nil, List.append_nil] at this
    unfold upd
    by_cases e : v = i
    · simp [e]
    · simp [e, this]
  have hmono : ∀ v, sn v = true → (upd sn i true) v = true := fun v hv => by
    unfold upd
    split
    · rfl
    · exact hv
  refine ⟨?_, hup, fun v hv => ?_, by simp, by simp, fun u hu x hx => hmono x (h.so u hu x hx), by simp, ⟨⟨out.length, Nat.le_refl _, by simp, fun x hx y hy => ?_⟩, trivial⟩, h.fin⟩
  · have := h.nd
    simp only [wN, List.map_nil, List.append_nil] at this
    rw [List.nodup_append]
    exact ⟨this, by simp, fun a ha b hb e => by simp at hb; subst hb; exact hno (e ▸ ha)⟩
  · rcases List.mem_append.1 hv with hv | hv
    · exact h.lt v (List.mem_append_left _ hv)
    · simp at hv
      omega
  · rw [List.take_length] at hx ⊢
    have := (h.seen y).1 (h.so x hx y hy)
    simpa using this
/-- One that all has been met of is ended. -/
theorem EOk.pop {g : Dg} {sn : Nat → Bool} {out : List Nat} {v : Nat} {rest : List (Nat × Nat)} (h : EOk g ⟨sn, out, (v, (nxs g v).length) :: rest⟩) : EOk g ⟨sn, out ++ [v], rest⟩ := by
  have hp : ∀ x, x ∈ (out ++ [v]) ++ wN rest ↔ x ∈ out ++ wN ((v, (nxs g v).length) :: rest) := fun x => by simp [wN]
  have hc := List.pairwise_cons.1 h.ch
  obtain ⟨⟨t, t1, t2, t3⟩, t4⟩ := h.tt
  have hnd := h.nd
  simp only [wN, List.map_cons] at hnd
  refine ⟨by simpa [wN] using hnd, fun x => by rw [h.seen x, hp x], fun x hx => h.lt x ((hp x).1 hx), fun p hp => h.kb p (by simp [hp]), fun p hp => h.sk p (by simp [hp]), fun u hu x hx => ?_, hc.2, TT.pop t4 hc.1, Fin1.snoc h.fin t1 t2 t3 fun y hy hm => ?_⟩
  · rcases List.mem_append.1 hu with hu | hu
    · exact h.so u hu x hx
    · simp at hu
      subst hu
      exact h.sk (u, (nxs g u).length) (by simp) x (by rw [List.take_length]; exact hx)
  · have := List.nodup_append.1 hnd
    rcases List.mem_append.1 hm with hm | hm
    · exact this.2.2 y hm y (by simp; right; simpa using hy) rfl
    · simp at hm
      subst hm
      exact (List.nodup_cons.1 this.2.1).1 hy
/-- One that has been met: the next one. -/
theorem EOk.next {g : Dg} {sn : Nat → Bool} {out : List Nat} {v k : Nat} {rest : List (Nat × Nat)} (h : EOk g ⟨sn, out, (v, k) :: rest⟩) (hk : k < (nxs g v).length) (hs : sn (nxs g v)[k] = true) : EOk g ⟨sn, out, (v, k + 1) :: rest⟩ := by
  refine ⟨h.nd, h.seen, h.lt, fun p hp => ?_, fun p hp => ?_, h.so, ?_, h.tt, h.fin⟩
  · rcases List.mem_cons.1 hp with rfl | hp
    · exact hk
    · exact h.kb p (by simp [hp])
  · rcases List.mem_cons.1 hp with rfl | hp
    · intro x hx
      rw [List.take_succ_eq_append_getElem hk] at hx
      rcases List.mem_append.1 hx with hx | hx
      · exact h.sk (v, k) (by simp) x hx
      · simp at hx
        rw [hx]
        exact hs
    · exact h.sk p (by simp [hp])
  · have := List.pairwise_cons.1 h.ch
    exact List.pairwise_cons.2 this
/-- One that has not been met: onto the way. -/
theorem EOk.push {g : Dg} (hg : OkG g) {sn : Nat → Bool} {out : List Nat} {v k j : Nat} {rest : List (Nat × Nat)} (h : EOk g ⟨sn, out, (v, k) :: rest⟩) (hk : k < (nxs g v).length) (hj : (nxs g v)[k] = j) (hs : sn j = false) : EOk g ⟨upd sn j true, out, (j, 0) :: (v, k + 1) :: rest⟩ := by
  have hjn : j ∈ nxs g v := hj ▸ List.getElem_mem hk
  have hno : j ∉ out ++ wN ((v, k) :: rest) := fun hm => by
    have : sn j = true := (h.seen j).2 hm
    rw [hs] at this
    cases this
  have hup : ∀ x, (upd sn j true) x = true ↔ x ∈ out ++ wN ((j, 0) :: (v, k + 1) :: rest) := fun x => by
    have := h.seen x
    simp only [wN, List.map_cons, List.mem_append, List.mem_cons] at this ⊢
    unfold upd
    by_cases e : x = j
    · simp [e]
    · simp only [e, if_false, this, false_or]
  have hmono : ∀ x, sn x = true → (upd sn j true) x = true := fun x hx => by
    unfold upd
    split
    · rfl
    · exact hx
  refine ⟨?_, hup, fun x hx => ?_, fun p hp => ?_, fun p hp => ?_, fun u hu x hx => hmono x (h.so u hu x hx), ?_, ⟨⟨out.length, Nat.le_refl _, by simp, fun x hx y hy => ?_⟩, h.tt⟩, h.fin⟩
  · have h1 := List.nodup_append.1 h.nd
    simp only [wN, List.map_cons, List.mem_append, List.mem_cons, not_or] at hno h1 ⊢
    rw [List.nodup_append]
    refine ⟨h1.1, List.nodup_cons.2 ⟨by simp only [List.mem_cons, not_or]; exact hno.2, h1.2.1⟩, fun a ha b hb e => ?_⟩
    rcases List.mem_cons.1 hb with hb | hb
    · rw [e, hb] at ha
      exact hno.1 ha
    · exact h1.2.2 a ha b (List.mem_cons.1 hb) e
  · simp only [wN, List.map_cons, List.mem_append, List.mem_cons] at hx
    have hl : ∀ x, x ∈ out ∨ x = v ∨ x ∈ rest.map (·.1) → x < g.length := fun x hx => h.lt x (by simpa [wN] using hx)
    rcases hx with hx | hx | hx
    · exact hl x (.inl hx)
    · rw [hx]
      exact hg.nx hjn
    · exact hl x (.inr hx)
  · rcases List.mem_cons.1 hp with rfl | hp
    · exact Nat.zero_le _
    · rcases List.mem_cons.1 hp with rfl | hp
      · exact hk
      · exact h.kb p (by simp [hp])
  · rcases List.mem_cons.1 hp with rfl | hp
    · simp
    · rcases List.mem_cons.1 hp with rfl | hp
      · intro x hx
        rw [List.take_succ_eq_append_getElem hk, hj] at hx
        rcases List.mem_append.1 hx with hx | hx
        · exact hmono x (h.sk (v, k) (by simp) x hx)
        · simp at hx
          rw [hx]
          exact upd_same _ _ _
      · exact fun x hx => hmono x (h.sk p (by simp [hp]) x hx)
  · have hc := List.pairwise_cons.1 h.ch
    refine List.pairwise_cons.2 ⟨fun q hq => ?_, List.pairwise_cons.2 hc⟩
    rcases List.mem_cons.1 hq with rfl | hq
    · exact Rch.one hjn
    · exact (hc.1 q hq).trans (Rch.one hjn)
  · rw [List.take_length] at hx ⊢
    have := (h.seen y).1 (h.so x hx y hy)
    simpa [wN] using this
theorem leftE_pop (g : Dg) (sn : Nat → Bool) (out out' : List Nat) (v : Nat) (rest : List (Nat × Nat)) : leftE g ⟨sn, out', rest⟩ + 1 = leftE g ⟨sn, out, (v, (nxs g v).length) :: rest⟩ := by
  simp only [leftE, leftW, List.map_cons, List.sum_cons, Nat.sub_self]
  omega
theorem leftE_next (g : Dg) (sn : Nat → Bool) (out : List Nat) {v k : Nat} (hk : k < (nxs g v).length) (rest : List (Nat × Nat)) : leftE g ⟨sn, out, (v, k + 1) :: rest⟩ + 1 = leftE g ⟨sn, out, (v, k) :: rest⟩ := by
  simp only [leftE, leftW, List.map_cons, List.sum_cons]
  omega
theorem leftE_push (g : Dg) (sn : Nat → Bool) (out : List Nat) {v k j : Nat} (hk : k < (nxs g v).length) (hj : j < g.length) (hs : sn j = false) (rest : List (Nat × Nat)) : leftE g ⟨upd sn j true, out, (j, 0) :: (v, k + 1) :: rest⟩ + 1 ≤ leftE g ⟨sn, out, (v, k) :: rest⟩ := by
  have h := sum_lt (n := g.length) (f := fun v => if sn v = true then 0 else (nxs g v).length + 1) (f' := fun v => if upd sn j true v = true then 0 else (nxs g v).length + 1) (fun x _ => by
    unfold upd
    by_cases e : x = j
    · simp [e]
    · simp [e]) (u := j) (d := (nxs g j).length + 1) hj (by simp [upd, hs])
  simp only [leftE, leftW, List.map_cons, List.sum_cons]
  omega
/-- All are ended. -/
structure EndsOk (g : Dg) (out : List Nat) : Prop where
  nd : out.Nodup
  mem : ∀ v, v ∈ out ↔ v < g.length
  fin : Fin1 g out
theorem EOk.ends {g : Dg} {sn : Nat → Bool} {out : List Nat} (h : EOk g ⟨sn, out, []⟩) (hall : ∀ v, v < g.length → sn v = true) : EndsOk g out := by
  have hnd := h.nd
  simp only [wN, List.map_nil, List.append_nil] at hnd
  refine ⟨hnd, fun v => ⟨fun hv => h.lt v (by simpa using hv), fun hv => ?_⟩, h.fin⟩
  simpa using (h.seen v).1 (hall v hv)
theorem EOk.way_le {g : Dg} {sn : Nat → Bool} {out : List Nat} {way : List (Nat × Nat)} (h : EOk g ⟨sn, out, way⟩) : out.length + way.length ≤ g.length := by
  have := nodup_lt h.nd h.lt
  simpa [wN] using this

/-- From the last end back: those that come to it and have not been told. -/
structure BOk (g F : Dg) (out : List Nat) (t0 : Nat → Bool) (n : Nat) (t : Nat) (x : Nat) (told : Nat → Bool) (r : List Nat) (i : Nat) : Prop where
  hd : 0 < r.length
  x0 : r.getD 0 0 = x
  nd : r.Nodup
  tl : ∀ v, told v = true ↔ t0 v = true ∨ v ∈ r
  dj : ∀ v ∈ r, t0 v = false
  lt : ∀ v ∈ r, v < g.length
  rc : ∀ v ∈ r, Rch g v x
  tk : ∀ v ∈ r, v ∉ out.take t
  cl : ∀ j (h : j < r.length), j < i → ∀ u ∈ nxs F r[j], told u = true
/-- All from place n of the ends on are told. -/
structure KOk (g : Dg) (out : List Nat) (told : Nat → Bool) (ls : List (List Nat)) (n : Nat) : Prop where
  tc : ∀ v w, told v = true → Rch g v w → Rch g w v → told w = true
  tp : ∀ i (h : i < out.length), n ≤ i → told out[i] = true
  rg : RingsOk g ls fun v => told v = true
  lt : ∀ v, told v = true → v < g.length
theorem KOk.start (g : Dg) (out : List Nat) : KOk g out (fun _ => false) [] out.length :=
  ⟨fun _ _ h => by simp at h, fun i h h2 => by omega, ⟨by simp, fun v h => by simp at h, List.Pairwise.nil⟩, fun _ h => by simp at h⟩
theorem KOk.skip {g : Dg} {out : List Nat} {told : Nat → Bool} {ls : List (List Nat)} {n : Nat} (h : KOk g out told ls (n + 1)) (hn : n < out.length) (ht : told out[n] = true) : KOk g out told ls n :=
  ⟨h.tc, fun i hi hni => by
    rcases Nat.lt_or_eq_of_le hni with hlt | rfl
    · exact h.tp i hi hlt
    · exact ht, h.rg, h.lt⟩
theorem BOk.begin {g F : Dg} {out : List Nat} (he : EndsOk g out) {t0 : Nat → Bool} {n : Nat} (hn : n < out.length) (ht : t0 out[n] = false) : ∃ t, t ≤ n ∧ (∀ x ∈ (out.take n).drop t, Rch g out[n] x) ∧ (∀ x ∈ out.take t, ∀ y ∈ nxs g x, y ∈ out.take (n + 1) → y ∈ out.take t) ∧ BOk g F out t0 n t out[n] (upd t0 out[n] true) [out[n]] 0 := by
  obtain ⟨t, h1, h2, h3⟩ := he.fin n hn
  refine ⟨t, h1, h2, h3, by simp, by simp, by simp, fun v => ?_, by simpa using ht, ?_, ?_, ?_, fun j h hj => by omega⟩
  · unfold upd
    by_cases e : v = out[n] <;> simp [e]
  · simpa using (he.mem out[n]).1 (List.getElem_mem hn)
  · simpa using Rch.refl _
  · intro v hv hm
    simp at hv
    obtain ⟨j, hj, e⟩ := List.mem_take_iff_getElem.1 hm
    rw [hv] at e
    have := (List.getElem_inj he.nd).1 e
    omega
theorem BOk.known {g F : Dg} {out : List Nat} {t0 : Nat → Bool} {n t x : Nat} {told : Nat → Bool} {r : List Nat} {i : Nat} (h : BOk g F out t0 n t x told r i) (hi : i < r.length) (ha : ∀ u ∈ nxs F r[i], told u = true) : BOk g F out t0 n t x told r (i + 1) :=
  ⟨h.hd, h.x0, h.nd, h.tl, h.dj, h.lt, h.rc, h.tk, fun j hj hji u hu => by
    rcases Nat.lt_or_eq_of_le (Nat.le_of_lt_succ hji) with hlt | rfl
    · exact h.cl j hj hlt u hu
    · exact ha u hu⟩
theorem BOk.add {g F : Dg} (hF : FromOk g F) {out : List Nat} (he : EndsOk g out) {t0 : Nat → Bool} {n t x : Nat} {ls : List (List Nat)} (hK : KOk g out t0 ls (n + 1)) (ht : ∀ x ∈ out.take t, ∀ y ∈ nxs g x, y ∈ out.take (n + 1) → y ∈ out.take t)
    {told : Nat → Bool} {r : List Nat} {i u : Nat} (h : BOk g F out t0 n t x told r i) (hi : i < r.length) (hu : u ∈ nxs F r[i]) (hs : told u = false) : BOk g F out t0 n t x (upd told u true) (r ++ [u]) i := by
  have hri := List.getElem_mem hi
  have hrl := h.lt _ hri
  obtain ⟨hul, hnx⟩ := (hF.mem _ hrl u).1 hu
  have hno : ¬ (t0 u = true ∨ u ∈ r) := fun hc => by
    have := (h.tl u).2 hc
    rw [hs] at this
    cases this
  have hu0 : t0 u = false := by
    cases e : t0 u with
    | false => rfl
    | true => exact absurd (.inl e) hno
  have hur : u ∉ r := fun hm => hno (.inr hm)
  have early : ∀ v, v < g.length → t0 v = false → v ∈ out.take (n + 1) := fun v hv h0 => by
    obtain ⟨j, hj, rfl⟩ := List.getElem_of_mem ((he.mem v).2 hv)
    rw [List.mem_take_iff_getElem]
    rcases Nat.lt_or_ge j (n + 1) with hlt | hge
    · exact ⟨j, by omega, rfl⟩
    · rw [hK.tp j hj hge] at h0
      cases h0
  have hmono : ∀ y, told y = true → (upd told u true) y = true := fun y hy => by
    unfold upd
    split
    · rfl
    · exact hy
  refine ⟨by simp, ?_, ?_, fun v => ?_, fun v hv => ?_, fun v hv => ?_, fun v hv => ?_, fun v hv => ?_, fun j hj hji y hy => ?_⟩
  · have := h.x0
    rw [List.getD_eq_getElem?_getD] at this ⊢
    rw [List.getElem?_append_left h.hd]
    exact this
  · rw [List.nodup_append]
    exact ⟨h.nd, by simp, fun a ha b hb e => by simp at hb; subst hb; exact hur (e ▸ ha)⟩
  · unfold upd
    by_cases e : v = u
    · simp [e]
    · simp [e, h.tl v]
  · rcases List.mem_append.1 hv with hv | hv
    · exact h.dj v hv
    · simp at hv
      rw [hv]
      exact hu0
  · rcases List.mem_append.1 hv with hv | hv
    · exact h.lt v hv
    · simp at hv
      rw [hv]
      exact hul
  · rcases List.mem_append.1 hv with hv | hv
    · exact h.rc v hv
    · simp at hv
      rw [hv]
      exact (Rch.one hnx).trans (h.rc _ hri)
  · rcases List.mem_append.1 hv with hv | hv
    · exact h.tk v hv
    · simp at hv
      rw [hv]
      intro hm
      exact h.tk _ hri (ht u hm _ hnx (early _ hrl (h.dj _ hri)))
  · have hji2 : j < r.length := by omega
    rw [List.getElem_append_left hji2] at hy
    exact hmono y (h.cl j hji2 hji y hy)
/-- Who is with it. -/
theorem BOk.comp {g F : Dg} (hF : FromOk g F) (hg : OkG g) {out : List Nat} (he : EndsOk g out) {t0 : Nat → Bool} {n t : Nat} (hn : n < out.length) {ls : List (List Nat)} (hK : KOk g out t0 ls (n + 1)) (h2 : ∀ x ∈ (out.take n).drop t, Rch g out[n] x)
    {told : Nat → Bool} {r : List Nat} (h : BOk g F out t0 n t out[n] told r r.length) (b : Nat) : b ∈ r ↔ Rch g out[n] b ∧ Rch g b out[n] := by
  have early : ∀ v, v < g.length → t0 v = false → v ∈ out.take (n + 1) := fun v hv h0 => by
    obtain ⟨j, hj, rfl⟩ := List.getElem_of_mem ((he.mem v).2 hv)
    rw [List.mem_take_iff_getElem]
    rcases Nat.lt_or_ge j (n + 1) with hlt | hge
    · exact ⟨j, by omega, rfl⟩
    · rw [hK.tp j hj hge] at h0
      cases h0
  have hx0 : out[n] ∈ r := by
    have := h.x0
    rw [List.getD_eq_getElem?_getD, List.getElem?_eq_getElem h.hd] at this
    rw [← show r[0]'h.hd = out[n] from this]
    exact List.getElem_mem _
  constructor
  · intro hb
    refine ⟨?_, h.rc b hb⟩
    have h1 := early b (h.lt b hb) (h.dj b hb)
    rw [List.take_succ_eq_append_getElem hn] at h1
    rcases List.mem_append.1 h1 with h1 | h1
    · rcases Nat.lt_or_ge t n with _ | _
      all_goals
        rw [← List.take_append_drop t (out.take n)] at h1
        rcases List.mem_append.1 h1 with h1 | h1
        · refine absurd ?_ (h.tk b hb)
          rw [List.take_take] at h1
          exact List.mem_of_mem_take (i := n) (by rw [List.take_take, Nat.min_comm]; exact h1)
        · exact h2 b h1
    · simp at h1
      rw [h1]
      exact Rch.refl _
  · rintro ⟨h3, h4⟩
    have key : ∀ z, Rch g b z → z ∈ r → b ∈ r := fun z hz => by
      induction hz with
      | refl => exact fun h => h
      | @step w u hw hu ih =>
        intro hm
        refine ih ?_
        have hwl : w < g.length := hg.rch hw (hg.rch h3 ((he.mem _).1 (List.getElem_mem hn)))
        obtain ⟨j, hj, rfl⟩ := List.getElem_of_mem hm
        have := h.cl j hj hj w ((hF.mem _ (h.lt _ hm) w).2 ⟨hwl, hu⟩)
        rcases (h.tl w).1 this with h5 | h5
        · have h6 := hK.tc w out[n] h5 ((Rch.one hu).trans (h.rc _ hm)) (h3.trans hw)
          rw [h.dj _ hx0] at h6
          cases h6
        · exact h5
    exact key _ h4 hx0
/-- A ring is told. -/
theorem KOk.ring {g F : Dg} (hF : FromOk g F) (hg : OkG g) {out : List Nat} (he : EndsOk g out) {t0 : Nat → Bool} {n t : Nat} (hn : n < out.length) {ls : List (List Nat)} (hK : KOk g out t0 ls (n + 1)) (h2 : ∀ x ∈ (out.take n).drop t, Rch g out[n] x)
    {told : Nat → Bool} {r : List Nat} (h : BOk g F out t0 n t out[n] told r r.length) (hr : 1 < r.length ∨ out[n] ∈ nxs g out[n]) : KOk g out told (ls ++ [sortN r]) n := by
  have hC := h.comp hF hg he hn hK h2
  have hx0 : out[n] ∈ r := (hC _).2 ⟨Rch.refl _, Rch.refl _⟩
  have hself : ∀ a ∈ r, Rch1 g a a := fun a ha => by
    rcases hr with hr | hr
    · obtain ⟨c, hc, hne⟩ : ∃ c ∈ r, a ≠ c := by
        by_cases e : a = r[0]'h.hd
        · refine ⟨r[1], List.getElem_mem hr, fun e2 => ?_⟩
          rw [e] at e2
          have := (List.getElem_inj h.nd).1 e2
          omega
        · exact ⟨_, List.getElem_mem h.hd, e⟩
      have h5 : Rch g a c := ((hC a).1 ha).2.trans ((hC c).1 hc).1
      rcases h5.one_of with h6 | h6
      · exact absurd h6 hne
      · exact h6.trans_r (((hC c).1 hc).2.trans ((hC a).1 ha).1)
    · exact Rch1.trans_l ((hC a).1 ha).2 (Rch1.trans_r ⟨out[n], hr, Rch.refl _⟩ ((hC a).1 ha).1)
  refine ⟨fun v w hv h3 h4 => ?_, fun i hi hni => ?_, ⟨fun q hq => ?_, fun v hv hvv => ?_, ?_⟩, fun v hv => ?_⟩
  · rw [h.tl] at hv ⊢
    rcases hv with hv | hv
    · exact .inl (hK.tc v w hv h3 h4)
    · exact .inr ((hC w).2 ⟨((hC v).1 hv).1.trans h3, h4.trans ((hC v).1 hv).2⟩)
  · rw [h.tl]
    rcases Nat.lt_or_eq_of_le hni with hlt | rfl
    · exact .inl (hK.tp i hi hlt)
    · exact .inr hx0
  · rcases List.mem_append.1 hq with hq | hq
    · obtain ⟨p, h3, h4, h5, h6, h7⟩ := hK.rg.el q hq
      exact ⟨p, h3, h4, h5, fun a ha => (h.tl a).2 (.inl (h6 a ha)), h7⟩
    · simp at hq
      refine ⟨r, hq, h.nd, fun e => by rw [e] at hx0; simp at hx0, fun a ha => (h.tl a).2 (.inr ha), fun a ha b => ?_⟩
      obtain ⟨a1, a2⟩ := (hC a).1 ha
      rw [hC]
      constructor
      · rintro ⟨b1, b2⟩
        exact ⟨(hself a ha).trans_r (a2.trans b1), Rch1.trans_l (b2.trans a1) (hself a ha)⟩
      · rintro ⟨b1, b2⟩
        exact ⟨a1.trans b1.rch, b2.rch.trans a2⟩
  · rcases (h.tl v).1 hv with hv | hv
    · obtain ⟨q, h3, h4⟩ := hK.rg.all v hv hvv
      exact ⟨q, List.mem_append_left _ h3, h4⟩
    · exact ⟨sortN r, by simp, mem_sortN.2 hv⟩
  · rw [List.pairwise_append]
    refine ⟨hK.rg.apart, by simp, fun q hq p hp a ha hb => ?_⟩
    simp at hp
    rw [hp, mem_sortN] at hb
    obtain ⟨p', h3, h4, h5, h6, h7⟩ := hK.rg.el q hq
    rw [h3, mem_sortN] at ha
    have := h6 a ha
    rw [h.dj a hb] at this
    cases this
  · rcases (h.tl v).1 hv with hv | hv
    · exact hK.lt v hv
    · exact h.lt v hv
/-- Alone, and not pointing to itself: none. -/
theorem KOk.lone {g F : Dg} (hF : FromOk g F) (hg : OkG g) {out : List Nat} (he : EndsOk g out) {t0 : Nat → Bool} {n t : Nat} (hn : n < out.length) {ls : List (List Nat)} (hK : KOk g out t0 ls (n + 1)) (h2 : ∀ x ∈ (out.take n).drop t, Rch g out[n] x)
    {told : Nat → Bool} {r : List Nat} (h : BOk g F out t0 n t out[n] told r r.length) (hr : ¬ 1 < r.length) (hs : out[n] ∉ nxs g out[n]) : KOk g out told ls n := by
  have hC := h.comp hF hg he hn hK h2
  have hx0 : out[n] ∈ r := (hC _).2 ⟨Rch.refl _, Rch.refl _⟩
  have hone : ∀ v ∈ r, v = out[n] := fun v hv => by
    obtain ⟨i, hi, rfl⟩ := List.getElem_of_mem hv
    obtain ⟨j, hj, e⟩ := List.getElem_of_mem hx0
    rw [← e]
    congr 1
    omega
  refine ⟨fun v w hv h3 h4 => ?_, fun i hi hni => ?_, ⟨fun q hq => ?_, fun v hv hvv => ?_, hK.rg.apart⟩, fun v hv => ?_⟩
  · rw [h.tl] at hv ⊢
    rcases hv with hv | hv
    · exact .inl (hK.tc v w hv h3 h4)
    · exact .inr ((hC w).2 ⟨((hC v).1 hv).1.trans h3, h4.trans ((hC v).1 hv).2⟩)
  · rw [h.tl]
    rcases Nat.lt_or_eq_of_le hni with hlt | rfl
    · exact .inl (hK.tp i hi hlt)
    · exact .inr hx0
  · obtain ⟨p, h3, h4, h5, h6, h7⟩ := hK.rg.el q hq
    exact ⟨p, h3, h4, h5, fun a ha => (h.tl a).2 (.inl (h6 a ha)), h7⟩
  · rcases (h.tl v).1 hv with hv | hv
    · exact hK.rg.all v hv hvv
    · rw [hone v hv] at hvv
      obtain ⟨c, h3, h4⟩ := hvv
      have := hone c ((hC c).2 ⟨Rch.one h3, h4⟩)
      rw [this] at h3
      exact absurd h3 hs
  · rcases (h.tl v).1 hv with hv | hv
    · exact hK.lt v hv
    · exact h.lt v hv
/-- At the end all are told. -/
theorem KOk.all {g : Dg} {out : List Nat} (he : EndsOk g out) {told : Nat → Bool} {ls : List (List Nat)} (h : KOk g out told ls 0) : RingsOk g ls fun v => v < g.length :=
  h.rg.mono fun v => ⟨fun hv => h.lt v hv, fun hv => by
    obtain ⟨i, hi, rfl⟩ := List.getElem_of_mem ((he.mem v).2 hv)
    exact h.tp i hi (Nat.zero_le _)⟩
/-- Rings that are told, in whatever order: the same ones. -/
theorem RingsOk.sub {g : Dg} {A B : List (List Nat)} {D : Nat → Prop} (hA : RingsOk g A D) (hB : RingsOk g B D) {r : List Nat} (hr : r ∈ A) : r ∈ B := by
  obtain ⟨p, rfl, p1, p2, p3, p4⟩ := hA.el r hr
  obtain ⟨a, ha⟩ := List.exists_mem_of_ne_nil p p2
  have haa := ((p4 a ha a).1 ha).1
  obtain ⟨q, hq, haq⟩ := hB.all a (p3 a ha) haa
  obtain ⟨p', rfl, q1, q2, q3, q4⟩ := hB.el q hq
  have haq' := mem_sortN.1 haq
  have hp : p.Perm p' := (List.perm_ext_iff_of_nodup p1 q1).2 fun b => by rw [p4 a ha, q4 a haq']
  have e : sortN p = sortN p' := List.Perm.eq_of_pairwise (le := (· ≤ ·)) (fun a b _ _ h1 h2 => by omega) (sortN_le p) (sortN_le p') ((sortN_perm p).trans (hp.trans (sortN_perm p').symm))
  rw [e]
  exact hq
end
section
open Go.RowKit Go.Shelf Go.Sort Go.Proofs

/-- Of the first p numbers those that are not like the one ahead. -/
def dd (m : List Nat) (p : Nat) : List Nat := ((List.range p).filter fun j => decide (j = 0 ∨ m[j]! ≠ m[j - 1]!)).map (m[·]!)
theorem dd_all (m : List Nat) : dd m m.length = cmpct m := (cmpct_eq m).symm
theorem dd_zero (m : List Nat) : dd m 0 = [] := rfl
theorem dd_yes {m : List Nat} {p : Nat} (hp : p < m.length) (h : p = 0 ∨ m[p] ≠ m[p - 1]!) : dd m (p + 1) = dd m p ++ [m[p]] := by
  unfold dd
  have e : m[p]! = m[p] := by simp [hp]
  rw [List.range_succ, List.filter_append, List.map_append, List.filter_cons_of_pos (by rw [e]; simpa using h), List.filter_nil, List.map_cons, List.map_nil, e]
theorem dd_no {m : List Nat} {p : Nat} (hp : p < m.length) (h : ¬ (p = 0 ∨ m[p] ≠ m[p - 1]!)) : dd m (p + 1) = dd m p := by
  unfold dd
  have e : m[p]! = m[p] := by simp [hp]
  rw [List.range_succ, List.filter_append, List.map_append, List.filter_cons_of_neg (by rw [e]; simpa using h), List.filter_nil, List.map_nil, List.append_nil]
theorem dd_len (m : List Nat) (p : Nat) : (dd m p).length ≤ p := by
  unfold dd
  rw [List.length_map]
  exact Nat.le_trans (List.length_filter_le _ _) (by simp)
/-- In a sorted row one that is like none ahead. -/
theorem new_of {m : List Nat} (hs : m.Pairwise (· ≤ ·)) {p : Nat} (hp : p < m.length) : (p = 0 ∨ m[p] ≠ m[p - 1]!) ↔ m[p] ∉ m.take p := by
  constructor
  · intro h hm
    obtain ⟨j, hj, e⟩ := List.mem_take_iff_getElem.1 hm
    rcases h with h | h
    · omega
    · have e1 : m[p - 1]! = m[p - 1]'(by omega) := by simp [show p - 1 < m.length by omega]
      rw [e1] at h
      have h1 : m[p - 1]'(by omega) ≤ m[p] := List.pairwise_iff_getElem.1 hs _ _ _ _ (by omega)
      have h2 : m[j]'(by omega) ≤ m[p - 1]'(by omega) := by
        by_cases e2 : j = p - 1
        · subst e2; exact Nat.le_refl _
        · exact List.pairwise_iff_getElem.1 hs _ _ _ _ (by omega)
      omega
  · intro h
    by_cases h0 : p = 0
    · exact .inl h0
    · refine .inr fun e => h ?_
      have e1 : m[p - 1]! = m[p - 1]'(by omega) := by simp [show p - 1 < m.length by omega]
      rw [e, e1]
      exact List.mem_take_iff_getElem.2 ⟨p - 1, by omega, rfl⟩
def fromK (ns : List Nd) (k v : Nat) : List Nat := ((ns.take k).map fun n => (gSp ns).idxOf n.at_).filter fun a => decide (v ∈ nxs (gNx ns) a)
theorem fromK_len (ns : List Nd) (k v : Nat) : (fromK ns k v).length ≤ k := by
  unfold fromK
  refine Nat.le_trans (List.length_filter_le _ _) ?_
  rw [List.length_map, List.length_take]
  omega
theorem doneAt_len (ns : List Nd) (k j : Nat) : (doneAt ns k j).length ≤ ns.length := by
  unfold doneAt
  split
  · unfold numsOf
    refine Nat.le_trans (List.length_filter_le _ _) ?_
    rw [List.length_range, gSp_len]
    exact Nat.le_refl _
  · simp
/-- Both tables, one behind the other, when the first k nodes are done. -/
def tabK (ns : List Nd) (k j : Nat) : List Nat := if j < ns.length then doneAt ns k j else fromK ns k (j - ns.length)
/-- The same, when p of the next one's numbers are done. -/
def tabP (ns : List Nd) (k a : Nat) (m : List Nat) (p j : Nat) : List Nat := if j < ns.length then (if j = a then dd m p else doneAt ns k j) else fromK ns k (j - ns.length) ++ (if j - ns.length ∈ m.take p then [a] else [])
theorem tabK_zero (ns : List Nd) (j : Nat) : tabK ns 0 j = [] := by
  unfold tabK doneAt fromK
  simp [atsN]
theorem tabP_len {ns : List Nd} {k a : Nat} {m : List Nat} {p j : Nat} (hk : k ≤ ns.length) : (tabP ns k a m p j).length ≤ ns.length + p + 1 := by
  unfold tabP
  split
  · split
    · have := dd_len m p; omega
    · have := doneAt_len ns k j; omega
  · rw [List.length_append]
    have := fromK_len ns k (j - ns.length)
    split <;> simp <;> omega
theorem nd_idx {ns : List Nd} (h : (atsN ns).Nodup) {n n' : Nd} (hn : n ∈ ns) (hn' : n' ∈ ns) (e : (gSp ns).idxOf n.at_ = (gSp ns).idxOf n'.at_) : n.at_ = n'.at_ := by
  have _ := h
  have h1 : n.at_ ∈ gSp ns := (gSp_mem ns _).2 (List.mem_map.2 ⟨n, hn, rfl⟩)
  have h2 : n'.at_ ∈ gSp ns := (gSp_mem ns _).2 (List.mem_map.2 ⟨n', hn', rfl⟩)
  have h3 := List.getElem_idxOf (List.idxOf_lt_length_of_mem h1)
  have h4 := List.getElem_idxOf (List.idxOf_lt_length_of_mem h2)
  rw [← h3, ← h4]
  congr 1
theorem at_take {ns : List Nd} (h : (atsN ns).Nodup) {k : Nat} (hk : k < ns.length) : ns[k].at_ ∉ atsN (ns.take k) := by
  intro hm
  obtain ⟨n, hn, e⟩ := List.mem_map.1 hm
  obtain ⟨j, hj, rfl⟩ := List.mem_take_iff_getElem.1 hn
  have h1 := List.pairwise_iff_getElem.1 (List.nodup_iff_pairwise_ne.1 h) j k (by simp [atsN]; omega) (by simp [atsN]; exact hk) (by omega)
  simp only [atsN, List.getElem_map] at h1
  exact h1 e
theorem tabP_zero {ns : List Nd} (h : (atsN ns).Nodup) {k : Nat} (hk : k < ns.length) (m : List Nat) (j : Nat) : tabP ns k ((gSp ns).idxOf ns[k].at_) m 0 j = tabK ns k j := by
  unfold tabP tabK
  split
  · split
    · rename_i e
      rw [dd_zero, e]
      have hm : ns[k].at_ ∈ gSp ns := (gSp_mem ns _).2 (List.mem_map.2 ⟨_, List.getElem_mem hk, rfl⟩)
      have h1 : (gSp ns).getD ((gSp ns).idxOf ns[k].at_) (0, 0) = ns[k].at_ := by
        rw [List.getD_eq_getElem?_getD, List.getElem?_eq_getElem (List.idxOf_lt_length_of_mem hm)]
        exact List.getElem_idxOf _
      unfold doneAt
      rw [h1, if_neg (at_take h hk)]
    · rfl
  · simp
theorem tabP_yes {ns : List Nd} {k a : Nat} (ha : a < ns.length) {m : List Nat} (hs : m.Pairwise (· ≤ ·)) {p : Nat} (hp : p < m.length) (h : p = 0 ∨ m[p] ≠ m[p - 1]!) (j : Nat) :
    tabP ns k a m (p + 1) j = upd (upd (tabP ns k a m p) a (dd m p ++ [m[p]])) (ns.length + m[p]) (fromK ns k m[p] ++ [a]) j := by
  have hnew := (new_of hs hp).1 h
  unfold upd tabP
  by_cases hj : j < ns.length
  · rw [if_pos hj, if_neg (show ¬ j = ns.length + m[p] by omega), if_pos hj, dd_yes hp h]
    split <;> rfl
  · have e3 : ∀ x, x ∈ m.take (p + 1) ↔ x ∈ m.take p ∨ x = m[p] := fun x => by rw [List.take_succ_eq_append_getElem hp, List.mem_append, List.mem_singleton]
    rw [if_neg hj, if_neg (show ¬ j = a by omega), if_neg hj]
    by_cases e : j = ns.length + m[p]
    · rw [if_pos e, e, Nat.add_sub_cancel_left, if_pos ((e3 _).2 (.inr rfl))]
    · rw [if_neg e]
      have e2 : ¬ j - ns.length = m[p] := by omega
      by_cases e4 : j - ns.length ∈ m.take p
      · rw [if_pos e4, if_pos ((e3 _).2 (.inl e4))]
      · rw [if_neg e4, if_neg (fun h => ((e3 _).1 h).elim e4 e2)]
theorem tabP_at {ns : List Nd} {k a : Nat} (ha : a < ns.length) {m : List Nat} {p : Nat} : tabP ns k a m p a = dd m p := by
  unfold tabP
  rw [if_pos ha, if_pos rfl]
theorem tabP_from {ns : List Nd} {k a : Nat} {m : List Nat} (hs : m.Pairwise (· ≤ ·)) {p : Nat} (hp : p < m.length) (h : p = 0 ∨ m[p] ≠ m[p - 1]!) : tabP ns k a m p (ns.length + m[p]) = fromK ns k m[p] := by
  unfold tabP
  rw [if_neg (by omega), Nat.add_sub_cancel_left, if_neg ((new_of hs hp).1 h), List.append_nil]
theorem tabP_no {ns : List Nd} {k a : Nat} {m : List Nat} (hs : m.Pairwise (· ≤ ·)) {p : Nat} (hp : p < m.length) (h : ¬ (p = 0 ∨ m[p] ≠ m[p - 1]!)) (j : Nat) : tabP ns k a m (p + 1) j = tabP ns k a m p j := by
  have hold : m[p] ∈ m.take p := Classical.not_not.1 fun hn => h ((new_of hs hp).2 hn)
  unfold tabP
  rw [dd_no hp h, List.take_succ_eq_append_getElem hp]
  have e : (j - ns.length ∈ m.take p ++ [m[p]]) ↔ j - ns.length ∈ m.take p := by
    rw [List.mem_append, List.mem_singleton]
    exact ⟨fun h => h.elim id (fun e => e ▸ hold), .inl⟩
  simp only [e]
theorem tabP_end {ns : List Nd} (h : (atsN ns).Nodup) {k : Nat} (hk : k < ns.length) (j : Nat) :
    tabP ns k ((gSp ns).idxOf ns[k].at_) (sortN (hits (gSp ns) ns[k].next)) (sortN (hits (gSp ns) ns[k].next)).length j = tabK ns (k + 1) j := by
  have hC := hits_nums (next := ns[k].next) ((gSp_nodup ns).2 h)
  unfold tabP tabK
  by_cases hj1 : j < ns.length
  · rw [if_pos hj1, if_pos hj1, dd_all, hC, doneAt_succ h hk hj1]
  · rw [if_neg hj1, if_neg hj1, List.take_length]
    obtain ⟨h1, h2⟩ := sig_ex h hk
    have hN := gNx_at h hk h1 h2
    have ht : fromK ns (k + 1) (j - ns.length) = fromK ns k (j - ns.length) ++ if j - ns.length ∈ nxs (gNx ns) ((gSp ns).idxOf ns[k].at_) then [(gSp ns).idxOf ns[k].at_] else [] := by
      unfold fromK
      rw [List.take_succ_eq_append_getElem hk, List.map_append, List.filter_append, List.map_cons, List.map_nil]
      congr 1
      by_cases e : j - ns.length ∈ nxs (gNx ns) ((gSp ns).idxOf ns[k].at_)
      · rw [List.filter_cons_of_pos (by simpa using e), if_pos e]
        rfl
      · rw [List.filter_cons_of_neg (by simpa using e), if_neg e]
        rfl
    rw [ht, hN, ← hC]
    have e : (j - ns.length ∈ cmpct (sortN (hits (gSp ns) ns[k].next))) ↔ j - ns.length ∈ sortN (hits (gSp ns) ns[k].next) := cmpct_mem
    simp only [e]
/-- Who points to each. -/
def gFr (ns : List Nd) : Dg := (List.range ns.length).map (fromK ns ns.length)
theorem gFr_len (ns : List Nd) : (gFr ns).length = ns.length := by simp [gFr]
theorem gFr_at {ns : List Nd} {v : Nat} (hv : v < ns.length) : nxs (gFr ns) v = fromK ns ns.length v := by
  unfold nxs gFr
  rw [List.getD_eq_getElem?_getD, List.getElem?_map, List.getElem?_range hv]
  rfl
theorem gFr_ok {ns : List Nd} (h : (atsN ns).Nodup) : FromOk (gNx ns) (gFr ns) := by
  refine ⟨by rw [gFr_len, gNx_len], fun v hv => ?_, fun v hv u => ?_⟩
  · rw [gNx_len] at hv
    rw [gFr_at hv]
    unfold fromK
    refine List.Pairwise.filter _ ?_
    rw [List.take_length, List.pairwise_map]
    have h1 : ns.Pairwise fun a b => a.at_ ≠ b.at_ := by
      have := List.nodup_iff_pairwise_ne.1 h
      unfold atsN at this
      exact List.pairwise_map.1 this
    exact h1.imp_of_mem fun {a b} ha hb hab e => hab (nd_idx h ha hb e)
  · rw [gNx_len] at hv ⊢
    rw [gFr_at hv]
    unfold fromK
    rw [List.take_length, List.mem_filter, List.mem_map]
    constructor
    · rintro ⟨⟨n, hn, rfl⟩, h2⟩
      refine ⟨?_, by simpa using h2⟩
      have hm : n.at_ ∈ gSp ns := (gSp_mem ns _).2 (List.mem_map.2 ⟨n, hn, rfl⟩)
      have := List.idxOf_lt_length_of_mem hm
      rwa [gSp_len] at this
    · rintro ⟨hu, h2⟩
      refine ⟨?_, by simpa using h2⟩
      have hu' : u < (gSp ns).length := by rw [gSp_len]; exact hu
      obtain ⟨h3, h4⟩ := tau_at h hu'
      exact ⟨ns[tau ns u], List.getElem_mem h3, by rw [h4, (gSp_nd h).idxOf_getElem]⟩
end
section

theorem OkO.perm {g : Dg} {o : List Nat} {v : Nat} {xs ys : List Nat} {s : OS} (h : OkO g o v xs s) (hxy : ∀ u, u < g.length → (u ∈ xs ↔ u ∈ ys)) : OkO g o v ys s :=
  ⟨h.nd, h.lt, fun u hu => by
    rw [h.wt u hu]
    congr 1
    refine List.filter_congr fun x _ => ?_
    rw [decide_eq_decide, hxy u hu], h.zr⟩
/-- Between two of the pops' ones. -/
def decF (F : Dg) (s : OS) (k : Nat) : OS := ((nxs F (popL s.heap).2).take k).foldl dec1 (take1 s)
theorem decF_succ (F : Dg) (s : OS) {k : Nat} (hk : k < (nxs F (popL s.heap).2).length) : decF F s (k + 1) = dec1 (decF F s k) (nxs F (popL s.heap).2)[k] := by
  unfold decF
  rw [List.take_succ_eq_append_getElem hk, List.foldl_append]
  rfl
theorem decF_ok {g F : Dg} (hN : OkN g) (hF : FromOk g F) {s : OS} (h : OkO g s.out 0 [] s) (h0 : s.heap ≠ []) (k : Nat) :
    OkO g s.out (popL s.heap).2 ((nxs F (popL s.heap).2).take k) (decF F s k) ∧ (decF F s k).out = s.out ++ [(popL s.heap).2] ∧ (∀ hk : k < (nxs F (popL s.heap).2).length, 0 < (decF F s k).waits (nxs F (popL s.heap).2)[k] ∧ (nxs F (popL s.heap).2)[k] < g.length) ∧ (popL s.heap).2 < g.length := by
  obtain ⟨h1, h2, h3⟩ := take_ok h h0
  have hm := hF.mem _ h2
  have hnd := hF.nd _ h2
  have hk1 : OkO g s.out (popL s.heap).2 ((nxs F (popL s.heap).2).take k) (decF F s k) := by
    have := decs_ok hN h3 ((nxs F (popL s.heap).2).take k) [] (take1 s) h1 (fun u hu => by
      have := (hm u).1 (List.mem_of_mem_take hu)
      exact ⟨this.1, this.2, by simp⟩) (hnd.sublist (List.take_sublist _ _))
    rw [List.nil_append] at this
    exact this
  refine ⟨hk1, decs_out _ _, fun hk => ?_, h2⟩
  obtain ⟨h4, h5⟩ := (hm _).1 (List.getElem_mem hk)
  refine ⟨(dec_ok hN hk1 h4 h5 h3 fun hc => ?_).2, h4⟩
  obtain ⟨j, hj, e⟩ := List.mem_take_iff_getElem.1 hc
  have := (List.getElem_inj hnd).1 e
  omega
theorem decF_hp {F : Dg} {s : OS} (h : Hp s.heap) (h0 : s.heap ≠ []) (k : Nat) : Hp (decF F s k).heap := decs_hp _ _ (popL_hp h h0).1
theorem decF_end {g F : Dg} (hN : OkN g) (hF : FromOk g F) {s : OS} (h : OkO g s.out 0 [] s) (h0 : s.heap ≠ []) (hh : Hp s.heap) (hg : Greedy g s.out) :
    OkO g (decF F s (nxs F (popL s.heap).2).length).out 0 [] (decF F s (nxs F (popL s.heap).2).length) ∧ Greedy g (decF F s (nxs F (popL s.heap).2).length).out := by
  obtain ⟨h1, h2, _, h4⟩ := decF_ok hN hF h h0 (nxs F (popL s.heap).2).length
  rw [List.take_length] at h1
  have h5 := done_ok (h1.perm fun u hu => (show u ∈ nxs F (popL s.heap).2 ↔ u ∈ bk g (popL s.heap).2 by rw [hF.mem _ h4, bk_mem])) 0
  rw [h2]
  refine ⟨h5, hg.snoc ((h.rdy _).1 ((popL_perm h0).mem_iff.1 (by simp))) fun w hw hr => ?_⟩
  have := (popL_hp hh h0).2 w ((h.rdy w).2 hr)
  omega
theorem stuck_of {g : Dg} {s : OS} (h : OkO g s.out 0 [] s) (h0 : s.heap = []) : Stuck g s.out := fun v hv => by
  have := (h.rdy v).2 hv
  rw [h0] at this
  simp at this
theorem order_same {g : Dg} (hN : OkN g) {s : OS} (h : OkO g s.out 0 [] s) (h0 : s.heap = []) (hg : Greedy g s.out) : s.out = orderT g :=
  hg.same (orderT_ok hN).1 (stuck_of h h0) (orderT_ok hN).2

/-- Leads: those that have been told, to be gone back from. -/
structure LOk (g F : Dg) (there : Nat → Bool) (l : List Nat) (i : Nat) : Prop where
  nd : l.Nodup
  tl : ∀ v, there v = true ↔ v ∈ l
  lt : ∀ v ∈ l, v < g.length
  has : ∀ v ∈ l, HasL g v
  cl : ∀ j (h : j < l.length), j < i → ∀ u ∈ nxs F l[j], there u = true
theorem LOk.put {g F : Dg} {there : Nat → Bool} {l : List Nat} {i v : Nat} (h : LOk g F there l i) (hi : i ≤ l.length) (hv : v < g.length) (hs : there v = false) (hh : HasL g v) : LOk g F (upd there v true) (l ++ [v]) i := by
  have hno : v ∉ l := fun hm => by
    have := (h.tl v).2 hm
    rw [hs] at this
    cases this
  refine ⟨?_, fun x => ?_, fun x hx => ?_, fun x hx => ?_, fun j hj hji u hu => ?_⟩
  · rw [List.nodup_append]
    exact ⟨h.nd, by simp, fun a ha b hb e => by simp at hb; subst hb; exact hno (e ▸ ha)⟩
  · unfold upd
    by_cases e : x = v
    · simp [e]
    · simp [e, h.tl x]
  · rcases List.mem_append.1 hx with hx | hx
    · exact h.lt x hx
    · simp at hx
      omega
  · rcases List.mem_append.1 hx with hx | hx
    · exact h.has x hx
    · simp at hx
      rw [hx]
      exact hh
  · have hj2 : j < l.length := by omega
    rw [List.getElem_append_left hj2] at hu
    have := h.cl j hj2 hji u hu
    unfold upd
    split
    · rfl
    · exact this
theorem LOk.known {g F : Dg} {there : Nat → Bool} {l : List Nat} {i : Nat} (h : LOk g F there l i) (hi : i < l.length) (ha : ∀ u ∈ nxs F l[i], there u = true) : LOk g F there l (i + 1) :=
  ⟨h.nd, h.tl, h.lt, h.has, fun j hj hji u hu => by
    rcases Nat.lt_or_eq_of_le (Nat.le_of_lt_succ hji) with hlt | rfl
    · exact h.cl j hj hlt u hu
    · exact ha u hu⟩
theorem LOk.len {g F : Dg} {there : Nat → Bool} {l : List Nat} {i : Nat} (h : LOk g F there l i) : l.length ≤ g.length := nodup_lt h.nd h.lt
/-- Those told first: all that are on rings, all that point to none. -/
def Base2 (g : Dg) (l : List Nat) : Prop := ∀ v, v < g.length → Rch1 g v v ∨ nxs g v = [] → v ∈ l
/-- One that points to one that is told. -/
theorem LOk.step {g F : Dg} (hF : FromOk g F) (h1 : ∀ v, v < g.length → (nxs g v).length ≤ 1) {there : Nat → Bool} {l : List Nat} {i u : Nat} (h : LOk g F there l i) (hb : Base2 g l) (hi : i < l.length) (hu : u ∈ nxs F l[i]) (hs : there u = false) :
    u < g.length ∧ HasL g u ∧ leadOf g u = bump (leadOf g l[i]) := by
  obtain ⟨h2, h3⟩ := (hF.mem _ (h.lt _ (List.getElem_mem hi)) u).1 hu
  have hno : u ∉ l := fun hm => by
    have := (h.tl u).2 hm
    rw [hs] at this
    cases this
  have hn : nxs g u = [l[i]] := by
    have := h1 u h2
    cases hz : nxs g u with
    | nil => rw [hz] at h3; simp at h3
    | cons a t =>
      rw [hz] at h3 this
      cases t with
      | nil => simp at h3; rw [h3]
      | cons b t => simp at this
  exact ⟨h2, lead_bump hn (fun hr => hno (hb u h2 (.inl hr))) (h.has _ (List.getElem_mem hi))⟩
theorem LOk.full {g F : Dg} (hF : FromOk g F) (hg : OkG g) {there : Nat → Bool} {l : List Nat} (h : LOk g F there l l.length) (hb : Base2 g l) : ∀ v, v < g.length → v ∈ l := by
  intro v hv
  apply Classical.byContradiction
  intro hno
  have step : ∀ a, a < g.length → a ∉ l → ∃ u, u ∈ nxs g a ∧ u < g.length ∧ u ∉ l := fun a ha hn => by
    cases hz : nxs g a with
    | nil => exact absurd (hb a ha (.inr hz)) hn
    | cons u t =>
      have hu : u ∈ nxs g a := by rw [hz]; simp
      have hul := hg.nx hu
      refine ⟨u, by simp, hul, fun hm => hn ?_⟩
      obtain ⟨j, hj, rfl⟩ := List.getElem_of_mem hm
      exact (h.tl a).1 (h.cl j hj hj a ((hF.mem _ hul a).2 ⟨ha, hu⟩))
  have key : ∀ k, ∃ (a : Nat) (W : List Nat), W.length = k ∧ (a :: W).Nodup ∧ (∀ x ∈ a :: W, x < g.length ∧ x ∉ l ∧ Rch g x a) := fun k => by
    induction k with
    | zero => exact ⟨v, [], rfl, by simp, by simpa using ⟨hv, hno, Rch.refl _⟩⟩
    | succ k ih =>
      obtain ⟨a, W, e, hn, hW⟩ := ih
      obtain ⟨ha1, ha2, _⟩ := hW a (by simp)
      obtain ⟨u, hu, hul, huo⟩ := step a ha1 ha2
      have hum : u ∉ a :: W := fun hm => huo (hb u hul (.inl (Rch1.trans_l (hW u hm).2.2 ⟨u, hu, Rch.refl _⟩)))
      refine ⟨u, a :: W, by simp [e], List.nodup_cons.2 ⟨hum, hn⟩, fun x hx => ?_⟩
      rcases List.mem_cons.1 hx with rfl | hx
      · exact ⟨hul, huo, Rch.refl _⟩
      · obtain ⟨k1, k2, k3⟩ := hW x hx
        exact ⟨k1, k2, k3.trans (Rch.one hu)⟩
  obtain ⟨a, W, e, hn, hW⟩ := key g.length
  have := nodup_lt hn fun x hx => (hW x hx).1
  simp only [List.length_cons] at this
  omega
theorem ring_back {g : Dg} (h1 : ∀ v, (nxs g v).length ≤ 1) {v u : Nat} (hv : Rch1 g v v) (hu : Rch g v u) : Rch g u v := by
  induction hu with
  | refl => exact Rch.refl _
  | @step w u hw hu ih =>
    have h2 : Rch1 g w v := by
      rcases ih.one_of with e | h2
      · rw [e]; exact hv
      · exact h2
    obtain ⟨c, hc, hr⟩ := h2
    have e : u = c := by
      obtain ⟨i, hi, rfl⟩ := List.getElem_of_mem hu
      obtain ⟨j, hj, rfl⟩ := List.getElem_of_mem hc
      have := h1 w
      congr 1
      omega
    rw [e]
    exact hr
theorem head_le {p : List Nat} {u : Nat} (hu : u ∈ sortN p) : (sortN p).headD 0 ≤ u := by
  have h := sortN_le p
  cases hz : sortN p with
  | nil => rw [hz] at hu; simp at hu
  | cons a t =>
    rw [hz] at h hu
    rcases List.mem_cons.1 hu with rfl | hu
    · exact Nat.le_refl _
    · exact (List.pairwise_cons.1 h).1 u hu
/-- One on a ring leads to the ring's least. -/
theorem ring_lead {g : Dg} (h1 : ∀ v, (nxs g v).length ≤ 1) {Rn : List (List Nat)} (hR : RingsOk g Rn fun v => v < g.length) {r : List Nat} (hr : r ∈ Rn) {x : Nat} (hx : x ∈ r) : HasL g x ∧ leadOf g x = ⟨true, 0, r.headD 0⟩ ∧ x < g.length := by
  obtain ⟨p, rfl, h2, h3, h4, h5⟩ := hR.el r hr
  have hxp := mem_sortN.1 hx
  have hne : sortN p ≠ [] := fun e => by rw [e] at hx; simp at hx
  have hm := mem_sortN.1 (head_mem hne)
  have hself : Rch1 g x x := ((h5 x hxp x).1 hxp).1
  have h1 : IsLead g x ⟨true, 0, (sortN p).headD 0⟩ := by
    refine IsLead.ring hself ((h5 x hxp _).1 hm).1.rch fun u hu => ?_
    have hub := ring_back h1 hself hu
    exact head_le (mem_sortN.2 ((h5 x hxp u).2 ⟨hself.trans_r hu, Rch1.trans_l hub hself⟩))
  exact ⟨⟨_, h1⟩, leadOf_eq h1, h4 x hxp⟩
theorem sink_lead {g : Dg} {v : Nat} (h : nxs g v = []) : HasL g v ∧ leadOf g v = ⟨false, 0, v⟩ := ⟨⟨_, IsLead.sink h⟩, leadOf_eq (IsLead.sink h)⟩
/-- Rings by their first numbers: what cycle.Rings tells. -/
theorem rings_same {l : List Sp} (hl : l.Pairwise fun x y => ltS x y = true) {g : Dg} (hg : OkG g) (hlen : g.length = l.length) {Rn : List (List Nat)} (hR : RingsOk g Rn fun v => v < g.length) (hs : Rn.Pairwise fun r q => r.headD 0 < q.headD 0) : Rn.map (spotsOf l) = ringsOf l g := by
  have hA := rings_ok hg
  have nd : ∀ {R : List (List Nat)}, RingsOk g R (fun v => v < g.length) → R.Nodup ∧ ∀ r ∈ R, r ≠ [] ∧ ∀ x ∈ r, x < l.length := fun {R} h => by
    have hne : ∀ r ∈ R, r ≠ [] ∧ ∀ x ∈ r, x < l.length := fun r hr => by
      obtain ⟨p, rfl, h2, h3, h4, h5⟩ := h.el r hr
      refine ⟨fun e => h3 ?_, fun x hx => by have := h4 x (mem_sortN.1 hx); omega⟩
      have := (sortN_perm p).length_eq
      rw [e] at this
      exact List.eq_nil_of_length_eq_zero this.symm
    refine ⟨List.nodup_iff_pairwise_ne.2 (h.apart.imp_of_mem fun {a b} ha _ hab e => ?_), hne⟩
    subst e
    exact hab _ (head_mem (hne a ha).1) (head_mem (hne a ha).1)
  have hp : Rn.Perm (allT g).rings := (List.perm_ext_iff_of_nodup (nd hR).1 (nd hA).1).2 fun r => ⟨fun h => hR.sub hA h, fun h => hA.sub hR h⟩
  have hne := (nd hR).2
  have hd : ∀ r ∈ Rn, hdS (spotsOf l r) = l.getD (r.headD 0) (0, 0) := fun r hr => hdS_of l (hne r hr).1
  have hlt : (Rn.map (spotsOf l)).Pairwise fun a b => ltS (hdS a) (hdS b) = true := by
    rw [List.pairwise_map]
    refine hs.imp_of_mem fun {a b} ha hb hab => ?_
    rw [hd a ha, hd b hb]
    have k1 := (hne a ha).2 _ (head_mem (hne a ha).1)
    have k2 := (hne b hb).2 _ (head_mem (hne b hb).1)
    rw [List.getD_eq_getElem?_getD, List.getD_eq_getElem?_getD, List.getElem?_eq_getElem k1, List.getElem?_eq_getElem k2]
    exact List.pairwise_iff_getElem.1 hl _ _ k1 k2 hab
  have hp2 : (Rn.map (spotsOf l)).Perm (ringsOf l g) := (hp.map _).trans (sortL_perm _).symm
  refine List.Perm.eq_of_pairwise (le := fun a b => ltS (hdS b) (hdS a) = false) (fun a b ha hb h1 h2 => ?_) (hlt.imp fun {a b} h => ?_) (sortL_le _) hp2
  · have e := totS _ _ h1 h2
    obtain ⟨i, hi, rfl⟩ := List.getElem_of_mem ha
    obtain ⟨j, hj, rfl⟩ := List.getElem_of_mem (hp2.mem_iff.2 hb)
    have h3 := List.pairwise_iff_getElem.1 hlt
    rcases Nat.lt_trichotomy i j with h4 | h4 | h4
    · have := h3 i j hi hj h4
      rw [← e] at this
      simp [ltS] at this
    · subst h4; rfl
    · have := h3 j i hj hi h4
      rw [← e] at this
      simp [ltS] at this
  · simp only [ltS, decide_eq_true_eq, decide_eq_false_iff_not] at *
    omega
end
end Go.Proofs.YtdlpbpohbkcafaaGreat
