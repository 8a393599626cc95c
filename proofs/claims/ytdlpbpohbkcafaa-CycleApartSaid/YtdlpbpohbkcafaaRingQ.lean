/-
  Rings by one walk in depth: what comes out are the rings. No program in sight.
-/
import Derived.Test.YtdlpbpohbkcafaaRingP
namespace Go.Proofs.Ytdlpbpohbkcafaa

/-- There is a way, maybe of no step. -/
inductive Rch (g : Dg) : Nat → Nat → Prop
  | refl (v : Nat) : Rch g v v
  | step {v w u : Nat} : Rch g v w → u ∈ nxs g w → Rch g v u
theorem Rch.trans {g : Dg} {a b c : Nat} (h : Rch g a b) (k : Rch g b c) : Rch g a c := by
  induction k with
  | refl => exact h
  | step _ hu ih => exact ih.step hu
theorem Rch.one {g : Dg} {a b : Nat} (h : b ∈ nxs g a) : Rch g a b := (Rch.refl a).step h
/-- A way of one step or more. -/
def Rch1 (g : Dg) (a b : Nat) : Prop := ∃ c, c ∈ nxs g a ∧ Rch g c b
theorem Rch1.rch {g : Dg} {a b : Nat} (h : Rch1 g a b) : Rch g a b := by
  obtain ⟨c, h1, h2⟩ := h
  exact (Rch.one h1).trans h2
theorem Rch.one_of {g : Dg} {a b : Nat} (h : Rch g a b) : a = b ∨ Rch1 g a b := by
  induction h with
  | refl => exact .inl rfl
  | step _ hu ih =>
    rcases ih with rfl | ⟨c, h1, h2⟩
    · exact .inr ⟨_, hu, Rch.refl _⟩
    · exact .inr ⟨c, h1, h2.step hu⟩
theorem Rch1.trans_r {g : Dg} {a b c : Nat} (h : Rch1 g a b) (k : Rch g b c) : Rch1 g a c := by
  obtain ⟨d, h1, h2⟩ := h
  exact ⟨d, h1, h2.trans k⟩
theorem Rch1.trans_l {g : Dg} {a b c : Nat} (h : Rch g a b) (k : Rch1 g b c) : Rch1 g a c := by
  rcases h.one_of with rfl | h
  · exact k
  · exact h.trans_r k.rch

/-- The places of the way. -/
abbrev wayN (s : TS) : List Nat := s.way.map (·.1)
/-- The entry has been looked at. -/
def Exp (g : Dg) (way : List (Nat × Nat)) (v u : Nat) : Prop := (v ∉ way.map (·.1) ∧ u ∈ nxs g v) ∨ ∃ k, (v, k) ∈ way ∧ u ∈ (nxs g v).take k
/-- y is the last place of the way that came ahead of w, or w itself. -/
def Seg (idx : Nat → Nat) (W : List Nat) (w y : Nat) : Prop := y ∈ W ∧ idx y ≤ idx w ∧ ∀ z ∈ W, idx z ≤ idx w → idx z ≤ idx y

/-- The rings that are told. -/
structure RingsOk (g : Dg) (rings : List (List Nat)) (D : Nat → Prop) : Prop where
  el : ∀ r ∈ rings, ∃ part : List Nat, r = sortN part ∧ part.Nodup ∧ part ≠ [] ∧ (∀ a ∈ part, D a) ∧ ∀ a ∈ part, ∀ b, b ∈ part ↔ Rch1 g a b ∧ Rch1 g b a
  all : ∀ v, D v → Rch1 g v v → ∃ r ∈ rings, v ∈ r
  apart : rings.Pairwise fun r q => ∀ a ∈ r, a ∉ q

/-- What holds between two steps: all of the way have been come to; x: one that comes next. -/
structure Inv (g : Dg) (s : TS) (x : Option Nat) : Prop where
  cnt : ∀ v, s.index v ≤ s.count
  inj : ∀ v u, s.index v = s.index u → s.index v ≠ 0 → v = u
  pil : s.pile.Pairwise fun a b => s.index a < s.index b
  vis : ∀ v ∈ s.pile, s.index v ≠ 0
  on : ∀ v, s.on v = true ↔ v ∈ s.pile
  wp : ∀ v ∈ wayN s, v ∈ s.pile
  wo : (wayN s).Pairwise fun a b => s.index b < s.index a
  wc : (wayN s).Pairwise fun a b => Rch g b a
  ex : ∀ v u, s.index v ≠ 0 → Exp g s.way v u → s.index u ≠ 0 ∨ x = some u
  cl : ∀ v, s.index v ≠ 0 → v ∉ s.pile → ∀ u ∈ nxs g v, s.index u ≠ 0 ∧ u ∉ s.pile
  base : ∀ w ∈ s.pile, ∃ y ∈ wayN s, s.index y ≤ s.index w
  own : ∀ w ∈ s.pile, ∀ y, Seg s.index (wayN s) w y → Rch g w y ∧ Rch g y w
  lo1 : ∀ y ∈ wayN s, s.low y ≤ s.index y ∧ ∃ u ∈ s.pile, s.index u = s.low y ∧ Rch g y u
  lo2 : ∀ w ∈ s.pile, ∀ y, Seg s.index (wayN s) w y → ∀ u, Exp g s.way w u → u ∈ s.pile → s.low y ≤ s.index u
  ro : RingsOk g s.rings fun v => s.index v ≠ 0 ∧ v ∉ s.pile

theorem seg_ex {idx : Nat → Nat} {w : Nat} : ∀ {W : List Nat}, (∃ y ∈ W, idx y ≤ idx w) → ∃ y, Seg idx W w y
  | [], h => by obtain ⟨y, hy, _⟩ := h; simp at hy
  | a :: W, h => by
    by_cases hW : ∃ y ∈ W, idx y ≤ idx w
    · obtain ⟨y, h1, h2, h3⟩ := seg_ex hW
      by_cases ha : idx a ≤ idx w ∧ idx y ≤ idx a
      · refine ⟨a, by simp, ha.1, fun z hz hzw => ?_⟩
        rcases List.mem_cons.1 hz with rfl | hz
        · exact Nat.le_refl _
        · exact Nat.le_trans (h3 z hz hzw) ha.2
      · refine ⟨y, by simp [h1], h2, fun z hz hzw => ?_⟩
        rcases List.mem_cons.1 hz with rfl | hz
        · omega
        · exact h3 z hz hzw
    · obtain ⟨y, hy, hyw⟩ := h
      rcases List.mem_cons.1 hy with rfl | hy
      · refine ⟨y, by simp, hyw, fun z hz hzw => ?_⟩
        rcases List.mem_cons.1 hz with rfl | hz
        · exact Nat.le_refl _
        · exact absurd ⟨z, hz, hzw⟩ hW
      · exact absurd ⟨y, hy, hyw⟩ hW

theorem RingsOk.mono {g : Dg} {rings : List (List Nat)} {D E : Nat → Prop} (h : RingsOk g rings D) (hDE : ∀ v, D v ↔ E v) : RingsOk g rings E :=
  ⟨fun r hr => by
    obtain ⟨p, h1, h2, h3, h4, h5⟩ := h.el r hr
    exact ⟨p, h1, h2, h3, fun a ha => (hDE a).1 (h4 a ha), h5⟩, fun v hv => h.all v ((hDE v).2 hv), h.apart⟩

theorem exp_push {g : Dg} {way : List (Nat × Nat)} {u v w : Nat} (h : Exp g ((u, 0) :: way) v w) (hu : u ∉ way.map (·.1)) : v ≠ u ∧ Exp g way v w := by
  rcases h with ⟨h1, h2⟩ | ⟨k, h1, h2⟩
  · simp only [List.map_cons, List.mem_cons, not_or] at h1
    exact ⟨h1.1, .inl ⟨h1.2, h2⟩⟩
  · rcases List.mem_cons.1 h1 with h1 | h1
    · cases h1
      simp at h2
    · refine ⟨fun e => hu (List.mem_map.2 ⟨(v, k), h1, e⟩), .inr ⟨k, h1, h2⟩⟩

/-- COME TO FOR THE FIRST TIME. -/
theorem inv_visit {g : Dg} {s : TS} {u : Nat} {rest : List (Nat × Nat)} (h : Inv g { s with way := rest } (some u)) (h0 : s.index u = 0) (hr : ∀ b ∈ rest.map (·.1), Rch g b u) :
    Inv g { visit s u with way := (u, 0) :: rest } none := by
  obtain ⟨cnt, inj, pil, vis, on, wp, wo, wc, ex, cl, base, own, lo1, lo2, ro⟩ := h
  simp only at cnt inj pil vis on wp wo wc ex cl base own lo1 lo2 ro
  have e : visit s u = { s with count := s.count + 1, index := upd s.index u (s.count + 1), low := upd s.low u (s.count + 1), on := upd s.on u true, pile := s.pile ++ [u] } := by unfold visit; rw [if_pos h0]
  rw [e]
  have hne : ∀ {v}, s.index v ≠ 0 → v ≠ u := fun hv e => hv (e ▸ h0)
  have hio : ∀ {v}, v ≠ u → upd s.index u (s.count + 1) v = s.index v := fun hv => upd_other hv
  have hiu : upd s.index u (s.count + 1) u = s.count + 1 := upd_same _ _ _
  have hpu : ∀ v ∈ s.pile, v ≠ u := fun v hv => hne (vis v hv)
  have hwu : ∀ v ∈ rest.map (·.1), v ≠ u := fun v hv => hpu v (wp v hv)
  have hur : u ∉ rest.map (·.1) := fun hm => hwu u hm rfl
  have hsegu : ∀ {y}, Seg (upd s.index u (s.count + 1)) (u :: rest.map (·.1)) u y → y = u := fun {y} hy => by
    rcases List.mem_cons.1 hy.1 with e | hm
    · exact e
    · have h1 := hy.2.2 u (by simp) (Nat.le_refl _)
      rw [hiu, hio (hwu y hm)] at h1
      have := cnt y
      omega
  have hsego : ∀ {w y}, w ∈ s.pile → Seg (upd s.index u (s.count + 1)) (u :: rest.map (·.1)) w y → y ≠ u ∧ Seg s.index (rest.map (·.1)) w y := fun {w y} hw hy => by
    obtain ⟨a, b, c⟩ := hy
    have hwi := hio (hpu w hw)
    rw [hwi] at b
    have hyu : y ≠ u := fun e => by
      rw [e, hiu] at b
      have := cnt w
      omega
    have hm := (List.mem_cons.1 a).resolve_left hyu
    rw [hio hyu] at b
    refine ⟨hyu, hm, b, fun z hz hzw => ?_⟩
    have := c z (List.mem_cons_of_mem _ hz) (by rw [hwi, hio (hwu z hz)]; exact hzw)
    rwa [hio (hwu z hz), hio hyu] at this
  constructor <;> simp only [wayN, List.map_cons]
  · intro v
    by_cases hv : v = u
    · rw [hv, hiu]; exact Nat.le_refl _
    · rw [hio hv]; have := cnt v; omega
  · intro v w hvw hv
    by_cases h1 : v = u <;> by_cases h2 : w = u
    · rw [h1, h2]
    · rw [h1, hiu, hio h2] at hvw; have := cnt w; omega
    · rw [h2, hiu, hio h1] at hvw; have := cnt v; omega
    · rw [hio h1, hio h2] at hvw; rw [hio h1] at hv; exact inj v w hvw hv
  · rw [List.pairwise_append]
    refine ⟨pil.imp_of_mem fun {a b} ha hb hab => by rw [hio (hpu a ha), hio (hpu b hb)]; exact hab, by simp, fun a ha b hb => ?_⟩
    simp at hb
    subst hb
    rw [hio (hpu a ha), hiu]
    have := cnt a
    omega
  · intro v hv
    rcases List.mem_append.1 hv with hv | hv
    · rw [hio (hpu v hv)]; exact vis v hv
    · simp at hv; rw [hv, hiu]; omega
  · intro v
    by_cases hv : v = u
    · simp [upd, hv]
    · simp only [upd, List.mem_append, List.mem_singleton, hv, or_false]; exact on v
  · intro v hv
    rcases List.mem_cons.1 hv with rfl | hv
    · simp
    · exact List.mem_append_left _ (wp v hv)
  · rw [List.pairwise_cons]
    refine ⟨fun b hb => ?_, wo.imp_of_mem fun {a b} ha hb hab => by rw [hio (hwu a ha), hio (hwu b hb)]; exact hab⟩
    rw [hio (hwu b hb), hiu]
    have := cnt b
    omega
  · rw [List.pairwise_cons]
    exact ⟨hr, wc⟩
  · intro v w hv hE
    obtain ⟨hvu, hE⟩ := exp_push hE hur
    rw [hio hvu] at hv
    left
    by_cases hwu2 : w = u
    · rw [hwu2, hiu]; omega
    · rw [hio hwu2]
      rcases ex v w hv hE with h1 | h1
      · exact h1
      · injection h1 with h1
        exact absurd h1.symm hwu2
  · intro v hv hp w hw
    simp only [List.mem_append, List.mem_singleton, not_or] at hp
    rw [hio hp.2] at hv
    obtain ⟨h1, h2⟩ := cl v hv hp.1 w hw
    have := hne h1
    exact ⟨by rw [hio this]; exact h1, by simp [h2, this]⟩
  · intro w hw
    rcases List.mem_append.1 hw with hw | hw
    · obtain ⟨y, h1, h2⟩ := base w hw
      exact ⟨y, List.mem_cons_of_mem _ h1, by rw [hio (hwu y h1), hio (hpu w hw)]; exact h2⟩
    · simp at hw
      exact ⟨u, by simp, by rw [hw]; exact Nat.le_refl _⟩
  · intro w hw y hy
    rcases List.mem_append.1 hw with hw | hw
    · exact own w hw y (hsego hw hy).2
    · simp at hw
      rw [hw] at hy ⊢
      rw [hsegu hy]
      exact ⟨Rch.refl _, Rch.refl _⟩
  · intro y hy
    rcases List.mem_cons.1 hy with rfl | hy
    · exact ⟨by simp [upd], y, by simp, by simp [upd], Rch.refl _⟩
    · have hyu := hwu y hy
      obtain ⟨h1, z, h2, h3, h4⟩ := lo1 y hy
      refine ⟨by rw [upd_other hyu, hio hyu]; exact h1, z, List.mem_append_left _ h2, by rw [hio (hpu z h2), upd_other hyu]; exact h3, h4⟩
  · intro w hw y hy z hE hz
    obtain ⟨hvu, hE⟩ := exp_push hE hur
    have hw := (List.mem_append.1 hw).resolve_right (by simpa using hvu)
    obtain ⟨hyu, hy2⟩ := hsego hw hy
    rw [upd_other hyu]
    rcases List.mem_append.1 hz with hz | hz
    · rw [hio (hpu z hz)]
      exact lo2 w hw y hy2 z hE hz
    · simp at hz
      rw [hz, hiu]
      have h1 := (lo1 y hy2.1).1
      have h2 := cnt y
      omega
  · refine ro.mono fun v => ?_
    by_cases hv : v = u
    · simp [hv, h0]
    · rw [hio hv]
      simp [hv]

/-- A state that differs in the way's top alone. -/
theorem exp_next {g : Dg} {v k : Nat} {rest : List (Nat × Nat)} (hk : k < (nxs g v).length) {a w : Nat} (h : Exp g ((v, k + 1) :: rest) a w) : Exp g ((v, k) :: rest) a w ∨ (a = v ∧ w = (nxs g v).getD k 0) := by
  rcases h with ⟨h1, h2⟩ | ⟨j, h1, h2⟩
  · exact .inl (.inl ⟨h1, h2⟩)
  · rcases List.mem_cons.1 h1 with h1 | h1
    · cases h1
      rw [List.take_succ_eq_append_getElem hk, List.mem_append] at h2
      rcases h2 with h2 | h2
      · exact .inl (.inr ⟨k, by simp, h2⟩)
      · right
        simp at h2
        exact ⟨rfl, by simp [h2, hk]⟩
    · exact .inl (.inr ⟨j, List.mem_cons_of_mem _ h1, h2⟩)
theorem exp_next' {g : Dg} {v k : Nat} {rest : List (Nat × Nat)} {a w : Nat} (h : Exp g ((v, k) :: rest) a w) : Exp g ((v, k + 1) :: rest) a w := by
  rcases h with ⟨h1, h2⟩ | ⟨j, h1, h2⟩
  · exact .inl ⟨h1, h2⟩
  · rcases List.mem_cons.1 h1 with h1 | h1
    · cases h1
      exact .inr ⟨k + 1, by simp, (List.take_subset_take_left _ (Nat.le_succ k)) h2⟩
    · exact .inr ⟨j, List.mem_cons_of_mem _ h1, h2⟩

/-- ONE ENTRY AHEAD. -/
theorem inv_next {g : Dg} {s : TS} {v k : Nat} {rest : List (Nat × Nat)} (h : Inv g s none) (hw : s.way = (v, k) :: rest) (hk : k < (nxs g v).length) (x : Option Nat) (lw : Nat → Nat) (hx : s.index ((nxs g v).getD k 0) ≠ 0 ∨ x = some ((nxs g v).getD k 0))
    (hl : lw = s.low ∧ (nxs g v).getD k 0 ∉ s.pile ∨ (nxs g v).getD k 0 ∈ s.pile ∧ lw = upd s.low v (min (s.low v) (s.index ((nxs g v).getD k 0)))) : Inv g { s with way := (v, k + 1) :: rest, low := lw } x := by
  obtain ⟨cnt, inj, pil, vis, on, wp, wo, wc, ex, cl, base, own, lo1, lo2, ro⟩ := h
  have hwn : wayN s = v :: rest.map (·.1) := by simp [wayN, hw]
  rw [hwn] at wp wo wc base own lo1 lo2
  rw [hw] at ex lo2
  have hvr : v ∉ rest.map (·.1) := fun hm => by
    have := (List.pairwise_cons.1 wo).1 v hm
    omega
  have hedge : Rch g v ((nxs g v).getD k 0) := Rch.one (by simp [hk])
  generalize hu : (nxs g v).getD k 0 = u at *
  have hle : ∀ y, lw y ≤ s.low y := fun y => by
    rcases hl with ⟨hl, _⟩ | ⟨_, hl⟩
    · rw [hl]; exact Nat.le_refl _
    · rw [hl]
      by_cases hy : y = v
      · rw [hy, upd_same]; exact Nat.min_le_left _ _
      · rw [upd_other hy]; exact Nat.le_refl _
  constructor <;> simp only [wayN, List.map_cons]
  · exact cnt
  · exact inj
  · exact pil
  · exact vis
  · exact on
  · exact wp
  · exact wo
  · exact wc
  · intro a w ha hE
    rcases exp_next hk hE with hE | ⟨rfl, e⟩
    · exact .inl ((ex a w ha hE).resolve_right (by simp))
    · rw [hu] at e
      rw [e]
      exact hx
  · exact cl
  · exact base
  · exact own
  · intro y hy
    obtain ⟨h1, z, h2, h3, h4⟩ := lo1 y hy
    refine ⟨Nat.le_trans (hle y) h1, ?_⟩
    rcases hl with ⟨hl, _⟩ | ⟨hup, hl⟩
    · rw [hl]; exact ⟨z, h2, h3, h4⟩
    · rw [hl]
      by_cases hyv : y = v
      · rw [hyv, upd_same]
        rw [hyv] at h3 h4
        rcases Nat.le_total (s.low v) (s.index u) with h5 | h5
        · rw [Nat.min_eq_left h5]; exact ⟨z, h2, h3, h4⟩
        · rw [Nat.min_eq_right h5]; exact ⟨u, hup, rfl, hedge⟩
      · rw [upd_other hyv]; exact ⟨z, h2, h3, h4⟩
  · intro w hw2 y hy z hE hz
    rcases exp_next hk hE with hE | ⟨rfl, e⟩
    · exact Nat.le_trans (hle y) (lo2 w hw2 y hy z hE hz)
    · rw [hu] at e
      rw [e] at hz ⊢
      have hyw : y = w := inj y w (Nat.le_antisymm hy.2.1 (hy.2.2 w (by simp) (Nat.le_refl _))) (vis y (wp y hy.1))
      rcases hl with ⟨_, hl⟩ | ⟨_, hl⟩
      · exact absurd hz hl
      · rw [hl, hyw, upd_same]
        exact Nat.min_le_right _ _
  · exact ro
/-- What the way's top being done means for what has been looked at. -/
theorem exp_done {g : Dg} {v k : Nat} {rest : List (Nat × Nat)} (hk : ¬ k < (nxs g v).length) (hv : v ∉ rest.map (·.1)) {a w : Nat} : Exp g rest a w ↔ Exp g ((v, k) :: rest) a w := by
  have ht : (nxs g v).take k = nxs g v := List.take_of_length_le (by omega)
  constructor
  · rintro (⟨h1, h2⟩ | ⟨j, h1, h2⟩)
    · by_cases ha : a = v
      · subst ha
        exact .inr ⟨k, by simp, by rw [ht]; exact h2⟩
      · exact .inl ⟨by simp only [List.map_cons, List.mem_cons, not_or]; exact ⟨ha, h1⟩, h2⟩
    · exact .inr ⟨j, List.mem_cons_of_mem _ h1, h2⟩
  · rintro (⟨h1, h2⟩ | ⟨j, h1, h2⟩)
    · simp only [List.map_cons, List.mem_cons, not_or] at h1
      exact .inl ⟨h1.2, h2⟩
    · rcases List.mem_cons.1 h1 with h1 | h1
      · cases h1
        exact .inl ⟨hv, by rw [ht] at h2; exact h2⟩
      · exact .inr ⟨j, h1, h2⟩

/-- BACK, THE RING NOT DONE YET. -/
theorem inv_back {g : Dg} {s : TS} {v k : Nat} {rest : List (Nat × Nat)} (h : Inv g s none) (hw : s.way = (v, k) :: rest) (hk : ¬ k < (nxs g v).length) (hl : s.low v ≠ s.index v) : Inv g (back1 v rest s) none := by
  obtain ⟨cnt, inj, pil, vis, on, wp, wo, wc, ex, cl, base, own, lo1, lo2, ro⟩ := h
  have hwn : wayN s = v :: rest.map (·.1) := by simp [wayN, hw]
  rw [hwn] at wp wo wc base own lo1 lo2
  rw [hw] at ex lo2
  have hvr : v ∉ rest.map (·.1) := fun hm => by
    have := (List.pairwise_cons.1 wo).1 v hm
    omega
  obtain ⟨hl1, z, hz, hzl, hvz⟩ := lo1 v (by simp)
  have hlt : s.low v < s.index v := by omega
  obtain ⟨y1, hy1, hy1z⟩ := base z hz
  have hy1r : y1 ∈ rest.map (·.1) := (List.mem_cons.1 hy1).resolve_left (fun e => by rw [e] at hy1z; omega)
  cases rest with
  | nil => simp at hy1r
  | cons q r =>
    obtain ⟨up, j⟩ := q
    have hupv : s.index up < s.index v := (List.pairwise_cons.1 wo).1 up (by simp)
    have hupm : up ∈ (((up, j) :: r).map (·.1)) := by simp
    have wo2 := (List.pairwise_cons.1 wo).2
    have wc2 := (List.pairwise_cons.1 wc).2
    have huv : Rch g up v := (List.pairwise_cons.1 wc).1 up hupm
    have htoup : ∀ y ∈ (((up, j) :: r).map (·.1)), Rch g y up := fun y hy => by
      rcases List.mem_cons.1 hy with e | hy
      · rw [e]; exact Rch.refl _
      · exact (List.pairwise_cons.1 wc2).1 y hy
    have hleup : ∀ y ∈ (((up, j) :: r).map (·.1)), s.index y ≤ s.index up := fun y hy => by
      rcases List.mem_cons.1 hy with e | hy
      · rw [e]; exact Nat.le_refl _
      · exact Nat.le_of_lt ((List.pairwise_cons.1 wo2).1 y hy)
    have hseg : ∀ {w y}, s.index w < s.index v → Seg s.index (((up, j) :: r).map (·.1)) w y → Seg s.index (v :: ((up, j) :: r).map (·.1)) w y := fun {w y} hwv hy =>
      ⟨List.mem_cons_of_mem _ hy.1, hy.2.1, fun x hx hxw => by
        rcases List.mem_cons.1 hx with e | hx
        · rw [e] at hxw; omega
        · exact hy.2.2 x hx hxw⟩
    have hsegv : ∀ {w}, s.index v ≤ s.index w → Seg s.index (v :: ((up, j) :: r).map (·.1)) w v := fun {w} hvw =>
      ⟨by simp, hvw, fun x hx _ => by
        rcases List.mem_cons.1 hx with e | hx
        · rw [e]; exact Nat.le_refl _
        · have := hleup x hx; omega⟩
    have hsegup : ∀ {w y}, s.index v ≤ s.index w → Seg s.index (((up, j) :: r).map (·.1)) w y → y = up := fun {w y} hvw hy =>
      inj y up (Nat.le_antisymm (hleup y hy.1) (hy.2.2 up hupm (by omega))) (vis y (wp y (List.mem_cons_of_mem _ hy.1)))
    have hvup : Rch g v up := by
      obtain ⟨y0, h0⟩ := seg_ex (W := ((up, j) :: r).map (·.1)) ⟨y1, hy1r, hy1z⟩
      exact hvz.trans ((own z hz y0 (hseg (by omega) h0)).1.trans (htoup y0 h0.1))
    have hle : ∀ y, upd s.low up (min (s.low up) (s.low v)) y ≤ s.low y := fun y => by
      by_cases hy : y = up
      · rw [hy, upd_same]; exact Nat.min_le_left _ _
      · rw [upd_other hy]; exact Nat.le_refl _
    unfold back1
    constructor <;> simp only [wayN]
    · exact cnt
    · exact inj
    · exact pil
    · exact vis
    · exact on
    · exact fun y hy => wp y (List.mem_cons_of_mem _ hy)
    · exact wo2
    · exact wc2
    · exact fun a w ha hE => ex a w ha ((exp_done hk hvr).1 hE)
    · exact cl
    · intro w hw2
      obtain ⟨y, h1, h2⟩ := base w hw2
      rcases List.mem_cons.1 h1 with e | h1
      · exact ⟨up, hupm, by rw [e] at h2; omega⟩
      · exact ⟨y, h1, h2⟩
    · intro w hw2 y hy
      by_cases hvw : s.index v ≤ s.index w
      · obtain ⟨h1, h2⟩ := own w hw2 v (hsegv hvw)
        rw [hsegup hvw hy]
        exact ⟨h1.trans hvup, huv.trans h2⟩
      · exact own w hw2 y (hseg (by omega) hy)
    · intro y hy
      obtain ⟨h1, x, h2, h3, h4⟩ := lo1 y (List.mem_cons_of_mem _ hy)
      refine ⟨Nat.le_trans (hle y) h1, ?_⟩
      by_cases hyu : y = up
      · rw [hyu, upd_same]
        rw [hyu] at h3 h4
        rcases Nat.le_total (s.low up) (s.low v) with h5 | h5
        · rw [Nat.min_eq_left h5]; exact ⟨x, h2, h3, h4⟩
        · rw [Nat.min_eq_right h5]; exact ⟨z, hz, hzl, huv.trans hvz⟩
      · rw [upd_other hyu]; exact ⟨x, h2, h3, h4⟩
    · intro w hw2 y hy x hE hx
      have hE := (exp_done hk hvr).1 hE
      by_cases hvw : s.index v ≤ s.index w
      · have h1 := lo2 w hw2 v (hsegv hvw) x hE hx
        rw [hsegup hvw hy, upd_same]
        exact Nat.le_trans (Nat.min_le_right _ _) h1
      · exact Nat.le_trans (hle y) (lo2 w hw2 y (hseg (by omega) hy) x hE hx)
    · exact ro

theorem off_get (l : List Nat) (f : Nat → Bool) (a : Nat) : (l.foldl (fun o u => upd o u false) f) a = if a ∈ l then false else f a := by
  induction l generalizing f with
  | nil => simp
  | cons x l ih =>
    rw [List.foldl_cons, ih]
    by_cases hl : a ∈ l
    · simp [hl]
    · by_cases hx : a = x
      · simp [hx, upd]
      · simp [hl, hx, upd]
theorem pile_split {idx : Nat → Nat} {p : List Nat} (h : p.Pairwise fun a b => idx a < idx b) {v : Nat} (hv : v ∈ p) : (∀ a, a ∈ p.take (p.idxOf v) ↔ a ∈ p ∧ idx a < idx v) ∧ (∀ a, a ∈ p.drop (p.idxOf v) ↔ a ∈ p ∧ idx v ≤ idx a) := by
  have hi : p.idxOf v < p.length := List.idxOf_lt_length_of_mem hv
  have hd : p.drop (p.idxOf v) = v :: p.drop (p.idxOf v + 1) := by
    rw [List.drop_eq_getElem_cons hi]
    simp
  have hsp : p.take (p.idxOf v) ++ p.drop (p.idxOf v) = p := List.take_append_drop _ _
  rw [← hsp, List.pairwise_append] at h
  obtain ⟨_, h2, h3⟩ := h
  have ht : ∀ a ∈ p.take (p.idxOf v), idx a < idx v := fun a ha => h3 a ha v (by rw [hd]; simp)
  have hdr : ∀ a ∈ p.drop (p.idxOf v), idx v ≤ idx a := fun a ha => by
    rw [hd] at ha h2
    rcases List.mem_cons.1 ha with e | ha
    · rw [e]; exact Nat.le_refl _
    · exact Nat.le_of_lt ((List.pairwise_cons.1 h2).1 a ha)
  have hmem : ∀ a, a ∈ p ↔ a ∈ p.take (p.idxOf v) ∨ a ∈ p.drop (p.idxOf v) := fun a => by
    rw [← List.mem_append, hsp]
  constructor <;> intro a
  · refine ⟨fun ha => ⟨(hmem a).2 (.inl ha), ht a ha⟩, fun ⟨ha, hlt⟩ => ?_⟩
    rcases (hmem a).1 ha with ha | ha
    · exact ha
    · have := hdr a ha; omega
  · refine ⟨fun ha => ⟨(hmem a).2 (.inr ha), hdr a ha⟩, fun ⟨ha, hlt⟩ => ?_⟩
    rcases (hmem a).1 ha with ha | ha
    · have := ht a ha; omega
    · exact ha

/-- A RING IS DONE. -/
theorem inv_close {g : Dg} {s : TS} {v k : Nat} {rest : List (Nat × Nat)} (h : Inv g s none) (hw : s.way = (v, k) :: rest) (hk : ¬ k < (nxs g v).length) (hl : s.low v = s.index v) : Inv g (close1 g v { s with way := rest }) none := by
  obtain ⟨cnt, inj, pil, vis, on, wp, wo, wc, ex, cl, base, own, lo1, lo2, ro⟩ := h
  have hwn : wayN s = v :: rest.map (·.1) := by simp [wayN, hw]
  rw [hwn] at wp wo wc base own lo1 lo2
  rw [hw] at ex lo2
  have hvr : v ∉ rest.map (·.1) := fun hm => by
    have := (List.pairwise_cons.1 wo).1 v hm
    omega
  have hrv : ∀ y ∈ rest.map (·.1), s.index y < s.index v := (List.pairwise_cons.1 wo).1
  have hvp : v ∈ s.pile := wp v (by simp)
  obtain ⟨hP1, hP2⟩ := pile_split pil hvp
  have hne : v ∈ s.pile.drop (s.pile.idxOf v) := (hP2 v).2 ⟨hvp, Nat.le_refl _⟩
  have hnd : (s.pile.drop (s.pile.idxOf v)).Nodup := (pil.imp fun {a b} hab e => by rw [e] at hab; omega).sublist (List.drop_sublist _ _)
  have pil1 : (s.pile.take (s.pile.idxOf v)).Pairwise fun a b => s.index a < s.index b := pil.sublist (List.take_sublist _ _)
  have e : close1 g v { s with way := rest } = { s with way := rest, on := (s.pile.drop (s.pile.idxOf v)).foldl (fun o u => upd o u false) s.on, rings := if 1 < (s.pile.drop (s.pile.idxOf v)).length ∨ v ∈ nxs g v then s.rings ++ [sortN (s.pile.drop (s.pile.idxOf v))] else s.rings, pile := s.pile.take (s.pile.idxOf v) } := by
    unfold close1
    rw [if_neg (fun hc => hc hl)]
  rw [e]
  clear e
  generalize s.pile.drop (s.pile.idxOf v) = P2 at *
  generalize s.pile.take (s.pile.idxOf v) = P1 at *
  have hin : ∀ a ∈ s.pile, a ∈ P1 ∨ a ∈ P2 := fun a ha => by
    by_cases h1 : s.index a < s.index v
    · exact .inl ((hP1 a).2 ⟨ha, h1⟩)
    · exact .inr ((hP2 a).2 ⟨ha, by omega⟩)
  have hsegv : ∀ {w}, s.index v ≤ s.index w → Seg s.index (v :: rest.map (·.1)) w v := fun {w} hvw =>
    ⟨by simp, hvw, fun x hx _ => by
      rcases List.mem_cons.1 hx with e | hx
      · rw [e]; exact Nat.le_refl _
      · have := hrv x hx; omega⟩
  have hseg : ∀ {w y}, s.index w < s.index v → Seg s.index (rest.map (·.1)) w y → Seg s.index (v :: rest.map (·.1)) w y := fun {w y} hwv hy =>
    ⟨List.mem_cons_of_mem _ hy.1, hy.2.1, fun x hx hxw => by
      rcases List.mem_cons.1 hx with e | hx
      · rw [e] at hxw; omega
      · exact hy.2.2 x hx hxw⟩
  have hmut : ∀ a ∈ P2, Rch g a v ∧ Rch g v a := fun a ha => own a ((hP2 a).1 ha).1 v (hsegv ((hP2 a).1 ha).2)
  have hexp : ∀ a ∈ P2, ∀ u ∈ nxs g a, Exp g ((v, k) :: rest) a u := fun a ha u hu => by
    refine (exp_done hk hvr).1 (.inl ⟨fun hm => ?_, hu⟩)
    have := hrv a hm
    have := ((hP2 a).1 ha).2
    omega
  have hout : ∀ a ∈ P2, ∀ u ∈ nxs g a, u ∈ P2 ∨ (s.index u ≠ 0 ∧ u ∉ s.pile) := fun a ha u hu => by
    have hE := hexp a ha u hu
    have hp := (hP2 a).1 ha
    have hv0 := (ex a u (vis a hp.1) hE).resolve_right (by simp)
    by_cases hup : u ∈ s.pile
    · have := lo2 a hp.1 v (hsegv hp.2) u hE hup
      exact .inl ((hP2 u).2 ⟨hup, by omega⟩)
    · exact .inr ⟨hv0, hup⟩
  have hDs : ∀ {a b}, Rch g a b → (s.index a ≠ 0 ∧ a ∉ s.pile) → (s.index b ≠ 0 ∧ b ∉ s.pile) := fun {a b} hab ha => by
    induction hab with
    | refl => exact ha
    | step _ hu ih => exact cl _ ih.1 ih.2 _ hu
  have hPs : ∀ {a b}, Rch g a b → a ∈ P2 → b ∈ P2 ∨ (s.index b ≠ 0 ∧ b ∉ s.pile) := fun {a b} hab ha => by
    induction hab with
    | refl => exact .inl ha
    | step _ hu ih =>
      rcases ih with ih | ih
      · exact hout _ ih _ hu
      · exact .inr (cl _ ih.1 ih.2 _ hu)
  have hback : ∀ {a b}, a ∈ P2 → Rch g a b → Rch g b a → b ∈ P2 := fun {a b} ha hab hba => (hPs hab ha).resolve_right fun hb => (hDs hba hb).2 ((hP2 a).1 ha).1
  have hD' : ∀ a, (s.index a ≠ 0 ∧ a ∉ P1) ↔ ((s.index a ≠ 0 ∧ a ∉ s.pile) ∨ a ∈ P2) := fun a => by
    constructor
    · rintro ⟨h1, h2⟩
      by_cases hp : a ∈ s.pile
      · exact .inr ((hin a hp).resolve_left h2)
      · exact .inl ⟨h1, hp⟩
    · rintro (⟨h1, h2⟩ | h1)
      · exact ⟨h1, fun hm => h2 ((hP1 a).1 hm).1⟩
      · refine ⟨vis a ((hP2 a).1 h1).1, fun hm => ?_⟩
        have := ((hP1 a).1 hm).2
        have := ((hP2 a).1 h1).2
        omega
  constructor <;> simp only [wayN]
  · exact cnt
  · exact inj
  · exact pil1
  · exact fun a ha => vis a ((hP1 a).1 ha).1
  · intro a
    rw [off_get]
    by_cases ha : a ∈ P2
    · rw [if_pos ha]
      refine ⟨fun h => (Bool.false_ne_true h).elim, fun hm => ?_⟩
      have := ((hP1 a).1 hm).2
      have := ((hP2 a).1 ha).2
      omega
    · rw [if_neg ha, on a]
      exact ⟨fun hm => (hin a hm).resolve_right ha, fun hm => ((hP1 a).1 hm).1⟩
  · exact fun y hy => (hP1 y).2 ⟨wp y (List.mem_cons_of_mem _ hy), hrv y hy⟩
  · exact (List.pairwise_cons.1 wo).2
  · exact (List.pairwise_cons.1 wc).2
  · exact fun a w ha hE => ex a w ha ((exp_done hk hvr).1 hE)
  · intro a ha hap u hu
    rcases (hD' a).1 ⟨ha, hap⟩ with h1 | h1
    · exact (hD' u).2 (.inl (cl a h1.1 h1.2 u hu))
    · exact (hD' u).2 ((hout a h1 u hu).symm)
  · intro w hw2
    obtain ⟨h1, h2⟩ := (hP1 w).1 hw2
    obtain ⟨y, h3, h4⟩ := base w h1
    exact ⟨y, (List.mem_cons.1 h3).resolve_left (fun e => by rw [e] at h4; omega), h4⟩
  · intro w hw2 y hy
    obtain ⟨h1, h2⟩ := (hP1 w).1 hw2
    exact own w h1 y (hseg h2 hy)
  · intro y hy
    obtain ⟨h1, x, h2, h3, h4⟩ := lo1 y (List.mem_cons_of_mem _ hy)
    have := hrv y hy
    exact ⟨h1, x, (hP1 x).2 ⟨h2, by omega⟩, h3, h4⟩
  · intro w hw2 y hy x hE hx
    obtain ⟨h1, h2⟩ := (hP1 w).1 hw2
    exact lo2 w h1 y (hseg h2 hy) x ((exp_done hk hvr).1 hE) ((hP1 x).1 hx).1
  · have hself : ∀ a ∈ P2, Rch1 g a a → 1 < P2.length ∨ v ∈ nxs g v := fun a ha hc => by
      by_cases hlen : 1 < P2.length
      · exact .inl hlen
      · right
        have hone : ∀ b ∈ P2, b = v := fun b hb => by
          cases P2 with
          | nil => simp at hb
          | cons x l =>
            have hl0 : l = [] := List.eq_nil_of_length_eq_zero (by simp only [List.length_cons] at hlen; omega)
            subst hl0
            simp at hb hne
            rw [hb, hne]
        rw [hone a ha] at hc
        obtain ⟨c, h1, h2⟩ := hc
        have h3 := hback hne (Rch.one h1) h2
        rw [hone c h3] at h1
        exact h1
    have hel : ∀ r ∈ s.rings, ∃ part : List Nat, r = sortN part ∧ part.Nodup ∧ part ≠ [] ∧ (∀ a ∈ part, s.index a ≠ 0 ∧ a ∉ P1) ∧ ∀ a ∈ part, ∀ b, b ∈ part ↔ Rch1 g a b ∧ Rch1 g b a := fun r hr => by
      obtain ⟨part, h1, h2, h3, h4, h5⟩ := ro.el r hr
      exact ⟨part, h1, h2, h3, fun a ha => (hD' a).2 (.inl (h4 a ha)), h5⟩
    by_cases hc : 1 < P2.length ∨ v ∈ nxs g v
    · rw [if_pos hc]
      have hcyc : ∀ a ∈ P2, Rch1 g a a := fun a ha => by
        by_cases hx : ∃ b ∈ P2, b ≠ a
        · obtain ⟨b, hb, hba⟩ := hx
          have h1 : Rch g a b := (hmut a ha).1.trans (hmut b hb).2
          have h2 : Rch g b a := (hmut b hb).1.trans (hmut a ha).2
          exact ((h1.one_of).resolve_left (fun e => hba e.symm)).trans_r h2
        · have hall : ∀ b ∈ P2, b = a := fun b hb => Decidable.byContradiction fun h => hx ⟨b, hb, h⟩
          have hva := hall v hne
          rcases hc with hc | hc
          · exfalso
            cases P2 with
            | nil => simp at hc
            | cons x l =>
              cases l with
              | nil => simp at hc
              | cons y l =>
                have h1 := hall x (by simp)
                have h2 := hall y (by simp)
                simp [h1, h2] at hnd
          · rw [← hva]
            exact ⟨v, hc, Rch.refl _⟩
      refine ⟨fun r hr => ?_, fun a ha hcy => ?_, ?_⟩
      · rcases List.mem_append.1 hr with hr | hr
        · exact hel r hr
        · simp at hr
          refine ⟨P2, hr, hnd, fun e => by rw [e] at hne; simp at hne, fun a ha => (hD' a).2 (.inr ha), fun a ha b => ⟨fun hb => ?_, fun hb => hback ha hb.1.rch hb.2.rch⟩⟩
          have h1 : Rch g a b := (hmut a ha).1.trans (hmut b hb).2
          have h2 : Rch g b a := (hmut b hb).1.trans (hmut a ha).2
          exact ⟨(hcyc a ha).trans_r h1, (hcyc b hb).trans_r h2⟩
      · rcases (hD' a).1 ha with h1 | h1
        · obtain ⟨r, h2, h3⟩ := ro.all a h1 hcy
          exact ⟨r, List.mem_append_left _ h2, h3⟩
        · exact ⟨sortN P2, by simp, (List.mergeSort_perm _ _).mem_iff.2 h1⟩
      · rw [List.pairwise_append]
        refine ⟨ro.apart, by simp, fun r hr q hq a ha hm => ?_⟩
        simp at hq
        rw [hq] at hm
        have h1 := ((hP2 a).1 ((List.mergeSort_perm _ _).mem_iff.1 hm)).1
        obtain ⟨part, e1, _, _, e4, _⟩ := ro.el r hr
        rw [e1] at ha
        exact (e4 a ((List.mergeSort_perm _ _).mem_iff.1 ha)).2 h1
    · rw [if_neg hc]
      refine ⟨hel, fun a ha hcy => ?_, ro.apart⟩
      rcases (hD' a).1 ha with h1 | h1
      · exact ro.all a h1 hcy
      · exact absurd (hself a h1 hcy) hc
end Go.Proofs.Ytdlpbpohbkcafaa
