/-
  cycle.Rings: what it tells, by its first places.
-/
import Derived.Test.YtdlpbpohbkcafaaGreatCRingM
import Derived.Test.YtdlpbpohbkcafaaGreatCColl
namespace Go.Proofs.YtdlpbpohbkcafaaGreat
open Go.RowKit Go.Shelf Go.Sort Go.Proofs

/-- Rings that are told, each in a row of its own. -/
structure Told (B : Nat) (w : World) (vs : List Value) (ls : List (List Sp)) : Prop where
  len : vs.length = ls.length
  at' : ∀ i (h : i < vs.length) (h2 : i < ls.length), w.ownsRow B tSp 2 vs[i] ls[i].length (ls[i].flatMap spC)
  sep : vs.Pairwise fun a b => ∀ g, a.ownBlock = some g → b.ownBlock ≠ some g
def spotsOf (l : List Sp) (r : List Nat) : List Sp := r.map fun k => l.getD k (0, 0)
def sortL (ls : List (List Sp)) : List (List Sp) := ls.mergeSort fun a b => !ltS (hdS b) (hdS a)
/-- The rings of some nodes. -/
def ringsOf (l : List Sp) (g : Dg) : List (List Sp) := sortL ((allT g).rings.map (spotsOf l))
def RingsPost (E : Int) (l : List Sp) (G : Dg) (w : World) (e : Ending) (w1 : World) : Prop :=
  Fr [] w w1 ∧ ((E ≠ 0 ∧ e = .returned (.tuple #[.slice none 0 0, .int .i64 E])) ∨ (E = 0 ∧ ∃ sv vs, e = .returned (.tuple #[sv, .int .i64 0]) ∧ w1.ownsRow w.heap.size tS 1 sv vs.length vs ∧ Told w.heap.size w1 vs (ringsOf l G)))

theorem row_new {w : World} {b n : Nat} {z : Value} {t : TypeId} (h : w.heap[b]? = some (.cells (Array.replicate n z) t (0, 0))) : w.rowIs b t n fun _ => z :=
  ⟨_, h, by simp, fun i hi => by simp [hi]⟩
/-- Values and what lies behind them. -/
def prs (spots : List Sp) (vs : List Value) (rings : List (List Nat)) : List (Value × List Sp) := vs.zip (rings.map (spotsOf spots))
theorem prs_fst {spots : List Sp} {vs : List Value} {rings : List (List Nat)} (h : vs.length = rings.length) : (prs spots vs rings).map (·.1) = vs := by
  unfold prs
  exact List.map_fst_zip (by simp [h])
theorem prs_snd {spots : List Sp} {vs : List Value} {rings : List (List Nat)} (h : vs.length = rings.length) : (prs spots vs rings).map (·.2) = rings.map (spotsOf spots) := by
  unfold prs
  exact List.map_snd_zip (by simp [h])
theorem prs_len {spots : List Sp} {vs : List Value} {rings : List (List Nat)} (h : vs.length = rings.length) : (prs spots vs rings).length = vs.length := by
  have := congrArg List.length (prs_fst (spots := spots) h)
  simpa using this
theorem prs_mem {B : Nat} {spots : List Sp} {w : World} {vs : List Value} {rings : List (List Nat)} (h : RingsAt B spots w vs rings) {p : Value × List Sp} (hp : p ∈ prs spots vs rings) : ∃ r ∈ rings, p.2 = spotsOf spots r ∧ w.ownsRow B tSp 2 p.1 p.2.length (p.2.flatMap spC) := by
  obtain ⟨i, hi, rfl⟩ := List.getElem_of_mem hp
  have h1 : i < vs.length := by rw [prs_len h.len] at hi; exact hi
  have h2 : i < rings.length := by rw [← h.len]; exact h1
  have e : (prs spots vs rings)[i] = (vs[i], spotsOf spots rings[i]) := by simp [prs]
  rw [e]
  refine ⟨rings[i], List.getElem_mem h2, rfl, ?_⟩
  have := h.at' i h1 h2
  unfold RingAt at this
  simpa [spotsOf, List.flatMap_map] using this
theorem hdS_of (spots : List Sp) {r : List Nat} (hr : r ≠ []) : hdS (spotsOf spots r) = spots.getD (r.headD 0) (0, 0) := by
  cases r with
  | nil => exact absurd rfl hr
  | cons a l => simp [hdS, spotsOf]
theorem prs_head {B : Nat} {spots : List Sp} {w : World} {vs : List Value} {rings : List (List Nat)} (h : RingsAt B spots w vs rings) (hne : ∀ r ∈ rings, r ≠ []) {tr : Value} {n : Nat} {xs : List Value} (htr : w.ownsRow B tS 1 tr n xs) : ∀ p ∈ prs spots vs rings, HeadAt w p.1 p.2 tr.ownBlock := by
  intro p hp
  obtain ⟨r, hr, e, hown⟩ := prs_mem h hp
  obtain ⟨v, l⟩ := p
  simp only at e hown ⊢
  have hpos : 0 < l.length := by
    rw [e]
    simpa [spotsOf, List.length_pos_iff] using hne r hr
  have hno := own_not hown htr (by decide)
  obtain ⟨g, cap, cur, rfl, hb, hh, hc, hcm, hsz, htk⟩ := owns_open hown hpos
  refine ⟨hpos, g, cap, rfl, lt_of hh, fun e => hno g rfl (by simp [← e]), ?_, ?_⟩
  · refine take_cells hh htk 0 _ ?_
    cases l with
    | nil => simp at hpos
    | cons a l => simp [hdS]
  · refine take_cells hh htk 1 _ ?_
    cases l with
    | nil => simp at hpos
    | cons a l => simp [hdS]
theorem prs_nodup {spots : List Sp} (hn : spots.Nodup) {vs : List Value} {rings : List (List Nat)} (hl : vs.length = rings.length) (hne : ∀ r ∈ rings, r ≠ [] ∧ ∀ x ∈ r, x < spots.length) (hap : rings.Pairwise fun r q => ∀ x ∈ r, x ∉ q) : ((prs spots vs rings).map fun p => hdS p.2).Nodup := by
  have e : ((prs spots vs rings).map fun p => hdS p.2) = rings.map fun r => spots.getD (r.headD 0) (0, 0) := by
    have h1 : ((prs spots vs rings).map fun p => hdS p.2) = ((prs spots vs rings).map (·.2)).map hdS := by simp
    rw [h1, prs_snd hl, List.map_map]
    exact List.map_congr_left fun r hr => hdS_of spots (hne r hr).1
  rw [e]
  unfold List.Nodup
  rw [List.pairwise_map]
  refine hap.imp_of_mem fun {a b} ha hb hab e => ?_
  have h1 := (hne a ha).2 _ (head_mem (hne a ha).1)
  have h2 := (hne b hb).2 _ (head_mem (hne b hb).1)
  have h3 : spots[a.headD 0] = spots[b.headD 0] := by
    rw [List.getD_eq_getElem?_getD, List.getD_eq_getElem?_getD, List.getElem?_eq_getElem h1, List.getElem?_eq_getElem h2] at e
    exact e
  have h4 := (List.getElem_inj hn).1 h3
  refine hab _ (head_mem (hne a ha).1) ?_
  rw [h4]
  exact head_mem (hne b hb).1
theorem sortP_snd (ps : List (Value × List Sp)) : (sortP ps).map (·.2) = sortL (ps.map (·.2)) := by
  unfold sortP sortL
  rw [List.map_mergeSort]
  intro a _ b _
  rfl
theorem prs_told {B B0 : Nat} {spots : List Sp} {w w1 : World} {vs : List Value} {rings : List (List Nat)} (h : RingsAt B spots w vs rings) {tr : Value} {n : Nat} {xs : List Value} (htr : w.ownsRow B tS 1 tr n xs) (hg : w.grownBy w1 tr.ownBlock) (hB : B0 ≤ B) :
    Told B0 w1 ((sortP (prs spots vs rings)).map (·.1)) (sortL (rings.map (spotsOf spots))) := by
  have e := sortP_snd (prs spots vs rings)
  rw [prs_snd h.len] at e
  refine ⟨by rw [← e]; simp, fun i h1 h2 => ?_, ?_⟩
  · have hi : i < (sortP (prs spots vs rings)).length := by simpa using h1
    have hm : (sortP (prs spots vs rings))[i] ∈ prs spots vs rings := (sortP_perm _).mem_iff.1 (List.getElem_mem hi)
    obtain ⟨r, _, _, hown⟩ := prs_mem h hm
    have e1 : ((sortP (prs spots vs rings)).map (·.1))[i] = (sortP (prs spots vs rings))[i].1 := by simp
    have e2 : (sortL (rings.map (spotsOf spots)))[i] = (sortP (prs spots vs rings))[i].2 := by simp [← e]
    rw [e1, e2]
    exact owns_mono (owns_fr hown (fr_grown hg) (own_not hown htr (by decide))) hB
  · have hp : ((sortP (prs spots vs rings)).map (·.1)).Perm vs := by
      have := (sortP_perm (prs spots vs rings)).map (·.1)
      rwa [prs_fst h.len] at this
    exact (List.Perm.pairwise_iff (fun {a b} hab g hb ha => hab g ha hb) hp).2 h.sep
end Go.Proofs.YtdlpbpohbkcafaaGreat
