/-
  A table of numbers and the document's beside it: what each call makes of both.
-/
import Derived.Test.YtldppdafgbipjaaRef7S
import Derived.Test.YtldppdafgbipjaaLoopK
namespace Go.Proofs.Ytldppdafgbipjaa
open Go.RowKit

/-- What Drop makes of the list. -/
def refD (s : Sp) (R : List (Sp × Int)) : List (Sp × Int) := if (getS s R).isSome then R.eraseIdx (posS s R) else R

section
variable {l R : List (Sp × Int)}
theorem Asc.setE (h : Asc R l) (s : Sp) : setE s R = Proofs.Ytldppdafgbipjaa.setE s l := by
  unfold Proofs.Ytldppdafgbipjaa.setE
  rw [h.get, h.len]
theorem Asc.setL (h : Asc R l) (s : Sp) (x : Int) : Asc (refL s x R) (Proofs.Ytldppdafgbipjaa.setL s x l) := by
  unfold refL Proofs.Ytldppdafgbipjaa.setL
  rw [h.setE]
  by_cases h0 : Proofs.Ytldppdafgbipjaa.setE s l = 0
  · rw [if_pos h0, if_pos h0, h.get]
    cases hg : getS s l with
    | none =>
      rw [if_neg (by simp)]
      exact h.ins x hg
    | some z =>
      rw [if_pos (by simp)]
      exact h.set x (by rw [hg]; simp)
  · rw [if_neg h0, if_neg h0]
    exact h
theorem Asc.delD (h : Asc R l) (hn : (l.map (·.1)).Nodup) (s : Sp) : Asc (refD s R) (delS s l) := by
  unfold refD
  rw [h.get]
  cases hg : getS s l with
  | none =>
    rw [if_neg (by simp)]
    refine ⟨h.srt, fun t => ?_, ?_⟩
    · rw [getS_del t hn, h.get]
      split
      · rename_i e; rw [e, hg]
      · rfl
    · rw [delS_length, hg, h.len]; rfl
  | some z =>
    rw [if_pos (by simp)]
    exact h.del hn (by rw [hg]; simp)
theorem setL_len {s : Sp} {x : Int} (hl : l.length ≤ 65536) : (Proofs.Ytldppdafgbipjaa.setL s x l).length ≤ 65536 := by
  unfold Proofs.Ytldppdafgbipjaa.setL
  by_cases h0 : Proofs.Ytldppdafgbipjaa.setE s l = 0
  · rw [if_pos h0, putS_length]
    split
    · exact hl
    · rename_i hs
      have hnn : (getS s l).isNone = true := by
        cases hg : getS s l with
        | none => rfl
        | some _ => rw [hg] at hs; simp at hs
      unfold Proofs.Ytldppdafgbipjaa.setE at h0
      split at h0
      · cases h0
      · split at h0
        · cases h0
        · rename_i h1 h2
          have : l.length ≠ 65536 := fun e => h2 ⟨hnn, e⟩
          omega
  · rw [if_neg h0]
    exact hl
theorem delS_len (s : Sp) (hl : l.length ≤ 65536) : (delS s l).length ≤ 65536 := Nat.le_trans (delS_sub s l).length_le hl
end

theorem set7 (rb : Nat) (vA vX : Value) (R : List (Sp × Int)) (s : Sp) (x : Int) (w : World) (h : RIn w rb vA vX R R) (hR : Srt R) (hl : R.length ≤ 65536) :
    Calls Try.prog 71 #[.pointer (some ⟨rb, 0, none⟩), spV s, .int .i64 x] w fun e w1 => e = .returned (.int .i64 (setE s R)) ∧ ∃ vA' vX', RIn w1 rb vA' vX' (refL s x R) (refL s x R) ∧ Turns rb vA vX w vA' vX' w1 := by
  cases hm : mayS s.1 s.2 with
  | false =>
    have e : setE s R = 10 := by unfold setE; rw [if_pos hm]
    have e2 : refL s x R = R := by unfold refL; rw [e, if_neg (by decide)]
    rw [e, e2]
    refine (set7N rb s x w hm).mono ?_
    rintro _ w1 ⟨rfl, hF⟩
    exact ⟨rfl, vA, vX, h.fr hF, hF.mono (by simp), fun g hg => .inl hg⟩
  | true =>
    cases hg : (getS s R).isSome with
    | true =>
      have e : setE s R = 0 := by
        unfold setE
        rw [if_neg (by simp [hm]), if_neg (fun hh => by
          have := hh.1
          cases hq : getS s R with
          | none => rw [hq] at hg; cases hg
          | some z => rw [hq] at this; cases this)]
      have e2 : refL s x R = R.set (posS s R) (s, x) := by unfold refL; rw [if_pos e, if_pos hg]
      rw [e, e2]
      refine (set7T rb vA vX R s x w h hR hl hm hg).mono ?_
      rintro _ w1 ⟨rfl, hk, hF⟩
      exact ⟨rfl, vA, vX, hk, hF, fun g hg => .inl hg⟩
    | false =>
      have hn : (getS s R).isNone = true := by
        cases hq : getS s R with
        | none => rfl
        | some z => rw [hq] at hg; cases hg
      by_cases hf : R.length = 65536
      · have e : setE s R = 4 := by unfold setE; rw [if_neg (by simp [hm]), if_pos ⟨hn, hf⟩]
        have e2 : refL s x R = R := by unfold refL; rw [e, if_neg (by decide)]
        rw [e, e2]
        refine (set7F rb vA vX R s x w h hR hf hm hg).mono ?_
        rintro _ w1 ⟨rfl, hF⟩
        exact ⟨rfl, vA, vX, h.fr hF, hF.mono (by simp), fun g hg => .inl hg⟩
      · have e : setE s R = 0 := by unfold setE; rw [if_neg (by simp [hm]), if_neg (fun hh => hf hh.2)]
        have e2 : refL s x R = insR s x R := by unfold refL; rw [if_pos e, if_neg (by rw [hg]; simp)]
        rw [e, e2]
        exact set7I rb vA vX R s x w h hR (by omega) hm hg

/-- A table and the document's, in the blocks S. -/
def TR (S : List Nat) (w : World) (tb mb rb : Nat) (l R : List (Sp × Int)) : Prop :=
  ∃ vA vX, TabIs 148 (fun x : Int => .int .i64 x) w tb mb l ∧ RIn w rb vA vX R R ∧ tb ∈ S ∧ mb ∈ S ∧ (∀ g ∈ rBl rb vA vX, g ∈ S) ∧ ∀ g ∈ S, g < w.heap.size

section
variable {S : List Nat} {w w1 : World} {tb rb mb : Nat} {vA vX : Value} {l R : List (Sp × Int)}
theorem TR.tab (h : TR S w tb mb rb l R) : TabIs 148 (fun x : Int => .int .i64 x) w tb mb l := by
  obtain ⟨vA, vX, hT, _⟩ := h
  exact hT
theorem TR.apart (hT : TabIs 148 (fun x : Int => .int .i64 x) w tb mb l) (hR : RIn w rb vA vX R R) : ∀ g ∈ rBl rb vA vX, g ∉ [tb, mb] := by
  have ht := hT.tab
  obtain ⟨es, clock, hm, _⟩ := hT.map
  have key : ∀ g cs e fr, w.heap[g]? = some (.cells cs e fr) → e ≠ 148 → g ∉ [tb, mb] := fun g cs e fr hh hne hmem => by
    simp only [List.mem_cons, List.not_mem_nil, or_false] at hmem
    rcases hmem with rfl | rfl
    · rw [ht] at hh
      injection hh with hh
      injection hh with h1 h2 h3
      exact hne h2.symm
    · rw [hm] at hh
      cases hh
  intro g hg
  simp only [rBl, List.mem_cons, List.mem_append, Option.mem_toList] at hg
  rcases hg with rfl | hg | hg
  · exact key _ _ _ _ hR.tab (by decide)
  · obtain ⟨_, hh⟩ := own_heap hR.at' hg
    exact key _ _ _ _ hh (by decide)
  · obtain ⟨_, hh⟩ := own_heap hR.xs hg
    exact key _ _ _ _ hh (by decide)
theorem TR.fr (h : TR S w tb mb rb l R) {S2 : List Nat} (hf : Fr S2 w w1) (hd : ∀ g ∈ S, g ∉ S2) : TR S w1 tb mb rb l R := by
  obtain ⟨vA, vX, hT, hR, h1, h2, h3, h4⟩ := h
  exact ⟨vA, vX, hT.fr hf (hd _ h1) (hd _ h2), hR.frS hf (fun g hg => hd g (h3 g hg)), h1, h2, h3, fun g hg => Nat.lt_of_lt_of_le (h4 g hg) hf.size⟩
theorem TR.fr0 (h : TR S w tb mb rb l R) (hf : Fr [] w w1) : TR S w1 tb mb rb l R := h.fr hf (by simp)

/-- It abides what the loops' book-keeping turns. -/
theorem TR.own {β : Type} {B : Nat} (hm : mb < B) (f : β → List Nat) (g g2 : β → List (Sp × Int)) : OwnFrom B (fun x W => TR (f x) W tb mb rb (g x) (g2 x)) := by
  rintro x X Y row ⟨vA, vX, hT, hR, h1, h2, h3, h4⟩ hg hr
  have hcell : ∀ {b : Nat} {cs : Array Value} {e : TypeId} {fr : Nat × Nat}, X.heap[b]? = some (.cells cs e fr) → Y.heap[b]? = some (.cells cs e fr) := fun {b cs e fr} hb => by
    refine (hg.block b (lt_of hb) (fun hrow => ?_)).trans hb
    obtain ⟨_, o, ho, hc⟩ := hr b hrow.symm
    rw [hb] at ho
    cases ho
    cases hc
  have hown : ∀ {e : TypeId} {size n : Nat} {v : Value} {xs : List Value}, X.ownsRow 0 e size v n xs → Y.ownsRow 0 e size v n xs := fun {e size n v xs} ho => by
    refine ⟨ho.1, ?_⟩
    rcases ho.2 with ho | ⟨k, cap, cur, hv, hk, hh, r⟩
    · exact .inl ho
    · exact .inr ⟨k, cap, cur, hv, hk, hcell hh, r⟩
  obtain ⟨es, clock, hmap, hrest⟩ := hT.map
  refine ⟨vA, vX, ⟨hcell hT.tab, ⟨es, clock, ?_, hrest⟩⟩, ⟨hcell hR.tab, hown hR.at', hown hR.xs⟩, h1, h2, h3, fun k hk => Nat.lt_of_lt_of_le (h4 k hk) hg.size⟩
  exact (hg.block mb (lt_of hmap) (fun hrow => by have := (hr mb hrow.symm).1; omega)).trans hmap

theorem TR.set (h : TR S w tb mb rb l R) (s : Sp) (x : Int) : Calls Try.prog 24 #[.pointer (some ⟨tb, 0, none⟩), spV s, .int .i64 x] w fun e w1 => e = .returned (.int .i64 (Proofs.Ytldppdafgbipjaa.setE s l)) ∧ TR S w1 tb mb rb (Proofs.Ytldppdafgbipjaa.setL s x l) R ∧ Fr S w w1 := by
  obtain ⟨vA, vX, hT, hR, h1, h2, h3, h4⟩ := h
  refine (set_int tb mb s x l w hT).mono ?_
  rintro e w1 ⟨he, hT1, hF⟩
  exact ⟨he, ⟨vA, vX, hT1, hR.frS hF (TR.apart hT hR), h1, h2, h3, fun g hg => Nat.lt_of_lt_of_le (h4 g hg) hF.size⟩, hF.mono (fun g hg => .inl (by simp at hg; rcases hg with rfl | rfl <;> assumption))⟩
theorem TR.drop (h : TR S w tb mb rb l R) (s : Sp) : Calls Try.prog 73 #[.pointer (some ⟨tb, 0, none⟩), spV s] w fun e w1 => e = .returned (.bool (getS s l).isSome) ∧ TR S w1 tb mb rb (delS s l) R ∧ Fr S w w1 := by
  obtain ⟨vA, vX, hT, hR, h1, h2, h3, h4⟩ := h
  refine (drop_int tb mb s l w hT).mono ?_
  rintro e w1 ⟨he, hT1, hF⟩
  exact ⟨he, ⟨vA, vX, hT1, hR.frS hF (TR.apart hT hR), h1, h2, h3, fun g hg => Nat.lt_of_lt_of_le (h4 g hg) hF.size⟩, hF.mono (fun g hg => .inl (by simp at hg; rcases hg with rfl | rfl <;> assumption))⟩
theorem TR.turns {vA' vX' : Value} {R' : List (Sp × Int)} (hT : TabIs 148 (fun x : Int => .int .i64 x) w tb mb l) (hR : RIn w rb vA vX R R) (h1 : tb ∈ S) (h2 : mb ∈ S) (h3 : ∀ g ∈ rBl rb vA vX, g ∈ S) (h4 : ∀ g ∈ S, g < w.heap.size)
    (hk : RIn w1 rb vA' vX' R' R') (ht : Turns rb vA vX w vA' vX' w1) : ∃ S', TR S' w1 tb mb rb l R' ∧ Fr S w w1 ∧ ∀ g ∈ S', g ∈ S ∨ w.heap.size ≤ g := by
  have hap := TR.apart hT hR
  refine ⟨S ++ rBl rb vA' vX', ⟨vA', vX', hT.fr ht.1 (fun hm => hap _ hm (by simp)) (fun hm => hap _ hm (by simp)), hk, by simp [h1], by simp [h2], fun g hg => by simp [hg], fun g hg => ?_⟩, ht.1.mono (fun g hg => .inl (h3 g hg)), fun g hg => ?_⟩
  · rcases List.mem_append.1 hg with hg | hg
    · exact Nat.lt_of_lt_of_le (h4 g hg) ht.1.size
    · exact hk.lt g hg
  · rcases List.mem_append.1 hg with hg | hg
    · exact .inl hg
    · exact (ht.2 g hg).imp (h3 g) id
theorem TR.rset (h : TR S w tb mb rb l R) (hs : Srt R) (hl : R.length ≤ 65536) (s : Sp) (x : Int) : Calls Try.prog 71 #[.pointer (some ⟨rb, 0, none⟩), spV s, .int .i64 x] w fun e w1 => e = .returned (.int .i64 (Proofs.Ytldppdafgbipjaa.setE s R)) ∧ ∃ S', TR S' w1 tb mb rb l (refL s x R) ∧ Fr S w w1 ∧ ∀ g ∈ S', g ∈ S ∨ w.heap.size ≤ g := by
  obtain ⟨vA, vX, hT, hR, h1, h2, h3, h4⟩ := h
  refine (set7 rb vA vX R s x w hR hs hl).mono ?_
  rintro e w1 ⟨he, vA', vX', hk, ht⟩
  exact ⟨he, TR.turns hT hR h1 h2 h3 h4 hk ht⟩
theorem TR.rdrop (h : TR S w tb mb rb l R) (hs : Srt R) (hl : R.length ≤ 65536) (s : Sp) : Calls Try.prog 74 #[.pointer (some ⟨rb, 0, none⟩), spV s] w fun e w1 => e = .returned (.bool (getS s R).isSome) ∧ ∃ S', TR S' w1 tb mb rb l (refD s R) ∧ Fr S w w1 ∧ ∀ g ∈ S', g ∈ S ∨ w.heap.size ≤ g := by
  obtain ⟨vA, vX, hT, hR, h1, h2, h3, h4⟩ := h
  refine (drop7 rb vA vX R s w hR hs hl).mono ?_
  rintro e w1 ⟨he, vA', vX', hk, ht⟩
  refine ⟨he, TR.turns hT hR h1 h2 h3 h4 ?_ ht⟩
  unfold refD
  split
  · rename_i hg
    rw [if_pos hg] at hk
    exact hk
  · rename_i hg
    rw [if_neg hg] at hk
    exact hk
end
end Go.Proofs.Ytldppdafgbipjaa
