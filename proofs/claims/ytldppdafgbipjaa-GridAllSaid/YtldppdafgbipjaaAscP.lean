/-
  A map against the list in row order: where a place stands, what a store and a delete make of the list. No program in sight.
-/
import Derived.Test.YtldppdafgbipjaaOver
namespace Go.Proofs.Ytldppdafgbipjaa

theorem lt_irr (s : Sp) : ltS s s = false := by simp [ltS]
theorem lt_tr {a b c : Sp} (h : ltS a b = true) (k : ltS b c = true) : ltS a c = true := by
  simp only [ltS, decide_eq_true_eq] at *; omega
theorem lt_ne {a b : Sp} (h : ltS a b = true) : b ≠ a := fun e => by rw [e, lt_irr] at h; cases h

section
variable {α : Type}
/-- In row order, no place twice. -/
abbrev Srt (R : List (Sp × α)) : Prop := (R.map (·.1)).Pairwise fun a b => ltS a b = true

/-- Where a place stands, or would stand. -/
def posS (s : Sp) : List (Sp × α) → Nat
  | [] => 0
  | p :: R => if ltS p.1 s then posS s R + 1 else 0
def insR (s : Sp) (x : α) (R : List (Sp × α)) : List (Sp × α) := R.take (posS s R) ++ (s, x) :: R.drop (posS s R)

theorem pos_le (s : Sp) : ∀ R : List (Sp × α), posS s R ≤ R.length
  | [] => by simp [posS]
  | p :: R => by
    simp only [posS, List.length_cons]
    have := pos_le s R
    split <;> omega

theorem Srt.tail {p : Sp × α} {R : List (Sp × α)} (h : Srt (p :: R)) : Srt R := (List.pairwise_cons.1 h).2
theorem Srt.head {p : Sp × α} {R : List (Sp × α)} (h : Srt (p :: R)) : ∀ q ∈ R, ltS p.1 q.1 = true := fun q hq => (List.pairwise_cons.1 h).1 q.1 (List.mem_map_of_mem (f := (·.1)) hq)
theorem Srt.nodup {R : List (Sp × α)} (h : Srt R) : (R.map (·.1)).Nodup := List.nodup_iff_pairwise_ne.2 (List.Pairwise.imp (fun {a b} (h : ltS a b = true) (e : a = b) => lt_ne h e.symm) h)

theorem pos_lt {s : Sp} : ∀ {R : List (Sp × α)}, Srt R → ∀ i (h : i < R.length), ltS R[i].1 s = decide (i < posS s R)
  | [], _, i, h => by simp at h
  | p :: R, hR, i, h => by
    by_cases hp : ltS p.1 s = true
    · have e : posS s (p :: R) = posS s R + 1 := by simp [posS, hp]
      rw [e]
      cases i with
      | zero => simpa using hp
      | succ i =>
        have := pos_lt hR.tail i (by simpa using h) (s := s)
        simpa using this
    · have e : posS s (p :: R) = 0 := by simp [posS, hp]
      rw [e]
      have hp : ltS p.1 s = false := by simpa using hp
      cases i with
      | zero => simpa using hp
      | succ i =>
        have hi : i < R.length := by simpa using h
        have h1 := hR.head R[i] (List.getElem_mem hi)
        simp only [List.getElem_cons_succ, Nat.not_lt_zero, decide_false]
        cases h2 : ltS R[i].1 s with
        | false => rfl
        | true => rw [lt_tr h1 h2] at hp; cases hp

theorem pos_get {s : Sp} : ∀ {R : List (Sp × α)}, Srt R → getS s R = (R[posS s R]?).bind fun p => if p.1 = s then some p.2 else none
  | [], _ => rfl
  | p :: R, hR => by
    simp only [posS, getS]
    cases hp : ltS p.1 s with
    | true =>
      rw [if_neg (fun e => by rw [← e, lt_irr] at hp; cases hp), if_pos rfl, List.getElem?_cons_succ]
      exact pos_get hR.tail
    | false =>
      rw [if_neg (show ¬ (false = true) by simp), List.getElem?_cons_zero]
      by_cases e : s = p.1
      · rw [if_pos e]; simp [e]
      · rw [if_neg e]
        simp only [Option.bind_some]
        rw [if_neg (fun h => e h.symm)]
        refine getS_none.2 fun hm => ?_
        obtain ⟨q, hq, rfl⟩ := List.mem_map.1 hm
        rw [hR.head q hq] at hp
        cases hp

/-- What stands there, if it does. -/
theorem pos_yes {s : Sp} {R : List (Sp × α)} (hR : Srt R) {x : α} (h : getS s R = some x) : ∃ hl : posS s R < R.length, R[posS s R] = (s, x) := by
  rw [pos_get hR] at h
  cases hg : R[posS s R]? with
  | none => rw [hg] at h; simp at h
  | some p =>
    obtain ⟨hl, hp⟩ := List.getElem?_eq_some_iff.1 hg
    rw [hg] at h
    simp only [Option.bind_some] at h
    split at h
    · rename_i e
      cases h
      exact ⟨hl, by rw [hp, ← e]⟩
    · cases h
theorem pos_no {s : Sp} {R : List (Sp × α)} (hR : Srt R) (h : getS s R = none) (hl : posS s R < R.length) : R[posS s R].1 ≠ s := by
  intro e
  rw [pos_get hR, List.getElem?_eq_getElem hl] at h
  simp [e] at h

theorem put_set {s : Sp} (y : α) : ∀ {R : List (Sp × α)}, Srt R → getS s R ≠ none → putS s y R = R.set (posS s R) (s, y)
  | [], _, h => by simp [getS] at h
  | p :: R, hR, h => by
    simp only [posS, putS]
    simp only [getS] at h
    by_cases e : s = p.1
    · rw [if_pos e, ← e, lt_irr, if_neg (by simp)]; rfl
    · rw [if_neg e] at h ⊢
      cases hp : ltS p.1 s with
      | true => rw [if_pos rfl, List.set_cons_succ, put_set y hR.tail h]
      | false =>
        refine absurd (getS_none.2 fun hm => ?_) h
        obtain ⟨q, hq, rfl⟩ := List.mem_map.1 hm
        rw [hR.head q hq] at hp
        cases hp
theorem del_erase {s : Sp} : ∀ {R : List (Sp × α)}, Srt R → getS s R ≠ none → delS s R = R.eraseIdx (posS s R)
  | [], _, h => by simp [getS] at h
  | p :: R, hR, h => by
    simp only [posS, delS]
    simp only [getS] at h
    by_cases e : s = p.1
    · rw [if_pos e, ← e, lt_irr, if_neg (by simp)]; rfl
    · rw [if_neg e] at h ⊢
      cases hp : ltS p.1 s with
      | true => rw [if_pos rfl, List.eraseIdx_cons_succ, del_erase hR.tail h]
      | false =>
        refine absurd (getS_none.2 fun hm => ?_) h
        obtain ⟨q, hq, rfl⟩ := List.mem_map.1 hm
        rw [hR.head q hq] at hp
        cases hp

theorem getS_app (t : Sp) : ∀ (A B : List (Sp × α)), getS t (A ++ B) = (getS t A).or (getS t B)
  | [], B => by simp [getS]
  | p :: A, B => by
    simp only [List.cons_append, getS]
    split
    · rfl
    · exact getS_app t A B
theorem ins_get {s : Sp} (y : α) {R : List (Sp × α)} (h : getS s R = none) (t : Sp) : getS t (insR s y R) = if t = s then some y else getS t R := by
  have e : getS t R = (getS t (R.take (posS s R))).or (getS t (R.drop (posS s R))) := by rw [← getS_app, List.take_append_drop]
  unfold insR
  rw [getS_app, e]
  simp only [getS]
  split
  · rename_i ht
    subst ht
    rw [e] at h
    cases h1 : getS t (R.take (posS t R)) with
    | none => rfl
    | some v => rw [h1] at h; simp at h
  · rfl
theorem ins_len (s : Sp) (y : α) (R : List (Sp × α)) : (insR s y R).length = R.length + 1 := by
  have := pos_le s R
  unfold insR
  rw [List.length_append, List.length_cons, List.length_take, List.length_drop]
  omega
theorem ins_srt {s : Sp} (y : α) : ∀ {R : List (Sp × α)}, Srt R → getS s R = none → Srt (insR s y R)
  | [], _, _ => by simp [insR, posS, Srt]
  | p :: R, hR, h => by
    simp only [getS] at h
    by_cases e : s = p.1
    · rw [if_pos e] at h; cases h
    · rw [if_neg e] at h
      cases hp : ltS p.1 s with
      | true =>
        have ih := ins_srt y hR.tail h
        have e2 : insR s y (p :: R) = p :: insR s y R := by simp [insR, posS, hp]
        rw [e2]
        refine List.pairwise_cons.2 ⟨fun q hq => ?_, ih⟩
        obtain ⟨z, hz, rfl⟩ := List.mem_map.1 hq
        unfold insR at hz
        rw [List.mem_append, List.mem_cons] at hz
        rcases hz with hz | rfl | hz
        · exact hR.head z (List.mem_of_mem_take hz)
        · exact hp
        · exact hR.head z (List.mem_of_mem_drop hz)
      | false =>
        have e2 : insR s y (p :: R) = (s, y) :: p :: R := by simp [insR, posS, hp]
        rw [e2]
        have h1 : ltS s p.1 = true := by
          cases h2 : ltS s p.1 with
          | true => rfl
          | false => exact absurd (totS s p.1 h2 hp) e
        refine List.pairwise_cons.2 ⟨fun q hq => ?_, hR⟩
        obtain ⟨z, hz, rfl⟩ := List.mem_map.1 hq
        rcases List.mem_cons.1 hz with rfl | hz
        · exact h1
        · exact lt_tr h1 (hR.head z hz)

/-- R is what l holds, in row order. -/
structure Asc (R l : List (Sp × α)) : Prop where
  srt : Srt R
  get : ∀ s, getS s R = getS s l
  len : R.length = l.length
theorem Asc.nil : Asc ([] : List (Sp × α)) [] := ⟨List.Pairwise.nil, fun _ => rfl, rfl⟩
theorem set_keys {R : List (Sp × α)} {i : Nat} {s : Sp} {x y : α} (hl : i < R.length) (h : R[i] = (s, x)) : (R.set i (s, y)).map (·.1) = R.map (·.1) := by
  rw [List.map_set]
  refine List.ext_getElem (by simp) fun j h1 h2 => ?_
  rw [List.getElem_set]
  split
  · rename_i e; subst e; simp [h]
  · rfl
theorem Asc.set {R l : List (Sp × α)} (h : Asc R l) {s : Sp} (y : α) (hs : getS s l ≠ none) : Asc (R.set (posS s R) (s, y)) (putS s y l) := by
  rw [← h.get] at hs
  obtain ⟨x, hx⟩ : ∃ x, getS s R = some x := Option.ne_none_iff_exists'.1 hs
  obtain ⟨hl, he⟩ := pos_yes h.srt hx
  refine ⟨?_, fun t => ?_, ?_⟩
  · unfold Srt; rw [set_keys hl he]; exact h.srt
  · rw [← put_set y h.srt hs, getS_put, getS_put, h.get]
  · rw [List.length_set, putS_length, ← h.get, hx, h.len]; rfl
theorem Asc.ins {R l : List (Sp × α)} (h : Asc R l) {s : Sp} (y : α) (hs : getS s l = none) : Asc (insR s y R) (putS s y l) := by
  have hs2 := hs
  rw [← h.get] at hs
  refine ⟨ins_srt y h.srt hs, fun t => ?_, ?_⟩
  · rw [ins_get y hs, getS_put, h.get]
  · rw [ins_len, putS_length, hs2, h.len]; rfl
theorem Asc.del {R l : List (Sp × α)} (h : Asc R l) (hn : (l.map (·.1)).Nodup) {s : Sp} (hs : getS s l ≠ none) : Asc (R.eraseIdx (posS s R)) (delS s l) := by
  have hs2 := hs
  rw [← h.get] at hs
  obtain ⟨x, hx⟩ : ∃ x, getS s R = some x := Option.ne_none_iff_exists'.1 hs
  obtain ⟨hl, _⟩ := pos_yes h.srt hx
  refine ⟨?_, fun t => ?_, ?_⟩
  · rw [← del_erase h.srt hs]
    exact h.srt.sublist ((delS_sub s R).map _)
  · rw [← del_erase h.srt hs, getS_del t h.srt.nodup, getS_del t hn, h.get]
  · rw [List.length_eraseIdx, delS_length, ← h.get, hx, if_pos hl, h.len]; rfl

theorem Asc.keys {R l : List (Sp × α)} (h : Asc R l) (hn : (l.map (·.1)).Nodup) : sortS (l.map (·.1)) = R.map (·.1) := by
  have hp : (l.map (·.1)).Perm (R.map (·.1)) := (List.perm_ext_iff_of_nodup hn h.srt.nodup).2 fun s => by
    have h1 := @getS_none _ s l
    have h2 := @getS_none _ s R
    rw [h.get] at h2
    exact ⟨fun hm => Classical.byContradiction fun hm2 => h1.1 (h2.2 hm2) hm, fun hm => Classical.byContradiction fun hm2 => h2.1 (h1.2 hm2) hm⟩
  refine List.Perm.eq_of_pairwise (le := fun x y => ltS y x = false) ?_ (sortS_le _) (h.srt.imp fun {a b} hab => ?_) ((sortS_perm _).trans hp)
  · intro x y _ _ h1 h2
    exact totS x y h2 h1
  · cases hb : ltS b a with
    | false => rfl
    | true => have := lt_tr hab hb; rw [lt_irr] at this; cases this
theorem Asc.rows {R l : List (Sp × α)} (h : Asc R l) (hn : (l.map (·.1)).Nodup) (z : α) (p : Sp → Bool) : rowsS z p l (sortS (l.map (·.1))) = R.filter fun x => p x.1 := by
  rw [h.keys hn]
  unfold rowsS
  rw [List.filter_map, List.map_map]
  refine List.ext_getElem? fun i => ?_
  rw [List.getElem?_map]
  cases hg : (R.filter ((fun s => p s) ∘ fun x => x.1))[i]? with
  | none =>
    have : (R.filter fun x => p x.1)[i]? = none := hg
    rw [this]; rfl
  | some x =>
    have h2 : (R.filter fun x => p x.1)[i]? = some x := hg
    have hm : x ∈ R := (List.mem_filter.1 (List.mem_of_getElem? h2)).1
    rw [h2, Option.map_some]
    have hx : getS x.1 l = some x.2 := by rw [← h.get]; exact getS_of_mem h.srt.nodup hm
    simp [hx]
end
end Go.Proofs.Ytldppdafgbipjaa
