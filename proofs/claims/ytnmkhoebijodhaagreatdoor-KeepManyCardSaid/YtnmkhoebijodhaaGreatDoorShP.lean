/-
  Sheets in plain words: their bytes, their rows in row order; sheets whose cells are literals.
-/
import Derived.Test.YtnmkhoebijodhaaGreatDoorRead
import Derived.Test.YtnmkhoebijodhaaGreatDoorKpP
namespace Go.Proofs.YtnmkhoebijodhaaGreatDoor
open Go.RowKit

def bytesC : List (Sp × Cel) → Int
  | [] => 0
  | p :: l => (p.2.t.size : Int) + bytesC l
theorem bytesC_put (s : Sp) (x : Cel) : ∀ l : List (Sp × Cel), bytesC (putS s x l) = bytesC l + x.t.size - ((getS s l).getD cel0).t.size
  | [] => by
    have h0 : (cel0.t.size : Int) = 0 := rfl
    simp only [putS, getS, bytesC, Option.getD_none, h0]
    omega
  | p :: l => by
    rw [putS, getS]
    by_cases h : s = p.1
    · rw [if_pos h, if_pos h]
      simp only [bytesC, Option.getD_some]
      omega
    · rw [if_neg h, if_neg h]
      simp only [bytesC, bytesC_put s x l]
      omega
theorem bytesC_bd : ∀ {l : List (Sp × Cel)}, (∀ x ∈ l, x.2.t.size ≤ 40) → 0 ≤ bytesC l ∧ bytesC l ≤ 40 * (l.length : Int)
  | [], _ => by simp [bytesC]
  | p :: l, h => by
    have h1 := h p (by simp)
    have h2 := bytesC_bd (l := l) (fun x hx => h x (by simp [hx]))
    simp only [bytesC, List.length_cons]
    omega
theorem bytesC_perm {l m : List (Sp × Cel)} (h : l.Perm m) : bytesC l = bytesC m := by
  induction h with
  | nil => rfl
  | cons x _ ih => simp only [bytesC, ih]
  | swap x y l => simp only [bytesC]; omega
  | trans _ _ h1 h2 => exact h1.trans h2

theorem sortC_keys (l : List (Sp × Cel)) : (sortC l).map (·.1) = sortS (l.map (·.1)) := by
  unfold sortC rowsS
  rw [List.filter_eq_self.2 (fun _ _ => rfl), List.map_map]
  exact List.map_id _
theorem sortC_len (l : List (Sp × Cel)) : (sortC l).length = l.length := by
  have := congrArg List.length (sortC_keys l)
  rwa [List.length_map, (sortS_perm _).length_eq, List.length_map] at this
theorem sortC_nodup {l : List (Sp × Cel)} (h : (l.map (·.1)).Nodup) : ((sortC l).map (·.1)).Nodup := by
  rw [sortC_keys]
  exact (sortS_perm _).nodup_iff.2 h
theorem sortC_mem {l : List (Sp × Cel)} {x : Sp × Cel} (h : x ∈ sortC l) : x ∈ l := by
  unfold sortC rowsS at h
  obtain ⟨s, hs, rfl⟩ := List.mem_map.1 h
  have hs := (sortS_perm _).mem_iff.1 (List.mem_filter.1 hs).1
  cases hg : getS s l with
  | none => exact absurd hs (getS_none.1 hg)
  | some y => exact getS_mem hg
theorem getS_sortC (l : List (Sp × Cel)) (s : Sp) : getS s (sortC l) = getS s l := by
  have key : ∀ ss : List Sp, getS s (rowsS cel0 (fun _ => true) l ss) = if s ∈ ss then some ((getS s l).getD cel0) else none := by
    intro ss
    unfold rowsS
    rw [List.filter_eq_self.2 (fun _ _ => rfl)]
    induction ss with
    | nil => rfl
    | cons t ss ih =>
      simp only [List.map_cons, getS, ih, List.mem_cons]
      by_cases h : s = t
      · subst h; simp
      · simp [h]
  unfold sortC
  rw [key]
  cases hg : getS s l with
  | none => rw [if_neg (fun h => getS_none.1 hg ((sortS_perm _).mem_iff.1 h))]
  | some x =>
    rw [if_pos]
    · rfl
    · rw [(sortS_perm _).mem_iff]
      exact Classical.byContradiction fun hn => by rw [getS_none.2 hn] at hg; cases hg

theorem sortS_id {l : List Sp} (h : l.Pairwise fun s t => s.1 < t.1 ∨ (s.1 = t.1 ∧ s.2 < t.2)) : sortS l = l :=
  List.mergeSort_of_pairwise (h.imp fun {a b} h => by simp only [ltS, Bool.not_eq_true', decide_eq_false_iff_not]; omega)
theorem rows_self : ∀ {l : List (Sp × Cel)}, (l.map (·.1)).Nodup → rowsS cel0 (fun _ => true) l (l.map (·.1)) = l := by
  intro l hn
  unfold rowsS
  rw [List.filter_eq_self.2 (fun _ _ => rfl), List.map_map]
  refine List.ext_getElem (by simp) fun i h1 h2 => ?_
  simp only [List.getElem_map, Function.comp]
  have h3 := getS_of_mem hn (show (l[i].1, l[i].2) ∈ l from List.getElem_mem _)
  rw [h3]
  rfl
theorem sortC_id {l : List (Sp × Cel)} (h : (l.map (·.1)).Pairwise fun s t => s.1 < t.1 ∨ (s.1 = t.1 ∧ s.2 < t.2)) : sortC l = l := by
  unfold sortC
  rw [sortS_id h]
  exact rows_self (h.imp fun {a b} h e => by subst e; omega)
theorem sortC_perm {l : List (Sp × Cel)} (hn : (l.map (·.1)).Nodup) : (sortC l).Perm l := by
  have nd : ∀ {m : List (Sp × Cel)}, (m.map (·.1)).Nodup → m.Nodup := fun h => List.Pairwise.of_map (fun x => x.1) (fun a b hab e => hab (by rw [e])) h
  refine (List.perm_ext_iff_of_nodup (nd (sortC_nodup hn)) (nd hn)).2 fun x => ⟨sortC_mem, fun hx => ?_⟩
  have := getS_of_mem hn (show (x.1, x.2) ∈ l from hx)
  rw [← getS_sortC] at this
  exact getS_mem this

/-- Cells that are literals of at most 40 bytes. -/
def Lits (l : List (Sp × Cel)) : Prop := ∀ x ∈ l, ∃ t, x.2 = litC t ∧ 0 < t.size ∧ t.size ≤ 40

/-- What setting them one behind the other makes. -/
def insR {α : Type} (l : List (Sp × α)) : List (Sp × α) := l.foldl (fun m x => setL x.1 x.2 m) []
theorem insR_snoc {α : Type} (l : List (Sp × α)) (x : Sp × α) : insR (l ++ [x]) = setL x.1 x.2 (insR l) := by simp [insR]
theorem insR_self {α : Type} : ∀ (n : Nat) (l : List (Sp × α)), l.length = n → (l.map (·.1)).Nodup → (∀ x ∈ l, mayS x.1.1 x.1.2 = true) → l.length ≤ 65536 → insR l = l
  | 0, l, h, _, _, _ => by
    rw [List.eq_nil_of_length_eq_zero h]
    rfl
  | n + 1, l, h, hn, hm, hl => by
    rcases List.eq_nil_or_concat l with rfl | ⟨l', x, rfl⟩
    · simp at h
    · rw [List.concat_eq_append] at *
      have h1 : l'.length = n := by simpa using h
      rw [List.map_append, List.nodup_append] at hn
      have hx : getS x.1 l' = none := by
        rw [getS_none]
        intro hx
        exact hn.2.2 _ hx x.1 (by simp) rfl
      rw [insR_snoc, insR_self n l' h1 hn.1 (fun y hy => hm y (by simp [hy])) (by simp at hl; omega)]
      have e0 : setE x.1 l' = 0 := by
        unfold setE
        rw [if_neg (by rw [hm x (by simp)]; simp), if_neg (by simp at hl; omega)]
      unfold setL
      rw [if_pos e0, put_none (idx_none hx)]
theorem Lits.short {l : List (Sp × Cel)} (h : Lits l) : ∀ x ∈ l, x.2.t.size ≤ 40 := fun x hx => by
  obtain ⟨t, e, _, h⟩ := h x hx
  rw [e]
  exact h
theorem Lits.sort {l : List (Sp × Cel)} (h : Lits l) : Lits (sortC l) := fun x hx => h x (sortC_mem hx)
theorem mem_put {α : Type} {s : Sp} {v : α} : ∀ {l : List (Sp × α)} {x : Sp × α}, x ∈ putS s v l → x ∈ l ∨ x = (s, v)
  | [], x, h => by simpa [putS] using h
  | p :: l, x, h => by
    rw [putS] at h
    split at h
    · rcases List.mem_cons.1 h with h | h
      · exact .inr h
      · exact .inl (by simp [h])
    · rcases List.mem_cons.1 h with h | h
      · exact .inl (by simp [h])
      · rcases mem_put h with h | h
        · exact .inl (by simp [h])
        · exact .inr h
theorem Lits.put {l : List (Sp × Cel)} (h : Lits l) {s : Sp} {t : ByteArray} (h0 : 0 < t.size) (h1 : t.size ≤ 40) : Lits (putS s (litC t) l) := fun x hx => by
  rcases mem_put hx with hx | rfl
  · exact h x hx
  · exact ⟨t, rfl, h0, h1⟩
theorem Lits.what {l : List (Sp × Cel)} (h : Lits l) (s : Sp) : ((getS s l).getD cel0).k ≠ 3 := by
  cases hg : getS s l with
  | none => simp [cel0]
  | some y =>
    obtain ⟨t, e, _⟩ := h _ (getS_mem hg)
    simp only [Option.getD_some]
    rw [show y = litC t from e]
    simp [litC]
/-- Every place is one. -/
def Mays {α : Type} (l : List (Sp × α)) : Prop := ∀ x ∈ l, mayS x.1.1 x.1.2 = true
theorem Mays.put {α : Type} {l : List (Sp × α)} (h : Mays l) {s : Sp} {v : α} (hs : mayS s.1 s.2 = true) : Mays (putS s v l) := fun x hx => by
  rcases mem_put hx with hx | rfl
  · exact h x hx
  · exact hs
theorem Mays.sort {l : List (Sp × Cel)} (h : Mays l) : Mays (sortC l) := fun x hx => h x (sortC_mem hx)

/-- What edits that set literals make. -/
def setsC (es : List (Sp × ByteArray)) (l : List (Sp × Cel)) : List (Sp × Cel) := es.foldl (fun m e => putS e.1 (litC e.2) m) l
theorem setsC_snoc (es : List (Sp × ByteArray)) (e : Sp × ByteArray) (l : List (Sp × Cel)) : setsC (es ++ [e]) l = putS e.1 (litC e.2) (setsC es l) := by simp [setsC]
/-- Edits that are good: places that may be, texts of 1 to 40 bytes that begin with no =. -/
def GoodE (es : List (Sp × ByteArray)) : Prop := ∀ e ∈ es, mayS e.1.1 e.1.2 = true ∧ LitT e.2
theorem setsC_lits {l : List (Sp × Cel)} : ∀ {es : List (Sp × ByteArray)}, GoodE es → Lits l → Mays l → (l.map (·.1)).Nodup → Lits (setsC es l) ∧ Mays (setsC es l) ∧ ((setsC es l).map (·.1)).Nodup := by
  intro es
  induction es generalizing l with
  | nil => exact fun _ h1 h2 h3 => ⟨h1, h2, h3⟩
  | cons e es ih =>
    intro hg h1 h2 h3
    obtain ⟨g1, g2⟩ := hg e (by simp)
    exact ih (l := putS e.1 (litC e.2) l) (fun x hx => hg x (by simp [hx])) (h1.put g2.pos g2.le) (h2.put g1) (putS_nodup h3)
theorem setsC_len {l : List (Sp × Cel)} (es : List (Sp × ByteArray)) : l.length ≤ (setsC es l).length := by
  induction es generalizing l with
  | nil => exact Nat.le_refl _
  | cons e es ih =>
    refine Nat.le_trans ?_ (ih (l := putS e.1 (litC e.2) l))
    rw [putS_length]
    split <;> omega
end Go.Proofs.YtnmkhoebijodhaaGreatDoor
