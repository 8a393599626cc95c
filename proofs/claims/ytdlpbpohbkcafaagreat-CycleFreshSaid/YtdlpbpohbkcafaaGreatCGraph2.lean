/-
  Numbers of places: what cycle.made keeps in its map, and what it looks up. No program's step here.
-/
import Derived.Test.YtdlpbpohbkcafaaGreatCLib2
namespace Go.Proofs.YtdlpbpohbkcafaaGreat
open Go.RowKit Go.Shelf Go.Sort Go.Proofs

def numL (l : List Sp) (s : Sp) : Option Nat := if s ∈ l then some (l.idxOf s) else none
/-- A map that knows the first i places' numbers. -/
def NumMap (lst : List (Sp × Value)) (l : List Sp) (i : Nat) : Prop := ∀ s, getS s lst = if s ∈ l.take i then some (.int .i64 (l.idxOf s : Int)) else none
theorem NumMap.nil (l : List Sp) : NumMap [] l 0 := fun s => by simp [getS]
theorem idx_atS {l : List Sp} {x : Sp} {k : Nat} (hk : k < l.length) (h1 : x ∉ l.take k) (h2 : l[k] = x) : l.idxOf x = k := by
  have e : l = l.take k ++ l[k] :: l.drop (k + 1) := by rw [List.getElem_cons_drop, List.take_append_drop]
  rw [e, List.idxOf_append, if_neg h1, h2, List.idxOf_cons_self, List.length_take]
  omega
theorem NumMap.put {lst : List (Sp × Value)} {l : List Sp} {i : Nat} (h : NumMap lst l i) {s : Sp} (hi : i < l.length) (hs : l[i] = s) (hn : s ∉ l.take i) : NumMap (putS s (.int .i64 (i : Int)) lst) l (i + 1) := by
  intro t
  rw [getS_put, List.take_succ_eq_append_getElem hi, hs]
  by_cases e : t = s
  · subst e
    rw [if_pos rfl, if_pos (by simp), idx_atS hi hn hs]
  · rw [if_neg e, h t]
    by_cases ht : t ∈ l.take i
    · rw [if_pos ht, if_pos (by simp [ht])]
    · rw [if_neg ht, if_neg (by simp [ht, e])]
theorem NumMap.full {lst : List (Sp × Value)} {l : List Sp} (h : NumMap lst l l.length) (s : Sp) : getS s lst = (numL l s).map fun n => .int .i64 (n : Int) := by
  rw [h s, List.take_length]
  unfold numL
  split <;> rfl
theorem nodup_take {l : List Sp} : ∀ {i : Nat}, (∀ j (hj : j < l.length), j < i → l[j] ∉ l.take j) → (l.take i).Nodup
  | 0, _ => by simp
  | i + 1, h => by
    have ih := nodup_take (i := i) fun j hj h1 => h j hj (by omega)
    by_cases hi : i < l.length
    · rw [List.take_succ_eq_append_getElem hi, List.nodup_append]
      exact ⟨ih, by simp, fun a ha b hb e => by
        simp at hb
        subst hb
        subst e
        exact h i hi (by omega) ha⟩
    · rw [List.take_of_length_le (by omega)] at ih ⊢
      exact ih
theorem nodup_snoc {l : List Sp} {i : Nat} (hi : i < l.length) (h : (l.take i).Nodup) (hn : l[i] ∉ l.take i) : (l.take (i + 1)).Nodup := by
  rw [List.take_succ_eq_append_getElem hi, List.nodup_append]
  exact ⟨h, by simp, fun a ha b hb e => by
    simp at hb
    subst hb
    subst e
    exact hn ha⟩
theorem gSp_nodup (ns : List Nd) : (gSp ns).Nodup ↔ (atsN ns).Nodup := (sortS_perm _).nodup_iff
theorem gSp_mem (ns : List Nd) (s : Sp) : s ∈ gSp ns ↔ s ∈ atsN ns := (sortS_perm _).mem_iff
theorem twice_no {ns : List Nd} {i : Nat} (hi : i < (gSp ns).length) (h : (gSp ns)[i] ∈ (gSp ns).take i) : ¬ (ns.map (·.at_)).Nodup := by
  intro hn
  have h1 := (gSp_nodup ns).2 hn
  rw [← List.take_append_drop (i + 1) (gSp ns), List.take_succ_eq_append_getElem hi] at h1
  have h2 := (List.nodup_append.1 (List.nodup_append.1 h1).1).2.2 _ h _ (List.mem_singleton.2 rfl)
  exact h2 rfl

/-- The numbers that one's entries have. -/
def hits (l next : List Sp) : List Nat := next.filterMap (numL l)
theorem hits_snoc (l next : List Sp) (s : Sp) : hits l (next ++ [s]) = hits l next ++ (numL l s).toList := by
  unfold hits
  rw [List.filterMap_append]
  cases h : numL l s <;> simp [h]
theorem hits_mem {l next : List Sp} (hn : l.Nodup) {k : Nat} : k ∈ hits l next ↔ k < l.length ∧ l.getD k (0, 0) ∈ next := by
  unfold hits numL
  rw [List.mem_filterMap]
  constructor
  · rintro ⟨s, hs, he⟩
    split at he
    · rename_i hm
      cases he
      have hlt := List.idxOf_lt_length_of_mem hm
      exact ⟨hlt, by simpa [hlt] using hs⟩
    · cases he
  · rintro ⟨hk, hm⟩
    refine ⟨_, hm, ?_⟩
    have e : l.getD k (0, 0) = l[k] := by simp [hk]
    rw [e, if_pos (List.getElem_mem hk), hn.idxOf_getElem]
theorem hits_nums {l next : List Sp} (hn : l.Nodup) : cmpct (sortN (hits l next)) = numsOf l next :=
  nums_of_sorted (cmpct_lt (sortN_le _)) fun k => by rw [cmpct_mem, (sortN_perm _).mem_iff, hits_mem hn]
theorem hits_len (l next : List Sp) : (hits l next).length ≤ next.length := List.length_filterMap_le _ _
/-- What the lists are, when the first k nodes are done. -/
def doneAt (ns : List Nd) (k j : Nat) : List Nat := if (gSp ns).getD j (0, 0) ∈ atsN (ns.take k) then numsOf (gSp ns) (nextAt ns ((gSp ns).getD j (0, 0))) else []
theorem doneAt_all {ns : List Nd} {j : Nat} (hj : j < (gNx ns).length) : doneAt ns ns.length j = (gNx ns)[j] := by
  have hl : j < (gSp ns).length := by rw [gSp_len, ← gNx_len]; exact hj
  unfold doneAt
  rw [List.take_length, if_pos]
  · simp [gNx, hl]
  · rw [← gSp_mem]; simp [hl]
theorem doneAt_succ {ns : List Nd} (h : (atsN ns).Nodup) {k j : Nat} (hk : k < ns.length) (hj : j < ns.length) : doneAt ns (k + 1) j = if j = (gSp ns).idxOf ns[k].at_ then numsOf (gSp ns) ns[k].next else doneAt ns k j := by
  have hl : j < (gSp ns).length := by rw [gSp_len]; exact hj
  have hg : (gSp ns).getD j (0, 0) = (gSp ns)[j] := by simp [hl]
  have hm : ns[k].at_ ∈ gSp ns := by rw [gSp_mem]; exact List.mem_map.2 ⟨_, List.getElem_mem hk, rfl⟩
  have hnd := (gSp_nodup ns).2 h
  have ht : atsN (ns.take (k + 1)) = atsN (ns.take k) ++ [ns[k].at_] := by unfold atsN; rw [List.take_succ_eq_append_getElem hk, List.map_append]; rfl
  unfold doneAt
  rw [hg, ht]
  by_cases e : (gSp ns)[j] = ns[k].at_
  · have hi : j = (gSp ns).idxOf ns[k].at_ := by rw [← e, hnd.idxOf_getElem]
    rw [if_pos hi, if_pos (by simp [e]), e, nextAt_eq h (List.getElem_mem hk)]
  · have hi : ¬ j = (gSp ns).idxOf ns[k].at_ := fun hi => e (by subst hi; simp)
    rw [if_neg hi]
    by_cases h2 : (gSp ns)[j] ∈ atsN (ns.take k)
    · rw [if_pos h2, if_pos (by simp [h2])]
    · rw [if_neg h2, if_neg (by simp [h2, e])]
end Go.Proofs.YtdlpbpohbkcafaaGreat
