/-
  The plain side of TraceAll: merging halves; two lists of traces that tell the same. No program in sight.
-/
import Derived.Test.YtldppdafgbipjaaStoreCopy
namespace Go.Proofs.Ytldppdafgbipjaa
open Go.RowKit

/-- What the merge has done: c is taken, a and b are left. -/
structure Mrg (L c a b : List Sp) : Prop where
  perm : (c ++ (a ++ b)).Perm L
  nd : L.Nodup
  cs : c.Pairwise fun x y => ltS x y = true
  as_ : a.Pairwise fun x y => ltS x y = true
  bs : b.Pairwise fun x y => ltS x y = true
  ca : ∀ x ∈ c, ∀ y ∈ a, ltS x y = true
  cb : ∀ x ∈ c, ∀ y ∈ b, ltS x y = true

theorem lts_tr {a b c : Sp} (h : ltS a b = true) (k : ltS b c = true) : ltS a c = true := by
  simp only [ltS, decide_eq_true_eq] at *; omega
theorem snoc_lt {c : List Sp} {x : Sp} (h : c.Pairwise fun x y => ltS x y = true) (hx : ∀ y ∈ c, ltS y x = true) : (c ++ [x]).Pairwise fun x y => ltS x y = true := by
  rw [List.pairwise_append]
  refine ⟨h, by simp, fun a ha b hb => ?_⟩
  rw [List.mem_singleton] at hb
  rw [hb]
  exact hx a ha
theorem head_lt {b : List Sp} (hb : b.Pairwise fun x y => ltS x y = true) {x : Sp} (h : ∀ y, b.head? = some y → ltS x y = true) : ∀ y ∈ b, ltS x y = true := by
  cases b with
  | nil => simp
  | cons z b =>
    have hz := h z rfl
    intro y hy
    rcases List.mem_cons.1 hy with rfl | hy
    · exact hz
    · exact lts_tr hz ((List.pairwise_cons.1 hb).1 y hy)
theorem Mrg.a {L c a b : List Sp} {x : Sp} (h : Mrg L c (x :: a) b) (hx : ∀ y, b.head? = some y → ltS x y = true) : Mrg L (c ++ [x]) a b := by
  obtain ⟨h1, h2, h3, h4, h5, h6, h7⟩ := h
  have hxa := (List.pairwise_cons.1 h4).1
  have hxb := head_lt h5 hx
  refine ⟨by simpa using h1, h2, snoc_lt h3 (fun y hy => h6 y hy x (by simp)), (List.pairwise_cons.1 h4).2, h5, ?_, ?_⟩
  · intro z hz y hy
    rcases List.mem_append.1 hz with hz | hz
    · exact h6 z hz y (by simp [hy])
    · rw [List.mem_singleton] at hz
      rw [hz]
      exact hxa y hy
  · intro z hz y hy
    rcases List.mem_append.1 hz with hz | hz
    · exact h7 z hz y hy
    · rw [List.mem_singleton] at hz
      rw [hz]
      exact hxb y hy
theorem Mrg.swap {L c a b : List Sp} (h : Mrg L c a b) : Mrg L c b a :=
  ⟨(List.Perm.append_left c List.perm_append_comm).trans h.perm, h.nd, h.cs, h.bs, h.as_, h.cb, h.ca⟩
theorem Mrg.b {L c a b : List Sp} {y : Sp} (h : Mrg L c a (y :: b)) (hy : ∀ x, a.head? = some x → ltS x y = false) : Mrg L (c ++ [y]) a b := by
  refine (h.swap.a fun x hx => ?_).swap
  have h0 := hy x hx
  have hn := h.perm.nodup_iff.2 h.nd
  have hne : x ≠ y := by
    rw [List.nodup_append, List.nodup_append] at hn
    exact hn.2.1.2.2 x (List.mem_of_mem_head? hx) y (by simp)
  cases h1 : ltS y x with
  | true => rfl
  | false => exact absurd (totS x y h0 h1) hne
theorem Mrg.done {L c : List Sp} (h : Mrg L c [] []) : c = sortS L := by
  have h1 : c.Perm L := by simpa using h.perm
  refine List.Perm.eq_of_pairwise (le := fun x y => ltS y x = false) ?_ ?_ (sortS_le L) (h1.trans (sortS_perm L).symm)
  · intro x y _ _ h1 h2
    exact totS x y h2 h1
  · refine h.cs.imp fun {x y} hxy => ?_
    simp only [ltS, decide_eq_true_eq, decide_eq_false_iff_not] at *
    omega
theorem Mrg.begin_ {l : List Sp} (h : l.Nodup) (k : Nat) : Mrg l [] (sortS (l.take k)) (sortS (l.drop k)) := by
  refine ⟨?_, h, by simp, sortS_lt (h.sublist (List.take_sublist k l)), sortS_lt (h.sublist (List.drop_sublist k l)), by simp, by simp⟩
  rw [List.nil_append]
  have := (sortS_perm (l.take k)).append (sortS_perm (l.drop k))
  rwa [List.take_append_drop] at this
theorem sortS_short {l : List Sp} (h : l.length < 2) : sortS l = l := by
  match l, h with
  | [], _ => simp [sortS]
  | [x], _ => simp [sortS]

/-- Two lists that tell the same. -/
def SameT (m n : List (Sp × Tr)) : Prop := ∀ s, getS s m = getS s n
theorem mem_get {α : Type} {l : List (Sp × α)} {s : Sp} : s ∈ l.map (·.1) ↔ getS s l ≠ none := by
  rw [ne_eq, getS_none, Classical.not_not]
theorem SameT.perm {m n : List (Sp × Tr)} (h : SameT m n) (hm : (m.map (·.1)).Nodup) (hn : (n.map (·.1)).Nodup) : (m.map (·.1)).Perm (n.map (·.1)) :=
  (List.perm_ext_iff_of_nodup hm hn).2 fun s => by rw [mem_get, mem_get, h s]
theorem SameT.len {m n : List (Sp × Tr)} (h : SameT m n) (hm : (m.map (·.1)).Nodup) (hn : (n.map (·.1)).Nodup) : m.length = n.length := by
  simpa using (h.perm hm hn).length_eq
theorem SameT.sort {m n : List (Sp × Tr)} (h : SameT m n) (hm : (m.map (·.1)).Nodup) (hn : (n.map (·.1)).Nodup) : sortS (m.map (·.1)) = sortS (n.map (·.1)) :=
  sortS_of_perm (h.perm hm hn)
theorem SameT.put {m n : List (Sp × Tr)} (h : SameT m n) (s : Sp) (t : Tr) : SameT (putS s t m) (putS s t n) := fun x => by
  rw [getS_put, getS_put, h x]
theorem SameT.del {m n : List (Sp × Tr)} (h : SameT m n) (hm : (m.map (·.1)).Nodup) (hn : (n.map (·.1)).Nodup) (s : Sp) : SameT (delS s m) (delS s n) := fun x => by
  rw [getS_del x hm, getS_del x hn, h x]

/-- Every trace is one, and there is room for them. -/
structure Good (dd : Int) (m : List (Sp × Tr)) : Prop where
  nd : (m.map (·.1)).Nodup
  le : m.length ≤ 65536
  at_ : ∀ s t, getS s m = some t → mayS s.1 s.2 = true ∧ t.es.length ≤ 65536 ∧ ∀ e ∈ t.es, mayV e.v = true ∧ e.sum = sumV e.v dd
theorem Good.mem {dd : Int} {m : List (Sp × Tr)} (h : Good dd m) : ∀ x ∈ m, mayS x.1.1 x.1.2 = true := fun x hx => (h.at_ x.1 x.2 (getS_of_mem h.nd hx)).1
theorem Good.nil (dd : Int) : Good dd [] := ⟨by simp, by simp, fun s t h => by simp [getS] at h⟩
theorem Good.same {dd : Int} {m n : List (Sp × Tr)} (h : Good dd m) (hs : SameT m n) (hn : (n.map (·.1)).Nodup) : Good dd n :=
  ⟨hn, by rw [← hs.len h.nd hn]; exact h.le, fun s t ht => h.at_ s t (by rw [hs s]; exact ht)⟩
theorem setE_same {m n : List (Sp × Tr)} (h : SameT m n) (hm : (m.map (·.1)).Nodup) (hn : (n.map (·.1)).Nodup) (s : Sp) : setE s m = setE s n := by
  unfold setE
  rw [h s, h.len hm hn]
theorem keepE_same {m n : List (Sp × Tr)} (h : SameT m n) (hm : (m.map (·.1)).Nodup) (hn : (n.map (·.1)).Nodup) (s : Sp) (v : V) (ds : List Sp) (vs : List V) : keepE s v ds vs m = keepE s v ds vs n := by
  unfold keepE
  rw [setE_same h hm hn]
theorem keepL_same {m n : List (Sp × Tr)} (h : SameT m n) (hm : (m.map (·.1)).Nodup) (hn : (n.map (·.1)).Nodup) (dd : Int) (s : Sp) (v : V) (ds : List Sp) (vs : List V) : SameT (keepL dd s v ds vs m) (keepL dd s v ds vs n) := by
  unfold keepL
  rw [keepE_same h hm hn]
  split
  · exact h.put s _
  · exact h
theorem keepL_nodup {m : List (Sp × Tr)} (hm : (m.map (·.1)).Nodup) (dd : Int) (s : Sp) (v : V) (ds : List Sp) (vs : List V) : ((keepL dd s v ds vs m).map (·.1)).Nodup := by
  unfold keepL
  split
  · exact putS_nodup hm
  · exact hm
theorem mayE_vals {s : Sp} {v : V} {ds : List Sp} {vs : List V} (h : mayE s v ds vs = 0) : ∀ x ∈ vs, mayV x = true := by
  intro x hx
  cases hm : mayV x with
  | true => rfl
  | false =>
    unfold mayE at h
    split at h
    · cases h
    · split at h
      · cases h
      · split at h
        · cases h
        · split at h
          · cases h
          · rename_i h4
            exact absurd (.inr ⟨x, hx, hm⟩) h4
theorem Good.keep {dd : Int} {m : List (Sp × Tr)} (h : Good dd m) (s : Sp) (v : V) (ds : List Sp) (vs : List V) : Good dd (keepL dd s v ds vs m) := by
  refine ⟨keepL_nodup h.nd dd s v ds vs, ?_, ?_⟩
  · unfold keepL
    split
    · rename_i h0
      rw [putS_length]
      split
      · exact h.le
      · rename_i hn
        have h1 : setE s m = 0 := by
          unfold keepE at h0
          split at h0
          · exact h0
          · rename_i hx; exact absurd h0 hx
        have h2 : m.length ≠ 65536 := by
          intro hl
          unfold setE at h1
          split at h1
          · cases h1
          · rw [if_pos ⟨by cases hg : getS s m <;> simp_all, hl⟩] at h1
            cases h1
        have := h.le
        omega
    · exact h.le
  · intro x t ht
    unfold keepL at ht
    split at ht
    · rename_i h0
      rw [getS_put] at ht
      split at ht
      · rename_i hx
        subst hx
        injection ht with ht
        subst ht
        have h1 : mayE x v ds vs = 0 := by
          unfold keepE at h0
          split at h0
          · assumption
          · exact h0
        obtain ⟨m1, m2, m3⟩ := mayE_zero h1
        refine ⟨m1, by show (ensOf dd ds vs).length ≤ _; rw [ensOf_len m2]; exact m3, fun e he => ?_⟩
        have he : e ∈ ensOf dd ds vs := he
        unfold ensOf at he
        obtain ⟨p, hp, rfl⟩ := List.mem_map.1 he
        exact ⟨mayE_vals h1 _ (List.of_mem_zip hp).2, rfl⟩
      · exact h.at_ x t ht
    · exact h.at_ x t ht
theorem Good.del {dd : Int} {m : List (Sp × Tr)} (h : Good dd m) (s : Sp) : Good dd (delS s m) := by
  refine ⟨delS_nodup h.nd, ?_, ?_⟩
  · have := (delS_sub s m).length_le
    have := h.le
    omega
  · intro x t ht
    rw [getS_del x h.nd] at ht
    split at ht
    · cases ht
    · exact h.at_ x t ht
theorem sortT_same (m : List (Sp × Tr)) : SameT m (sortT m) := fun s => (getS_sortT m s).symm
theorem Good.sortT {dd : Int} {m : List (Sp × Tr)} (h : Good dd m) : Good dd (sortT m) := h.same (sortT_same m) (by
  rw [sortT_keys]
  exact (sortS_perm _).nodup_iff.2 h.nd)
theorem ens_at {dd : Int} {ds : List Sp} {vs : List V} (h : ds.length = vs.length) : (ensOf dd ds vs).map (·.at_) = ds := by
  unfold ensOf
  rw [List.map_map]
  show (ds.zip vs).map Prod.fst = ds
  exact List.map_fst_zip (by omega)
theorem ens_v {dd : Int} {ds : List Sp} {vs : List V} (h : ds.length = vs.length) : (ensOf dd ds vs).map (·.v) = vs := by
  unfold ensOf
  rw [List.map_map]
  show (ds.zip vs).map Prod.snd = vs
  exact List.map_snd_zip (by omega)
theorem mayV_size {v : V} (h : mayV v = true) : v.s.size ≤ 32767 := by
  obtain ⟨k, n, s⟩ := v
  have he : s.toList.isEmpty = true → s.size ≤ 32767 := fun h => by
    rw [List.isEmpty_iff, ByteArray.toList_eq] at h
    have h3 : s.data.toList.length = 0 := by rw [h]; rfl
    rw [Array.length_toList] at h3
    have h4 : s.data.size = s.size := rfl
    omega
  simp only [mayV] at h
  split at h
  · simp only [Bool.and_eq_true] at h; exact he h.2
  · split at h
    · exact he h
    · split at h
      · simp only [Bool.and_eq_true] at h; exact he h.2
      · split at h
        · simp only [decide_eq_true_eq] at h; exact h.2
        · split at h
          · simp only [Bool.and_eq_true] at h; exact he h.2
          · cases h
end Go.Proofs.Ytldppdafgbipjaa
