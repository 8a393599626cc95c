/-
  The plain law of TraceFull, and Keep at its arguments.
-/
import Derived.Test.YtldppdafgbipjaaFullP
import Derived.Test.YtldppdafgbipjaaBegun22
import Derived.Test.YtldppdafgbipjaaStoreAll
namespace Go.Proofs.Ytldppdafgbipjaa
open Go.RowKit

abbrev numV (n : Int) : V := ⟨1, n, ⟨#[]⟩⟩
/-- What the first n keeps make. -/
def fullT (n : Nat) : List (Sp × Tr) := (List.range n).map fun (i : Nat) => ((((i : Int) % 1000), ((i : Int) / 1000)), ⟨numV (i : Int), []⟩)
theorem fullT_len (n : Nat) : (fullT n).length = n := by simp [fullT]
theorem fullT_succ (n : Nat) : fullT (n + 1) = fullT n ++ [((((n : Int) % 1000), ((n : Int) / 1000)), ⟨numV (n : Int), []⟩)] := by simp [fullT, List.range_succ]
theorem fullT_keys (n : Nat) : (fullT n).map (·.1) = (fullL n).map (·.1) := by simp [fullT, fullL]
theorem isNone_keys {α β : Type} {l : List (Sp × α)} {m : List (Sp × β)} (h : l.map (·.1) = m.map (·.1)) (s : Sp) : (getS s l).isNone = (getS s m).isNone := by
  cases hl : getS s l with
  | none =>
    rw [getS_none, h, ← getS_none] at hl
    rw [hl]
    rfl
  | some x =>
    cases hm : getS s m with
    | none =>
      rw [getS_none, ← h, ← getS_none, hl] at hm
      cases hm
    | some y => rfl
theorem setE_keys {α β : Type} {l : List (Sp × α)} {m : List (Sp × β)} (h : l.map (·.1) = m.map (·.1)) (s : Sp) : setE s l = setE s m := by
  have hn : l.length = m.length := by simpa using congrArg List.length h
  unfold setE
  rw [isNone_keys h, hn]
theorem none_of {α β : Type} {l : List (Sp × α)} {m : List (Sp × β)} (h : l.map (·.1) = m.map (·.1)) {s : Sp} (hs : getS s m = none) : getS s l = none := by
  rw [getS_none] at hs ⊢
  rw [h]
  exact hs
theorem some_of {α β : Type} {l : List (Sp × α)} {m : List (Sp × β)} (h : l.map (·.1) = m.map (·.1)) {s : Sp} (hs : (getS s m).isSome = true) : (getS s l).isSome = true := by
  cases hl : getS s l with
  | some x => rfl
  | none => rw [none_of h.symm hl] at hs; cases hs
theorem putS_keys2 {α β : Type} {l : List (Sp × α)} {m : List (Sp × β)} (h : l.map (·.1) = m.map (·.1)) (s : Sp) (x : α) (y : β) : (putS s x l).map (·.1) = (putS s y m).map (·.1) := by
  rw [putS_keys, putS_keys, h]

theorem mayE_nil (s : Sp) (v : V) (h1 : mayS s.1 s.2 = true) (h2 : mayV v = true) : mayE s v [] [] = 0 := by
  simp [mayE, h1, h2]
theorem keepE_nil (s : Sp) (v : V) (m : List (Sp × Tr)) (h1 : mayS s.1 s.2 = true) (h2 : mayV v = true) : keepE s v [] [] m = setE s m := by
  unfold keepE
  rw [mayE_nil s v h1 h2, if_pos rfl]
theorem tf_keep (n : Nat) (h : n < 65536) : keepE (((n : Int) % 1000), ((n : Int) / 1000)) (numV (n : Int)) [] [] (fullT n) = 0 := by
  rw [keepE_nil _ _ _ _ (may_num _), setE_keys (fullT_keys n), full_setE n h]
  simp only [mayS, decide_eq_true_eq]
  omega
theorem tf_keepL (n : Nat) (h : n < 65536) : keepL 3 (((n : Int) % 1000), ((n : Int) / 1000)) (numV (n : Int)) [] [] (fullT n) = fullT (n + 1) := by
  unfold keepL
  rw [if_pos (tf_keep n h), put_none (idx_none (none_of (fullT_keys n) (fullL_new n))), fullT_succ]
  rfl
theorem farN (n : Nat) : getS (60000, 0) (fullL n) = none := by
  rw [getS_none, fullL_mem]
  rintro ⟨i, h, e⟩
  injection e with e1 e2
  omega
theorem tf_far (n : Nat) : getS (60000, 0) (fullT n) = none := none_of (fullT_keys n) (farN n)
theorem tf_farE (n : Nat) (hn : n = 65536) : keepE (60000, 0) (numV 1) [] [] (fullT n) = 4 := by
  rw [keepE_nil _ _ _ (by simp [mayS]) (may_num _)]
  unfold setE
  rw [if_neg (by simp [mayS]), if_pos ⟨by rw [tf_far]; rfl, by rw [fullT_len, hn]⟩]
theorem tf_farL (n : Nat) (hn : n = 65536) : keepL 3 (60000, 0) (numV 1) [] [] (fullT n) = fullT n := by
  unfold keepL
  rw [tf_farE n hn, if_neg (by decide)]
theorem tf_badE (m : List (Sp × Tr)) : keepE (60000, 0) ⟨9, 0, ⟨#[]⟩⟩ [] [] m = 24 := by
  have h : mayE (60000, 0) ⟨9, 0, ⟨#[]⟩⟩ [] [] = 24 := by simp [mayE, mayS, mayV]
  unfold keepE
  rw [h]
  rfl
theorem tf_badL (m : List (Sp × Tr)) : keepL 3 (60000, 0) ⟨9, 0, ⟨#[]⟩⟩ [] [] m = m := by
  unfold keepL
  rw [tf_badE, if_neg (by decide)]
/-- Behind the second keep at (0, 0). -/
def full2T (n : Nat) : List (Sp × Tr) := putS (0, 0) ⟨numV (-5), ensOf 3 [(60000, 0)] [numV 2]⟩ (fullT n)
theorem tf_00 (n : Nat) (hn : n = 65536) : (getS (0, 0) (fullT n)).isSome = true := some_of (fullT_keys n) (full_00 n hn)
theorem tf_zeroE (n : Nat) (hn : n = 65536) : keepE (0, 0) (numV (-5)) [(60000, 0)] [numV 2] (fullT n) = 0 := by
  have h : mayE (0, 0) (numV (-5)) [(60000, 0)] [numV 2] = 0 := by simp [mayE, mayS, may_num]
  unfold keepE
  rw [h, if_pos rfl]
  unfold setE
  rw [if_neg (by simp [mayS]), if_neg]
  rintro ⟨h1, _⟩
  have h2 := tf_00 n hn
  cases hg : getS (0, 0) (fullT n) with
  | none => rw [hg] at h2; cases h2
  | some y => rw [hg] at h1; cases h1
theorem tf_zeroL (n : Nat) (hn : n = 65536) : keepL 3 (0, 0) (numV (-5)) [(60000, 0)] [numV 2] (fullT n) = full2T n := by
  unfold keepL
  rw [if_pos (tf_zeroE n hn)]
  rfl
theorem full2T_00 (n : Nat) : getS (0, 0) (full2T n) = some ⟨numV (-5), ensOf 3 [(60000, 0)] [numV 2]⟩ := by
  unfold full2T
  rw [getS_put, if_pos rfl]
theorem full2T_len (n : Nat) (hn : n = 65536) : (full2T n).length = 65536 := by
  unfold full2T
  rw [putS_length, if_pos (tf_00 n hn), fullT_len, hn]
theorem full2T_55 (n : Nat) (hn : n = 65536) : (getS (5, 5) (full2T n)).isSome = true := by
  unfold full2T
  rw [getS_put, if_neg (by decide)]
  exact some_of (fullT_keys n) (full_55 n hn)
theorem full2T_far (n : Nat) : getS (60000, 0) (full2T n) = none := by
  unfold full2T
  rw [getS_put, if_neg (by decide), tf_far]
/-- Behind the Drop. -/
def full3T (n : Nat) : List (Sp × Tr) := delS (5, 5) (full2T n)
theorem full3T_len (n : Nat) (hn : n = 65536) : (full3T n).length = 65535 := by
  unfold full3T
  rw [delS_length, if_pos (full2T_55 n hn), full2T_len n hn]
theorem full3T_E (n : Nat) (hn : n = 65536) : keepE (60000, 0) (numV 1) [] [] (full3T n) = 0 := by
  rw [keepE_nil _ _ _ (by simp [mayS]) (may_num _)]
  unfold setE
  rw [if_neg (by simp [mayS]), if_neg]
  rintro ⟨_, h⟩
  rw [full3T_len n hn] at h
  omega
def full4T (n : Nat) : List (Sp × Tr) := putS (60000, 0) ⟨numV 1, ensOf 3 [] []⟩ (full3T n)
theorem full3T_L (n : Nat) (hn : n = 65536) : keepL 3 (60000, 0) (numV 1) [] [] (full3T n) = full4T n := by
  unfold keepL
  rw [if_pos (full3T_E n hn)]
  rfl
theorem full4T_E (n : Nat) (hn : n = 65536) (hd : ((full2T n).map (·.1)).Nodup) : keepE (5, 5) (numV 1) [] [] (full4T n) = 4 := by
  have h1 : getS (5, 5) (full4T n) = none := by
    unfold full4T full3T
    rw [getS_put, if_neg (by decide), getS_del _ hd, if_pos rfl]
  have h2 : (full4T n).length = 65536 := by
    have h3 : getS (60000, 0) (full3T n) = none := by
      unfold full3T
      rw [getS_del _ hd, if_neg (by decide), full2T_far]
    unfold full4T
    rw [putS_length, h3, full3T_len n hn]
    rfl
  rw [keepE_nil _ _ _ (by simp [mayS]) (may_num _)]
  unfold setE
  rw [if_neg (by simp [mayS]), if_pos ⟨by rw [h1]; rfl, h2⟩]

section
variable (p tb mb : Nat) (n : Nat)
theorem tkStep (w : World) (h : StIs w p tb mb 3 (fullT n)) (hn : Hid (n < 65536)) :
    Calls Try.prog 15 #[.pointer (some ⟨p, 0, none⟩), spV ((n : Int) % 1000, (n : Int) / 1000), (numV (n : Int)).val, .slice none 0 0, .slice none 0 0] w fun e w1 => e = .returned (.int .i64 0) ∧ StIs w1 p tb mb 3 (fullT (n + 1)) ∧ Fr [tb, mb] w w1 := by
  refine (traceKeep p tb mb 3 _ _ _ _ [] [] _ w h (SlAt.nil w 2) (SlAt.nil w 3) (by show (0 : Nat) ≤ _; omega) (by simp)).mono ?_
  rw [tf_keep n hn.out, tf_keepL n hn.out]
  exact fun e w1 h => h
theorem tkFar (w : World) (h : StIs w p tb mb 3 (fullT n)) (hn : Hid (n = 65536)) :
    Calls Try.prog 15 #[.pointer (some ⟨p, 0, none⟩), spV (60000, 0), (numV 1).val, .slice none 0 0, .slice none 0 0] w fun e w1 => e = .returned (.int .i64 4) ∧ StIs w1 p tb mb 3 (fullT n) ∧ Fr [tb, mb] w w1 := by
  refine (traceKeep p tb mb 3 _ _ _ _ [] [] _ w h (SlAt.nil w 2) (SlAt.nil w 3) (by decide) (by simp)).mono ?_
  rw [tf_farE n hn.out, tf_farL n hn.out]
  exact fun e w1 h => h
theorem tkBad (w : World) (h : StIs w p tb mb 3 (fullT n)) :
    Calls Try.prog 15 #[.pointer (some ⟨p, 0, none⟩), spV (60000, 0), (V.mk 9 0 ⟨#[]⟩).val, .slice none 0 0, .slice none 0 0] w fun e w1 => e = .returned (.int .i64 24) ∧ StIs w1 p tb mb 3 (fullT n) ∧ Fr [tb, mb] w w1 := by
  refine (traceKeep p tb mb 3 _ _ _ _ [] [] _ w h (SlAt.nil w 2) (SlAt.nil w 3) (by decide) (by simp)).mono ?_
  rw [tf_badE, tf_badL]
  exact fun e w1 h => h
theorem tkZero (w : World) (x y : Value) (h : StIs w p tb mb 3 (fullT n)) (hx : SpotsAt w x [(60000, 0)]) (hy : ValsAt w y [numV 2]) (hn : Hid (n = 65536)) :
    Calls Try.prog 15 #[.pointer (some ⟨p, 0, none⟩), spV (0, 0), (numV (-5)).val, x, y] w fun e w1 => e = .returned (.int .i64 0) ∧ StIs w1 p tb mb 3 (full2T n) ∧ Fr [tb, mb] w w1 := by
  refine (traceKeep p tb mb 3 _ _ _ _ _ _ _ w h hx hy (by decide) (by intro v hv; simp at hv; subst hv; decide)).mono ?_
  rw [tf_zeroE n hn.out, tf_zeroL n hn.out]
  exact fun e w1 h => h
theorem tkFar3 (w : World) (h : StIs w p tb mb 3 (full3T n)) (hn : Hid (n = 65536)) :
    Calls Try.prog 15 #[.pointer (some ⟨p, 0, none⟩), spV (60000, 0), (numV 1).val, .slice none 0 0, .slice none 0 0] w fun e w1 => e = .returned (.int .i64 0) ∧ StIs w1 p tb mb 3 (full4T n) ∧ Fr [tb, mb] w w1 := by
  refine (traceKeep p tb mb 3 _ _ _ _ [] [] _ w h (SlAt.nil w 2) (SlAt.nil w 3) (by decide) (by simp)).mono ?_
  rw [full3T_E n hn.out, full3T_L n hn.out]
  exact fun e w1 h => h
theorem tkLast (w : World) (h : StIs w p tb mb 3 (full4T n)) (hn : Hid (n = 65536)) (hd : ((full2T n).map (·.1)).Nodup) :
    Calls Try.prog 15 #[.pointer (some ⟨p, 0, none⟩), spV (5, 5), (numV 1).val, .slice none 0 0, .slice none 0 0] w fun e w1 => e = .returned (.int .i64 4) ∧ Fr [tb, mb] w w1 := by
  refine (traceKeep p tb mb 3 _ _ _ _ [] [] _ w h (SlAt.nil w 2) (SlAt.nil w 3) (by decide) (by simp)).mono ?_
  rw [full4T_E n hn.out hd]
  exact fun e w1 h => ⟨h.1, h.2.2⟩
theorem tkAll (w : World) (h : StIs w p tb mb 3 (full2T n)) (hn : Hid (n = 65536)) :
    Calls Try.prog 49 #[.pointer (some ⟨p, 0, none⟩)] w fun e w1 => ∃ a c, e = .returned (.slice a 65536 c) ∧ Fr [] w w1 := by
  refine (storeAll p tb mb 3 _ w h (by rw [full2T_len n hn.out]; decide)).mono ?_
  rintro e w1 ⟨v, rfl, hrow, hf⟩
  have hl : (sortS ((full2T n).map (·.1))).length = 65536 := by rw [(sortS_perm _).length_eq, List.length_map, full2T_len n hn.out]
  rw [hl] at hrow
  obtain ⟨g, cap, rfl⟩ := ownsRow_succ (k := 65535) hrow
  exact ⟨_, _, rfl, hf⟩
theorem tkDrop (w : World) (h : StIs w p tb mb 3 (full2T n)) (hn : Hid (n = 65536)) :
    Calls Try.prog 50 #[.pointer (some ⟨p, 0, none⟩), spV (5, 5)] w fun e w1 => e = .returned (.bool true) ∧ StIs w1 p tb mb 3 (full3T n) ∧ Fr [tb, mb] w w1 := by
  refine (storeDrop p tb mb 3 _ _ w h).mono ?_
  rw [full2T_55 n hn.out]
  exact fun e w1 h => h
end
end Go.Proofs.Ytldppdafgbipjaa
