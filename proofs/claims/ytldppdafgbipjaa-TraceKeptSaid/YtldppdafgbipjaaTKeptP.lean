/-
  The plain law of TraceKept, Keep at its arguments, a slice of numbers as an argument.
-/
import Derived.Test.YtldppdafgbipjaaStoreCopy
import Derived.Test.YtldppdafgbipjaaTFullP
import Derived.Test.YtldppdafgbipjaaGridShares
namespace Go.Proofs.Ytldppdafgbipjaa
open Go.ChangeShapes Go.WideShapes Go.ChangeAt Go.RowKit Go.Joins Go.Deep

abbrev iC (n : Int) : List Value := [.int .i64 n]
abbrev IntsAt (w : World) (v : Value) (ns : List Int) : Prop := SlAt w v 1 ns.length (ns.flatMap iC)

/-- What keeping the numbers one behind the other makes. -/
def keptL (zs : List (Sp × Int)) : List (Sp × Tr) := zs.foldl (fun m z => if mayS z.1.1 z.1.2 then putS z.1 ⟨numV z.2, []⟩ m else m) []
theorem keptL_snoc (zs : List (Sp × Int)) (z : Sp × Int) : keptL (zs ++ [z]) = if mayS z.1.1 z.1.2 then putS z.1 ⟨numV z.2, []⟩ (keptL zs) else keptL zs := by simp [keptL]
theorem keptL_props : ∀ (n : Nat) (zs : List (Sp × Int)), zs.length = n → MayK (keptL zs) ∧ (keptL zs).length ≤ n ∧ (∀ s, getS s (keptL zs) ≠ none → ∃ z ∈ zs, z.1 = s) ∧
    ∀ (L : Nat) (hL : L < zs.length), mayS zs[L].1.1 zs[L].1.2 = true → (∀ j (hj : j < zs.length), L < j → zs[j].1 ≠ zs[L].1) → getS zs[L].1 (keptL zs) = some ⟨numV zs[L].2, []⟩
  | 0, zs, h => by
    rw [List.eq_nil_of_length_eq_zero h]
    exact ⟨fun x hx => by simp [keptL] at hx, Nat.le_refl _, fun s hs => by simp [keptL, getS] at hs, fun L hL => by simp at hL⟩
  | n + 1, zs, h => by
    rcases List.eq_nil_or_concat zs with rfl | ⟨zs', z, rfl⟩
    · simp at h
    · rw [List.concat_eq_append] at *
      have h1 : zs'.length = n := by simpa using h
      obtain ⟨a1, a2, a3, a4⟩ := keptL_props n zs' h1
      rw [keptL_snoc]
      cases hm : mayS z.1.1 z.1.2 with
      | true =>
        simp only [if_true]
        refine ⟨a1.put hm _, Nat.le_trans (putS_le _ _ _) (by omega), fun s hs => ?_, fun L hL hmL hl => ?_⟩
        · rw [getS_put] at hs
          by_cases e : s = z.1
          · exact ⟨z, by simp, e.symm⟩
          · rw [if_neg e] at hs
            obtain ⟨y, hy, e2⟩ := a3 s hs
            exact ⟨y, by simp [hy], e2⟩
        · rw [getS_put]
          by_cases hLn : L < zs'.length
          · have e1 : (zs' ++ [z])[L] = zs'[L] := List.getElem_append_left hLn
            have h2 := hl n (by simp; omega) (by omega)
            have e2 : (zs' ++ [z])[n]'(by simp; omega) = z := by simp [← h1]
            rw [e2, e1] at h2
            rw [e1] at hmL ⊢
            rw [if_neg (fun e => h2 e.symm)]
            refine a4 L hLn hmL (fun j hj hLj => ?_)
            have h3 := hl j (by simp; omega) hLj
            rw [List.getElem_append_left hj, e1] at h3
            exact h3
          · have e0 : L = zs'.length := by simp at hL; omega
            subst e0
            simp
      | false =>
        simp only [Bool.false_eq_true, if_false]
        refine ⟨a1, by omega, fun s hs => ?_, fun L hL hmL hl => ?_⟩
        · obtain ⟨y, hy, e2⟩ := a3 s hs
          exact ⟨y, by simp [hy], e2⟩
        · by_cases hLn : L < zs'.length
          · have e1 : (zs' ++ [z])[L] = zs'[L] := List.getElem_append_left hLn
            rw [e1] at hmL ⊢
            refine a4 L hLn hmL (fun j hj hLj => ?_)
            have h3 := hl j (by simp; omega) hLj
            rw [List.getElem_append_left hj, e1] at h3
            exact h3
          · have e0 : L = zs'.length := by simp at hL; omega
            subst e0
            simp [hm] at hmL

theorem keepE_num (s : Sp) (n : Int) (m : List (Sp × Tr)) (hl : m.length < 65536) : keepE s (numV n) [] [] m = if mayS s.1 s.2 then 0 else 10 := by
  cases hm : mayS s.1 s.2 with
  | true => rw [keepE_nil _ _ _ hm (may_num _), setE_may hl, hm]
  | false =>
    have h : mayE s (numV n) [] [] = 10 := by simp [mayE, hm]
    unfold keepE
    rw [h]
    rfl
theorem keepL_num (s : Sp) (n : Int) (zs : List (Sp × Int)) (hl : (keptL zs).length < 65536) : keepL 8 s (numV n) [] [] (keptL zs) = keptL (zs ++ [(s, n)]) := by
  rw [keptL_snoc]
  unfold keepL
  rw [keepE_num s n _ hl]
  cases hm : mayS s.1 s.2 <;> rfl
/-- Keep with the same place twice. -/
theorem keep_twice (s : Sp) (m : List (Sp × Tr)) : keepE s (numV 5) [(0, 0), (0, 0)] [numV 1, numV 2] m = if mayS s.1 s.2 then 1 else 10 := by
  have h : mayE s (numV 5) [(0, 0), (0, 0)] [numV 1, numV 2] = if mayS s.1 s.2 then 1 else 10 := by
    unfold mayE
    cases hm : mayS s.1 s.2 with
    | true => rw [if_neg (by simp [mayS]), if_pos (by simp)]; rfl
    | false => rw [if_pos (by simp)]; rfl
  unfold keepE
  rw [h]
  cases hm : mayS s.1 s.2 <;> rfl
theorem keep_twiceL (s : Sp) (m : List (Sp × Tr)) : keepL 8 s (numV 5) [(0, 0), (0, 0)] [numV 1, numV 2] m = m := by
  unfold keepL
  rw [keep_twice]
  cases hm : mayS s.1 s.2 <;> rfl

section
variable (p tb mb : Nat)
theorem tkNum (w : World) (s : Sp) (n : Int) (zs : List (Sp × Int)) (h : StIs w p tb mb 8 (keptL zs)) (hl : Hid (zs.length < 65536)) :
    Calls Try.prog 15 #[.pointer (some ⟨p, 0, none⟩), spV s, (numV n).val, .slice none 0 0, .slice none 0 0] w fun e w1 => e = .returned (.int .i64 (if mayS s.1 s.2 then 0 else 10)) ∧ StIs w1 p tb mb 8 (keptL (zs ++ [(s, n)])) ∧ Fr [tb, mb] w w1 := by
  have h1 : (keptL zs).length < 65536 := Nat.lt_of_le_of_lt (keptL_props _ zs rfl).2.1 hl.out
  refine (traceKeep p tb mb 8 _ _ _ _ [] [] _ w h (SlAt.nil w 2) (SlAt.nil w 3) (by show (0 : Nat) ≤ _; omega) (by simp)).mono ?_
  rw [keepE_num _ _ _ h1, keepL_num _ _ _ h1]
  exact fun e w1 h => h
theorem tkTwice (w : World) (s : Sp) (x y : Value) (m : List (Sp × Tr)) (h : StIs w p tb mb 8 m) (hx : SpotsAt w x [(0, 0), (0, 0)]) (hy : ValsAt w y [numV 1, numV 2]) :
    Calls Try.prog 15 #[.pointer (some ⟨p, 0, none⟩), spV s, (numV 5).val, x, y] w fun e w1 => e = .returned (.int .i64 (if mayS s.1 s.2 then 1 else 10)) ∧ StIs w1 p tb mb 8 m ∧ Fr [tb, mb] w w1 := by
  refine (traceKeep p tb mb 8 _ _ _ _ _ _ _ w h hx hy (by decide) (by intro v hv; simp at hv; rcases hv with rfl | rfl <;> decide)).mono ?_
  rw [keep_twice, keep_twiceL]
  exact fun e w1 h => h
end

section
variable {H : Type} {enc : TypeId × Value → H} {W : World}
theorem Try.cellsI64 : Try.prog.cellsOf 2 = 1 := by kernel_rfl
set_option maxRecDepth 100000 in
theorem open_ints {r : Reach} {b0 : Nat} {v : Value} {d : DataW H} {p : List MemPlace}
    (hv : Value.okWide Try.prog W r b0 116 v) (h : DataW.Trod enc Try.prog W 0 (fun _ => true) true 116 v d p) :
    ∃ ns : List Int, IntsAt W v ns ∧ ∀ n ∈ ns, -9223372036854775808 ≤ n ∧ n ≤ 9223372036854775807 := by
  obtain ⟨pa, len, cap, rfl⟩ := okWide_slice Try.underlying116 hv
  obtain ⟨fuel, hf⟩ := h
  simp only [Value.cells] at hf
  rcases open_slice1 Try.underlying116 Try.cellsI64 hf with ⟨hc, _⟩ | ⟨a, len', cap', m, n, V, D, Pl, hc, _, hl, hm, hmm, _, hall⟩
  · simp only [List.cons.injEq, and_true, Value.slice.injEq] at hc
    obtain ⟨rfl, rfl, rfl⟩ := hc
    exact ⟨[], SlAt.nil W 1, by simp⟩
  · simp only [List.cons.injEq, and_true, Value.slice.injEq] at hc
    obtain ⟨rfl, rfl, rfl⟩ := hc
    simp only [if_true] at hmm
    subst hmm
    have h0 : ∀ i, i < m → V i = .int .i64 (intOf (V i)) ∧ -9223372036854775808 ≤ intOf (V i) ∧ intOf (V i) ≤ 9223372036854775807 := fun i hi => by
      obtain ⟨N, h1, _, h3⟩ := DataW.trod_int (t := 2) Try.underlying2 (hall i hi).2
      simp only [List.cons.injEq, and_true] at h1
      rw [h1]
      exact ⟨rfl, wf_i64 h3⟩
    refine ⟨(List.range len).map fun i => intOf (V i), ?_, ?_⟩
    · obtain ⟨b, off, spot⟩ := a
      have hn : ((List.range len).map fun i => intOf (V i)).length = len := by simp
      show SlAt W _ 1 _ _
      rw [hn]
      have hfl := flat_len iC 1 (fun _ => rfl) ((List.range len).map fun i => intOf (V i))
      rw [hn] at hfl
      refine ⟨hfl, ⟨_, _, rfl, hl, by unfold maxLen at hm; omega⟩, fun hpos => ?_⟩
      have hspot : spot = none := by simpa [Addr.add] using World.cell?_spot (hall 0 (by omega)).1
      subst hspot
      refine ⟨b, off, _, rfl, World.block_lt_of_cell? W _ (by simpa [Addr.add] using (hall 0 (by omega)).1), fun j x hx => ?_⟩
      have hj : j < len := by
        have := (List.getElem?_eq_some_iff.1 hx).1
        rw [hfl] at this
        omega
      have hg := flat_get iC 1 (fun _ => rfl) ((List.range len).map fun i => intOf (V i)) j 0 (by rw [hn]; exact hj) (by omega)
      have e : j * 1 + 0 = j := by omega
      rw [e, hx] at hg
      simp only [List.getElem_map, List.getElem_range] at hg
      obtain ⟨c0, _⟩ := hall j (by omega)
      rw [(h0 _ (by omega)).1] at c0
      have ea : (⟨b, off, none⟩ : Addr).add j = ⟨b, off + j, none⟩ := by
        unfold Addr.add
        split
        · rename_i h0; subst h0; rfl
        · rfl
      rw [ea] at c0
      rw [c0, hg]
      rfl
    · intro s hs
      simp only [List.mem_map, List.mem_range] at hs
      obtain ⟨i, hi, rfl⟩ := hs
      exact (h0 i (by omega)).2
end
end Go.Proofs.Ytldppdafgbipjaa
