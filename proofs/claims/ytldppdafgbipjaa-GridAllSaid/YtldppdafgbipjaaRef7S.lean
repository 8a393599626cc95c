/-
  quadrilleref7: Set.
-/
import Derived.Test.YtldppdafgbipjaaRef7D
import Derived.Deep.RegionLaw
import Derived.Deep.AppendLies
import Derived.Maps.AppendAt
namespace Go.Proofs.Ytldppdafgbipjaa
open Go.RowKit

section
variable {α : Type}
/-- On the way: what stood from k on has gone one back. -/
def shAt (k : Nat) (y : α) (R : List α) : List α := R.take k ++ y :: R.drop k
theorem shAt_len {k : Nat} {y : α} {R : List α} (hk : k ≤ R.length) : (shAt k y R).length = R.length + 1 := by
  unfold shAt
  rw [List.length_append, List.length_cons, List.length_take, List.length_drop]
  omega
theorem shAt_end (y : α) (R : List α) : shAt R.length y R = R ++ [y] := by simp [shAt]
theorem shAt_get {k : Nat} {y : α} {R : List α} (hk : k + 1 ≤ R.length) : (shAt (k + 1) y R)[k]? = some R[k] := by
  unfold shAt
  rw [List.getElem?_append_left (by rw [List.length_take]; omega), List.getElem?_take, if_pos (by omega), List.getElem?_eq_getElem (by omega)]
theorem shAt_step {k : Nat} {y : α} {R : List α} (hk : k + 1 ≤ R.length) : (shAt (k + 1) y R).set (k + 1) R[k] = shAt k R[k] R := by
  unfold shAt
  have hl : (R.take (k + 1)).length = k + 1 := by rw [List.length_take]; omega
  rw [List.set_append_right _ _ (by omega), hl, Nat.sub_self, List.set_cons_zero, List.take_succ_eq_append_getElem (by omega), List.append_assoc, List.drop_eq_getElem_cons (show k < R.length by omega)]
  rfl
theorem shAt_get' {k m : Nat} {y : α} {R : List α} (hk : k = m + 1) (hm : m < R.length) : (shAt k y R)[m]? = some R[m] := by subst hk; exact shAt_get hm
theorem shAt_step' {k m : Nat} {y : α} {R : List α} (hk : k = m + 1) (hm : m < R.length) : (shAt k y R).set k R[m] = shAt m R[m] R := by subst hk; exact shAt_step hm
theorem shAt_set {k : Nat} {y z : α} {R : List α} (hk : k ≤ R.length) : (shAt k y R).set k z = shAt k z R := by
  unfold shAt
  have hl : (R.take k).length = k := by rw [List.length_take]; omega
  rw [List.set_append_right _ _ (by omega), hl, Nat.sub_self, List.set_cons_zero]
end
theorem insR_sh (s : Sp) (x : Int) (R : List (Sp × Int)) : insR s x R = shAt (posS s R) (s, x) R := rfl

/-- What Set makes of the list. -/
def refL (s : Sp) (x : Int) (R : List (Sp × Int)) : List (Sp × Int) := if setE s R = 0 then (if (getS s R).isSome then R.set (posS s R) (s, x) else insR s x R) else R

section
variable {w : World} {rb : Nat} {vA vX v' : Value} {A X : List (Sp × Int)}
theorem RIn.mkA (ht : w.heap[rb]? = some (.cells #[vA, vX] 50 (0, 0))) (hx : w.ownsRow 0 3 1 vX X.length (X.flatMap encX)) (hA : w.ownsRow 0 26 2 v' A.length (A.flatMap encA)) :
    RIn (w.setCell ⟨rb, 0, none⟩ v') rb v' vX A X := by
  have hF : Fr [rb] w (w.setCell ⟨rb, 0, none⟩ v') := (Fr.refl _ w).setCell (.inl (by simp)) _
  refine ⟨set_of ht 0 _, owns_fr hA hF (fun k hk => ?_), owns_fr hx hF (fun k hk => ?_)⟩
  all_goals
    rw [List.mem_singleton]
    rintro rfl
  · obtain ⟨cur, hh⟩ := own_heap hA hk
    rw [ht] at hh
    injection hh with hh
    injection hh with h1 h2 h3
    cases h2
  · obtain ⟨cur, hh⟩ := own_heap hx hk
    rw [ht] at hh
    injection hh with hh
    injection hh with h1 h2 h3
    cases h2
theorem RIn.mkX (ht : w.heap[rb]? = some (.cells #[vA, vX] 50 (0, 0))) (hA : w.ownsRow 0 26 2 vA A.length (A.flatMap encA)) (hx : w.ownsRow 0 3 1 v' X.length (X.flatMap encX)) :
    RIn (w.setCell ⟨rb, 1, none⟩ v') rb vA v' A X := by
  have hF : Fr [rb] w (w.setCell ⟨rb, 1, none⟩ v') := (Fr.refl _ w).setCell (.inl (by simp)) _
  refine ⟨set_of ht 1 _, owns_fr hA hF (fun k hk => ?_), owns_fr hx hF (fun k hk => ?_)⟩
  all_goals
    rw [List.mem_singleton]
    rintro rfl
  · obtain ⟨cur, hh⟩ := own_heap hA hk
    rw [ht] at hh
    injection hh with hh
    injection hh with h1 h2 h3
    cases h2
  · obtain ⟨cur, hh⟩ := own_heap hx hk
    rw [ht] at hh
    injection hh with hh
    injection hh with h1 h2 h3
    cases h2
end

theorem w64 (n : Int) (h : -9223372036854775808 ≤ n ∧ n ≤ 9223372036854775807) : wrap64 n = n := by unfold wrap64; omega
theorem infoInt : (Try.prog.info? 3).map (fun i => (i.zero, i.size, i.bytes)) = some (some (.int .i64 0), 1, 8) := by kernel_rfl

theorem set7N (rb : Nat) (s : Sp) (x : Int) (w : World) (h : mayS s.1 s.2 = false) :
    Calls Try.prog 71 #[.pointer (some ⟨rb, 0, none⟩), spV s, .int .i64 x] w fun e w1 => e = .returned (.int .i64 10) ∧ Fr [] w w1 := by
  have h5 : (s.1 < 0) ∨ (¬ s.1 < 0 ∧ 65536 ≤ s.1) ∨ (¬ s.1 < 0 ∧ ¬ 65536 ≤ s.1 ∧ s.2 < 0) ∨ (¬ s.1 < 0 ∧ ¬ 65536 ≤ s.1 ∧ ¬ s.2 < 0 ∧ 702 ≤ s.2) := by
    simp only [mayS, decide_eq_false_iff_not] at h
    simp at h
    omega
  clear h
  rcases h5 with h1 | ⟨h1, h2⟩ | ⟨h1, h2, h3⟩ | ⟨h1, h2, h3, h4⟩
  all_goals
    go_enter Try.func71, Try.ntmps71
    go_wp2
    go_ret
    exact ⟨rfl, (Fr.refl [] w).alloc _⟩

set_option maxRecDepth 100000 in
set_option maxHeartbeats 6400000 in
theorem set7T (rb : Nat) (vA vX : Value) (R : List (Sp × Int)) (s : Sp) (x : Int) (w : World) (h : RIn w rb vA vX R R) (hR : Srt R) (hl : R.length ≤ 65536) (hm : mayS s.1 s.2 = true) (hg : (getS s R).isSome = true) :
    Calls Try.prog 71 #[.pointer (some ⟨rb, 0, none⟩), spV s, .int .i64 x] w fun e w1 => e = .returned (.int .i64 0) ∧ RIn w1 rb vA vX (R.set (posS s R) (s, x)) (R.set (posS s R) (s, x)) ∧ Fr (rBl rb vA vX) w w1 := by
  have hmm : ¬ s.1 < 0 ∧ ¬ 65536 ≤ s.1 ∧ ¬ s.2 < 0 ∧ ¬ 702 ≤ s.2 := by
    simp [mayS] at hm
    omega
  obtain ⟨h1, h2, h3, h4⟩ := hmm
  have HH := Lib.hid h
  have HR := Lib.hid hR
  have HL := Lib.hid hl
  have HG := Lib.hid hg
  clear h hR hl hg hm
  go_enter Try.func71, Try.ntmps71
  go_wp2_with fail
  refine (find7 rb vA vX R s _ (HH.out.fr ((Fr.refl [] w).alloc _)) HR.out HL.out).mono ?_
  rw [HG.out]
  rintro e w1 ⟨rfl, hf1⟩
  have hF := ((Fr.refl [] w).alloc (.cells #[.int .i64 s.1, .int .i64 s.2] 26)).trans0 hf1
  have HW := Lib.hid (HH.out.fr hF)
  clear hf1
  obtain ⟨z, hx⟩ := Option.isSome_iff_exists.1 HG.out
  obtain ⟨hp, hpe⟩ := pos_yes HR.out hx
  obtain ⟨f, cx, ef, hfl, _⟩ := HW.out.xsC hp
  subst ef
  obtain ⟨x0, _, hfx⟩ := HW.out.xsG hp
  have f0 := hfx (posS s R)
  have t1 : w1.cell? ⟨rb, 1, none⟩ = some (.slice (some ⟨f, 0, none⟩) R.length cx) := cell_of HW.out.tab 1
  have hrl := lt_of HW.out.tab
  have hpi : (posS s R : Int) < (R.length : Int) := by omega
  have HPE := Lib.hid hpe
  have HP := Lib.hid hp
  clear hfx hx
  go_wp2_with fail
  go_ret
  have hk := HW.out.stX rfl (posS s R) (s, x)
  refine ⟨rfl, ⟨hk.tab, ?_, hk.xs⟩, (hF.mono (by simp)).setCell (.inl (by simp [rBl, Value.ownBlock])) _⟩
  have e : (R.set (posS s R) (s, x)).flatMap encA = R.flatMap encA := by
    have h1 : R.flatMap encA = (R.map (·.1)).flatMap spC := by rw [List.flatMap_map]
    have h2 : (R.set (posS s R) (s, x)).flatMap encA = ((R.set (posS s R) (s, x)).map (·.1)).flatMap spC := by rw [List.flatMap_map]
    rw [h1, h2, set_keys HP.out HPE.out]
  rw [e, List.length_set]
  exact hk.at'

set_option maxRecDepth 100000 in
set_option maxHeartbeats 6400000 in
theorem set7F (rb : Nat) (vA vX : Value) (R : List (Sp × Int)) (s : Sp) (x : Int) (w : World) (h : RIn w rb vA vX R R) (hR : Srt R) (hl : R.length = 65536) (hm : mayS s.1 s.2 = true) (hg : (getS s R).isSome = false) :
    Calls Try.prog 71 #[.pointer (some ⟨rb, 0, none⟩), spV s, .int .i64 x] w fun e w1 => e = .returned (.int .i64 4) ∧ Fr [] w w1 := by
  have hmm : ¬ s.1 < 0 ∧ ¬ 65536 ≤ s.1 ∧ ¬ s.2 < 0 ∧ ¬ 702 ≤ s.2 := by
    simp [mayS] at hm
    omega
  obtain ⟨h1, h2, h3, h4⟩ := hmm
  have hl2 : ¬ ((R.length : Int) < 65536) := by omega
  have hl3 : (65536 : Int) ≤ (R.length : Int) := by omega
  have HH := Lib.hid h
  have HR := Lib.hid hR
  have HL := Lib.hid hl
  have HG := Lib.hid hg
  obtain ⟨qa, ca, rfl⟩ := (RIs.of_owns h.at').form
  clear h hR hl hg hm
  go_enter Try.func71, Try.ntmps71
  go_wp2_with fail
  refine (find7 rb _ vX R s _ (HH.out.fr ((Fr.refl [] w).alloc _)) HR.out (by rw [HL.out]; exact Nat.le_refl _)).mono ?_
  rw [HG.out]
  rintro e w1 ⟨rfl, hf1⟩
  have hF := ((Fr.refl [] w).alloc (.cells #[.int .i64 s.1, .int .i64 s.2] 26)).trans0 hf1
  have HW := Lib.hid (HH.out.fr hF)
  have t0 : w1.cell? ⟨rb, 0, none⟩ = some (.slice qa R.length ca) := cell_of HW.out.tab 0
  have hrl := lt_of HW.out.tab
  clear hf1
  go_wp2_with fail
  go_ret
  exact ⟨rfl, hF⟩

set_option maxRecDepth 100000 in
set_option maxHeartbeats 1200000 in
theorem set7I (rb : Nat) (vA vX : Value) (R : List (Sp × Int)) (s : Sp) (x : Int) (w : World) (h : RIn w rb vA vX R R) (hR : Srt R) (hl : R.length < 65536) (hm : mayS s.1 s.2 = true) (hg : (getS s R).isSome = false) :
    Calls Try.prog 71 #[.pointer (some ⟨rb, 0, none⟩), spV s, .int .i64 x] w fun e w1 => e = .returned (.int .i64 0) ∧ ∃ vA' vX', RIn w1 rb vA' vX' (insR s x R) (insR s x R) ∧ Turns rb vA vX w vA' vX' w1 := by
  have hmm : ¬ s.1 < 0 ∧ ¬ 65536 ≤ s.1 ∧ ¬ s.2 < 0 ∧ ¬ 702 ≤ s.2 := by
    simp [mayS] at hm
    omega
  obtain ⟨h1, h2, h3, h4⟩ := hmm
  obtain ⟨i0, hi0, hz0, hz1, hz2⟩ := info_parts infoSpot
  have hl2 : decide ((65536 : Int) ≤ (R.length : Int)) = false := decide_eq_false (by omega)
  have HH := Lib.hid h
  have HR := Lib.hid hR
  have HL := Lib.hid hl
  have HG := Lib.hid hg
  obtain ⟨qa, ca, rfl⟩ := (RIs.of_owns h.at').form
  obtain ⟨qx, cx, rfl⟩ := (RIs.of_owns h.xs).form
  clear h hR hl hg hm
  go_enter Try.func71, Try.ntmps71
  go_wp2_with fail
  have hBn := heap_new w (.cells #[.int .i64 s.1, .int .i64 s.2] 26)
  refine (find7 rb _ _ R s _ (HH.out.fr ((Fr.refl [] w).alloc _)) HR.out (by have := HL.out; omega)).mono ?_
  rw [HG.out]
  rintro e w1 ⟨rfl, hf1⟩
  have hF := ((Fr.refl [] w).alloc (.cells #[.int .i64 s.1, .int .i64 s.2] 26)).trans0 hf1
  have hB := hf1.heap hBn (by simp)
  obtain ⟨B, hBe⟩ : ∃ B, w.heap.size = B := ⟨_, rfl⟩
  rw [hBe] at hB
  simp only [hBe]
  have hBle : w.heap.size ≤ B := by omega
  have hrw := lt_of HH.out.tab
  have HW := Lib.hid (HH.out.fr hF)
  have t0 : w1.cell? ⟨rb, 0, none⟩ = some (.slice qa R.length ca) := cell_of HW.out.tab 0
  have b0 : w1.cell? ⟨B, 0, none⟩ = some (.int .i64 s.1) := cell_of hB 0
  have b1 : w1.cell? ⟨B, 1, none⟩ = some (.int .i64 s.2) := cell_of hB 1
  have hrl := lt_of HW.out.tab
  have hBl := lt_of hB
  have hown := HW.out.at'
  have htab := HW.out.tab
  have hrn : some rb ≠ (Value.slice qa R.length ca).ownBlock := fun e => HW.out.neA e.symm rfl
  have hbn : some B ≠ (Value.slice qa R.length ca).ownBlock := fun e => by
    have h0 := HH.out.lt B (by simp [rBl, ← e])
    omega
  clear hf1 hBn hBe
  have hx1 := HW.out.xs
  have hxn : (Value.slice qx R.length cx).ownBlock = none ∨ (Value.slice qx R.length cx).ownBlock ≠ (Value.slice qa R.length ca).ownBlock := by
    cases hq : (Value.slice qx R.length cx).ownBlock with
    | none => exact .inl rfl
    | some f => exact .inr fun e => HW.out.neAX e.symm hq rfl
  go_wp2_with fail
  go_cut [] (fun wx => ∃ gg cap, RIn wx rb (.slice (some ⟨gg, 0, none⟩) (R.length + 1) cap) (.slice qx R.length cx) (R ++ [(s, x)]) R ∧ Fr (rBl rb (.slice qa R.length ca) (.slice qx R.length cx)) w wx ∧ (gg ∈ rBl rb (.slice qa R.length ca) (.slice qx R.length cx) ∨ w1.heap.size ≤ gg) ∧ wx.heap[B]? = some (.cells #[.int .i64 s.1, .int .i64 s.2] 26 (0, 0)))
  case first =>
    go_region_law (first | (refine step_append_lies _ (by rfl) _ _ _ (by rfl) 0 26 i0 _ 2 16 Try.underlying35 hi0 hz0 hz1 hz2 rfl (by omega) (.slice qa R.length ca) R.length (R.flatMap encA) (by rfl) ((hown.alloc _).drew) ⟨w1.heap.size, 0, none⟩ 1 1 (spC s) (by rfl) (by rfl) (World.news_of_block (cs := (spC s).toArray) (t := 26) (fr := (0, 0)) (heap_alloc_new w1 _)) (by simp [Value.oneCell', spC]) (by omega) (by have := HL.out; unfold maxLen; omega) (by have := HL.out; omega) (by simp) (w1.heap.size + 1) (by simp) ?_; intro gg cap w5 hown5 hgrow hat hlt5; have hT5 := (hgrow.block rb (by simp; omega) hrn).trans ((((Fr.refl [] w1).alloc _).drew).heap htab (by simp)); have hB5 := (hgrow.block B (by simp; omega) hbn).trans ((((Fr.refl [] w1).alloc _).drew).heap hB (by simp)); have hTc5 := cell_of hT5 0; have hTf5 := free_of hT5 0))
    all_goals
      have hx5 := ((hx1.alloc (.cells #[.int .i64 s.1, .int .i64 s.2] 26)).drew).kept hgrow hxn
      have hA5 : w5.ownsRow 0 26 2 (.slice (some ⟨gg, 0, none⟩) (R.length + 1) cap) (R ++ [(s, x)]).length ((R ++ [(s, x)]).flatMap encA) := by
        rw [List.length_append, List.flatMap_append]
        simpa using hown5
      have hk := RIn.mkA hT5 hx5 hA5
      have hF6 : Fr (rBl rb (.slice qa R.length ca) (.slice qx R.length cx)) w (w5.setCell ⟨rb, 0, none⟩ (.slice (some ⟨gg, 0, none⟩) (R.length + 1) cap)) :=
        ((((hF.mono (by simp)).alloc _).drew).grown hgrow (fun g hg => .inl (by simp [rBl, hg]))).setCell (.inl (by simp [rBl])) _
      have hGG : gg ∈ rBl rb (.slice qa R.length ca) (.slice qx R.length cx) ∨ w1.heap.size ≤ gg := by
        rcases hat with h | h
        · exact .inl (by simp [rBl, h])
        · exact .inr (by have := hF.size; omega)
      have hB6 := Lib.hid (((Fr.refl [rb] w5).setCell (p := ⟨rb, 0, none⟩) (.inl (by simp)) (.slice (some ⟨gg, 0, none⟩) (R.length + 1) cap)).heap hB5 (by simp; omega))
      have HK := Lib.hid hk
      have HF6 := Lib.hid hF6
      clear hx5 hA5 hk hF6
      go_wp2_with fail
      go_meet
      exact ⟨gg, cap, HK.out, HF6.out, hGG, hB6.out⟩
  case rest =>
    obtain ⟨gg, cap, hk, hF6, hGG, hB6⟩ := hcut
    obtain ⟨j0, hj0, hy0, hy1, hy2⟩ := info_parts infoInt
    have HK6 := Lib.hid hk
    have hrn6 : some rb ≠ (Value.slice qx R.length cx).ownBlock := fun e => HK6.out.neX e.symm rfl
    have hbn6 : some B ≠ (Value.slice qx R.length cx).ownBlock := fun e => by
      have h0 := HH.out.lt B (by simp [rBl, ← e])
      omega
    have hgn6 : (Value.slice (some ⟨gg, 0, none⟩) (R.length + 1) cap).ownBlock = none ∨ (Value.slice (some ⟨gg, 0, none⟩) (R.length + 1) cap).ownBlock ≠ (Value.slice qx R.length cx).ownBlock := .inr fun e => HK6.out.neAX rfl e.symm rfl
    have t0 : wc.cell? ⟨rb, 0, none⟩ = some (.slice (some ⟨gg, 0, none⟩) (R.length + 1) cap) := cell_of hk.tab 0
    have t1 : wc.cell? ⟨rb, 1, none⟩ = some (.slice qx R.length cx) := cell_of hk.tab 1
    have hownx := hk.xs
    have htab6 := hk.tab
    have hAt6 := hk.at'
    have hrl6 := lt_of hk.tab
    have hwc := hF6.size
    have HF6 := Lib.hid hF6
    have HGG := Lib.hid hGG
    have HB6 := Lib.hid hB6
    clear hk hF6 hGG hB6 t0 hx1 hxn htab hown hB b0 b1
    go_wp2_with (at_builtin; refine wpList_append_own_at _ rfl _ _ 48 rfl 0 3 j0 (.int .i64 0) 1 8 Try.underlying48 hj0 hy0 hy1 hy2 rfl (by decide) _ _ _ rfl (hownx.alloc _) ⟨wc.heap.size, 0, none⟩ 1 1 [.int .i64 x] rfl rfl (news_of _ _ _) (by simp [Value.oneCell']) (by have := HL.out; unfold maxLen; omega) (by have := HL.out; omega) (by omega) ?_; intro v' w7 hown7 hgrow7 _ hat7; obtain ⟨ff, cf, rfl⟩ := ownsRow_succ hown7; have hT7 := (hgrow7.block rb (by simp; omega) hrn6).trans (((Fr.refl [] wc).alloc _).heap htab6 (by simp)); have hTc70 := cell_of hT7 0; have hTc7 := cell_of hT7 1; have hTf7 := free_of hT7 1)
    have hB7 := (hgrow7.block B (by simp; have := lt_of HB6.out; omega) hbn6).trans (((Fr.refl [] wc).alloc (.cells #[.int .i64 x] 3)).heap HB6.out (by simp))
    have hA7 := (hAt6.alloc (.cells #[.int .i64 x] 3)).kept hgrow7 hgn6
    have hX7 : w7.ownsRow 0 3 1 (.slice (some ⟨ff, 0, none⟩) (R.length + 1) cf) (R ++ [(s, x)]).length ((R ++ [(s, x)]).flatMap encX) := by
      rw [List.length_append, List.flatMap_append]
      simpa using hown7
    have hk8 := RIn.mkX hT7 hA7 hX7
    have hF8 : Fr (rBl rb (.slice qa R.length ca) (.slice qx R.length cx)) w (w7.setCell ⟨rb, 1, none⟩ (.slice (some ⟨ff, 0, none⟩) (R.length + 1) cf)) :=
      (((HF6.out.alloc _)).grown hgrow7 (fun g hg => .inl (by simp only [rBl, List.mem_cons, List.mem_append, Option.mem_toList]; exact .inr (.inr hg)))).setCell (.inl (by simp [rBl])) _
    have hB8 := ((Fr.refl [rb] w7).setCell (p := ⟨rb, 1, none⟩) (.inl (by simp)) (.slice (some ⟨ff, 0, none⟩) (R.length + 1) cf)).heap hB7 (by simp; omega)
    have hFF : ff ∈ rBl rb (.slice qa R.length ca) (.slice qx R.length cx) ∨ wc.heap.size ≤ ff := by
      rcases hat7 with h | h
      · exact .inl (by simp only [rBl, List.mem_cons, List.mem_append, Option.mem_toList]; exact .inr (.inr h.symm))
      · exact .inr (by simp [Value.ownBlock] at h; omega)
    clear hTc70 hTc7 hTf7 hT7 hA7 hX7 hown7 hgrow7 hat7 hB7 hownx htab6 hAt6 t1 hrl6
    rw [← shAt_end (s, x) R] at hk8
    generalize w7.setCell ⟨rb, 1, none⟩ (.slice (some ⟨ff, 0, none⟩) (R.length + 1) cf) = W8 at *
    have HK8 := Lib.hid hk8
    have HF8 := Lib.hid hF8
    have HFF := Lib.hid hFF
    have HB8 := Lib.hid hB8
    have HP := Lib.hid (pos_le s R)
    clear hk8 hF8 hFF hB8
    go_loopw [9] (fun kv wr => ∃ (k : Nat) (y : Sp × Int), kv = .int .i64 (k : Int) ∧ posS s R ≤ k ∧ k ≤ R.length ∧ RIn wr rb (.slice (some ⟨gg, 0, none⟩) (R.length + 1) cap) (.slice (some ⟨ff, 0, none⟩) (R.length + 1) cf) (shAt k y R) (shAt k y R) ∧ Fr [rb, gg, ff] W8 wr) (fun kv _ => (intOf kv).toNat)
    case atStart => exact ⟨R.length, (s, x), by have := HL.out; simp; exact w64 _ (by omega), HP.out, Nat.le_refl _, HK8.out, Fr.refl _ _⟩
    case round =>
      obtain ⟨k, y, rfl, hpk, hkR, hRI, hfr⟩ := hrel
      have HK := Lib.hid hRI
      have HPK := Lib.hid hpk
      have HKR := Lib.hid hkR
      have hrl2 := lt_of hRI.tab
      have t0 : wr.cell? ⟨rb, 0, none⟩ = some (.slice (some ⟨gg, 0, none⟩) (R.length + 1) cap) := cell_of hRI.tab 0
      have t1 : wr.cell? ⟨rb, 1, none⟩ = some (.slice (some ⟨ff, 0, none⟩) (R.length + 1) cf) := cell_of hRI.tab 1
      have HLEN := Lib.hid (shAt_len (y := y) hkR)
      clear hRI hpk
      by_cases hlt : (posS s R : Int) < (k : Int)
      · obtain ⟨m, hkm⟩ : ∃ m, k = m + 1 := ⟨k - 1, by omega⟩
        have HKM := Lib.hid hkm
        have hmR : m < R.length := by omega
        have hpm : posS s R ≤ m := by omega
        have hi1 : (k : Int) < (R.length : Int) + 1 := by omega
        clear hkm
        obtain ⟨e0, e1, hgl2, hfz⟩ := HK.out.atG (k := m) (by rw [HLEN.out]; exact Nat.lt_succ_of_lt hmR)
        obtain ⟨x0, hfl2, hfx⟩ := HK.out.xsG (k := m) (by rw [HLEN.out]; exact Nat.lt_succ_of_lt hmR)
        obtain ⟨z, d0, d1⟩ : ∃ z : Sp × Int, wr.cell? ⟨gg, k * 2, none⟩ = some (.int .i64 z.1.1) ∧ wr.cell? ⟨gg, k * 2 + 1, none⟩ = some (.int .i64 z.1.2) := by
          obtain ⟨d0, d1, _⟩ := HK.out.atG (k := k) (by rw [HLEN.out]; exact Nat.lt_succ_of_le hkR)
          exact ⟨_, d0, d1⟩
        have hgt : (shAt k y R)[m]'(by rw [HLEN.out]; exact Nat.lt_succ_of_lt hmR) = R[m] := by
          have := shAt_get' (y := y) HKM.out hmR
          rw [List.getElem?_eq_getElem (by rw [HLEN.out]; exact Nat.lt_succ_of_lt hmR)] at this
          exact Option.some.inj this
        rw [hgt] at e0 e1
        obtain ⟨q, hq⟩ : ∃ q, R[m] = q := ⟨_, rfl⟩
        have HGQ := Lib.hid (hgt.trans hq)
        have HST := Lib.hid (show (shAt k y R).set k q = shAt m q R by rw [← hq]; exact shAt_step' HKM.out hmR)
        rw [hq] at e0 e1
        have f0 := hfz (k * 2)
        have f1 := hfz (k * 2 + 1)
        have hi0 : (m : Int) < (R.length : Int) + 1 := by omega
        clear hgt hq hfz hfx x0
        have hHR := HL.out
        have hw1 : IntKind.i64.wrap ((k : Int) - 1) = (m : Int) := by have := HKM.out; rw [IntKind.wrap_i64]; omega
        have hw2 : wrap64 (m : Int) = (m : Int) := w64 _ (by omega)
        clear hHR
        go_wp2_with fail
        go_region
        have hk2 := HK.out.stA HLEN.out.symm k q
        rw [HST.out] at hk2
        have hk2 := hk2.fr ((Fr.refl [] _).drew)
        have hF2 : Fr [rb, gg, ff] W8 ((wr.setCell ⟨gg, k * 2, none⟩ (.int .i64 q.1.1)).setCell ⟨gg, k * 2 + 1, none⟩ (.int .i64 q.1.2)).drew := ((hfr.setCell (.inl (by simp)) _).setCell (.inl (by simp)) _).drew
        generalize ((wr.setCell ⟨gg, k * 2, none⟩ (.int .i64 q.1.1)).setCell ⟨gg, k * 2 + 1, none⟩ (.int .i64 q.1.2)).drew = W2 at *
        clear t0 e0 e1 d0 d1 f0 f1 t1 hfl2 hgl2
        have HK2 := Lib.hid hk2
        clear hk2
        have t1 : W2.cell? ⟨rb, 1, none⟩ = some (.slice (some ⟨ff, 0, none⟩) (R.length + 1) cf) := cell_of HK2.out.tab 1
        obtain ⟨x0, hfl2, hfx⟩ := HK2.out.xsG (k := m) (by rw [HLEN.out]; exact Nat.lt_succ_of_lt hmR)
        obtain ⟨z1, y0⟩ : ∃ z : Int, W2.cell? ⟨ff, k, none⟩ = some (.int .i64 z) := by
          obtain ⟨d0, _⟩ := HK2.out.xsG (k := k) (by rw [HLEN.out]; exact Nat.lt_succ_of_le hkR)
          exact ⟨_, d0⟩
        rw [HGQ.out] at x0
        have f2 := hfx k
        clear hfx
        go_wp2_with fail
        go_region
        have hk3 := HK2.out.stX HLEN.out.symm k q
        rw [HST.out] at hk3
        have hk3 := hk3.fr ((Fr.refl [] _).drew)
        have hF3 : Fr [rb, gg, ff] W8 (W2.setCell ⟨ff, k, none⟩ (.int .i64 q.2)).drew := (hF2.setCell (.inl (by simp)) _).drew
        generalize (W2.setCell ⟨ff, k, none⟩ (.int .i64 q.2)).drew = W3 at *
        have HK3 := Lib.hid hk3
        clear hk3 x0 y0 t1 f2
        go_wp2_with fail
        go_roundw
        case rel => exact ⟨m, q, by first | rfl | simp [hw2], hpm, Nat.le_of_lt hmR, HK3.out, hF3⟩
        case measure => simp [intOf]; exact HKM.out ▸ Nat.lt_succ_self m
      · obtain rfl : k = posS s R := by have := HPK.out; omega
        have hpi : (posS s R : Int) < (R.length : Int) + 1 := by omega
        obtain ⟨z, d0, d1⟩ : ∃ z : Sp × Int, wr.cell? ⟨gg, posS s R * 2, none⟩ = some (.int .i64 z.1.1) ∧ wr.cell? ⟨gg, posS s R * 2 + 1, none⟩ = some (.int .i64 z.1.2) := by
          obtain ⟨d0, d1, _⟩ := HK.out.atG (k := posS s R) (by rw [HLEN.out]; omega)
          exact ⟨_, d0, d1⟩
        obtain ⟨_, _, hgl2, hfz⟩ := HK.out.atG (k := posS s R) (by rw [HLEN.out]; omega)
        have f0 := hfz (posS s R * 2)
        have f1 := hfz (posS s R * 2 + 1)
        have hBF : B ∉ [rb, gg, ff] := by
          have h1 := HGG.out
          have h2 := HFF.out
          have h3 := HH.out.lt
          simp
          have h4 := lt_of HB6.out
          refine ⟨by omega, fun e => ?_, fun e => ?_⟩
          · subst e
            rcases h1 with h1 | h1
            · have := h3 _ h1; omega
            · omega
          · subst e
            rcases h2 with h2 | h2
            · have := h3 _ h2; omega
            · omega
        have hBr := hfr.heap HB8.out hBF
        have b0 : wr.cell? ⟨B, 0, none⟩ = some (.int .i64 s.1) := cell_of hBr 0
        have b1 : wr.cell? ⟨B, 1, none⟩ = some (.int .i64 s.2) := cell_of hBr 1
        have hBl2 := lt_of hBr
        clear hfz
        go_wp2_with fail
        go_region
        have HST := Lib.hid (shAt_set (y := y) (z := (s, x)) HKR.out)
        have hk2 := HK.out.stA HLEN.out.symm (posS s R) (s, x)
        rw [HST.out] at hk2
        have hk2 := hk2.fr ((Fr.refl [] _).drew)
        have hF2 : Fr [rb, gg, ff] W8 ((wr.setCell ⟨gg, posS s R * 2, none⟩ (.int .i64 s.1)).setCell ⟨gg, posS s R * 2 + 1, none⟩ (.int .i64 s.2)).drew := ((hfr.setCell (.inl (by simp)) _).setCell (.inl (by simp)) _).drew
        simp only at hk2
        generalize ((wr.setCell ⟨gg, posS s R * 2, none⟩ (.int .i64 s.1)).setCell ⟨gg, posS s R * 2 + 1, none⟩ (.int .i64 s.2)).drew = W2 at *
        clear t0 d0 d1 f0 f1 t1 hgl2 hBF hBr b0 b1 hBl2
        have HK2 := Lib.hid hk2
        clear hk2
        have t1 : W2.cell? ⟨rb, 1, none⟩ = some (.slice (some ⟨ff, 0, none⟩) (R.length + 1) cf) := cell_of HK2.out.tab 1
        have hrl3 := lt_of HK2.out.tab
        obtain ⟨z1, y0⟩ : ∃ z : Int, W2.cell? ⟨ff, posS s R, none⟩ = some (.int .i64 z) := by
          obtain ⟨d0, _⟩ := HK2.out.xsG (k := posS s R) (by rw [HLEN.out]; omega)
          exact ⟨_, d0⟩
        obtain ⟨_, hfl2, hfx⟩ := HK2.out.xsG (k := posS s R) (by rw [HLEN.out]; omega)
        have f2 := hfx (posS s R)
        clear hfx
        go_wp2_with fail
        go_ret
        have hk3 := HK2.out.stX HLEN.out.symm (posS s R) (s, x)
        rw [HST.out] at hk3
        refine ⟨rfl, .slice (some ⟨gg, 0, none⟩) (R.length + 1) cap, .slice (some ⟨ff, 0, none⟩) (R.length + 1) cf, ?_, ?_, ?_⟩
        · rw [insR_sh]
          exact hk3
        · refine HF8.out.trans (hF2.setCell (.inl (by simp)) _) ?_
          intro g hg
          simp only [List.mem_cons, List.not_mem_nil, or_false] at hg
          rcases hg with rfl | rfl | rfl
          · exact .inl (by simp [rBl])
          · exact HGG.out.imp id fun h => by have := hF.size; omega
          · exact HFF.out.imp id fun h => by omega
        · intro g hg
          simp only [rBl, Value.ownBlock, Option.toList, List.mem_cons, List.mem_append, List.not_mem_nil, or_false] at hg
          rcases hg with rfl | rfl | rfl
          · exact .inl (by simp [rBl])
          · exact HGG.out.imp id fun h => by have := hF.size; omega
          · exact HFF.out.imp id fun h => by omega
end Go.Proofs.Ytldppdafgbipjaa
