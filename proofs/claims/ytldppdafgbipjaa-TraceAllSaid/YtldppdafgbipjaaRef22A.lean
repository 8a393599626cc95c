/-
  The document's places in row order: ahead, sorted.
-/
import Derived.Test.YtldppdafgbipjaaRef22L
namespace Go.Proofs.Ytldppdafgbipjaa
open Go.RowKit

theorem refAhead (a b : Sp) (w : World) : Calls Try.prog 142 #[spV a, spV b] w fun e w1 => e = .returned (.bool (ltS a b)) ∧ Fr [] w w1 := by
  obtain ⟨a1, a2⟩ := a
  obtain ⟨b1, b2⟩ := b
  by_cases h1 : a1 < b1
  · go_enter Try.func142, Try.ntmps142
    go_wp2
    go_ret
    exact ⟨ret_bool (by simp [ltS, h1]), ((Fr.refl _ _).alloc _).alloc _⟩
  · by_cases h2 : a1 = b1
    · subst h2
      by_cases h3 : a2 < b2
      all_goals
        go_enter Try.func142, Try.ntmps142
        go_wp2
        go_ret
        exact ⟨ret_bool (by simp [ltS, h3]), ((Fr.refl _ _).alloc _).alloc _⟩
    · have h2b : (a1 == b1) = false := by rw [beq_eq_false_iff_ne]; exact h2
      go_enter Try.func142, Try.ntmps142
      go_wp2
      go_ret
      exact ⟨ret_bool (by simp [ltS, h1, h2]), ((Fr.refl _ _).alloc _).alloc _⟩

theorem SlAt.front {w : World} {b off n c size : Nat} {cs : List Value} (h : SlAt w (.slice (some ⟨b, off, none⟩) n c) size n cs) (k : Nat) (hk : k ≤ n) : SlAt w (.slice (some ⟨b, off, none⟩) k c) size k (cs.take (k * size)) := by
  obtain ⟨_, _, e, h1, h2⟩ := h.form
  cases e
  have hks : k * size ≤ n * size := Nat.mul_le_mul_right _ hk
  refine ⟨by rw [List.length_take, h.len]; omega, ⟨_, _, rfl, by omega, h2⟩, fun h0 => ?_⟩
  obtain ⟨b', off', c', e, hb, hc⟩ := h.cell (by omega)
  cases e
  refine ⟨_, _, _, rfl, hb, fun j x hx => hc j x ?_⟩
  rw [List.getElem?_take] at hx
  split at hx
  · exact hx
  · cases hx
theorem SlAt.back {w : World} {b off n c size : Nat} {cs : List Value} (h : SlAt w (.slice (some ⟨b, off, none⟩) n c) size n cs) (k : Nat) (hk : k ≤ n) : SlAt w (.slice (some ⟨b, off + k * size, none⟩) (n - k) (c - k)) size (n - k) (cs.drop (k * size)) := by
  obtain ⟨_, _, e, h1, h2⟩ := h.form
  cases e
  have hks : k * size ≤ n * size := Nat.mul_le_mul_right _ hk
  refine ⟨by rw [List.length_drop, h.len, Nat.sub_mul], ⟨_, _, rfl, by omega, by omega⟩, fun h0 => ?_⟩
  obtain ⟨b', off', c', e, hb, hc⟩ := h.cell (by omega)
  cases e
  refine ⟨_, _, _, rfl, hb, fun j x hx => ?_⟩
  rw [List.getElem?_drop] at hx
  have := hc _ _ hx
  rwa [← Nat.add_assoc] at this
theorem flat_drop {α : Type} (f : α → List Value) (size : Nat) (hf : ∀ x, (f x).length = size) : ∀ (l : List α) (m : Nat), (l.flatMap f).drop (m * size) = (l.drop m).flatMap f
  | [], m => by simp
  | x :: l, 0 => by simp
  | x :: l, m + 1 => by
    rw [List.flatMap_cons, List.drop_succ_cons, ← flat_drop f size hf l m]
    have e : (m + 1) * size = (f x).length + m * size := by rw [hf, Nat.add_mul]; omega
    rw [e, List.drop_append, List.drop_eq_nil_of_le (by omega)]
    simp
theorem SlAt.alt {w : World} {p q : Option Addr} {n c size : Nat} {cs : List Value} {P : Prop} [Decidable P] (h : SlAt w (.slice q n c) size n cs) (hP : P → n = 0) : SlAt w (.slice (if P then p else q) n c) size n cs := by
  by_cases hp : P
  · rw [if_pos hp]
    obtain ⟨_, _, e, h1, h2⟩ := h.form
    cases e
    exact ⟨h.len, ⟨_, _, rfl, h1, h2⟩, fun h0 => by have := hP hp; omega⟩
  · rw [if_neg hp]
    exact h
def lenV : Value → Nat
  | .slice _ n _ => n
  | _ => 0
/-- Where a slice lies, if it lies. -/
def Past (B : Nat) (v : Value) : Prop := ∀ b off n c, v = .slice (some ⟨b, off, none⟩) n c → B ≤ b

/-- The loop. -/
structure ML (l : List Sp) (W : World) (va vb vc : Value) (c a b : List Sp) (wr : World) : Prop where
  mrg : Mrg l c a b
  a : SpotsAt W va a
  b : SpotsAt W vb b
  c : wr.ownsRow W.heap.size tSp 2 vc c.length (c.flatMap spC)
  fr : Fr [] W wr

set_option maxRecDepth 100000 in
set_option maxHeartbeats 3200000 in
theorem refSorted : ∀ (N : Nat) (l : List Sp), l.length ≤ N → l.Nodup → ∀ (v : Value) (w : World), SpotsAt w v l → l.length ≤ 65536 →
    Calls Try.prog 123 #[v] w fun e w1 => ∃ v', e = .returned v' ∧ SpotsAt w1 v' (sortS l) ∧ (v' = v ∨ Past w.heap.size v') ∧ Fr [] w w1 := by
  intro N
  induction N with
  | zero =>
    intro l hl _ v w hv _
    have h2 : l.length < 2 := by omega
    obtain ⟨q, c, rfl, hc1, hc2⟩ := hv.form
    have HV := Lib.hid hv
    have hl0 : (l.length : Int) < 2 := by omega
    clear hv
    go_enter Try.func123, Try.ntmps123
    go_wp2
    go_ret
    exact ⟨_, rfl, by rw [sortS_short h2]; exact HV.out, .inl rfl, Fr.refl _ _⟩
  | succ N IH =>
    intro l hl hn v w hv hbig
    obtain ⟨q, c, rfl, hc1, hc2⟩ := hv.form
    by_cases h2 : l.length < 2
    · have HV := Lib.hid hv
      have hl0 : (l.length : Int) < 2 := by omega
      clear hv
      go_enter Try.func123, Try.ntmps123
      go_wp2
      go_ret
      exact ⟨_, rfl, by rw [sortS_short h2]; exact HV.out, .inl rfl, Fr.refl _ _⟩
    · obtain ⟨b, off, c', e, hb, hc⟩ := hv.cell (by omega)
      cases e
      have hl0 : ¬ (l.length : Int) < 2 := by omega
      obtain ⟨hh, hhe⟩ : ∃ hh, l.length / 2 = hh := ⟨_, rfl⟩
      have hq : (l.length : Int) / 2 = (hh : Int) := by omega
      have hh1 : hh ≤ l.length := by omega
      have HA : Hid (SpotsAt w (.slice (some ⟨b, off, none⟩) hh c) (l.take hh)) := by
        show SlAt _ _ _ _ _
        have := SlAt.front hv hh hh1
        rw [flat_take spC 2 (fun _ => rfl)] at this
        rwa [List.length_take, Nat.min_eq_left hh1]
      have HB : Hid (SpotsAt w (.slice (some ⟨b, off + hh * 2, none⟩) (l.length - hh) (c - hh)) (l.drop hh)) := by
        show SlAt _ _ _ _ _
        have := SlAt.back hv hh hh1
        rw [flat_drop spC 2 (fun _ => rfl)] at this
        rwa [List.length_drop]
      have HN := Lib.hid hn
      have IHA := Lib.hid (IH (l.take hh) (by rw [List.length_take]; omega) (hn.sublist (List.take_sublist _ _)))
      have IHB := Lib.hid (IH (l.drop hh) (by rw [List.length_drop]; omega) (hn.sublist (List.drop_sublist _ _)))
      clear hv hc IH hn
      go_enter Try.func123, Try.ntmps123
      go_wp2_with fail
      refine (IHA.out _ _ HA.out (by rw [List.length_take]; omega)).mono ?_
      rintro e w1 ⟨va, rfl, hA, _, h1⟩
      go_wp2_with fail
      refine (IHB.out _ _ (HB.out.fr0 h1) (by rw [List.length_drop]; omega)).mono ?_
      rintro e w2 ⟨vb, rfl, hB, _, h2⟩
      have HF := Lib.hid (h1.trans0 h2)
      have hA := hA.fr0 h2
      have HM := Lib.hid (Mrg.begin_ HN.out hh)
      have hla : (sortS (l.take hh)).length ≤ 65536 := by rw [(sortS_perm _).length_eq, List.length_take]; omega
      have hlb : (sortS (l.drop hh)).length ≤ 65536 := by rw [(sortS_perm _).length_eq, List.length_drop]; omega
      have HLA := Lib.hid hla
      have HLB := Lib.hid hlb
      generalize sortS (l.take hh) = A at *
      generalize sortS (l.drop hh) = B at *
      have HA2 := Lib.hid hA
      have HB2 := Lib.hid hB
      have hw := h2.size
      have hw' := h1.size
      clear hA hB h1 h2 IHA IHB HA HB hhe hq hh1 hl0 hla hlb
      obtain ⟨i0, hi, hz0, hz1, hz2⟩ := info_parts infoSpot
      go_wp2_with fail
      go_loopw [3, 4, 5] (fun xa xb xc wr => ∃ c a b, ML l w2 xa xb xc c a b wr) (fun xa xb _ _ => lenV xa + lenV xb)
      case atStart => exact ⟨[], A, B, HM.out, HA2.out, HB2.out, World.ownsRow_nil _ _ _ _, Fr.refl _ _⟩
      case round =>
        obtain ⟨cl, al, bl, hm, ha, hb, hc, hf⟩ := hrel
        have hbd : al.length + bl.length + cl.length ≤ 65536 := by
          have := hm.perm.length_eq
          simp only [List.length_append] at this
          omega
        have HMR := Lib.hid hm
        have HFR := Lib.hid hf
        have HC := Lib.hid hc
        have hwr := hf.size
        obtain ⟨pa, ca, rfl, ha1, ha2⟩ := ha.form
        obtain ⟨pb, cb, rfl, hb1, hb2⟩ := hb.form
        obtain ⟨pc, nc, cc, rfl⟩ := own_form hc
        have HAR := Lib.hid ha
        have HBR := Lib.hid hb
        clear hm hf ha hb hc HM HA2 HB2
        match al, bl with
        | [], [] =>
          go_wp2
          go_ret
          have e := HMR.out.done
          refine ⟨_, rfl, by rw [← e]; exact SlAt.of_owns HC.out, .inr ?_, HF.out.trans0 HFR.out⟩
          intro b off n c hx
          cases hx
          have := (HC.out.lt b rfl).1
          omega
        | x :: a', [] =>
          obtain ⟨b0, off0, _, e, b0l, hcl⟩ := HAR.out.cell (by simp)
          cases e
          have c00 : wr.cell? ⟨b0, off0, none⟩ = some (.int .i64 x.1) := (HFR.out.cell (p := ⟨b0, off0, none⟩) b0l (by simp)).trans (hcl 0 _ rfl)
          have c01 : wr.cell? ⟨b0, off0 + 1, none⟩ = some (.int .i64 x.2) := (HFR.out.cell (p := ⟨b0, off0 + 1, none⟩) b0l (by simp)).trans (hcl 1 _ rfl)
          clear hcl
          have hp1 : ((0 : Int) < ((x :: a').length : Int)) := by simp only [List.length_cons]; omega
          have hp2 : ((([] : List Sp).length : Int) == 0) = true := rfl
          simp only [List.length_cons] at hbd hp1
          go_upto_region 7 with fail
          go_cut [46] (fun t wx => t = .bool true ∧ Fr [] wr wx)
          case first =>
            go_region
            go_wp2_with fail
            go_meet
            exact ⟨rfl, (Fr.refl [] wr).drew⟩
          case rest =>
            obtain ⟨rfl, hWx⟩ := hcut
            have hFc := HFR.out.trans0 hWx
            have hCc := owns_fr HC.out hWx (by simp)
            have c00 := ce_call hWx c00
            have c01 := ce_call hWx c01
            have HCc := Lib.hid hCc
            have hwc := hWx.size
            have htl := SlAt.back HAR.out 1 (by simp)
            rw [flat_drop spC 2 (fun _ => rfl)] at htl
            have HTL := Lib.hid htl
            clear hCc htl hWx
            go_wp2_with (at_builtin; refine wpList_append_own _ rfl _ _ 35 rfl w2.heap.size tSp i0 _ 2 16 Try.underlying35 hi hz0 hz1 hz2 rfl (by decide) _ _ _ rfl (HCc.out.alloc _) ⟨wc.heap.size, 0, none⟩ 1 1 (spC x) rfl rfl (news_of _ _ _) (by simp [Value.oneCell', spC]) (by unfold maxLen; omega) (by omega) (by simp; omega) ?_; intro v' w3 hown' hgrow _)
            go_roundw
            case rel =>
              refine ⟨cl ++ [x], a', [], HMR.out.a (by simp), SlAt.alt (by simpa using HTL.out) (fun h => by simp only [List.length_cons] at ha1; omega), HBR.out, by simpa using hown', (hFc.alloc _).grown hgrow (fun g hg => .inr (HCc.out.lt g hg).1)⟩
            case measure => simp [lenV]
        | al, y :: b' =>
          by_cases hal0 : al.length = 0
          · have HAL := Lib.hid (List.eq_nil_of_length_eq_zero hal0)
            obtain rfl := HAL.out
            clear hal0
            obtain ⟨b1, off1, _, e, b1l, hcl⟩ := HBR.out.cell (by simp)
            cases e
            have c10 : wr.cell? ⟨b1, off1, none⟩ = some (.int .i64 y.1) := (HFR.out.cell (p := ⟨b1, off1, none⟩) b1l (by simp)).trans (hcl 0 _ rfl)
            have c11 : wr.cell? ⟨b1, off1 + 1, none⟩ = some (.int .i64 y.2) := (HFR.out.cell (p := ⟨b1, off1 + 1, none⟩) b1l (by simp)).trans (hcl 1 _ rfl)
            clear hcl
            have hp1 : ((0 : Int) < ((y :: b').length : Int)) := by simp only [List.length_cons]; omega
            have hp2 : (((b'.length : Int) + 1) == 0) = false := by rw [beq_eq_false_iff_ne]; omega
            simp only [List.length_cons] at hbd hp1
            go_upto_region 7 with fail
            go_cut [46] (fun t wx => t = .bool false ∧ Fr [] wr wx)
            case first =>
              go_region
              go_wp2_with fail
              go_meet
              exact ⟨rfl, (Fr.refl [] wr).drew⟩
            case rest =>
              obtain ⟨rfl, hWx⟩ := hcut
              have hFc := HFR.out.trans0 hWx
              have hCc := owns_fr HC.out hWx (by simp)
              have c10 := ce_call hWx c10
              have c11 := ce_call hWx c11
              have HCc := Lib.hid hCc
              have hwc := hWx.size
              have htl := SlAt.back HBR.out 1 (by simp)
              rw [flat_drop spC 2 (fun _ => rfl)] at htl
              have HTL := Lib.hid htl
              clear hCc htl hWx
              go_wp2_with (at_builtin; refine wpList_append_own _ rfl _ _ 35 rfl w2.heap.size tSp i0 _ 2 16 Try.underlying35 hi hz0 hz1 hz2 rfl (by decide) _ _ _ rfl (HCc.out.alloc _) ⟨wc.heap.size, 0, none⟩ 1 1 (spC y) rfl rfl (news_of _ _ _) (by simp [Value.oneCell', spC]) (by unfold maxLen; omega) (by omega) (by simp; omega) ?_; intro v' w3 hown' hgrow _)
              go_roundw
              case rel =>
                refine ⟨cl ++ [y], [], b', HMR.out.b (by simp), HAR.out, SlAt.alt (by simpa using HTL.out) (fun h => by simp only [List.length_cons] at hb1; omega), by simpa using hown', (hFc.alloc _).grown hgrow (fun g hg => .inr (HCc.out.lt g hg).1)⟩
              case measure => simp [lenV]
          · obtain ⟨x, a', rfl⟩ := List.exists_cons_of_length_pos (Nat.pos_of_ne_zero hal0)
            clear hal0
            obtain ⟨b0, off0, _, e, b0l, hcl⟩ := HAR.out.cell (by simp)
            cases e
            have c00 : wr.cell? ⟨b0, off0, none⟩ = some (.int .i64 x.1) := (HFR.out.cell (p := ⟨b0, off0, none⟩) b0l (by simp)).trans (hcl 0 _ rfl)
            have c01 : wr.cell? ⟨b0, off0 + 1, none⟩ = some (.int .i64 x.2) := (HFR.out.cell (p := ⟨b0, off0 + 1, none⟩) b0l (by simp)).trans (hcl 1 _ rfl)
            clear hcl
            obtain ⟨b1, off1, _, e, b1l, hcl⟩ := HBR.out.cell (by simp)
            cases e
            have c10 : wr.cell? ⟨b1, off1, none⟩ = some (.int .i64 y.1) := (HFR.out.cell (p := ⟨b1, off1, none⟩) b1l (by simp)).trans (hcl 0 _ rfl)
            have c11 : wr.cell? ⟨b1, off1 + 1, none⟩ = some (.int .i64 y.2) := (HFR.out.cell (p := ⟨b1, off1 + 1, none⟩) b1l (by simp)).trans (hcl 1 _ rfl)
            clear hcl
            have hp0 : ((0 : Int) < ((x :: a').length : Int)) := by simp only [List.length_cons]; omega
            have hp1 : ((0 : Int) < ((y :: b').length : Int)) := by simp only [List.length_cons]; omega
            have hp2 : (((b'.length : Int) + 1) == 0) = false := by rw [beq_eq_false_iff_ne]; omega
            simp only [List.length_cons] at hbd hp0 hp1
            go_upto_region 7 with fail
            go_cut [46] (fun t wx => t = .bool (ltS x y) ∧ Fr [] wr wx)
            case first =>
              go_region_held3 (fun u => u.cell? ⟨b0, off0, none⟩ = some (.int .i64 x.1) ∧ u.cell? ⟨b0, off0 + 1, none⟩ = some (.int .i64 x.2) ∧ u.cell? ⟨b1, off1, none⟩ = some (.int .i64 y.1) ∧ u.cell? ⟨b1, off1 + 1, none⟩ = some (.int .i64 y.2))
                (first | exact ⟨c00, c01, c10, c11⟩ | exact hS3)
                ((go_at_call 142; refine (refAhead x y _).mono ?_; rintro e w3 ⟨rfl, h3⟩; have h5 : Fr [] wr w3 := ((Fr.refl [] wr).drew).transS h3; have hS3 : w3.cell? ⟨b0, off0, none⟩ = some (.int .i64 x.1) ∧ w3.cell? ⟨b0, off0 + 1, none⟩ = some (.int .i64 x.2) ∧ w3.cell? ⟨b1, off1, none⟩ = some (.int .i64 y.1) ∧ w3.cell? ⟨b1, off1 + 1, none⟩ = some (.int .i64 y.2) := ⟨ce_call h5 c00, ce_call h5 c01, ce_call h5 c10, ce_call h5 c11⟩))
              all_goals
                go_wp2_with fail
                go_meet
                exact ⟨rfl, h5⟩
            case rest =>
              obtain ⟨rfl, hWx⟩ := hcut
              cases hlt : ltS x y with
              | true =>
                have HLT := Lib.hid hlt
                clear hlt
                have hFc := HFR.out.trans0 hWx
                have hCc := owns_fr HC.out hWx (by simp)
                have c00 := ce_call hWx c00
                have c01 := ce_call hWx c01
                have HCc := Lib.hid hCc
                have hwc := hWx.size
                have htl := SlAt.back HAR.out 1 (by simp)
                rw [flat_drop spC 2 (fun _ => rfl)] at htl
                have HTL := Lib.hid htl
                clear hCc htl hWx
                go_wp2_with (at_builtin; refine wpList_append_own _ rfl _ _ 35 rfl w2.heap.size tSp i0 _ 2 16 Try.underlying35 hi hz0 hz1 hz2 rfl (by decide) _ _ _ rfl (HCc.out.alloc _) ⟨wc.heap.size, 0, none⟩ 1 1 (spC x) rfl rfl (news_of _ _ _) (by simp [Value.oneCell', spC]) (by unfold maxLen; omega) (by omega) (by simp; omega) ?_; intro v' w3 hown' hgrow _)
                go_roundw
                case rel =>
                  refine ⟨cl ++ [x], a', (y :: b'), HMR.out.a (by rintro z hz; cases hz; exact HLT.out), SlAt.alt (by simpa using HTL.out) (fun h => by simp only [List.length_cons] at ha1; omega), HBR.out, by simpa using hown', (hFc.alloc _).grown hgrow (fun g hg => .inr (HCc.out.lt g hg).1)⟩
                case measure => simp [lenV]
              | false =>
                have HLT := Lib.hid hlt
                clear hlt
                have hFc := HFR.out.trans0 hWx
                have hCc := owns_fr HC.out hWx (by simp)
                have c10 := ce_call hWx c10
                have c11 := ce_call hWx c11
                have HCc := Lib.hid hCc
                have hwc := hWx.size
                have htl := SlAt.back HBR.out 1 (by simp)
                rw [flat_drop spC 2 (fun _ => rfl)] at htl
                have HTL := Lib.hid htl
                clear hCc htl hWx
                go_wp2_with (at_builtin; refine wpList_append_own _ rfl _ _ 35 rfl w2.heap.size tSp i0 _ 2 16 Try.underlying35 hi hz0 hz1 hz2 rfl (by decide) _ _ _ rfl (HCc.out.alloc _) ⟨wc.heap.size, 0, none⟩ 1 1 (spC y) rfl rfl (news_of _ _ _) (by simp [Value.oneCell', spC]) (by unfold maxLen; omega) (by omega) (by simp; omega) ?_; intro v' w3 hown' hgrow _)
                go_roundw
                case rel =>
                  refine ⟨cl ++ [y], (x :: a'), b', HMR.out.b (by rintro z hz; cases hz; exact HLT.out), HAR.out, SlAt.alt (by simpa using HTL.out) (fun h => by simp only [List.length_cons] at hb1; omega), by simpa using hown', (hFc.alloc _).grown hgrow (fun g hg => .inr (HCc.out.lt g hg).1)⟩
                case measure => simp [lenV]
end Go.Proofs.Ytldppdafgbipjaa
