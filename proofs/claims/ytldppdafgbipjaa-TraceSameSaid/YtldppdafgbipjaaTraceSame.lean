/-
  The walk of quadrillelaw22.TraceSame.
-/
import Derived.Test.YtldppdafgbipjaaBegun22
namespace Go.Proofs.Ytldppdafgbipjaa
open Go.RowKit

theorem same_eq {a b : V} (h : sameVB a b = true) : a = b := by
  obtain ⟨k, n, s⟩ := a
  obtain ⟨k', n', s'⟩ := b
  simp only [sameVB, decide_eq_true_eq] at h
  obtain ⟨rfl, rfl, h⟩ := h
  rw [ByteArray.toList_eq, ByteArray.toList_eq] at h
  rw [Go.WideShapes.bytes_inj h]

theorem and63 (n : Int) : bits BinOp.and IntKind.i64 n 63 = n % 64 := by
  show IntKind.i64.wrap ((BitVec.ofInt 64 n &&& BitVec.ofInt 64 63).toNat : Int) = _
  have h : (BitVec.ofInt 64 n &&& BitVec.ofInt 64 63).toNat = (n % 64).toNat := by
    rw [BitVec.toNat_and]
    have e : (BitVec.ofInt 64 63).toNat = 2 ^ 6 - 1 := by decide
    rw [e, Nat.and_two_pow_sub_one_eq_mod, BitVec.toNat_ofInt]
    omega
  rw [h, IntKind.wrap_i64]
  omega

/-- The three widths. -/
def wdA (e : Int) (k : Nat) : Int := if k = 0 then 0 else if k = 1 then e else e + 1
/-- Are the sums alike, of width number j, as far as k rounds have come? -/
def fuA (e : Int) (was now : V) (k j : Nat) : Bool := if j < k then decide (sumV now (wdA e j) = sumV was (wdA e j)) else false

theorem ts_keepE (was : V) : keepE (3, 0) ⟨1, 1, ⟨#[]⟩⟩ [(0, 9)] [was] [] = if mayV was = true then 0 else 24 := by
  cases h : mayV was <;> simp [keepE, mayE, mayS, may_num, setE, getS, h]
theorem ts_get (e : Int) (was : V) (h : mayV was = true) : getS (3, 0) (keepL e (3, 0) ⟨1, 1, ⟨#[]⟩⟩ [(0, 9)] [was] []) = some ⟨⟨1, 1, ⟨#[]⟩⟩, [⟨(0, 9), was, sumV was e⟩]⟩ := by
  unfold keepL
  rw [ts_keepE, h, if_pos rfl, if_pos rfl, getS_put, if_pos rfl]
  rfl
theorem ts_none (e : Int) (was : V) (h : mayV was = false) : getS (3, 0) (keepL e (3, 0) ⟨1, 1, ⟨#[]⟩⟩ [(0, 9)] [was] []) = none := by
  unfold keepL
  rw [ts_keepE, h]
  rfl
theorem ts_same0 (e : Int) (now : V) : sameO e none 0 now = (false, false, 3) := rfl
theorem ts_same1 (e : Int) (was now : V) (h : mayV now = false) : sameO e (some ⟨⟨1, 1, ⟨#[]⟩⟩, [⟨(0, 9), was, sumV was e⟩]⟩) 0 now = (false, false, 24) := by
  simp [sameO, entO, h]
theorem ts_same2 (e : Int) (was now : V) (h : mayV now = true) : sameO e (some ⟨⟨1, 1, ⟨#[]⟩⟩, [⟨(0, 9), was, sumV was e⟩]⟩) 0 now = (sameVB was now, decide (sumV now e = sumV was e), 0) := by
  have hs : (decide (sumV now e = sumV was e) && sameVB was now) = sameVB was now := by
    cases hs : sameVB was now with
    | false => simp
    | true => rw [same_eq hs]; simp
  simp [sameO, entO, h, hs]

theorem run_eqV (a b : V) (w : World) : (binOp .eql 23 a.val b.val).run Try.prog w = .ok (.bool (sameVB a b)) w := by
  obtain ⟨k, n, s⟩ := a
  obtain ⟨k', n', s'⟩ := b
  simp [go_sem, binOp, Op.equal, Op.maxDepth, sameVB]
  by_cases h1 : k = k'
  · by_cases h2 : n = n'
    · by_cases h3 : s.toList = s'.toList <;> simp [h1, h2, h3]
    · simp [h1, h2]
  · simp [h1]

theorem fu_next (e : Int) (was now : V) (k : Nat) (hk : k < 3) (b : Bool) (hb : decide (sumV now (wdA e k) = sumV was (wdA e k)) = b) :
    #[Value.bool (fuA e was now k 0), .bool (fuA e was now k 1), .bool (fuA e was now k 2)].setIfInBounds k (.bool b) = #[.bool (fuA e was now (k + 1) 0), .bool (fuA e was now (k + 1) 1), .bool (fuA e was now (k + 1) 2)] := by
  rcases (by omega : k = 0 ∨ k = 1 ∨ k = 2) with rfl | rfl | rfl <;> simp [fuA, hb]

theorem fu_end (e : Int) (he : 0 ≤ e) (was now : V) : fuA e was now 3 0 = true ∧ (fuA e was now 3 2 = true → fuA e was now 3 1 = true) := by
  refine ⟨by simp [fuA, wdA, sumV_zero], ?_⟩
  intro h
  simp only [fuA, wdA] at h ⊢
  simp at h ⊢
  exact sumV_less he h

set_option maxRecDepth 100000 in
set_option maxHeartbeats 3200000 in
theorem law_same (d : Int) (was now : V) (w : World) (h1 : was.s.size ≤ 9223372036854775807) (h2s : now.s.size ≤ 9223372036854775807) :
    Calls Try.prog 3 #[.int .i64 d, was.val, now.val] w fun e w1 => e = .returned (.bool true) ∧ Fr [] w w1 := by
  obtain ⟨e, he, he0, he1⟩ : ∃ e, bits BinOp.and IntKind.i64 d 63 = e ∧ 0 ≤ e ∧ e < 64 := ⟨d % 64, and63 d, by omega, by omega⟩
  go_enter Try.func3, Try.ntmps3
  go_wp2_with fail
  refine (begun22 _).mono ?_
  rintro e w1 ⟨rfl, hb⟩
  obtain ⟨hfr, hb1, hb2, hz⟩ := hb.new2 (by simp)
  clear hb
  go_wp2_with fail
  have hW : Fr [] w1 ((((w1.alloc (.cells #[.int .i64 3, .int .i64 0] 26)).alloc (.cells #[.int .i64 0, .int .i64 9] 26)).alloc (.cells #[.bool false, .bool false, .bool false] 27)).alloc (.cells #[.int .i64 0, .int .i64 e, .int .i64 (e + 1)] 28)) := ((((Fr.refl [] w1).alloc _).alloc _).alloc _).alloc _
  have k7 : ((((w1.alloc (.cells #[.int .i64 3, .int .i64 0] 26)).alloc (.cells #[.int .i64 0, .int .i64 9] 26)).alloc (.cells #[.bool false, .bool false, .bool false] 27)).alloc (.cells #[.int .i64 0, .int .i64 e, .int .i64 (e + 1)] 28)).heap[w1.heap.size]? = some (.cells #[.int .i64 3, .int .i64 0] 26) := hp_old (hp_old (hp_old (hp_new rfl)))
  have k8 : ((((w1.alloc (.cells #[.int .i64 3, .int .i64 0] 26)).alloc (.cells #[.int .i64 0, .int .i64 9] 26)).alloc (.cells #[.bool false, .bool false, .bool false] 27)).alloc (.cells #[.int .i64 0, .int .i64 e, .int .i64 (e + 1)] 28)).heap[w1.heap.size + 1]? = some (.cells #[.int .i64 0, .int .i64 9] 26) := hp_old (hp_old (hp_new (by simp)))
  have k9 : ((((w1.alloc (.cells #[.int .i64 3, .int .i64 0] 26)).alloc (.cells #[.int .i64 0, .int .i64 9] 26)).alloc (.cells #[.bool false, .bool false, .bool false] 27)).alloc (.cells #[.int .i64 0, .int .i64 e, .int .i64 (e + 1)] 28)).heap[w1.heap.size + 1 + 1]? = some (.cells #[.bool false, .bool false, .bool false] 27) := hp_old (hp_new (by simp))
  have k10 : ((((w1.alloc (.cells #[.int .i64 3, .int .i64 0] 26)).alloc (.cells #[.int .i64 0, .int .i64 9] 26)).alloc (.cells #[.bool false, .bool false, .bool false] 27)).alloc (.cells #[.int .i64 0, .int .i64 e, .int .i64 (e + 1)] 28)).heap[w1.heap.size + 1 + 1 + 1]? = some (.cells #[.int .i64 0, .int .i64 e, .int .i64 (e + 1)] 28) := hp_new (by simp)
  have k4 := hW.heap hb1 (by simp)
  have k5 := hW.heap hb2 (by simp)
  have hfW := hfr.trans0 hW
  have hn4 : ¬ w.heap.size = w1.heap.size + 1 + 1 := by omega
  have hn5 : ¬ w.heap.size + 1 = w1.heap.size + 1 + 1 := by omega
  have hn7 : ¬ w1.heap.size = w1.heap.size + 1 + 1 := by omega
  have hn8 : ¬ w1.heap.size + 1 = w1.heap.size + 1 + 1 := by omega
  have hn10 : ¬ w1.heap.size + 1 + 1 + 1 = w1.heap.size + 1 + 1 := by omega
  have hw9 : w.heap.size ≤ w1.heap.size + 1 + 1 := by omega
  generalize (((w1.alloc (.cells #[.int .i64 3, .int .i64 0] 26)).alloc (.cells #[.int .i64 0, .int .i64 9] 26)).alloc (.cells #[.bool false, .bool false, .bool false] 27)).alloc (.cells #[.int .i64 0, .int .i64 e, .int .i64 (e + 1)] 28) = W at *
  generalize w1.heap.size + 1 + 1 + 1 = B10 at *
  generalize w1.heap.size + 1 + 1 = B9 at *
  generalize w1.heap.size + 1 = B8 at *
  generalize w1.heap.size = B7 at *
  clear hW hfr hb1 hb2 hz
  go_loopw [11, 12, 13, 14, 15, 16, 17] (fun i _ _ _ _ _ _ wr => ∃ k : Nat, i = .int .i64 (k : Int) ∧ k ≤ 3 ∧ Fr [B9] W wr ∧
      wr.heap[B9]? = some (.cells #[.bool (fuA e was now k 0), .bool (fuA e was now k 1), .bool (fuA e was now k 2)] 27)) (fun i _ _ _ _ _ _ _ => (3 - intOf i).toNat)
  case atStart => exact ⟨0, rfl, by omega, Fr.refl _ _, by simpa [fuA] using k9⟩
  case round =>
    obtain ⟨k, rfl, hk, hfr, hk9⟩ := hrel
    have k4 := hfr.heap k4 (by simpa using hn4)
    have k5 := hfr.heap k5 (by simpa using hn5)
    have k7 := hfr.heap k7 (by simpa using hn7)
    have k8 := hfr.heap k8 (by simpa using hn8)
    have k10 := hfr.heap k10 (by simpa using hn10)
    have hfw : Fr [] w wr := hfW.trans hfr (by simp; omega)
    by_cases hlt : k < 3
    · have hwd : wr.cell? ⟨B10, k, none⟩ = some (.int .i64 (wdA e k)) := by
        rw [cell_of k10]
        rcases (by omega : k = 0 ∨ k = 1 ∨ k = 2) with rfl | rfl | rfl <;> rfl
      have hwb : 0 ≤ wdA e k ∧ wdA e k ≤ 64 := by
        unfold wdA
        split
        · omega
        · split <;> omega
      go_wp2_with fail
      refine (traceNew (wdA e k) _ hwb.1 hwb.2).mono ?_
      rintro x w2 ⟨p, tb, mb, rfl, hp, ht, hm, hS, h2⟩
      have k4r := k4
      have k7r := k7
      have q5 := lt_of k5
      have q9 := lt_of hk9
      have k8r := k8
      have k4 := h2.heap k4 (by simp)
      have k5 := h2.heap k5 (by simp)
      have k7 := h2.heap k7 (by simp)
      have k8 := h2.heap k8 (by simp)
      have k9 := h2.heap hk9 (by simp)
      have HS := Lib.hid hS
      have q4 := lt_of k4r
      have q7 := lt_of k7r
      have q8 := lt_of k8r
      clear hS
      go_wp2_with fail
      have c40 : w2.cell? ⟨w.heap.size, 0, none⟩ = some (.int .i64 was.k) := cell_of k4 0
      have c41 : w2.cell? ⟨w.heap.size, 1, none⟩ = some (.int .i64 was.n) := cell_of k4 1
      have c42 : w2.cell? ⟨w.heap.size, 2, none⟩ = some (.string was.s) := cell_of k4 2
      have c70 : w2.cell? ⟨B7, 0, none⟩ = some (.int .i64 3) := cell_of k7 0
      have c71 : w2.cell? ⟨B7, 1, none⟩ = some (.int .i64 0) := cell_of k7 1
      have c80 : w2.cell? ⟨B8, 0, none⟩ = some (.int .i64 0) := cell_of k8 0
      have c81 : w2.cell? ⟨B8, 1, none⟩ = some (.int .i64 9) := cell_of k8 1
      have hsz : ∀ x ∈ [was], x.s.size ≤ 9223372036854775807 := fun x hx => by
        rw [List.mem_singleton] at hx
        rw [hx]
        exact h1
      have l4 := lt_of k4
      have l7 := lt_of k7
      have l8 := lt_of k8
      have m4 : w.heap.size ∉ [tb, mb] := by simp; omega
      have m7 : B7 ∉ [tb, mb] := by simp; omega
      have m8 : B8 ∉ [tb, mb] := by simp; omega
      have m5 : w.heap.size + 1 ∉ [tb, mb] := by simp; omega
      have m9 : B9 ∉ [tb, mb] := by simp; omega
      go_cut [14] (fun s14 wx => s14 = .int .i64 (keepE (3, 0) ⟨1, 1, ⟨#[]⟩⟩ [(0, 9)] [was] []) ∧ StIs wx p tb mb (wdA e k) (keepL (wdA e k) (3, 0) ⟨1, 1, ⟨#[]⟩⟩ [(0, 9)] [was] []) ∧ Fr [tb, mb] w2 wx)
      case first =>
        go_region_held3 (fun u => u.cell? ⟨w.heap.size, 0, none⟩ = some (.int .i64 was.k) ∧ u.cell? ⟨w.heap.size, 1, none⟩ = some (.int .i64 was.n) ∧ u.cell? ⟨w.heap.size, 2, none⟩ = some (.string was.s) ∧ u.cell? ⟨B7, 0, none⟩ = some (.int .i64 3) ∧ u.cell? ⟨B7, 1, none⟩ = some (.int .i64 0) ∧ u.cell? ⟨B8, 0, none⟩ = some (.int .i64 0) ∧ u.cell? ⟨B8, 1, none⟩ = some (.int .i64 9))
          (((try dsimp only); first | exact hS7 | (refine ⟨?_, ?_, ?_, ?_, ?_, ?_, ?_⟩ <;> (repeat first | with_reducible assumption | with_reducible refine ce_drew ?_ | with_reducible refine ce_old ?_ | with_reducible refine ce_call hA ?_))))
          ((first
            | (go_at_call 16; refine (numC 1 _).mono ?_; rintro x wA ⟨rfl, hA⟩)
            | (go_at_call 15; refine (traceKeep p tb mb (wdA e k) (3, 0) ⟨1, 1, ⟨#[]⟩⟩ _ _ [(0, 9)] [was] [] _ (by refine HS.out.fr0 ?_; repeat (first | with_reducible exact Fr.refl _ _ | with_reducible refine Fr.drew ?_ | with_reducible refine Fr.alloc ?_ _ | with_reducible refine Fr.transS ?_ hA)) (by refine SlAt.of_block (cs := [.int .i64 0, .int .i64 9]) (t := 26) (f := (0, 0)) ?_ rfl (by decide); repeat (first | with_reducible exact hp_new (by simp) | with_reducible refine hp_drew ?_ | with_reducible refine hp_old ?_ | with_reducible refine hp_call hA ?_)) (by refine SlAt.of_block (cs := [.int .i64 was.k, .int .i64 was.n, .string was.s]) (t := 23) (f := (0, 0)) ?_ rfl (by decide); repeat (first | with_reducible exact hp_new (by simp) | with_reducible refine hp_drew ?_ | with_reducible refine hp_old ?_ | with_reducible refine hp_call hA ?_)) (by decide) hsz).mono ?_; rintro x wB ⟨rfl, hSB, hB⟩; have hF : Fr [tb, mb] w2 wB := Fr.transS (by repeat (first | with_reducible exact Fr.refl _ _ | with_reducible refine Fr.drew ?_ | with_reducible refine Fr.alloc ?_ _ | with_reducible refine Fr.trans0 ?_ hA)) hB; have hS7 : wB.cell? ⟨w.heap.size, 0, none⟩ = some (.int .i64 was.k) ∧ wB.cell? ⟨w.heap.size, 1, none⟩ = some (.int .i64 was.n) ∧ wB.cell? ⟨w.heap.size, 2, none⟩ = some (.string was.s) ∧ wB.cell? ⟨B7, 0, none⟩ = some (.int .i64 3) ∧ wB.cell? ⟨B7, 1, none⟩ = some (.int .i64 0) ∧ wB.cell? ⟨B8, 0, none⟩ = some (.int .i64 0) ∧ wB.cell? ⟨B8, 1, none⟩ = some (.int .i64 9) := ⟨(hF.cell (p := ⟨w.heap.size, 0, none⟩) l4 m4).trans c40, (hF.cell (p := ⟨w.heap.size, 1, none⟩) l4 m4).trans c41, (hF.cell (p := ⟨w.heap.size, 2, none⟩) l4 m4).trans c42, (hF.cell (p := ⟨B7, 0, none⟩) l7 m7).trans c70, (hF.cell (p := ⟨B7, 1, none⟩) l7 m7).trans c71, (hF.cell (p := ⟨B8, 0, none⟩) l8 m8).trans c80, (hF.cell (p := ⟨B8, 1, none⟩) l8 m8).trans c81⟩)))
        all_goals
          go_wp2_with fail
          go_meet
          exact ⟨rfl, hSB, hF⟩
      case rest =>
        obtain ⟨rfl, hS3, h3⟩ := hcut
        have HS3 := Lib.hid hS3
        have k5 := h3.heap k5 m5
        have k4 := h3.heap k4 m4
        have k7 := h3.heap k7 m7
        have k9 := h3.heap k9 m9
        have hfw3 : Fr [] w wc := (hfw.trans0 h2).trans h3 (by simp; omega)
        have hfr3 : Fr [B9] W wc := (hfr.trans0 h2).trans h3 (by have := hfr.size; simp; omega)
        have c7 := cell_of k7
        have c5 := cell_of k5
        have c4 := cell_of k4
        have g9 : wc.cell? ⟨B9, k, none⟩ = some (.bool false) := by
          rw [cell_of k9]
          rcases (by omega : k = 0 ∨ k = 1 ∨ k = 2) with rfl | rfl | rfl <;> simp [fuA]
        have f9 := free_of k9 k
        have K9 := Lib.hid k9
        have K4 := Lib.hid k4
        have K5 := Lib.hid k5
        clear hS3 k4 k5 k7 k8 k9 k10 k4r k7r k8r c40 c41 c42 c70 c71 c80 c81 hwd hk9
        rw [ts_keepE]
        cases hmw : mayV was with
        | false =>
          have HG := Lib.hid (ts_none (wdA e k) was hmw)
          clear hmw
          go_wp2_with fail
          refine (traceSame p tb mb (wdA e k) (3, 0) 0 now _ _ HS3.out (by omega) (by omega) h2s).mono ?_
          rw [HG.out, ts_same0]
          rintro x w4 ⟨rfl, h4⟩
          go_wp2
          go_ret
          exact ⟨rfl, hfw3.trans0 h4⟩
        | true =>
          have HG := Lib.hid (ts_get (wdA e k) was hmw)
          clear hmw
          go_wp2_with fail
          refine (traceSame p tb mb (wdA e k) (3, 0) 0 now _ _ HS3.out (by omega) (by omega) h2s).mono ?_
          cases hmn : mayV now with
          | false =>
            rw [HG.out, ts_same1 _ _ _ hmn]
            clear hmn
            rintro x w4 ⟨rfl, h4⟩
            go_wp2
            go_ret
            exact ⟨rfl, hfw3.trans0 h4⟩
          | true =>
            rw [HG.out, ts_same2 _ _ _ hmn]
            clear hmn
            rintro x w4 ⟨rfl, h4⟩
            have k4 := h4.heap K4.out (by simp)
            have k5 := h4.heap K5.out (by simp)
            have k9 := h4.heap K9.out (by simp)
            have c4 := cell_of k4
            have c5 := cell_of k5
            have g9 : w4.cell? ⟨B9, k, none⟩ = some (.bool false) := by
              rw [cell_of k9]
              rcases (by omega : k = 0 ∨ k = 1 ∨ k = 2) with rfl | rfl | rfl <;> simp [fuA]
            have f9 := free_of k9 k
            have hK9 := Lib.hid (set_of k9 k)
            have hEq := run_eqV was now
            have hfr4 := hfr3.trans0 h4
            have hfb : Hid (∀ b, decide (sumV now (wdA e k) = sumV was (wdA e k)) = b → sameVB was now = true → b = true) := by
              rintro b hb hs
              rw [← hb, same_eq hs]
              simp
            clear k4 k5 k9
            cases hs : sameVB was now with
            | true =>
              have hb := hfb.out _ rfl hs
              rw [hb]
              rw [hs] at hEq
              have HB := Lib.hid hb
              clear hs hb
              go_wp2
              go_roundw
              case rel => exact ⟨k + 1, by go_num, by omega, hfr4.setCell (.inl (by simp)) _, by rw [hK9.out, fu_next e was now k hlt _ HB.out]⟩
              case measure => simp [intOf]; omega
            | false =>
              rw [hs] at hEq
              cases hb : decide (sumV now (wdA e k) = sumV was (wdA e k)) with
              | true =>
                have HB := Lib.hid hb
                clear hs hb
                go_wp2
                go_roundw
                case rel => exact ⟨k + 1, by go_num, by omega, hfr4.setCell (.inl (by simp)) _, by rw [hK9.out, fu_next e was now k hlt _ HB.out]⟩
                case measure => simp [intOf]; omega
              | false =>
                have HB := Lib.hid hb
                clear hs hb
                go_wp2
                go_roundw
                case rel => exact ⟨k + 1, by go_num, by omega, hfr4.setCell (.inl (by simp)) _, by rw [hK9.out, fu_next e was now k hlt _ HB.out]⟩
                case measure => simp [intOf]; omega
    · obtain rfl : k = 3 := by omega
      obtain ⟨e0, e1⟩ := fu_end e he0 was now
      rw [e0] at hk9
      have E1 := Lib.hid e1
      clear e0 e1
      cases h1' : fuA e was now 3 1 with
      | true =>
        rw [h1'] at hk9
        have g9 := cell_of hk9
        go_wp2
        go_ret
        exact ⟨rfl, hfw⟩
      | false =>
        have h2' : fuA e was now 3 2 = false := by
          cases h2' : fuA e was now 3 2 with
          | false => rfl
          | true => rw [E1.out h2'] at h1'; cases h1'
        rw [h1', h2'] at hk9
        have g9 := cell_of hk9
        go_wp2
        go_ret
        exact ⟨rfl, hfw⟩
end Go.Proofs.Ytldppdafgbipjaa
