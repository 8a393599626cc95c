/-
  quadrilleref7: Drop.
-/
import Derived.Test.YtldppdafgbipjaaRef7
namespace Go.Proofs.Ytldppdafgbipjaa
open Go.RowKit

section
variable {α : Type}
/-- What lies there on the way: what stands behind the place has come one ahead, up to k. -/
def delAt (i k : Nat) (R : List α) : List α := (R.eraseIdx i).take k ++ R.drop k
theorem delAt_get {i k : Nat} {R : List α} (hi : i < R.length) (hk : k < R.length) (j : Nat) : (delAt i k R)[j]? = if j < k then (if j < i then R[j]? else R[j + 1]?) else R[j]? := by
  have hl : ((R.eraseIdx i).take k).length = k := by rw [List.length_take, List.length_eraseIdx, if_pos hi]; omega
  unfold delAt
  by_cases hj : j < k
  · rw [List.getElem?_append_left (by omega), List.getElem?_take, if_pos hj, if_pos hj, List.getElem?_eraseIdx]
  · rw [List.getElem?_append_right (by omega), hl, if_neg hj, List.getElem?_drop]
    congr 1
    omega
theorem delAt_len {i k : Nat} {R : List α} (hi : i < R.length) (hk : k < R.length) : (delAt i k R).length = R.length := by
  unfold delAt
  rw [List.length_append, List.length_take, List.length_eraseIdx, if_pos hi, List.length_drop]
  omega
theorem delAt_0 {i : Nat} {R : List α} (hi : i < R.length) : delAt i i R = R := by
  refine List.ext_getElem? fun j => ?_
  rw [delAt_get hi hi]
  split
  · rfl
  · rfl
theorem delAt_step {i k : Nat} {R : List α} (hi : i ≤ k) (hk : k + 1 < R.length) : (delAt i k R).set k R[k + 1] = delAt i (k + 1) R := by
  refine List.ext_getElem? fun j => ?_
  rw [List.getElem?_set, delAt_len (by omega) (by omega), delAt_get (by omega) hk, delAt_get (by omega) (by omega)]
  by_cases e : k = j
  · subst e
    rw [if_pos rfl, if_pos (by omega), if_pos (by omega), if_neg (by omega), List.getElem?_eq_getElem hk]
  · rw [if_neg e]
    by_cases h1 : j < k
    · have h2 : j < k + 1 := by omega
      simp only [h1, h2, if_true]
    · have h2 : ¬ j < k + 1 := by omega
      simp only [h1, h2, if_false]
theorem delAt_end {i : Nat} {R : List α} (hi : i < R.length) : ∃ z, delAt i (R.length - 1) R = R.eraseIdx i ++ [z] := by
  refine ⟨R[R.length - 1], ?_⟩
  unfold delAt
  rw [List.take_of_length_le (by rw [List.length_eraseIdx, if_pos hi]; omega), List.drop_eq_getElem_cons (by omega), List.drop_of_length_le (by omega)]
end

section
variable {w : World} {rb : Nat} {vA vX v' : Value} {A X A' X' : List (Sp × Int)}
theorem RIn.hdA (h : RIn w rb vA vX A X) (hA : w.ownsRow 0 26 2 v' A'.length (A'.flatMap encA)) : RIn (w.setCell ⟨rb, 0, none⟩ v') rb v' vX A' X := by
  have hF : Fr [rb] w (w.setCell ⟨rb, 0, none⟩ v') := (Fr.refl _ w).setCell (.inl (by simp)) _
  refine ⟨set_of h.tab 0 _, owns_fr hA hF (fun k hk => ?_), owns_fr h.xs hF (fun k hk => by simp; exact h.neX hk)⟩
  rw [List.mem_singleton]
  rintro rfl
  obtain ⟨cur, hh⟩ := own_heap hA hk
  rw [h.tab] at hh
  injection hh with hh
  injection hh with h1 h2 h3
  cases h2
theorem RIn.hdX (h : RIn w rb vA vX A X) (hX : w.ownsRow 0 3 1 v' X'.length (X'.flatMap encX)) : RIn (w.setCell ⟨rb, 1, none⟩ v') rb vA v' A X' := by
  have hF : Fr [rb] w (w.setCell ⟨rb, 1, none⟩ v') := (Fr.refl _ w).setCell (.inl (by simp)) _
  refine ⟨set_of h.tab 1 _, owns_fr h.at' hF (fun k hk => by simp; exact h.neA hk), owns_fr hX hF (fun k hk => ?_)⟩
  rw [List.mem_singleton]
  rintro rfl
  obtain ⟨cur, hh⟩ := own_heap hX hk
  rw [h.tab] at hh
  injection hh with hh
  injection hh with h1 h2 h3
  cases h2
end

theorem own_cap {w : World} {e : TypeId} {size n m g c : Nat} {xs : List Value} (h : w.ownsRow 0 e size (.slice (some ⟨g, 0, none⟩) n c) m xs) : m ≤ c := by
  rcases h.2 with ⟨h0, _⟩ | ⟨g', cap', cur, hv, _, _, hn, _⟩
  · cases h0
  · injection hv with h1 h2 h3
    omega
/-- What a call turns: its blocks, for such as were its own or are new. -/
def Turns (rb : Nat) (vA vX : Value) (w : World) (vA' vX' : Value) (w1 : World) : Prop := Fr (rBl rb vA vX) w w1 ∧ ∀ g ∈ rBl rb vA' vX', g ∈ rBl rb vA vX ∨ w.heap.size ≤ g

set_option maxRecDepth 100000 in
set_option maxHeartbeats 6400000 in
theorem drop7 (rb : Nat) (vA vX : Value) (R : List (Sp × Int)) (s : Sp) (w : World) (h : RIn w rb vA vX R R) (hR : Srt R) (hl : R.length ≤ 65536) :
    Calls Try.prog 74 #[.pointer (some ⟨rb, 0, none⟩), spV s] w fun e w1 => e = .returned (.bool (getS s R).isSome) ∧
      ∃ vA' vX', (if (getS s R).isSome then RIn w1 rb vA' vX' (R.eraseIdx (posS s R)) (R.eraseIdx (posS s R)) else RIn w1 rb vA' vX' R R) ∧ Turns rb vA vX w vA' vX' w1 := by
  obtain ⟨b, hb⟩ : ∃ b, (getS s R).isSome = b := ⟨_, rfl⟩
  have HH := Lib.hid h
  have HR := Lib.hid hR
  have HL := Lib.hid hl
  have HB := Lib.hid hb
  rw [hb]
  clear h hR hl hb
  go_enter Try.func74, Try.ntmps74
  go_wp2_with fail
  refine (find7 rb vA vX R s _ (HH.out.fr ((Fr.refl [] w).alloc _)) HR.out HL.out).mono ?_
  rw [HB.out]
  rintro e w1 ⟨rfl, h1⟩
  have hF := ((Fr.refl [] w).alloc (.cells #[.int .i64 s.1, .int .i64 s.2] 26)).trans0 h1
  have HW := Lib.hid (HH.out.fr hF)
  clear h1
  cases b with
  | false =>
    go_wp2_with fail
    go_ret
    exact ⟨rfl, vA, vX, HW.out, hF.mono (by simp), fun g h => .inl h⟩
  | true =>
    obtain ⟨x, hx⟩ := Option.isSome_iff_exists.1 HB.out
    obtain ⟨hp, _⟩ := pos_yes HR.out hx
    obtain ⟨g, ca, eg, hgl, _⟩ := HW.out.atC hp
    obtain ⟨f, cx, ef, hfl, _⟩ := HW.out.xsC hp
    subst eg
    subst ef
    have HP := Lib.hid hp
    clear hx
    obtain ⟨i, hi⟩ : ∃ i, posS s R = i := ⟨_, rfl⟩
    have hrl := lt_of HW.out.tab
    rw [hi] at HP ⊢
    have HI := Lib.hid hi
    clear hi
    go_wp2_with fail
    go_loopw [7] (fun kv wr => ∃ k : Nat, kv = .int .i64 (k : Int) ∧ i ≤ k ∧ k < R.length ∧ RIn wr rb (.slice (some ⟨g, 0, none⟩) R.length ca) (.slice (some ⟨f, 0, none⟩) R.length cx) (delAt i k R) (delAt i k R) ∧ Fr [rb, g, f] w1 wr) (fun kv _ => R.length - (intOf kv).toNat)
    case atStart => exact ⟨i, rfl, Nat.le_refl _, HP.out, by rw [delAt_0 HP.out]; exact HW.out, Fr.refl _ _⟩
    case round =>
      obtain ⟨k, rfl, hik, hkR, hRI, hfr⟩ := hrel
      have HK := Lib.hid hRI
      have HIK := Lib.hid hik
      have hlR := HL.out
      have t0 : wr.cell? ⟨rb, 0, none⟩ = some (.slice (some ⟨g, 0, none⟩) R.length ca) := cell_of hRI.tab 0
      have t1 : wr.cell? ⟨rb, 1, none⟩ = some (.slice (some ⟨f, 0, none⟩) R.length cx) := cell_of hRI.tab 1
      have hw1 : IntKind.i64.wrap ((k : Int) + 1) = (k : Int) + 1 := by rw [IntKind.wrap_i64]; omega
      have hrl2 := lt_of hRI.tab
      clear hRI hik
      by_cases hlt : (k : Int) + 1 < (R.length : Int)
      · have hk1 : k + 1 < R.length := by omega
        have HLEN := Lib.hid (delAt_len (R := R) (show i < R.length by have := HIK.out; omega) hkR)
        have hgt : (delAt i k R)[k + 1]'(by rw [HLEN.out]; omega) = R[k + 1] := by
          have := delAt_get (R := R) (show i < R.length by have := HIK.out; omega) hkR (k + 1)
          rw [if_neg (by omega), List.getElem?_eq_getElem hk1, List.getElem?_eq_getElem (by rw [HLEN.out]; omega)] at this
          exact Option.some.inj this
        obtain ⟨e0, e1, hgl2, hfz⟩ := HK.out.atG (k := k + 1) (by rw [HLEN.out]; omega)
        obtain ⟨z, d0, d1⟩ : ∃ z : Sp × Int, wr.cell? ⟨g, k * 2, none⟩ = some (.int .i64 z.1.1) ∧ wr.cell? ⟨g, k * 2 + 1, none⟩ = some (.int .i64 z.1.2) := by
          obtain ⟨d0, d1, _⟩ := HK.out.atG (k := k) (by rw [HLEN.out]; omega)
          exact ⟨_, d0, d1⟩
        obtain ⟨x0, hfl2, hfx⟩ := HK.out.xsG (k := k + 1) (by rw [HLEN.out]; omega)
        obtain ⟨z0, y0⟩ : ∃ z : Int, wr.cell? ⟨f, k, none⟩ = some (.int .i64 z) := by
          obtain ⟨d0, _⟩ := HK.out.xsG (k := k) (by rw [HLEN.out]; omega)
          exact ⟨_, d0⟩
        rw [hgt] at e0 e1 x0
        have HST := Lib.hid (delAt_step HIK.out hk1)
        obtain ⟨y, hy⟩ : ∃ y, R[k + 1] = y := ⟨_, rfl⟩
        have HGT := Lib.hid (hgt.trans hy)
        rw [hy] at e0 e1 x0 HST
        have f0 := hfz (k * 2)
        have f1 := hfz (k * 2 + 1)
        have f2 := hfx k
        have hi0 : (0 : Int) ≤ (k : Int) + 1 := by omega
        have hi1 : (k : Int) < (R.length : Int) := by omega
        clear hgt hy hfz hfx
        go_wp2_with fail
        go_region
        have hk2 := HK.out.stA HLEN.out.symm k y
        rw [HST.out] at hk2
        have hk2 := hk2.fr ((Fr.refl [] _).drew)
        have hF2 : Fr [rb, g, f] w1 ((wr.setCell ⟨g, k * 2, none⟩ (.int .i64 y.1.1)).setCell ⟨g, k * 2 + 1, none⟩ (.int .i64 y.1.2)).drew := ((hfr.setCell (.inl (by simp)) _).setCell (.inl (by simp)) _).drew
        generalize ((wr.setCell ⟨g, k * 2, none⟩ (.int .i64 y.1.1)).setCell ⟨g, k * 2 + 1, none⟩ (.int .i64 y.1.2)).drew = W2 at *
        clear t0 e0 e1 d0 d1 f0 f1 x0 y0 t1 f2 hfl2 hgl2
        have HK2 := Lib.hid hk2
        clear hk2
        have t1 : W2.cell? ⟨rb, 1, none⟩ = some (.slice (some ⟨f, 0, none⟩) R.length cx) := cell_of HK2.out.tab 1
        obtain ⟨x0, hfl2, hfx⟩ := HK2.out.xsG (k := k + 1) (by rw [HLEN.out]; omega)
        obtain ⟨z1, y0⟩ : ∃ z : Int, W2.cell? ⟨f, k, none⟩ = some (.int .i64 z) := by
          obtain ⟨d0, _⟩ := HK2.out.xsG (k := k) (by rw [HLEN.out]; omega)
          exact ⟨_, d0⟩
        rw [HGT.out] at x0
        have f2 := hfx k
        clear hfx
        go_wp2_with fail
        go_region
        have hk3 := HK2.out.stX HLEN.out.symm k y
        rw [HST.out] at hk3
        have hk3 := hk3.fr ((Fr.refl [] _).drew)
        have hF3 : Fr [rb, g, f] w1 (W2.setCell ⟨f, k, none⟩ (.int .i64 y.2)).drew := (hF2.setCell (.inl (by simp)) _).drew
        generalize (W2.setCell ⟨f, k, none⟩ (.int .i64 y.2)).drew = W3 at *
        have HK3 := Lib.hid hk3
        clear hk3 x0 y0 t1 f2
        go_wp2_with fail
        go_roundw
        case rel => exact ⟨k + 1, by go_num, by have := HIK.out; omega, hk1, HK3.out, hF3⟩
        case measure => simp [intOf]; omega
      · have hkn : R.length = k + 1 := by omega
        have hca : R.length ≤ ca := by have := own_cap HK.out.at'; rw [delAt_len (by have := HIK.out; omega) hkR] at this; exact this
        have hcx : R.length ≤ cx := by have := own_cap HK.out.xs; rw [delAt_len (by have := HIK.out; omega) hkR] at this; exact this
        have hfr0 := free_of HK.out.tab 0
        have HE := Lib.hid (delAt_end (R := R) (show i < R.length by have := HIK.out; omega))
        have hi0 : (0 : Int) ≤ (R.length : Int) - 1 := by omega
        have hi1 : (R.length : Int) - 1 ≤ (ca : Int) := by omega
        have hi2 : (R.length : Int) - 1 ≤ (cx : Int) := by omega
        have hw2 : IntKind.i64.wrap ((R.length : Int) - 1) = (R.length : Int) - 1 := by rw [IntKind.wrap_i64]; omega
        obtain ⟨z, hz⟩ : ∃ z, delAt i k R = R.eraseIdx i ++ [z] := by
          have := HE.out
          rw [show R.length - 1 = k by omega] at this
          exact this
        have hl' : (R.eraseIdx i).length = k := by rw [List.length_eraseIdx, if_pos (by have := HIK.out; omega)]; omega
        have HZ := Lib.hid hz
        have HL' := Lib.hid hl'
        have HKN := Lib.hid hkn
        clear hz hl'
        go_wp2_with fail
        go_region
        have hat := HK.out.at'
        rw [HZ.out, List.length_append, HL'.out, List.flatMap_append, List.length_singleton, HKN.out] at hat
        have hA : wr.ownsRow 0 26 2 (.slice (some ⟨g, 0, none⟩) k ca) (R.eraseIdx i).length ((R.eraseIdx i).flatMap encA) := by
          rw [HL'.out]
          exact ownsRow_pop (by rw [flat_len encA 2 (fun _ => rfl), HL'.out]) hat
        have hk4 := (HK.out.hdA hA).fr ((Fr.refl [] _).drew)
        have hF4 : Fr [rb, g, f] w1 (wr.setCell ⟨rb, 0, none⟩ (.slice (some ⟨g, 0, none⟩) k ca)).drew := (hfr.setCell (.inl (by simp)) _).drew
        clear hat hA t0 t1 hfr0
        generalize (wr.setCell ⟨rb, 0, none⟩ (.slice (some ⟨g, 0, none⟩) k ca)).drew = W4 at *
        have HK4 := Lib.hid hk4
        have hfr1 := free_of hk4.tab 1
        have t1 : W4.cell? ⟨rb, 1, none⟩ = some (.slice (some ⟨f, 0, none⟩) R.length cx) := cell_of hk4.tab 1
        have hrl4 := lt_of hk4.tab
        clear hk4
        go_wp2_with fail
        go_region
        have hxt := HK4.out.xs
        rw [HZ.out, List.length_append, HL'.out, List.flatMap_append, List.length_singleton, HKN.out] at hxt
        have hX : W4.ownsRow 0 3 1 (.slice (some ⟨f, 0, none⟩) k cx) (R.eraseIdx i).length ((R.eraseIdx i).flatMap encX) := by
          rw [HL'.out]
          exact ownsRow_pop (by rw [flat_len encX 1 (fun _ => rfl), HL'.out]) hxt
        have hk5 := (HK4.out.hdX hX).fr ((Fr.refl [] _).drew)
        have hF5 : Fr [rb, g, f] w1 (W4.setCell ⟨rb, 1, none⟩ (.slice (some ⟨f, 0, none⟩) k cx)).drew := (hF4.setCell (.inl (by simp)) _).drew
        clear hxt hX t1 hfr1
        generalize (W4.setCell ⟨rb, 1, none⟩ (.slice (some ⟨f, 0, none⟩) k cx)).drew = W5 at *
        have HK5 := Lib.hid hk5
        clear hk5
        go_wp2_with fail
        go_ret
        refine ⟨rfl, .slice (some ⟨g, 0, none⟩) k ca, .slice (some ⟨f, 0, none⟩) k cx, ?_, (hF.mono (by simp)).transS hF5, fun x hx => .inl hx⟩
        rw [HI.out]
        exact HK5.out
end Go.Proofs.Ytldppdafgbipjaa
