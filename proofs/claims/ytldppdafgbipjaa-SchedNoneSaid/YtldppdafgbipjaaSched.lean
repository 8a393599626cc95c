/-
  sched.New: what is refused; a round over a blank sheet and a store without traces.
-/
import Derived.Test.YtldppdafgbipjaaCell
import Derived.Test.YtldppdafgbipjaaStoreAll
import Derived.Test.YtldppdafgbipjaaRegionInv
namespace Go.Proofs.Ytldppdafgbipjaa
open Go.RowKit Go.Shelf
attribute [local go_sem] Oper.semAt_some

theorem newFrame (w : World) : Calls Try.prog 87 #[] w fun e w1 => ∃ p, e = .returned (.pointer (some ⟨p, 0, none⟩)) ∧ Fr [] w w1 := by
  have hmm := @run_makeMap Try.prog
  go_enter Try.func87, Try.ntmps87
  go_wp2
  go_ret
  exact ⟨_, rfl, ((Fr.refl [] w).alloc _).alloc _⟩

theorem eql_some (b n c : Nat) (w : World) : (binOp .eql 35 (.slice (some ⟨b, 0, none⟩) n c) (.slice none 0 0)).run Try.prog w = .ok (.bool false) w := by kernel_rfl

set_option maxRecDepth 100000 in
theorem cloneS (b n c : Nat) (w : World) (hn : n ≤ 70000) (hb : b < w.heap.size) (hc : ∀ j, j < n * 2 → w.cell? ⟨b, j, none⟩ = some (.int .i64 0)) :
    Calls Try.prog 86 #[.slice (some ⟨b, 0, none⟩) n c] w fun e w1 => (∃ q k d, e = .returned (.slice q k d)) ∧ Fr [] w w1 := by
  obtain ⟨i0, hi, hz0, hz1, hz2⟩ := info_parts infoSpot
  have HN := Lib.hid hn
  have hl : (List.replicate (n * 2) (Value.int .i64 0)).length = n * 2 := List.length_replicate
  have hnews : ∀ j u, (List.replicate (n * 2) (Value.int .i64 0))[j]? = some u → (w.alloc (.cells #[] 26)).cell? ((⟨b, 0, none⟩ : Addr).add j) = some u := fun j u hj => by
    obtain ⟨h1, h2⟩ := List.getElem?_eq_some_iff.1 hj
    rw [List.getElem_replicate] at h2
    rw [hl] at h1
    subst h2
    have e : (⟨b, 0, none⟩ : Addr).add j = ⟨b, j, none⟩ := by
      unfold Addr.add
      split
      · rename_i h0; subst h0; rfl
      · simp
    rw [e]
    exact (((Fr.refl [] w).alloc _).cell (p := ⟨b, j, none⟩) hb (by simp)).trans (hc j h1)
  have hall : ∀ u ∈ List.replicate (n * 2) (Value.int .i64 0), u.oneCell' = true := fun u hu => by rw [(List.mem_replicate.1 hu).2]; rfl
  have hown := World.ownsRow_made (base := w.heap.size) (e := 26) (size := 2) w #[] 0 (Nat.le_refl _) (by unfold maxLen; omega) (by simp)
  generalize List.replicate (n * 2) (Value.int .i64 0) = news at *
  clear hn hc
  go_enter Try.func86, Try.ntmps86
  have heq := eql_some b n c
  go_wp2_with (at_builtin; refine wpList_append_own _ rfl _ _ 35 rfl w.heap.size 26 i0 _ 2 16 Try.underlying35 hi hz0 hz1 hz2 rfl (by decide) _ _ _ rfl hown ⟨b, 0, none⟩ n c news rfl hl hnews hall (by have := HN.out; unfold maxLen; omega) (by have := HN.out; omega) (by simp) ?_; intro v' w2 hown' hgrow _)
  obtain ⟨q, d, rfl⟩ := (RIs.of_owns hown').form
  go_ret
  exact ⟨⟨_, _, _, rfl⟩, ((Fr.refl [] w).alloc _).grown hgrow (fun g hg => .inr (by cases hg; exact Nat.le_refl _))⟩

theorem schedNilS (p : Option Addr) (a b : Value) (w : World) :
    Calls Try.prog 47 #[.pointer none, .pointer p, a, b] w fun e w1 => e = .returned (.tuple #[.pointer none, .int .i64 1]) ∧ Fr [] w w1 := by
  go_enter Try.func47, Try.ntmps47
  go_wp2
  refine bodyPost_ret (v := .tuple #[.pointer none, .int .i64 1]) (by simp [results, Try.results47, go_sem]) rfl ⟨rfl, ?_⟩
  exact (Fr.refl [] w).alloc _

theorem schedNilK (p : Nat) (a b : Value) (w : World) :
    Calls Try.prog 47 #[.pointer (some ⟨p, 0, none⟩), .pointer none, a, b] w fun e w1 => e = .returned (.tuple #[.pointer none, .int .i64 1]) ∧ Fr [] w w1 := by
  go_enter Try.func47, Try.ntmps47
  go_wp2
  refine bodyPost_ret (v := .tuple #[.pointer none, .int .i64 1]) (by simp [results, Try.results47, go_sem]) rfl ⟨rfl, ?_⟩
  exact (Fr.refl [] w).alloc _

theorem schedLong (p q : Nat) (a : Value) (d : Addr) (n c : Nat) (hn : 65536 < (n : Int)) (w : World) :
    Calls Try.prog 47 #[.pointer (some ⟨p, 0, none⟩), .pointer (some ⟨q, 0, none⟩), a, .slice (some d) n c] w fun e w1 => e = .returned (.tuple #[.pointer none, .int .i64 2]) ∧ Fr [] w w1 := by
  go_enter Try.func47, Try.ntmps47
  go_wp2
  refine bodyPost_ret (v := .tuple #[.pointer none, .int .i64 2]) (by simp [results, Try.results47, go_sem]) rfl ⟨rfl, ?_⟩
  exact (Fr.refl [] w).alloc _

set_option maxRecDepth 100000 in
set_option maxHeartbeats 6400000 in
theorem schedNew (p tb mb q tq mq : Nat) (dd : Int) (b n c : Nat) (w : World) (hsh : Blank w p tb mb) (hst : StIs w q tq mq dd []) (hn : (n : Int) ≤ 65536) (hb : b < w.heap.size) (hc : ∀ j, j < n * 2 → w.cell? ⟨b, j, none⟩ = some (.int .i64 0)) :
    CallsIn Fence.wide 6 Try.prog 47 #[.pointer (some ⟨p, 0, none⟩), .pointer (some ⟨q, 0, none⟩), .slice none 0 0, .slice (some ⟨b, 0, none⟩) n c] w fun e w1 => (∃ x, e = .returned (.tuple #[.pointer (some ⟨x, 0, none⟩), .int .i64 0])) ∧ Fr [] w w1 := by
  have HSH := Lib.hid hsh
  have HST := Lib.hid hst
  clear hsh hst
  refine callsIn_of_wp_marks Try.func47 rfl trivial ?_ rfl
  simp only [Try.ntmps47, List.size_toArray, List.length_cons, List.length_nil, Nat.reduceAdd, Nat.reduceSub, Array.replicate_succ, Array.replicate_zero, List.push_toArray, List.append_toArray, List.nil_append, List.cons_append]
  gi_wp2_with fail
  have h1 : Fr [] w (w.alloc (.cells #[.pointer (some ⟨p, 0, none⟩)] 95)) := (Fr.refl [] w).alloc _
  have hb1 := heap_new w (.cells #[.pointer (some ⟨p, 0, none⟩)] 95)
  generalize w.alloc (.cells #[.pointer (some ⟨p, 0, none⟩)] 95) = W at *
  obtain ⟨D, hD⟩ : ∃ D, w.heap.size = D := ⟨_, rfl⟩
  rw [hD] at hb1
  simp only [hD]
  gi_loopw [29] (fun i wr => i = .int .i64 0 ∧ Fr [] W wr) (fun i _ => 0)
  case atStart => exact ⟨rfl, Fr.refl _ _⟩
  case round =>
    obtain ⟨rfl, hfr⟩ := hrel
    have hF := h1.trans0 hfr
    have hb2 := hfr.heap hb1 (by simp)
    gi_wp2_with fail
    refine ⟨trivial, ?_⟩
    gi_at_call 49
    refine (storeAll_in q tq mq dd [] _ (HST.out.fr0 hF) (by simp)).mono ?_
    rintro e w2 ⟨v, rfl, hrow, h2⟩
    obtain ⟨qa, qc, rfl⟩ := (RIs.of_owns hrow).form
    simp only [List.map_nil, sortS, List.mergeSort_nil, List.length_nil]
    have hF2 := hF.trans0 h2
    have hb3 := h2.heap hb2 (by simp)
    clear hrow h2 hb2 hF hfr h1
    gi_wp2_with fail
    gi_loopw [40] (fun i wr => i = .int .i64 0 ∧ Fr [] w2 wr) (fun i _ => 0)
    case atStart => exact ⟨rfl, Fr.refl _ _⟩
    case round =>
      obtain ⟨rfl, hfr⟩ := hrel
      have hF3 := hF2.trans0 hfr
      have hb4 := hfr.heap hb3 (by simp)
      have hbc : wr.cell? ⟨D, 0, none⟩ = some (.pointer (some ⟨p, 0, none⟩)) := cell_of hb4 0
      clear hfr hb3 hF2
      gi_wp2_with fail
      have hmm := @run_makeMap Try.prog
      have hbr : b < wr.heap.size := Nat.lt_of_lt_of_le hb hF3.size
      have hcr : ∀ j, j < n * 2 → wr.cell? ⟨b, j, none⟩ = some (.int .i64 0) := fun j hj => (hF3.cell (p := ⟨b, j, none⟩) hb (by simp)).trans (hc j hj)
      refine wpIn_wide.2 ?_
      refine wp_region_inv (fun L a u => Fr [] wr u ∧ ∃ s14 s52 s53 s54 s55 s56 s57 s58 s59 s60 s61 : Value, a = ({ tmps := #[.pointer (some ⟨p, 0, none⟩), .pointer (some ⟨q, 0, none⟩), .slice none 0 0, .slice (some ⟨b, 0, none⟩) n c, .pointer (some ⟨D, 0, none⟩), undef, undef, undef, .pointer none, .int .i64 0, undef, u11, undef, u13, s14, undef, .bool false, .pointer (some ⟨p, 0, none⟩), .bool false, .bool false, .pointer (some ⟨q, 0, none⟩), .bool false, .bool false, .bool (decide (65536 < (n : Int))), .slice (some ⟨b, 0, none⟩) n c, .int .i64 (n : Int), .bool (decide (65536 < (n : Int))), .slice none 0 0, .int .i64 0, .int .i64 0, .bool false, u31, u32, u33, u34, u35, u36, .pointer (some ⟨q, 0, none⟩), .slice qa 0 qc, .int .i64 0, .int .i64 0, .bool false, u42, u43, u44, u45, u46, u47, u48, u49, u50, u51, s52, s53, s54, s55, s56, s57, s58, s59, s60, s61, undef, undef, undef, undef, undef, undef, undef, undef, undef, undef, undef, undef, undef, undef, undef, undef, undef, undef, undef], defers := [] } : Act) ∧ (L 0 = true → s52 = .pointer (some ⟨p, 0, none⟩)) ∧ (L 1 = true → s53 = .pointer (some ⟨q, 0, none⟩)) ∧ (L 2 = true → s54 = .slice (some ⟨b, 0, none⟩) n c) ∧ (L 3 = true → ∃ x y z, s55 = .slice x y z) ∧ (L 4 = true → ∃ x, s56 = .pointer (some ⟨x, 0, none⟩)) ∧ (L 5 = true → ∃ x, s57 = .map (some x)) ∧ (L 6 = true → ∃ x, s58 = .map (some x)) ∧ (L 7 = true → ∃ x, s59 = .map (some x)) ∧ (L 8 = true → ∃ y0 y1 y2 f m1 m2 m3, s60 = .agg #[.pointer (some ⟨p, 0, none⟩), .pointer (some ⟨q, 0, none⟩), .slice y0 y1 y2, .int .i64 0, .pointer (some ⟨f, 0, none⟩), .map (some m1), .map (some m2), .map (some m3), .bool false, .int .i64 0, .slice none 0 0, .int .i64 0, .int .i64 0]) ∧ (L 9 = true → ∃ x, s61 = .pointer (some ⟨x, 0, none⟩)) ∧ (L 10 = true → ∃ x v, s14 = .pointer (some ⟨x, 0, none⟩) ∧ wr.heap.size ≤ x ∧ u.heap[x]? = some (.cells #[v] 97 (0, 0))) ∧ (L 11 = true → L 10 = true ∧ ∃ x y, s14 = .pointer (some ⟨x, 0, none⟩) ∧ u.cell? ⟨x, 0, none⟩ = some (.pointer (some ⟨y, 0, none⟩)))) rfl (by kernel_rfl) ?_ ?_ ?_
      · exact ⟨(Fr.refl _ _).drew, undef, undef, undef, undef, undef, undef, undef, undef, undef, undef, undef, rfl, by simp, by simp, by simp, by simp, by simp, by simp, by simp, by simp, by simp, by simp, by simp, by simp⟩
      · intro i hi
        have hi : i < 12 := hi
        rcases (by omega : i = 0 ∨ i = 1 ∨ i = 2 ∨ i = 3 ∨ i = 4 ∨ i = 5 ∨ i = 6 ∨ i = 7 ∨ i = 8 ∨ i = 9 ∨ i = 10 ∨ i = 11) with rfl | rfl | rfl | rfl | rfl | rfl | rfl | rfl | rfl | rfl | rfl | rfl
        · rintro L a u ⟨hF, s14, s52, s53, s54, s55, s56, s57, s58, s59, s60, s61, rfl, h0, h1, h2, h3, h4, h5, h6, h7, h8, h9, h10, h11⟩ hL hdep
          have hcD : u.cell? ⟨D, 0, none⟩ = some (.pointer (some ⟨p, 0, none⟩)) := ce_call hF hbc
          refine wpOp_step rfl (fun K hK => ?_)
          go_simp
          have hU := Fr.refl [] u
          exact hK _ _ ⟨hF.trans0 hU, _, _, _, _, _, _, _, _, _, _, _, rfl, fun _ => rfl, fun h => h1 (by simpa using h), fun h => h2 (by simpa using h), fun h => h3 (by simpa using h), fun h => h4 (by simpa using h), fun h => h5 (by simpa using h), fun h => h6 (by simpa using h), fun h => h7 (by simpa using h), fun h => h8 (by simpa using h), fun h => h9 (by simpa using h), fun h => by obtain ⟨x, v, e1, e2, e3⟩ := h10 (by simpa using h); exact ⟨x, v, e1, e2, hU.heap e3 (by simp)⟩, fun h => by obtain ⟨e0, x, y, e1, e2⟩ := h11 (by simpa using h); exact ⟨by simp [e0], x, y, e1, ce_call hU e2⟩⟩
        · rintro L a u ⟨hF, s14, s52, s53, s54, s55, s56, s57, s58, s59, s60, s61, rfl, h0, h1, h2, h3, h4, h5, h6, h7, h8, h9, h10, h11⟩ hL hdep
          refine wpOp_step rfl (fun K hK => ?_)
          go_simp
          have hU := Fr.refl [] u
          exact hK _ _ ⟨hF.trans0 hU, _, _, _, _, _, _, _, _, _, _, _, rfl, fun h => h0 (by simpa using h), fun _ => rfl, fun h => h2 (by simpa using h), fun h => h3 (by simpa using h), fun h => h4 (by simpa using h), fun h => h5 (by simpa using h), fun h => h6 (by simpa using h), fun h => h7 (by simpa using h), fun h => h8 (by simpa using h), fun h => h9 (by simpa using h), fun h => by obtain ⟨x, v, e1, e2, e3⟩ := h10 (by simpa using h); exact ⟨x, v, e1, e2, hU.heap e3 (by simp)⟩, fun h => by obtain ⟨e0, x, y, e1, e2⟩ := h11 (by simpa using h); exact ⟨by simp [e0], x, y, e1, ce_call hU e2⟩⟩
        · rintro L a u ⟨hF, s14, s52, s53, s54, s55, s56, s57, s58, s59, s60, s61, rfl, h0, h1, h2, h3, h4, h5, h6, h7, h8, h9, h10, h11⟩ hL hdep
          refine wpOp_step rfl (fun K hK => ?_)
          go_simp
          have hU := Fr.refl [] u
          exact hK _ _ ⟨hF.trans0 hU, _, _, _, _, _, _, _, _, _, _, _, rfl, fun h => h0 (by simpa using h), fun h => h1 (by simpa using h), fun _ => rfl, fun h => h3 (by simpa using h), fun h => h4 (by simpa using h), fun h => h5 (by simpa using h), fun h => h6 (by simpa using h), fun h => h7 (by simpa using h), fun h => h8 (by simpa using h), fun h => h9 (by simpa using h), fun h => by obtain ⟨x, v, e1, e2, e3⟩ := h10 (by simpa using h); exact ⟨x, v, e1, e2, hU.heap e3 (by simp)⟩, fun h => by obtain ⟨e0, x, y, e1, e2⟩ := h11 (by simpa using h); exact ⟨by simp [e0], x, y, e1, ce_call hU e2⟩⟩
        · rintro L a u ⟨hF, s14, s52, s53, s54, s55, s56, s57, s58, s59, s60, s61, rfl, h0, h1, h2, h3, h4, h5, h6, h7, h8, h9, h10, h11⟩ hL hdep
          have d2 := h2 (hdep _ rfl ⟨2, .data⟩ (by simp) rfl)
          subst d2
          refine wpOp_step rfl (fun K hK => ?_)
          go_simp
          refine (cloneS b n c u (by omega) (Nat.lt_of_lt_of_le hbr hF.size) (fun j hj => (hF.cell (p := ⟨b, j, none⟩) hbr (by simp)).trans (hcr j hj))).mono ?_
          rintro e u2 ⟨⟨x, y, z, rfl⟩, hC⟩
          have hU := hC
          exact hK _ _ ⟨hF.trans0 hU, _, _, _, _, _, _, _, _, _, _, _, rfl, fun h => h0 (by simpa using h), fun h => h1 (by simpa using h), fun h => h2 (by simpa using h), fun _ => ⟨_, _, _, rfl⟩, fun h => h4 (by simpa using h), fun h => h5 (by simpa using h), fun h => h6 (by simpa using h), fun h => h7 (by simpa using h), fun h => h8 (by simpa using h), fun h => h9 (by simpa using h), fun h => by obtain ⟨x, v, e1, e2, e3⟩ := h10 (by simpa using h); exact ⟨x, v, e1, e2, hU.heap e3 (by simp)⟩, fun h => by obtain ⟨e0, x, y, e1, e2⟩ := h11 (by simpa using h); exact ⟨by simp [e0], x, y, e1, ce_call hU e2⟩⟩
        · rintro L a u ⟨hF, s14, s52, s53, s54, s55, s56, s57, s58, s59, s60, s61, rfl, h0, h1, h2, h3, h4, h5, h6, h7, h8, h9, h10, h11⟩ hL hdep
          refine wpOp_step rfl (fun K hK => ?_)
          go_simp
          refine (newFrame u).mono ?_
          rintro e u2 ⟨x, rfl, hC⟩
          have hU := hC
          exact hK _ _ ⟨hF.trans0 hU, _, _, _, _, _, _, _, _, _, _, _, rfl, fun h => h0 (by simpa using h), fun h => h1 (by simpa using h), fun h => h2 (by simpa using h), fun h => h3 (by simpa using h), fun _ => ⟨_, rfl⟩, fun h => h5 (by simpa using h), fun h => h6 (by simpa using h), fun h => h7 (by simpa using h), fun h => h8 (by simpa using h), fun h => h9 (by simpa using h), fun h => by obtain ⟨x, v, e1, e2, e3⟩ := h10 (by simpa using h); exact ⟨x, v, e1, e2, hU.heap e3 (by simp)⟩, fun h => by obtain ⟨e0, x, y, e1, e2⟩ := h11 (by simpa using h); exact ⟨by simp [e0], x, y, e1, ce_call hU e2⟩⟩
        · rintro L a u ⟨hF, s14, s52, s53, s54, s55, s56, s57, s58, s59, s60, s61, rfl, h0, h1, h2, h3, h4, h5, h6, h7, h8, h9, h10, h11⟩ hL hdep
          refine wpOp_step rfl (fun K hK => ?_)
          go_simp
          have hU := (Fr.refl [] u).alloc (.map #[] 0)
          exact hK _ _ ⟨hF.trans0 hU, _, _, _, _, _, _, _, _, _, _, _, rfl, fun h => h0 (by simpa using h), fun h => h1 (by simpa using h), fun h => h2 (by simpa using h), fun h => h3 (by simpa using h), fun h => h4 (by simpa using h), fun _ => ⟨_, rfl⟩, fun h => h6 (by simpa using h), fun h => h7 (by simpa using h), fun h => h8 (by simpa using h), fun h => h9 (by simpa using h), fun h => by obtain ⟨x, v, e1, e2, e3⟩ := h10 (by simpa using h); exact ⟨x, v, e1, e2, hU.heap e3 (by simp)⟩, fun h => by obtain ⟨e0, x, y, e1, e2⟩ := h11 (by simpa using h); exact ⟨by simp [e0], x, y, e1, ce_call hU e2⟩⟩
        · rintro L a u ⟨hF, s14, s52, s53, s54, s55, s56, s57, s58, s59, s60, s61, rfl, h0, h1, h2, h3, h4, h5, h6, h7, h8, h9, h10, h11⟩ hL hdep
          refine wpOp_step rfl (fun K hK => ?_)
          go_simp
          have hU := (Fr.refl [] u).alloc (.map #[] 0)
          exact hK _ _ ⟨hF.trans0 hU, _, _, _, _, _, _, _, _, _, _, _, rfl, fun h => h0 (by simpa using h), fun h => h1 (by simpa using h), fun h => h2 (by simpa using h), fun h => h3 (by simpa using h), fun h => h4 (by simpa using h), fun h => h5 (by simpa using h), fun _ => ⟨_, rfl⟩, fun h => h7 (by simpa using h), fun h => h8 (by simpa using h), fun h => h9 (by simpa using h), fun h => by obtain ⟨x, v, e1, e2, e3⟩ := h10 (by simpa using h); exact ⟨x, v, e1, e2, hU.heap e3 (by simp)⟩, fun h => by obtain ⟨e0, x, y, e1, e2⟩ := h11 (by simpa using h); exact ⟨by simp [e0], x, y, e1, ce_call hU e2⟩⟩
        · rintro L a u ⟨hF, s14, s52, s53, s54, s55, s56, s57, s58, s59, s60, s61, rfl, h0, h1, h2, h3, h4, h5, h6, h7, h8, h9, h10, h11⟩ hL hdep
          refine wpOp_step rfl (fun K hK => ?_)
          go_simp
          have hU := (Fr.refl [] u).alloc (.map #[] 0)
          exact hK _ _ ⟨hF.trans0 hU, _, _, _, _, _, _, _, _, _, _, _, rfl, fun h => h0 (by simpa using h), fun h => h1 (by simpa using h), fun h => h2 (by simpa using h), fun h => h3 (by simpa using h), fun h => h4 (by simpa using h), fun h => h5 (by simpa using h), fun h => h6 (by simpa using h), fun _ => ⟨_, rfl⟩, fun h => h8 (by simpa using h), fun h => h9 (by simpa using h), fun h => by obtain ⟨x, v, e1, e2, e3⟩ := h10 (by simpa using h); exact ⟨x, v, e1, e2, hU.heap e3 (by simp)⟩, fun h => by obtain ⟨e0, x, y, e1, e2⟩ := h11 (by simpa using h); exact ⟨by simp [e0], x, y, e1, ce_call hU e2⟩⟩
        · rintro L a u ⟨hF, s14, s52, s53, s54, s55, s56, s57, s58, s59, s60, s61, rfl, h0, h1, h2, h3, h4, h5, h6, h7, h8, h9, h10, h11⟩ hL hdep
          have d0 := h0 (hdep _ rfl ⟨0, .data⟩ (by simp) rfl)
          have d1 := h1 (hdep _ rfl ⟨1, .data⟩ (by simp) rfl)
          have d3 := h3 (hdep _ rfl ⟨3, .data⟩ (by simp) rfl)
          have d4 := h4 (hdep _ rfl ⟨4, .data⟩ (by simp) rfl)
          have d5 := h5 (hdep _ rfl ⟨5, .data⟩ (by simp) rfl)
          have d6 := h6 (hdep _ rfl ⟨6, .data⟩ (by simp) rfl)
          have d7 := h7 (hdep _ rfl ⟨7, .data⟩ (by simp) rfl)
          obtain ⟨y0, y1, y2, rfl⟩ := d3
          obtain ⟨f, rfl⟩ := d4
          obtain ⟨m1, rfl⟩ := d5
          obtain ⟨m2, rfl⟩ := d6
          obtain ⟨m3, rfl⟩ := d7
          subst d0
          subst d1
          refine wpOp_step rfl (fun K hK => ?_)
          go_simp
          have hU := Fr.refl [] u
          exact hK _ _ ⟨hF.trans0 hU, _, _, _, _, _, _, _, _, _, _, _, rfl, fun h => h0 (by simpa using h), fun h => h1 (by simpa using h), fun h => h2 (by simpa using h), fun h => h3 (by simpa using h), fun h => h4 (by simpa using h), fun h => h5 (by simpa using h), fun h => h6 (by simpa using h), fun h => h7 (by simpa using h), fun _ => ⟨_, _, _, _, _, _, _, rfl⟩, fun h => h9 (by simpa using h), fun h => by obtain ⟨x, v, e1, e2, e3⟩ := h10 (by simpa using h); exact ⟨x, v, e1, e2, hU.heap e3 (by simp)⟩, fun h => by obtain ⟨e0, x, y, e1, e2⟩ := h11 (by simpa using h); exact ⟨by simp [e0], x, y, e1, ce_call hU e2⟩⟩
        · rintro L a u ⟨hF, s14, s52, s53, s54, s55, s56, s57, s58, s59, s60, s61, rfl, h0, h1, h2, h3, h4, h5, h6, h7, h8, h9, h10, h11⟩ hL hdep
          have d8 := h8 (hdep _ rfl ⟨8, .data⟩ (by simp) rfl)
          obtain ⟨y0, y1, y2, f, m1, m2, m3, rfl⟩ := d8
          refine wpOp_step rfl (fun K hK => ?_)
          go_simp
          have hU := (Fr.refl [] u).alloc (.cells #[.pointer (some ⟨p, 0, none⟩), .pointer (some ⟨q, 0, none⟩), .slice y0 y1 y2, .int .i64 0, .pointer (some ⟨f, 0, none⟩), .map (some m1), .map (some m2), .map (some m3), .bool false, .int .i64 0, .slice none 0 0, .int .i64 0, .int .i64 0] 180)
          exact hK _ _ ⟨hF.trans0 hU, _, _, _, _, _, _, _, _, _, _, _, rfl, fun h => h0 (by simpa using h), fun h => h1 (by simpa using h), fun h => h2 (by simpa using h), fun h => h3 (by simpa using h), fun h => h4 (by simpa using h), fun h => h5 (by simpa using h), fun h => h6 (by simpa using h), fun h => h7 (by simpa using h), fun h => h8 (by simpa using h), fun _ => ⟨_, rfl⟩, fun h => by obtain ⟨x, v, e1, e2, e3⟩ := h10 (by simpa using h); exact ⟨x, v, e1, e2, hU.heap e3 (by simp)⟩, fun h => by obtain ⟨e0, x, y, e1, e2⟩ := h11 (by simpa using h); exact ⟨by simp [e0], x, y, e1, ce_call hU e2⟩⟩
        · rintro L a u ⟨hF, s14, s52, s53, s54, s55, s56, s57, s58, s59, s60, s61, rfl, h0, h1, h2, h3, h4, h5, h6, h7, h8, h9, h10, h11⟩ hL hdep
          refine wpOp_step rfl (fun K hK => ?_)
          go_simp
          have hU := (Fr.refl [] u).alloc (.cells #[.pointer none] 97)
          exact hK _ _ ⟨hF.trans0 hU, _, _, _, _, _, _, _, _, _, _, _, rfl, fun h => h0 (by simpa using h), fun h => h1 (by simpa using h), fun h => h2 (by simpa using h), fun h => h3 (by simpa using h), fun h => h4 (by simpa using h), fun h => h5 (by simpa using h), fun h => h6 (by simpa using h), fun h => h7 (by simpa using h), fun h => h8 (by simpa using h), fun h => h9 (by simpa using h), fun _ => ⟨_, _, rfl, hF.size, heap_new u _⟩, fun h => by have h0 := (h11 (by simpa using h)).1; rw [hL] at h0; cases h0⟩
        · rintro L a u ⟨hF, s14, s52, s53, s54, s55, s56, s57, s58, s59, s60, s61, rfl, h0, h1, h2, h3, h4, h5, h6, h7, h8, h9, h10, h11⟩ hL hdep
          have d10 := h10 (hdep _ rfl ⟨10, .data⟩ (by simp) rfl)
          have d9 := h9 (hdep _ rfl ⟨9, .data⟩ (by simp) rfl)
          obtain ⟨x, v, rfl, hx1, hx2⟩ := d10
          obtain ⟨y, rfl⟩ := d9
          have hxl := lt_of hx2
          have hx3 := cell_of hx2 0
          have hx4 := free_of hx2 0
          refine wpOp_step rfl (fun K hK => ?_)
          go_simp
          exact hK _ _ ⟨hF.setCell (.inr hx1) _, _, _, _, _, _, _, _, _, _, _, _, rfl, fun h => h0 (by simpa using h), fun h => h1 (by simpa using h), fun h => h2 (by simpa using h), fun h => h3 (by simpa using h), fun h => h4 (by simpa using h), fun h => h5 (by simpa using h), fun h => h6 (by simpa using h), fun h => h7 (by simpa using h), fun h => h8 (by simpa using h), fun h => h9 (by simpa using h), fun _ => ⟨x, _, rfl, hx1, set_of hx2 0 _⟩, fun _ => ⟨by simp [hdep _ rfl ⟨10, .data⟩ (by simp) rfl], x, y, rfl, cell_of (set_of hx2 0 _) 0⟩⟩
      · rintro L a u hAll ⟨hF16, s14, s52, s53, s54, s55, s56, s57, s58, s59, s60, s61, rfl, -, -, -, -, -, -, -, -, -, -, -, h11⟩
        obtain ⟨_, x, y, rfl, hxy⟩ := h11 (hAll 11 (by decide))
        dsimp only
        have hF4 := hF3.trans0 hF16
        have hsh := HSH.out.fr hF4
        have hbc4 := ce_call hF16 hbc
        have HSH4 := Lib.hid hsh
        clear hsh hF3 hbc hb4
        gi_wp2_with fail
        refine ⟨trivial, ?_⟩
        gi_at_call 88
        refine (callsIn_wide.2 (allSheet p tb mb _ HSH4.out)).mono ?_
        rintro e u2 ⟨B, B2, rfl, hB, hB2, h17⟩
        have hF5 := hF4.trans0 h17
        have hxy5 := ce_call h17 hxy
        clear hF4 hxy h17 hbc4
        gi_wp2
        refine range_none rfl (by omega) (gf := 113) (lb := #[.pointer (some ⟨B, 0, none⟩)]) rfl trivial (enters_of Try.func113 (by kernel_rfl) rfl)
          (fun l X hX => none_Sheet 5 (by omega) B B2 l X (ce_call hX hB) (ce_call hX hB2)) ?_
        intro E X hE hX hK
        have hxy6 := ce_call hX hxy5
        have hF6 := hF5.trans0 hX
        have hwz := hF5.size
        clear hxy5 hF5 hX hB hB2
        gi_wp2
        refine ⟨by simp, .inl ⟨_, _, rfl, run_takeDeferred hK, ?_⟩⟩
        exact ⟨.tuple #[.pointer (some ⟨y, 0, none⟩), .int .i64 0], by simp [results, Try.results47, go_sem], ⟨y, rfl⟩, hF6.putObj (by omega) _⟩
end Go.Proofs.Ytldppdafgbipjaa
