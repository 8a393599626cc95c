/-
  slices.Values, slices.AppendSeq, slices.Collect, slices.Sorted at numbers.
  (The lines on slices.Values's closure are the kit's worked proof GgSlicesIterAtTheDump, turned to this program.)
-/
import Derived.Test.YtdlpbpohbkcafaaCLib2
import Derived.RangeFuncNested
import Derived.RangeFuncBound
import Derived.RangeFuncCalls
import Derived.RangeFuncLeaves
import Derived.RangeFuncBox
import Derived.RangeFuncStops
import Derived.RangeFuncOne
import Derived.Shelf.Abstract
import Derived.Shelf.RegionOpen
import Derived.WalkKit
import Derived.OwnWalkIn
import Derived.TacticsInMore
import Derived.LoopNIn
import Derived.LoopIn
import Derived.Maps.AppendAt
namespace Go.Proofs.Ytdlpbpohbkcafaa
open Go.RowKit Go.Shelf Go.Sort Go.Proofs
attribute [local go_sem] Oper.semAt_some

set_option maxRecDepth 100000 in
set_option maxHeartbeats 2000000 in
theorem values1 (n : Nat) (hn : 1 ≤ n) (l Bs n₀ : Nat) (sv : Value) (zs : List Nat) (J Jx : List Nat → World → Prop)
    (hY : ∀ pre (x : Nat) W, J pre W → pre.length < zs.length → YieldAt Fence.wide (n - 1) Try.prog l #[.int .i64 (x : Int)] W fun e W' =>
      (e = .returned (.bool true) ∧ J (pre ++ [x]) W' ∧ Below n₀ W W') ∨ (e = .returned (.bool false) ∧ Jx (pre ++ [x]) W'))
    (W : World) (hBs : W.cell? ⟨Bs, 0, none⟩ = some sv) (hs : NumsAt W sv zs) (hlow : ∀ b off c, 0 < zs.length → sv = .slice (some ⟨b, off, none⟩) zs.length c → b < n₀) (h0 : J [] W) :
    CallsIn Fence.wide n Try.prog 47 #[.func (.yield l) #[] #[], .pointer (some ⟨Bs, 0, none⟩)] W fun e W' => (∃ v, e = .returned v) ∧
      ((∃ ys, ys = zs ∧ J ys W') ∨ (∃ pre, pre <+: zs ∧ Jx pre W')) := by
  obtain ⟨qa, qc, rfl, hq1, hq2⟩ := hs.form
  have HS := Lib.hid hs
  have hzl : (zs.length : Int) ≤ 9223372036854775807 := by omega
  have HLOW := Lib.hid hlow
  clear hs hlow
  refine callsIn_of_wp Try.func47 rfl trivial ?_ rfl
  simp only [Try.ntmps47, List.size_toArray, List.length_cons, List.length_nil, Nat.reduceAdd, Nat.reduceSub, Array.replicate_succ, Array.replicate_zero, List.push_toArray, List.append_toArray, List.nil_append, List.cons_append]
  gi_wp2
  gi_loopw [7] (fun i wr => ∃ k : Nat, k ≤ zs.length ∧ i = .int .i64 k ∧ J (zs.take k) wr ∧ Below n₀ W wr)
    (fun i _ => zs.length - (intOf i).toNat)
  case atStart => exact ⟨0, Nat.zero_le _, rfl, h0, Below.refl _ _⟩
  case round =>
    obtain ⟨k, hk, rfl, hJs, hnx⟩ := hrel
    by_cases hlt : k < zs.length
    · obtain ⟨b, off, c, e, hb, hc⟩ := nums_cell HS.out hlt
      cases e
      have hbl := HLOW.out b off qc (by omega) rfl
      have hcx := (hnx.cell (p := ⟨b, off + k, none⟩) hbl).trans hc
      have ht := Lib.hid (List.take_succ_eq_append_getElem hlt)
      obtain ⟨fn, tmps, assign, body, hy, hR⟩ := hY _ zs[k] wr hJs (by rw [List.length_take]; omega)
      have hk1 : (k : Int) < (zs.length : Int) := by omega
      clear hc hq1 hq2
      generalize zs[k] = x at *
      gi_wp2
      refine hR.mono ?_
      rintro e W3 (⟨rfl, hJ3, hk3⟩ | ⟨rfl, hJx3⟩)
      · gi_wp2
        go_roundw
        case rel => exact ⟨k + 1, by omega, by simp, by rw [ht.out]; exact hJ3, hnx.trans hk3⟩
        case measure => simp [intOf]; omega
      · gi_wp2
        refine bodyPost_ret (results_none rfl _ _ _) rfl ?_
        exact ⟨⟨_, rfl⟩, .inr ⟨_, by rw [← ht.out]; exact List.take_prefix _ _, hJx3⟩⟩
    · obtain rfl : k = zs.length := by omega
      rw [List.take_length] at hJs
      gi_wp2
      go_end0
      exact ⟨⟨_, rfl⟩, .inl ⟨_, rfl, hJs⟩⟩

/-- slices.Values: the slice in a box. -/
theorem valuesN (v : Value) (q : Option Addr) (m c : Nat) (hv : v = .slice q m c) (w : World) :
    Calls Try.prog 32 #[v] w fun e w' => e = .returned (.func (.func 47) #[] #[.pointer (some ⟨w.heap.size, 0, none⟩)]) ∧ w' = w.alloc (.cells #[v] 29) := by
  subst hv
  go_enter Try.func32, Try.ntmps32
  go_wp2
  go_ret
  exact ⟨rfl, rfl⟩

theorem valuesStops (n : Nat) (hn : 1 ≤ n) (Bs n₀ : Nat) (sv : Value) (zs : List Nat) (w : World) (hBs : Bs < w.heap.size)
    (hc : w.cell? ⟨Bs, 0, none⟩ = some sv) (hs : NumsAt w sv zs) (hlow : ∀ b off c, 0 < zs.length → sv = .slice (some ⟨b, off, none⟩) zs.length c → b < n₀) :
    SeqStopsK Fence.wide n Try.prog 47 #[.pointer (some ⟨Bs, 0, none⟩)] (fun x : Nat => #[Value.int .i64 (x : Int)]) (Below n₀) (fun ys => ys = zs) (fun pre => pre <+: zs) zs.length w := fun l J Jx W hW _ _ hY h0 =>
  values1 n hn l Bs n₀ sv zs J Jx hY W ((hW.cell (p := ⟨Bs, 0, none⟩) hBs).trans hc) (hs.fr0 (Fr.of_below hW _)) hlow h0

theorem block_own {β : Type} (B : Nat) (f : β → Obj) (hf : ∀ s, (f s).isCells = true) : Own (fun s W => W.heap[B]? = some (f s)) := fun s X Y row hs hg hrow =>
  (hg.block B (lt_of hs) (fun e => by
    obtain ⟨o, ho, hc⟩ := hrow B e.symm
    rw [hs] at ho
    cases ho
    rw [hf s] at hc
    cases hc)).trans hs

set_option maxRecDepth 100000 in
set_option maxHeartbeats 2000000 in
theorem appendSeqN (n : Nat) (hn : 2 ≤ n) (g : Nat) (lb : Array Value) (eg : ∀ args w, (callFunc g args).run Try.prog w = .ok (.enter g args) w) (S Sq : List Nat → Prop) (N : Nat) (hN : N ≤ 70000) (w : World)
    (hseq : ∀ W : World, Below w.heap.size w W → SeqStopsK Fence.wide (n - 1) Try.prog g lb (fun x : Nat => #[Value.int .i64 (x : Int)]) (Below w.heap.size) S Sq N W) :
    CallsIn Fence.wide n Try.prog 57 #[.slice none 0 0, .func (.func g) #[] lb] w fun e w' => ∃ (v : Value) (ss : List Nat), e = .returned v ∧ S ss ∧
      w'.ownsRow w.heap.size 3 1 v ss.length (ss.flatMap nC) ∧ Below w.heap.size w w' := by
  obtain ⟨i0, hi, hz0, hz1, hz2⟩ := info_parts infoInt
  have h1 : 1 ≤ n := by omega
  refine callsIn_of_wp_marks Try.func57 rfl trivial ?_ rfl
  simp only [Try.ntmps57, List.size_toArray, List.length_cons, List.length_nil, Nat.reduceAdd, Nat.reduceSub, Array.replicate_succ, Array.replicate_zero, List.push_toArray, List.append_toArray, List.nil_append, List.cons_append]
  gi_wp2
  have bS := Boxed.new w 29 (.slice none 0 0)
  have hB0 : Below w.heap.size w (w.alloc (.cells #[.slice none 0 0] 29)) := (Below.refl _ w).alloc (Nat.le_refl _) _
  have hsz : (w.alloc (.cells #[.slice none 0 0] 29)).heap.size = w.heap.size + 1 := by simp
  have hs2 := hseq _ hB0
  obtain ⟨W0, hW0⟩ : ∃ W0, w.alloc (.cells #[.slice none 0 0] 29) = W0 := ⟨_, rfl⟩
  rw [hW0] at bS hB0 hsz hs2 ⊢
  clear hW0
  refine wpIn_rangeFunc_ownH rfl h1 (gf := g) (lb := lb) rfl trivial eg (encs := fun x : Nat => #[Value.int .i64 (x : Int)]) hs2 belowK_t (belowK_b (by omega)) (Below.refl _ _) (fun _ => rfl)
    (fun pre W => (∃ v, Boxed W w.heap.size 29 v ∧ W.ownsRow w.heap.size 3 1 v pre.length (pre.flatMap nC) ∧ (v = .slice none 0 0 ↔ pre = [])) ∧ Below w.heap.size w W)
    (fun _ _ _ => False)
    (OwnFrom.and (Own.from (holdsRow_own w.heap.size w.heap.size 29 3 1 (fun pre : List Nat => pre.length) (fun pre => pre.flatMap nC) (fun pre v => v = .slice none 0 0 ↔ pre = [])) _) (ownFrom_below (Nat.le_refl _) (by omega)))
    (fun _ _ _ _ _ hs _ _ => hs)
    ⟨⟨_, bS, World.ownsRow_nil _ _ _ _, by simp⟩, hB0⟩
    (fun x a' _ => a' = { tmps := #[.slice none 0 0, .func (.func g) #[] lb, .pointer (some ⟨w.heap.size, 0, none⟩), undef, .slice none 0 0, .int .i64 (x : Int), .func (.func g) #[] lb, .int .i64 (x : Int), undef, undef, undef, undef, undef], defers := [] })
    (fun x a' _ X Y row hs hg hr => hs)
    ?assign ?body ?done ?stop
  case assign =>
    rintro l pre x W K ⟨⟨v, bS1, hrow, hnil⟩, hB1⟩ hK
    gi_wp2
    exact hK _ _ (KeepsOthers.from (by exact ⟨Nat.le_refl _, fun _ _ h _ => h⟩) _) (Below.refl _ _) ⟨⟨v, bS1, hrow, hnil⟩, hB1⟩ rfl
  case body =>
    rintro l pre x a' W hl ⟨r, hr⟩ ⟨⟨v, hv, hrow, hnil⟩, hB⟩ rfl hlt
    have hc := hv.cell
    have hlN : pre.length < 70000 := by omega
    gi_wp2_with (gi_at_builtin; refine wpListIn_append_own _ rfl _ _ 29 rfl w.heap.size 3 i0 _ 1 8 Try.underlying29 hi hz0 hz1 hz2 rfl (by decide) _ _ _ rfl (hrow.alloc _) ⟨W.heap.size, 0, none⟩ 1 1 (nC x) rfl rfl (news_of _ _ _) (by simp [Value.oneCell']) (by unfold maxLen; omega) (by omega) (by have := hB.size; simp; omega) ?_; intro v' w1 hown' hgrow _; obtain ⟨g', cap', rfl⟩ := ownsRow_succ hown'; obtain ⟨hv1, hv2, hr2, hk2, hb2⟩ := hv.appended (by decide) hrow hB.size (Nat.le_refl _) hown' hgrow; have hc1 := hv1.cell; have hf1 := hv1.frozen)
    exact ⟨hk2.from _, hb2, ⟨_, hv2, by simpa using hr2, by simp⟩, hB.trans hb2⟩
  case done =>
    rintro D ys W hD hS ⟨⟨v, hv, hrow, hnil⟩, hB⟩ hK
    have hc := hv.cell
    gi_wp2
    refine ⟨by simp, .inl ⟨_, _, rfl, run_takeDeferred hK, ?_⟩⟩
    exact ⟨_, results_tmp rfl _ _ _, v, ys, rfl, hS, ownsRow_putObj hrow _ hK rfl, hB.trans (belowK_b (w := w) (Nat.le_refl _) W D _ _ (by omega) hK rfl rfl)⟩
  case stop =>
    rintro D c pre W _ _ h _
    exact h.elim
set_option maxHeartbeats 1000000 in
theorem collectN (n : Nat) (hn : 3 ≤ n) (g : Nat) (lb : Array Value) (eg : ∀ args w, (callFunc g args).run Try.prog w = .ok (.enter g args) w) (S Sq : List Nat → Prop) (N : Nat) (hN : N ≤ 70000) (w : World)
    (hseq : ∀ W : World, Below w.heap.size w W → SeqStopsK Fence.wide (n - 1 - 1) Try.prog g lb (fun x : Nat => #[Value.int .i64 (x : Int)]) (Below w.heap.size) S Sq N W) :
    CallsIn Fence.wide n Try.prog 46 #[.func (.func g) #[] lb] w fun e w' => ∃ (v : Value) (ss : List Nat), e = .returned v ∧ S ss ∧
      w'.ownsRow w.heap.size 3 1 v ss.length (ss.flatMap nC) ∧ Below w.heap.size w w' := by
  have h1 : 1 ≤ n := by omega
  refine callsIn_of_wp Try.func46 rfl trivial ?_ rfl
  simp only [Try.ntmps46, List.size_toArray, List.length_cons, List.length_nil, Nat.reduceAdd, Nat.reduceSub, Array.replicate_succ, Array.replicate_zero, List.push_toArray, List.append_toArray, List.nil_append, List.cons_append]
  gi_wp2_with (refine ⟨trivial, ?_⟩; gi_at_call 57; refine (appendSeqN (n - 1) (by omega) g lb eg S Sq N hN _ hseq).mono ?_; rintro e w' ⟨v, ss, rfl, hS, hrow, hb⟩)
  go_ret
  exact ⟨v, ss, rfl, hS, hrow, hb⟩

/-- slices.Sorted of what slices.Values hands back. -/
theorem sortedN (Bs : Nat) (sv : Value) (l : List Nat) (w : World) (hBs : w.cell? ⟨Bs, 0, none⟩ = some sv) (hs : NumsAt w sv l) (hl : l.length ≤ 70000) :
    Calls Try.prog 31 #[.func (.func 47) #[] #[.pointer (some ⟨Bs, 0, none⟩)]] w fun e w1 => ∃ v, e = .returned v ∧ w1.ownsRow w.heap.size 3 1 v (sortN l).length ((sortN l).flatMap nC) ∧ Fr [] w w1 := by
  have hBl := World.block_lt_of_cell? w _ hBs
  have hcol := callsIn_wide.1 (collectN 3 (by omega) 47 #[.pointer (some ⟨Bs, 0, none⟩)] (enters_of Try.func47 (by kernel_rfl) rfl) (fun ys => ys = l) (fun pre => pre <+: l) l.length hl w
    (fun W hW => valuesStops 1 (by omega) Bs w.heap.size sv l W (Nat.lt_of_lt_of_le hBl hW.size) ((hW.cell (p := ⟨Bs, 0, none⟩) hBl).trans hBs) (hs.fr0 (Fr.of_below hW _)) (by
      rintro b off c h0 rfl
      obtain ⟨b2, off2, c2, e, hb, _⟩ := hs.cell h0
      cases e
      exact hb)))
  have HC := Lib.hid hcol
  clear hcol
  go_enter Try.func31, Try.ntmps31
  go_wp2_with fail
  refine HC.out.mono ?_
  rintro e w1 ⟨v, ss, rfl, rfl, hrow, hb⟩
  obtain ⟨q, n, c, rfl⟩ : ∃ q n c, v = .slice q n c := by
    rcases hrow.2 with ⟨e, _⟩ | ⟨_, _, _, e, _⟩
    · exact ⟨_, _, _, e⟩
    · exact ⟨_, _, _, e⟩
  have HR := Lib.hid hrow
  clear hrow
  go_wp2_with fail
  refine (sortI _ _ (by omega) HR.out).mono ?_
  rintro e w2 ⟨rfl, hrow2, hg2⟩
  go_wp2
  go_ret
  exact ⟨_, rfl, by rw [sortN_len]; exact hrow2, (Fr.of_below hb []).grown hg2 (fun g hg => .inr (HR.out.lt g hg).1)⟩
end Go.Proofs.Ytdlpbpohbkcafaa
