/-
  slices.Values, slices.AppendSeq, slices.Collect, slices.Sorted at numbers.
  (The lines on slices.Values's closure are the kit's worked proof GgSlicesIterAtTheDump, turned to this program.)
  slices.SortFunc at rings: by their first places.
-/
import Derived.Test.YtdlpbpohbkcafaaGreatCLib2
import Derived.RangeFuncNested
import Derived.RangeFuncBound
import Derived.RangeFuncCalls
import Derived.RangeFuncLeaves
import Derived.RangeFuncBox
import Derived.RangeFuncStops
import Derived.RangeFuncOne
import Derived.Shelf.Abstract
import Derived.Shelf.RegionOpen
import Derived.WalkKit
import Derived.OwnWalkIn
import Derived.TacticsInMore
import Derived.LoopNIn
import Derived.LoopIn
import Derived.Maps.AppendAt
import Derived.Shelf.SlSortCmp.Whole1
import Derived.Shelf.SlSortCmp.NoneTotal
import Derived.Deep.RegionWith
import Derived.Deep.AppendLies
namespace Go.Proofs.YtdlpbpohbkcafaaGreat
section
open Go.RowKit Go.Shelf Go.Sort Go.Proofs
attribute [local go_sem] Oper.semAt_some

set_option maxRecDepth 100000 in
set_option maxHeartbeats 2000000 in
theorem values1 (n : Nat) (hn : 1 ≤ n) (l Bs n₀ : Nat) (sv : Value) (zs : List Nat) (J Jx : List Nat → World → Prop)
    (hY : ∀ pre (x : Nat) W, J pre W → pre.length < zs.length → YieldAt Fence.wide (n - 1) Tryz.prog l #[.int .i64 (x : Int)] W fun e W' =>
      (e = .returned (.bool true) ∧ J (pre ++ [x]) W' ∧ Below n₀ W W') ∨ (e = .returned (.bool false) ∧ Jx (pre ++ [x]) W'))
    (W : World) (hBs : W.cell? ⟨Bs, 0, none⟩ = some sv) (hs : NumsAt W sv zs) (hlow : ∀ b off c, 0 < zs.length → sv = .slice (some ⟨b, off, none⟩) zs.length c → b < n₀) (h0 : J [] W) :
    CallsIn Fence.wide n Tryz.prog 46 #[.func (.yield l) #[] #[], .pointer (some ⟨Bs, 0, none⟩)] W fun e W' => (∃ v, e = .returned v) ∧
      ((∃ ys, ys = zs ∧ J ys W') ∨ (∃ pre, pre <+: zs ∧ Jx pre W')) := by
  obtain ⟨qa, qc, rfl, hq1, hq2⟩ := hs.form
  have HS := Lib.hid hs
  have hzl : (zs.length : Int) ≤ 9223372036854775807 := by omega
  have HLOW := Lib.hid hlow
  clear hs hlow
  refine callsIn_of_wp Tryz.func46 rfl trivial ?_ rfl
  simp only [Tryz.ntmps46, List.size_toArray, List.length_cons, List.length_nil, Nat.reduceAdd, Nat.reduceSub, Array.replicate_succ, Array.replicate_zero, List.push_toArray, List.append_toArray, List.nil_append, List.cons_append]
  gi_wp2
  gi_loopw [7] (fun i wr => ∃ k : Nat, k ≤ zs.length ∧ i = .int .i64 k ∧ J (zs.take k) wr ∧ Below n₀ W wr)
    (fun i _ => zs.length - (intOf i).toNat)
  case atStart => exact ⟨0, Nat.zero_le _, rfl, h0, Below.refl _ _⟩
  case round =>
    obtain ⟨k, hk, rfl, hJs, hnx⟩ := hrel
    by_cases hlt : k < zs.length
    · obtain ⟨b, off, c, e, hb, hc⟩ := nums_cell HS.out hlt
      cases e
      have hbl := HLOW.out b off qc (by omega) rfl
      have hcx := (hnx.cell (p := ⟨b, off + k, none⟩) hbl).trans hc
      have ht := Lib.hid (List.take_succ_eq_append_getElem hlt)
      obtain ⟨fn, tmps, assign, body, hy, hR⟩ := hY _ zs[k] wr hJs (by rw [List.length_take]; omega)
      have hk1 : (k : Int) < (zs.length : Int) := by omega
      clear hc hq1 hq2
      generalize zs[k] = x at *
      gi_wp2
      refine hR.mono ?_
      rintro e W3 (⟨rfl, hJ3, hk3⟩ | ⟨rfl, hJx3⟩)
      · gi_wp2
        go_roundw
        case rel => exact ⟨k + 1, by omega, by simp, by rw [ht.out]; exact hJ3, hnx.trans hk3⟩
        case measure => simp [intOf]; omega
      · gi_wp2
        refine bodyPost_ret (results_none rfl _ _ _) rfl ?_
        exact ⟨⟨_, rfl⟩, .inr ⟨_, by rw [← ht.out]; exact List.take_prefix _ _, hJx3⟩⟩
    · obtain rfl : k = zs.length := by omega
      rw [List.take_length] at hJs
      gi_wp2
      go_end0
      exact ⟨⟨_, rfl⟩, .inl ⟨_, rfl, hJs⟩⟩

/-- slices.Values: the slice in a box. -/
theorem valuesN (v : Value) (q : Option Addr) (m c : Nat) (hv : v = .slice q m c) (w : World) :
    Calls Tryz.prog 26 #[v] w fun e w' => e = .returned (.func (.func 46) #[] #[.pointer (some ⟨w.heap.size, 0, none⟩)]) ∧ w' = w.alloc (.cells #[v] 47) := by
  subst hv
  go_enter Tryz.func26, Tryz.ntmps26
  go_wp2
  go_ret
  exact ⟨rfl, rfl⟩

theorem valuesStops (n : Nat) (hn : 1 ≤ n) (Bs n₀ : Nat) (sv : Value) (zs : List Nat) (w : World) (hBs : Bs < w.heap.size)
    (hc : w.cell? ⟨Bs, 0, none⟩ = some sv) (hs : NumsAt w sv zs) (hlow : ∀ b off c, 0 < zs.length → sv = .slice (some ⟨b, off, none⟩) zs.length c → b < n₀) :
    SeqStopsK Fence.wide n Tryz.prog 46 #[.pointer (some ⟨Bs, 0, none⟩)] (fun x : Nat => #[Value.int .i64 (x : Int)]) (Below n₀) (fun ys => ys = zs) (fun pre => pre <+: zs) zs.length w := fun l J Jx W hW _ _ hY h0 =>
  values1 n hn l Bs n₀ sv zs J Jx hY W ((hW.cell (p := ⟨Bs, 0, none⟩) hBs).trans hc) (hs.fr0 (Fr.of_below hW _)) hlow h0

theorem block_own {β : Type} (B : Nat) (f : β → Obj) (hf : ∀ s, (f s).isCells = true) : Own (fun s W => W.heap[B]? = some (f s)) := fun s X Y row hs hg hrow =>
  (hg.block B (lt_of hs) (fun e => by
    obtain ⟨o, ho, hc⟩ := hrow B e.symm
    rw [hs] at ho
    cases ho
    rw [hf s] at hc
    cases hc)).trans hs

set_option maxRecDepth 100000 in
set_option maxHeartbeats 2000000 in
theorem appendSeqN (n : Nat) (hn : 2 ≤ n) (g : Nat) (lb : Array Value) (eg : ∀ args w, (callFunc g args).run Tryz.prog w = .ok (.enter g args) w) (S Sq : List Nat → Prop) (N : Nat) (hN : N ≤ 70000) (w : World)
    (hseq : ∀ W : World, Below w.heap.size w W → SeqStopsK Fence.wide (n - 1) Tryz.prog g lb (fun x : Nat => #[Value.int .i64 (x : Int)]) (Below w.heap.size) S Sq N W) :
    CallsIn Fence.wide n Tryz.prog 62 #[.slice none 0 0, .func (.func g) #[] lb] w fun e w' => ∃ (v : Value) (ss : List Nat), e = .returned v ∧ S ss ∧
      w'.ownsRow w.heap.size 3 1 v ss.length (ss.flatMap nC) ∧ Below w.heap.size w w' := by
  obtain ⟨i0, hi, hz0, hz1, hz2⟩ := info_parts infoInt
  have h1 : 1 ≤ n := by omega
  refine callsIn_of_wp_marks Tryz.func62 rfl trivial ?_ rfl
  simp only [Tryz.ntmps62, List.size_toArray, List.length_cons, List.length_nil, Nat.reduceAdd, Nat.reduceSub, Array.replicate_succ, Array.replicate_zero, List.push_toArray, List.append_toArray, List.nil_append, List.cons_append]
  gi_wp2
  have bS := Boxed.new w 47 (.slice none 0 0)
  have hB0 : Below w.heap.size w (w.alloc (.cells #[.slice none 0 0] 47)) := (Below.refl _ w).alloc (Nat.le_refl _) _
  have hsz : (w.alloc (.cells #[.slice none 0 0] 47)).heap.size = w.heap.size + 1 := by simp
  have hs2 := hseq _ hB0
  obtain ⟨W0, hW0⟩ : ∃ W0, w.alloc (.cells #[.slice none 0 0] 47) = W0 := ⟨_, rfl⟩
  rw [hW0] at bS hB0 hsz hs2 ⊢
  clear hW0
  refine wpIn_rangeFunc_ownH rfl h1 (gf := g) (lb := lb) rfl trivial eg (encs := fun x : Nat => #[Value.int .i64 (x : Int)]) hs2 belowK_t (belowK_b (by omega)) (Below.refl _ _) (fun _ => rfl)
    (fun pre W => (∃ v, Boxed W w.heap.size 47 v ∧ W.ownsRow w.heap.size 3 1 v pre.length (pre.flatMap nC) ∧ (v = .slice none 0 0 ↔ pre = [])) ∧ Below w.heap.size w W)
    (fun _ _ _ => False)
    (OwnFrom.and (Own.from (holdsRow_own w.heap.size w.heap.size 47 3 1 (fun pre : List Nat => pre.length) (fun pre => pre.flatMap nC) (fun pre v => v = .slice none 0 0 ↔ pre = [])) _) (ownFrom_below (Nat.le_refl _) (by omega)))
    (fun _ _ _ _ _ hs _ _ => hs)
    ⟨⟨_, bS, World.ownsRow_nil _ _ _ _, by simp⟩, hB0⟩
    (fun x a' _ => a' = { tmps := #[.slice none 0 0, .func (.func g) #[] lb, .pointer (some ⟨w.heap.size, 0, none⟩), undef, .slice none 0 0, .int .i64 (x : Int), .func (.func g) #[] lb, .int .i64 (x : Int), undef, undef, undef, undef, undef], defers := [] })
    (fun x a' _ X Y row hs hg hr => hs)
    ?assign ?body ?done ?stop
  case assign =>
    rintro l pre x W K ⟨⟨v, bS1, hrow, hnil⟩, hB1⟩ hK
    gi_wp2
    exact hK _ _ (KeepsOthers.from (by exact ⟨Nat.le_refl _, fun _ _ h _ => h⟩) _) (Below.refl _ _) ⟨⟨v, bS1, hrow, hnil⟩, hB1⟩ rfl
  case body =>
    rintro l pre x a' W hl ⟨r, hr⟩ ⟨⟨v, hv, hrow, hnil⟩, hB⟩ rfl hlt
    have hc := hv.cell
    have hlN : pre.length < 70000 := by omega
    gi_wp2_with (gi_at_builtin; refine wpListIn_append_own _ rfl _ _ 47 rfl w.heap.size 3 i0 _ 1 8 Tryz.underlying47 hi hz0 hz1 hz2 rfl (by decide) _ _ _ rfl (hrow.alloc _) ⟨W.heap.size, 0, none⟩ 1 1 (nC x) rfl rfl (news_of _ _ _) (by simp [Value.oneCell']) (by unfold maxLen; omega) (by omega) (by have := hB.size; simp; omega) ?_; intro v' w1 hown' hgrow _; obtain ⟨g', cap', rfl⟩ := ownsRow_succ hown'; obtain ⟨hv1, hv2, hr2, hk2, hb2⟩ := hv.appended (by decide) hrow hB.size (Nat.le_refl _) hown' hgrow; have hc1 := hv1.cell; have hf1 := hv1.frozen)
    exact ⟨hk2.from _, hb2, ⟨_, hv2, by simpa using hr2, by simp⟩, hB.trans hb2⟩
  case done =>
    rintro D ys W hD hS ⟨⟨v, hv, hrow, hnil⟩, hB⟩ hK
    have hc := hv.cell
    gi_wp2
    refine ⟨by simp, .inl ⟨_, _, rfl, run_takeDeferred hK, ?_⟩⟩
    exact ⟨_, results_tmp rfl _ _ _, v, ys, rfl, hS, ownsRow_putObj hrow _ hK rfl, hB.trans (belowK_b (w := w) (Nat.le_refl _) W D _ _ (by omega) hK rfl rfl)⟩
  case stop =>
    rintro D c pre W _ _ h _
    exact h.elim
set_option maxHeartbeats 1000000 in
theorem collectN (n : Nat) (hn : 3 ≤ n) (g : Nat) (lb : Array Value) (eg : ∀ args w, (callFunc g args).run Tryz.prog w = .ok (.enter g args) w) (S Sq : List Nat → Prop) (N : Nat) (hN : N ≤ 70000) (w : World)
    (hseq : ∀ W : World, Below w.heap.size w W → SeqStopsK Fence.wide (n - 1 - 1) Tryz.prog g lb (fun x : Nat => #[Value.int .i64 (x : Int)]) (Below w.heap.size) S Sq N W) :
    CallsIn Fence.wide n Tryz.prog 45 #[.func (.func g) #[] lb] w fun e w' => ∃ (v : Value) (ss : List Nat), e = .returned v ∧ S ss ∧
      w'.ownsRow w.heap.size 3 1 v ss.length (ss.flatMap nC) ∧ Below w.heap.size w w' := by
  have h1 : 1 ≤ n := by omega
  refine callsIn_of_wp Tryz.func45 rfl trivial ?_ rfl
  simp only [Tryz.ntmps45, List.size_toArray, List.length_cons, List.length_nil, Nat.reduceAdd, Nat.reduceSub, Array.replicate_succ, Array.replicate_zero, List.push_toArray, List.append_toArray, List.nil_append, List.cons_append]
  gi_wp2_with (refine ⟨trivial, ?_⟩; gi_at_call 62; refine (appendSeqN (n - 1) (by omega) g lb eg S Sq N hN _ hseq).mono ?_; rintro e w' ⟨v, ss, rfl, hS, hrow, hb⟩)
  go_ret
  exact ⟨v, ss, rfl, hS, hrow, hb⟩

/-- slices.Sorted of what slices.Values hands back. -/
theorem sortedN (Bs : Nat) (sv : Value) (l : List Nat) (w : World) (hBs : w.cell? ⟨Bs, 0, none⟩ = some sv) (hs : NumsAt w sv l) (hl : l.length ≤ 70000) :
    Calls Tryz.prog 25 #[.func (.func 46) #[] #[.pointer (some ⟨Bs, 0, none⟩)]] w fun e w1 => ∃ v, e = .returned v ∧ w1.ownsRow w.heap.size 3 1 v (sortN l).length ((sortN l).flatMap nC) ∧ Fr [] w w1 := by
  have hBl := World.block_lt_of_cell? w _ hBs
  have hcol := callsIn_wide.1 (collectN 3 (by omega) 46 #[.pointer (some ⟨Bs, 0, none⟩)] (enters_of Tryz.func46 (by kernel_rfl) rfl) (fun ys => ys = l) (fun pre => pre <+: l) l.length hl w
    (fun W hW => valuesStops 1 (by omega) Bs w.heap.size sv l W (Nat.lt_of_lt_of_le hBl hW.size) ((hW.cell (p := ⟨Bs, 0, none⟩) hBl).trans hBs) (hs.fr0 (Fr.of_below hW _)) (by
      rintro b off c h0 rfl
      obtain ⟨b2, off2, c2, e, hb, _⟩ := hs.cell h0
      cases e
      exact hb)))
  have HC := Lib.hid hcol
  clear hcol
  go_enter Tryz.func25, Tryz.ntmps25
  go_wp2_with fail
  refine HC.out.mono ?_
  rintro e w1 ⟨v, ss, rfl, rfl, hrow, hb⟩
  obtain ⟨q, n, c, rfl⟩ : ∃ q n c, v = .slice q n c := by
    rcases hrow.2 with ⟨e, _⟩ | ⟨_, _, _, e, _⟩
    · exact ⟨_, _, _, e⟩
    · exact ⟨_, _, _, e⟩
  have HR := Lib.hid hrow
  clear hrow
  go_wp2_with fail
  refine (sortI _ _ (by omega) HR.out).mono ?_
  rintro e w2 ⟨rfl, hrow2, hg2⟩
  go_wp2
  go_ret
  exact ⟨_, rfl, by rw [sortN_len]; exact hrow2, (Fr.of_below hb []).grown hg2 (fun g hg => .inr (HR.out.lt g hg).1)⟩
end
section
open Go.RowKit Go.Shelf Go.Sort Go.Proofs

def Tryz.sortRs_ren : Go.Shelf.Ren := ⟨fun | 6 => 27 | 15 => 48 | 14 => 47 | 28 => 71 | 29 => 72 | 20 => 63 | 21 => 64 | 22 => 65 | 23 => 66 | 24 => 67 | 25 => 68 | 26 => 69 | 27 => 70 | 46 => 93 | 47 => 94 | 48 => 95 | 49 => 96 | 50 => 97 | 57 => 112 | n => n, fun | 22 => 32 | 24 => 28 | 25 => 74 | 3 => 3 | 39 => 102 | 0 => 0 | 53 => 127 | 55 => 129 | 4 => 4 | 46 => 121 | 45 => 120 | 50 => 96 | 5 => 5 | 9 => 9 | 66 => 148 | 70 => 152 | 76 => 165 | 77 => 166 | n => n, fun | n => n⟩
theorem Tryz.sortRs : Go.Proofs.SlLaysF.n6 Tryz.prog Tryz.sortRs_ren where
  mixed := by kernel_rfl
  f6 := ⟨Tryz.f27.name, by kernel_rfl, Tryz.func27.trans (congrArg some (by kernel_rfl))⟩
  f14 := ⟨Tryz.f47.name, by kernel_rfl, Tryz.func47.trans (congrArg some (by kernel_rfl))⟩
  f15 := Tryz.func48.trans (congrArg some (by kernel_rfl))
  f20 := ⟨Tryz.f63.name, by kernel_rfl, Tryz.func63.trans (congrArg some (by kernel_rfl))⟩
  f21 := ⟨Tryz.f64.name, by kernel_rfl, Tryz.func64.trans (congrArg some (by kernel_rfl))⟩
  f22 := ⟨Tryz.f65.name, by kernel_rfl, Tryz.func65.trans (congrArg some (by kernel_rfl))⟩
  f23 := ⟨Tryz.f66.name, by kernel_rfl, Tryz.func66.trans (congrArg some (by kernel_rfl))⟩
  f24 := ⟨Tryz.f67.name, by kernel_rfl, Tryz.func67.trans (congrArg some (by kernel_rfl))⟩
  f25 := ⟨Tryz.f68.name, by kernel_rfl, Tryz.func68.trans (congrArg some (by kernel_rfl))⟩
  f26 := ⟨Tryz.f69.name, by kernel_rfl, Tryz.func69.trans (congrArg some (by kernel_rfl))⟩
  f27 := ⟨Tryz.f70.name, by kernel_rfl, Tryz.func70.trans (congrArg some (by kernel_rfl))⟩
  f28 := Tryz.func71.trans (congrArg some (by kernel_rfl))
  f29 := Tryz.func72.trans (congrArg some (by kernel_rfl))
  f46 := ⟨Tryz.f93.name, by kernel_rfl, Tryz.func93.trans (congrArg some (by kernel_rfl))⟩
  f47 := Tryz.func94.trans (congrArg some (by kernel_rfl))
  f48 := Tryz.func95.trans (congrArg some (by kernel_rfl))
  f49 := ⟨Tryz.f96.name, by kernel_rfl, Tryz.func96.trans (congrArg some (by kernel_rfl))⟩
  f50 := ⟨Tryz.f97.name, by kernel_rfl, Tryz.func97.trans (congrArg some (by kernel_rfl))⟩
  f57 := ⟨Tryz.f112.name, by kernel_rfl, Tryz.func112.trans (congrArg some (by kernel_rfl))⟩
  t0 := Tryz.underlying0
  a0 := Tryz.isAgg0
  z0 := Tryz.sizeOf0
  v0 := Tryz.zeroValue0
  t3 := Tryz.underlying3
  a3 := Tryz.isAgg3
  z3 := Tryz.sizeOf3
  v3 := Tryz.zeroValue3
  t4 := Tryz.underlying4
  a4 := Tryz.isAgg4
  z4 := Tryz.sizeOf4
  v4 := Tryz.zeroValue4
  t5 := Tryz.underlying5
  a5 := Tryz.isAgg5
  z5 := Tryz.sizeOf5
  v5 := Tryz.zeroValue5
  t9 := Tryz.underlying9
  a9 := Tryz.isAgg9
  z9 := Tryz.sizeOf9
  v9 := Tryz.zeroValue9
  t22 := Tryz.underlying32
  a22 := Tryz.isAgg32
  z22 := Tryz.sizeOf32
  v22 := Tryz.zeroValue32
  a24 := Tryz.isAgg28
  z24 := Tryz.sizeOf28
  t25 := Tryz.underlying74
  a25 := Tryz.isAgg74
  z25 := Tryz.sizeOf74
  v25 := Tryz.zeroValue74
  t39 := Tryz.underlying102
  a39 := Tryz.isAgg102
  z39 := Tryz.sizeOf102
  v39 := Tryz.zeroValue102
  t45 := Tryz.underlying120
  a45 := Tryz.isAgg120
  z45 := Tryz.sizeOf120
  v45 := Tryz.zeroValue120
  t46 := Tryz.underlying121
  a46 := Tryz.isAgg121
  z46 := Tryz.sizeOf121
  v46 := Tryz.zeroValue121
  t50 := Tryz.underlying96
  a50 := Tryz.isAgg96
  z50 := Tryz.sizeOf96
  v50 := Tryz.zeroValue96
  t53 := Tryz.underlying127
  a53 := Tryz.isAgg127
  z53 := Tryz.sizeOf127
  v53 := Tryz.zeroValue127
  t55 := Tryz.underlying129
  a55 := Tryz.isAgg129
  z55 := Tryz.sizeOf129
  v55 := Tryz.zeroValue129
  t66 := Tryz.underlying148
  a66 := Tryz.isAgg148
  z66 := Tryz.sizeOf148
  v66 := Tryz.zeroValue148
  t70 := Tryz.underlying152
  a70 := Tryz.isAgg152
  z70 := Tryz.sizeOf152
  v70 := Tryz.zeroValue152
  t76 := Tryz.underlying165
  a76 := Tryz.isAgg165
  z76 := Tryz.sizeOf165
  v76 := Tryz.zeroValue165
  t77 := Tryz.underlying166
  a77 := Tryz.isAgg166
  z77 := Tryz.sizeOf166
  v77 := Tryz.zeroValue166
def Tryz.sortRs0_ren : Go.Shelf.Ren := ⟨fun | 6 => 27 | 15 => 48 | 14 => 47 | 28 => 71 | 29 => 72 | 20 => 63 | 21 => 64 | 22 => 65 | 23 => 66 | 24 => 67 | 25 => 68 | 26 => 69 | 27 => 70 | 46 => 93 | 47 => 94 | 48 => 95 | 49 => 96 | 50 => 97 | 57 => 112 | n => n, fun | 22 => 32 | 24 => 28 | 25 => 74 | 3 => 3 | 39 => 102 | 0 => 0 | 53 => 127 | 55 => 129 | 4 => 4 | 46 => 121 | 45 => 120 | 50 => 96 | 5 => 5 | 9 => 9 | 66 => 148 | 70 => 152 | 76 => 165 | 77 => 166 | n => n, fun | n => n⟩
theorem Tryz.sortRs0 : Go.Proofs.SlLaysF0.n6 Tryz.prog Tryz.sortRs0_ren where
  mixed := by kernel_rfl
  f6 := ⟨Tryz.f27.name, by kernel_rfl, Tryz.func27.trans (congrArg some (by kernel_rfl))⟩
  f14 := ⟨Tryz.f47.name, by kernel_rfl, Tryz.func47.trans (congrArg some (by kernel_rfl))⟩
  f15 := Tryz.func48.trans (congrArg some (by kernel_rfl))
  f20 := ⟨Tryz.f63.name, by kernel_rfl, Tryz.func63.trans (congrArg some (by kernel_rfl))⟩
  f21 := ⟨Tryz.f64.name, by kernel_rfl, Tryz.func64.trans (congrArg some (by kernel_rfl))⟩
  f22 := ⟨Tryz.f65.name, by kernel_rfl, Tryz.func65.trans (congrArg some (by kernel_rfl))⟩
  f23 := ⟨Tryz.f66.name, by kernel_rfl, Tryz.func66.trans (congrArg some (by kernel_rfl))⟩
  f24 := ⟨Tryz.f67.name, by kernel_rfl, Tryz.func67.trans (congrArg some (by kernel_rfl))⟩
  f25 := ⟨Tryz.f68.name, by kernel_rfl, Tryz.func68.trans (congrArg some (by kernel_rfl))⟩
  f26 := ⟨Tryz.f69.name, by kernel_rfl, Tryz.func69.trans (congrArg some (by kernel_rfl))⟩
  f27 := ⟨Tryz.f70.name, by kernel_rfl, Tryz.func70.trans (congrArg some (by kernel_rfl))⟩
  f28 := Tryz.func71.trans (congrArg some (by kernel_rfl))
  f29 := Tryz.func72.trans (congrArg some (by kernel_rfl))
  f46 := ⟨Tryz.f93.name, by kernel_rfl, Tryz.func93.trans (congrArg some (by kernel_rfl))⟩
  f47 := Tryz.func94.trans (congrArg some (by kernel_rfl))
  f48 := Tryz.func95.trans (congrArg some (by kernel_rfl))
  f49 := ⟨Tryz.f96.name, by kernel_rfl, Tryz.func96.trans (congrArg some (by kernel_rfl))⟩
  f50 := ⟨Tryz.f97.name, by kernel_rfl, Tryz.func97.trans (congrArg some (by kernel_rfl))⟩
  f57 := ⟨Tryz.f112.name, by kernel_rfl, Tryz.func112.trans (congrArg some (by kernel_rfl))⟩
  t0 := Tryz.underlying0
  a0 := Tryz.isAgg0
  z0 := Tryz.sizeOf0
  v0 := Tryz.zeroValue0
  t3 := Tryz.underlying3
  a3 := Tryz.isAgg3
  z3 := Tryz.sizeOf3
  v3 := Tryz.zeroValue3
  t4 := Tryz.underlying4
  a4 := Tryz.isAgg4
  z4 := Tryz.sizeOf4
  v4 := Tryz.zeroValue4
  t5 := Tryz.underlying5
  a5 := Tryz.isAgg5
  z5 := Tryz.sizeOf5
  v5 := Tryz.zeroValue5
  t9 := Tryz.underlying9
  a9 := Tryz.isAgg9
  z9 := Tryz.sizeOf9
  v9 := Tryz.zeroValue9
  t22 := Tryz.underlying32
  a22 := Tryz.isAgg32
  z22 := Tryz.sizeOf32
  v22 := Tryz.zeroValue32
  t25 := Tryz.underlying74
  a25 := Tryz.isAgg74
  z25 := Tryz.sizeOf74
  v25 := Tryz.zeroValue74
  t39 := Tryz.underlying102
  a39 := Tryz.isAgg102
  z39 := Tryz.sizeOf102
  v39 := Tryz.zeroValue102
  t45 := Tryz.underlying120
  a45 := Tryz.isAgg120
  z45 := Tryz.sizeOf120
  v45 := Tryz.zeroValue120
  t46 := Tryz.underlying121
  a46 := Tryz.isAgg121
  z46 := Tryz.sizeOf121
  v46 := Tryz.zeroValue121
  t50 := Tryz.underlying96
  a50 := Tryz.isAgg96
  z50 := Tryz.sizeOf96
  v50 := Tryz.zeroValue96
  t53 := Tryz.underlying127
  a53 := Tryz.isAgg127
  z53 := Tryz.sizeOf127
  v53 := Tryz.zeroValue127
  t55 := Tryz.underlying129
  a55 := Tryz.isAgg129
  z55 := Tryz.sizeOf129
  v55 := Tryz.zeroValue129
  t66 := Tryz.underlying148
  a66 := Tryz.isAgg148
  z66 := Tryz.sizeOf148
  v66 := Tryz.zeroValue148
  t70 := Tryz.underlying152
  a70 := Tryz.isAgg152
  z70 := Tryz.sizeOf152
  v70 := Tryz.zeroValue152
  t76 := Tryz.underlying165
  a76 := Tryz.isAgg165
  z76 := Tryz.sizeOf165
  v76 := Tryz.zeroValue165
  t77 := Tryz.underlying166
  a77 := Tryz.isAgg166
  z77 := Tryz.sizeOf166
  v77 := Tryz.zeroValue166

def hdS (l : List Sp) : Sp := l.headD (0, 0)
/-- Rings, by their first places. -/
def sortP (ps : List (Value × List Sp)) : List (Value × List Sp) := ps.mergeSort fun a b => !ltS (hdS b.2) (hdS a.2)
theorem sortP_perm (ps : List (Value × List Sp)) : (sortP ps).Perm ps := List.mergeSort_perm _ _

/-- A ring's first place lies there. -/
structure HeadAt (w : World) (v : Value) (l : List Sp) (no : Option Nat) : Prop where
  pos : 0 < l.length
  ex : ∃ b c, v = .slice (some ⟨b, 0, none⟩) l.length c ∧ b < w.heap.size ∧ some b ≠ no ∧ w.cell? ⟨b, 0, none⟩ = some (.int .i64 (hdS l).1) ∧ w.cell? ⟨b, 1, none⟩ = some (.int .i64 (hdS l).2)

theorem Gr.ofDrew {W w : World} (h : Gr W.drew w) : Gr W w := by
  obtain ⟨q, os, rfl⟩ := h
  refine ⟨1 + q, os, ?_⟩
  have e : W.drew.drewN q = W.drewN (1 + q) := by
    show ({ W with drawn := W.drawn + 1 + q } : World) = { W with drawn := W.drawn + (1 + q) }
    rw [Nat.add_assoc]
  rw [e]
theorem rings1 (a b : Nat) (la lb ca cb : Nat) (s t : Sp) (W : World) (h1 : 0 < la) (h2 : 0 < lb) (a0 : W.cell? ⟨a, 0, none⟩ = some (.int .i64 s.1)) (a1 : W.cell? ⟨a, 1, none⟩ = some (.int .i64 s.2)) (b0 : W.cell? ⟨b, 0, none⟩ = some (.int .i64 t.1)) (b1 : W.cell? ⟨b, 1, none⟩ = some (.int .i64 t.2)) :
    Calls Tryz.prog 28 #[.slice (some ⟨a, 0, none⟩) la ca, .slice (some ⟨b, 0, none⟩) lb cb] W fun e w' => e = .returned (.int .i64 (cmpS s t)) ∧ Gr W w' := by
  have h1' : (0 : Int) < (la : Int) := by omega
  have h2' : (0 : Int) < (lb : Int) := by omega
  go_enter Tryz.func28, Tryz.ntmps28
  go_wp2_with fail
  go_region_with (go_at_call 29; refine (spotCompare s t _).mono ?_; rintro e w3 ⟨rfl, hg⟩)
  all_goals
    go_wp2
    go_ret
    exact ⟨rfl, hg.ofDrew⟩
theorem hds_inj {ps : List (Value × List Sp)} (hn : (ps.map fun p => hdS p.2).Nodup) {i j : Nat} (hi : i < ps.length) (hj : j < ps.length) (e : hdS ps[i].2 = hdS ps[j].2) : i = j := by
  have h1 : (ps.map fun p => hdS p.2)[i]'(by simpa using hi) = (ps.map fun p => hdS p.2)[j]'(by simpa using hj) := by simpa using e
  exact (List.getElem_inj hn).1 h1

/-- slices.SortFunc at rings on a row of the call's own. -/
theorem sortRings {B : Nat} {e0 : TypeId} {sv : Value} (ps : List (Value × List Sp)) (w : World) (hlen : ps.length ≤ 70000) (h : w.ownsRow B e0 1 sv ps.length (ps.map (·.1))) (hh : ∀ p ∈ ps, HeadAt w p.1 p.2 sv.ownBlock) (hn : (ps.map fun p => hdS p.2).Nodup) :
    Calls Tryz.prog 27 #[sv, .func (.func 28) #[] #[]] w fun e w1 => e = .returned (.tuple #[]) ∧ w1.ownsRow B e0 1 sv ps.length ((sortP ps).map (·.1)) ∧ w.grownBy w1 sv.ownBlock := by
  by_cases h0 : ps = []
  · subst h0
    have hnil : ∃ q c, sv = .slice q 0 c := by
      rcases h.2 with ⟨rfl, _⟩ | ⟨_, _, _, rfl, _⟩
      · exact ⟨_, _, rfl⟩
      · exact ⟨_, _, rfl⟩
    obtain ⟨q, c, rfl⟩ := hnil
    refine (AnyF.slices_SortFunc_none Tryz.sortRs0 q c _ w).mono ?_
    rintro e w1 ⟨rfl, rfl⟩
    exact ⟨rfl, by simpa [sortP] using h, ⟨rfl, rfl, rfl, Nat.le_refl _, fun _ _ _ => rfl⟩⟩
  · obtain ⟨k, hk⟩ : ∃ k, ps.length = k + 1 := ⟨ps.length - 1, by have := List.length_pos_iff.2 h0; omega⟩
    rcases h.2 with ⟨_, h0⟩ | ⟨g, cap, cur, rfl, hb, hg, h1, h2, h3, h4⟩
    · omega
    have hgl := lt_of hg
    let en : Fin (k + 1) → Value := fun i => (ps[i.1]'(by omega)).1
    let ky : Fin (k + 1) → Sp := fun i => hdS (ps[i.1]'(by omega)).2
    let cf : Fin (k + 1) → Fin (k + 1) → Int := fun i j => cmpS (ky i) (ky j)
    have hlt : ∀ i j, ltOf cf i j = ltS (ky i) (ky j) := fun i j => by
      have := lt_cmpS (ky i) (ky j)
      simpa [ltOf, cf] using this
    have hO : SWO (ltOf cf) := by
      have := swoS
      rw [ltOf_cmpS] at this
      refine ⟨fun x => ?_, fun x y z => ?_, fun x y z => ?_⟩
      · rw [hlt]; exact this.irrefl _
      · rw [hlt, hlt, hlt]; exact this.trans _ _ _
      · rw [hlt, hlt, hlt]; exact this.ntrans _ _ _
    have hT : ∀ x y, (ltOf cf) x y = false → (ltOf cf) y x = false → x = y := fun x y h1 h2 => by
      rw [hlt] at h1 h2
      have := totS _ _ h1 h2
      exact Fin.ext (hds_inj hn (by omega) (by omega) this)
    have eg : ∀ args w, (callFunc 28 args).run Tryz.prog w = .ok (.enter 28 args) w := enters_of Tryz.func28 (by kernel_rfl) rfl
    have h1c : OneCell en := by
      intro i
      obtain ⟨_, b, c, e, _⟩ := hh _ (List.getElem_mem (show i.1 < ps.length by omega))
      show (en i).oneCell' = true
      rw [show en i = _ from e]
      rfl
    have hcmp : CmpLays1 Tryz.prog 28 #[] en cf g 0 (Array.ofFn (n := k + 1) id).size w := by
      intro m os dk hdk x y
      obtain ⟨p1, b1, c1, e1, l1, n1, x0, x1⟩ := hh _ (List.getElem_mem (show x.1 < ps.length by omega))
      obtain ⟨p2, b2, c2, e2, l2, n2, y0, y1⟩ := hh _ (List.getElem_mem (show y.1 < ps.length by omega))
      have hgr : w.grownBy (sortWorld en w g 0 m dk os) (some g) := grownPut en dk
      have hc : ∀ b j v, b < w.heap.size → some b ≠ some g → w.cell? ⟨b, j, none⟩ = some v → (sortWorld en w g 0 m dk os).cell? ⟨b, j, none⟩ = some v := fun b j v hb hne hv => (hgr.cell_far ⟨b, j, none⟩ hb hne).trans hv
      rw [show en x = _ from e1, show en y = _ from e2]
      exact rings1 b1 b2 _ _ _ _ _ _ _ p1 p2 (hc _ _ _ l1 n1 x0) (hc _ _ _ l1 n1 x1) (hc _ _ _ l2 n2 y0) (hc _ _ _ l2 n2 y1)
    have hH : Holds en w g 0 (Array.ofFn (n := k + 1) id) := by
      intro j hj
      have hj' : j < ps.length := by simpa [hk] using hj
      refine ⟨?_, by simp [World.frozen?, hg]⟩
      have := take_cells hg h4 j (ps[j]).1 (by simp [hj'])
      simp only [Nat.zero_add]
      rw [this, getElem!_pos _ j hj]
      simp [en]
    have hcon := Any.slices_SortFunc_total Tryz.sortRs en h1c cf hO 28 #[] g 0 cap (Array.ofFn (n := k + 1) id) w eg hcmp hH hgl (by simp; omega) hT
    have hsz : (Array.ofFn (n := k + 1) id).size = ps.length := by simp [hk]
    rw [hsz] at hcon
    refine hcon.mono ?_
    rintro e w1 ⟨rfl, n, os, rfl⟩
    have hres : ((Array.ofFn (n := k + 1) id).toList.mergeSort fun x y => !(ltOf cf) y x).map en = (sortP ps).map (·.1) := by
      have e1 : ps = (Array.ofFn (n := k + 1) id).toList.map fun i => ps[i.1]'(by omega) := by
        apply List.ext_getElem
        · simp [hk]
        · intro i h1 h2
          simp only [List.getElem_map, Array.getElem_toList, Array.getElem_ofFn, id]
      have e2 : sortP ps = ((Array.ofFn (n := k + 1) id).toList.mergeSort fun x y => !(ltOf cf) y x).map fun i => ps[i.1]'(by omega) := by
        unfold sortP
        conv => lhs; rw [e1]
        rw [List.map_mergeSort]
        intro a _ b _
        rw [hlt]
      rw [e2, List.map_map]
      rfl
    refine ⟨rfl, ⟨?_, .inr ⟨g, cap, _, rfl, hb, heapPut en _ hg, h1, h2, by simp [putCells, h3], ?_⟩⟩, grownPut en _⟩
    · rw [List.length_map, (sortP_perm ps).length_eq]; omega
    · have h5 := takePutE en cur ((Array.ofFn (n := k + 1) id).toList.mergeSort fun x y => !(ltOf cf) y x).toArray (by simp; omega)
      simp only [List.size_toArray, List.length_mergeSort, Array.length_toList, Array.size_ofFn] at h5
      rw [Nat.mul_one, hk, h5, ← hres]
end
end Go.Proofs.YtdlpbpohbkcafaaGreat
