/-
  quadrillelaw21: (*Book).Take.
  quadrillelaw21: a book whose lists are grown.
  quadrillelaw21: (*Book).Whole.
-/
import Derived.Test.YtdlpbpohbkcafaaGreatCApA
import Derived.Test.YtdlpbpohbkcafaaGreatCRingB
import Derived.Deep.AppendLies
import Derived.Deep.RegionWith
import Derived.Deep.RegionLawGrows
namespace Go.Proofs.YtdlpbpohbkcafaaGreat
section
open Go.RowKit Go.Shelf Go.Sort Go.Proofs

abbrev tBk : TypeId := 49
/-- What a list that was taken holds. -/
abbrev bkS (i n : Nat) : List Sp := List.replicate n (-((i + 1 : Nat) : Int), 0)
/-- A book: its box, its two rows, the lists that were taken; K: all blocks that are its own. -/
structure BookIn (Bk : Nat) (K : List Nat) (es : List (Value × Nat)) (lv nv : Value) (sz : Int) (w : World) : Prop where
  box : w.heap[Bk]? = some (.cells #[lv, nv, .int .i64 sz] tBk (0, 0))
  l : w.ownsRow 0 tS 1 lv es.length (es.map (·.1))
  n : w.ownsRow 0 tI 1 nv es.length (es.map fun e => .int .i64 (e.2 : Int))
  lK : ∀ g, lv.ownBlock = some g → g ∈ K
  nK : ∀ g, nv.ownBlock = some g → g ∈ K
  bk : Bk ∈ K
  el : ∀ i (h : i < es.length), w.ownsRow 0 tSp 2 es[i].1 es[i].2 ((bkS i es[i].2).flatMap spC)
  elK : ∀ e ∈ es, ∀ g, e.1.ownBlock = some g → g ∈ K
  sep : es.Pairwise fun a b => ∀ g, a.1.ownBlock = some g → b.1.ownBlock ≠ some g
  lt : ∀ b ∈ K, b < w.heap.size
  sm : ∀ e ∈ es, e.2 ≤ 4194304
theorem BookIn.fr {Bk : Nat} {K : List Nat} {es : List (Value × Nat)} {lv nv : Value} {sz : Int} {w w1 : World} (h : BookIn Bk K es lv nv sz w) {S : List Nat} (hf : Fr S w w1) (hS : ∀ b ∈ S, b ∉ K) : BookIn Bk K es lv nv sz w1 :=
  ⟨hf.heap h.box (fun hm => hS _ hm h.bk), owns_fr h.l hf (fun k hk hm => hS _ hm (h.lK k hk)), owns_fr h.n hf (fun k hk hm => hS _ hm (h.nK k hk)), h.lK, h.nK, h.bk, fun i hi => owns_fr (h.el i hi) hf (fun k hk hm => hS _ hm (h.elK _ (List.getElem_mem hi) k hk)), h.elK, h.sep, fun b hb => Nat.lt_of_lt_of_le (h.lt b hb) hf.size, h.sm⟩
/-- The size turned. -/
theorem BookIn.size {Bk : Nat} {K : List Nat} {es : List (Value × Nat)} {lv nv : Value} {sz sn : Int} {w w1 : World} (h : BookIn Bk K es lv nv sz w) (hf : Fr [Bk] w w1) (hb : w1.heap[Bk]? = some (.cells #[lv, nv, .int .i64 sn] tBk (0, 0))) : BookIn Bk K es lv nv sn w1 := by
  have key : ∀ {e : TypeId} {size n : Nat} {v : Value} {xs : List Value}, tBk ≠ e → w.ownsRow 0 e size v n xs → w1.ownsRow 0 e size v n xs := fun hne hv => owns_fr hv hf fun k hk hm => own_box hv h.box hne k hk (by simpa using hm)
  exact ⟨hb, key (by decide) h.l, key (by decide) h.n, h.lK, h.nK, h.bk, fun i hi => key (by decide) (h.el i hi), h.elK, h.sep, fun b hb => Nat.lt_of_lt_of_le (h.lt b hb) hf.size, h.sm⟩
theorem own_kept {Bk B B2 : Nat} {w w1 : World} {e e2 : TypeId} {size n size2 n2 : Nat} {v lv : Value} {xs xs2 : List Value} {cs : Array Value} (h : w.ownsRow B e size v n xs) (hb : w.heap[Bk]? = some (.cells cs tBk (0, 0))) (hl : w.ownsRow B2 e2 size2 lv n2 xs2) (h1 : tBk ≠ e) (h2 : e ≠ e2) (hf : Fr (Bk :: lv.ownBlock.toList) w w1) : w1.ownsRow B e size v n xs :=
  owns_fr h hf fun k hk hm => by
    rcases List.mem_cons.1 hm with rfl | hm
    · exact own_box h hb h1 _ hk rfl
    · exact own_not h hl h2 k hk hm
theorem sp_set : ∀ (l : List Sp) (k : Nat) (_ : k < l.length) (y : Sp), ((l.flatMap spC).set (k * 2) (.int .i64 y.1)).set (k * 2 + 1) (.int .i64 y.2) = (l.set k y).flatMap spC
  | [], k, hk, _ => by simp at hk
  | x :: l, 0, _, y => rfl
  | x :: l, k + 1, hk, y => by
    have ih := sp_set l k (by simpa using hk) y
    rw [show (k + 1) * 2 + 1 = k * 2 + 1 + 2 by omega, show (k + 1) * 2 = k * 2 + 2 by omega]
    show _ :: _ :: (((l.flatMap spC).set (k * 2) (.int .i64 y.1)).set (k * 2 + 1) (.int .i64 y.2)) = _ :: _ :: ((l.set k y).flatMap spC)
    rw [ih]
theorem neg_wrap (n : Nat) (h : n ≤ 4194304) : IntKind.i64.wrap (-((n : Int) + 1)) = -((n + 1 : Nat) : Int) := by
  rw [IntKind.wrap_i64]
  omega
theorem neg_wrap' (n : Nat) (h : n ≤ 4194304) : IntKind.i64.wrap (-((n : Int) + 1)) = -((n : Int) + 1) := by
  rw [IntKind.wrap_i64]
  omega
/-- The first k marked. -/
def markL (m : Sp) (ls : List Sp) (k : Nat) : List Sp := List.replicate k m ++ ls.drop k
theorem markL_len (m : Sp) (ls : List Sp) {k : Nat} (hk : k ≤ ls.length) : (markL m ls k).length = ls.length := by
  unfold markL
  rw [List.length_append, List.length_replicate, List.length_drop]
  omega
theorem markL_succ (m : Sp) (ls : List Sp) {k : Nat} (hk : k < ls.length) : markL m ls (k + 1) = (markL m ls k).set k m := by
  unfold markL
  rw [List.set_append_right _ _ (by simp), List.length_replicate, Nat.sub_self, List.drop_eq_getElem_cons hk, List.replicate_succ', List.append_assoc]
  rfl
theorem markL_all (m : Sp) (ls : List Sp) : markL m ls ls.length = List.replicate ls.length m := by
  unfold markL
  rw [List.drop_length, List.append_nil]
def TakePost (Bk : Nat) (K : List Nat) (es : List (Value × Nat)) (v : Value) (n : Nat) (w : World) (e : Ending) (w1 : World) : Prop :=
  e = .returned (.tuple #[]) ∧ Fr (K ++ v.ownBlock.toList) w w1 ∧ ∃ K' es' lv nv sz, BookIn Bk K' es' lv nv sz w1 ∧ (es' = es ∨ es' = es ++ [(v, n)]) ∧ ∀ b ∈ K', b ∈ K ∨ v.ownBlock = some b ∨ w.heap.size ≤ b
set_option maxRecDepth 100000 in
set_option maxHeartbeats 3200000 in
theorem takeRest (Bk : Nat) (K : List Nat) (es : List (Value × Nat)) (lv nv : Value) (sn : Int) (vq : Option Addr) (vc : Nat) (ls : List Sp) (w W2 : World) {s2 s3 s4 s5 s6 s7 s8 s9 s10 s11 s12 s13 s14 s15 s16 s17 s18 s19 s20 s21 s22 s23 s24 s25 s26 s27 s28 s29 s30 s31 s32 s33 s34 s35 s36 s37 s38 s39 s40 s41 s42 s43 s44 s45 s46 s47 s48 s49 s50 s51 s52 s53 s54 s55 s56 s57 s58 s59 s60 s61 : Value} (hB : BookIn Bk K es lv nv sn W2) (hv : W2.ownsRow 0 tSp 2 (.slice vq ls.length vc) ls.length (ls.flatMap spC)) (hK : ∀ g, (Value.slice vq ls.length vc).ownBlock = some g → g ∉ K) (hl : ls.length ≤ 4194304) (hes : es.length ≤ 4194304) (hF : Fr [Bk] w W2) :
    (subC [1] (Tryz.f18.body.getD .skip)).wp Tryz.prog (bodyPost Tryz.prog Tryz.f18 (TakePost Bk K es (.slice vq ls.length vc) ls.length w)) { tmps := #[.pointer (some ⟨Bk, 0, none⟩), .slice vq ls.length vc, s2, s3, s4, s5, s6, s7, s8, s9, s10, s11, s12, s13, s14, s15, s16, s17, s18, s19, s20, s21, s22, s23, s24, s25, s26, s27, s28, s29, s30, s31, s32, s33, s34, s35, s36, s37, s38, s39, s40, s41, s42, s43, s44, s45, s46, s47, s48, s49, s50, s51, s52, s53, s54, s55, s56, s57, s58, s59, s60, s61], defers := [] } W2 := by
  obtain ⟨lq, lc, rfl, hlc1, hlc2⟩ := (own_sl hB.l).form
  obtain ⟨nq, nc, rfl, hnc1, hnc2⟩ := (own_sl hB.n).form
  have hvf : ls.length ≤ vc ∧ vc ≤ 9223372036854775807 := by
    obtain ⟨_, _, e, h1, h2⟩ := (own_sl hv).form
    cases e
    exact ⟨h1, h2⟩
  obtain ⟨hvc1, hvc2⟩ := hvf
  have HB := Lib.hid hB
  have HV := Lib.hid hv
  have HK := Lib.hid hK
  have HF := Lib.hid hF
  have b0 := cell_of hB.box 0
  have b1 := cell_of hB.box 1
  have b2 := cell_of hB.box 2
  have f0 := free_of hB.box 0
  have f1 := free_of hB.box 1
  have f2 := free_of hB.box 2
  have hbl := lt_of hB.box
  clear hB hv hK hF
  show (Code.seq _ _).wp _ _ _ _
  dsimp only
  by_cases hbig : 33554432 < sn
  · go_wp2
    refine bodyPost_ret (results_none rfl _ _ _) rfl ?_
    refine ⟨rfl, HF.out.mono (fun x hx => .inl ?_), K, es, _, _, _, HB.out, .inl rfl, fun b hb => .inl hb⟩
    rw [List.mem_singleton] at hx
    rw [hx]
    exact List.mem_append_left _ HB.out.bk
  · obtain ⟨i2, hi2, hy0, hy1, hy2⟩ := info_parts infoTS'
    obtain ⟨i3, hi3, hz0, hz1, hz2⟩ := info_parts infoInt
    have hown2 := HB.out.l.alloc (.cells #[.slice vq ls.length vc] tS)
    have hGl : some Bk ≠ (Value.slice lq es.length lc).ownBlock := fun e => own_box HB.out.l HB.out.box (by decide) Bk e.symm rfl
    have HGN : Hid (some Bk ≠ (Value.slice nq es.length nc).ownBlock) := fun e => own_box HB.out.n HB.out.box (by decide) Bk e.symm rfl
    go_upto_region 3 with (at_builtin; refine wpList_append_lies _ rfl _ _ 32 rfl 0 tS i2 _ 1 24 Tryz.underlying32 hi2 hy0 hy1 hy2 rfl (by decide) (.slice lq es.length lc) _ _ rfl hown2 ⟨W2.heap.size, 0, none⟩ 1 1 [.slice vq ls.length vc] rfl rfl (by have := news_of W2 [.slice vq ls.length vc] tS; simpa using this) (one_mem rfl) (by omega) (by unfold maxLen; omega) (by omega) (Nat.zero_le _) (W2.heap.size + 1) (by simp) ?_; intro g3 c3 w3 hown3 hgrow3 hat3 hlt3; have hX3 := (hgrow3.block Bk (by simp; omega) hGl).trans (((Fr.refl [] W2).alloc (.cells #[.slice vq ls.length vc] tS)).heap HB.out.box (by simp)); have x0 := cell_of hX3 0; have y0 := free_of hX3 0; have hbl3 := lt_of hX3; clear b0 b1 b2 f0 f1 f2)
    have hfa : Fr [] W2 (W2.alloc (.cells #[.slice vq ls.length vc] tS)) := (Fr.refl [] W2).alloc _
    have HF3 : Fr (Bk :: (Value.slice lq es.length lc).ownBlock.toList) W2 (w3.setCell ⟨Bk, 0, none⟩ (.slice (some ⟨g3, 0, none⟩) (es.length + 1) c3)) :=
      (((Fr.refl (Bk :: (Value.slice lq es.length lc).ownBlock.toList) W2).alloc _).grown hgrow3 (fun k hk => .inl (List.mem_cons_of_mem _ (by rw [hk]; simp)))).setCell (.inl (by simp)) _
    have HX3 : (w3.setCell ⟨Bk, 0, none⟩ (.slice (some ⟨g3, 0, none⟩) (es.length + 1) c3)).heap[Bk]? = some (.cells #[.slice (some ⟨g3, 0, none⟩) (es.length + 1) c3, .slice nq es.length nc, .int .i64 sn] tBk (0, 0)) := by
      rw [set_of hX3]
      rfl
    have HL3 := owns_fr hown3 (fr_cell w3 Bk 0 (.slice (some ⟨g3, 0, none⟩) (es.length + 1) c3)) (fun k hk hm => own_box hown3 hX3 (by decide) k hk (by simpa using hm))
    clear hgrow3 hX3 x0 y0 hbl3 hown2 hown3 hGl hbl
    generalize w3.setCell ⟨Bk, 0, none⟩ (.slice (some ⟨g3, 0, none⟩) (es.length + 1) c3) = W3 at *
    have HN3 := own_kept HB.out.n HB.out.box HB.out.l (by decide) (by decide) HF3
    have HV3 := own_kept HV.out HB.out.box HB.out.l (by decide) (by decide) HF3
    have HE3 : Hid (∀ i (h : i < es.length), W3.ownsRow 0 tSp 2 es[i].1 es[i].2 ((bkS i es[i].2).flatMap spC)) := fun i h => own_kept (HB.out.el i h) HB.out.box HB.out.l (by decide) (by decide) HF3
    have HX3' := Lib.hid HX3
    have hbl3 := lt_of HX3
    have y1 := cell_of HX3 1
    have HNN := Lib.hid HN3
    have hn2 := HN3.alloc (.cells #[.int .i64 (ls.length : Int)] tI)
    go_upto_region 4 with (at_builtin; refine wpList_append_lies _ rfl _ _ 47 rfl 0 tI i3 _ 1 8 Tryz.underlying47 hi3 hz0 hz1 hz2 rfl (by decide) (.slice nq es.length nc) _ _ rfl hn2 ⟨W3.heap.size, 0, none⟩ 1 1 [.int .i64 (ls.length : Int)] rfl rfl (by have := news_of W3 [.int .i64 (ls.length : Int)] tI; simpa using this) (one_mem rfl) (by omega) (by unfold maxLen; omega) (by omega) (Nat.zero_le _) (W3.heap.size + 1) (by simp) ?_; intro g4 c4 w4 hown4 hgrow4 hat4 hlt4; have hX4 := (hgrow4.block Bk (by simp; omega) HGN.out).trans (((Fr.refl [] W3).alloc (.cells #[.int .i64 (ls.length : Int)] tI)).heap HX3'.out (by simp)); have z1 := cell_of hX4 1; have q1 := free_of hX4 1; have hbl4 := lt_of hX4; clear y1)
    have HF4 : Fr (Bk :: (Value.slice nq es.length nc).ownBlock.toList) W3 (w4.setCell ⟨Bk, 1, none⟩ (.slice (some ⟨g4, 0, none⟩) (es.length + 1) c4)) :=
      (((Fr.refl (Bk :: (Value.slice nq es.length nc).ownBlock.toList) W3).alloc _).grown hgrow4 (fun k hk => .inl (List.mem_cons_of_mem _ (by rw [hk]; simp)))).setCell (.inl (by simp)) _
    have HX4 : (w4.setCell ⟨Bk, 1, none⟩ (.slice (some ⟨g4, 0, none⟩) (es.length + 1) c4)).heap[Bk]? = some (.cells #[.slice (some ⟨g3, 0, none⟩) (es.length + 1) c3, .slice (some ⟨g4, 0, none⟩) (es.length + 1) c4, .int .i64 sn] tBk (0, 0)) := by
      rw [set_of hX4]
      rfl
    have HN4 := owns_fr hown4 (fr_cell w4 Bk 1 (.slice (some ⟨g4, 0, none⟩) (es.length + 1) c4)) (fun k hk hm => own_box hown4 hX4 (by decide) k hk (by simpa using hm))
    clear hgrow4 hX4 z1 q1 hbl4 hn2 hown4
    generalize w4.setCell ⟨Bk, 1, none⟩ (.slice (some ⟨g4, 0, none⟩) (es.length + 1) c4) = W4 at *
    have HL4 := own_kept HL3 HX3'.out HNN.out (by decide) (by decide) HF4
    have HV4 := own_kept HV3 HX3'.out HNN.out (by decide) (by decide) HF4
    have HE4 : Hid (∀ i (h : i < es.length), W4.ownsRow 0 tSp 2 es[i].1 es[i].2 ((bkS i es[i].2).flatMap spC)) := fun i h => own_kept (HE3.out i h) HX3'.out HNN.out (by decide) (by decide) HF4
    have HX4' := Lib.hid HX4
    have hV0 : W4.ownsRow 0 tSp 2 (.slice vq ls.length vc) ls.length ((markL (-((es.length + 1 : Nat) : Int), 0) ls 0).flatMap spC) := by
      unfold markL
      simpa using HV4
    have HV0 := Lib.hid hV0
    have HVV := Lib.hid HV4
    have HBL : Hid (∀ wr : World, Fr (Value.slice vq ls.length vc).ownBlock.toList W4 wr → wr.heap[Bk]? = some (.cells #[.slice (some ⟨g3, 0, none⟩) (es.length + 1) c3, .slice (some ⟨g4, 0, none⟩) (es.length + 1) c4, .int .i64 sn] tBk (0, 0))) := fun wr hf => hf.heap HX4'.out fun hm => own_box HVV.out HX4'.out (by decide) Bk (by simpa using hm) rfl
    have hneg : IntKind.i64.wrap (-((es.length : Int) + 1)) = -((es.length : Int) + 1) := neg_wrap' es.length hes
    have HLL := Lib.hid hl
    clear HV4 hV0 hl hes hbig
    go_wp2_with fail
    go_loopw [4] (fun i wr => ∃ k : Nat, i = .int .i64 (k : Int) ∧ k ≤ ls.length ∧ wr.ownsRow 0 tSp 2 (.slice vq ls.length vc) ls.length ((markL (-((es.length + 1 : Nat) : Int), 0) ls k).flatMap spC) ∧ Fr (Value.slice vq ls.length vc).ownBlock.toList W4 wr) (fun i _ => ls.length - (intOf i).toNat)
    case atStart => exact ⟨0, rfl, by omega, HV0.out, Fr.refl _ _⟩
    case round =>
      obtain ⟨k, rfl, hk, hrow, hf⟩ := hrel
      have hbx := HBL.out _ hf
      have HRW := Lib.hid hrow
      have HFF := Lib.hid hf
      have r0 := cell_of hbx 0
      have hbr := lt_of hbx
      by_cases hlt : k < ls.length
      · have hk1 : (k : Int) < (ls.length : Int) := by omega
        obtain ⟨g, c, e, _, hgl⟩ := hrow.form (by omega)
        cases e
        have hfl : ((markL (-((es.length + 1 : Nat) : Int), 0) ls k).flatMap spC).length = ls.length * 2 := by rw [flat_len spC 2 (fun _ => rfl), markL_len _ _ hk]
        obtain ⟨y0, hy0'⟩ : ∃ y, wr.cell? ⟨g, k * 2, none⟩ = some y := ⟨_, (hrow.cellAt (k * 2) (by omega)).trans (List.getElem?_eq_getElem (by omega))⟩
        obtain ⟨y1, hy1'⟩ : ∃ y, wr.cell? ⟨g, k * 2 + 1, none⟩ = some y := ⟨_, (hrow.cellAt (k * 2 + 1) (by omega)).trans (List.getElem?_eq_getElem (by omega))⟩
        have hq0 := hrow.frozenAt (k * 2)
        have hq1 := hrow.frozenAt (k * 2 + 1)
        obtain ⟨s1, _⟩ := hrow.stored (k * 2) (.int .i64 (-((es.length + 1 : Nat) : Int)))
        obtain ⟨s2', _⟩ := s1.stored (k * 2 + 1) (.int .i64 0)
        have hset := sp_set (markL (-((es.length + 1 : Nat) : Int), 0) ls k) k (by rw [markL_len _ _ hk]; exact hlt) (-((es.length + 1 : Nat) : Int), 0)
        rw [← markL_succ _ _ hlt] at hset
        rw [hset] at s2'
        have HS2 := Lib.hid s2'
        have HF2' : Hid (Fr (Value.slice (some ⟨g, 0, none⟩) ls.length vc).ownBlock.toList W4 ((wr.setCell ⟨g, k * 2, none⟩ (.int .i64 (-((es.length + 1 : Nat) : Int)))).setCell ⟨g, k * 2 + 1, none⟩ (.int .i64 0))) := (hf.setCell (.inl (by simp [Value.ownBlock])) _).setCell (.inl (by simp [Value.ownBlock])) _
        clear hrow hf s1 s2' hset hbx hfl
        go_wp2
        go_roundw
        case rel => exact ⟨k + 1, by go_num, by omega, HS2.out, HF2'.out⟩
        case measure => simp [intOf]; omega
      · obtain rfl : k = ls.length := by omega
        have HR2 : Hid (wr.ownsRow 0 tSp 2 (.slice vq ls.length vc) ls.length ((bkS es.length ls.length).flatMap spC)) := by
          have h := HRW.out
          rw [markL_all] at h
          exact h
        have hbx2 := Lib.hid hbx
        clear hrow hf hbx r0 HRW
        go_wp2
        go_end0
        have hf := HFF.out
        have hB := HB.out
        have hsz2 := HF.out.size
        have hsz3 := HF3.size
        have hsz4 := HF4.size
        have hLr := owns_fr HL4 hf (own_not HL4 HVV.out (by decide))
        have hNr := owns_fr HN4 hf (own_not HN4 HVV.out (by decide))
        have hEr : ∀ i (h : i < es.length), wr.ownsRow 0 tSp 2 es[i].1 es[i].2 ((bkS i es[i].2).flatMap spC) := fun i h => owns_fr (HE4.out i h) hf fun k hk hm => HK.out k (by simpa using hm) (hB.elK _ (List.getElem_mem h) k hk)
        have hg3 := (hLr.lt g3 rfl).2
        have hg4 := (hNr.lt g4 rfl).2
        refine ⟨rfl, ?_, K ++ ([g3, g4] ++ (Value.slice vq ls.length vc).ownBlock.toList), es ++ [(.slice vq ls.length vc, ls.length)], _, _, sn, ⟨hbx2.out, ?_, ?_, ?_, ?_, ?_, ?_, ?_, ?_, ?_, ?_⟩, .inr rfl, ?_⟩
        · refine (((HF.out.mono (T := K ++ (Value.slice vq ls.length vc).ownBlock.toList) ?_).trans HF3 ?_).trans HF4 ?_).trans hf ?_
          · intro x hx
            rw [List.mem_singleton] at hx
            rw [hx]
            exact .inl (List.mem_append_left _ hB.bk)
          · intro x hx
            rcases List.mem_cons.1 hx with rfl | hx
            · exact .inl (List.mem_append_left _ hB.bk)
            · exact .inl (List.mem_append_left _ (hB.lK x (by simpa using hx)))
          · intro x hx
            rcases List.mem_cons.1 hx with rfl | hx
            · exact .inl (List.mem_append_left _ hB.bk)
            · exact .inl (List.mem_append_left _ (hB.nK x (by simpa using hx)))
          · intro x hx
            exact .inl (List.mem_append_right _ hx)
        · simpa using hLr
        · simpa using hNr
        · intro g hg
          cases hg
          simp
        · intro g hg
          cases hg
          simp
        · exact List.mem_append_left _ hB.bk
        · intro i hi
          by_cases h1 : i < es.length
          · rw [List.getElem_append_left h1]
            exact hEr i h1
          · have hi2 : i < es.length + 1 := by simpa using hi
            have e1 : i = es.length := Nat.le_antisymm (Nat.le_of_lt_succ hi2) (Nat.le_of_not_lt h1)
            subst e1
            rw [List.getElem_concat_length rfl]
            exact HR2.out
        · intro e he g hg
          rcases List.mem_append.1 he with he | he
          · exact List.mem_append_left _ (hB.elK e he g hg)
          · rw [List.mem_singleton] at he
            rw [he] at hg
            refine List.mem_append_right _ (List.mem_append_right _ ?_)
            rw [hg]
            simp
        · refine List.pairwise_append.2 ⟨hB.sep, by simp, fun a ha b hb g hg hg2 => ?_⟩
          rw [List.mem_singleton] at hb
          rw [hb] at hg2
          exact HK.out g hg2 (hB.elK a ha g hg)
        · intro b hb
          rcases List.mem_append.1 hb with hb | hb
          · have := hB.lt b hb
            have := hf.size
            omega
          · rcases List.mem_append.1 hb with hb | hb
            · simp at hb
              rcases hb with rfl | rfl
              · exact hg3
              · exact hg4
            · exact (HR2.out.lt b (by simpa using hb)).2
        · intro e he
          rcases List.mem_append.1 he with he | he
          · exact hB.sm e he
          · rw [List.mem_singleton] at he
            rw [he]
            exact HLL.out
        · intro b hb
          rcases List.mem_append.1 hb with hb | hb
          · exact .inl hb
          · rcases List.mem_append.1 hb with hb | hb
            · simp at hb
              rcases hb with rfl | rfl
              · rcases hat3 with h | h
                · exact .inl (hB.lK _ h)
                · exact .inr (.inr (by omega))
              · rcases hat4 with h | h
                · exact .inl (hB.nK _ h)
                · exact .inr (.inr (by omega))
            · exact .inr (.inl (by simpa using hb))
set_option maxRecDepth 100000 in
set_option maxHeartbeats 3200000 in
theorem takeC (Bk : Nat) (K : List Nat) (es : List (Value × Nat)) (lv nv v : Value) (sz : Int) (ls : List Sp) (w : World) (hB : BookIn Bk K es lv nv sz w) (hv : w.ownsRow 0 tSp 2 v ls.length (ls.flatMap spC)) (hK : ∀ g, v.ownBlock = some g → g ∉ K) (hl : ls.length ≤ 4194304) (hes : es.length ≤ 4194304) :
    Calls Tryz.prog 18 #[.pointer (some ⟨Bk, 0, none⟩), v] w (TakePost Bk K es v ls.length w) := by
  have hb := hB.box
  obtain ⟨vq, vc, rfl, hc1, hc2⟩ := (own_sl hv).form
  obtain ⟨lq, lc, rfl, hlc1, hlc2⟩ := (own_sl hB.l).form
  obtain ⟨nq, nc, rfl, hnc1, hnc2⟩ := (own_sl hB.n).form
  have HB := Lib.hid hB
  have HV := Lib.hid hv
  have HK := Lib.hid hK
  have HBX := Lib.hid hb
  have b0 := cell_of hb 0
  have b1 := cell_of hb 1
  have b2 := cell_of hb 2
  have f0 := free_of hb 0
  have f1 := free_of hb 1
  have f2 := free_of hb 2
  have hbl := lt_of hb
  clear hB hv hK hb
  go_enter Tryz.func18, Tryz.ntmps18
  go_wp2_with fail
  go_region_with (go_at_call 38; refine (roomC ls.length vc _ hl).mono ?_; rintro e wA ⟨rfl, hA⟩; have b2' := ce_call hA (ce_drew b2); have f2' := (hA.frozen (p := ⟨Bk, 2, none⟩) hbl (by simp)).trans f2; have hbl' := Nat.lt_of_lt_of_le hbl hA.size)
  all_goals
    have HF2 : Fr [Bk] w (wA.setCell ⟨Bk, 2, none⟩ (.int .i64 (IntKind.i64.wrap (sz + IntKind.i64.wrap (20 * IntKind.i64.wrap (10 + (roomN ls.length vc : Int))))))) := ((((Fr.refl [Bk] w).drew).trans0 hA).setCell (.inl (by simp)) _)
    have HX2 : (wA.setCell ⟨Bk, 2, none⟩ (.int .i64 (IntKind.i64.wrap (sz + IntKind.i64.wrap (20 * IntKind.i64.wrap (10 + (roomN ls.length vc : Int))))))).heap[Bk]? = some (.cells #[.slice lq es.length lc, .slice nq es.length nc, .int .i64 (IntKind.i64.wrap (sz + IntKind.i64.wrap (20 * IntKind.i64.wrap (10 + (roomN ls.length vc : Int)))))] tBk (0, 0)) := by
      rw [set_of (hA.heap (hp_drew HBX.out) (by simp))]
      rfl
    generalize IntKind.i64.wrap (sz + IntKind.i64.wrap (20 * IntKind.i64.wrap (10 + (roomN ls.length vc : Int)))) = sn at *
    have hB2 := HB.out.size HF2 HX2
    have hne : ∀ k, (Value.slice vq ls.length vc).ownBlock = some k → k ∉ [Bk] := fun k hk hm => own_box HV.out HBX.out (by decide) k hk (by simpa using hm)
    have hv2 := owns_fr HV.out HF2 hne
    simp only [Exit.then]
    go_step
    exact takeRest Bk K es _ _ sn vq vc ls w _ hB2 hv2 HK.out hl hes HF2
end
section
open Go.RowKit Go.Shelf Go.Sort Go.Proofs

/-- What a list holds that was grown: marks, then others. -/
abbrev bkX (i n m : Nat) : List Sp := List.replicate n (-((i + 1 : Nat) : Int), 0) ++ List.replicate m (-((i + 1 : Nat) : Int), 1)
/-- A list of a book: its value, how many marks, how many behind. -/
structure Bx where
  v : Value
  n : Nat
  m : Nat
structure BookX (Bk : Nat) (K : List Nat) (N : Nat) (fs : List Bx) (lv nv : Value) (sz : Int) (w : World) : Prop where
  box : w.heap[Bk]? = some (.cells #[lv, nv, .int .i64 sz] tBk (0, 0))
  l : w.ownsRow 0 tS 1 lv fs.length (fs.map (·.v))
  n : w.ownsRow 0 tI 1 nv fs.length (fs.map fun e => .int .i64 (e.n : Int))
  lK : ∀ g, lv.ownBlock = some g → g ∈ K
  el : ∀ i (h : i < fs.length), w.ownsRow 0 tSp 2 fs[i].v (fs[i].n + fs[i].m) ((bkX i fs[i].n fs[i].m).flatMap spC)
  elK : ∀ i (h : i < fs.length), ∀ g, fs[i].v.ownBlock = some g → g ∈ K ∨ N ≤ g
  sep : ∀ i j (hi : i < fs.length) (hj : j < fs.length), i ≠ j → ∀ g, fs[i].v.ownBlock = some g → fs[j].v.ownBlock ≠ some g
  sm : ∀ i (h : i < fs.length), fs[i].n ≤ 4194304 ∧ fs[i].m ≤ 70000
theorem BookIn.toX {Bk : Nat} {K : List Nat} {es : List (Value × Nat)} {lv nv : Value} {sz : Int} {w : World} (h : BookIn Bk K es lv nv sz w) (N : Nat) : BookX Bk K N (es.map fun e => ⟨e.1, e.2, 0⟩) lv nv sz w := by
  refine ⟨h.box, by rw [List.map_map, List.length_map]; exact h.l, by rw [List.map_map, List.length_map]; exact h.n, h.lK, fun i hi => ?_, fun i hi g hg => ?_, fun i j hi hj hij g h1 h2 => ?_, fun i hi => ?_⟩
  · have hi' : i < es.length := by simpa using hi
    have := h.el i hi'
    simp only [List.getElem_map]
    rw [show bkX i es[i].2 0 = bkS i es[i].2 from List.append_nil _]
    exact this
  · simp only [List.getElem_map] at hg
    exact .inl (h.elK _ (List.getElem_mem _) g hg)
  · simp only [List.getElem_map] at h1 h2
    have hi' : i < es.length := by simpa using hi
    have hj' : j < es.length := by simpa using hj
    rcases Nat.lt_or_gt_of_ne hij with hl | hl
    · exact List.pairwise_iff_getElem.1 h.sep i j hi' hj' hl g h1 h2
    · exact List.pairwise_iff_getElem.1 h.sep j i hj' hi' hl g h2 h1
  · simp only [List.getElem_map]
    exact ⟨h.sm _ (List.getElem_mem _), by omega⟩
theorem BookX.fr0 {Bk : Nat} {K : List Nat} {N : Nat} {fs : List Bx} {lv nv : Value} {sz : Int} {w w1 : World} (h : BookX Bk K N fs lv nv sz w) (hf : Fr [] w w1) : BookX Bk K N fs lv nv sz w1 :=
  ⟨hf.heap h.box (by simp), owns_fr h.l hf (by simp), owns_fr h.n hf (by simp), h.lK, fun i hi => owns_fr (h.el i hi) hf (by simp), h.elK, h.sep, h.sm⟩
theorem bkX_succ (i n m : Nat) : bkX i n (m + 1) = bkX i n m ++ [(-((i + 1 : Nat) : Int), 1)] := by
  unfold bkX
  rw [List.replicate_succ', List.append_assoc]
theorem map_set_same {α β : Type} (f : α → β) : ∀ (l : List α) (i : Nat) (h : i < l.length) (x : α), f x = f l[i] → (l.set i x).map f = l.map f
  | [], i, h, _, _ => by simp at h
  | a :: l, 0, _, x, e => by simpa using e
  | a :: l, i + 1, h, x, e => by
    have := map_set_same f l i (by simpa using h) x (by simpa using e)
    simp [this]
/-- One list longer by one. -/
theorem BookX.grow {Bk : Nat} {K : List Nat} {N : Nat} {fs : List Bx} {lb lc : Nat} {nv : Value} {sz : Int} {w wa w9 : World} {i : Nat} {v : Value} {n m g cap H : Nat} (h : BookX Bk K N fs (.slice (some ⟨lb, 0, none⟩) fs.length lc) nv sz w) (hi : i < fs.length) (hfi : fs[i] = ⟨v, n, m⟩) (hm : m + 1 ≤ 70000)
    (hfa : Fr [] w wa) (ho : w9.ownsRow 0 tSp 2 (.slice (some ⟨g, 0, none⟩) (n + m + 1) cap) (n + m + 1) ((bkX i n m).flatMap spC ++ spC (-((i + 1 : Nat) : Int), 1))) (hg : wa.grownBy w9 v.ownBlock) (hat : v.ownBlock = some g ∨ g = H) (hH : w.heap.size ≤ H) (hN : N ≤ w.heap.size) :
    BookX Bk K N (fs.set i ⟨.slice (some ⟨g, 0, none⟩) (n + m + 1) cap, n, m + 1⟩) (.slice (some ⟨lb, 0, none⟩) fs.length lc) nv sz (w9.setCell ⟨lb, i, none⟩ (.slice (some ⟨g, 0, none⟩) (n + m + 1) cap)) ∧ Fr (lb :: v.ownBlock.toList) w (w9.setCell ⟨lb, i, none⟩ (.slice (some ⟨g, 0, none⟩) (n + m + 1) cap)) := by
  have hv : w.ownsRow 0 tSp 2 v (n + m) ((bkX i n m).flatMap spC) := by
    have := h.el i hi
    rw [hfi] at this
    exact this
  have hF1 : Fr v.ownBlock.toList w w9 := (hfa.mono (by simp)).transS (fr_grown hg)
  have hS : Fr [lb] w9 (w9.setCell ⟨lb, i, none⟩ (.slice (some ⟨g, 0, none⟩) (n + m + 1) cap)) := fr_cell _ _ _ _
  have hl1 := owns_fr h.l hF1 (own_not h.l hv (by decide))
  have hbx1 := hF1.heap h.box (fun hm => own_box hv h.box (by decide) Bk (by simpa using hm) rfl)
  have key : ∀ {e : TypeId} {size k : Nat} {u : Value} {xs : List Value}, e ≠ tS → w9.ownsRow 0 e size u k xs → (w9.setCell ⟨lb, i, none⟩ (.slice (some ⟨g, 0, none⟩) (n + m + 1) cap)).ownsRow 0 e size u k xs := fun hne hu => owns_fr hu hS (own_not hu hl1 hne)
  have hgne : ∀ j (hj : j < fs.length), i ≠ j → fs[j].v.ownBlock ≠ some g := fun j hj hij hjg => by
    rcases hat with h1 | h1
    · exact h.sep i j hi hj hij g (by rw [hfi]; exact h1) hjg
    · have := ((h.el j hj).lt g hjg).2
      omega
  refine ⟨⟨hS.heap hbx1 (fun hx => own_box hl1 hbx1 (by decide) Bk (by simpa [Value.ownBlock] using (List.mem_singleton.1 hx).symm) rfl), ?_, ?_, h.lK, ?_, ?_, ?_, ?_⟩, ?_⟩
  · rw [List.length_set, List.map_set]
    exact (hl1.stored i _).1
  · rw [List.length_set, map_set_same _ _ _ hi _ (by rw [hfi])]
    exact key (by decide) (owns_fr h.n hF1 (own_not h.n hv (by decide)))
  · intro j hj
    rw [List.length_set] at hj
    by_cases hij : i = j
    · subst hij
      rw [List.getElem_set_self]
      have := key (by decide) ho
      show World.ownsRow _ _ _ _ _ _ _
      rw [bkX_succ, List.flatMap_append]
      simpa [Nat.add_assoc] using this
    · rw [List.getElem_set_ne hij]
      exact key (by decide) (owns_fr (h.el j hj) hF1 (fun k hk hm => h.sep i j hi hj hij k (by rw [hfi]; simpa using hm) hk))
  · intro j hj g' hg'
    rw [List.length_set] at hj
    by_cases hij : i = j
    · subst hij
      rw [List.getElem_set_self] at hg'
      cases hg'
      rcases hat with h1 | h1
      · exact h.elK i hi g (by rw [hfi]; exact h1)
      · exact .inr (show N ≤ g by omega)
    · rw [List.getElem_set_ne hij] at hg'
      exact h.elK j hj g' hg'
  · intro j k hj hk hjk g' h1 h2
    rw [List.length_set] at hj hk
    by_cases hij : i = j
    · subst hij
      rw [List.getElem_set_self] at h1
      rw [List.getElem_set_ne hjk] at h2
      cases h1
      exact hgne k hk hjk h2
    · rw [List.getElem_set_ne hij] at h1
      by_cases hik : i = k
      · subst hik
        rw [List.getElem_set_self] at h2
        cases h2
        exact hgne j hj hij h1
      · rw [List.getElem_set_ne hik] at h2
        exact h.sep j k hj hk hjk g' h1 h2
  · intro j hj
    rw [List.length_set] at hj
    by_cases hij : i = j
    · subst hij
      rw [List.getElem_set_self]
      have := h.sm i hi
      rw [hfi] at this
      exact ⟨this.1, hm⟩
    · rw [List.getElem_set_ne hij]
      exact h.sm j hj
  · exact (hF1.mono (fun x hx => .inl (List.mem_cons_of_mem _ hx))).trans hS (fun x hx => by
      rw [List.mem_singleton] at hx
      rw [hx]
      exact .inl List.mem_cons_self)
theorem bkX_len (i n m : Nat) : (bkX i n m).length = n + m := by simp [bkX]
theorem bkX_lo {i n m k : Nat} (h : k < (bkX i n m).length) (hk : k < n) : (bkX i n m)[k] = (-((i + 1 : Nat) : Int), 0) := by
  simp only [bkX]
  rw [List.getElem_append_left (by simpa using hk)]
  simp
theorem bkX_hi {i n m k : Nat} (h : k < (bkX i n m).length) (hk : ¬ k < n) : (bkX i n m)[k] = (-((i + 1 : Nat) : Int), 1) := by
  simp only [bkX]
  rw [List.getElem_append_right (by simpa using Nat.le_of_not_lt hk)]
  simp
end
section
open Go.RowKit Go.Shelf Go.Sort Go.Proofs

def WholePost (K : List Nat) (w : World) (e : Ending) (w1 : World) : Prop := e = .returned (.bool true) ∧ Fr K w w1
/-- The first k lists are grown. -/
structure WI (Bk : Nat) (K : List Nat) (L : Nat) (lv nv : Value) (sz : Int) (w : World) (k : Nat) (fs : List Bx) (wr : World) : Prop where
  len : fs.length = L
  b : BookX Bk K w.heap.size fs lv nv sz wr
  z : ∀ j (h : j < fs.length), k ≤ j → fs[j].m = 0
  f : Fr K w wr
/-- While list k is grown. -/
structure WJ (Bk : Nat) (K : List Nat) (L : Nat) (lv nv : Value) (sz : Int) (w : World) (k n : Nat) (fs : List Bx) (q : Option Addr) (c m : Nat) (wr : World) : Prop where
  i : WI Bk K L lv nv sz w (k + 1) fs wr
  at' : ∃ h : k < fs.length, fs[k] = ⟨.slice q (n + m) c, n, m⟩
/-- The length that lies in a cell. -/
def lenAt (w : World) (a : Addr) : Nat := match w.cell? a with
  | some (.slice _ n _) => n
  | _ => 0
theorem lenAt_of {w : World} {a : Addr} {q : Option Addr} {n c : Nat} (h : w.cell? a = some (.slice q n c)) : lenAt w a = n := by
  unfold lenAt
  rw [h]
theorem WI.fr0 {Bk : Nat} {K : List Nat} {L : Nat} {lv nv : Value} {sz : Int} {w : World} {k : Nat} {fs : List Bx} {wr w1 : World} (h : WI Bk K L lv nv sz w k fs wr) (hf : Fr [] wr w1) : WI Bk K L lv nv sz w k fs w1 := ⟨h.len, h.b.fr0 hf, h.z, h.f.trans0 hf⟩
theorem WI.begin {Bk : Nat} {K : List Nat} {L : Nat} {lv nv : Value} {sz : Int} {w : World} {k : Nat} {fs : List Bx} {wr : World} (h : WI Bk K L lv nv sz w k fs wr) (hk : k < fs.length) {q : Option Addr} {n c : Nat} (hx : fs[k] = ⟨.slice q n c, n, 0⟩) : WJ Bk K L lv nv sz w k n fs q c 0 wr :=
  ⟨⟨h.len, h.b, fun j hj hkj => h.z j hj (by omega), h.f⟩, hk, hx⟩
theorem WJ.put {Bk : Nat} {K : List Nat} {L lb lc : Nat} {nv : Value} {sz : Int} {w : World} {k n : Nat} {fs : List Bx} {q : Option Addr} {c m t : Nat} {wr wa w9 : World} (h : WJ Bk K L (.slice (some ⟨lb, 0, none⟩) L lc) nv sz w k n fs q c m wr) (ht : n + m = t) (hm : m + 1 ≤ 70000) {g cap H : Nat}
    (hfa : Fr [] wr wa) (ho : w9.ownsRow 0 tSp 2 (.slice (some ⟨g, 0, none⟩) (t + 1) cap) (t + 1) ((bkX k n m).flatMap spC ++ spC (-((k + 1 : Nat) : Int), 1))) (hg : wa.grownBy w9 (Value.slice q t c).ownBlock) (hat : (Value.slice q t c).ownBlock = some g ∨ g = H) (hH : wr.heap.size ≤ H) (hlb : lb ∈ K) :
    WJ Bk K L (.slice (some ⟨lb, 0, none⟩) L lc) nv sz w k n (fs.set k ⟨.slice (some ⟨g, 0, none⟩) (t + 1) cap, n, m + 1⟩) (some ⟨g, 0, none⟩) cap (m + 1) (w9.setCell ⟨lb, k, none⟩ (.slice (some ⟨g, 0, none⟩) (t + 1) cap)) := by
  subst ht
  obtain ⟨hk, hx⟩ := h.at'
  have hB := h.i.b
  have hL := h.i.len
  subst hL
  obtain ⟨h1, h2⟩ := hB.grow hk hx hm hfa ho hg hat hH h.i.f.size
  refine ⟨⟨by simp, h1, fun j hj hkj => ?_, h.i.f.trans h2 fun x hx' => ?_⟩, by simpa using hk, by simp [Nat.add_assoc]⟩
  · rw [List.length_set] at hj
    rw [List.getElem_set_ne (by omega)]
    exact h.i.z j hj hkj
  · rcases List.mem_cons.1 hx' with rfl | hx'
    · exact .inl hlb
    · exact hB.elK k hk x (by rw [hx]; simpa using hx')
theorem WJ.lenAt {Bk : Nat} {K : List Nat} {L lb lc : Nat} {nv : Value} {sz : Int} {w : World} {k n : Nat} {fs : List Bx} {q : Option Addr} {c m : Nat} {wr : World} (h : WJ Bk K L (.slice (some ⟨lb, 0, none⟩) L lc) nv sz w k n fs q c m wr) : lenAt wr ⟨lb, k, none⟩ = n + m := by
  obtain ⟨hk, hx⟩ := h.at'
  have hl := h.i.b.l
  rw [h.i.len] at hl
  refine lenAt_of (q := q) (c := c) ?_
  rw [hl.cellAt k (by have := h.i.len; omega)]
  simp [hk, hx]
theorem sub_wrap (k : Nat) (h : k ≤ 4194304) : IntKind.i64.wrap (-1 - (k : Int)) = -((k + 1 : Nat) : Int) := by
  rw [IntKind.wrap_i64]
  omega
set_option maxRecDepth 100000 in
set_option maxHeartbeats 3200000 in
theorem wholeC (Bk : Nat) (K : List Nat) (es : List (Value × Nat)) (lv nv : Value) (sz : Int) (w : World) (hB : BookIn Bk K es lv nv sz w) (hes : es.length ≤ 4194304) :
    Calls Tryz.prog 19 #[.pointer (some ⟨Bk, 0, none⟩)] w (WholePost K w) := by
  obtain ⟨lq, lc, rfl, hlc1, hlc2⟩ := (own_sl hB.l).form
  obtain ⟨nq, nc, rfl, hnc1, hnc2⟩ := (own_sl hB.n).form
  have HI0 : Hid (WI Bk K es.length (.slice lq es.length lc) (.slice nq es.length nc) sz w 0 (es.map fun e => ⟨e.1, e.2, 0⟩) w) := ⟨by simp, hB.toX _, fun j h _ => by simp, Fr.refl _ _⟩
  clear hB
  generalize es.length = L at *
  obtain ⟨i0, hi0, hz0, hz1, hz2⟩ := info_parts infoSpot
  go_enter Tryz.func19, Tryz.ntmps19
  go_wp2_with fail
  go_loopw [3] (fun i wr => ∃ (k : Nat) (fs : List Bx), i = .int .i64 (k : Int) ∧ k ≤ L ∧ WI Bk K L (.slice lq L lc) (.slice nq L nc) sz w k fs wr) (fun i _ => L - (intOf i).toNat)
  case atStart => exact ⟨0, _, rfl, by omega, HI0.out⟩
  case round =>
    obtain ⟨k, fs, rfl, hk, hI⟩ := hrel
    have HI := Lib.hid hI
    have hbx := hI.b.box
    have hbl := lt_of hbx
    have b0 := cell_of hbx 0
    have hfl := hI.len
    have HFL := Lib.hid hfl
    by_cases hlt : k < L
    · have hkf : k < fs.length := by rw [hfl]; exact hlt
      have hk1 : (k : Int) < (L : Int) := by omega
      have hl' := hI.b.l
      rw [hfl] at hl'
      obtain ⟨lb, _, e, _, hlbl⟩ := hl'.form (by omega)
      cases e
      have HLK : Hid (lb ∈ K) := hI.b.lK lb rfl
      obtain ⟨x, hx⟩ : ∃ x, fs[k] = x := ⟨_, rfl⟩
      obtain ⟨v, n, m⟩ := x
      obtain rfl : m = 0 := by
        have := hI.z k hkf (Nat.le_refl _)
        rw [hx] at this
        exact this
      have hv : wr.ownsRow 0 tSp 2 v (n + 0) ((bkX k n 0).flatMap spC) := by
        have := hI.b.el k hkf
        rw [hx] at this
        exact this
      have hn : n ≤ 4194304 := by
        have := (hI.b.sm k hkf).1
        rw [hx] at this
        exact this
      obtain ⟨vq, vc, e, hv1, hv2⟩ := (own_sl hv).form
      simp only [Nat.add_zero] at e hv1
      subst e
      have e0 : wr.cell? ⟨lb, k, none⟩ = some (.slice vq n vc) := by
        rw [hl'.cellAt k (by omega)]
        simp [hkf, hx]
      have HJ0 := Lib.hid (hI.begin hkf hx)
      clear hI hl' hx hv hbx hfl
      go_wp2_with fail
      go_region_held3 (fun u => u.cell? ⟨Bk, 0, none⟩ = some (.slice (some ⟨lb, 0, none⟩) L lc) ∧ u.cell? ⟨lb, k, none⟩ = some (.slice vq n vc))
        (first | exact ⟨ce_drew b0, ce_drew e0⟩ | exact ⟨ce_call hA (ce_drew b0), ce_call hA (ce_drew e0)⟩)
        ((go_at_call 38; refine (roomC n vc _ hn).mono ?_; rintro e wA ⟨rfl, hA⟩))
      have hA2 : Fr [] wr wA := ((Fr.refl [] wr).drew).transS hA
      have HJ1 : Hid (WJ Bk K L (.slice (some ⟨lb, 0, none⟩) L lc) (.slice nq L nc) sz w k n fs vq vc 0 wA) := ⟨HJ0.out.i.fr0 hA2, HJ0.out.at'⟩
      obtain ⟨hR1, _, hR2⟩ := roomN_le hv1
      clear b0 e0 hA hA2
      generalize roomN n vc = R at *
      go_wp2_with fail
      go_loopw [43] (fun _ wx => ∃ (fs : List Bx) (q : Option Addr) (c m : Nat), n + m ≤ R ∧ WJ Bk K L (.slice (some ⟨lb, 0, none⟩) L lc) (.slice nq L nc) sz w k n fs q c m wx) (fun _ wx => R - lenAt wx ⟨lb, k, none⟩)
      case atStart => exact ⟨fs, vq, vc, 0, by omega, HJ1.out⟩
      case round =>
        obtain ⟨fs2, q, c, m, hmR, hJ⟩ := hrel
        have HJ := Lib.hid hJ
        obtain ⟨hk2, hx2⟩ := hJ.at'
        have hl2 := hJ.i.b.l
        rw [hJ.i.len] at hl2
        have e0 : wr.cell? ⟨lb, k, none⟩ = some (.slice q (n + m) c) := by
          rw [hl2.cellAt k (by omega)]
          simp [hk2, hx2]
        have hlbl2 := (hl2.lt lb rfl).2
        have f0 := hl2.frozenAt k
        have hbx2 := hJ.i.b.box
        have b0 := cell_of hbx2 0
        have hbl2 := lt_of hbx2
        have hv2' : wr.ownsRow 0 tSp 2 (.slice q (n + m) c) (n + m) ((bkX k n m).flatMap spC) := by
          have := hJ.i.b.el k hk2
          rw [hx2] at this
          exact this
        have HLEN : Hid (lenAt wr ⟨lb, k, none⟩ = n + m) := lenAt_of e0
        obtain ⟨t, ht⟩ : ∃ t, n + m = t := ⟨_, rfl⟩
        rw [ht] at e0 hv2' HLEN hmR
        have HT := Lib.hid ht
        by_cases hlr : t < R
        · have hlr1 : (t : Int) < (R : Int) := by omega
          have hm1 : m + 1 ≤ 70000 := by omega
          have hfd : Fr [] wr ((wr.alloc (.cells #[.int .i64 (-((k + 1 : Nat) : Int)), .int .i64 1] tSp)).drew) := ((Fr.refl [] wr).alloc _).drew
          have hown2 := Lib.hid (owns_fr hv2' hfd (by simp))
          have hGo : some Bk ≠ (Value.slice q t c).ownBlock := fun e => own_box hv2' hbx2 (by decide) _ e.symm rfl
          have hGl : some lb ≠ (Value.slice q t c).ownBlock := fun e => own_not hv2' hl2 (by decide) lb e.symm (by simp [Value.ownBlock])
          have HXD := Lib.hid (hfd.heap hbx2 (by simp))
          have HLD := Lib.hid (owns_fr hl2 hfd (by simp))
          have hwr := sub_wrap k (by omega)
          have HFD := Lib.hid hfd
          clear hl2 hbx2 hv2' hx2 hJ ht hfd
          go_upto_region 6 with fail
          go_region_law (first | (refine step_append_lies _ (by rfl) _ _ _ (by rfl) 0 tSp i0 _ 2 16 Tryz.underlying28 hi0 hz0 hz1 hz2 rfl (by omega) (.slice q t c) t ((bkX k n m).flatMap spC) (by rfl) hown2.out ⟨wr.heap.size, 0, none⟩ 1 1 (spC (-((k + 1 : Nat) : Int), 1)) (by rfl) (by rfl) (World.news_of_block (cs := (spC (-((k + 1 : Nat) : Int), 1)).toArray) (t := tSp) (fr := (0, 0)) (heap_alloc_new wr _)) (by simp [Value.oneCell']) (by omega) (by unfold maxLen; omega) (by omega) (Nat.zero_le _) (wr.heap.size + 1) (by simp) ?_; intro gg cap w9 hown9 hgrow hat hlt9; have hX9 := (hgrow.block Bk (lt_of HXD.out) hGo).trans HXD.out; have hX9c := cell_of hX9 0; have hX9l := lt_of hX9; have hL9 := owns_fr HLD.out (fr_grown hgrow) (own_not HLD.out hown2.out (by decide)); have hl9 := (hL9.lt lb rfl).2; have hf9 := hL9.frozenAt k; have hc9 := (hL9.cellAt k (by omega))))
          all_goals
            have HP := Lib.hid (HJ.out.put HT.out hm1 HFD.out hown9 hgrow hat (by omega) HLK.out)
            clear hown9 hgrow hat hlt9 hX9 hX9c hX9l hL9 hl9 hf9 hc9 hGo hGl hwr
            go_wp2
            go_roundw
            case rel => exact ⟨_, _, _, m + 1, by have := HT.out; omega, HP.out⟩
            case measure =>
              rw [HLEN.out, HP.out.lenAt]
              have := HT.out
              omega
        · clear hl2 hbx2 hv2' hx2 hJ ht
          go_wp2
          go_roundw
          case rel => exact ⟨k + 1, fs2, by go_num, by omega, HJ.out.i⟩
          case measure => simp [intOf]; omega
    · obtain rfl : k = L := by omega
      obtain ⟨WM, rfl⟩ : ∃ x : World, x = wr := ⟨_, rfl⟩
      have HB := Lib.hid hI.b
      have HF := Lib.hid hI.f
      clear hI hbx hfl hlt
      go_wp2_with fail
      go_loopw [5] (fun i wx => ∃ j : Nat, i = .int .i64 (j : Int) ∧ j ≤ k ∧ Fr [] WM wx) (fun i _ => k - (intOf i).toNat)
      case atStart => exact ⟨0, rfl, by omega, Fr.refl _ _⟩
      case round =>
        obtain ⟨j, rfl, hj, hf⟩ := hrel
        have hbx := HB.out.fr0 hf |>.box
        have hbl := lt_of hbx
        have b0 := cell_of hbx 0
        by_cases hlt : j < k
        · have hjf : j < fs.length := by rw [HFL.out]; exact hlt
          have hj1 : (j : Int) < (k : Int) := by omega
          have hl' := HB.out.l
          have hn' := HB.out.n
          rw [HFL.out] at hl' hn'
          obtain ⟨lb, _, e, _, hlbl⟩ := hl'.form (by omega)
          cases e
          obtain ⟨nb, _, e, _, hnbl⟩ := hn'.form (by omega)
          cases e
          obtain ⟨x, hx⟩ : ∃ x, fs[j] = x := ⟨_, rfl⟩
          obtain ⟨v, n, m⟩ := x
          have hv : WM.ownsRow 0 tSp 2 v (n + m) ((bkX j n m).flatMap spC) := by
            have := HB.out.el j hjf
            rw [hx] at this
            exact this
          have hsm : n + m ≤ 4264304 := by
            have := HB.out.sm j hjf
            rw [hx] at this
            have h1 := this.1
            have h2 := this.2
            simp only at h1 h2
            omega
          have HEC : Hid (∀ wx, Fr [] WM wx → wx.cell? ⟨Bk, 0, none⟩ = some (.slice (some ⟨lb, 0, none⟩) k lc) ∧ wx.cell? ⟨Bk, 1, none⟩ = some (.slice (some ⟨nb, 0, none⟩) k nc) ∧ wx.cell? ⟨lb, j, none⟩ = some v ∧ wx.cell? ⟨nb, j, none⟩ = some (.int .i64 (n : Int)) ∧ Bk < wx.heap.size ∧ lb < wx.heap.size ∧ nb < wx.heap.size) := fun wx hfx => by
            have hX := HB.out.fr0 hfx
            have hl2 := hX.l
            have hn2 := hX.n
            rw [HFL.out] at hl2 hn2
            refine ⟨cell_of hX.box 0, cell_of hX.box 1, ?_, ?_, lt_of hX.box, (hl2.lt lb rfl).2, (hn2.lt nb rfl).2⟩
            · rw [hl2.cellAt j (by omega)]
              simp [hjf, hx]
            · rw [hn2.cellAt j (by omega)]
              simp [hjf, hx]
          obtain ⟨vq, vc, rfl, hv1, hv2⟩ := (own_sl hv).form
          have HSP : Hid (∀ wx, Fr [] WM wx → SlAt wx (.slice vq (n + m) vc) 2 (n + m) ((bkX j n m).flatMap spC)) := fun wx hfx => own_sl (owns_fr hv hfx (by simp))
          have hwr := sub_wrap j (by omega)
          clear hl' hn' hx hv hbx hlbl hnbl
          go_wp2_with fail
          clear hbl b0
          go_loopw [6] (fun i wy => ∃ q : Nat, i = .int .i64 (q : Int) ∧ q ≤ n + m ∧ Fr [] WM wy) (fun i _ => n + m - (intOf i).toNat)
          case atStart => exact ⟨0, rfl, by omega, hf⟩
          case round =>
            obtain ⟨q, rfl, hq, hfy⟩ := hrel
            obtain ⟨b0, b1, e0, n0, hbl, hll, hnl⟩ := HEC.out _ hfy
            by_cases hqs : q < n + m
            · have hq1 : (q : Int) < (n : Int) + (m : Int) := by omega
              obtain ⟨g, off, c', e, hgl, d0, d1⟩ : ∃ b off c, Value.slice vq (n + m) vc = .slice (some ⟨b, off, none⟩) (n + m) c ∧ b < wr.heap.size ∧ wr.cell? ⟨b, off + q * 2, none⟩ = some (.int .i64 ((bkX j n m)[q]'(by rw [bkX_len]; exact hqs)).1) ∧ wr.cell? ⟨b, off + q * 2 + 1, none⟩ = some (.int .i64 ((bkX j n m)[q]'(by rw [bkX_len]; exact hqs)).2) := by
                have h := HSP.out _ hfy
                have h2 : SpotsAt wr (.slice vq (n + m) vc) (bkX j n m) := by
                  show SlAt _ _ _ _ _
                  rw [bkX_len]
                  exact h
                obtain ⟨b, off, c, e, h3, h4, h5⟩ := spots_cell h2 (k := q) (by rw [bkX_len]; exact hqs)
                exact ⟨b, off, c, by rw [bkX_len] at e; exact e, h3, h4, h5⟩
              cases e
              by_cases hqn : q < n
              · have hS := bkX_lo (i := j) (m := m) (by rw [bkX_len]; exact hqs) hqn
                simp only [hS] at d0 d1
                clear hS
                have hg1 : ¬ (n : Int) ≤ (q : Int) := by omega
                have hne := neqS (-((j + 1 : Nat) : Int), 0) (-((j + 1 : Nat) : Int), 0)
                have hne2 : ∀ w : World, (binOp .neq 27 (.agg #[.int .i64 (-((j + 1 : Nat) : Int)), .int .i64 0]) (.agg #[.int .i64 (-((j + 1 : Nat) : Int)), .int .i64 0])).run Tryz.prog w = .ok (.bool false) w := fun w => by rw [hne]; simp
                clear hne
                go_wp2_with fail
                go_quiet (fail)
                go_wp2
                go_roundw
                case rel => exact ⟨q + 1, by go_num, by omega, by repeat (with_reducible first | exact hfy | refine Fr.drewN ?_ _ | refine Fr.setCell ?_ (.inr hfy.size) _ | refine Fr.alloc ?_ _)⟩
                case measure => simp [intOf]; omega
              · have hS := bkX_hi (i := j) (m := m) (by rw [bkX_len]; exact hqs) hqn
                simp only [hS] at d0 d1
                clear hS
                have hg1 : (n : Int) ≤ (q : Int) := by omega
                have hne := neqS (-((j + 1 : Nat) : Int), 1) (-((j + 1 : Nat) : Int), 1)
                have hne2 : ∀ w : World, (binOp .neq 27 (.agg #[.int .i64 (-((j + 1 : Nat) : Int)), .int .i64 1]) (.agg #[.int .i64 (-((j + 1 : Nat) : Int)), .int .i64 1])).run Tryz.prog w = .ok (.bool false) w := fun w => by rw [hne]; simp
                clear hne
                go_wp2_with fail
                go_quiet (fail)
                go_wp2
                go_roundw
                case rel => exact ⟨q + 1, by go_num, by omega, by repeat (with_reducible first | exact hfy | refine Fr.drewN ?_ _ | refine Fr.setCell ?_ (.inr hfy.size) _ | refine Fr.alloc ?_ _)⟩
                case measure => simp [intOf]; omega
            · obtain rfl : q = n + m := by omega
              go_wp2
              go_roundw
              case rel => exact ⟨j + 1, by go_num, by omega, hfy⟩
              case measure => simp [intOf]; omega
        · obtain rfl : j = k := by omega
          clear hbx
          go_wp2
          go_ret
          exact ⟨rfl, HF.out.trans0 hf⟩
end
end Go.Proofs.YtdlpbpohbkcafaaGreat
