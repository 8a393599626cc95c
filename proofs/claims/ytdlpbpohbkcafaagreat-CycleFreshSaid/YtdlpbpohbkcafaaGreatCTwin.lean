/-
  quadrillelaw21.twin.
-/
import Derived.Test.YtdlpbpohbkcafaaGreatCUtil
import Derived.Test.YtdlpbpohbkcafaaGreatCycP
import Derived.Test.YtdlpbpohbkcafaaGreatCLeadM
import Derived.Deep.RegionLaw
import Derived.Deep.AppendLies
import Derived.Deep.CutBlock
namespace Go.Proofs.YtdlpbpohbkcafaaGreat
open Go.RowKit Go.Shelf Go.Sort Go.Proofs

theorem infoNode : (Tryz.prog.info? tNd).map (fun i => (i.zero, i.size, i.bytes)) = some (some (.agg #[.int .i64 0, .int .i64 0, .slice none 0 0]), 3, 40) := by kernel_rfl

abbrev markS : List Value := [.int .i64 (-7), .int .i64 0]
abbrev markN : List Value := [.int .i64 (-7), .int .i64 0, .slice none 0 0]
/-- A twin's list: nil, or a row of the call's own with a mark behind it. -/
def TwNx (B : Nat) (w : World) (n : Nd) : Prop := (n.na = none ∧ n.next = []) ∨ ∃ b, n.na = some ⟨b, 0, none⟩ ∧ w.ownsRow B tSp 2 (.slice (some ⟨b, 0, none⟩) (n.next.length + 1) n.nc) (n.next.length + 1) (n.next.flatMap spC ++ markS)
theorem TwNx.fr {B : Nat} {w w1 : World} {n : Nd} (h : TwNx B w n) {S : List Nat} (hf : Fr S w w1) (hS : ∀ b, n.na = some ⟨b, 0, none⟩ → b ∉ S) : TwNx B w1 n := by
  rcases h with h | ⟨b, h1, h2⟩
  · exact .inl h
  · exact .inr ⟨b, h1, owns_fr h2 hf fun k hk => by cases hk; exact hS b h1⟩
theorem TwNx.fr0 {B : Nat} {w w1 : World} {n : Nd} (h : TwNx B w n) (hf : Fr [] w w1) : TwNx B w1 n := h.fr hf (by simp)
theorem TwNx.hp {B : Nat} {w : World} {n : Nd} (h : TwNx B w n) {b : Nat} (hb : n.na = some ⟨b, 0, none⟩) : B ≤ b ∧ ∃ cur, w.heap[b]? = some (.cells cur tSp (0, 0)) := by
  rcases h with h | ⟨c, h1, h2⟩
  · rw [h.1] at hb; cases hb
  · rw [h1] at hb
    cases hb
    exact own_hp h2 rfl
theorem TwNx.frO {B B2 : Nat} {w w1 : World} {n : Nd} (h : TwNx B w n) {e : TypeId} {size m : Nat} {v : Value} {xs : List Value} (ho : w.ownsRow B2 e size v m xs) (hne : tSp ≠ e) (hf : Fr v.ownBlock.toList w w1) : TwNx B w1 n :=
  h.fr hf fun b hb hm => by
    obtain ⟨_, c1, h1⟩ := h.hp hb
    obtain ⟨_, c2, h2⟩ := own_hp ho (g := b) (by simpa using hm)
    rw [h1] at h2
    cases h2
    exact hne rfl
theorem TwNx.spots {B : Nat} {w : World} {n : Nd} (h : TwNx B w n) (hc : n.na = none → n.nc ≤ 9223372036854775807) : SpotsAt w (.slice n.na n.next.length n.nc) n.next := by
  rcases h with ⟨h1, h2⟩ | ⟨b, h1, h2⟩
  · rw [h1, h2]
    exact ⟨by simp, ⟨_, _, rfl, Nat.zero_le _, hc h1⟩, fun h => by simp at h⟩
  · rw [h1]
    refine own_sl (own_take h2 (m := n.next.length) (by omega) ?_)
    rw [List.take_left' (by rw [flat_len spC 2 (fun _ => rfl)])]
/-- A twin of some nodes. -/
structure TwinAt (B : Nat) (w : World) (v : Value) (ls : List Nd) : Prop where
  row : ∃ g cap, v = .slice (some ⟨g, 0, none⟩) ls.length cap ∧ w.ownsRow B tNd 3 (.slice (some ⟨g, 0, none⟩) (ls.length + 1) cap) (ls.length + 1) (ls.flatMap ndC ++ markN)
  nx : ∀ n ∈ ls, TwNx B w n ∧ (n.na = none → n.nc ≤ 9223372036854775807)
theorem TwinAt.fr0 {B : Nat} {w w1 : World} {v : Value} {ls : List Nd} (h : TwinAt B w v ls) (hf : Fr [] w w1) : TwinAt B w1 v ls := by
  obtain ⟨g, cap, e, h1⟩ := h.row
  exact ⟨⟨g, cap, e, owns_fr h1 hf (by simp)⟩, fun n hn => ⟨(h.nx n hn).1.fr0 hf, (h.nx n hn).2⟩⟩
theorem TwinAt.nodes {B : Nat} {w : World} {v : Value} {ls : List Nd} (h : TwinAt B w v ls) : NodesAt w v ls := by
  obtain ⟨g, cap, rfl, h1⟩ := h.row
  refine ⟨own_sl (own_take h1 (m := ls.length) (by omega) ?_), fun n hn => (h.nx n hn).1.spots (h.nx n hn).2⟩
  rw [List.take_left' (by rw [flat_len ndC 3 (fun _ => rfl)])]
def TwinPost (B : Nat) (ps : List Pn) (w : World) (e : Ending) (w1 : World) : Prop := ∃ sv ls, e = .returned sv ∧ TwinAt B w1 sv ls ∧ era ls = ps ∧ Fr [] w w1
theorem nil_len {w : World} {a : Option Addr} {n c : Nat} {l : List Sp} (h : SpotsAt w (.slice a n c) l) (ha : a = none) : l = [] := by
  refine Classical.byContradiction fun hne => ?_
  obtain ⟨b, off, c', e, _, _⟩ := h.cell (List.length_pos_iff.2 hne)
  rw [ha] at e
  cases e
theorem tot_le {ns : List Nd} {n : Nd} (h : n ∈ ns) : n.next.length ≤ tot ns := by
  unfold tot
  induction ns with
  | nil => simp at h
  | cons a ns ih =>
    simp only [List.map_cons, List.sum_cons]
    rcases List.mem_cons.1 h with rfl | h
    · omega
    · have := ih h
      omega

theorem era_snoc (ls : List Nd) (nd : Nd) : era (ls ++ [nd]) = era ls ++ [(nd.at_, nd.next)] := by simp [era]
theorem src_cells {w : World} {a : Addr} {n c : Nat} {l : List Sp} (h : SpotsAt w (.slice (some a) n c) l) (j : Nat) (u : Value) (hu : (l.flatMap spC)[j]? = some u) : w.cell? (a.add j) = some u := by
  have hp : 0 < l.length := by
    refine List.length_pos_iff.2 fun e => ?_
    rw [e] at hu
    simp at hu
  obtain ⟨b, off, c', e, _, hc⟩ := h.cell hp
  cases e
  have ea : (⟨b, off, none⟩ : Addr).add j = ⟨b, off + j, none⟩ := by
    unfold Addr.add
    split
    · rename_i h0; subst h0; rfl
    · rfl
  rw [ea]
  exact hc j u hu
theorem spC_one {l : List Sp} : ∀ u ∈ l.flatMap spC, u.oneCell' = true := fun u hu => by
  obtain ⟨s, _, hs⟩ := List.mem_flatMap.1 hu
  simp at hs
  rcases hs with rfl | rfl <;> rfl
def TwOk (B : Nat) (w : World) (n : Nd) : Prop := TwNx B w n ∧ (n.na = none → n.nc ≤ 9223372036854775807)
theorem TwOk.fr0 {B : Nat} {w w1 : World} {n : Nd} (h : TwOk B w n) (hf : Fr [] w w1) : TwOk B w1 n := ⟨h.1.fr0 hf, h.2⟩
theorem twin_push {B : Nat} {w wy w9 : World} {ql : Option Addr} {cl : Nat} {ls : List Nd} {nd : Nd} {v' : Value} (hO : wy.ownsRow B tNd 3 (.slice ql ls.length cl) ls.length (ls.flatMap ndC)) (hN : ∀ n ∈ ls, TwOk B wy n) (hx : TwOk B wy nd) (hf : Fr [] w wy) (hB : w.heap.size ≤ B)
    (ho : w9.ownsRow B tNd 3 v' (ls.length + 1) (ls.flatMap ndC ++ ndC nd)) (hg : (wy.alloc (.cells (ndC nd).toArray tNd)).grownBy w9 (Value.slice ql ls.length cl).ownBlock) :
    w9.ownsRow B tNd 3 v' (ls ++ [nd]).length ((ls ++ [nd]).flatMap ndC) ∧ (∀ n ∈ ls ++ [nd], TwOk B w9 n) ∧ Fr [] w w9 := by
  have hfa : Fr [] wy (wy.alloc (.cells (ndC nd).toArray tNd)) := (Fr.refl [] wy).alloc _
  have hown2 := owns_fr hO hfa (by simp)
  refine ⟨by simpa using ho, fun n hn => ?_, (hf.trans0 hfa).grown hg (fun k hk => .inr (by have := (hown2.lt k hk).1; omega))⟩
  have h1 : TwOk B wy n := by
    rcases List.mem_append.1 hn with hn | hn
    · exact hN n hn
    · rw [List.mem_singleton] at hn
      rw [hn]
      exact hx
  exact ⟨(h1.1.fr0 hfa).frO hown2 (by decide) (fr_grown hg), h1.2⟩

set_option maxRecDepth 100000 in
set_option maxHeartbeats 3200000 in
theorem twinC (v : Value) (ns : List Nd) (w : World) (hv : NodesAt w v ns) (hB : ns.length + tot ns ≤ 4194304) : Calls Tryz.prog 7 #[v] w (TwinPost w.heap.size (era ns) w) := by
  obtain ⟨qa, ca, rfl, ha1, ha2⟩ := hv.row.form
  have HV := Lib.hid hv
  have hnl : ns.length ≤ 4194304 := by omega
  have HT : Hid (∀ n ∈ ns, n.next.length ≤ 4194304) := fun n hn => by have := tot_le hn; omega
  clear hv hB
  obtain ⟨i0, hi0, hz0, hz1, hz2⟩ := info_parts infoSpot
  obtain ⟨iN, hiN, hn0, hn1, hn2⟩ := info_parts infoNode
  go_enter Tryz.func7, Tryz.ntmps7
  go_wp2_with fail
  go_loopw [3, 4] (fun lv i wr => ∃ (k : Nat) (ls : List Nd), i = .int .i64 (k : Int) ∧ k ≤ ns.length ∧ wr.ownsRow w.heap.size tNd 3 lv ls.length (ls.flatMap ndC) ∧ (∀ n ∈ ls, TwOk w.heap.size wr n) ∧ era ls = era (ns.take k) ∧ Fr [] w wr) (fun _ i _ => ns.length - (intOf i).toNat)
  case atStart => exact ⟨0, [], rfl, by omega, World.ownsRow_nil _ _ _ _, by simp, rfl, Fr.refl _ _⟩
  case round =>
    obtain ⟨k, ls, rfl, hk, hO, hN, hE, hf⟩ := hrel
    have HO := Lib.hid hO
    have HN := Lib.hid hN
    have HE := Lib.hid hE
    have hll : ls.length = k := by
      have := congrArg List.length hE
      simp at this
      omega
    obtain ⟨ql, cl, rfl, hl1, hl2⟩ := (own_sl hO).form
    have hlsl : ls.length ≤ 4194304 := by omega
    have hqX : Hid (∀ k', (Value.slice ql ls.length cl).ownBlock = some k' → k' < wr.heap.size) := fun k' hk' => (hO.lt k' hk').2
    have HLL := Lib.hid hll
    clear hO hN hE hll
    by_cases hlt : k < ns.length
    · have hk1 : (k : Int) < (ns.length : Int) := by omega
      obtain ⟨b, off, _, e, hb, c0, c1, c2⟩ := (HV.out.fr0 hf).cell hlt
      cases e
      have HTK := Lib.hid (List.take_succ_eq_append_getElem hlt)
      have HNX := Lib.hid (HV.out.nx ns[k] (List.getElem_mem hlt))
      have hntl := HT.out ns[k] (List.getElem_mem hlt)
      generalize hndk : ns[k] = nd at *
      obtain ⟨at_, na, nc, next⟩ := nd
      simp only at c0 c1 c2 hntl
      have HC2 : Hid (w.cell? ⟨b, off + k * 3 + 2, none⟩ = some (.slice na next.length nc)) := by
        obtain ⟨b', off', _, e', _, _, _, h2⟩ := HV.out.cell hlt
        cases e'
        rw [hndk] at h2
        exact h2
      have hXn := heap_new wr (.cells #[.int .i64 at_.1, .int .i64 at_.2, .slice na next.length nc] tNd)
      have hfX : Fr [] wr (wr.alloc (.cells #[.int .i64 at_.1, .int .i64 at_.2, .slice na next.length nc] tNd)) := (Fr.refl [] wr).alloc _
      clear hndk
      go_upto_region 6 with fail
      have hsW := hf.size
      have HEQ : ∀ xq xc, Hid (era (ls ++ [⟨at_, xq, xc, next⟩]) = era (ns.take (k + 1))) := fun xq xc => by
        show _ = _
        rw [HTK.out, era_snoc, era_snoc, HE.out]
      have HEQ2 := Lib.hid HEQ
      clear HEQ c0 c1 c2
      cases na with
      | none =>
        have hnn := nil_len HNX.out rfl
        subst hnn
        have hnc : nc ≤ 9223372036854775807 := by
          obtain ⟨_, _, e, h1, h2⟩ := HNX.out.form
          cases e
          exact h2
        have HX := Lib.hid hXn
        have x0 := cell_of hXn 0
        have x1 := cell_of hXn 1
        have x2 := cell_of hXn 2
        have hxl := lt_of hXn
        have hown2 := (owns_fr HO.out hfX (by simp)).alloc (.cells #[.int .i64 at_.1, .int .i64 at_.2, .slice none 0 nc] tNd)
        have HO2 := Lib.hid (owns_fr HO.out hfX (by simp))
        have HN2 : Hid (∀ n ∈ ls, TwOk w.heap.size (wr.alloc (.cells #[.int .i64 at_.1, .int .i64 at_.2, .slice none 0 nc] tNd)) n) := fun n hn => (HN.out n hn).fr0 hfX
        have hf2 := hf.trans0 hfX
        clear hXn hfX
        go_wp2_with (at_builtin; refine wpList_append_own _ rfl _ _ 24 rfl w.heap.size tNd iN _ 3 40 Tryz.underlying24 hiN hn0 hn1 hn2 rfl (by decide) _ _ _ rfl hown2 ⟨wr.heap.size + 1, 0, none⟩ 1 1 [.int .i64 at_.1, .int .i64 at_.2, .slice none 0 nc] rfl rfl (by have := news_of (wr.alloc (.cells #[.int .i64 at_.1, .int .i64 at_.2, .slice none 0 nc] tNd)) [.int .i64 at_.1, .int .i64 at_.2, .slice none 0 nc] tNd; simpa using this) (fun x hx => by simp at hx; rcases hx with rfl | rfl | rfl <;> rfl) (by unfold maxLen; omega) (by omega) (by simp; omega) ?_; intro v' w9 hown9 hgrow _)
        have HR := Lib.hid (twin_push (nd := ⟨at_, none, nc, []⟩) HO2.out HN2.out ⟨.inl ⟨rfl, rfl⟩, fun _ => hnc⟩ hf2 (Nat.le_refl _) hown9 hgrow)
        clear hown9 hgrow hown2 x0 x1 x2
        go_wp2
        go_roundw
        case rel => exact ⟨k + 1, _, by go_num, by omega, HR.out.1, HR.out.2.1, (HEQ2.out none nc).out, HR.out.2.2⟩
        case measure => simp [intOf]; omega
      | some a =>
        have HX := Lib.hid hXn
        have x2 := cell_of hXn 2
        have hxl := lt_of hXn
        have HO2 := Lib.hid (owns_fr HO.out hfX (by simp))
        have HN2 : Hid (∀ n ∈ ls, TwOk w.heap.size (wr.alloc (.cells #[.int .i64 at_.1, .int .i64 at_.2, .slice (some a) next.length nc] tNd)) n) := fun n hn => (HN.out n hn).fr0 hfX
        have hf2 := hf.trans0 hfX
        have HS2 := Lib.hid (HNX.out.fr0 hf2)
        have hsX : w.heap.size ≤ (wr.alloc (.cells #[.int .i64 at_.1, .int .i64 at_.2, .slice (some a) next.length nc] tNd)).heap.size := hf2.size
        clear hXn hfX HO HN
        generalize hWX : wr.alloc (.cells #[.int .i64 at_.1, .int .i64 at_.2, .slice (some a) next.length nc] tNd) = WX at *
        have hXl2 : Hid (w.heap.size ≤ wr.heap.size) := hsW
        generalize hXe : wr.heap.size = X at *
        clear hWX hXe
        have hnil : WX.ownsRow WX.heap.size tSp 2 (.slice none 0 0) 0 [] := World.ownsRow_nil _ _ _ _
        go_upto_region 8 with (at_builtin; refine wpList_append_own _ rfl _ _ 28 rfl WX.heap.size tSp i0 _ 2 16 Tryz.underlying28 hi0 hz0 hz1 hz2 rfl (by decide) _ _ _ rfl hnil a next.length nc (next.flatMap spC) rfl (flat_len spC 2 (fun _ => rfl) _) (src_cells HS2.out) spC_one (by unfold maxLen; omega) (by omega) (Nat.le_refl _) ?_; intro v' w8 hown8 hgrow8 _)
        have hf8 : Fr [] WX w8 := (Fr.refl [] WX).grown hgrow8 (fun k' hk' => by cases hk')
        have hown8' : w8.ownsRow WX.heap.size tSp 2 v' next.length (next.flatMap spC) := by simpa using hown8
        have hown8m := hown8'.alloc (.cells #[.int .i64 (-7), .int .i64 0] tSp)
        have hs8 := hf8.size
        clear hown8 hgrow8 x2 hnil
        go_upto_region 9 with (at_builtin; refine wpList_append_own _ rfl _ _ 28 rfl WX.heap.size tSp i0 _ 2 16 Tryz.underlying28 hi0 hz0 hz1 hz2 rfl (by decide) _ _ _ rfl hown8m ⟨w8.heap.size, 0, none⟩ 1 1 markS rfl rfl (by have := news_of w8 markS tSp; simpa using this) (fun x hx => by simp at hx; rcases hx with rfl | rfl <;> rfl) (by unfold maxLen; omega) (by omega) (by simp; omega) ?_; intro v' w9 hown9 hgrow9 _)
        have hf9 : Fr [] WX w9 := (hf8.alloc _).grown hgrow9 (fun k' hk' => .inr (by have := (hown8m.lt k' hk').1; omega))
        obtain ⟨g9, c9, rfl, hg91, hg92⟩ := hown9.form (by omega)
        obtain ⟨_, _, e, hc91, hc92⟩ := (own_sl hown9).form
        cases e
        have hX9 := hf9.heap HX.out (by simp)
        have hXc := cell_of hX9
        have hXf := free_of hX9
        have hXl := lt_of hX9
        have hc93 : (next.length : Int) ≤ (c9 : Int) := by omega
        have hc94 : (c9 : Int) ≤ 9223372036854775807 := by omega
        have HO9 := Lib.hid (owns_fr HO2.out hf9 (by simp))
        have HN9 : Hid (∀ n ∈ ls, TwOk w.heap.size w9 n) := fun n hn => (HN2.out n hn).fr0 hf9
        have HX9 := Lib.hid hX9
        have HW9 := Lib.hid hown9
        have hF9 := hf2.trans0 hf9
        have c2b : w9.cell? ⟨b, off + k * 3 + 2, none⟩ = some (.slice (some a) next.length nc) := ce_call hF9 HC2.out
        have x2 := hXc 2
        have x2f := hXf 2
        clear hown9 hgrow9 hown8m hown8' hf8 hX9 hXc hXf hs8
        go_upto_region 10 with fail
        have hfS : Fr [X] w9 (w9.setCell ⟨X, 2, none⟩ (.slice (some ⟨g9, 0, none⟩) next.length c9)) := fr_cell _ _ _ _
        have hXS : (w9.setCell ⟨X, 2, none⟩ (.slice (some ⟨g9, 0, none⟩) next.length c9)).heap[X]? = some (.cells #[.int .i64 at_.1, .int .i64 at_.2, .slice (some ⟨g9, 0, none⟩) next.length c9] tNd (0, 0)) := by
          rw [set_of HX9.out]
          rfl
        have HOS := Lib.hid (owns_fr HO9.out hfS (fun k' hk' hm => by have := hqX.out k' hk'; simp at hm; omega))
        have HNS : Hid (∀ n ∈ ls, TwOk w.heap.size (w9.setCell ⟨X, 2, none⟩ (.slice (some ⟨g9, 0, none⟩) next.length c9)) n) := fun n hn => ⟨(HN9.out n hn).1.fr hfS (fun b' hb' hm => by
          obtain ⟨_, cur, h1⟩ := (HN9.out n hn).1.hp hb'
          rw [List.mem_singleton] at hm
          rw [hm, HX9.out] at h1
          cases h1), (HN9.out n hn).2⟩
        have hne9 : ∀ k', (Value.slice (some ⟨g9, 0, none⟩) (next.length + 1) c9).ownBlock = some k' → k' ∉ [X] := fun k' hk' hm => own_box HW9.out HX9.out (by decide) k' hk' (by simpa using hm)
        have HWS : Hid (TwOk w.heap.size (w9.setCell ⟨X, 2, none⟩ (.slice (some ⟨g9, 0, none⟩) next.length c9)) ⟨at_, some ⟨g9, 0, none⟩, c9, next⟩) := ⟨.inr ⟨g9, rfl, owns_mono (owns_fr HW9.out hfS hne9) hsX⟩, fun h => by cases h⟩
        have hFS := hF9.setCell (p := ⟨X, 2, none⟩) (.inr hXl2.out) (.slice (some ⟨g9, 0, none⟩) next.length c9)
        clear hfS hne9 x2 x2f c2b hXl
        generalize w9.setCell ⟨X, 2, none⟩ (.slice (some ⟨g9, 0, none⟩) next.length c9) = WS at *
        have HXS := Lib.hid hXS
        have x0 := cell_of hXS 0
        have x1 := cell_of hXS 1
        have x2 := cell_of hXS 2
        have hxl2 := lt_of hXS
        have hown2 := HOS.out.alloc (.cells #[.int .i64 at_.1, .int .i64 at_.2, .slice (some ⟨g9, 0, none⟩) next.length c9] tNd)
        have hsS := hFS.size
        clear hXS
        go_wp2_with (at_builtin; refine wpList_append_own _ rfl _ _ 24 rfl w.heap.size tNd iN _ 3 40 Tryz.underlying24 hiN hn0 hn1 hn2 rfl (by decide) _ _ _ rfl hown2 ⟨WS.heap.size, 0, none⟩ 1 1 [.int .i64 at_.1, .int .i64 at_.2, .slice (some ⟨g9, 0, none⟩) next.length c9] rfl rfl (by have := news_of WS [.int .i64 at_.1, .int .i64 at_.2, .slice (some ⟨g9, 0, none⟩) next.length c9] tNd; simpa using this) (fun x hx => by simp at hx; rcases hx with rfl | rfl | rfl <;> rfl) (by unfold maxLen; omega) (by omega) (by simp; omega) ?_; intro v'' w11 hown11 hgrow11 _)
        have HR := Lib.hid (twin_push (nd := ⟨at_, some ⟨g9, 0, none⟩, c9, next⟩) HOS.out HNS.out HWS.out hFS (Nat.le_refl _) hown11 hgrow11)
        clear hown11 hgrow11 hown2 x0 x1 x2
        go_wp2
        go_roundw
        case rel => exact ⟨k + 1, _, by go_num, by omega, HR.out.1, HR.out.2.1, (HEQ2.out (some ⟨g9, 0, none⟩) c9).out, HR.out.2.2⟩
        case measure => simp [intOf]; omega
    · obtain rfl : k = ns.length := by omega
      have HEE : Hid (era ls = era ns) := by
        have := HE.out
        rwa [List.take_length] at this
      have hown2 := HO.out.alloc (.cells #[.int .i64 (-7), .int .i64 0, .slice none 0 0] tNd)
      have hsr := hf.size
      have hlln : Hid (ls.length = ns.length) := HLL.out
      go_wp2_with (at_builtin; refine wpList_append_own _ rfl _ _ 24 rfl w.heap.size tNd iN _ 3 40 Tryz.underlying24 hiN hn0 hn1 hn2 rfl (by decide) _ _ _ rfl hown2 ⟨wr.heap.size, 0, none⟩ 1 1 markN rfl rfl (by have := news_of wr markN tNd; simpa using this) (fun x hx => by simp at hx; rcases hx with rfl | rfl | rfl <;> rfl) (by unfold maxLen; omega) (by omega) (by simp; omega) ?_; intro v' w9 hown9 hgrow9 _; obtain ⟨g9, c9, rfl, hg91, hg92⟩ := hown9.form (by omega); have hcc := (own_sl hown9).form; obtain ⟨_, _, e, hc91, hc92⟩ := hcc; cases e; have hc93 : (ns.length : Int) ≤ (c9 : Int) := (by have := hlln.out; omega); have hc94 : (c9 : Int) ≤ 9223372036854775807 := (by omega))
      have hfa : Fr [] wr (wr.alloc (.cells #[.int .i64 (-7), .int .i64 0, .slice none 0 0] tNd)) := (Fr.refl [] wr).alloc _
      have HFR : Hid (Fr [] w w9) := (hf.trans0 hfa).grown hgrow9 (fun k' hk' => .inr (by have := (hown2.lt k' hk').1; omega))
      have HTW : Hid (TwinAt w.heap.size w9 (.slice (some ⟨g9, 0, none⟩) ns.length c9) ls) := ⟨⟨g9, c9, by rw [hlln.out], hown9⟩, fun n hn => ⟨((HN.out n hn).1.fr0 hfa).frO hown2 (by decide) (fr_grown hgrow9), (HN.out n hn).2⟩⟩
      clear hown9 hgrow9 hown2 hfa
      go_ret
      exact ⟨_, ls, rfl, HTW.out, HEE.out, HFR.out⟩
end Go.Proofs.YtdlpbpohbkcafaaGreat
