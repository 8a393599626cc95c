/-
  quadrillelaw21.sound.
  quadrillelaw21.twin.
  quadrillelaw21.reach.
-/
import Derived.Test.YtdlpbpohbkcafaaCUtil
import Derived.Test.YtdlpbpohbkcafaaCycP
import Derived.Test.YtdlpbpohbkcafaaCOrdM
import Derived.Deep.RegionLaw
import Derived.Deep.AppendLies
import Derived.Deep.CutBlock
namespace Go.Proofs.Ytdlpbpohbkcafaa
section
open Go.RowKit Go.Shelf Go.Sort Go.Proofs

theorem infoNode : (Try.prog.info? tNd).map (fun i => (i.zero, i.size, i.bytes)) = some (some (.agg #[.int .i64 0, .int .i64 0, .slice none 0 0]), 3, 40) := by kernel_rfl
/-- The nodes that may be, the first one of each place. -/
def soundStep (l : List Pn) (p : Pn) : List Pn := if l.length < 200 ∧ mayP p.1 = true ∧ p.1 ∉ atsP l then l ++ [(p.1, (p.2.take 300).filter fun s => mayP s)] else l
def soundP (ps : List Pn) : List Pn := ps.foldl soundStep []
structure SoundOk (l : List Pn) : Prop where
  len : l.length ≤ 200
  nd : (atsP l).Nodup
  may : ∀ p ∈ l, mayP p.1 = true ∧ p.2.length ≤ 300 ∧ ∀ s ∈ p.2, mayP s = true
theorem soundStep_ok {l : List Pn} (h : SoundOk l) (p : Pn) : SoundOk (soundStep l p) := by
  unfold soundStep
  split
  · rename_i hc
    refine ⟨by simp; omega, ?_, fun q hq => ?_⟩
    · rw [atsP, List.map_append]
      refine List.nodup_append.2 ⟨h.nd, by simp, fun a ha b hb e => ?_⟩
      simp only [List.map_cons, List.map_nil, List.mem_singleton] at hb
      exact hc.2.2 (by rw [← hb, ← e]; exact ha)
    · rcases List.mem_append.1 hq with hq | hq
      · exact h.may q hq
      · rw [List.mem_singleton] at hq
        subst hq
        refine ⟨hc.2.1, ?_, fun s hs => (List.mem_filter.1 hs).2⟩
        have := List.length_filter_le (fun s => mayP s) (p.2.take 300)
        rw [List.length_take] at this
        show ((p.2.take 300).filter fun s => mayP s).length ≤ 300
        omega
  · exact h
theorem soundP_ok (ps : List Pn) : SoundOk (soundP ps) := by
  have key : ∀ (ps l : List Pn), SoundOk l → SoundOk (ps.foldl soundStep l) := by
    intro ps
    induction ps with
    | nil => exact fun l h => h
    | cons p ps ih => exact fun l h => ih _ (soundStep_ok h p)
  exact key ps [] ⟨by simp, by simp, by simp⟩
theorem sound_full {l : List Pn} (h : ¬ l.length < 200) : ∀ ps : List Pn, ps.foldl soundStep l = l
  | [] => rfl
  | p :: ps => by
    rw [List.foldl_cons, show soundStep l p = l from if_neg fun hc => h hc.1]
    exact sound_full h ps
/-- Nodes in rows of the call's own. -/
structure LsAt (B : Nat) (w : World) (v : Value) (ls : List Nd) : Prop where
  row : w.ownsRow B tNd 3 v ls.length (ls.flatMap ndC)
  nx : ∀ n ∈ ls, w.ownsRow B tSp 2 (.slice n.na n.next.length n.nc) n.next.length (n.next.flatMap spC)
theorem LsAt.fr0 {B : Nat} {w w1 : World} {v : Value} {ls : List Nd} (h : LsAt B w v ls) (hf : Fr [] w w1) : LsAt B w1 v ls := ⟨owns_fr h.row hf (by simp), fun n hn => owns_fr (h.nx n hn) hf (by simp)⟩
theorem LsAt.nodes {B : Nat} {w : World} {v : Value} {ls : List Nd} (h : LsAt B w v ls) : NodesAt w v ls := ⟨own_sl h.row, fun n hn => own_sl (h.nx n hn)⟩
theorem atsN_pn (ls : List Nd) : atsP (era ls) = atsN ls := (atsN_era ls).symm

def SoundPost (B : Nat) (ps : List Pn) (w : World) (e : Ending) (w1 : World) : Prop := ∃ sv ls, e = .returned sv ∧ LsAt B w1 sv ls ∧ era ls = soundP ps ∧ Fr [] w w1
set_option maxRecDepth 100000 in
set_option maxHeartbeats 3200000 in
theorem soundC (v : Value) (ns : List Nd) (w : World) (hv : NodesAt w v ns) : Calls Try.prog 8 #[v] w (SoundPost w.heap.size (era ns) w) := by
  obtain ⟨qa, ca, rfl, ha1, ha2⟩ := hv.row.form
  have HV := Lib.hid hv
  clear hv
  obtain ⟨i0, hi0, hz0, hz1, hz2⟩ := info_parts infoSpot
  go_enter Try.func8, Try.ntmps8
  go_wp2_with fail
  go_loopw [3, 4] (fun lv i wr => ∃ (k : Nat) (ls : List Nd), i = .int .i64 (k : Int) ∧ k ≤ ns.length ∧ LsAt w.heap.size wr lv ls ∧ era ls = soundP (era (ns.take k)) ∧ Fr [] w wr) (fun _ i _ => ns.length - (intOf i).toNat)
  case atStart => exact ⟨0, [], rfl, by omega, ⟨World.ownsRow_nil _ _ _ _, by simp⟩, rfl, Fr.refl _ _⟩
  case round =>
    obtain ⟨k, ls, rfl, hk, hA, hE, hf⟩ := hrel
    have HA := Lib.hid hA
    have HE := Lib.hid hE
    obtain ⟨ql, cl, rfl, hl1, hl2⟩ := (own_sl hA.row).form
    have hok := soundP_ok (era (ns.take k))
    rw [← hE] at hok
    have hlen : ls.length ≤ 200 := by simpa using hok.len
    clear hA hE hok
    by_cases hlt : k < ns.length
    · have hk1 : (k : Int) < (ns.length : Int) := by omega
      by_cases h200 : ls.length < 200
      · have hl3 : (ls.length : Int) < 200 := by omega
        obtain ⟨b, off, _, e, hb, c0, c1, c2⟩ := (HV.out.fr0 hf).cell hlt
        cases e
        have HTK : Hid (soundP (era (ns.take (k + 1))) = soundStep (era ls) (ns[k].at_, ns[k].next)) := by
          show _ = _
          rw [HE.out, List.take_succ_eq_append_getElem hlt]
          unfold soundP
          simp only [era, List.map_append, List.map_cons, List.map_nil, List.foldl_append, List.foldl_cons, List.foldl_nil]
        have HNX := Lib.hid (HV.out.nx ns[k] (List.getElem_mem hlt))
        generalize ns[k] = nd at *
        obtain ⟨at_, na, nc, next⟩ := nd
        simp only at c0 c1 c2
        by_cases hmay : mayP at_ = true
        · have hmt : mayS at_.1 at_.2 = true := hmay
          by_cases hin : at_ ∈ atsN ls
          · have hfi : findI (atsN ls) at_ = ((atsN ls).idxOf at_ : Int) := by unfold findI; rw [if_pos hin]
            have HST : Hid (soundStep (era ls) (at_, next) = era ls) := by
              show _ = _
              unfold soundStep
              rw [if_neg (fun h => h.2.2 (by rw [atsN_pn]; exact hin))]
            clear hmay hin
            go_wp2_with fail
            refine (refMay at_ _).mono ?_
            rw [hmt]
            rintro e w3 ⟨rfl, h3⟩
            have hf3 := hf.trans0 h3
            have HA3 := Lib.hid (HA.out.fr0 h3)
            have hbl := h3.size
            have c0 := ce_call h3 c0
            have c1 := ce_call h3 c1
            clear h3 hmt c2
            go_wp2_with fail
            refine (findC _ ls at_ _ (own_sl HA3.out.row)).mono ?_
            rw [hfi]
            rintro e w4 ⟨rfl, h4⟩
            have hf4 := hf3.trans0 h4
            have HA4 := Lib.hid (HA3.out.fr0 h4)
            clear h4 hfi c0 c1
            go_wp2
            go_roundw
            case rel => exact ⟨k + 1, ls, by go_num, by omega, HA4.out, by rw [HTK.out, HST.out], hf4⟩
            case measure => simp [intOf]; omega
          · have hfi : findI (atsN ls) at_ = -1 := by unfold findI; rw [if_neg hin]
            have HST : Hid (soundStep (era ls) (at_, next) = era ls ++ [(at_, (next.take 300).filter fun s => mayP s)]) := by
              show _ = _
              unfold soundStep
              rw [if_pos ⟨by simpa using h200, hmay, by rw [atsN_pn]; exact hin⟩]
            clear hmay hin
            go_wp2_with fail
            refine (refMay at_ _).mono ?_
            rw [hmt]
            rintro e w3 ⟨rfl, h3⟩
            have hf3 := hf.trans0 h3
            have HA3 := Lib.hid (HA.out.fr0 h3)
            have c0 := ce_call h3 c0
            have c1 := ce_call h3 c1
            have c2 := ce_call h3 c2
            have hbl := h3.size
            clear h3 hmt
            go_wp2_with fail
            refine (findC _ ls at_ _ (own_sl HA3.out.row)).mono ?_
            rw [hfi]
            rintro e w4 ⟨rfl, h4⟩
            have hf4 := hf3.trans0 h4
            have HA4 := Lib.hid (HA3.out.fr0 h4)
            have c0 := ce_call h4 c0
            have c1 := ce_call h4 c1
            have c2 := ce_call h4 c2
            have hbl4 := h4.size
            clear h4 hfi
            go_upto_block 2 with fail
            have hX := heap_new w4 (.cells #[.int .i64 at_.1, .int .i64 at_.2, .slice none 0 0] tNd)
            have hfW : Fr [] w4 (w4.alloc (.cells #[.int .i64 at_.1, .int .i64 at_.2, .slice none 0 0] tNd)) := (Fr.refl [] w4).alloc _
            have hsW : w4.heap.size < (w4.alloc (.cells #[.int .i64 at_.1, .int .i64 at_.2, .slice none 0 0] tNd)).heap.size := by simp
            clear c0 c1
            generalize w4.alloc (.cells #[.int .i64 at_.1, .int .i64 at_.2, .slice none 0 0] tNd) = W at *
            go_wp2_with fail
            go_loopw [6] (fun j wx => ∃ (m : Nat) (xv : Value), j = .int .i64 (m : Int) ∧ m ≤ next.length ∧ m ≤ 300 ∧ wx.heap[w4.heap.size]? = some (.cells #[.int .i64 at_.1, .int .i64 at_.2, xv] tNd (0, 0)) ∧ wx.ownsRow (w4.heap.size + 1) tSp 2 xv ((next.take m).filter fun s => mayP s).length (((next.take m).filter fun s => mayP s).flatMap spC) ∧ Fr [] w4 wx ∧ w4.heap.size < wx.heap.size) (fun j _ => next.length - (intOf j).toNat)
            case atStart => exact ⟨0, _, rfl, by omega, by omega, hX, World.ownsRow_nil _ _ _ _, hfW, hsW⟩
            case round =>
              obtain ⟨m, xv, rfl, hm, hm3, hXx, hOx, hfx, hsx⟩ := hrel
              have c2x := ce_call hfx c2
              have hbx : b < wr.heap.size := by
                have := hfx.size
                omega
              have HXX := Lib.hid hXx
              have HOX := Lib.hid hOx
              clear hXx hOx
              by_cases hml : m < next.length ∧ m < 300
              · obtain ⟨hml, hm300⟩ := hml
                have hml1 : (m : Int) < (next.length : Int) := by omega
                have hm301 : (m : Int) < 300 := by omega
                obtain ⟨nb, no, _, e, hbn, d0, d1⟩ := spots_cell (HNX.out.fr0 (hf4.trans0 hfx)) hml
                cases e
                have HTM := Lib.hid (List.take_succ_eq_append_getElem hml)
                generalize next[m] = s at *
                by_cases hms : mayP s = true
                · have hms2 : mayS s.1 s.2 = true := hms
                  have HFL : Hid (((next.take (m + 1)).filter fun s => mayP s) = ((next.take m).filter fun s => mayP s) ++ [s]) := by
                    show _ = _
                    rw [HTM.out, List.filter_append]
                    simp [hms]
                  clear hms
                  go_wp2_with fail
                  refine (refMay s _).mono ?_
                  rw [hms2]
                  rintro e w5 ⟨rfl, h5⟩
                  have hfx5 := hfx.trans0 h5
                  have hX5 := h5.heap HXX.out (by simp)
                  have hO5 := owns_fr HOX.out h5 (by simp)
                  have hs5 := Nat.lt_of_lt_of_le hsx h5.size
                  have d0 := ce_call h5 d0
                  have d1 := ce_call h5 d1
                  have c25 := ce_call h5 c2x
                  have x2 := cell_of hX5 2
                  have x2f := free_of hX5 2
                  obtain ⟨q1, n1, p1, rfl⟩ := own_form hO5
                  have HX5 := Lib.hid hX5
                  have HO5 := Lib.hid hO5
                  clear h5 hms2 hX5 hO5 HXX HOX c2x
                  have hfd : Fr [] w5 ((w5.alloc (.cells #[.int .i64 s.1, .int .i64 s.2] tSp)).drew) := ((Fr.refl [] w5).alloc _).drew
                  have hown2 : ((w5.alloc (.cells #[.int .i64 s.1, .int .i64 s.2] tSp)).drew).ownsRow (w4.heap.size + 1) tSp 2 (.slice q1 n1 p1) ((next.take m).filter fun s => mayP s).length (((next.take m).filter fun s => mayP s).flatMap spC) := owns_fr HO5.out hfd (by simp)
                  have hfl3 : ((next.take m).filter fun s => mayP s).length ≤ 300 := by
                    refine Nat.le_trans (List.length_filter_le _ _) ?_
                    rw [List.length_take]
                    omega
                  have hGo : some w4.heap.size ≠ (Value.slice q1 n1 p1).ownBlock := fun e => own_box HO5.out HX5.out (by decide) _ e.symm rfl
                  have hXd := hfd.heap HX5.out (by simp)
                  have HFLT := Lib.hid HFL
                  generalize hflt : (next.take m).filter (fun s => mayP s) = fl at *
                  have HXD := Lib.hid hXd
                  have HOWN2 := Lib.hid hown2
                  clear hflt hXd hown2
                  go_upto_region 11 with fail
                  go_region_law (first | (refine step_append_lies _ (by rfl) _ _ _ (by rfl) (w4.heap.size + 1) tSp i0 _ 2 16 Try.underlying30 hi0 hz0 hz1 hz2 rfl (by omega) (.slice q1 n1 p1) fl.length (fl.flatMap spC) (by rfl) HOWN2.out ⟨w5.heap.size, 0, none⟩ 1 1 (spC s) (by rfl) (by rfl) (World.news_of_block (cs := (spC s).toArray) (t := tSp) (fr := (0, 0)) (heap_alloc_new w5 _)) (by simp [Value.oneCell']) (by omega) (by unfold maxLen; omega) (by omega) (by simp; omega) (w5.heap.size + 1) (by simp) ?_; intro gg cap w9 hown9 hgrow hat hlt9; have hX9 := (hgrow.block w4.heap.size (lt_of HXD.out) hGo).trans HXD.out; have hX9c := cell_of hX9 2; have hX9f := free_of hX9 2; have hX9l := lt_of hX9))
                  all_goals
                    have hne9 : ∀ k', (Value.slice (some ⟨gg, 0, none⟩) (fl.length + 1) cap).ownBlock = some k' → k' ∉ [w4.heap.size] := fun k' hk' hm => own_box hown9 hX9 (by decide) k' hk' (by simpa using hm)
                    have hfS : Fr [w4.heap.size] w9 (w9.setCell ⟨w4.heap.size, 2, none⟩ (.slice (some ⟨gg, 0, none⟩) (fl.length + 1) cap)) := fr_cell _ _ _ _
                    have HXS : Hid ((w9.setCell ⟨w4.heap.size, 2, none⟩ (.slice (some ⟨gg, 0, none⟩) (fl.length + 1) cap)).heap[w4.heap.size]? = some (.cells #[.int .i64 at_.1, .int .i64 at_.2, .slice (some ⟨gg, 0, none⟩) (fl.length + 1) cap] tNd (0, 0))) := by
                      show _ = _
                      rw [set_of hX9]
                      rfl
                    have HOS : Hid ((w9.setCell ⟨w4.heap.size, 2, none⟩ (.slice (some ⟨gg, 0, none⟩) (fl.length + 1) cap)).ownsRow (w4.heap.size + 1) tSp 2 (.slice (some ⟨gg, 0, none⟩) (fl.length + 1) cap) (fl ++ [s]).length ((fl ++ [s]).flatMap spC)) := by
                      have := owns_fr hown9 hfS hne9
                      show World.ownsRow _ _ _ _ _ _ _
                      rw [List.length_append, List.flatMap_append]
                      simpa using this
                    have hF9 : Fr [] w4 (w9.setCell ⟨w4.heap.size, 2, none⟩ (.slice (some ⟨gg, 0, none⟩) (fl.length + 1) cap)) := (((hfx5.trans0 hfd).grown hgrow (fun k' hk' => .inr (by have := (HOWN2.out.lt k' hk').1; omega)))).setCell (.inr (Nat.le_refl _)) _
                    have hS9 : w4.heap.size < (w9.setCell ⟨w4.heap.size, 2, none⟩ (.slice (some ⟨gg, 0, none⟩) (fl.length + 1) cap)).heap.size := by simpa using hX9l
                    clear hown9 hgrow hat hlt9 hX9 hX9c hX9f hX9l hne9 hfS hGo hfd d0 d1 c25 x2 x2f
                    go_wp2
                    go_roundw
                    case rel => exact ⟨m + 1, _, by go_num, by omega, by omega, HXS.out, by rw [HFL.out]; exact HOS.out, hF9, hS9⟩
                    case measure => simp [intOf]; omega
                · have hms2 : mayS s.1 s.2 = false := by simpa [mayP] using hms
                  have HFL : Hid (((next.take (m + 1)).filter fun s => mayP s) = ((next.take m).filter fun s => mayP s)) := by
                    show _ = _
                    rw [HTM.out, List.filter_append]
                    simp [hms]
                  clear hms
                  go_wp2_with fail
                  refine (refMay s _).mono ?_
                  rw [hms2]
                  rintro e w5 ⟨rfl, h5⟩
                  have hfx5 := hfx.trans0 h5
                  have HX5 := Lib.hid (h5.heap HXX.out (by simp))
                  have HO5 := Lib.hid (owns_fr HOX.out h5 (by simp))
                  have hs5 := Nat.lt_of_lt_of_le hsx h5.size
                  clear h5 hms2 d0 d1 c2x
                  go_wp2
                  go_roundw
                  case rel => exact ⟨m + 1, _, by go_num, by omega, by omega, HX5.out, by rw [HFL.out]; exact HO5.out, hfx5, hs5⟩
                  case measure => simp [intOf]; omega
              · have HFE : Hid ((next.take m).filter (fun s => mayP s) = (next.take 300).filter fun s => mayP s) := by
                  show _ = _
                  congr 1
                  by_cases h : m < next.length
                  · have : m = 300 := by omega
                    rw [this]
                  · rw [List.take_of_length_le (by omega), List.take_of_length_le (by omega)]
                obtain ⟨xq, xc, rfl, hx1, hx2⟩ := (own_sl HOX.out).form
                generalize hfl : (next.take m).filter (fun s => mayP s) = fl at *
                have HAx := Lib.hid (HA4.out.fr0 hfx)
                have x0 := cell_of HXX.out 0
                have x1 := cell_of HXX.out 1
                have x2 := cell_of HXX.out 2
                have hxl := lt_of HXX.out
                obtain ⟨iN, hiN, hn0, hn1, hn2⟩ := info_parts infoNode
                have hszw : w.heap.size ≤ wr.heap.size := (hf4.trans0 hfx).size
                have hown2 := HAx.out.row.alloc (.cells #[.int .i64 at_.1, .int .i64 at_.2, .slice xq fl.length xc] tNd)
                have hfin : ∀ (v' : Value) (w9 : World), w9.ownsRow w.heap.size tNd 3 v' (ls.length + 1) (ls.flatMap ndC ++ [.int .i64 at_.1, .int .i64 at_.2, .slice xq fl.length xc]) → (wr.alloc (.cells #[.int .i64 at_.1, .int .i64 at_.2, .slice xq fl.length xc] tNd)).grownBy w9 (Value.slice ql ls.length cl).ownBlock →
                    LsAt w.heap.size w9 v' (ls ++ [⟨at_, xq, xc, fl⟩]) ∧ Fr [] w w9 := fun v' w9 ho hg => by
                  have hfa : Fr [] wr (wr.alloc (.cells #[.int .i64 at_.1, .int .i64 at_.2, .slice xq fl.length xc] tNd)) := (Fr.refl [] wr).alloc _
                  refine ⟨⟨by simpa using ho, fun n hn => ?_⟩, (hf4.trans0 (hfx.trans0 hfa)).grown hg (fun k hk => .inr (hown2.lt k hk).1)⟩
                  rcases List.mem_append.1 hn with hn | hn
                  · have h1 := owns_fr (HAx.out.nx n hn) hfa (by simp)
                    exact owns_fr h1 (fr_grown hg) (own_not h1 hown2 (by decide))
                  · rw [List.mem_singleton] at hn
                    subst hn
                    have h1 := owns_fr HOX.out hfa (by simp)
                    exact owns_mono (owns_fr h1 (fr_grown hg) (own_not h1 hown2 (by decide))) (by have := hf4.size; omega)
                have HFIN := Lib.hid hfin
                have HEQ : Hid (era (ls ++ [⟨at_, xq, xc, fl⟩]) = soundP (era (ns.take (k + 1)))) := by
                  show _ = _
                  rw [HTK.out, HST.out, ← HFE.out]
                  simp [era]
                clear hfin hfl HFE HTK HST
                by_cases hm2 : m < next.length
                · have hm21 : (m : Int) < (next.length : Int) := by omega
                  have hm22 : ¬ (m : Int) < 300 := by omega
                  have hm23 : decide ((m : Int) < 300) = false := decide_eq_false hm22
                  go_wp2_with (at_builtin; refine wpList_append_own _ rfl _ _ 22 rfl w.heap.size tNd iN _ 3 40 Try.underlying22 hiN hn0 hn1 hn2 rfl (by decide) _ _ _ rfl hown2 ⟨wr.heap.size, 0, none⟩ 1 1 [.int .i64 at_.1, .int .i64 at_.2, .slice xq fl.length xc] rfl rfl (by have := news_of wr [.int .i64 at_.1, .int .i64 at_.2, .slice xq fl.length xc] tNd; simpa using this) (fun x hx => by simp at hx; rcases hx with rfl | rfl | rfl <;> rfl) (by unfold maxLen; omega) (by omega) (by simp; omega) ?_; intro v' w9 hown9 hgrow _)
                  have HR9 := Lib.hid (HFIN.out v' w9 hown9 hgrow)
                  clear hown9 hgrow hown2
                  go_wp2
                  go_roundw
                  case rel => exact ⟨k + 1, _, by go_num, by omega, HR9.out.1, HEQ.out, HR9.out.2⟩
                  case measure => simp [intOf]; omega
                · have hm21 : ¬ (m : Int) < (next.length : Int) := by omega
                  obtain rfl : m = next.length := by omega
                  go_wp2_with (at_builtin; refine wpList_append_own _ rfl _ _ 22 rfl w.heap.size tNd iN _ 3 40 Try.underlying22 hiN hn0 hn1 hn2 rfl (by decide) _ _ _ rfl hown2 ⟨wr.heap.size, 0, none⟩ 1 1 [.int .i64 at_.1, .int .i64 at_.2, .slice xq fl.length xc] rfl rfl (by have := news_of wr [.int .i64 at_.1, .int .i64 at_.2, .slice xq fl.length xc] tNd; simpa using this) (fun x hx => by simp at hx; rcases hx with rfl | rfl | rfl <;> rfl) (by unfold maxLen; omega) (by omega) (by simp; omega) ?_; intro v' w9 hown9 hgrow _)
                  have HR9 := Lib.hid (HFIN.out v' w9 hown9 hgrow)
                  clear hown9 hgrow hown2
                  go_wp2
                  go_roundw
                  case rel => exact ⟨k + 1, _, by go_num, by omega, HR9.out.1, HEQ.out, HR9.out.2⟩
                  case measure => simp [intOf]; omega
        · have hmf : mayS at_.1 at_.2 = false := by simpa [mayP] using hmay
          have HST : Hid (soundStep (era ls) (at_, next) = era ls) := by
            show _ = _
            unfold soundStep
            rw [if_neg (fun h => hmay h.2.1)]
          clear hmay
          go_wp2_with fail
          refine (refMay at_ _).mono ?_
          rw [hmf]
          rintro e w3 ⟨rfl, h3⟩
          have hf3 := hf.trans0 h3
          have HA3 := Lib.hid (HA.out.fr0 h3)
          clear h3 hmf c0 c1 c2
          go_wp2
          go_roundw
          case rel => exact ⟨k + 1, ls, by go_num, by omega, HA3.out, by rw [HTK.out, HST.out], hf3⟩
          case measure => simp [intOf]; omega
      · have hl3 : ¬ (ls.length : Int) < 200 := by omega
        have HEE : Hid (era ls = soundP (era ns)) := by
          show _ = _
          have e : soundP (era ns) = ((era (ns.drop k)).foldl soundStep (soundP (era (ns.take k)))) := by
            unfold soundP
            rw [← List.foldl_append]
            congr 1
            rw [← List.map_append, List.take_append_drop]
          rw [e, ← HE.out, sound_full (by simpa using h200)]
        go_wp2
        go_ret
        exact ⟨_, ls, rfl, HA.out, HEE.out, hf⟩
    · obtain rfl : k = ns.length := by omega
      have HEE : Hid (era ls = soundP (era ns)) := by
        have := HE.out
        rw [List.take_length] at this
        exact this
      go_wp2
      go_ret
      exact ⟨_, ls, rfl, HA.out, HEE.out, hf⟩
theorem sound_tot {l : List Pn} (h : SoundOk l) : totP l ≤ 60000 := by
  have key : ∀ l : List Pn, (∀ p ∈ l, p.2.length ≤ 300) → totP l ≤ l.length * 300 := by
    intro l
    induction l with
    | nil => intro _; simp [totP]
    | cons p l ih =>
      intro hl
      have h1 := hl p (by simp)
      have h2 := ih fun q hq => hl q (by simp [hq])
      unfold totP at *
      simp only [List.map_cons, List.sum_cons, List.length_cons, Nat.add_mul]
      omega
  have h1 := key l fun p hp => (h.may p hp).2.1
  have := h.len
  have h2 : l.length * 300 ≤ 200 * 300 := Nat.mul_le_mul_right _ this
  omega
theorem sound_made {l : List Pn} (h : SoundOk l) : madeP l = 0 := by
  unfold madeP
  have h1 := sound_tot h
  have h2 := h.len
  rw [if_neg (by omega), if_neg, if_neg (by simpa using h.nd)]
  simp only [Bool.not_eq_true, List.any_eq_false]
  intro p hp
  obtain ⟨k1, _, k3⟩ := h.may p hp
  unfold badP
  rw [k1]
  simp only [Bool.not_true, Bool.false_or, Bool.not_eq_true, List.any_eq_false]
  intro s hs
  simp [k3 s hs]
structure SoundNs (ns : List Nd) : Prop where
  ok : SoundOk (era ns)
theorem SoundNs.nd {ns : List Nd} (h : SoundNs ns) : (atsN ns).Nodup := by rw [atsN_era]; exact h.ok.nd
theorem SoundNs.len {ns : List Nd} (h : SoundNs ns) : ns.length ≤ 200 := by simpa using h.ok.len
theorem SoundNs.tot {ns : List Nd} (h : SoundNs ns) : ns.length + tot ns ≤ 4194304 := by
  have h1 := sound_tot h.ok
  rw [← tot_era] at h1
  have := h.len
  omega
theorem SoundNs.made {ns : List Nd} (h : SoundNs ns) : madeE ns = 0 := by rw [madeE_era]; exact sound_made h.ok
end
section
open Go.RowKit Go.Shelf Go.Sort Go.Proofs

abbrev markS : List Value := [.int .i64 (-7), .int .i64 0]
abbrev markN : List Value := [.int .i64 (-7), .int .i64 0, .slice none 0 0]
/-- A twin's list: nil, or a row of the call's own with a mark behind it. -/
def TwNx (B : Nat) (w : World) (n : Nd) : Prop := (n.na = none ∧ n.next = []) ∨ ∃ b, n.na = some ⟨b, 0, none⟩ ∧ w.ownsRow B tSp 2 (.slice (some ⟨b, 0, none⟩) (n.next.length + 1) n.nc) (n.next.length + 1) (n.next.flatMap spC ++ markS)
theorem TwNx.fr {B : Nat} {w w1 : World} {n : Nd} (h : TwNx B w n) {S : List Nat} (hf : Fr S w w1) (hS : ∀ b, n.na = some ⟨b, 0, none⟩ → b ∉ S) : TwNx B w1 n := by
  rcases h with h | ⟨b, h1, h2⟩
  · exact .inl h
  · exact .inr ⟨b, h1, owns_fr h2 hf fun k hk => by cases hk; exact hS b h1⟩
theorem TwNx.fr0 {B : Nat} {w w1 : World} {n : Nd} (h : TwNx B w n) (hf : Fr [] w w1) : TwNx B w1 n := h.fr hf (by simp)
theorem TwNx.hp {B : Nat} {w : World} {n : Nd} (h : TwNx B w n) {b : Nat} (hb : n.na = some ⟨b, 0, none⟩) : B ≤ b ∧ ∃ cur, w.heap[b]? = some (.cells cur tSp (0, 0)) := by
  rcases h with h | ⟨c, h1, h2⟩
  · rw [h.1] at hb; cases hb
  · rw [h1] at hb
    cases hb
    exact own_hp h2 rfl
theorem TwNx.frO {B B2 : Nat} {w w1 : World} {n : Nd} (h : TwNx B w n) {e : TypeId} {size m : Nat} {v : Value} {xs : List Value} (ho : w.ownsRow B2 e size v m xs) (hne : tSp ≠ e) (hf : Fr v.ownBlock.toList w w1) : TwNx B w1 n :=
  h.fr hf fun b hb hm => by
    obtain ⟨_, c1, h1⟩ := h.hp hb
    obtain ⟨_, c2, h2⟩ := own_hp ho (g := b) (by simpa using hm)
    rw [h1] at h2
    cases h2
    exact hne rfl
theorem TwNx.spots {B : Nat} {w : World} {n : Nd} (h : TwNx B w n) (hc : n.na = none → n.nc ≤ 9223372036854775807) : SpotsAt w (.slice n.na n.next.length n.nc) n.next := by
  rcases h with ⟨h1, h2⟩ | ⟨b, h1, h2⟩
  · rw [h1, h2]
    exact ⟨by simp, ⟨_, _, rfl, Nat.zero_le _, hc h1⟩, fun h => by simp at h⟩
  · rw [h1]
    refine own_sl (own_take h2 (m := n.next.length) (by omega) ?_)
    rw [List.take_left' (by rw [flat_len spC 2 (fun _ => rfl)])]
/-- A twin of some nodes. -/
structure TwinAt (B : Nat) (w : World) (v : Value) (ls : List Nd) : Prop where
  row : ∃ g cap, v = .slice (some ⟨g, 0, none⟩) ls.length cap ∧ w.ownsRow B tNd 3 (.slice (some ⟨g, 0, none⟩) (ls.length + 1) cap) (ls.length + 1) (ls.flatMap ndC ++ markN)
  nx : ∀ n ∈ ls, TwNx B w n ∧ (n.na = none → n.nc ≤ 9223372036854775807)
theorem TwinAt.fr0 {B : Nat} {w w1 : World} {v : Value} {ls : List Nd} (h : TwinAt B w v ls) (hf : Fr [] w w1) : TwinAt B w1 v ls := by
  obtain ⟨g, cap, e, h1⟩ := h.row
  exact ⟨⟨g, cap, e, owns_fr h1 hf (by simp)⟩, fun n hn => ⟨(h.nx n hn).1.fr0 hf, (h.nx n hn).2⟩⟩
theorem TwinAt.nodes {B : Nat} {w : World} {v : Value} {ls : List Nd} (h : TwinAt B w v ls) : NodesAt w v ls := by
  obtain ⟨g, cap, rfl, h1⟩ := h.row
  refine ⟨own_sl (own_take h1 (m := ls.length) (by omega) ?_), fun n hn => (h.nx n hn).1.spots (h.nx n hn).2⟩
  rw [List.take_left' (by rw [flat_len ndC 3 (fun _ => rfl)])]
def TwinPost (B : Nat) (ps : List Pn) (w : World) (e : Ending) (w1 : World) : Prop := ∃ sv ls, e = .returned sv ∧ TwinAt B w1 sv ls ∧ era ls = ps ∧ Fr [] w w1
theorem nil_len {w : World} {a : Option Addr} {n c : Nat} {l : List Sp} (h : SpotsAt w (.slice a n c) l) (ha : a = none) : l = [] := by
  refine Classical.byContradiction fun hne => ?_
  obtain ⟨b, off, c', e, _, _⟩ := h.cell (List.length_pos_iff.2 hne)
  rw [ha] at e
  cases e
theorem tot_le {ns : List Nd} {n : Nd} (h : n ∈ ns) : n.next.length ≤ tot ns := by
  unfold tot
  induction ns with
  | nil => simp at h
  | cons a ns ih =>
    simp only [List.map_cons, List.sum_cons]
    rcases List.mem_cons.1 h with rfl | h
    · omega
    · have := ih h
      omega

theorem era_snoc (ls : List Nd) (nd : Nd) : era (ls ++ [nd]) = era ls ++ [(nd.at_, nd.next)] := by simp [era]
theorem src_cells {w : World} {a : Addr} {n c : Nat} {l : List Sp} (h : SpotsAt w (.slice (some a) n c) l) (j : Nat) (u : Value) (hu : (l.flatMap spC)[j]? = some u) : w.cell? (a.add j) = some u := by
  have hp : 0 < l.length := by
    refine List.length_pos_iff.2 fun e => ?_
    rw [e] at hu
    simp at hu
  obtain ⟨b, off, c', e, _, hc⟩ := h.cell hp
  cases e
  have ea : (⟨b, off, none⟩ : Addr).add j = ⟨b, off + j, none⟩ := by
    unfold Addr.add
    split
    · rename_i h0; subst h0; rfl
    · rfl
  rw [ea]
  exact hc j u hu
theorem spC_one {l : List Sp} : ∀ u ∈ l.flatMap spC, u.oneCell' = true := fun u hu => by
  obtain ⟨s, _, hs⟩ := List.mem_flatMap.1 hu
  simp at hs
  rcases hs with rfl | rfl <;> rfl
def TwOk (B : Nat) (w : World) (n : Nd) : Prop := TwNx B w n ∧ (n.na = none → n.nc ≤ 9223372036854775807)
theorem TwOk.fr0 {B : Nat} {w w1 : World} {n : Nd} (h : TwOk B w n) (hf : Fr [] w w1) : TwOk B w1 n := ⟨h.1.fr0 hf, h.2⟩
theorem twin_push {B : Nat} {w wy w9 : World} {ql : Option Addr} {cl : Nat} {ls : List Nd} {nd : Nd} {v' : Value} (hO : wy.ownsRow B tNd 3 (.slice ql ls.length cl) ls.length (ls.flatMap ndC)) (hN : ∀ n ∈ ls, TwOk B wy n) (hx : TwOk B wy nd) (hf : Fr [] w wy) (hB : w.heap.size ≤ B)
    (ho : w9.ownsRow B tNd 3 v' (ls.length + 1) (ls.flatMap ndC ++ ndC nd)) (hg : (wy.alloc (.cells (ndC nd).toArray tNd)).grownBy w9 (Value.slice ql ls.length cl).ownBlock) :
    w9.ownsRow B tNd 3 v' (ls ++ [nd]).length ((ls ++ [nd]).flatMap ndC) ∧ (∀ n ∈ ls ++ [nd], TwOk B w9 n) ∧ Fr [] w w9 := by
  have hfa : Fr [] wy (wy.alloc (.cells (ndC nd).toArray tNd)) := (Fr.refl [] wy).alloc _
  have hown2 := owns_fr hO hfa (by simp)
  refine ⟨by simpa using ho, fun n hn => ?_, (hf.trans0 hfa).grown hg (fun k hk => .inr (by have := (hown2.lt k hk).1; omega))⟩
  have h1 : TwOk B wy n := by
    rcases List.mem_append.1 hn with hn | hn
    · exact hN n hn
    · rw [List.mem_singleton] at hn
      rw [hn]
      exact hx
  exact ⟨(h1.1.fr0 hfa).frO hown2 (by decide) (fr_grown hg), h1.2⟩

set_option maxRecDepth 100000 in
set_option maxHeartbeats 3200000 in
theorem twinC (v : Value) (ns : List Nd) (w : World) (hv : NodesAt w v ns) (hB : ns.length + tot ns ≤ 4194304) : Calls Try.prog 10 #[v] w (TwinPost w.heap.size (era ns) w) := by
  obtain ⟨qa, ca, rfl, ha1, ha2⟩ := hv.row.form
  have HV := Lib.hid hv
  have hnl : ns.length ≤ 4194304 := by omega
  have HT : Hid (∀ n ∈ ns, n.next.length ≤ 4194304) := fun n hn => by have := tot_le hn; omega
  clear hv hB
  obtain ⟨i0, hi0, hz0, hz1, hz2⟩ := info_parts infoSpot
  obtain ⟨iN, hiN, hn0, hn1, hn2⟩ := info_parts infoNode
  go_enter Try.func10, Try.ntmps10
  go_wp2_with fail
  go_loopw [3, 4] (fun lv i wr => ∃ (k : Nat) (ls : List Nd), i = .int .i64 (k : Int) ∧ k ≤ ns.length ∧ wr.ownsRow w.heap.size tNd 3 lv ls.length (ls.flatMap ndC) ∧ (∀ n ∈ ls, TwOk w.heap.size wr n) ∧ era ls = era (ns.take k) ∧ Fr [] w wr) (fun _ i _ => ns.length - (intOf i).toNat)
  case atStart => exact ⟨0, [], rfl, by omega, World.ownsRow_nil _ _ _ _, by simp, rfl, Fr.refl _ _⟩
  case round =>
    obtain ⟨k, ls, rfl, hk, hO, hN, hE, hf⟩ := hrel
    have HO := Lib.hid hO
    have HN := Lib.hid hN
    have HE := Lib.hid hE
    have hll : ls.length = k := by
      have := congrArg List.length hE
      simp at this
      omega
    obtain ⟨ql, cl, rfl, hl1, hl2⟩ := (own_sl hO).form
    have hlsl : ls.length ≤ 4194304 := by omega
    have hqX : Hid (∀ k', (Value.slice ql ls.length cl).ownBlock = some k' → k' < wr.heap.size) := fun k' hk' => (hO.lt k' hk').2
    have HLL := Lib.hid hll
    clear hO hN hE hll
    by_cases hlt : k < ns.length
    · have hk1 : (k : Int) < (ns.length : Int) := by omega
      obtain ⟨b, off, _, e, hb, c0, c1, c2⟩ := (HV.out.fr0 hf).cell hlt
      cases e
      have HTK := Lib.hid (List.take_succ_eq_append_getElem hlt)
      have HNX := Lib.hid (HV.out.nx ns[k] (List.getElem_mem hlt))
      have hntl := HT.out ns[k] (List.getElem_mem hlt)
      generalize hndk : ns[k] = nd at *
      obtain ⟨at_, na, nc, next⟩ := nd
      simp only at c0 c1 c2 hntl
      have HC2 : Hid (w.cell? ⟨b, off + k * 3 + 2, none⟩ = some (.slice na next.length nc)) := by
        obtain ⟨b', off', _, e', _, _, _, h2⟩ := HV.out.cell hlt
        cases e'
        rw [hndk] at h2
        exact h2
      have hXn := heap_new wr (.cells #[.int .i64 at_.1, .int .i64 at_.2, .slice na next.length nc] tNd)
      have hfX : Fr [] wr (wr.alloc (.cells #[.int .i64 at_.1, .int .i64 at_.2, .slice na next.length nc] tNd)) := (Fr.refl [] wr).alloc _
      clear hndk
      go_upto_region 6 with fail
      have hsW := hf.size
      have HEQ : ∀ xq xc, Hid (era (ls ++ [⟨at_, xq, xc, next⟩]) = era (ns.take (k + 1))) := fun xq xc => by
        show _ = _
        rw [HTK.out, era_snoc, era_snoc, HE.out]
      have HEQ2 := Lib.hid HEQ
      clear HEQ c0 c1 c2
      cases na with
      | none =>
        have hnn := nil_len HNX.out rfl
        subst hnn
        have hnc : nc ≤ 9223372036854775807 := by
          obtain ⟨_, _, e, h1, h2⟩ := HNX.out.form
          cases e
          exact h2
        have HX := Lib.hid hXn
        have x0 := cell_of hXn 0
        have x1 := cell_of hXn 1
        have x2 := cell_of hXn 2
        have hxl := lt_of hXn
        have hown2 := (owns_fr HO.out hfX (by simp)).alloc (.cells #[.int .i64 at_.1, .int .i64 at_.2, .slice none 0 nc] tNd)
        have HO2 := Lib.hid (owns_fr HO.out hfX (by simp))
        have HN2 : Hid (∀ n ∈ ls, TwOk w.heap.size (wr.alloc (.cells #[.int .i64 at_.1, .int .i64 at_.2, .slice none 0 nc] tNd)) n) := fun n hn => (HN.out n hn).fr0 hfX
        have hf2 := hf.trans0 hfX
        clear hXn hfX
        go_wp2_with (at_builtin; refine wpList_append_own _ rfl _ _ 22 rfl w.heap.size tNd iN _ 3 40 Try.underlying22 hiN hn0 hn1 hn2 rfl (by decide) _ _ _ rfl hown2 ⟨wr.heap.size + 1, 0, none⟩ 1 1 [.int .i64 at_.1, .int .i64 at_.2, .slice none 0 nc] rfl rfl (by have := news_of (wr.alloc (.cells #[.int .i64 at_.1, .int .i64 at_.2, .slice none 0 nc] tNd)) [.int .i64 at_.1, .int .i64 at_.2, .slice none 0 nc] tNd; simpa using this) (fun x hx => by simp at hx; rcases hx with rfl | rfl | rfl <;> rfl) (by unfold maxLen; omega) (by omega) (by simp; omega) ?_; intro v' w9 hown9 hgrow _)
        have HR := Lib.hid (twin_push (nd := ⟨at_, none, nc, []⟩) HO2.out HN2.out ⟨.inl ⟨rfl, rfl⟩, fun _ => hnc⟩ hf2 (Nat.le_refl _) hown9 hgrow)
        clear hown9 hgrow hown2 x0 x1 x2
        go_wp2
        go_roundw
        case rel => exact ⟨k + 1, _, by go_num, by omega, HR.out.1, HR.out.2.1, (HEQ2.out none nc).out, HR.out.2.2⟩
        case measure => simp [intOf]; omega
      | some a =>
        have HX := Lib.hid hXn
        have x2 := cell_of hXn 2
        have hxl := lt_of hXn
        have HO2 := Lib.hid (owns_fr HO.out hfX (by simp))
        have HN2 : Hid (∀ n ∈ ls, TwOk w.heap.size (wr.alloc (.cells #[.int .i64 at_.1, .int .i64 at_.2, .slice (some a) next.length nc] tNd)) n) := fun n hn => (HN.out n hn).fr0 hfX
        have hf2 := hf.trans0 hfX
        have HS2 := Lib.hid (HNX.out.fr0 hf2)
        have hsX : w.heap.size ≤ (wr.alloc (.cells #[.int .i64 at_.1, .int .i64 at_.2, .slice (some a) next.length nc] tNd)).heap.size := hf2.size
        clear hXn hfX HO HN
        generalize hWX : wr.alloc (.cells #[.int .i64 at_.1, .int .i64 at_.2, .slice (some a) next.length nc] tNd) = WX at *
        have hXl2 : Hid (w.heap.size ≤ wr.heap.size) := hsW
        generalize hXe : wr.heap.size = X at *
        clear hWX hXe
        have hnil : WX.ownsRow WX.heap.size tSp 2 (.slice none 0 0) 0 [] := World.ownsRow_nil _ _ _ _
        go_upto_region 8 with (at_builtin; refine wpList_append_own _ rfl _ _ 30 rfl WX.heap.size tSp i0 _ 2 16 Try.underlying30 hi0 hz0 hz1 hz2 rfl (by decide) _ _ _ rfl hnil a next.length nc (next.flatMap spC) rfl (flat_len spC 2 (fun _ => rfl) _) (src_cells HS2.out) spC_one (by unfold maxLen; omega) (by omega) (Nat.le_refl _) ?_; intro v' w8 hown8 hgrow8 _)
        have hf8 : Fr [] WX w8 := (Fr.refl [] WX).grown hgrow8 (fun k' hk' => by cases hk')
        have hown8' : w8.ownsRow WX.heap.size tSp 2 v' next.length (next.flatMap spC) := by simpa using hown8
        have hown8m := hown8'.alloc (.cells #[.int .i64 (-7), .int .i64 0] tSp)
        have hs8 := hf8.size
        clear hown8 hgrow8 x2 hnil
        go_upto_region 9 with (at_builtin; refine wpList_append_own _ rfl _ _ 30 rfl WX.heap.size tSp i0 _ 2 16 Try.underlying30 hi0 hz0 hz1 hz2 rfl (by decide) _ _ _ rfl hown8m ⟨w8.heap.size, 0, none⟩ 1 1 markS rfl rfl (by have := news_of w8 markS tSp; simpa using this) (fun x hx => by simp at hx; rcases hx with rfl | rfl <;> rfl) (by unfold maxLen; omega) (by omega) (by simp; omega) ?_; intro v' w9 hown9 hgrow9 _)
        have hf9 : Fr [] WX w9 := (hf8.alloc _).grown hgrow9 (fun k' hk' => .inr (by have := (hown8m.lt k' hk').1; omega))
        obtain ⟨g9, c9, rfl, hg91, hg92⟩ := hown9.form (by omega)
        obtain ⟨_, _, e, hc91, hc92⟩ := (own_sl hown9).form
        cases e
        have hX9 := hf9.heap HX.out (by simp)
        have hXc := cell_of hX9
        have hXf := free_of hX9
        have hXl := lt_of hX9
        have hc93 : (next.length : Int) ≤ (c9 : Int) := by omega
        have hc94 : (c9 : Int) ≤ 9223372036854775807 := by omega
        have HO9 := Lib.hid (owns_fr HO2.out hf9 (by simp))
        have HN9 : Hid (∀ n ∈ ls, TwOk w.heap.size w9 n) := fun n hn => (HN2.out n hn).fr0 hf9
        have HX9 := Lib.hid hX9
        have HW9 := Lib.hid hown9
        have hF9 := hf2.trans0 hf9
        have c2b : w9.cell? ⟨b, off + k * 3 + 2, none⟩ = some (.slice (some a) next.length nc) := ce_call hF9 HC2.out
        have x2 := hXc 2
        have x2f := hXf 2
        clear hown9 hgrow9 hown8m hown8' hf8 hX9 hXc hXf hs8
        go_upto_region 10 with fail
        have hfS : Fr [X] w9 (w9.setCell ⟨X, 2, none⟩ (.slice (some ⟨g9, 0, none⟩) next.length c9)) := fr_cell _ _ _ _
        have hXS : (w9.setCell ⟨X, 2, none⟩ (.slice (some ⟨g9, 0, none⟩) next.length c9)).heap[X]? = some (.cells #[.int .i64 at_.1, .int .i64 at_.2, .slice (some ⟨g9, 0, none⟩) next.length c9] tNd (0, 0)) := by
          rw [set_of HX9.out]
          rfl
        have HOS := Lib.hid (owns_fr HO9.out hfS (fun k' hk' hm => by have := hqX.out k' hk'; simp at hm; omega))
        have HNS : Hid (∀ n ∈ ls, TwOk w.heap.size (w9.setCell ⟨X, 2, none⟩ (.slice (some ⟨g9, 0, none⟩) next.length c9)) n) := fun n hn => ⟨(HN9.out n hn).1.fr hfS (fun b' hb' hm => by
          obtain ⟨_, cur, h1⟩ := (HN9.out n hn).1.hp hb'
          rw [List.mem_singleton] at hm
          rw [hm, HX9.out] at h1
          cases h1), (HN9.out n hn).2⟩
        have hne9 : ∀ k', (Value.slice (some ⟨g9, 0, none⟩) (next.length + 1) c9).ownBlock = some k' → k' ∉ [X] := fun k' hk' hm => own_box HW9.out HX9.out (by decide) k' hk' (by simpa using hm)
        have HWS : Hid (TwOk w.heap.size (w9.setCell ⟨X, 2, none⟩ (.slice (some ⟨g9, 0, none⟩) next.length c9)) ⟨at_, some ⟨g9, 0, none⟩, c9, next⟩) := ⟨.inr ⟨g9, rfl, owns_mono (owns_fr HW9.out hfS hne9) hsX⟩, fun h => by cases h⟩
        have hFS := hF9.setCell (p := ⟨X, 2, none⟩) (.inr hXl2.out) (.slice (some ⟨g9, 0, none⟩) next.length c9)
        clear hfS hne9 x2 x2f c2b hXl
        generalize w9.setCell ⟨X, 2, none⟩ (.slice (some ⟨g9, 0, none⟩) next.length c9) = WS at *
        have HXS := Lib.hid hXS
        have x0 := cell_of hXS 0
        have x1 := cell_of hXS 1
        have x2 := cell_of hXS 2
        have hxl2 := lt_of hXS
        have hown2 := HOS.out.alloc (.cells #[.int .i64 at_.1, .int .i64 at_.2, .slice (some ⟨g9, 0, none⟩) next.length c9] tNd)
        have hsS := hFS.size
        clear hXS
        go_wp2_with (at_builtin; refine wpList_append_own _ rfl _ _ 22 rfl w.heap.size tNd iN _ 3 40 Try.underlying22 hiN hn0 hn1 hn2 rfl (by decide) _ _ _ rfl hown2 ⟨WS.heap.size, 0, none⟩ 1 1 [.int .i64 at_.1, .int .i64 at_.2, .slice (some ⟨g9, 0, none⟩) next.length c9] rfl rfl (by have := news_of WS [.int .i64 at_.1, .int .i64 at_.2, .slice (some ⟨g9, 0, none⟩) next.length c9] tNd; simpa using this) (fun x hx => by simp at hx; rcases hx with rfl | rfl | rfl <;> rfl) (by unfold maxLen; omega) (by omega) (by simp; omega) ?_; intro v'' w11 hown11 hgrow11 _)
        have HR := Lib.hid (twin_push (nd := ⟨at_, some ⟨g9, 0, none⟩, c9, next⟩) HOS.out HNS.out HWS.out hFS (Nat.le_refl _) hown11 hgrow11)
        clear hown11 hgrow11 hown2 x0 x1 x2
        go_wp2
        go_roundw
        case rel => exact ⟨k + 1, _, by go_num, by omega, HR.out.1, HR.out.2.1, (HEQ2.out (some ⟨g9, 0, none⟩) c9).out, HR.out.2.2⟩
        case measure => simp [intOf]; omega
    · obtain rfl : k = ns.length := by omega
      have HEE : Hid (era ls = era ns) := by
        have := HE.out
        rwa [List.take_length] at this
      have hown2 := HO.out.alloc (.cells #[.int .i64 (-7), .int .i64 0, .slice none 0 0] tNd)
      have hsr := hf.size
      have hlln : Hid (ls.length = ns.length) := HLL.out
      go_wp2_with (at_builtin; refine wpList_append_own _ rfl _ _ 22 rfl w.heap.size tNd iN _ 3 40 Try.underlying22 hiN hn0 hn1 hn2 rfl (by decide) _ _ _ rfl hown2 ⟨wr.heap.size, 0, none⟩ 1 1 markN rfl rfl (by have := news_of wr markN tNd; simpa using this) (fun x hx => by simp at hx; rcases hx with rfl | rfl | rfl <;> rfl) (by unfold maxLen; omega) (by omega) (by simp; omega) ?_; intro v' w9 hown9 hgrow9 _; obtain ⟨g9, c9, rfl, hg91, hg92⟩ := hown9.form (by omega); have hcc := (own_sl hown9).form; obtain ⟨_, _, e, hc91, hc92⟩ := hcc; cases e; have hc93 : (ns.length : Int) ≤ (c9 : Int) := (by have := hlln.out; omega); have hc94 : (c9 : Int) ≤ 9223372036854775807 := (by omega))
      have hfa : Fr [] wr (wr.alloc (.cells #[.int .i64 (-7), .int .i64 0, .slice none 0 0] tNd)) := (Fr.refl [] wr).alloc _
      have HFR : Hid (Fr [] w w9) := (hf.trans0 hfa).grown hgrow9 (fun k' hk' => .inr (by have := (hown2.lt k' hk').1; omega))
      have HTW : Hid (TwinAt w.heap.size w9 (.slice (some ⟨g9, 0, none⟩) ns.length c9) ls) := ⟨⟨g9, c9, by rw [hlln.out], hown9⟩, fun n hn => ⟨((HN.out n hn).1.fr0 hfa).frO hown2 (by decide) (fr_grown hgrow9), (HN.out n hn).2⟩⟩
      clear hown9 hgrow9 hown2 hfa
      go_ret
      exact ⟨_, ls, rfl, HTW.out, HEE.out, HFR.out⟩
end
section
open Go.RowKit Go.Shelf Go.Sort Go.Proofs

open Classical in
/-- Is a place come to by one step or more? -/
noncomputable def reachB (g : Dg) (a j : Nat) : Bool := decide (Rch1 g a j)
theorem reachB_true {g : Dg} {a j : Nat} : reachB g a j = true ↔ Rch1 g a j := by unfold reachB; simp
/-- Those that have been come to. -/
structure Rc (g : Dg) (a n : Nat) (T : List Nat) (sn : Nat → Bool) : Prop where
  nd : T.Nodup
  mem : ∀ j, sn j = true ↔ j ∈ T
  lt : ∀ x ∈ T, x < n
  rch : ∀ x ∈ T, Rch1 g a x
theorem Rc.nil (g : Dg) (a n : Nat) : Rc g a n [] fun _ => false := ⟨by simp, by simp, by simp, by simp⟩
theorem Rc.len {g : Dg} {a n : Nat} {T : List Nat} {sn : Nat → Bool} (h : Rc g a n T sn) : T.length ≤ n := nodup_lt h.nd h.lt
theorem Rc.put {g : Dg} {a n : Nat} {T : List Nat} {sn : Nat → Bool} (h : Rc g a n T sn) {c j : Nat} (hc : c ∈ a :: T) (hj : j ∈ nxs g c) (hn : j < n) (h0 : sn j = false) : Rc g a n (T ++ [j]) (upd sn j true) := by
  have hjT : j ∉ T := fun hm => by have := (h.mem j).2 hm; rw [h0] at this; cases this
  refine ⟨List.nodup_append.2 ⟨h.nd, by simp, fun x hx y hy e => ?_⟩, fun x => ?_, fun x hx => ?_, fun x hx => ?_⟩
  · rw [List.mem_singleton] at hy
    exact hjT (by rw [← hy, ← e]; exact hx)
  · rw [List.mem_append, List.mem_singleton]
    by_cases e : x = j
    · rw [e, upd_same]; simp
    · rw [upd_other e, h.mem x]
      simp [e]
  · rcases List.mem_append.1 hx with hx | hx
    · exact h.lt x hx
    · rw [List.mem_singleton] at hx; rw [hx]; exact hn
  · rcases List.mem_append.1 hx with hx | hx
    · exact h.rch x hx
    · rw [List.mem_singleton] at hx
      rw [hx]
      rcases List.mem_cons.1 hc with rfl | hc
      · exact ⟨j, hj, Rch.refl _⟩
      · exact (h.rch c hc).trans_r (Rch.one hj)
theorem Rc.done {g : Dg} {a n : Nat} {T : List Nat} {sn : Nat → Bool} (h : Rc g a n T sn) (hcl : ∀ c ∈ a :: T, ∀ u ∈ nxs g c, sn u = true) (j : Nat) : sn j = reachB g a j := by
  rw [Bool.eq_iff_iff, reachB_true]
  constructor
  · intro hj
    exact h.rch j ((h.mem j).1 hj)
  · rintro ⟨c, hc, hr⟩
    have h0 := hcl a (by simp) c hc
    induction hr with
    | refl => exact h0
    | step _ hu ih => exact hcl _ (List.mem_cons_of_mem _ ((h.mem _).1 ih)) _ hu
def ReachPost (g : Dg) (a n B : Nat) (w : World) (e : Ending) (w1 : World) : Prop := ∃ S, e = .returned (.slice (some ⟨S, 0, none⟩) n n) ∧ B ≤ S ∧ w1.rowIs S tB n (fun j => .bool (reachB g a j)) ∧ Fr [] w w1

/-- On the way: the first m of the list are done. -/
structure RcW (ns : List Nd) (a m : Nat) (T : List Nat) (sn : Nat → Bool) : Prop where
  rc : Rc (uG (era ns)) a ns.length T sn
  le : m ≤ T.length + 1
  cl : ∀ x ∈ (a :: T).take m, ∀ u ∈ nxs (uG (era ns)) x, sn u = true
/-- Within: the first q entries of the m-th one are done. -/
structure RcI (ns : List Nd) (a m c : Nat) (next : List Sp) (q : Nat) (T : List Nat) (sn : Nat → Bool) : Prop where
  rc : Rc (uG (era ns)) a ns.length T sn
  at' : (a :: T)[m]? = some c
  cl : ∀ x ∈ (a :: T).take m, ∀ u ∈ nxs (uG (era ns)) x, sn u = true
  ent : ∀ s ∈ next.take q, ∀ u (hu : u < ns.length), ns[u].at_ = s → sn u = true
theorem RcW.lt {ns : List Nd} {a m : Nat} {T : List Nat} {sn : Nat → Bool} (h : RcW ns a m T sn) (ha : a < ns.length) : ∀ x ∈ a :: T, x < ns.length := fun x hx => by
  rcases List.mem_cons.1 hx with rfl | hx
  · exact ha
  · exact h.rc.lt x hx
theorem RcW.begin {ns : List Nd} {a m c : Nat} {T : List Nat} {sn : Nat → Bool} {next : List Sp} (h : RcW ns a m T sn) (hc : (a :: T)[m]? = some c) : RcI ns a m c next 0 T sn := ⟨h.rc, hc, h.cl, by simp⟩
theorem RcI.next {ns : List Nd} {a m c q : Nat} {T : List Nat} {sn : Nat → Bool} {next : List Sp} (h : RcI ns a m c next q T sn) {s : Sp} (hs : next[q]? = some s) (hd : ∀ u (hu : u < ns.length), ns[u].at_ = s → sn u = true) : RcI ns a m c next (q + 1) T sn := by
  refine ⟨h.rc, h.at', h.cl, fun x hx u hu e => ?_⟩
  have e1 : next.take (q + 1) = next.take q ++ [s] := by rw [List.take_add_one, hs]; rfl
  rw [e1] at hx
  rcases List.mem_append.1 hx with hx | hx
  · exact h.ent x hx u hu e
  · rw [List.mem_singleton] at hx
    exact hd u hu (e.trans hx)
theorem RcI.put {ns : List Nd} {a m c q j : Nat} {T : List Nat} {sn : Nat → Bool} {next : List Sp} (h : RcI ns a m c next q T sn) {s : Sp} (hs : next[q]? = some s) (hnd : (atsN ns).Nodup) (hj : j < ns.length) (hjs : ns[j].at_ = s) (hc : c < ns.length) (hcn : ns[c].next = next) (h0 : sn j = false) : RcI ns a m c next (q + 1) (T ++ [j]) (upd sn j true) := by
  have hm : m < (a :: T).length := (List.getElem?_eq_some_iff.1 h.at').1
  have hcm : c ∈ a :: T := List.mem_of_getElem? h.at'
  have hjn : j ∈ nxs (uG (era ns)) c := (uG_nx (by simpa using hc)).2 ⟨by simpa using hj, by
    simp only [List.getElem_map]
    rw [hjs, hcn]
    exact List.mem_of_getElem? hs⟩
  have hmono : ∀ u, sn u = true → upd sn j true u = true := fun u hu => by
    unfold upd
    split
    · rfl
    · exact hu
  have e0 : a :: (T ++ [j]) = (a :: T) ++ [j] := rfl
  refine ⟨h.rc.put hcm hjn hj h0, by rw [e0, List.getElem?_append_left hm]; exact h.at', fun x hx u hu => ?_, fun x hx u hu e => ?_⟩
  · rw [e0, List.take_append_of_le_length (by omega)] at hx
    exact hmono u (h.cl x hx u hu)
  · have e1 : next.take (q + 1) = next.take q ++ [s] := by rw [List.take_add_one, hs]; rfl
    rw [e1] at hx
    rcases List.mem_append.1 hx with hx | hx
    · exact hmono u (h.ent x hx u hu e)
    · rw [List.mem_singleton] at hx
      have e2 : (atsN ns)[u]'(by simpa [atsN] using hu) = (atsN ns)[j]'(by simpa [atsN] using hj) := by
        rw [atsN_get, atsN_get, e, hx, hjs]
      rw [(List.getElem_inj hnd).1 e2, upd_same]
theorem RcI.done {ns : List Nd} {a m c : Nat} {T : List Nat} {sn : Nat → Bool} {next : List Sp} (h : RcI ns a m c next next.length T sn) (hc : c < ns.length) (hcn : ns[c].next = next) : RcW ns a (m + 1) T sn := by
  have hm : m < (a :: T).length := (List.getElem?_eq_some_iff.1 h.at').1
  refine ⟨h.rc, by simp at hm; omega, fun x hx u hu => ?_⟩
  have e1 : (a :: T).take (m + 1) = (a :: T).take m ++ [c] := by rw [List.take_add_one, h.at']; rfl
  rw [e1] at hx
  rcases List.mem_append.1 hx with hx | hx
  · exact h.cl x hx u hu
  · rw [List.mem_singleton] at hx
    rw [hx] at hu
    obtain ⟨h1, h2⟩ := (uG_nx (by simpa using hc)).1 hu
    have h1' : u < ns.length := by simpa using h1
    refine h.ent ns[u].at_ ?_ u h1' rfl
    rw [List.take_length, ← hcn]
    simpa using h2
theorem RcW.all {ns : List Nd} {a : Nat} {T : List Nat} {sn : Nat → Bool} (h : RcW ns a (T.length + 1) T sn) (j : Nat) : sn j = reachB (uG (era ns)) a j :=
  h.rc.done (fun c hc u hu => h.cl c (by rw [show T.length + 1 = (a :: T).length from rfl, List.take_length]; exact hc) u hu) j

set_option maxRecDepth 100000 in
set_option maxHeartbeats 3200000 in
theorem reachC (v : Value) (ns : List Nd) (a : Nat) (w : World) (hv : NodesAt w v ns) (hn : (atsN ns).Nodup) (hl : ns.length ≤ 65536) (ha : a < ns.length) : Calls Try.prog 13 #[v, .int .i64 (a : Int)] w (ReachPost (uG (era ns)) a ns.length w.heap.size w) := by
  obtain ⟨qa, ca, rfl, ha1, ha2⟩ := hv.row.form
  have HV := Lib.hid hv
  have HND := Lib.hid hn
  have hal : (atsN ns).length = ns.length := by simp [atsN]
  have HAL := Lib.hid hal
  clear hv hn hal
  obtain ⟨i0, hi0, hz0, hz1, hz2⟩ := info_parts infoInt
  have hmB := mkB ns.length (by omega)
  go_enter Try.func13, Try.ntmps13
  go_wp2_with fail
  have hfr0 : Fr [] w ((w.alloc (.cells (Array.replicate ns.length (.bool false)) tB)).alloc (.cells #[.int .i64 (a : Int)] tI)) := ((Fr.refl [] w).alloc _).alloc _
  have hR0 : ((w.alloc (.cells (Array.replicate ns.length (.bool false)) tB)).alloc (.cells #[.int .i64 (a : Int)] tI)).rowIs w.heap.size tB ns.length (fun _ => .bool false) := row_new (hp_old (heap_new w _))
  have hL0 : ((w.alloc (.cells (Array.replicate ns.length (.bool false)) tB)).alloc (.cells #[.int .i64 (a : Int)] tI)).ownsRow (w.heap.size + 1) tI 1 (.slice (some ⟨w.heap.size + 1, 0, none⟩) 1 1) [a].length ([a].flatMap nC) :=
    ⟨rfl, .inr ⟨w.heap.size + 1, 1, #[.int .i64 (a : Int)], rfl, Nat.le_refl _, hp_new (by simp), Nat.le_refl _, by decide, rfl, rfl⟩⟩
  have hS0 : w.heap.size + 2 ≤ ((w.alloc (.cells (Array.replicate ns.length (.bool false)) tB)).alloc (.cells #[.int .i64 (a : Int)] tI)).heap.size := by simp
  have HR0 := Lib.hid hR0
  have HL0 := Lib.hid hL0
  have HB : Hid (w.heap.size ≤ w.heap.size) := Nat.le_refl _
  have HW0 : Hid (RcW ns a 0 [] fun _ => false) := ⟨Rc.nil _ _ _, by simp, by simp⟩
  clear hR0 hL0 hmB
  generalize (w.alloc (.cells (Array.replicate ns.length (.bool false)) tB)).alloc (.cells #[.int .i64 (a : Int)] tI) = W0 at *
  obtain ⟨S, hSe⟩ : ∃ S, w.heap.size = S := ⟨_, rfl⟩
  rw [hSe] at HR0 HL0 hS0 HB ⊢
  have HSE := Lib.hid hSe
  have hwS : w.heap.size ≤ S := Nat.le_of_eq hSe
  clear hSe HB
  go_loopw [6, 7] (fun lv i wr => ∃ (m : Nat) (T : List Nat) (sn : Nat → Bool), i = .int .i64 (m : Int) ∧ RcW ns a m T sn ∧ wr.rowIs S tB ns.length (fun j => .bool (sn j)) ∧ wr.ownsRow (S + 1) tI 1 lv (a :: T).length ((a :: T).flatMap nC) ∧ Fr [] w wr ∧ S + 2 ≤ wr.heap.size) (fun _ i _ => ns.length + 1 - (intOf i).toNat)
  case atStart => exact ⟨0, [], _, rfl, HW0.out, HR0.out, HL0.out, hfr0, hS0⟩
  case round =>
    obtain ⟨m, T, sn, rfl, hW, hR, hL, hf, hS⟩ := hrel
    have HW := Lib.hid hW
    have HR := Lib.hid hR
    have HL := Lib.hid hL
    have hTl : T.length ≤ ns.length := hW.rc.len
    have hml : m ≤ T.length + 1 := hW.le
    obtain ⟨lq, lc, hlv, hlq1, hlq2⟩ := (own_sl hL).form
    have hlen : (a :: T).length = T.length + 1 := rfl
    rw [hlen] at hlv hlq1
    subst hlv
    clear hW hR hL
    by_cases hm : m < T.length + 1
    · obtain ⟨c, hc⟩ : ∃ c, (a :: T)[m]? = some c := ⟨_, List.getElem?_eq_getElem (by simpa using hm)⟩
      obtain ⟨lb, lo, _, e, hlb, cl0⟩ := nums_cell (own_sl HL.out) (k := m) (by simpa using hm)
      cases e
      have hcm : (a :: T)[m]'(by simpa using hm) = c := by
        rw [List.getElem?_eq_getElem (by simpa using hm)] at hc
        exact Option.some.inj hc
      rw [hcm] at cl0
      have hcn : c < ns.length := HW.out.lt ha c (List.mem_of_getElem? hc)
      have hc1 : (c : Int) < (ns.length : Int) := by omega
      obtain ⟨b, off, _, e, hb, _, _, c2⟩ := (HV.out.fr0 hf).cell hcn
      cases e
      have HNX := Lib.hid (HV.out.nx ns[c] (List.getElem_mem hcn))
      have HCN : Hid (∀ x, ns[c].next = x → ns[c].next = x) := fun _ h => h
      obtain ⟨next, hnext⟩ : ∃ x, ns[c].next = x := ⟨_, rfl⟩
      obtain ⟨na, hna⟩ : ∃ x, ns[c].na = x := ⟨_, rfl⟩
      obtain ⟨nc, hnc⟩ : ∃ x, ns[c].nc = x := ⟨_, rfl⟩
      rw [hnext, hna, hnc] at c2 HNX
      obtain ⟨_, _, e, hnx1, hnx2⟩ := HNX.out.form
      cases e
      have HNE := Lib.hid hnext
      have HBG := Lib.hid (HW.out.begin (next := next) hc)
      have hm1 : (m : Int) < (T.length : Int) + 1 := by omega
      clear hcm hnext hna hnc HCN hc
      go_upto_block 2 with fail
      clear cl0 c2
      go_wp2_with fail
      go_loopw [6, 9] (fun lv k wx => ∃ (q : Nat) (T : List Nat) (sn : Nat → Bool), k = .int .i64 (q : Int) ∧ q ≤ next.length ∧ RcI ns a m c next q T sn ∧ wx.rowIs S tB ns.length (fun j => .bool (sn j)) ∧ wx.ownsRow (S + 1) tI 1 lv (a :: T).length ((a :: T).flatMap nC) ∧ Fr [] w wx ∧ S + 2 ≤ wx.heap.size) (fun _ k _ => next.length - (intOf k).toNat)
      case atStart => exact ⟨0, T, sn, rfl, by omega, HBG.out, HR.out, HL.out, hf, hS⟩
      case round =>
        obtain ⟨q, T2, sn2, rfl, hq, hI, hR2, hL2, hf2, hS2⟩ := hrel
        have HI := Lib.hid hI
        have HR2 := Lib.hid hR2
        have HL2 := Lib.hid hL2
        have hT2 : T2.length ≤ ns.length := hI.rc.len
        obtain ⟨lq2, lc2, hlv2, hlr1, hlr2⟩ := (own_sl hL2).form
        have hlen2 : (a :: T2).length = T2.length + 1 := rfl
        rw [hlen2] at hlv2 hlr1
        subst hlv2
        clear hI hR2 hL2
        by_cases hql : q < next.length
        · have hql1 : (q : Int) < (next.length : Int) := by omega
          obtain ⟨nb, no, _, e, hnb, d0, d1⟩ := spots_cell (HNX.out.fr0 hf2) hql
          cases e
          obtain ⟨s, hs⟩ : ∃ s, next[q]? = some s := ⟨_, List.getElem?_eq_getElem hql⟩
          have hsq : next[q] = s := by
            rw [List.getElem?_eq_getElem hql] at hs
            exact Option.some.inj hs
          rw [hsq] at d0 d1
          have HS := Lib.hid hs
          clear hs hsq
          by_cases hin : s ∈ atsN ns
          · obtain ⟨j, hj⟩ : ∃ j, (atsN ns).idxOf s = j := ⟨_, rfl⟩
            have hfi : findI (atsN ns) s = (j : Int) := by unfold findI; rw [if_pos hin, hj]
            have hjl := List.idxOf_lt_length_of_mem hin
            have hjs := List.getElem_idxOf hjl
            rw [HAL.out] at hjl
            rw [hj] at hjl
            have hjs' : ns[j].at_ = s := by
              rw [← hjs, atsN_get]
              simp only [hj]
            have hjl1 : (j : Int) < (ns.length : Int) := by omega
            have t0 := HR2.out.cell hjl
            have t1 := HR2.out.frozen j
            have t2 := HR2.out.lt
            have HJS := Lib.hid hjs'
            clear hin hj hjs hjs'
            by_cases hsn : sn2 j = true
            · have HNXT : Hid (RcI ns a m c next (q + 1) T2 sn2) := HI.out.next HS.out fun u hu e => by
                have e2 : (atsN ns)[u]'(by simpa [atsN] using hu) = (atsN ns)[j]'(by simpa [atsN] using hjl) := by
                  rw [atsN_get, atsN_get, e, HJS.out]
                rw [(List.getElem_inj HND.out).1 e2]
                exact hsn
              rw [hsn] at t0
              clear hsn
              go_wp2_with fail
              refine (findC _ ns s _ (HV.out.fr0 hf2).row).mono ?_
              rw [hfi]
              rintro e w3 ⟨rfl, h3⟩
              have t0 := ce_call h3 t0
              have hR3 := Lib.hid (row_fr HR2.out h3 (by simp))
              have hL3 := Lib.hid (owns_fr HL2.out h3 (by simp))
              have hf3 := hf2.trans0 h3
              have hS3 := Nat.le_trans hS2 h3.size
              have hpick : decide ((0 : Int) ≤ (j : Int)) = true := decide_eq_true (by omega)
              clear h3 hfi t1 t2 d0 d1
              go_wp2
              go_roundw
              case rel => exact ⟨q + 1, T2, sn2, by go_num, by omega, HNXT.out, hR3.out, hL3.out, hf3, hS3⟩
              case measure => simp [intOf]; omega
            · have hsn0 : sn2 j = false := by simpa using hsn
              have HPUT : Hid (RcI ns a m c next (q + 1) (T2 ++ [j]) (upd sn2 j true)) := HI.out.put HS.out HND.out hjl HJS.out hcn HNE.out hsn0
              rw [hsn0] at t0
              clear hsn hsn0
              go_wp2_with fail
              refine (findC _ ns s _ (HV.out.fr0 hf2).row).mono ?_
              rw [hfi]
              rintro e w3 ⟨rfl, h3⟩
              have t0 := ce_call h3 t0
              have hR3 := row_fr HR2.out h3 (by simp)
              have t1 := hR3.frozen j
              have t2 := hR3.lt
              have hL3 := Lib.hid (owns_fr HL2.out h3 (by simp))
              have hf3 := hf2.trans0 h3
              have hS3 := Nat.le_trans hS2 h3.size
              have HR3 := Lib.hid hR3
              have hpick : decide ((0 : Int) ≤ (j : Int)) = true := decide_eq_true (by omega)
              clear h3 hfi d0 d1 hR3
              go_upto_region 13 with fail
              have hfS : Fr [S] w3 (w3.setCell ⟨S, j, none⟩ (.bool true)) := fr_cell _ _ _ _
              have HRS : Hid ((w3.setCell ⟨S, j, none⟩ (.bool true)).rowIs S tB ns.length fun x => .bool (upd sn2 j true x)) := (HR3.out.set j (.bool true)).congr fun x _ => by simp only [upd]; split <;> rfl
              have hLS := owns_fr hL3.out hfS (own_low hL3.out (Nat.lt_succ_self S))
              have hFS := hf3.setCell (p := ⟨S, j, none⟩) (.inr hwS) (.bool true)
              have hSS := Nat.le_trans hS3 hfS.size
              have HLS := Lib.hid hLS
              clear hfS hLS t0 t1 t2
              generalize w3.setCell ⟨S, j, none⟩ (.bool true) = WS at *
              have hown2 := HLS.out.alloc (.cells #[.int .i64 (j : Int)] tI)
              go_wp2_with (at_builtin; refine wpList_append_own _ rfl _ _ 29 rfl (S + 1) tI i0 _ 1 8 Try.underlying29 hi0 hz0 hz1 hz2 rfl (by decide) _ _ _ rfl hown2 ⟨WS.heap.size, 0, none⟩ 1 1 (nC j) rfl rfl (by have := news_of WS (nC j) tI; simpa using this) (one_mem rfl) (by simp; unfold maxLen; omega) (by simp; omega) (by simp; omega) ?_; intro v' w9 hown9 hgrow _)
              have hfa : Fr [] WS (WS.alloc (.cells #[.int .i64 (j : Int)] tI)) := (Fr.refl [] WS).alloc _
              have HR9 := Lib.hid (row_fr (row_fr HRS.out hfa (by simp)) (fr_grown hgrow) (low_not hown2 (Nat.lt_succ_self S)))
              have HF9 : Fr [] w w9 := (hFS.trans0 hfa).grown hgrow (fun k' hk' => .inr (by have := (hown2.lt k' hk').1; omega))
              have hS9 : S + 2 ≤ w9.heap.size := by
                have := hgrow.size
                simp at this
                omega
              have HL9 : Hid (w9.ownsRow (S + 1) tI 1 v' (a :: (T2 ++ [j])).length ((a :: (T2 ++ [j])).flatMap nC)) := by
                show World.ownsRow _ _ _ _ _ _ _
                have e1 : (a :: (T2 ++ [j])).length = (a :: T2).length + 1 := by simp
                have e2 : (a :: (T2 ++ [j])).flatMap nC = (a :: T2).flatMap nC ++ nC j := by simp
                rw [e1, e2]
                exact hown9
              clear hown9 hgrow hown2 hfa
              go_wp2
              go_roundw
              case rel => exact ⟨q + 1, T2 ++ [j], upd sn2 j true, by go_num, by omega, HPUT.out, HR9.out, HL9.out, HF9, hS9⟩
              case measure => simp [intOf]; omega
          · have hfi : findI (atsN ns) s = -1 := by unfold findI; rw [if_neg hin]
            have HNXT : Hid (RcI ns a m c next (q + 1) T2 sn2) := HI.out.next HS.out fun u hu e => by
              refine absurd ?_ hin
              rw [← e, ← atsN_get ns u (by simpa [atsN] using hu)]
              exact List.getElem_mem _
            clear hin
            go_wp2_with fail
            refine (findC _ ns s _ (HV.out.fr0 hf2).row).mono ?_
            rw [hfi]
            rintro e w3 ⟨rfl, h3⟩
            have hR3 := Lib.hid (row_fr HR2.out h3 (by simp))
            have hL3 := Lib.hid (owns_fr HL2.out h3 (by simp))
            have hf3 := hf2.trans0 h3
            have hS3 := Nat.le_trans hS2 h3.size
            clear h3 hfi d0 d1
            go_wp2
            go_roundw
            case rel => exact ⟨q + 1, T2, sn2, by go_num, by omega, HNXT.out, hR3.out, hL3.out, hf3, hS3⟩
            case measure => simp [intOf]; omega
        · obtain rfl : q = next.length := by omega
          have HDN := Lib.hid (HI.out.done hcn HNE.out)
          go_wp2
          go_roundw
          case rel => exact ⟨m + 1, T2, sn2, by go_num, HDN.out, HR2.out, HL2.out, hf2, hS2⟩
          case measure => simp [intOf]; omega
    · obtain rfl : m = T.length + 1 := by omega
      have HRR : Hid (wr.rowIs S tB ns.length fun j => .bool (reachB (uG (era ns)) a j)) := HR.out.congr fun j _ => by rw [HW.out.all j]
      go_wp2
      go_ret
      exact ⟨S, rfl, hwS, HRR.out, hf⟩
end
end Go.Proofs.Ytdlpbpohbkcafaa
