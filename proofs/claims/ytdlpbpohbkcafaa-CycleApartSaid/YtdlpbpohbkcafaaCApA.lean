/-
  quadrillelaw21: light, Room.
  quadrillelaw21.copied.
  quadrillelaw21.kept.
  Arguments, opened: a slice of nodes, and how long its lists may be.
-/
import Derived.Test.YtdlpbpohbkcafaaCUtil2
import Derived.Test.YtdlpbpohbkcafaaCSound
import Derived.Test.YtdlpbpohbkcafaaCArgs
import Derived.SizedLaws
namespace Go.Proofs.Ytdlpbpohbkcafaa
section
open Go.RowKit Go.Shelf Go.Sort Go.Proofs

/-- No list of the nodes is longer than memory. -/
def Small (ns : List Nd) : Prop := ns.length ≤ 1125899906842624 ∧ ∀ n ∈ ns, n.next.length ≤ 1125899906842624
def LightPost (ns : List Nd) (most : Nat) (w : World) (e : Ending) (w1 : World) : Prop := ∃ b, e = .returned (.bool b) ∧ (b = true → ns.length + tot ns ≤ most) ∧ Fr [] w w1
set_option maxRecDepth 100000 in
theorem lightC (v : Value) (ns : List Nd) (most : Nat) (w : World) (hv : NodesAt w v ns) (hs : Small ns) (hm : most ≤ 4194304) : Calls Try.prog 16 #[v, .int .i64 (most : Int)] w (LightPost ns most w) := by
  obtain ⟨qa, ca, rfl, ha1, ha2⟩ := hv.row.form
  have HV := Lib.hid hv
  have HS : Hid (∀ n ∈ ns, n.next.length ≤ 1125899906842624) := hs.2
  have hs1 := hs.1
  clear hv hs
  go_enter Try.func16, Try.ntmps16
  go_wp2_with fail
  go_loopw [5, 6] (fun n i wr => ∃ k : Nat, i = .int .i64 (k : Int) ∧ n = .int .i64 ((ns.length + tot (ns.take k) : Nat) : Int) ∧ k ≤ ns.length ∧ (ns.length + tot (ns.take k) ≤ 4194304 + 1125899906842624) ∧ Fr [] w wr) (fun _ i _ => ns.length - (intOf i).toNat)
  case atStart => exact ⟨0, rfl, by simp [tot], by omega, by simp [tot]; omega, Fr.refl _ _⟩
  case round =>
    obtain ⟨k, rfl, rfl, hk, hb, hf⟩ := hrel
    by_cases hlt : k < ns.length
    · have hk1 : (k : Int) < (ns.length : Int) := by omega
      by_cases hle : ns.length + tot (ns.take k) ≤ most
      · obtain ⟨b, off, _, e, hbl, _, _, c2⟩ := (HV.out.fr0 hf).cell hlt
        cases e
        have hnl := HS.out ns[k] (List.getElem_mem hlt)
        have hts : tot (ns.take (k + 1)) = tot (ns.take k) + ns[k].next.length := by rw [List.take_succ_eq_append_getElem hlt, tot_snoc]
        have HTS : Hid (ns.length + tot (ns.take (k + 1)) = (ns.length + tot (ns.take k)) + ns[k].next.length) := by show _ = _; omega
        clear hts
        generalize ns[k].next.length = m at *
        generalize ns[k].na = na at *
        generalize ns[k].nc = nc at *
        generalize hsm : ns.length + tot (ns.take k) = s at *
        clear hsm
        have hle1 : (s : Int) ≤ (most : Int) := by omega
        have hled : decide ((s : Int) ≤ (most : Int)) = true := decide_eq_true hle1
        have hled2 : decide (s ≤ most) = true := decide_eq_true hle
        have hwr : IntKind.i64.wrap ((s : Int) + (m : Int)) = ((s + m : Nat) : Int) := by rw [IntKind.wrap_i64]; omega
        go_wp2
        go_roundw
        case rel => exact ⟨k + 1, by go_num, by first | rw [HTS.out]; rfl | (rw [HTS.out]; go_num), by omega, by rw [HTS.out]; omega, hf⟩
        case measure => simp [intOf]; omega
      · have HN : Hid (¬ ns.length + tot ns ≤ most) := fun h => hle (by have := tot_take ns k; omega)
        generalize hsm : ns.length + tot (ns.take k) = s at *
        clear hsm
        have hle1 : ¬ (s : Int) ≤ (most : Int) := by omega
        have hled : decide ((s : Int) ≤ (most : Int)) = false := decide_eq_false hle1
        have hled2 : decide (s ≤ most) = false := decide_eq_false hle
        go_wp2
        go_ret
        exact ⟨_, rfl, fun h => by simp at h, hf⟩
    · obtain rfl : k = ns.length := by omega
      rw [List.take_length] at hb ⊢
      generalize hsm : ns.length + tot ns = s at *
      have HSM := Lib.hid hsm
      clear hsm
      go_wp2
      go_ret
      refine ⟨decide (s ≤ most), ?_, fun h => by rw [HSM.out]; exact of_decide_eq_true h, hf⟩
      first | rfl | simp
/-- How far one goes into spare room. -/
def roomN (n c : Nat) : Nat := if n + 70000 < c then n + 70000 else c
theorem roomC (n c : Nat) (w : World) (hn : n ≤ 4194304) : Calls Try.prog 22 #[.int .i64 (n : Int), .int .i64 (c : Int)] w fun e w1 => e = .returned (.int .i64 (roomN n c : Nat)) ∧ Fr [] w w1 := by
  go_enter Try.func22, Try.ntmps22
  have hwr : IntKind.i64.wrap ((n : Int) + 70000) = ((n + 70000 : Nat) : Int) := by rw [IntKind.wrap_i64]; omega
  by_cases h : n + 70000 < c
  · have h1 : ((n + 70000 : Nat) : Int) < (c : Int) := by omega
    have h2 : (n : Int) + 70000 < (c : Int) := by omega
    go_wp2
    go_ret
    refine ⟨?_, Fr.refl _ _⟩
    unfold roomN
    rw [if_pos h]
    first | rfl | simp
  · have h1 : ¬ ((n + 70000 : Nat) : Int) < (c : Int) := by omega
    have h2 : ¬ (n : Int) + 70000 < (c : Int) := by omega
    go_wp2
    go_ret
    refine ⟨?_, Fr.refl _ _⟩
    unfold roomN
    rw [if_neg h]
    rfl
theorem roomN_le {n c : Nat} (h : n ≤ c) : n ≤ roomN n c ∧ roomN n c ≤ c ∧ roomN n c ≤ n + 70000 := by
  unfold roomN
  split <;> omega
end
section
open Go.RowKit Go.Shelf Go.Sort Go.Proofs

theorem infoTS' : (Try.prog.info? tS).map (fun i => (i.zero, i.size, i.bytes)) = some (some (.slice none 0 0), 1, 24) := by kernel_rfl
/-- Lists in rows of their own. -/
structure CopAt (B : Nat) (w : World) (v : Value) (ls : List (List Sp)) (us : List Value) : Prop where
  len : us.length = ls.length
  row : w.ownsRow B tS 1 v us.length us
  el : ∀ i (h : i < us.length) (h2 : i < ls.length), w.ownsRow B tSp 2 us[i] ls[i].length (ls[i].flatMap spC)
theorem CopAt.rows {B : Nat} {w : World} {v : Value} {ls : List (List Sp)} {us : List Value} (h : CopAt B w v ls us) : RowsS w v ls := ⟨⟨us, h.len, own_sl h.row, fun i a b => own_sl (h.el i a b)⟩⟩
theorem CopAt.push {B : Nat} {w wx w9 : World} {v v' x : Value} {ls : List (List Sp)} {us : List Value} {l : List Sp} (h : CopAt B wx v ls us) (hx : wx.ownsRow B tSp 2 x l.length (l.flatMap spC)) (hf : Fr [] w wx) (hB : w.heap.size ≤ B)
    (ho : w9.ownsRow B tS 1 v' (us.length + 1) (us ++ [x])) (hg : (wx.alloc (.cells #[x] tS)).grownBy w9 v.ownBlock) : CopAt B w9 v' (ls ++ [l]) (us ++ [x]) ∧ Fr [] w w9 := by
  have hfa : Fr [] wx (wx.alloc (.cells #[x] tS)) := (Fr.refl [] wx).alloc _
  have hown2 := owns_fr h.row hfa (by simp)
  refine ⟨⟨by simp [h.len], by simpa using ho, fun i h1 h2 => ?_⟩, (hf.trans0 hfa).grown hg (fun k hk => .inr (by have := (hown2.lt k hk).1; omega))⟩
  have key : ∀ (u : Value) (r : List Sp), wx.ownsRow B tSp 2 u r.length (r.flatMap spC) → w9.ownsRow B tSp 2 u r.length (r.flatMap spC) := fun u r hu => owns_fr (owns_fr hu hfa (by simp)) (fr_grown hg) (own_not (owns_fr hu hfa (by simp)) hown2 (by decide))
  by_cases hi : i < us.length
  · rw [List.getElem_append_left hi]
    have hi2 : i < ls.length := by rw [← h.len]; exact hi
    simp only [List.getElem_append_left hi2]
    exact key _ _ (h.el i hi hi2)
  · have hl := h.len
    have e1 : i = us.length := by simp at h1; omega
    subst e1
    simp only [List.getElem_concat_length]
    have e2 : (ls ++ [l])[us.length]'h2 = l := by
      simp only [hl, List.getElem_concat_length]
    rw [e2]
    exact key _ _ hx
def CopiedPost (ls : List (List Sp)) (w : World) (e : Ending) (w1 : World) : Prop := ∃ mv us, e = .returned mv ∧ CopAt w.heap.size w1 mv ls us ∧ Fr [] w w1
set_option maxRecDepth 100000 in
set_option maxHeartbeats 3200000 in
theorem copiedC (v : Value) (ls : List (List Sp)) (w : World) (hv : RowsS w v ls) (hne : ∀ l ∈ ls, 0 < l.length) (hle : ∀ l ∈ ls, l.length ≤ 4194304) (hll : ls.length ≤ 4194304) : Calls Try.prog 17 #[v] w (CopiedPost ls w) := by
  obtain ⟨qa, ca, rfl, ha1, ha2⟩ := hv.form
  have HV := Lib.hid hv
  have HNE := Lib.hid hne
  have HLE := Lib.hid hle
  clear hv hne hle
  obtain ⟨i0, hi0, hz0, hz1, hz2⟩ := info_parts infoSpot
  obtain ⟨i2, hi2, hy0, hy1, hy2⟩ := info_parts infoTS'
  go_enter Try.func17, Try.ntmps17
  go_wp2_with fail
  go_loopw [3, 4] (fun mv i wr => ∃ (k : Nat) (us : List Value), i = .int .i64 (k : Int) ∧ k ≤ ls.length ∧ CopAt w.heap.size wr mv (ls.take k) us ∧ Fr [] w wr) (fun _ i _ => ls.length - (intOf i).toNat)
  case atStart => exact ⟨0, [], rfl, by omega, ⟨rfl, World.ownsRow_nil _ _ _ _, fun i h => by simp at h⟩, Fr.refl _ _⟩
  case round =>
    obtain ⟨k, us, rfl, hk, hC, hf⟩ := hrel
    have HC := Lib.hid hC
    obtain ⟨ql, cl, rfl, hl1, hl2⟩ := (own_sl hC.row).form
    have hul : us.length = k := by rw [hC.len, List.length_take]; omega
    subst hul
    clear hC
    by_cases hlt : us.length < ls.length
    · have hk1 : (us.length : Int) < (ls.length : Int) := by omega
      obtain ⟨b, off, _, x, e, hb, c0, hx⟩ := (HV.out.fr0 hf).cell hlt
      cases e
      have hl0 := HNE.out _ (List.getElem_mem hlt)
      have hlm := HLE.out _ (List.getElem_mem hlt)
      have HTK := Lib.hid (List.take_succ_eq_append_getElem hlt)
      obtain ⟨xq, xc, rfl, hx1, hx2⟩ := hx.form
      obtain ⟨b1, o1, _, e, hb1, _, _⟩ := spots_cell hx hl0
      cases e
      have HX := Lib.hid hx
      clear hx
      generalize ls[us.length] = l at *
      have hnil : wr.ownsRow wr.heap.size tSp 2 (.slice none 0 0) 0 [] := World.ownsRow_nil _ _ _ _
      have hsr := hf.size
      go_wp2_with (first
        | (at_builtin; refine wpList_append_own _ rfl _ _ 30 rfl wr.heap.size tSp i0 _ 2 16 Try.underlying30 hi0 hz0 hz1 hz2 rfl (by decide) _ _ _ rfl hnil ⟨b1, o1, none⟩ l.length xc (l.flatMap spC) rfl (flat_len spC 2 (fun _ => rfl) _) (src_cells HX.out) spC_one (by unfold maxLen; omega) (by omega) (Nat.le_refl _) ?_
           intro v8 w8 hown8 hgrow8 _
           obtain ⟨vq, vn, vc, rfl⟩ := own_form hown8
           have hf8 : Fr [] wr w8 := (Fr.refl [] wr).grown hgrow8 (fun k' hk' => by cases hk')
           have hown8' : w8.ownsRow wr.heap.size tSp 2 (.slice vq vn vc) l.length (l.flatMap spC) := by simpa using hown8
           have HO8 := Lib.hid hown8'
           have HF8 := Lib.hid (hf.trans0 hf8)
           have HC8 : Hid (CopAt w.heap.size w8 (.slice ql us.length cl) (ls.take us.length) us) := ⟨HC.out.len, owns_fr HC.out.row hf8 (by simp), fun i a b => owns_fr (HC.out.el i a b) hf8 (by simp)⟩
           have hown2 := HC8.out.row.alloc (.cells #[.slice vq vn vc] tS)
           have hs8 := hf8.size
           clear hown8 hown8' hgrow8 c0 hf8)
        | (at_builtin; refine wpList_append_own _ rfl _ _ 25 rfl w.heap.size tS i2 _ 1 24 Try.underlying25 hi2 hy0 hy1 hy2 rfl (by decide) _ _ _ rfl hown2 ⟨w8.heap.size, 0, none⟩ 1 1 [.slice vq vn vc] rfl rfl (by have := news_of w8 [.slice vq vn vc] tS; simpa using this) (one_mem rfl) (by unfold maxLen; omega) (by omega) (by simp; omega) ?_; intro v' w9 hown9 hgrow9 _))
      have HR := Lib.hid (HC8.out.push (l := l) (owns_mono HO8.out (by omega)) HF8.out (Nat.le_refl _) hown9 hgrow9)
      clear hown9 hgrow9 hown2
      go_roundw
      case rel => exact ⟨us.length + 1, _, by go_num, by omega, by rw [HTK.out]; exact HR.out.1, HR.out.2⟩
      case measure => simp [intOf]; omega
    · have HC2 : Hid (CopAt w.heap.size wr (.slice ql us.length cl) ls us) := by
        have h := HC.out
        rw [List.take_of_length_le (by omega)] at h
        exact h
      go_wp2
      go_ret
      exact ⟨_, us, rfl, HC2.out, hf⟩
end
section
open Go.RowKit Go.Shelf Go.Sort Go.Proofs

theorem TwinAt.rowc {B : Nat} {w : World} {ls : List Nd} {g cap : Nat} (h : w.ownsRow B tNd 3 (.slice (some ⟨g, 0, none⟩) (ls.length + 1) cap) (ls.length + 1) (ls.flatMap ndC ++ markN)) :
    (∀ k (hk : k < ls.length), w.cell? ⟨g, k * 3, none⟩ = some (.int .i64 ls[k].at_.1) ∧ w.cell? ⟨g, k * 3 + 1, none⟩ = some (.int .i64 ls[k].at_.2) ∧ w.cell? ⟨g, k * 3 + 2, none⟩ = some (.slice ls[k].na ls[k].next.length ls[k].nc)) ∧ w.cell? ⟨g, ls.length * 3, none⟩ = some (.int .i64 (-7)) ∧ g < w.heap.size := by
  have hl := flat_len ndC 3 (fun _ => rfl) ls
  have key : ∀ j, j < (ls.length + 1) * 3 → w.cell? ⟨g, j, none⟩ = (ls.flatMap ndC ++ markN)[j]? := fun j hj => h.cellAt j hj
  have low : ∀ k i (hk : k < ls.length), i < 3 → w.cell? ⟨g, k * 3 + i, none⟩ = (ndC ls[k])[i]? := fun k i hk hi => by
    rw [key _ (by omega), List.getElem?_append_left (by rw [hl]; omega), flat_get ndC 3 (fun _ => rfl) ls k i hk hi]
  refine ⟨fun k hk => ⟨by have := low k 0 hk (by omega); simpa using this, by have := low k 1 hk (by omega); simpa using this, by have := low k 2 hk (by omega); simpa using this⟩, ?_, (h.lt g rfl).2⟩
  rw [key _ (by omega), List.getElem?_append_right (by rw [hl]; omega), hl, Nat.sub_self]
  rfl
theorem TwNx.mark {B : Nat} {w : World} {n : Nd} (h : TwNx B w n) {a : Addr} (ha : n.na = some a) : ∃ b, a = ⟨b, 0, none⟩ ∧ b < w.heap.size ∧ w.cell? ⟨b, n.next.length * 2, none⟩ = some (.int .i64 (-7)) ∧ n.next.length + 1 ≤ n.nc ∧ n.nc ≤ 9223372036854775807 := by
  rcases h with ⟨h, _⟩ | ⟨b, h1, h2⟩
  · rw [h] at ha
    cases ha
  · rw [h1] at ha
    cases ha
    obtain ⟨_, _, e, h3, h4⟩ := (own_sl h2).form
    cases e
    refine ⟨b, rfl, (h2.lt b rfl).2, ?_, h3, h4⟩
    have hl := flat_len spC 2 (fun _ => rfl) n.next
    rw [h2.cellAt _ (by omega), List.getElem?_append_right (by rw [hl]; exact Nat.le_refl _), hl, Nat.sub_self]
    rfl
/-- Lists that are the same: nothing but draws. -/
theorem eqQ (va vb : Value) (la : List Sp) (w : World) (ha : SpotsAt w va la) (hb : SpotsAt w vb la) : Calls Try.prog 19 #[va, vb] w fun e w1 => e = .returned (.bool true) ∧ ∃ m, w1 = w.drewN m := by
  obtain ⟨qa, ca, rfl, ha1, ha2⟩ := ha.form
  obtain ⟨qb, cb, rfl, hb1, hb2⟩ := hb.form
  have HA := Lib.hid ha
  have HB := Lib.hid hb
  have hb3 : ((la.length : Int) != (la.length : Int)) = false := by simp
  clear ha hb
  go_enter Try.func19, Try.ntmps19
  go_wp2_with fail
  go_loopw [5] (fun i wr => ∃ k n : Nat, i = .int .i64 (k : Int) ∧ k ≤ la.length ∧ wr = w.drewN n) (fun i _ => la.length - (intOf i).toNat)
  case atStart => exact ⟨0, 0, rfl, by omega, rfl⟩
  case round =>
    obtain ⟨k, n, rfl, hk, hf⟩ := hrel
    have hf2 : Fr [] w (w.drewN n) := (Fr.refl [] w).drewN n
    rw [← hf] at hf2
    have HF := Lib.hid hf
    clear hf
    by_cases hlt : k < la.length
    · obtain ⟨b1, o1, _, e1, hbl1, c0, c1⟩ := spots_cell (HA.out.fr0 hf2) hlt
      cases e1
      obtain ⟨b2, o2, _, e2, hbl2, d0, d1⟩ := spots_cell (HB.out.fr0 hf2) hlt
      cases e2
      have hk1 : (k : Int) < (la.length : Int) := by omega
      generalize la[k] = x at *
      have hne := neqS x x
      have hne2 : ∀ w : World, (binOp .neq 33 (.agg #[.int .i64 x.1, .int .i64 x.2]) (.agg #[.int .i64 x.1, .int .i64 x.2])).run Try.prog w = .ok (.bool false) w := fun w => by rw [hne]; simp
      clear hne
      go_wp2_with fail
      go_region_held3 (fun u => u.cell? ⟨b1, o1 + k * 2, none⟩ = some (.int .i64 x.1) ∧ u.cell? ⟨b1, o1 + k * 2 + 1, none⟩ = some (.int .i64 x.2) ∧ u.cell? ⟨b2, o2 + k * 2, none⟩ = some (.int .i64 x.1) ∧ u.cell? ⟨b2, o2 + k * 2 + 1, none⟩ = some (.int .i64 x.2)) (exact ⟨ce_drew c0, ce_drew c1, ce_drew d0, ce_drew d1⟩) (fail)
      go_wp2
      go_roundw
      case rel => exact ⟨k + 1, n + 1, by go_num, by omega, by rw [HF.out]; rfl⟩
      case measure => simp [intOf]; omega
    · obtain rfl : k = la.length := by omega
      go_wp2
      go_ret
      exact ⟨rfl, n, HF.out⟩
set_option maxRecDepth 100000 in
set_option maxHeartbeats 3200000 in
theorem keptC (lv nv : Value) (ls ns : List Nd) (B : Nat) (w : World) (hl : TwinAt B w lv ls) (hn : NodesAt w nv ns) (he : era ls = era ns) (hs : ns.length + tot ns ≤ 4194304) :
    Calls Try.prog 24 #[lv, nv] w fun e w1 => e = .returned (.bool true) ∧ Fr [] w w1 := by
  obtain ⟨g, cap, rfl, hrow⟩ := hl.row
  obtain ⟨qa, ca, rfl, ha1, ha2⟩ := hn.row.form
  obtain ⟨_, _, e, hc1, hc2⟩ := (own_sl hrow).form
  cases e
  have hlen : ls.length = ns.length := by rw [← era_len ls, he, era_len]
  have HE : Hid (∀ k (h1 : k < ls.length) (h2 : k < ns.length), ls[k].at_ = ns[k].at_ ∧ ls[k].next = ns[k].next) := fun k h1 h2 => by
    have h3 : (era ls)[k]'(by simpa using h1) = (era ns)[k]'(by simpa using h2) := by simp only [he]
    simpa using h3
  have HT : Hid (∀ n ∈ ns, n.next.length ≤ 4194304) := fun n hn' => by have := tot_le hn'; omega
  have HL := Lib.hid hl
  have HN := Lib.hid hn
  have HR := Lib.hid hrow
  obtain ⟨_, hmk, hgl⟩ := TwinAt.rowc hrow
  have hnl : ns.length ≤ 4194304 := by omega
  have hwr : IntKind.i64.wrap ((ns.length : Int) + 1) = ((ns.length + 1 : Nat) : Int) := by rw [IntKind.wrap_i64]; omega
  have hne0 : ((ns.length : Int) != (ns.length : Int)) = false := by simp
  rw [hlen] at hc1 hmk ⊢
  have HLEN := Lib.hid hlen
  clear hl hn hrow he hlen hs
  go_enter Try.func24, Try.ntmps24
  go_wp2_with fail
  go_loopw [5] (fun i wr => ∃ k : Nat, i = .int .i64 (k : Int) ∧ k ≤ ns.length ∧ Fr [] w wr) (fun i _ => ns.length - (intOf i).toNat)
  case atStart => exact ⟨0, rfl, by omega, Fr.refl _ _⟩
  case round =>
    obtain ⟨k, rfl, hk, hf⟩ := hrel
    by_cases hlt : k < ns.length
    · have hltl : k < ls.length := by rw [HLEN.out]; exact hlt
      have hk1 : (k : Int) < (ns.length : Int) := by omega
      obtain ⟨b, off, _, e, hb, c0, c1, c2⟩ := (HN.out.fr0 hf).cell hlt
      cases e
      obtain ⟨hrc, _, hgl2⟩ := TwinAt.rowc (owns_fr HR.out hf (by simp))
      obtain ⟨d0, d1, d2⟩ := hrc k hltl
      obtain ⟨e1, e2⟩ := HE.out k hltl hlt
      rw [e1] at d0 d1
      have HSN := Lib.hid ((HN.out.fr0 hf).nx ns[k] (List.getElem_mem hlt))
      have htw := ((HL.out.fr0 hf).nx ls[k] (List.getElem_mem hltl))
      have HSL := Lib.hid (htw.1.spots htw.2)
      have hnl2 := HT.out ns[k] (List.getElem_mem hlt)
      have hna : ls[k].na = none ∨ ∃ a, ls[k].na = some a := by cases ls[k].na <;> simp
      have HMK : Hid (∀ a, ls[k].na = some a → ∃ b, a = ⟨b, 0, none⟩ ∧ b < wr.heap.size ∧ wr.cell? ⟨b, ls[k].next.length * 2, none⟩ = some (.int .i64 (-7)) ∧ ls[k].next.length + 1 ≤ ls[k].nc ∧ ls[k].nc ≤ 9223372036854775807) := fun a ha => htw.1.mark ha
      rw [e2] at d2 HSL HMK
      clear hrc htw e1 e2
      generalize ls[k].na = la at *
      generalize ls[k].nc = lc at *
      generalize ns[k].na = xa at *
      generalize ns[k].nc = xc at *
      generalize ns[k].next = next at *
      generalize ns[k].at_ = s at *
      have hne := neqS s s
      have hne2 : ∀ w : World, (binOp .neq 33 (.agg #[.int .i64 s.1, .int .i64 s.2]) (.agg #[.int .i64 s.1, .int .i64 s.2])).run Try.prog w = .ok (.bool false) w := fun w => by rw [hne]; simp
      have HEQ : Hid (∀ n : Nat, Calls Try.prog 19 #[.slice la next.length lc, .slice xa next.length xc] (wr.drewN n) fun e w1 => e = .returned (.bool true) ∧ ∃ m, w1 = (wr.drewN n).drewN m) := fun n => eqQ _ _ next _ (HSL.out.fr0 ((Fr.refl [] wr).drewN n)) (HSN.out.fr0 ((Fr.refl [] wr).drewN n))
      clear hne
      have hwr2 : IntKind.i64.wrap ((next.length : Int) + 1) = ((next.length + 1 : Nat) : Int) := by rw [IntKind.wrap_i64]; omega
      generalize next.length = n at *
      rcases hna with rfl | ⟨a, rfl⟩
      · go_wp2_with fail
        go_quiet ((go_at_call 19; exact Calls.quiet_of (HEQ.out _)))
        have hfA : Fr [] w (wr.drewN nq) := hf.drewN nq
        clear c0 c1 c2 d0 d1 d2
        go_wp2
        go_roundw
        case rel => exact ⟨k + 1, by go_num, by omega, hfA⟩
        case measure => simp [intOf]; omega
      · obtain ⟨mb, rfl, hmb, m0, hm1, hm2⟩ := HMK.out a rfl
        have hm3 : ((n : Int) + 1) ≤ (lc : Int) := by omega
        have hm5 : (0 : Int) ≤ (n : Int) + 1 := by omega
        have hm6 : ((n : Int) + 1).toNat = n + 1 := by omega
        have hm7 : (n : Int) < (n : Int) + 1 := by omega
        have hwr3 : IntKind.i64.wrap ((n : Int) + 1) = (n : Int) + 1 := by rw [hwr2]; rfl
        clear hwr2
        go_wp2_with fail
        go_quiet ((go_at_call 19; exact Calls.quiet_of (HEQ.out _)))
        have hfA : Fr [] w (wr.drewN nq) := hf.drewN nq
        clear c0 c1 c2 d0 d1 d2 m0
        go_wp2
        go_roundw
        case rel => exact ⟨k + 1, by go_num, by omega, hfA⟩
        case measure => simp [intOf]; omega
    · obtain rfl : k = ns.length := by omega
      go_wp2
      go_ret
      exact ⟨rfl, hf⟩
end
section
open Go.ChangeShapes Go.WideShapes Go.ChangeAt Go.RowKit Go.Joins Go.Deep

theorem Try.bytesSp : Try.prog.bytesOf tSp = 16 := by kernel_rfl
theorem Try.bytesNd : Try.prog.bytesOf tNd = 40 := by kernel_rfl
section
variable {H : Type} {enc : TypeId × Value → H} {W : World}
/-- No list of it takes more than memory. -/
def Wt (t : TypeId) (d : DataW H) : Prop := ∀ n ∈ d.weights Try.prog t, n ≤ reachBytes
theorem weights_all {P : Program} {e : TypeId} {d : DataW H} {n : Nat} (hn : n ∈ d.weights P e) : ∀ {l : List (DataW H)}, d ∈ l → n ∈ DataW.weightsAll P e l
  | [], hd => by simp at hd
  | a :: l, hd => by
    simp only [DataW.weightsAll, List.mem_append]
    rcases List.mem_cons.1 hd with rfl | hd
    · exact .inl hn
    · exact .inr (weights_all hn hd)
theorem Wt.el {t e : TypeId} {elems spare : List (DataW H)} (hu : Try.prog.underlying t = some (.slice e)) (h : Wt t (.slice elems spare)) {d : DataW H} (hd : d ∈ elems) : Wt e d := fun n hn => h n (by
  simp only [DataW.weights, hu, List.mem_cons, List.mem_append]
  exact .inr (.inl (weights_all hn hd)))
theorem Wt.len {t e : TypeId} {elems spare : List (DataW H)} (hu : Try.prog.underlying t = some (.slice e)) (h : Wt t (.slice elems spare)) {k : Nat} (hk : 0 < k) (hb : Try.prog.bytesOf e = k) : elems.length ≤ reachBytes := by
  have h1 := h ((elems.length + spare.length) * Try.prog.bytesOf e) (by simp [DataW.weights, hu])
  rw [hb] at h1
  exact Nat.le_trans (Nat.le_trans (Nat.le_add_right _ _) (Nat.le_mul_of_pos_right _ hk)) h1
theorem reach_small {n : Nat} (h : n ≤ reachBytes) : n ≤ 1125899906842624 := by
  unfold reachBytes at h
  omega
theorem open_slSW {spare : Nat → Bool} {held : Bool} {n : Nat} {v : Value} {y : DataW H × List MemPlace} (h : DataW.trod enc Try.prog W 0 spare held n 30 [v] = some y) (hw : Wt 30 y.1) : ∃ a c, ∃ ds : List Sp, v = .slice a ds.length c ∧ SpotsAt W (.slice a ds.length c) ds ∧ ds.length ≤ 1125899906842624 := by
  rcases open_slice Try.underlying30 h with ⟨hc, _⟩ | ⟨a, len, cap, m, n, D, Pl, hc, _, hl, hm, hmm, hy, hall⟩
  · cases hc
    exact ⟨none, 0, [], rfl, SlAt.nil W 2, by simp⟩
  · cases hc
    subst hy
    have hlen := hw.len Try.underlying30 (by decide) Try.bytesSp
    rw [List.length_map, List.length_range] at hlen
    have hlm : len ≤ m := by rw [hmm]; split <;> omega
    rw [Try.cellsS] at hall
    obtain ⟨ds, hds⟩ := slAt_of spC (size := 2) (fun _ => rfl) (by decide) hl hm (fun i hi => by
      obtain ⟨cs', h1, h2⟩ := hall i (by omega)
      obtain ⟨_, hlen, _⟩ := World.cells?_some h1
      obtain ⟨c0, c1, rfl⟩ := len2 hlen
      obtain ⟨s, rfl, rfl⟩ := open_spotC h2 rfl
      exact ⟨s, h1⟩)
    obtain ⟨a', c', e, _, _⟩ := hds.form
    cases e
    exact ⟨_, _, ds, rfl, hds, reach_small hlen⟩
set_option maxRecDepth 100000 in
theorem open_nodeW {spare : Nat → Bool} {held : Bool} {n : Nat} {cs : List Value} (hlen : cs.length = 3) {x : DataW H × List MemPlace} (h : DataW.trod enc Try.prog W 0 spare held n tNd cs = some x) (hw : Wt tNd x.1) : ∃ nd : Nd, cs = ndC nd ∧ SpotsAt W (.slice nd.na nd.next.length nd.nc) nd.next ∧ nd.next.length ≤ 1125899906842624 := by
  obtain ⟨xs, k, _, hx, _, hxl, hf⟩ := DataW.trod_struct Try.underlying42 h
  have hxl2 : xs.length = 2 := hxl
  obtain ⟨c0, c1, c2, rfl⟩ := len3 hlen
  have f0 := hf 0 _ rfl
  have f1 := hf 1 _ rfl
  simp only [List.getElem_toArray, List.getElem_cons_zero, List.getElem_cons_succ] at f0 f1
  rw [Try.cellsS] at f0
  rw [Try.cellsLS] at f1
  obtain ⟨s, rfl, rfl⟩ := open_spotC f0 (by simp [hxl2])
  rw [List.getElem?_eq_getElem (by omega)] at f1
  have hw1 : Wt 30 xs[1].1 := fun n hn => hw n (by
    rw [hx]
    simp only [DataW.weights, Try.underlying42]
    refine DataW.weights_mem_each (j := 1) (t := 30) (d := xs[1].1) rfl ?_ n hn
    rw [List.getElem?_map, List.getElem?_eq_getElem (by omega)]
    rfl)
  obtain ⟨a, c, ds, rfl, hds, hl⟩ := open_slSW f1 hw1
  exact ⟨⟨s, a, c, ds⟩, rfl, hds, hl⟩
set_option maxRecDepth 100000 in
theorem open_nodesW {r : Reach} {b0 : Nat} {v : Value} {d : DataW H} {p : List MemPlace}
    (hv : Value.okWide Try.prog W r b0 22 v) (h : DataW.Trod enc Try.prog W 0 (fun _ => true) true 22 v d p) (hw : Wt 22 d) : ∃ ns : List Nd, NodesAt W v ns ∧ Small ns := by
  obtain ⟨pa, len, cap, rfl⟩ := okWide_slice Try.underlying22 hv
  obtain ⟨fuel, hf⟩ := h
  simp only [Value.cells] at hf
  rcases open_slice Try.underlying22 hf with ⟨hc, _⟩ | ⟨a, len', cap', m, n, D, Pl, hc, _, hl, hm, hmm, hy, hall⟩
  · simp only [List.cons.injEq, and_true, Value.slice.injEq] at hc
    obtain ⟨rfl, rfl, rfl⟩ := hc
    exact ⟨[], ⟨SlAt.nil W 3, by simp⟩, by simp, by simp⟩
  · simp only [List.cons.injEq, and_true, Value.slice.injEq] at hc
    obtain ⟨rfl, rfl, rfl⟩ := hc
    simp only [Prod.mk.injEq] at hy
    obtain ⟨rfl, _⟩ := hy
    have hlen := hw.len Try.underlying22 (by decide) Try.bytesNd
    rw [List.length_map, List.length_range] at hlen
    have hel : ∀ i, i < len → Wt tNd (D i) := fun i hi => hw.el Try.underlying22 (List.mem_map.2 ⟨i, List.mem_range.2 hi, rfl⟩)
    simp only [if_true] at hmm
    subst hmm
    rw [Try.cellsN] at hall
    obtain ⟨ns, h1, h2⟩ := slAt_ofP ndC (fun nd => SpotsAt W (.slice nd.na nd.next.length nd.nc) nd.next ∧ nd.next.length ≤ 1125899906842624) (size := 3) (fun _ => rfl) (by decide) hl hm (fun i hi => by
      obtain ⟨cs', h1, h2⟩ := hall i (by omega)
      obtain ⟨_, hlen, _⟩ := World.cells?_some h1
      obtain ⟨nd, rfl, h3⟩ := open_nodeW hlen h2 (hel i hi)
      exact ⟨nd, h1, h3⟩)
    obtain ⟨_, _, e, _, _⟩ := h1.form
    cases e
    exact ⟨ns, ⟨h1, fun nd hn => (h2 nd hn).1⟩, reach_small hlen, fun nd hn => (h2 nd hn).2⟩
end
end
end Go.Proofs.Ytdlpbpohbkcafaa
