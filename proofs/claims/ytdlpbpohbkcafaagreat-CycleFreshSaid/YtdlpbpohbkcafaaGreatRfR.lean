/-
  quadrilleref21.byFirst, sorted; itself, as a quiet call; what rings has in memory.
  quadrilleref21.Graph.rings: the walk.
  quadrilleref21.Rings: the walk.
-/
import Derived.Test.YtdlpbpohbkcafaaGreatRfF
import Derived.Test.YtdlpbpohbkcafaaGreatRfGM
import Derived.Deep.AppendLies
import Derived.Deep.CutBlock
import Derived.Test.YtdlpbpohbkcafaaGreatRfPE
import Derived.Test.YtdlpbpohbkcafaaGreatCApR
import Derived.StillTailTactics
namespace Go.Proofs.YtdlpbpohbkcafaaGreat
section
open Go.RowKit Go.Shelf Go.Sort Go.Proofs

theorem swoLtF : SWO ltF := ⟨fun x => by simp [ltF], fun x y z => by simp only [ltF, decide_eq_true_eq]; omega, fun x y z => by simp only [ltF, decide_eq_false_iff_not]; omega⟩
def BfSorted (B : Nat) (e0 : TypeId) (lv : Value) (X : List Nat) (d : Array (Value × List Nat)) (w : World) (e : Ending) (w1 : World) : Prop :=
  e = .returned (.tuple #[]) ∧ (∃ d' : Array (Value × List Nat), d'.toList.Perm d.toList ∧ (d'.toList.Pairwise fun a b => ltF b a = false) ∧ BfV B e0 lv X d' w1) ∧ Fr X w w1
theorem bfSort (B : Nat) (e0 : TypeId) (lv : Value) (X : List Nat) (d : Array (Value × List Nat)) (w : World) (hV : BfV B e0 lv X d w) (hd : d.size ≤ 65536) :
    Calls Tryz.prog 52 #[.iface 107 lv] w (BfSorted B e0 lv X d w) := by
  obtain ⟨q, n, c, e⟩ := own_form hV.row
  have hn : n = d.size := by
    obtain ⟨_, _, e2, _, _⟩ := (own_sl hV.row).form
    rw [e] at e2
    cases e2
    rfl
  subst hn
  subst e
  refine (svSort (bfSv B e0 q c d.size X) swoLtF (by omega) 144 (fun w => by kernel_rfl) (enters_of Tryz.func144 (by kernel_rfl) rfl) d w rfl hV ((bfLen _ q d.size c rfl w).mono fun e w1 h => ⟨h.1, by rw [h.2]; exact Fr.refl _ _⟩)).mono ?_
  rintro e w1 ⟨rfl, ⟨d', hp, hs, hV'⟩, hf⟩
  have hsz := hp.1
  refine ⟨rfl, ⟨d', ?_, ?_, hV'⟩, hf⟩
  · have := hp.2.2
    rw [show d.extract 0 d.size = d by simp, show d'.extract 0 d.size = d' by rw [← hsz]; simp] at this
    exact this
  · rw [List.pairwise_iff_getElem]
    intro i j hi hj hij
    have := hs i j (Nat.zero_le _) hij (by simpa [hsz] using hj)
    rw [bang_list (by simpa using hj), bang_list (by simpa using hi)] at this
    exact this
theorem rfItselfQ (v : Value) (l : List Nat) (x : Nat) (w : World) (hl : NumsAt w v l) : Calls Tryz.prog 56 #[v, .int .i64 (x : Int)] w fun e w1 => e = .returned (.bool (decide (x ∈ l))) ∧ ∃ m, w1 = w.drewN m := by
  obtain ⟨qa, ca, rfl, ha1, ha2⟩ := hl.form
  have HL := Lib.hid hl
  clear hl
  go_enter Tryz.func56, Tryz.ntmps56
  go_wp2_with fail
  go_loopw [5] (fun i wr => ∃ k m : Nat, i = .int .i64 (k : Int) ∧ k ≤ l.length ∧ x ∉ l.take k ∧ wr = w.drewN m) (fun i _ => l.length - (intOf i).toNat)
  case atStart => exact ⟨0, 0, rfl, by omega, by simp, rfl⟩
  case round =>
    obtain ⟨k, m, rfl, hk, hx, hm⟩ := hrel
    have hf : Fr [] w wr := by rw [hm]; exact (Fr.refl [] w).drewN m
    have HX := Lib.hid hx
    have HM := Lib.hid hm
    clear hx hm
    by_cases hlt : k < l.length
    · obtain ⟨b, off, _, e, hb, hc⟩ := (HL.out.fr0 hf).cell (by omega)
      cases e
      have c0 := hc k (.int .i64 (l[k] : Int)) (by
        have := flat_get nC 1 (fun _ => rfl) l k 0 hlt (by omega)
        simpa using this)
      clear hc
      have hk1 : (k : Int) < (l.length : Int) := by omega
      have HT := Lib.hid (List.take_succ_eq_append_getElem hlt)
      have HI := Lib.hid (List.getElem_mem hlt)
      generalize l[k] = y at *
      by_cases he : y = x
      · subst he
        go_wp2
        go_ret
        exact ⟨by simp [HI.out], m, HM.out⟩
      · have he1 : ¬ (y : Int) = (x : Int) := by omega
        have HE := Lib.hid he
        clear he
        go_wp2
        go_roundw
        case rel =>
          refine ⟨k + 1, m, by go_num, by omega, ?_, HM.out⟩
          rw [HT.out, List.mem_append, List.mem_singleton]
          exact fun h => h.elim HX.out (fun h => HE.out h.symm)
        case measure => simp [intOf]; omega
    · obtain rfl : k = l.length := by omega
      have HN : Hid (x ∉ l) := fun hm => HX.out (by rw [List.take_length]; exact hm)
      go_wp2
      go_ret
      exact ⟨by simp [HN.out], m, HM.out⟩
theorem RingsOk.len {g : Dg} {ls : List (List Nat)} {D : Nat → Prop} (h : RingsOk g ls D) (hD : ∀ v, D v → v < g.length) : ls.length ≤ g.length := by
  have hne : ∀ r ∈ ls, r ≠ [] := fun r hr e => by
    obtain ⟨p, rfl, _, h3, _⟩ := h.el r hr
    have := (sortN_perm p).length_eq
    rw [e] at this
    exact h3 (List.eq_nil_of_length_eq_zero this.symm)
  have h1 := heads_nodup h.apart hne
  have := nodup_lt h1 (fun x hx => by
    obtain ⟨r, hr, rfl⟩ := List.mem_map.1 hx
    obtain ⟨p, rfl, _, h3, h4, _⟩ := h.el r hr
    exact hD _ (h4 _ (mem_sortN.1 (head_mem (hne _ hr)))))
  simpa using this
/-- What rings has told so far. -/
structure RJ (W0 : World) (Td B n : Nat) (told : Nat → Bool) (lv : Value) (vs : List Value) (ls : List (List Nat)) (w : World) : Prop where
  td : w.rowIs Td tB n fun i => .bool (told i)
  l : w.ownsRow B tSI 1 lv vs.length vs
  len : vs.length = ls.length
  el : ∀ i (h1 : i < vs.length) (h2 : i < ls.length), w.ownsRow B tI 1 vs[i] ls[i].length (ls[i].flatMap nC)
  sep : vs.Pairwise fun a b => ∀ g, a.ownBlock = some g → b.ownBlock ≠ some g
  fr : Fr [Td] W0 w
  sz : B ≤ w.heap.size
  lo : Td < B
  w0 : W0.heap.size = B
section
variable {W0 w w1 : World} {Td B n : Nat} {told : Nat → Bool} {lv : Value} {vs : List Value} {ls : List (List Nat)}
theorem RJ.fr0 (h : RJ W0 Td B n told lv vs ls w) (hf : Fr [] w w1) : RJ W0 Td B n told lv vs ls w1 :=
  ⟨row_fr h.td hf (by simp), owns_fr h.l hf (by simp), h.len, fun i h1 h2 => owns_fr (h.el i h1 h2) hf (by simp), h.sep, h.fr.trans0 hf, Nat.le_trans h.sz hf.size, h.lo, h.w0⟩
/-- Some more are told. -/
theorem RJ.tell (h : RJ W0 Td B n told lv vs ls w) (hf : Fr [Td] w w1) {told1 : Nat → Bool} (ht : w1.rowIs Td tB n fun i => .bool (told1 i)) : RJ W0 Td B n told1 lv vs ls w1 :=
  ⟨ht, owns_fr h.l hf (own_low h.l h.lo), h.len, fun i h1 h2 => owns_fr (h.el i h1 h2) hf (own_low (h.el i h1 h2) h.lo), h.sep, h.fr.transS hf, Nat.le_trans h.sz hf.size, h.lo, h.w0⟩
/-- A ring is told. -/
theorem RJ.push (h : RJ W0 Td B n told lv vs ls w) {rv : Value} {r : List Nat} (hr : w.ownsRow B tI 1 rv r.length (r.flatMap nC)) (hs : ∀ a ∈ vs, ∀ g, a.ownBlock = some g → rv.ownBlock ≠ some g) {lv2 : Value} (hg : w.grownBy w1 lv.ownBlock) (ho : w1.ownsRow B tSI 1 lv2 (vs.length + 1) (vs ++ [rv])) : RJ W0 Td B n told lv2 (vs ++ [rv]) (ls ++ [r]) w1 := by
  have hf := fr_grown hg
  refine ⟨row_fr h.td hf (low_not h.l h.lo), by simpa using ho, by simp [h.len], fun i h1 h2 => ?_, ?_, h.fr.trans hf (fun x hx => .inr ?_), Nat.le_trans h.sz hf.size, h.lo, h.w0⟩
  · by_cases hi : i < vs.length
    · have hi2 : i < ls.length := by rw [← h.len]; exact hi
      rw [List.getElem_append_left hi, List.getElem_append_left hi2]
      exact owns_fr (h.el i hi hi2) hf (own_not (h.el i hi hi2) h.l (by decide))
    · have e : i = vs.length := by simp at h1; omega
      have e2 : i = ls.length := by rw [← h.len]; exact e
      rw [List.getElem_append_right (by omega), List.getElem_append_right (by omega)]
      have := owns_fr hr hf (own_not hr h.l (by decide))
      simpa [e, e2] using this
  · rw [List.pairwise_append]
    exact ⟨h.sep, by simp, fun a ha b hb => by simp at hb; subst hb; exact hs a ha⟩
  · rw [h.w0]
    exact (h.l.lt x (by simpa using hx)).1
end
theorem rn_of {g : Dg} {ls : List (List Nat)} {D : Nat → Prop} (h : RingsOk g ls D) {ds : List (Value × List Nat)} (hp : (ds.map Prod.snd).Perm ls) (hs : ds.Pairwise fun a b => ltF b a = false) : RingsOk g (ds.map Prod.snd) D ∧ (ds.map Prod.snd).Pairwise fun r q => r.headD 0 < q.headD 0 := by
  have hap : (ds.map Prod.snd).Pairwise fun r q => ∀ a ∈ r, a ∉ q := (List.Perm.pairwise_iff (fun {a b} hab x hx hy => hab x hy hx) hp).2 h.apart
  have hne : ∀ r ∈ ds.map Prod.snd, r ≠ [] := fun r hr e => by
    obtain ⟨p, rfl, _, h3, _⟩ := h.el r (hp.mem_iff.1 hr)
    have := (sortN_perm p).length_eq
    rw [e] at this
    exact h3 (List.eq_nil_of_length_eq_zero this.symm)
  refine ⟨⟨fun r hr => h.el r (hp.mem_iff.1 hr), fun v hv hvv => ?_, hap⟩, ?_⟩
  · obtain ⟨r, hr, hm⟩ := h.all v hv hvv
    exact ⟨r, hp.mem_iff.2 hr, hm⟩
  · have hs2 : (ds.map Prod.snd).Pairwise fun r q => ¬ q.getD 0 0 < r.getD 0 0 := by
      rw [List.pairwise_map]
      exact hs.imp fun h => by simpa [ltF] using h
    refine (hs2.and hap).imp_of_mem fun {a b} ha hb hab => ?_
    have e : ∀ r : List Nat, r.headD 0 = r.getD 0 0 := fun r => by cases r <;> rfl
    have h1 := head_mem (hne a ha)
    have h2 := head_mem (hne b hb)
    have h3 : a.headD 0 ≠ b.headD 0 := fun he => hab.2 _ h1 (by rw [he]; exact h2)
    have h4 := hab.1
    rw [← e, ← e] at h4
    omega
/-- All blocks of the rings. -/
def bfX (lv : Value) (vs : List Value) : List Nat := lv.ownBlock.toList ++ vs.flatMap fun v => v.ownBlock.toList
theorem RJ.bf {W0 w : World} {Td B n : Nat} {told : Nat → Bool} {lv : Value} {vs : List Value} {ls : List (List Nat)} (h : RJ W0 Td B n told lv vs ls w) (hne : ∀ r ∈ ls, 0 < r.length) : BfV B tSI lv (bfX lv vs) (vs.zip ls).toArray w ∧ ((vs.zip ls).toArray.toList.map Prod.snd) = ls ∧ (vs.zip ls).toArray.size = vs.length ∧ ∀ b ∈ bfX lv vs, B ≤ b := by
  have h1 : (vs.zip ls).map Prod.fst = vs := List.map_fst_zip (by rw [h.len]; exact Nat.le_refl _)
  have h2 : (vs.zip ls).map Prod.snd = ls := List.map_snd_zip (by rw [h.len]; exact Nat.le_refl _)
  have h3 : (vs.zip ls).length = vs.length := by
    have := congrArg List.length h1
    simpa using this
  have hx : ∀ b ∈ bfX lv vs, B ≤ b ∧ b < w.heap.size := fun b hb => by
    rcases List.mem_append.1 hb with hb | hb
    · exact h.l.lt b (by simpa using hb)
    · obtain ⟨v, hv, hb⟩ := List.mem_flatMap.1 hb
      obtain ⟨i, hi, rfl⟩ := List.getElem_of_mem hv
      exact (h.el i hi (by rw [← h.len]; exact hi)).lt b (by simpa using hb)
  refine ⟨⟨?_, fun p hp => ?_, fun b hb => (hx b hb).2, fun k hk => List.mem_append_left _ (by rw [hk]; simp)⟩, h2, by simp [h.len], fun b hb => (hx b hb).1⟩
  · rw [show (vs.zip ls).toArray.size = vs.length by simp [h.len], show (vs.zip ls).toArray.toList = vs.zip ls from rfl, h1]
    exact h.l
  · obtain ⟨i, hi, rfl⟩ := List.getElem_of_mem (show p ∈ vs.zip ls from hp)
    have hi1 : i < vs.length := by omega
    have hi2 : i < ls.length := by rw [← h.len]; exact hi1
    have e : (vs.zip ls)[i] = (vs[i], ls[i]) := List.getElem_zip
    rw [e]
    have hrow := h.el i hi1 hi2
    refine ⟨own_sl hrow, hne _ (List.getElem_mem hi2), fun b off m c he => ?_⟩
    have hob : vs[i].ownBlock = some b := by
      have he' : vs[i] = .slice (some ⟨b, off, none⟩) m c := he
      rcases hrow.2 with ⟨h5, _⟩ | ⟨g, cap, cur, h5, _⟩
      · rw [h5] at he'
        cases he'
      · rw [h5] at he'
        cases he'
        rw [h5]
        rfl
    exact ⟨List.mem_append_right _ (List.mem_flatMap.2 ⟨_, List.getElem_mem hi1, by rw [hob]; simp⟩), own_ne hrow h.l (by decide) b hob⟩
theorem BfV.toAt {B : Nat} {lv : Value} {X : List Nat} {d : Array (Value × List Nat)} {w : World} (h : BfV B tSI lv X d w) : ToAt w lv (d.toList.map Prod.snd) := by
  refine ⟨d.toList.map Prod.fst, ?_, fun k hk => ?_⟩
  · have := own_sl h.row
    simpa using this
  · have hk' : k < d.toList.length := by simpa using hk
    refine ⟨d.toList[k].1, by rw [List.getElem?_map, List.getElem?_eq_getElem hk']; rfl, ?_⟩
    have := (h.inn _ (List.getElem_mem hk')).1
    simpa using this
end
section
open Go.RowKit Go.Shelf Go.Sort Go.Proofs

/-- Rings by their first numbers, as they are read. -/
def RingsN (g : Dg) (w : World) (e : Ending) (w1 : World) : Prop := ∃ sv Rn, e = .returned sv ∧ ToAt w1 sv Rn ∧ RingsOk g Rn (fun v => v < g.length) ∧ (Rn.Pairwise fun r q => r.headD 0 < q.headD 0) ∧ Fr [] w w1 ∧ ∀ (S : List Nat) (u : World), (∀ b ∈ S, b < w.heap.size) → Fr S w1 u → ToAt u sv Rn
set_option maxRecDepth 100000 in
set_option maxHeartbeats 6400000 in
theorem rfRings (G : Nat) (l : List Sp) (g F : Dg) (w : World) (hG : RfG w G l g F) (hF : FromOk g F) (hg : OkG g) (hlg : l.length = g.length) (hl : g.length ≤ 65536) : Calls Tryz.prog 31 #[.pointer (some ⟨G, 0, none⟩)] w (RingsN g w) := by
  obtain ⟨av, tv, fv, hbx, hav, htv, hfv⟩ := hG.ex
  obtain ⟨aq, ac, rfl, ha1, ha2⟩ := hav.form
  obtain ⟨fq, fc, rfl, hfc1, hfc2⟩ := hfv.form
  obtain ⟨tq, tc, rfl, htc1, htc2⟩ := htv.form
  rw [hlg] at hbx
  have HBX := Lib.hid hbx
  have HTV := Lib.hid htv
  have HFV := Lib.hid hfv
  have HF := Lib.hid hF
  have HG := Lib.hid hg
  obtain ⟨i1, hi1, hy0, hy1, hy2⟩ := info_parts infoInt
  obtain ⟨i2, hi2, hx0, hx1, hx2⟩ := info_parts infoSl
  have b1 := cell_of hbx 1
  have hGl := lt_of hbx
  clear hG hF hg hbx hav htv hfv ha1 ha2 hlg
  go_enter Tryz.func31, Tryz.ntmps31
  go_wp2_with fail
  refine (rfEnds _ g w HTV.out HG.out hl).mono ?_
  rintro e w1 ⟨ov, out, rfl, hends, hout, hf1⟩
  have b0 := cell_of (hf1.heap HBX.out (by simp)) 0
  have hGl1 := Nat.lt_of_lt_of_le hGl hf1.size
  have hmk := mkB g.length (by omega)
  have HE := Lib.hid hends
  have HOUT := Lib.hid hout
  have HF1 := Lib.hid hf1
  obtain ⟨oq, oc, rfl, ho1, ho2⟩ := (own_sl hout).form
  have hol : out.length ≤ 65536 := by
    have := nodup_lt hends.nd (fun x hx => (hends.mem x).1 hx)
    omega
  clear b1 hends hout hf1
  go_upto_block 0 with fail
  clear hmk b0
  have hrow := heap_new w1 (.cells (Array.replicate g.length (.bool false)) tB)
  have hF2 : Fr [] w1 (w1.alloc (.cells (Array.replicate g.length (.bool false)) tB)) := (Fr.refl [] w1).alloc _
  have hsz : (w1.alloc (.cells (Array.replicate g.length (.bool false)) tB)).heap.size = w1.heap.size + 1 := by simp
  generalize w1.alloc (.cells (Array.replicate g.length (.bool false)) tB) = W0 at *
  have hw1 := HF1.out.size
  have hTd : w.heap.size ≤ w1.heap.size ∧ G < w1.heap.size := ⟨hw1, by omega⟩
  have HOL := Lib.hid (fun x (hx : (Value.slice oq out.length oc).ownBlock = some x) => (HOUT.out.lt x hx).2)
  generalize w1.heap.size = Td at *
  have HSZ := Lib.hid hsz
  have HF2 := Lib.hid hF2
  have hJ0 : RJ W0 Td (Td + 1) g.length (fun _ => false) (.slice none 0 0) [] [] W0 := ⟨row_new hrow, World.ownsRow_nil _ _ _ _, rfl, fun i h => by simp at h, List.Pairwise.nil, Fr.refl _ _, by omega, by omega, hsz⟩
  have HJ0 := Lib.hid hJ0
  have HST : Hid (∀ {S : List Nat} {u : World}, Fr S W0 u → (∀ b ∈ S, Td ≤ b) → u.heap[G]? = some (.cells #[.slice aq g.length ac, .slice tq g.length tc, .slice fq F.length fc] tGr (0, 0)) ∧ Fr [] w u ∧ u.ownsRow w.heap.size tI 1 (.slice oq out.length oc) out.length (out.flatMap nC)) := fun {S u} hf hS => by
    have h1 : Fr [] w u := (HF1.out.trans0 HF2.out).trans hf (fun x hx => .inr (by have := hS x hx; omega))
    refine ⟨h1.heap HBX.out (by simp), h1, owns_fr (owns_fr HOUT.out HF2.out (by simp)) hf fun k hk hm => ?_⟩
    have := HOL.out k hk
    have := hS k hm
    omega
  have hsub : IntKind.i64.wrap ((out.length : Int) - 1) = (out.length : Int) - 1 := by rw [IntKind.wrap_i64]; omega
  clear hsz hF2 hJ0 hrow
  go_wp2_with fail
  go_loopw [5, 6] (fun lv nv wr => ∃ (m : Nat) (told : Nat → Bool) (vs : List Value) (ls : List (List Nat)), nv = .int .i64 ((m : Int) - 1) ∧ m ≤ out.length ∧ KOk g out told ls m ∧ RJ W0 Td (Td + 1) g.length told lv vs ls wr) (fun _ nv _ => (intOf nv + 1).toNat)
  case atStart => exact ⟨out.length, fun _ => false, [], [], rfl, Nat.le_refl _, KOk.start g out, HJ0.out⟩
  case round =>
    clear hsub
    obtain ⟨m, told, vs, ls, rfl, hm, hK, hJ⟩ := hrel
    have HK := Lib.hid hK
    have HJ := Lib.hid hJ
    clear hK hJ HJ0
    by_cases hm0 : m = 0
    · subst hm0
      have hall := HK.out.all HE.out
      have hvl : vs.length ≤ 65536 := by
        have := HK.out.rg.len HK.out.lt
        have := HJ.out.len
        omega
      have hne : ∀ r ∈ ls, 0 < r.length := fun r hr => by
        obtain ⟨p, rfl, _, h3, _⟩ := HK.out.rg.el r hr
        rw [sortN_len]
        exact List.length_pos_iff.2 h3
      obtain ⟨hbf, hsnd, hds, hXB⟩ := HJ.out.bf hne
      have HBF := Lib.hid hbf
      have HSND := Lib.hid hsnd
      have HXB := Lib.hid hXB
      have HALL := Lib.hid hall
      have hd6 : (vs.zip ls).toArray.size ≤ 65536 := by omega
      obtain ⟨lq, ln, lc, rfl⟩ := own_form HJ.out.l
      clear hbf hsnd hds hXB hall hne hvl
      generalize (vs.zip ls).toArray = d at *
      go_wp2_with fail
      refine (bfSort (Td + 1) tSI _ _ d wr HBF.out hd6).mono ?_
      rintro e w5 ⟨rfl, ⟨d', hp, hpw, hV⟩, hf5⟩
      have hR := rn_of HALL.out (ds := d'.toList) (by have := hp.map Prod.snd; rw [HSND.out] at this; exact this) hpw
      have HR := Lib.hid hR
      have HTA := Lib.hid hV.toAt
      have HF5 : Hid (Fr [] w w5) := (HF1.out.trans0 HF2.out).trans ((HJ.out.fr.trans hf5 (T := bfX (.slice lq ln lc) vs) (fun x hx => .inr (by rw [HSZ.out]; exact HXB.out x hx)))) (fun x hx => .inr (by rw [List.mem_singleton] at hx; omega))
      have HSTAY : Hid (∀ (S : List Nat) (u : World), (∀ b ∈ S, b < w.heap.size) → Fr S w5 u → ToAt u (.slice lq ln lc) (d'.toList.map Prod.snd)) := fun S u hS hf => (hV.fr hf (fun b hb hx => by have := hS b hb; have := HXB.out b hx; omega)).toAt
      clear hp hpw hV hf5 hR
      go_wp2
      go_ret
      exact ⟨_, _, rfl, HTA.out, HR.out.1, HR.out.2, HF5.out, HSTAY.out⟩
    · obtain ⟨n, rfl⟩ : ∃ n, m = n + 1 := ⟨m - 1, by omega⟩
      have en : ((n + 1 : Nat) : Int) - 1 = (n : Int) := by omega
      rw [en]
      clear en hm0
      have hn : n < out.length := by omega
      have hn1 : (n : Int) < (out.length : Int) := by omega
      have hn0 : (0 : Int) ≤ (n : Int) := by omega
      have hwn : IntKind.i64.wrap ((n : Int) - 1) = (n : Int) - 1 := by rw [IntKind.wrap_i64]; omega
      obtain ⟨_, _, hor⟩ := HST.out HJ.out.fr (by simp)
      obtain ⟨ob, _, e, hob, c0, _⟩ := own_cellI hor hn
      cases e
      have hxl : out[n] < g.length := (HE.out.mem _).1 (List.getElem_mem hn)
      have hxl1 : (out[n] : Int) < (g.length : Int) := by omega
      have t0 := HJ.out.td.cell hxl
      have tf := HJ.out.td.frozen out[n]
      have tl := HJ.out.td.lt
      have HSK := Lib.hid (fun h => HK.out.skip hn h)
      have HBG := Lib.hid (fun h => BOk.begin (F := F) HE.out (t0 := told) hn h)
      have HRG := Lib.hid (fun (t : Nat) (told1 : Nat → Bool) (r : List Nat) (h2 : ∀ x ∈ (out.take n).drop t, Rch g out[n] x) (h : BOk g F out told n t out[n] told1 r r.length) (hr : 1 < r.length ∨ out[n] ∈ nxs g out[n]) => KOk.ring HF.out HG.out HE.out hn HK.out h2 h hr)
      have HLN := Lib.hid (fun (t : Nat) (told1 : Nat → Bool) (r : List Nat) (h2 : ∀ x ∈ (out.take n).drop t, Rch g out[n] x) (h : BOk g F out told n t out[n] told1 r r.length) (hr : ¬ 1 < r.length) (hs : out[n] ∉ nxs g out[n]) => KOk.lone HF.out HG.out HE.out hn HK.out h2 h hr hs)
      have HADD := Lib.hid (fun (t x : Nat) (ht : ∀ x ∈ out.take t, ∀ y ∈ nxs g x, y ∈ out.take (n + 1) → y ∈ out.take t) (told1 : Nat → Bool) (r : List Nat) (i u : Nat) (h : BOk g F out told n t x told1 r i) (hi : i < r.length) (hu : u ∈ nxs F r[i]) (hs : told1 u = false) => h.add HF.out HE.out HK.out ht hi hu hs)
      clear hor
      generalize out[n] = x at *
      cases hs : told x with
      | true =>
        rw [hs] at t0
        have HSK2 := Lib.hid (HSK.out hs)
        clear HSK HBG HRG HLN HADD hs
        go_wp2
        go_roundw
        case rel => exact ⟨n, told, vs, ls, by go_num, by omega, HSK2.out, HJ.out⟩
        case measure => simp [intOf]
      | false =>
        rw [hs] at t0
        obtain ⟨t, ht1, ht2, ht3, hb⟩ := HBG.out hs
        have HB0 := Lib.hid hb
        have HT2 := Lib.hid ht2
        have HT3 := Lib.hid ht3
        have HJ1 := Lib.hid (HJ.out.tell (told1 := upd told x true) (fr_cell wr Td x (.bool true)) ((HJ.out.td.set x (.bool true)).congr fun i _ => by simp only [upd]; split <;> rfl))
        have c0' : (wr.setCell ⟨Td, x, none⟩ (.bool true)).cell? ⟨ob, n, none⟩ = some (.int .i64 (x : Int)) := ce_set c0 (by have := HOL.out ob rfl; omega)
        have hob' : ob < (wr.setCell ⟨Td, x, none⟩ (.bool true)).heap.size := by simpa using hob
        clear HSK HBG hs hb ht2 ht3
        go_upto_region 9 with fail
        clear t0 tf tl c0 hob
        generalize wr.setCell ⟨Td, x, none⟩ (.bool true) = W1 at *
        go_upto_block 2 with fail
        clear c0' hob'
        have hr0 : (W1.alloc (.cells #[.int .i64 (x : Int)] tI)).ownsRow W1.heap.size tI 1 (.slice (some ⟨W1.heap.size, 0, none⟩) 1 1) 1 [.int .i64 (x : Int)] := World.ownsRow_lit W1 #[.int .i64 (x : Int)] 1 (Nat.le_refl _) (by decide) rfl
        have HJ2 := Lib.hid (HJ1.out.fr0 ((Fr.refl [] W1).alloc (.cells #[.int .i64 (x : Int)] tI)))
        have HR0 := Lib.hid hr0
        have hsz2 : W1.heap.size ≤ (W1.alloc (.cells #[.int .i64 (x : Int)] tI)).heap.size := by simp
        have hBW : Td + 1 ≤ W1.heap.size := HJ1.out.sz
        have HF12 : Hid (Fr [Td] W1 (W1.alloc (.cells #[.int .i64 (x : Int)] tI))) := (Fr.refl [Td] W1).alloc _
        clear hr0 HJ
        generalize W1.alloc (.cells #[.int .i64 (x : Int)] tI) = W2 at *
        generalize hR0e : W1.heap.size = R0 at *
        have HRE := Lib.hid hR0e
        clear hR0e
        go_wp2_with fail
        go_loopw [7, 8] (fun rv iv wx => ∃ (i : Nat) (told1 : Nat → Bool) (r : List Nat), iv = .int .i64 (i : Int) ∧ i ≤ r.length ∧ BOk g F out told n t x told1 r i ∧ (wx.rowIs Td tB g.length fun i => .bool (told1 i)) ∧ wx.ownsRow R0 tI 1 rv r.length (r.flatMap nC) ∧ Fr [Td] W1 wx) (fun _ iv _ => g.length - (intOf iv).toNat)
        case atStart => exact ⟨0, upd told x true, [x], rfl, by simp, HB0.out, HJ2.out.td, HR0.out, HF12.out⟩
        case round =>
          clear HR0 HB0
          obtain ⟨i, told1, r, rfl, hi, hB, htd, hrow, hfx⟩ := hrel
          have HB := Lib.hid hB
          have HTD := Lib.hid htd
          have HROW := Lib.hid hrow
          have hrl : r.length ≤ g.length := nodup_lt hB.nd hB.lt
          obtain ⟨rq, rc, rfl, hr1, hr2⟩ := (own_sl hrow).form
          clear hB htd hrow
          have HFW : Hid (Fr [Td] W0 wr) := HJ1.out.fr.transS hfx
          obtain ⟨hbxw, hfw, _⟩ := HST.out HFW.out (by simp)
          by_cases hil : i < r.length
          · have hil1 : (i : Int) < (r.length : Int) := by omega
            obtain ⟨rb, _, e, hrb, c0, _⟩ := own_cellI HROW.out hil
            cases e
            have hzl := HB.out.lt _ (List.getElem_mem hil)
            have HZ : Hid (r[i]? = some r[i]) := List.getElem?_eq_getElem hil
            generalize r[i] = z at *
            have hzF : z < F.length := by rw [HF.out.len]; exact hzl
            have hzF1 : (z : Int) < (F.length : Int) := by omega
            obtain ⟨fb, fo, _, u, e, hfb, d0, hu⟩ := HFV.out.cell hzF
            cases e
            rw [← nxs_get hzF] at hu
            obtain ⟨uq, uc, rfl, hu1, hu2⟩ := hu.form
            have HU := Lib.hid hu
            have d0' := ce_call hfw d0
            have hfb' := Nat.lt_of_lt_of_le hfb hfw.size
            have b2 := cell_of hbxw 2
            have hGw := lt_of hbxw
            clear hu d0 hfb hbxw hfw
            go_wp2_with fail
            go_quiet (fail)
            have hfx' : Fr [Td] W1 (wr.drewN nq) := hfx.drewN nq
            have HROW' := Lib.hid (owns_fr HROW.out ((Fr.refl [] wr).drewN nq) (by simp))
            have HTD' := Lib.hid (row_fr HTD.out ((Fr.refl [] wr).drewN nq) (by simp))
            clear c0 d0' hfb' b2 hGw hrb hfx HFW HROW HTD
            generalize wr.drewN nq = W3 at *
            go_wp2_with fail
            go_loopw [7, 10] (fun rv kv wx => ∃ (k : Nat) (told2 : Nat → Bool) (r2 : List Nat), kv = .int .i64 (k : Int) ∧ k ≤ (nxs F z).length ∧ BOk g F out told n t x told2 r2 i ∧ i < r2.length ∧ r2[i]? = some z ∧ (∀ u ∈ (nxs F z).take k, told2 u = true) ∧ (wx.rowIs Td tB g.length fun i => .bool (told2 i)) ∧ wx.ownsRow R0 tI 1 rv r2.length (r2.flatMap nC) ∧ Fr [Td] W1 wx) (fun _ kv _ => (nxs F z).length - (intOf kv).toNat)
            case atStart => exact ⟨0, told1, r, rfl, by omega, HB.out, hil, HZ.out, by simp, HTD'.out, HROW'.out, hfx'⟩
            case round =>
              clear HROW' HTD' hfx' HB HZ hrl hi hil hil1
              obtain ⟨k, told2, r2, rfl, hk, hB, hi2, hrz, hkn, htd, hrow, hfx⟩ := hrel
              have HB := Lib.hid hB
              have HTD := Lib.hid htd
              have HROW := Lib.hid hrow
              have HKN := Lib.hid hkn
              have HRZ := Lib.hid hrz
              have hrl : r2.length ≤ g.length := nodup_lt hB.nd hB.lt
              obtain ⟨rq, rc2, rfl, hr1', hr2'⟩ := (own_sl hrow).form
              clear hB htd hrow hkn hrz
              by_cases hkl : k < (nxs F z).length
              · have hk1 : (k : Int) < ((nxs F z).length : Int) := by omega
                have HFW : Hid (Fr [Td] W0 wr) := HJ1.out.fr.transS hfx
                obtain ⟨_, hfw, _⟩ := HST.out HFW.out (by simp)
                obtain ⟨ub, uo, _, e, hubw, dc⟩ := HU.out.cell (by omega)
                cases e
                have d1 := ce_call hfw (dc k (.int .i64 ((nxs F z)[k] : Int)) (by
                  have := flat_get nC 1 (fun _ => rfl) (nxs F z) k 0 hkl (by omega)
                  simpa using this))
                have hub := Nat.lt_of_lt_of_le hubw hfw.size
                have HUB : Hid (Td ≠ ub) := by show Td ≠ ub; omega
                have HTK := Lib.hid (List.take_succ_eq_append_getElem hkl)
                have HMK := Lib.hid (List.getElem_mem hkl)
                have hyl : (nxs F z)[k] < g.length := ((HF.out.mem z hzl _).1 (List.getElem_mem hkl)).1
                clear dc hfw HFW
                generalize (nxs F z)[k] = y at *
                have hyl1 : (y : Int) < (g.length : Int) := by omega
                have t0 := HTD.out.cell hyl
                have tf := HTD.out.frozen y
                have tl := HTD.out.lt
                generalize hnm : (nxs F z).length = nm at *
                have HNM := Lib.hid hnm
                clear hnm
                cases hs : told2 y with
                | true =>
                  rw [hs] at t0
                  have HKN2 : Hid (∀ u ∈ (nxs F z).take (k + 1), told2 u = true) := fun u hu => by
                    rw [HTK.out] at hu
                    rcases List.mem_append.1 hu with hu | hu
                    · exact HKN.out u hu
                    · simp at hu
                      rw [hu]
                      exact hs
                  clear hs
                  go_wp2
                  go_roundw
                  case rel => exact ⟨k + 1, told2, r2, by go_num, by omega, HB.out, hi2, HRZ.out, HKN2.out, HTD.out, HROW.out, hfx⟩
                  case measure => simp [intOf]; omega
                | false =>
                  rw [hs] at t0
                  have hrz : r2[i] = z := by
                    have := HRZ.out
                    rw [List.getElem?_eq_getElem hi2] at this
                    exact Option.some.inj this
                  have HB2 := Lib.hid (HADD.out t x HT3.out told2 r2 i y HB.out hi2 (by rw [hrz]; exact HMK.out) hs)
                  have HKN2 : Hid (∀ u ∈ (nxs F z).take (k + 1), upd told2 y true u = true) := fun u hu => by
                    unfold upd
                    split
                    · rfl
                    · rename_i hne
                      rw [HTK.out] at hu
                      rcases List.mem_append.1 hu with hu | hu
                      · exact HKN.out u hu
                      · simp at hu
                        exact absurd hu hne
                  have HRZ2 : Hid ((r2 ++ [y])[i]? = some z) := by
                    show _ = _
                    rw [List.getElem?_append_left hi2]
                    exact HRZ.out
                  have hTR : Td < R0 := by omega
                  have HROW2 := Lib.hid (owns_fr HROW.out (fr_cell wr Td y (.bool true)) (own_low HROW.out hTR))
                  have HTD2 : Hid ((wr.setCell ⟨Td, y, none⟩ (.bool true)).rowIs Td tB g.length fun i => .bool (upd told2 y true i)) := (HTD.out.set y (.bool true)).congr fun i _ => by simp only [upd]; split <;> rfl
                  have hf2 : Fr [Td] W1 (wr.setCell ⟨Td, y, none⟩ (.bool true)) := hfx.setCell (.inl (by simp)) _
                  have d1' : (wr.setCell ⟨Td, y, none⟩ (.bool true)).cell? ⟨ub, uo + k, none⟩ = some (.int .i64 (y : Int)) := ce_set d1 HUB.out
                  have hub' : ub < (wr.setCell ⟨Td, y, none⟩ (.bool true)).heap.size := by simpa using hub
                  have hzz : R0 ≤ (wr.setCell ⟨Td, y, none⟩ (.bool true)).heap.size := by
                    have := hfx.size
                    have := HRE.out
                    simp
                    omega
                  clear hrz hs HROW HTD HB HKN HRZ
                  go_upto_region 19 with fail
                  clear t0 tf tl d1 hub hfx
                  generalize wr.setCell ⟨Td, y, none⟩ (.bool true) = W4 at *
                  have hown := HROW2.out.alloc (.cells #[.int .i64 (y : Int)] tI)
                  go_wp2_with (at_builtin; refine wpList_append_own _ rfl _ _ 47 rfl R0 tI i1 _ 1 8 Tryz.underlying47 hi1 hy0 hy1 hy2 rfl (by decide) _ _ _ rfl hown ⟨W4.heap.size, 0, none⟩ 1 1 [.int .i64 (y : Int)] rfl rfl (by have := news_of W4 [.int .i64 (y : Int)] tI; simpa using this) (one_mem rfl) (by unfold maxLen; omega) (by omega) (by simp; omega) ?_; intro rv9 w9 hown9 hgrow _)
                  have HTD9 := Lib.hid (row_fr (row_fr HTD2.out ((Fr.refl [] W4).alloc (.cells #[.int .i64 (y : Int)] tI)) (by simp)) (fr_grown hgrow) (low_not hown hTR))
                  have HF9 : Hid (Fr [Td] W1 w9) := (hf2.alloc _).grown hgrow (fun q hq => .inr (by have := (hown.lt q hq).1; have := HRE.out; omega))
                  go_roundw
                  case rel => exact ⟨k + 1, upd told2 y true, r2 ++ [y], by go_num, by omega, HB2.out, by simp; omega, HRZ2.out, HKN2.out, HTD9.out, by simpa using hown9, HF9.out⟩
                  case measure => simp [intOf]; omega
              · obtain rfl : k = (nxs F z).length := by omega
                have hrz : r2[i] = z := by
                  have := HRZ.out
                  rw [List.getElem?_eq_getElem hi2] at this
                  exact Option.some.inj this
                have HB2 := Lib.hid (HB.out.known hi2 (fun u hu => HKN.out u (by rw [List.take_length]; rw [hrz] at hu; exact hu)))
                clear hrz HB HKN
                generalize (nxs F z).length = nm at *
                go_wp2
                go_roundw
                case rel => exact ⟨i + 1, told2, r2, by go_num, by omega, HB2.out, HTD.out, HROW.out, hfx⟩
                case measure => simp [intOf]; omega
          · obtain rfl : i = r.length := by omega
            have hpos := HB.out.hd
            have hx00 : r[0] = x := by
              have := HB.out.x0
              rw [List.getD_eq_getElem?_getD, List.getElem?_eq_getElem hpos] at this
              exact this
            obtain ⟨rb, _, e, hrb, c0, _⟩ := own_cellI HROW.out hpos
            cases e
            rw [hx00] at c0
            have hp1 : (0 : Int) < (r.length : Int) := by omega
            obtain ⟨tb, t1, _, u, e, htb, d0, hu⟩ := HTV.out.cell hxl
            cases e
            rw [← nxs_get hxl] at hu
            obtain ⟨uq, uc, rfl, hu1, hu2⟩ := hu.form
            have d0' := ce_call hfw d0
            have htb' := Nat.lt_of_lt_of_le htb hfw.size
            have b1 := cell_of hbxw 1
            have hGw := lt_of hbxw
            have HIT : Hid (∀ m : Nat, Calls Tryz.prog 56 #[.slice uq (nxs g x).length uc, .int .i64 (x : Int)] (wr.drewN m) fun e w1 => e = .returned (.bool (decide (x ∈ nxs g x))) ∧ ∃ m2, w1 = (wr.drewN m).drewN m2) := fun m => rfItselfQ _ _ x _ (hu.fr0 (hfw.trans0 ((Fr.refl [] wr).drewN m)))
            have HRL := Lib.hid hrl
            clear hx00 hu hfw hbxw d0 htb hi hrl
            go_upto_region 20 with fail
            go_cut [107] from 90 to 107 (fun b wx => b = .bool (decide (1 < r.length ∨ x ∈ nxs g x)) ∧ Fr [] wr wx)
            case first =>
              by_cases h1 : 1 < r.length
              · have hd1 : decide ((1 : Int) < (r.length : Int)) = true := decide_eq_true (by omega)
                have hd1' : decide (1 < r.length) = true := decide_eq_true h1
                have HD : Hid (decide (1 < r.length ∨ x ∈ nxs g x) = true) := decide_eq_true (.inl h1)
                clear h1
                go_quiet (fail)
                go_wp2
                go_meet
                exact ⟨by rw [HD.out], (Fr.refl _ _).drewN _⟩
              · have hd1 : decide ((1 : Int) < (r.length : Int)) = false := decide_eq_false (by omega)
                have hd1' : decide (1 < r.length) = false := decide_eq_false h1
                obtain ⟨bb, hbb⟩ : ∃ bb, decide (x ∈ nxs g x) = bb := ⟨_, rfl⟩
                have HD : Hid (decide (1 < r.length ∨ x ∈ nxs g x) = bb) := by
                  show _ = _
                  rw [← hbb, decide_eq_decide]
                  exact ⟨fun h => h.elim (fun h => absurd h h1) id, .inr⟩
                rw [hbb] at HIT
                clear h1 hbb
                generalize (nxs g x).length = nm at *
                go_quiet ((go_at_call 56; exact Calls.quiet_of (HIT.out _)))
                go_wp2
                go_meet
                exact ⟨by rw [HD.out], (Fr.refl _ _).drewN _⟩
            case rest =>
              obtain ⟨rfl, hf4⟩ := hcut
              have HROW4 := Lib.hid (owns_fr HROW.out hf4 (by simp))
              have HTD4 := Lib.hid (row_fr HTD.out hf4 (by simp))
              have HF4 : Hid (Fr [Td] W1 wc) := hfx.trans0 hf4
              clear c0 d0' htb' b1 hGw hrb HIT HROW HTD hf4 hfx HFW
              by_cases hc : 1 < r.length ∨ x ∈ nxs g x
              · have HK2 := Lib.hid (HRG.out t told1 r HT2.out HB.out hc)
                have hpar : ∀ a ∈ vs, ∀ q, a.ownBlock = some q → (Value.slice (some ⟨rb, 0, none⟩) r.length rc).ownBlock ≠ some q := fun a ha q h1 h2 => by
                  obtain ⟨j, hj, rfl⟩ := List.getElem_of_mem ha
                  have h3 := ((HJ1.out.el j hj (by rw [← HJ1.out.len]; exact hj)).lt q h1).2
                  have h4 := (HROW4.out.lt q h2).1
                  have := HRE.out
                  omega
                have HPAR := Lib.hid hpar
                have hvl : vs.length ≤ 65536 := by
                  have := HK.out.rg.len HK.out.lt
                  have := HJ1.out.len
                  omega
                rw [decide_eq_true hc]
                clear hc HRG HLN HB hpar
                go_wp2_with fail
                refine (intsC r _ (by have := HRL.out; omega) HROW4.out).mono ?_
                rintro e w5 ⟨rfl, hrow5, hg5⟩
                have hf5 : Fr [Td] W1 w5 := HF4.out.grown hg5 (fun q hq => .inr (by have := (HROW4.out.lt q hq).1; have := HRE.out; omega))
                have HJ5 := Lib.hid (HJ1.out.tell (told1 := told1) hf5 (row_fr HTD4.out (fr_grown hg5) (low_not HROW4.out (by omega))))
                have hrow6 : w5.ownsRow (Td + 1) tI 1 (.slice (some ⟨rb, 0, none⟩) r.length rc) (sortN r).length ((sortN r).flatMap nC) := by
                  rw [sortN_len]
                  exact owns_mono hrow5 (by omega)
                have HROW6 := Lib.hid hrow6
                have hown := HJ5.out.l.alloc (.cells #[.slice (some ⟨rb, 0, none⟩) r.length rc] tSI)
                have hsz5 : Td + 1 ≤ w5.heap.size := HJ5.out.sz
                clear hrow5 hg5 hf5 hrow6 HROW4 HTD4 HF4
                go_wp2_with (at_builtin; refine wpList_append_own _ rfl _ _ 58 rfl (Td + 1) tSI i2 _ 1 24 Tryz.underlying58 hi2 hx0 hx1 hx2 rfl (by decide) _ _ _ rfl hown ⟨w5.heap.size, 0, none⟩ 1 1 [.slice (some ⟨rb, 0, none⟩) r.length rc] rfl rfl (by have := news_of w5 [.slice (some ⟨rb, 0, none⟩) r.length rc] tSI; simpa using this) (one_mem rfl) (by unfold maxLen; omega) (by omega) (by simp; omega) ?_; intro lv9 w9 hown9 hgrow _)
                have HJ9 := Lib.hid ((HJ5.out.fr0 ((Fr.refl [] w5).alloc (.cells #[.slice (some ⟨rb, 0, none⟩) r.length rc] tSI))).push (r := sortN r) (rv := .slice (some ⟨rb, 0, none⟩) r.length rc) (HROW6.out.alloc _) HPAR.out hgrow hown9)
                go_roundw
                case rel => exact ⟨n, told1, vs ++ [.slice (some ⟨rb, 0, none⟩) r.length rc], ls ++ [sortN r], by go_num, by omega, HK2.out, HJ9.out⟩
                case measure => simp [intOf]
              · have HK2 := Lib.hid (HLN.out t told1 r HT2.out HB.out (fun h => hc (.inl h)) (fun h => hc (.inr h)))
                have HJ4 := Lib.hid (HJ1.out.tell HF4.out HTD4.out)
                rw [decide_eq_false hc]
                clear hc HRG HLN HB HROW4 HTD4 HF4
                go_wp2
                go_roundw
                case rel => exact ⟨n, told1, vs, ls, by go_num, by omega, HK2.out, HJ4.out⟩
                case measure => simp [intOf]
end
section
open Go.RowKit Go.Shelf Go.Sort Go.Proofs

theorem infoTSe : (Tryz.prog.info? tS).map (fun i => (i.zero, i.size, i.bytes)) = some (some (.slice none 0 0), 1, 24) := by kernel_rfl
theorem Told.fr {B : Nat} {w w1 : World} {vs : List Value} {ls : List (List Sp)} (h : Told B w vs ls) {S : List Nat} (hf : Fr S w w1) (hS : ∀ i (h1 : i < vs.length), ∀ g, vs[i].ownBlock = some g → g ∉ S) : Told B w1 vs ls :=
  ⟨h.len, fun i h1 h2 => owns_fr (h.at' i h1 h2) hf (hS i h1), h.sep⟩
theorem Told.push {B : Nat} {w : World} {vs : List Value} {ls : List (List Sp)} (h : Told B w vs ls) {v : Value} {r : List Sp} (hr : w.ownsRow B tSp 2 v r.length (r.flatMap spC)) (hs : ∀ a ∈ vs, ∀ g, a.ownBlock = some g → v.ownBlock ≠ some g) : Told B w (vs ++ [v]) (ls ++ [r]) := by
  refine ⟨by simp [h.len], fun i h1 h2 => ?_, ?_⟩
  · by_cases hi : i < vs.length
    · have hi2 : i < ls.length := by rw [← h.len]; exact hi
      rw [List.getElem_append_left hi, List.getElem_append_left hi2]
      exact h.at' i hi hi2
    · have e : i = vs.length := by simp at h1; omega
      have e2 : i = ls.length := by rw [← h.len]; exact e
      rw [List.getElem_append_right (by omega), List.getElem_append_right (by omega)]
      simpa [e, e2] using hr
  · rw [List.pairwise_append]
    exact ⟨h.sep, by simp, fun a ha b hb => by simp at hb; subst hb; exact hs a ha⟩
theorem Told.mono {B B0 : Nat} {w : World} {vs : List Value} {ls : List (List Sp)} (h : Told B w vs ls) (hB : B0 ≤ B) : Told B0 w vs ls := ⟨h.len, fun i h1 h2 => owns_mono (h.at' i h1 h2) hB, h.sep⟩
theorem RingsN.sort {g : Dg} {ns : List Nd} (h0 : madeE ns = 0) (hg : g = gNx ns) {Rn : List (List Nat)} (hR : RingsOk g Rn fun v => v < g.length) (hs : Rn.Pairwise fun r q => r.headD 0 < q.headD 0) : Rn.map (spotsOf (gSp ns)) = ringsL ns := by
  subst hg
  unfold ringsL
  rw [if_pos h0]
  exact rings_same (l := gSp ns) (sortS_lt (made_nd h0)) (gNx_ok ns) (by rw [gNx_len, gSp_len]) hR hs
theorem RingsRes.of {ns : List Nd} {w w1 : World} {e : Ending} {sv : Value} {vs : List Value} (h0 : madeE ns = 0) (he : e = .returned (.tuple #[sv, .int .i64 0])) (h1 : w1.ownsRow w.heap.size tS 1 sv vs.length vs) (h2 : Told w.heap.size w1 vs (ringsL ns)) (hf : Fr [] w w1) : RingsRes ns w e w1 :=
  ⟨sv, vs, by rw [h0]; exact he, h1, h2, hf⟩
theorem spotsOf_snoc {l : List Sp} {r : List Nat} {k : Nat} (hk : k < r.length) (h : r[k] < l.length) : spotsOf l (r.take (k + 1)) = spotsOf l (r.take k) ++ [l[r[k]]] := by
  unfold spotsOf
  rw [List.take_succ_eq_append_getElem hk, List.map_append, List.map_cons, List.map_nil, List.getD_eq_getElem?_getD, List.getElem?_eq_getElem h]
  rfl
set_option maxRecDepth 100000 in
set_option maxHeartbeats 6400000 in
theorem rfRingsC (v : Value) (ns : List Nd) (w : World) (hv : NodesAt w v ns) (hB : ns.length + tot ns ≤ 4194304) : Calls Tryz.prog 9 #[v] w (RingsRes ns w) := by
  have HV := Lib.hid hv
  obtain ⟨vq, vc, rfl, hv1, hv2⟩ := hv.row.form
  obtain ⟨i0, hi0, hz0, hz1, hz2⟩ := info_parts infoSpot
  obtain ⟨i2, hi2, hx0, hx1, hx2⟩ := info_parts infoTSe
  clear hv
  go_enter Tryz.func9, Tryz.ntmps9
  go_wp2_with fail
  refine (rfGraph _ ns w HV.out hB).mono ?_
  rintro e w1 ⟨hf1, ⟨h0, rfl⟩ | ⟨h0, G, rfl, hG⟩⟩
  · have HE : Hid (ringsL ns = []) := by show _ = _; unfold ringsL; rw [if_neg h0]
    have hne : (madeE ns != 0) = true := by simpa using h0
    have hne2 : ¬ madeE ns = 0 := h0
    have HM : Hid (∀ E, E = madeE ns → ∀ w1, Fr [] w w1 → RingsRes ns w (.returned (.tuple #[.slice none 0 0, .int .i64 E])) w1) := fun E hE w1 hf => by
      subst hE
      exact ⟨_, [], rfl, World.ownsRow_nil _ _ _ _, by rw [HE.out]; exact ⟨rfl, fun i h => by simp at h, List.Pairwise.nil⟩, hf⟩
    clear h0
    generalize hE : madeE ns = E at *
    have HEE := Lib.hid hE
    clear hE
    go_wp2
    go_ret2
    exact HM.out _ rfl _ hf1
  · have HG := Lib.hid hG
    have H0 := Lib.hid h0
    have HF1 := Lib.hid hf1
    have hmo := made_ok h0
    have hgl : (gNx ns).length ≤ 65536 := by rw [gNx_len]; exact hmo.1
    have HL : Hid ((gSp ns).length = (gNx ns).length) := by show _ = _; rw [gNx_len, gSp_len]
    have HRS : Hid (∀ {Rn : List (List Nat)}, RingsOk (gNx ns) Rn (fun v => v < (gNx ns).length) → (Rn.Pairwise fun r q => r.headD 0 < q.headD 0) → Rn.map (spotsOf (gSp ns)) = ringsL ns) := fun hR hs => RingsN.sort h0 rfl hR hs
    clear hG h0 hf1 hmo
    go_wp2_with fail
    refine (rfRings G (gSp ns) (gNx ns) (gFr ns) w1 HG.out (gFr_ok (made_nd H0.out)) (gNx_ok ns) HL.out hgl).mono ?_
    rintro e w2 ⟨sv, Rn, rfl, hta, hrok, hpw, hf2, _⟩
    have hRl : Rn.length ≤ 65536 := by
      have := hrok.len (fun v hv => hv)
      omega
    have HRT := Lib.hid (HRS.out hrok hpw)
    have HRB : Hid (∀ r ∈ Rn, r.length ≤ 65536 ∧ ∀ x ∈ r, x < (gSp ns).length) := fun r hr => by
      obtain ⟨p, rfl, h2, _, h4, _⟩ := hrok.el r hr
      refine ⟨?_, fun x hx => by rw [HL.out]; exact h4 x (mem_sortN.1 hx)⟩
      rw [sortN_len]
      have := nodup_lt h2 h4
      omega
    have HTA := Lib.hid hta
    have HG2 := Lib.hid (HG.out.fr0 hf2)
    have HF2 := Lib.hid (HF1.out.trans0 hf2)
    obtain ⟨sq, sc, rfl, hsc1, hsc2⟩ := hta.form
    clear hta hrok hpw hf2 HRS HG
    go_wp2_with fail
    go_loopw [7, 8] (fun lv iv wr => ∃ (i : Nat) (vs : List Value), iv = .int .i64 (i : Int) ∧ i ≤ Rn.length ∧ wr.ownsRow w2.heap.size tS 1 lv vs.length vs ∧ Told w2.heap.size wr vs ((Rn.take i).map (spotsOf (gSp ns))) ∧ Fr [] w2 wr) (fun _ iv _ => Rn.length - (intOf iv).toNat)
    case atStart => exact ⟨0, [], rfl, by omega, World.ownsRow_nil _ _ _ _, ⟨rfl, fun i h => by simp at h, List.Pairwise.nil⟩, Fr.refl _ _⟩
    case round =>
      obtain ⟨i, vs, rfl, hi, hrow, htl, hf⟩ := hrel
      have HROW := Lib.hid hrow
      have HTL := Lib.hid htl
      obtain ⟨lq, ln, lc, rfl⟩ := own_form hrow
      clear hrow htl
      by_cases hlt : i < Rn.length
      · have hi1 : (i : Int) < (Rn.length : Int) := by omega
        obtain ⟨tb, t1, _, u, e, htb, d0, hu⟩ := HTA.out.cell hlt
        cases e
        obtain ⟨uq, uc, rfl, hu1, hu2⟩ := hu.form
        have HU := Lib.hid hu
        have HTK := Lib.hid (List.take_succ_eq_append_getElem hlt)
        obtain ⟨hrb1, hrb2⟩ := HRB.out _ (List.getElem_mem hlt)
        have HRB2 := Lib.hid hrb2
        have HF := Lib.hid hf
        have hvl : vs.length ≤ 65536 := by
          have := HTL.out.len
          rw [this, List.length_map, List.length_take]
          omega
        have hwsz : w2.heap.size ≤ wr.heap.size := hf.size
        clear hu hrb2 hf
        generalize Rn[i] = r at *
        obtain ⟨WO, rfl⟩ : ∃ WO, WO = wr := ⟨_, rfl⟩
        go_wp2_with fail
        go_loopw [9, 10] (fun rv kv wx => ∃ k : Nat, kv = .int .i64 (k : Int) ∧ k ≤ r.length ∧ wx.ownsRow WO.heap.size tSp 2 rv k ((spotsOf (gSp ns) (r.take k)).flatMap spC) ∧ Fr [] WO wx) (fun _ kv _ => r.length - (intOf kv).toNat)
        case atStart => exact ⟨0, rfl, by omega, by simpa [spotsOf] using World.ownsRow_nil _ _ _ _, Fr.refl _ _⟩
        case round =>
          obtain ⟨k, rfl, hk, hrow, hfx⟩ := hrel
          have hfw : Fr [] w2 wr := HF.out.trans0 hfx
          have d0' := ce_call hfw d0
          have htb' := Nat.lt_of_lt_of_le htb hfw.size
          by_cases hkl : k < r.length
          · have hk1 : (k : Int) < (r.length : Int) := by omega
            obtain ⟨ub, uo, _, e, hub, dc⟩ := (HU.out.fr0 hfw).cell (by omega)
            cases e
            have d1 := dc k (.int .i64 (r[k] : Int)) (by
              have := flat_get nC 1 (fun _ => rfl) r k 0 hkl (by omega)
              simpa using this)
            have hyl := HRB2.out _ (List.getElem_mem hkl)
            have HSN := Lib.hid (spotsOf_snoc hkl hyl)
            obtain ⟨av, tv, fv, hbx, hav, _, _⟩ := (HG2.out.fr0 hfw).ex
            have b0 := cell_of hbx 0
            have hGl := lt_of hbx
            generalize r[k] = y at *
            obtain ⟨ab, ao, ac, e, hab, a0, a1⟩ := spots_cell hav hyl
            subst e
            have hyl1 : (y : Int) < ((gSp ns).length : Int) := by omega
            generalize (gSp ns)[y] = s at *
            obtain ⟨rq, rn, rc, rfl⟩ := own_form hrow
            have hsz := hfx.size
            have hkb : k ≤ 65536 := by omega
            clear dc hbx hav hfw
            go_wp2_with fail
            go_region_law (first | (refine step_append_lies _ (by rfl) _ _ _ (by rfl) WO.heap.size tSp i0 _ 2 16 Tryz.underlying28 hi0 hz0 hz1 hz2 rfl (by omega) (.slice rq rn rc) k ((spotsOf (gSp ns) (r.take k)).flatMap spC) (by rfl) ((hrow.alloc _).drew) ⟨wr.heap.size, 0, none⟩ 1 1 (spC s) (by rfl) (by rfl) (World.news_of_block (cs := (spC s).toArray) (t := tSp) (fr := (0, 0)) (heap_alloc_new wr _)) (by simp [Value.oneCell']) (by omega) (by unfold maxLen; omega) (by omega) (by simp; omega) (wr.heap.size + 1) (by simp) ?_; intro gg cap w7 hown7 hgrow hat hlt7))
            all_goals
              have HF7 : Hid (Fr [] WO w7) := (hfx.alloc _).drew.grown hgrow (fun g hg => .inr (hrow.lt g hg).1)
              have HO7 : Hid (w7.ownsRow WO.heap.size tSp 2 (.slice (some ⟨gg, 0, none⟩) (k + 1) cap) (k + 1) ((spotsOf (gSp ns) (r.take (k + 1))).flatMap spC)) := by
                show World.ownsRow _ _ _ _ _ _ _
                rw [HSN.out, List.flatMap_append]
                simpa using hown7
              clear hown7 hgrow hat hlt7
              go_wp2_with fail
              go_roundw
              case rel => exact ⟨k + 1, by go_num, by omega, HO7.out, HF7.out⟩
              case measure => simp [intOf]; omega
          · obtain rfl : k = r.length := by omega
            rw [List.take_length] at hrow
            have hsl : (spotsOf (gSp ns) r).length = r.length := by simp [spotsOf]
            obtain ⟨rq, rn, rc, rfl⟩ := own_form hrow
            have hrow1 : wr.ownsRow w2.heap.size tSp 2 (.slice rq rn rc) (spotsOf (gSp ns) r).length ((spotsOf (gSp ns) r).flatMap spC) := by
              rw [hsl]
              exact owns_mono hrow hwsz
            have hpar : ∀ a ∈ vs, ∀ q, a.ownBlock = some q → (Value.slice rq rn rc).ownBlock ≠ some q := fun a ha q h1 h2 => by
              obtain ⟨j, hj, rfl⟩ := List.getElem_of_mem ha
              have h3 := ((HTL.out.at' j hj (by rw [← HTL.out.len]; exact hj)).lt q h1).2
              have h4 := (hrow.lt q h2).1
              omega
            have HTL2 := Lib.hid (((HTL.out.fr hfx (by simp)).push hrow1 hpar).fr ((Fr.refl [] wr).alloc (.cells #[.slice rq rn rc] tS)) (by simp))
            have hown := (owns_fr HROW.out hfx (by simp)).alloc (.cells #[.slice rq rn rc] tS)
            have hws2 : w2.heap.size ≤ wr.heap.size := Nat.le_trans hwsz hfx.size
            clear hrow hrow1 hpar
            go_wp2_with (at_builtin; refine wpList_append_own _ rfl _ _ 32 rfl w2.heap.size tS i2 _ 1 24 Tryz.underlying32 hi2 hx0 hx1 hx2 rfl (by decide) _ _ _ rfl hown ⟨wr.heap.size, 0, none⟩ 1 1 [.slice rq rn rc] rfl rfl (by have := news_of wr [.slice rq rn rc] tS; simpa using this) (one_mem rfl) (by unfold maxLen; omega) (by omega) (by simp; omega) ?_; intro lv9 w9 hown9 hgrow _)
            have HTL9 : Hid (Told w2.heap.size w9 (vs ++ [.slice rq rn rc]) ((Rn.take (i + 1)).map (spotsOf (gSp ns)))) := by
              show Told _ _ _ _
              rw [HTK.out, List.map_append, List.map_cons, List.map_nil]
              exact HTL2.out.fr (fr_grown hgrow) (fun j hj => own_not (HTL2.out.at' j hj (by rw [← HTL2.out.len]; exact hj)) hown (by decide))
            have HF9 : Hid (Fr [] w2 w9) := ((HF.out.trans0 hfx).alloc _).grown hgrow (fun q hq => .inr (hown.lt q hq).1)
            go_roundw
            case rel => exact ⟨i + 1, vs ++ [.slice rq rn rc], by go_num, by omega, by simpa using hown9, HTL9.out, HF9.out⟩
            case measure => simp [intOf]; omega
      · obtain rfl : i = Rn.length := by omega
        have HFW := Lib.hid (HF2.out.trans0 hf)
        have HTL2 : Hid (Told w.heap.size wr vs (ringsL ns)) := by
          have := HTL.out
          rw [List.take_length, HRT.out] at this
          exact this.mono HF2.out.size
        have HROW2 := Lib.hid (owns_mono HROW.out HF2.out.size)
        clear HTL
        go_wp2
        go_ret2
        exact RingsRes.of H0.out rfl HROW2.out HTL2.out HFW.out
end
end Go.Proofs.YtdlpbpohbkcafaaGreat
