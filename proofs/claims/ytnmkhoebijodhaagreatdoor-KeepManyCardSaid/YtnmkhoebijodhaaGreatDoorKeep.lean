/-
  Contracts of trace.New, trace.Store.Keep.
-/
import Derived.Test.YtnmkhoebijodhaaGreatDoorMay
import Derived.Test.YtnmkhoebijodhaaGreatDoorSum
import Derived.Deep.RegionHeld3
import Derived.Deep.RegionLaw
import Derived.Deep.AppendLies
import Derived.StillTailTactics
namespace Go.Proofs.YtnmkhoebijodhaaGreatDoor
open Go.RowKit

/-- An entry of a trace. -/
structure En where
  at_ : Sp
  v : V
  sum : Int
abbrev enC (e : En) : List Value := [.int .i64 e.at_.1, .int .i64 e.at_.2, .int .i64 e.v.k, .int .i64 e.v.n, .string e.v.s, .int .u64 e.sum]
theorem infoE : (Tryz.prog.info? 316).map (fun i => (i.zero, i.size, i.bytes)) = some (some (.agg #[.int .i64 0, .int .i64 0, .int .i64 0, .int .i64 0, .string ⟨#[]⟩, .int .u64 0]), 6, 56) := by kernel_rfl

/-- The entries that a trace of such lists has. -/
def ensOf (d : Int) (ds : List Sp) (vs : List V) : List En := (ds.zip vs).map fun p => ⟨p.1, p.2, sumV p.2 d⟩
theorem ensOf_len {d : Int} {ds : List Sp} {vs : List V} (h : ds.length = vs.length) : (ensOf d ds vs).length = ds.length := by simp [ensOf, h]
theorem ensOf_get {d : Int} {ds : List Sp} {vs : List V} {k : Nat} (h1 : k < ds.length) (h2 : k < vs.length) (h3 : k < (ensOf d ds vs).length) : (ensOf d ds vs)[k] = ⟨ds[k], vs[k], sumV vs[k] d⟩ := by simp [ensOf]
theorem flat_snoc (l : List En) (k : Nat) (h : k < l.length) : (l.take (k + 1)).flatMap enC = (l.take k).flatMap enC ++ enC l[k] := by
  rw [List.take_succ_eq_append_getElem h, List.flatMap_append]
  simp

theorem ens_snoc {d : Int} {ds : List Sp} {vs : List V} {k : Nat} (hl : ds.length = vs.length) (h1 : k < ds.length) (h2 : k < vs.length) :
    ((ensOf d ds vs).take (k + 1)).flatMap enC = ((ensOf d ds vs).take k).flatMap enC ++ enC ⟨ds[k], vs[k], sumV vs[k] d⟩ := by
  have h3 : k < (ensOf d ds vs).length := by rw [ensOf_len hl]; exact h1
  rw [flat_snoc _ k h3, ensOf_get h1 h2 h3]

theorem mayE_zero {s : Sp} {v : V} {ds : List Sp} {vs : List V} (h : mayE s v ds vs = 0) : mayS s.1 s.2 = true ∧ ds.length = vs.length ∧ ds.length ≤ 65536 := by
  unfold mayE at h
  split at h
  · cases h
  · rename_i h1
    split at h
    · cases h
    · rename_i h2
      split at h
      · cases h
      · rename_i h3
        refine ⟨?_, Classical.byContradiction fun hn => h2 (.inr hn), by omega⟩
        cases hs : mayS s.1 s.2 with
        | true => rfl
        | false => exact absurd (.inl hs) h1

/-- What the loop has laid. -/
structure L2 (es : List En) (X : Nat) (v : V) (W : World) (k : Nat) (wr : World) : Prop where
  fr : Fr [X] W wr
  box : ∃ q n cp, wr.heap[X]? = some (.cells #[.int .i64 v.k, .int .i64 v.n, .string v.s, .slice q n cp] 138 (0, 0)) ∧ wr.ownsRow (X + 1) 316 6 (.slice q n cp) k ((es.take k).flatMap enC)

/-- What Keep leaves of a trace that may be. -/
def KeepPost (tb mb : Nat) (dd : Int) (s : Sp) (v : V) (ds : List Sp) (vs : List V) (ls : List (Sp × Seen)) (w : World) (e : Ending) (w1 : World) : Prop :=
  e = .returned (.int .i64 (setE s ls)) ∧ ∃ q n cp, TabIs 175 Seen.val w1 tb mb (setL s ⟨v, q, n, cp⟩ ls) ∧
    w1.ownsRow w.heap.size 316 6 (.slice q n cp) ds.length ((ensOf dd ds vs).flatMap enC) ∧ Fr [tb, mb] w w1

set_option maxRecDepth 100000 in
set_option maxHeartbeats 3200000 in
theorem keep1 (p : Nat) (tb mb : Nat) (dd : Int) (s : Sp) (v : V) (da va : Option Addr) (c vc : Nat) (ds : List Sp) (vs : List V) (ls : List (Sp × Seen)) (w : World) (hd0 : 0 ≤ dd) (hd64 : dd ≤ 64) (hp : w.heap[p]? = some (.cells #[.int .i64 dd, .pointer (some ⟨tb, 0, none⟩)] 140 (0, 0)))
    (hsp : SpotsAt w (.slice da ds.length c) ds) (hvp : ValsAt w (.slice va vs.length vc) vs) (hvs : v.s.size ≤ 9223372036854775807) (hvss : ∀ x ∈ vs, x.s.size ≤ 9223372036854775807) (hm : mayE s v ds vs = 0) (hT : TabIs 175 Seen.val w tb mb ls) :
    Calls Tryz.prog 141 #[.pointer (some ⟨p, 0, none⟩), spV s, v.val, .slice da ds.length c, .slice va vs.length vc] w (KeepPost tb mb dd s v ds vs ls w) := by
  have HM := Lib.hid hm
  have hm0 := hm
  have HS := Lib.hid hsp
  have HV := Lib.hid hvp
  have HVS := Lib.hid hvss
  have HP := Lib.hid hp
  have HT := Lib.hid hT
  clear hT hm hsp hvp hvss hp
  obtain ⟨i0, hi0, hz0, hz1, hz2⟩ := info_parts infoE
  go_enter Tryz.func141, Tryz.ntmps141
  obtain ⟨_, hlen, hbig⟩ := mayE_zero hm0
  have HL := Lib.hid hlen
  clear hlen hm0
  go_wp2_with fail
  refine (traceMay _ s v _ _ ds vs _ ?hds ?hvs hvs HVS.out).mono ?_
  case hds => exact HS.out.fr0 (((Fr.refl [] w).alloc _).alloc _)
  case hvs => exact HV.out.fr0 (((Fr.refl [] w).alloc _).alloc _)
  rw [HM.out]
  rintro e w1 ⟨rfl, h1⟩
  obtain ⟨h2, hb1, hb2, hz⟩ := h1.new2 (by simp)
  clear h1
  have hc2 := cell_of hb2
  go_wp2_with fail
  have hW1 : Fr [] w (w1.alloc (.cells #[.int .i64 v.k, .int .i64 v.n, .string v.s, .slice none 0 0] 138)) := h2.alloc _
  have hbX := heap_new w1 (.cells #[.int .i64 v.k, .int .i64 v.n, .string v.s, .slice none 0 0] 138)
  have hbox1 := Lib.hid (((Fr.refl [] w1).alloc (.cells #[.int .i64 v.k, .int .i64 v.n, .string v.s, .slice none 0 0] 138)).heap hb1 (by simp))
  have hWs : (w1.alloc (.cells #[.int .i64 v.k, .int .i64 v.n, .string v.s, .slice none 0 0] 138)).heap.size ≤ w1.heap.size + 1 := by simp
  generalize w1.alloc (.cells #[.int .i64 v.k, .int .i64 v.n, .string v.s, .slice none 0 0] 138) = W at *
  generalize w1.heap.size = X at *
  have HE : Hid (∃ es, es = ensOf dd ds vs) := ⟨_, rfl⟩
  obtain ⟨es, hes⟩ := HE.out
  have HES := Lib.hid hes
  have hbX0 := hbX
  clear HE hes hb1 hb2 hc2
  go_loopw [13, 14, 15, 16, 30] (fun _ _ _ _ i wr => ∃ k : Nat, i = .int .i64 (k : Int) ∧ k ≤ ds.length ∧ L2 es X v W k wr) (fun _ _ _ _ i _ => ds.length - (intOf i).toNat)
  case atStart => exact ⟨0, rfl, by omega, Fr.refl _ _, none, 0, 0, hbX, by simp, .inl ⟨rfl, rfl⟩⟩
  case round =>
    obtain ⟨k, rfl, hk, hfr, q, n, cp, hX, hown⟩ := hrel
    by_cases hlt : k < ds.length
    · have hfrw : Fr [] w wr := hW1.trans hfr (by simp; omega)
      obtain ⟨_, _, _, hdeps⟩ := (HS.out.fr0 hfrw).deps
      obtain ⟨b, off, rfl, hb, hcl⟩ := hdeps (by omega)
      obtain ⟨hd1, hd2⟩ := hcl k hlt
      obtain ⟨_, hvc1, hvc2, hvals⟩ := (HV.out.fr0 hfrw).vals
      have hltv : k < vs.length := by have := HL.out; omega
      obtain ⟨b2, off2, rfl, hb2, hcl2⟩ := hvals (by omega)
      obtain ⟨hv1, hv2, hv3⟩ := hcl2 k hltv
      have hpw := cell_of (hfrw.heap HP.out (by simp))
      have hpl := lt_of (hfrw.heap HP.out (by simp))
      have hXc := cell_of hX
      have hXf := free_of hX
      have hXl := lt_of hX
      clear hdeps hcl hvals hcl2
      have ht : Hid ((es.take (k + 1)).flatMap enC = (es.take k).flatMap enC ++ enC ⟨ds[k], vs[k], sumV vs[k] dd⟩) := by
        rw [HES.out]
        exact ens_snoc HL.out hlt hltv
      have hsx := HVS.out vs[k] (List.getElem_mem hltv)
      generalize ds[k] = d at *
      generalize vs[k] = x at *
      go_wp2_with fail
      have hW2 : Fr [] wr (wr.alloc (.cells #[.int .i64 d.1, .int .i64 d.2] 33)) := (Fr.refl [] wr).alloc _
      have hv1' := (hW2.cell (p := ⟨b2, off2 + k * 3, none⟩) hb2 (by simp)).trans hv1
      have hv2' := (hW2.cell (p := ⟨b2, off2 + k * 3 + 1, none⟩) hb2 (by simp)).trans hv2
      have hv3' := (hW2.cell (p := ⟨b2, off2 + k * 3 + 2, none⟩) hb2 (by simp)).trans hv3
      have hp0' := (hW2.cell (p := ⟨p, 0, none⟩) hpl (by simp)).trans (hpw 0)
      have hbd := heap_new wr (.cells #[.int .i64 d.1, .int .i64 d.2] 33)
      have hb2W := Nat.lt_of_lt_of_le hb2 hW2.size
      have hplW := Nat.lt_of_lt_of_le hpl hW2.size
      generalize wr.alloc (.cells #[.int .i64 d.1, .int .i64 d.2] 33) = W2 at *
      generalize wr.heap.size = D at *
      clear hd1 hd2 hv1 hv2 hv3 hpw hpl hXc hXf
      go_region_held3 (fun u => u.cell? ⟨b2, off2 + k * 3, none⟩ = some (.int .i64 x.k) ∧ u.cell? ⟨b2, off2 + k * 3 + 1, none⟩ = some (.int .i64 x.n) ∧ u.cell? ⟨b2, off2 + k * 3 + 2, none⟩ = some (.string x.s) ∧ u.cell? ⟨p, 0, none⟩ = some (.int .i64 dd))
        (first | exact ⟨hv1', hv2', hv3', hp0'⟩ | exact h5)
        ((go_at_call 200; refine (hashSum x dd _ hsx hd0 hd64).mono ?_; rintro e w3 ⟨rfl, h3⟩; have h4 : Fr [] W2 w3 := ((Fr.refl [] W2).drew).transS h3; have h5 : w3.cell? ⟨b2, off2 + k * 3, none⟩ = some (.int .i64 x.k) ∧ w3.cell? ⟨b2, off2 + k * 3 + 1, none⟩ = some (.int .i64 x.n) ∧ w3.cell? ⟨b2, off2 + k * 3 + 2, none⟩ = some (.string x.s) ∧ w3.cell? ⟨p, 0, none⟩ = some (.int .i64 dd) := ⟨(h4.cell (p := ⟨b2, off2 + k * 3, none⟩) hb2W (by simp)).trans hv1', (h4.cell (p := ⟨b2, off2 + k * 3 + 1, none⟩) hb2W (by simp)).trans hv2', (h4.cell (p := ⟨b2, off2 + k * 3 + 2, none⟩) hb2W (by simp)).trans hv3', (h4.cell (p := ⟨p, 0, none⟩) hplW (by simp)).trans hp0'⟩))
      have hX4 := (hW2.trans0 h4).heap hX (by simp)
      have hown4 := owns_fr hown (hW2.trans0 h4) (by simp)
      have hD4 := h4.heap hbd (by simp)
      have hXc := cell_of hX4 3
      have hXf := free_of hX4 3
      have hDc0 := cell_of hD4 0
      have hDc1 := cell_of hD4 1
      have hXl4 := lt_of hX4
      have hDl4 := lt_of hD4
      have hbl4 := Nat.lt_of_lt_of_le hb2W h4.size
      obtain ⟨hv1'', hv2'', hv3'', _⟩ := h5
      go_wp2_with fail
      have hXo : some X ≠ (Value.slice q n cp).ownBlock := fun e => by have := (hown.lt X e.symm).1; omega
      go_region_law (first | (refine step_append_lies _ (by rfl) _ _ _ (by rfl) (X + 1) 316 i0 _ 6 56 Tryz.underlying136 hi0 hz0 hz1 hz2 rfl (by omega) (.slice q n cp) k ((es.take k).flatMap enC) (by rfl) ((hown4.alloc _).drew) ⟨w3.heap.size, 0, none⟩ 1 1 (enC ⟨d, x, sumV x dd⟩) (by rfl) (by rfl) (World.news_of_block (cs := (enC ⟨d, x, sumV x dd⟩).toArray) (t := 316) (fr := (0, 0)) (heap_alloc_new w3 _)) (by simp [Value.oneCell']) (by omega) (by unfold maxLen; omega) (by omega) (by simp; omega) (w3.heap.size + 1) (by simp) ?_; intro gg cap w5 hown5 hgrow hat hlt5; have hX5 := (hgrow.block X (by simp; omega) hXo).trans ((((Fr.refl [] w3).alloc _).drew).heap hX4 (by simp)); have hXc5 := cell_of hX5 3; have hXf5 := free_of hX5 3)) 
      all_goals
        have hfin : Fr [X] W w5 := ((hfr.mono (by simp)).trans0 (hW2.trans0 h4)).alloc _ |>.drew |>.grown hgrow (fun g hg => .inr (by have h1 := (hown.lt g hg).1; have h2 := hfr.size; have := lt_of hbX0; omega))
        go_wp2_with fail
        go_roundw
        case rel =>
          refine ⟨k + 1, by go_num, by omega, hfin.setCell (.inl (by simp)) _, _, _, _, set_of hX5 3 _, ?_⟩
          rw [ht.out]
          exact owns_fr hown5 ((Fr.refl [X] w5).setCell (.inl (by simp)) _) (fun g hg => by simp; have := (hown5.lt g hg).1; omega)
        case measure => simp [intOf]; omega
    · obtain rfl : k = ds.length := by omega
      have hfrw : Fr [] w wr := hW1.trans hfr (by simp; omega)
      have hpw := cell_of (hfrw.heap HP.out (by simp)) 1
      have hXc := cell_of hX
      have hXl := lt_of hX
      have hbx := cell_of (hfr.heap hbox1.out (by simp; omega))
      have hTr := HT.out.fr hfrw (by simp) (by simp)
      have htl : (es.take ds.length).flatMap enC = (ensOf dd ds vs).flatMap enC := by
        have e : ds.length = (ensOf dd ds vs).length := (ensOf_len HL.out).symm
        rw [HES.out, e, List.take_length]
      rw [htl] at hown
      clear htl
      go_wp2_with fail
      go_still_tail 6, (by kernel_rfl)
      change wpList _ _ _ _ _ wr.drew
      have hTd : TabIs 175 Seen.val wr.drew tb mb ls := hTr.fr ((Fr.refl [] wr).drew) (by simp) (by simp)
      go_wp2_with (go_at_call 206; refine (setT tb mb s ⟨v, q, n, cp⟩ ls _ hTd).mono ?_; rintro e w3 ⟨rfl, hT3, h3⟩)
      go_ret
      have hX0 := lt_of hbX
      have hXw := h2.size
      refine ⟨rfl, q, n, cp, hT3, owns_mono (owns_fr (hown.drew) h3 ?_) (by omega), ((hfrw.drew).mono (by simp)).transS h3⟩
      intro g hg hm
      have h1 := (hown.lt g hg).1
      have h5 := lt_of HT.out.tab
      have h6 := HT.out.map.lt
      simp only [List.mem_cons, List.not_mem_nil, or_false] at hm
      omega
end Go.Proofs.YtnmkhoebijodhaaGreatDoor
