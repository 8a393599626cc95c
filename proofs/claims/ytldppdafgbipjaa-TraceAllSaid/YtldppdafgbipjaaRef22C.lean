/-
  The document's trace store: All, Copy.
-/
import Derived.Test.YtldppdafgbipjaaRef22A
import Derived.Test.YtldppdafgbipjaaWalk
import Derived.TacticsInMore
import Derived.RegionIn
import Derived.LoopNIn
import Derived.LoopIn
import Derived.RangeFuncStops
namespace Go.Proofs.Ytldppdafgbipjaa
open Go.RowKit
attribute [local go_sem] Oper.semAt_some

set_option maxRecDepth 100000 in
set_option maxHeartbeats 1600000 in
theorem refAll_in (p T : Nat) (dd : Int) (m : List (Sp × Tr)) (w : World) (h : RefIs w p T dd m) (hl : m.length ≤ 65536) :
    CallsIn Fence.wide 5 Try.prog 97 #[.pointer (some ⟨p, 0, none⟩)] w fun e w1 => ∃ v, e = .returned v ∧ SpotsAt w1 v (sortS (m.map (·.1))) ∧ Past w.heap.size v ∧ Fr [] w w1 := by
  obtain ⟨i0, hi, hz0, hz1, hz2⟩ := info_parts infoSpot
  have hnd := h.nodup
  obtain ⟨hst, _, L, hown, hM⟩ := h
  have hk : L.map (·.1) = m.map (·.1) := hM.keys
  have hLn : (L.map (·.1)).Nodup := by rw [hk]; exact hnd
  have hLl : L.length ≤ 65536 := by rw [hM.len]; exact hl
  have hpc := cell_of hst 1
  have HK := Lib.hid hk
  have HLN := Lib.hid hLn
  have HLL := Lib.hid hLl
  clear hM hnd hst hk hLn hLl hl
  refine callsIn_of_wp Try.func97 rfl trivial ?_ rfl
  simp only [Try.ntmps97, List.size_toArray, List.length_cons, List.length_nil, Nat.reduceAdd, Nat.reduceSub, Array.replicate_succ, Array.replicate_zero, List.push_toArray, List.append_toArray, List.nil_append, List.cons_append]
  gi_wp2_with (first
    | (gi_at_range; refine wpListIn_rangeS _ rfl _ tM rfl 26 188 Try.underlying184 T L rfl hown ?_; intro w0 hrg0 hg0 hs0)
    | gi_in)
  go_frame
  gi_loopw [3] (fun v wr => ∃ (ss : List Sp), Going wr T w.heap.size L ss ∧ wr.ownsRow (w.heap.size + 1) tSp 2 v ss.length (ss.flatMap spC) ∧ Fr [] w wr ∧ w.heap.size < wr.heap.size)
    (fun _ wr => wr.rangeLeft T w.heap.size)
  case atStart =>
    exact ⟨[], hrg0, World.ownsRow_nil _ _ _ _, (Fr.refl [] w).grown hg0 (fun k hk => by cases hk), by omega⟩
  case round =>
    obtain ⟨ss, hrg, hrow, hF, hlt⟩ := hrel
    gi_wp2_with (first
      | (gi_at_next; refine wpListIn_nextS _ rfl _ rfl T w.heap.size L ss rfl hrg ?_ ?_)
      | gi_in)
    · intro hl0
      obtain ⟨pc, nc, cc, rfl⟩ := own_form hrow
      have hperm : ss.Perm (L.map (·.1)) := (List.perm_ext_iff_of_nodup hrg.nodup HLN.out).2 (fun s => ⟨hrg.sub s, hl0 s⟩)
      have hsl : ss.length ≤ 65536 := by rw [hperm.length_eq, List.length_map]; exact HLL.out
      have hrow2 := hrow.2
      gi_wp2_with fail
      refine ⟨trivial, ?_⟩
      gi_at_call 123
      refine (callsIn_wide.2 (refSorted ss.length ss (Nat.le_refl _) hrg.nodup _ _ (SlAt.of_owns hrow) hsl)).mono ?_
      rintro e w3 ⟨v3, rfl, hv3, hp3, h3⟩
      gi_wp2
      refine bodyPost_ret (v := v3) (by simp [results, Try.results97, go_sem]) rfl ⟨v3, rfl, ?_, ?_, hF.trans0 h3⟩
      · rw [← HK.out, ← sortS_of_perm hperm]
        exact hv3
      · rcases hp3 with rfl | hp3
        · intro b off n c e
          cases e
          have := (hrow.lt b rfl).1
          omega
        · intro b off n c e
          have := hp3 b off n c e
          omega
    · intro x1 x2 c w2 hgx hxs hrg2 hlt2 hg2 hs2 hen
      have hF2 : Fr [w.heap.size] wr w2 := (Fr.refl _ wr).grown hg2 (fun k hk => by cases hk; exact .inl (by simp))
      have hrow2 := owns_fr hrow hF2 (fun k hk hm => by rw [List.mem_singleton] at hm; have := (hrow.lt k hk).1; omega)
      have hFw2 : Fr [] w w2 := hF.trans hF2 (by simp)
      have hlt3 : w.heap.size < w2.heap.size := by have := hF2.size; omega
      have hlen : ss.length < 65536 := by
        have h1 := hrg2.nodup
        have h2 : (ss ++ [(x1, x2)]).length ≤ (L.map (·.1)).length := nodup_le _ _ h1 (fun s hs => hrg2.sub s hs)
        have := HLL.out
        simp at h2
        omega
      have hwA := (hrow2.alloc (.cells #[.int .i64 x1, .int .i64 x2] tSp))
      clear hs2 hrow hF hF2
      gi_wp2_with (gi_at_builtin; refine wpListIn_append_own _ rfl _ _ 35 rfl (w.heap.size + 1) tSp i0 _ 2 16 Try.underlying35 hi hz0 hz1 hz2 rfl (by decide) _ _ _ rfl (hwA.alloc _) ⟨w2.heap.size + 1, 0, none⟩ 1 1 (spC (x1, x2)) rfl rfl (by have := news_of (w2.alloc (.cells #[.int .i64 x1, .int .i64 x2] tSp)) (spC (x1, x2)) tSp; simpa using this) (by simp [Value.oneCell', spC]) (by unfold maxLen; omega) (by omega) (by simp; omega) ?_; intro v' w3 hown' hgrow _)
      have hcell : ∀ (j : Nat) (o : Obj), u3.ownBlock = some j → ((w2.alloc (.cells #[.int .i64 x1, .int .i64 x2] tSp)).alloc (.cells (spC (x1, x2)).toArray tSp)).heap[j]? = some o → o.isWalk = false := by
        intro j o hj ho
        obtain ⟨_, h2⟩ := hwA.alloc (.cells (spC (x1, x2)).toArray tSp)
        rcases h2 with ⟨e, _⟩ | ⟨g, cap, cur, e, _, hc, _⟩
        · rw [e] at hj; cases hj
        · rw [e] at hj
          cases hj
          rw [hc] at ho
          cases ho
          rfl
      have hkw := ((KeepsWalks.alloc w2 (.cells #[.int .i64 x1, .int .i64 x2] tSp)).trans (KeepsWalks.alloc _ (.cells (spC (x1, x2)).toArray tSp))).trans (KeepsWalks.of_grownBy hgrow hcell)
      obtain ⟨hrg4, hle4⟩ := hrg2.of_walks hkw
      go_roundw
      case rel =>
        refine ⟨ss ++ [(x1, x2)], hrg4, by simpa using hown', ((hFw2.alloc _).alloc _).grown hgrow (fun k hk => .inr (by have := (hwA.lt k hk).1; omega)), ?_⟩
        have := hgrow.size
        simp at this
        omega
      case measure => rw [hle4]; exact hlt2

theorem refAll (p T : Nat) (dd : Int) (m : List (Sp × Tr)) (w : World) (h : RefIs w p T dd m) (hl : m.length ≤ 65536) :
    Calls Try.prog 97 #[.pointer (some ⟨p, 0, none⟩)] w fun e w1 => ∃ v, e = .returned v ∧ SpotsAt w1 v (sortS (m.map (·.1))) ∧ Past w.heap.size v ∧ Fr [] w w1 := callsIn_wide.1 (refAll_in p T dd m w h hl)

theorem Going.of_two {w w' : World} {b r : Nat} {l : List (Sp × Value)} {done : List Sp} (h : Going w b r l done) (h1 : w'.heap[b]? = w.heap[b]?) (h2 : w'.heap[r]? = w.heap[r]?) : Going w' b r l done ∧ w'.rangeLeft b r = w.rangeLeft b r := by
  obtain ⟨es, clock, since, seen, c0, hb, k1, k2, k3, hr, rest⟩ := h
  have hb' := h1.trans hb
  have hr' := h2.trans hr
  refine ⟨⟨es, clock, since, seen, c0, hb', k1, k2, k3, hr', rest⟩, ?_⟩
  simp [World.rangeLeft, hb, hr, hb', hr']

/-- What has been copied. -/
structure CopyL (w : World) (T : Nat) (dd : Int) (m : List (Sp × Tr)) (L : List (Sp × Value)) (wr : World) (ss : List Sp) (L2 : List (Sp × Value)) (m2 : List (Sp × Tr)) : Prop where
  go : Going wr T (w.heap.size + 2) L ss
  map : MapIs wr w.heap.size L2
  mt : DMatch w L2 m2
  has : ∀ s, getS s m2 = if s ∈ ss then getS s m else none
  fr : Fr [] w wr
  st : wr.heap[w.heap.size + 1]? = some (.cells #[.int .i64 dd, .map (some w.heap.size)] tR (0, 0))

attribute [local go_sem] ob_alloc ob_alloc2 ob_alloc3 ob_alloc4 ob_drew ob_drewN ob_setCell

set_option maxRecDepth 100000 in
set_option maxHeartbeats 1600000 in
theorem refCopy_in (p T : Nat) (dd : Int) (m : List (Sp × Tr)) (w : World) (h : RefIs w p T dd m) :
    CallsIn Fence.wide 5 Try.prog 53 #[.pointer (some ⟨p, 0, none⟩)] w fun e w1 => ∃ p2 T2 m2, e = .returned (.pointer (some ⟨p2, 0, none⟩)) ∧ w.heap.size ≤ p2 ∧ w.heap.size ≤ T2 ∧ RefIs w1 p2 T2 dd m2 ∧ SameT m m2 ∧ Fr [] w w1 := by
  have hnd := h.nodup
  have hwd := h.wd
  obtain ⟨hst, _, L, hown, hM⟩ := h
  have hpc := cell_of hst 1
  have hpc0 := cell_of hst 0
  have hpl := lt_of hst
  have hTl := hown.lt
  have HM := Lib.hid hM
  have HND := Lib.hid hnd
  clear hM hnd hst
  have hmm := @run_makeMap Try.prog
  refine callsIn_of_wp Try.func53 rfl trivial ?_ rfl
  simp only [Try.ntmps53, List.size_toArray, List.length_cons, List.length_nil, Nat.reduceAdd, Nat.reduceSub, Array.replicate_succ, Array.replicate_zero, List.push_toArray, List.append_toArray, List.nil_append, List.cons_append]
  have hW0 : Fr [] w ((w.alloc (.map #[] 0)).alloc (.cells #[.int .i64 dd, .map (some w.heap.size)] tR)) := ((Fr.refl [] w).alloc _).alloc _
  have hzz : ((w.alloc (.map #[] 0)).alloc (.cells #[.int .i64 dd, .map (some w.heap.size)] tR)).heap.size = w.heap.size + 2 := by simp
  gi_wp2_with (first
    | (gi_at_range; refine wpListIn_rangeS _ rfl _ tM rfl 26 188 Try.underlying184 T L rfl (hown.fr hW0 (by simp)) ?_; intro w0 hrg0 hg0 hs0; rw [hzz] at hrg0 ⊢)
    | gi_in)
  go_frame
  gi_loopw [4, 5] (fun _ _ wr => ∃ ss L2 m2, CopyL w T dd m L wr ss L2 m2) (fun _ _ wr => wr.rangeLeft T (w.heap.size + 2))
  case atStart =>
    have hF0 : Fr [] _ w0 := (Fr.refl [] _).grown hg0 (fun k hk => by cases hk)
    refine ⟨[], [], [], by simpa using hrg0, ?_, trivial, fun s => by simp [getS], hW0.trans0 hF0, hF0.heap (hp_new (by simp)) (by simp)⟩
    exact ((MapIs.made w).fr ((Fr.refl [] _).alloc _) (by simp)).fr hF0 (by simp)
  case round =>
    obtain ⟨ss, L2, m2, hrg, hmap, hmt, hhas, hF, hst⟩ := hrel
    have HHAS := Lib.hid hhas
    have HMT := Lib.hid hmt
    have HST := Lib.hid hst
    have HMAP := Lib.hid hmap
    clear hhas hmt hst hmap hs0 hg0 hrg0
    gi_wp2_with (first
      | (gi_at_next; refine wpListIn_nextS _ rfl _ rfl T (w.heap.size + 2) L ss rfl hrg ?_ ?_)
      | gi_in)
    · intro hl0
      gi_wp2
      refine bodyPost_ret (v := .pointer (some ⟨w.heap.size + 1, 0, none⟩)) (by simp [results, Try.results53, go_sem]) rfl ⟨w.heap.size + 1, w.heap.size, m2, rfl, by omega, by omega, ⟨HST.out, hwd, L2, HMAP.out, HMT.out.fr hF (NotD.nil w)⟩, fun s => ?_, hF⟩
      rw [HHAS.out s]
      by_cases hs : s ∈ ss
      · rw [if_pos hs]
      · rw [if_neg hs, getS_none, ← HM.out.keys]
        exact fun h => hs (hl0 s h)
    · intro x1 x2 c w2 hgx hxs hrg2 hlt2 hg2 hs2 hen
      rcases HM.out.get (x1, x2) with ⟨h1, _⟩ | ⟨u, t, h1, h2, h3⟩
      · rw [h1] at hgx; cases hgx
      · rw [h1] at hgx
        cases hgx
        have HDI := Lib.hid h3
        obtain ⟨d, x, rfl, h4, h5⟩ := h3
        obtain ⟨dp, dn, dc, rfl⟩ := own_form h4
        obtain ⟨xp, xn, xc, rfl⟩ := own_form h5
        have hF2 : Fr [w.heap.size + 2] wr w2 := (Fr.refl _ wr).grown hg2 (fun k hk => by cases hk; exact .inl (by simp))
        have hFw2 : Fr [] w w2 := hF.trans hF2 (by simp)
        have HST2 := Lib.hid (hF2.heap HST.out (by simp))
        have hmap2 := HMAP.out.fr hF2 (by simp)
        have hl3 := lt_of HST2.out
        obtain ⟨es, clock, hb, hpe, hsp, hnp⟩ := hmap2
        have hT2l := lt_of hb
        have hput := fun (W : World) (hW : ob W w.heap.size = some (.map es clock)) => run_put (P := Try.prog) spotKey Try.underlying184 hW hpe (x1, x2) (.agg #[.int .i64 t.v.k, .int .i64 t.v.n, .string t.v.s, .slice dp dn dc, .slice xp xn xc])
        have hb' : ob w2 w.heap.size = some (.map es clock) := hb
        have c1 := cell_of HST2.out 1
        have HPE := Lib.hid hpe
        have HSP := Lib.hid hsp
        have HNP := Lib.hid hnp
        have H2 := Lib.hid h2
        have HXS := Lib.hid hxs
        have HG2 := Lib.hid hrg2
        have hZ1 : ∀ k, w.heap.size + 1 < w2.heap.size + k := fun k => by omega
        have hZ0 : ∀ k, w.heap.size < w2.heap.size + k := fun k => by omega
        clear hs2 hF hF2 hb h4 h5 h1 hpe hsp hnp h2 hxs hrg2 hrg
        gi_wp2_with fail
        gi_region
        have hX : Fr [] w2 ((w2.alloc (.cells #[.int .i64 x1, .int .i64 x2] tSp)).alloc (.cells #[.int .i64 t.v.k, .int .i64 t.v.n, .string t.v.s, .slice dp dn dc, .slice xp xn xc] 188)).drew := (((Fr.refl [] w2).alloc _).alloc _).drew
        have hbX := hX.heap (show w2.heap[w.heap.size]? = _ from hb') (by simp)
        have hS : Fr [w.heap.size] w2 (ChangeMaps.setBlock ((w2.alloc (.cells #[.int .i64 x1, .int .i64 x2] tSp)).alloc (.cells #[.int .i64 t.v.k, .int .i64 t.v.n, .string t.v.s, .slice dp dn dc, .slice xp xn xc] 188)).drew w.heap.size (.map (putE (x1, x2) (.agg #[.int .i64 t.v.k, .int .i64 t.v.n, .string t.v.s, .slice dp dn dc, .slice xp xn xc]) L2 es clock) (putC (x1, x2) L2 clock))) := (hX.mono (by simp)).setBlock hbX (.inl (by simp)) _
        have hmapN := MapIs.put hbX HPE.out HSP.out HNP.out (x1, x2) (.agg #[.int .i64 t.v.k, .int .i64 t.v.n, .string t.v.s, .slice dp dn dc, .slice xp xn xc])
        generalize ChangeMaps.setBlock ((w2.alloc (.cells #[.int .i64 x1, .int .i64 x2] tSp)).alloc (.cells #[.int .i64 t.v.k, .int .i64 t.v.n, .string t.v.s, .slice dp dn dc, .slice xp xn xc] 188)).drew w.heap.size (.map (putE (x1, x2) (.agg #[.int .i64 t.v.k, .int .i64 t.v.n, .string t.v.s, .slice dp dn dc, .slice xp xn xc]) L2 es clock) (putC (x1, x2) L2 clock)) = W5 at *
        have hrlt : w.heap.size + 2 < w2.heap.size := by
          obtain ⟨o, ho, _⟩ := HG2.out.walk
          exact lt_of ho
        obtain ⟨hrg4, hle4⟩ := HG2.out.of_two (hS.block T (by have := hFw2.size; omega) (by simp; omega)) (hS.block (w.heap.size + 2) hrlt (by simp))
        gi_wp2
        go_roundw
        case rel =>
          refine ⟨ss ++ [(x1, x2)], putS (x1, x2) (.agg #[.int .i64 t.v.k, .int .i64 t.v.n, .string t.v.s, .slice dp dn dc, .slice xp xn xc]) L2, putS (x1, x2) t m2, hrg4, hmapN, HMT.out.put (x1, x2) HDI.out, fun s => ?_, hFw2.trans hS (by simp), hS.heap HST2.out (by simp)⟩
          rw [getS_put, HHAS.out s]
          by_cases hs : s = (x1, x2)
          · rw [if_pos hs, if_pos (by rw [hs]; simp), hs, H2.out]
          · rw [if_neg hs]
            by_cases hs2 : s ∈ ss
            · rw [if_pos hs2, if_pos (by simp [hs2])]
            · rw [if_neg hs2, if_neg (by simp [hs2, hs])]
        case measure => rw [hle4]; exact hlt2

theorem refCopy (p T : Nat) (dd : Int) (m : List (Sp × Tr)) (w : World) (h : RefIs w p T dd m) :
    Calls Try.prog 53 #[.pointer (some ⟨p, 0, none⟩)] w fun e w1 => ∃ p2 T2 m2, e = .returned (.pointer (some ⟨p2, 0, none⟩)) ∧ w.heap.size ≤ p2 ∧ w.heap.size ≤ T2 ∧ RefIs w1 p2 T2 dd m2 ∧ SameT m m2 ∧ Fr [] w w1 := callsIn_wide.1 (refCopy_in p T dd m w h)
end Go.Proofs.Ytldppdafgbipjaa
