/-
  slices.SortFunc at rings: by their first places.
-/
import Derived.Test.YtdlpbpohbkcafaaCColl
import Derived.Shelf.SlSortCmp.Whole1
import Derived.Shelf.SlSortCmp.NoneTotal
import Derived.Deep.RegionWith
import Derived.Deep.AppendLies
namespace Go.Proofs.Ytdlpbpohbkcafaa
open Go.RowKit Go.Shelf Go.Sort Go.Proofs

def Try.sortRs_ren : Go.Shelf.Ren := ⟨fun | 6 => 33 | 15 => 49 | 14 => 48 | 28 => 66 | 29 => 67 | 20 => 58 | 21 => 59 | 22 => 60 | 23 => 61 | 24 => 62 | 25 => 63 | 26 => 64 | 27 => 65 | 46 => 86 | 47 => 87 | 48 => 88 | 49 => 89 | 50 => 90 | 57 => 97 | n => n, fun | 22 => 25 | 24 => 30 | 25 => 81 | 3 => 3 | 39 => 97 | 0 => 0 | 53 => 118 | 55 => 120 | 4 => 4 | 46 => 112 | 45 => 111 | 50 => 91 | 5 => 5 | 9 => 9 | 66 => 132 | 70 => 136 | 76 => 142 | 77 => 143 | n => n, fun | n => n⟩
theorem Try.sortRs : Go.Proofs.SlLaysF.n6 Try.prog Try.sortRs_ren where
  mixed := by kernel_rfl
  f6 := ⟨Try.f33.name, by kernel_rfl, Try.func33.trans (congrArg some (by kernel_rfl))⟩
  f14 := ⟨Try.f48.name, by kernel_rfl, Try.func48.trans (congrArg some (by kernel_rfl))⟩
  f15 := Try.func49.trans (congrArg some (by kernel_rfl))
  f20 := ⟨Try.f58.name, by kernel_rfl, Try.func58.trans (congrArg some (by kernel_rfl))⟩
  f21 := ⟨Try.f59.name, by kernel_rfl, Try.func59.trans (congrArg some (by kernel_rfl))⟩
  f22 := ⟨Try.f60.name, by kernel_rfl, Try.func60.trans (congrArg some (by kernel_rfl))⟩
  f23 := ⟨Try.f61.name, by kernel_rfl, Try.func61.trans (congrArg some (by kernel_rfl))⟩
  f24 := ⟨Try.f62.name, by kernel_rfl, Try.func62.trans (congrArg some (by kernel_rfl))⟩
  f25 := ⟨Try.f63.name, by kernel_rfl, Try.func63.trans (congrArg some (by kernel_rfl))⟩
  f26 := ⟨Try.f64.name, by kernel_rfl, Try.func64.trans (congrArg some (by kernel_rfl))⟩
  f27 := ⟨Try.f65.name, by kernel_rfl, Try.func65.trans (congrArg some (by kernel_rfl))⟩
  f28 := Try.func66.trans (congrArg some (by kernel_rfl))
  f29 := Try.func67.trans (congrArg some (by kernel_rfl))
  f46 := ⟨Try.f86.name, by kernel_rfl, Try.func86.trans (congrArg some (by kernel_rfl))⟩
  f47 := Try.func87.trans (congrArg some (by kernel_rfl))
  f48 := Try.func88.trans (congrArg some (by kernel_rfl))
  f49 := ⟨Try.f89.name, by kernel_rfl, Try.func89.trans (congrArg some (by kernel_rfl))⟩
  f50 := ⟨Try.f90.name, by kernel_rfl, Try.func90.trans (congrArg some (by kernel_rfl))⟩
  f57 := ⟨Try.f97.name, by kernel_rfl, Try.func97.trans (congrArg some (by kernel_rfl))⟩
  t0 := Try.underlying0
  a0 := Try.isAgg0
  z0 := Try.sizeOf0
  v0 := Try.zeroValue0
  t3 := Try.underlying3
  a3 := Try.isAgg3
  z3 := Try.sizeOf3
  v3 := Try.zeroValue3
  t4 := Try.underlying4
  a4 := Try.isAgg4
  z4 := Try.sizeOf4
  v4 := Try.zeroValue4
  t5 := Try.underlying5
  a5 := Try.isAgg5
  z5 := Try.sizeOf5
  v5 := Try.zeroValue5
  t9 := Try.underlying9
  a9 := Try.isAgg9
  z9 := Try.sizeOf9
  v9 := Try.zeroValue9
  t22 := Try.underlying25
  a22 := Try.isAgg25
  z22 := Try.sizeOf25
  v22 := Try.zeroValue25
  a24 := Try.isAgg30
  z24 := Try.sizeOf30
  t25 := Try.underlying81
  a25 := Try.isAgg81
  z25 := Try.sizeOf81
  v25 := Try.zeroValue81
  t39 := Try.underlying97
  a39 := Try.isAgg97
  z39 := Try.sizeOf97
  v39 := Try.zeroValue97
  t45 := Try.underlying111
  a45 := Try.isAgg111
  z45 := Try.sizeOf111
  v45 := Try.zeroValue111
  t46 := Try.underlying112
  a46 := Try.isAgg112
  z46 := Try.sizeOf112
  v46 := Try.zeroValue112
  t50 := Try.underlying91
  a50 := Try.isAgg91
  z50 := Try.sizeOf91
  v50 := Try.zeroValue91
  t53 := Try.underlying118
  a53 := Try.isAgg118
  z53 := Try.sizeOf118
  v53 := Try.zeroValue118
  t55 := Try.underlying120
  a55 := Try.isAgg120
  z55 := Try.sizeOf120
  v55 := Try.zeroValue120
  t66 := Try.underlying132
  a66 := Try.isAgg132
  z66 := Try.sizeOf132
  v66 := Try.zeroValue132
  t70 := Try.underlying136
  a70 := Try.isAgg136
  z70 := Try.sizeOf136
  v70 := Try.zeroValue136
  t76 := Try.underlying142
  a76 := Try.isAgg142
  z76 := Try.sizeOf142
  v76 := Try.zeroValue142
  t77 := Try.underlying143
  a77 := Try.isAgg143
  z77 := Try.sizeOf143
  v77 := Try.zeroValue143
def Try.sortRs0_ren : Go.Shelf.Ren := ⟨fun | 6 => 33 | 15 => 49 | 14 => 48 | 28 => 66 | 29 => 67 | 20 => 58 | 21 => 59 | 22 => 60 | 23 => 61 | 24 => 62 | 25 => 63 | 26 => 64 | 27 => 65 | 46 => 86 | 47 => 87 | 48 => 88 | 49 => 89 | 50 => 90 | 57 => 97 | n => n, fun | 22 => 25 | 24 => 30 | 25 => 81 | 3 => 3 | 39 => 97 | 0 => 0 | 53 => 118 | 55 => 120 | 4 => 4 | 46 => 112 | 45 => 111 | 50 => 91 | 5 => 5 | 9 => 9 | 66 => 132 | 70 => 136 | 76 => 142 | 77 => 143 | n => n, fun | n => n⟩
theorem Try.sortRs0 : Go.Proofs.SlLaysF0.n6 Try.prog Try.sortRs0_ren where
  mixed := by kernel_rfl
  f6 := ⟨Try.f33.name, by kernel_rfl, Try.func33.trans (congrArg some (by kernel_rfl))⟩
  f14 := ⟨Try.f48.name, by kernel_rfl, Try.func48.trans (congrArg some (by kernel_rfl))⟩
  f15 := Try.func49.trans (congrArg some (by kernel_rfl))
  f20 := ⟨Try.f58.name, by kernel_rfl, Try.func58.trans (congrArg some (by kernel_rfl))⟩
  f21 := ⟨Try.f59.name, by kernel_rfl, Try.func59.trans (congrArg some (by kernel_rfl))⟩
  f22 := ⟨Try.f60.name, by kernel_rfl, Try.func60.trans (congrArg some (by kernel_rfl))⟩
  f23 := ⟨Try.f61.name, by kernel_rfl, Try.func61.trans (congrArg some (by kernel_rfl))⟩
  f24 := ⟨Try.f62.name, by kernel_rfl, Try.func62.trans (congrArg some (by kernel_rfl))⟩
  f25 := ⟨Try.f63.name, by kernel_rfl, Try.func63.trans (congrArg some (by kernel_rfl))⟩
  f26 := ⟨Try.f64.name, by kernel_rfl, Try.func64.trans (congrArg some (by kernel_rfl))⟩
  f27 := ⟨Try.f65.name, by kernel_rfl, Try.func65.trans (congrArg some (by kernel_rfl))⟩
  f28 := Try.func66.trans (congrArg some (by kernel_rfl))
  f29 := Try.func67.trans (congrArg some (by kernel_rfl))
  f46 := ⟨Try.f86.name, by kernel_rfl, Try.func86.trans (congrArg some (by kernel_rfl))⟩
  f47 := Try.func87.trans (congrArg some (by kernel_rfl))
  f48 := Try.func88.trans (congrArg some (by kernel_rfl))
  f49 := ⟨Try.f89.name, by kernel_rfl, Try.func89.trans (congrArg some (by kernel_rfl))⟩
  f50 := ⟨Try.f90.name, by kernel_rfl, Try.func90.trans (congrArg some (by kernel_rfl))⟩
  f57 := ⟨Try.f97.name, by kernel_rfl, Try.func97.trans (congrArg some (by kernel_rfl))⟩
  t0 := Try.underlying0
  a0 := Try.isAgg0
  z0 := Try.sizeOf0
  v0 := Try.zeroValue0
  t3 := Try.underlying3
  a3 := Try.isAgg3
  z3 := Try.sizeOf3
  v3 := Try.zeroValue3
  t4 := Try.underlying4
  a4 := Try.isAgg4
  z4 := Try.sizeOf4
  v4 := Try.zeroValue4
  t5 := Try.underlying5
  a5 := Try.isAgg5
  z5 := Try.sizeOf5
  v5 := Try.zeroValue5
  t9 := Try.underlying9
  a9 := Try.isAgg9
  z9 := Try.sizeOf9
  v9 := Try.zeroValue9
  t22 := Try.underlying25
  a22 := Try.isAgg25
  z22 := Try.sizeOf25
  v22 := Try.zeroValue25
  t25 := Try.underlying81
  a25 := Try.isAgg81
  z25 := Try.sizeOf81
  v25 := Try.zeroValue81
  t39 := Try.underlying97
  a39 := Try.isAgg97
  z39 := Try.sizeOf97
  v39 := Try.zeroValue97
  t45 := Try.underlying111
  a45 := Try.isAgg111
  z45 := Try.sizeOf111
  v45 := Try.zeroValue111
  t46 := Try.underlying112
  a46 := Try.isAgg112
  z46 := Try.sizeOf112
  v46 := Try.zeroValue112
  t50 := Try.underlying91
  a50 := Try.isAgg91
  z50 := Try.sizeOf91
  v50 := Try.zeroValue91
  t53 := Try.underlying118
  a53 := Try.isAgg118
  z53 := Try.sizeOf118
  v53 := Try.zeroValue118
  t55 := Try.underlying120
  a55 := Try.isAgg120
  z55 := Try.sizeOf120
  v55 := Try.zeroValue120
  t66 := Try.underlying132
  a66 := Try.isAgg132
  z66 := Try.sizeOf132
  v66 := Try.zeroValue132
  t70 := Try.underlying136
  a70 := Try.isAgg136
  z70 := Try.sizeOf136
  v70 := Try.zeroValue136
  t76 := Try.underlying142
  a76 := Try.isAgg142
  z76 := Try.sizeOf142
  v76 := Try.zeroValue142
  t77 := Try.underlying143
  a77 := Try.isAgg143
  z77 := Try.sizeOf143
  v77 := Try.zeroValue143

def hdS (l : List Sp) : Sp := l.headD (0, 0)
/-- Rings, by their first places. -/
def sortP (ps : List (Value × List Sp)) : List (Value × List Sp) := ps.mergeSort fun a b => !ltS (hdS b.2) (hdS a.2)
theorem sortP_perm (ps : List (Value × List Sp)) : (sortP ps).Perm ps := List.mergeSort_perm _ _

/-- A ring's first place lies there. -/
structure HeadAt (w : World) (v : Value) (l : List Sp) (no : Option Nat) : Prop where
  pos : 0 < l.length
  ex : ∃ b c, v = .slice (some ⟨b, 0, none⟩) l.length c ∧ b < w.heap.size ∧ some b ≠ no ∧ w.cell? ⟨b, 0, none⟩ = some (.int .i64 (hdS l).1) ∧ w.cell? ⟨b, 1, none⟩ = some (.int .i64 (hdS l).2)

theorem Gr.ofDrew {W w : World} (h : Gr W.drew w) : Gr W w := by
  obtain ⟨q, os, rfl⟩ := h
  refine ⟨1 + q, os, ?_⟩
  have e : W.drew.drewN q = W.drewN (1 + q) := by
    show ({ W with drawn := W.drawn + 1 + q } : World) = { W with drawn := W.drawn + (1 + q) }
    rw [Nat.add_assoc]
  rw [e]
theorem rings1 (a b : Nat) (la lb ca cb : Nat) (s t : Sp) (W : World) (h1 : 0 < la) (h2 : 0 < lb) (a0 : W.cell? ⟨a, 0, none⟩ = some (.int .i64 s.1)) (a1 : W.cell? ⟨a, 1, none⟩ = some (.int .i64 s.2)) (b0 : W.cell? ⟨b, 0, none⟩ = some (.int .i64 t.1)) (b1 : W.cell? ⟨b, 1, none⟩ = some (.int .i64 t.2)) :
    Calls Try.prog 34 #[.slice (some ⟨a, 0, none⟩) la ca, .slice (some ⟨b, 0, none⟩) lb cb] W fun e w' => e = .returned (.int .i64 (cmpS s t)) ∧ Gr W w' := by
  have h1' : (0 : Int) < (la : Int) := by omega
  have h2' : (0 : Int) < (lb : Int) := by omega
  go_enter Try.func34, Try.ntmps34
  go_wp2_with fail
  go_region_with (go_at_call 35; refine (spotCompare s t _).mono ?_; rintro e w3 ⟨rfl, hg⟩)
  all_goals
    go_wp2
    go_ret
    exact ⟨rfl, hg.ofDrew⟩
theorem hds_inj {ps : List (Value × List Sp)} (hn : (ps.map fun p => hdS p.2).Nodup) {i j : Nat} (hi : i < ps.length) (hj : j < ps.length) (e : hdS ps[i].2 = hdS ps[j].2) : i = j := by
  have h1 : (ps.map fun p => hdS p.2)[i]'(by simpa using hi) = (ps.map fun p => hdS p.2)[j]'(by simpa using hj) := by simpa using e
  exact (List.getElem_inj hn).1 h1

/-- slices.SortFunc at rings on a row of the call's own. -/
theorem sortRings {B : Nat} {e0 : TypeId} {sv : Value} (ps : List (Value × List Sp)) (w : World) (hlen : ps.length ≤ 70000) (h : w.ownsRow B e0 1 sv ps.length (ps.map (·.1))) (hh : ∀ p ∈ ps, HeadAt w p.1 p.2 sv.ownBlock) (hn : (ps.map fun p => hdS p.2).Nodup) :
    Calls Try.prog 33 #[sv, .func (.func 34) #[] #[]] w fun e w1 => e = .returned (.tuple #[]) ∧ w1.ownsRow B e0 1 sv ps.length ((sortP ps).map (·.1)) ∧ w.grownBy w1 sv.ownBlock := by
  by_cases h0 : ps = []
  · subst h0
    have hnil : ∃ q c, sv = .slice q 0 c := by
      rcases h.2 with ⟨rfl, _⟩ | ⟨_, _, _, rfl, _⟩
      · exact ⟨_, _, rfl⟩
      · exact ⟨_, _, rfl⟩
    obtain ⟨q, c, rfl⟩ := hnil
    refine (AnyF.slices_SortFunc_none Try.sortRs0 q c _ w).mono ?_
    rintro e w1 ⟨rfl, rfl⟩
    exact ⟨rfl, by simpa [sortP] using h, ⟨rfl, rfl, rfl, Nat.le_refl _, fun _ _ _ => rfl⟩⟩
  · obtain ⟨k, hk⟩ : ∃ k, ps.length = k + 1 := ⟨ps.length - 1, by have := List.length_pos_iff.2 h0; omega⟩
    rcases h.2 with ⟨_, h0⟩ | ⟨g, cap, cur, rfl, hb, hg, h1, h2, h3, h4⟩
    · omega
    have hgl := lt_of hg
    let en : Fin (k + 1) → Value := fun i => (ps[i.1]'(by omega)).1
    let ky : Fin (k + 1) → Sp := fun i => hdS (ps[i.1]'(by omega)).2
    let cf : Fin (k + 1) → Fin (k + 1) → Int := fun i j => cmpS (ky i) (ky j)
    have hlt : ∀ i j, ltOf cf i j = ltS (ky i) (ky j) := fun i j => by
      have := lt_cmpS (ky i) (ky j)
      simpa [ltOf, cf] using this
    have hO : SWO (ltOf cf) := by
      have := swoS
      rw [ltOf_cmpS] at this
      refine ⟨fun x => ?_, fun x y z => ?_, fun x y z => ?_⟩
      · rw [hlt]; exact this.irrefl _
      · rw [hlt, hlt, hlt]; exact this.trans _ _ _
      · rw [hlt, hlt, hlt]; exact this.ntrans _ _ _
    have hT : ∀ x y, (ltOf cf) x y = false → (ltOf cf) y x = false → x = y := fun x y h1 h2 => by
      rw [hlt] at h1 h2
      have := totS _ _ h1 h2
      exact Fin.ext (hds_inj hn (by omega) (by omega) this)
    have eg : ∀ args w, (callFunc 34 args).run Try.prog w = .ok (.enter 34 args) w := enters_of Try.func34 (by kernel_rfl) rfl
    have h1c : OneCell en := by
      intro i
      obtain ⟨_, b, c, e, _⟩ := hh _ (List.getElem_mem (show i.1 < ps.length by omega))
      show (en i).oneCell' = true
      rw [show en i = _ from e]
      rfl
    have hcmp : CmpLays1 Try.prog 34 #[] en cf g 0 (Array.ofFn (n := k + 1) id).size w := by
      intro m os dk hdk x y
      obtain ⟨p1, b1, c1, e1, l1, n1, x0, x1⟩ := hh _ (List.getElem_mem (show x.1 < ps.length by omega))
      obtain ⟨p2, b2, c2, e2, l2, n2, y0, y1⟩ := hh _ (List.getElem_mem (show y.1 < ps.length by omega))
      have hgr : w.grownBy (sortWorld en w g 0 m dk os) (some g) := grownPut en dk
      have hc : ∀ b j v, b < w.heap.size → some b ≠ some g → w.cell? ⟨b, j, none⟩ = some v → (sortWorld en w g 0 m dk os).cell? ⟨b, j, none⟩ = some v := fun b j v hb hne hv => (hgr.cell_far ⟨b, j, none⟩ hb hne).trans hv
      rw [show en x = _ from e1, show en y = _ from e2]
      exact rings1 b1 b2 _ _ _ _ _ _ _ p1 p2 (hc _ _ _ l1 n1 x0) (hc _ _ _ l1 n1 x1) (hc _ _ _ l2 n2 y0) (hc _ _ _ l2 n2 y1)
    have hH : Holds en w g 0 (Array.ofFn (n := k + 1) id) := by
      intro j hj
      have hj' : j < ps.length := by simpa [hk] using hj
      refine ⟨?_, by simp [World.frozen?, hg]⟩
      have := take_cells hg h4 j (ps[j]).1 (by simp [hj'])
      simp only [Nat.zero_add]
      rw [this, getElem!_pos _ j hj]
      simp [en]
    have hcon := Any.slices_SortFunc_total Try.sortRs en h1c cf hO 34 #[] g 0 cap (Array.ofFn (n := k + 1) id) w eg hcmp hH hgl (by simp; omega) hT
    have hsz : (Array.ofFn (n := k + 1) id).size = ps.length := by simp [hk]
    rw [hsz] at hcon
    refine hcon.mono ?_
    rintro e w1 ⟨rfl, n, os, rfl⟩
    have hres : ((Array.ofFn (n := k + 1) id).toList.mergeSort fun x y => !(ltOf cf) y x).map en = (sortP ps).map (·.1) := by
      have e1 : ps = (Array.ofFn (n := k + 1) id).toList.map fun i => ps[i.1]'(by omega) := by
        apply List.ext_getElem
        · simp [hk]
        · intro i h1 h2
          simp only [List.getElem_map, Array.getElem_toList, Array.getElem_ofFn, id]
      have e2 : sortP ps = ((Array.ofFn (n := k + 1) id).toList.mergeSort fun x y => !(ltOf cf) y x).map fun i => ps[i.1]'(by omega) := by
        unfold sortP
        conv => lhs; rw [e1]
        rw [List.map_mergeSort]
        intro a _ b _
        rw [hlt]
      rw [e2, List.map_map]
      rfl
    refine ⟨rfl, ⟨?_, .inr ⟨g, cap, _, rfl, hb, heapPut en _ hg, h1, h2, by simp [putCells, h3], ?_⟩⟩, grownPut en _⟩
    · rw [List.length_map, (sortP_perm ps).length_eq]; omega
    · have h5 := takePutE en cur ((Array.ofFn (n := k + 1) id).toList.mergeSort fun x y => !(ltOf cf) y x).toArray (by simp; omega)
      simp only [List.size_toArray, List.length_mergeSort, Array.length_toList, Array.size_ofFn] at h5
      rw [Nat.mul_one, hk, h5, ← hres]
end Go.Proofs.Ytdlpbpohbkcafaa
