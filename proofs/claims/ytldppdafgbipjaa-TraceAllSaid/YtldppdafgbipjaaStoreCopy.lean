/-
  Contract of trace.Store.Copy: another store with the same traces, in row order.
-/
import Derived.Test.YtldppdafgbipjaaStoreAll
import Derived.Stop.RegionWithIn
import Derived.Sort.CutIn
import Derived.Deep.RegionHeld3
namespace Go.Proofs.Ytldppdafgbipjaa
open Go.RowKit Go.Shelf
attribute [local go_sem] Oper.semAt_some

def tr0 : Tr := ⟨⟨0, 0, ⟨#[]⟩⟩, []⟩
/-- The same traces in row order. -/
def sortT (m : List (Sp × Tr)) : List (Sp × Tr) := (sortS (m.map (·.1))).map fun s => (s, (getS s m).getD tr0)
/-- What setting them one behind the other makes. -/
def insL (l : List (Sp × Seen)) : List (Sp × Seen) := l.foldl (fun m x => setL x.1 x.2 m) []

theorem insL_snoc (l : List (Sp × Seen)) (x : Sp × Seen) : insL (l ++ [x]) = setL x.1 x.2 (insL l) := by simp [insL]
theorem insL_self : ∀ (n : Nat) (l : List (Sp × Seen)), l.length = n → (l.map (·.1)).Nodup → (∀ x ∈ l, mayS x.1.1 x.1.2 = true) → l.length ≤ 65536 → insL l = l
  | 0, l, h, _, _, _ => by
    rw [List.eq_nil_of_length_eq_zero h]
    rfl
  | n + 1, l, h, hn, hm, hl => by
    rcases List.eq_nil_or_concat l with rfl | ⟨l', x, rfl⟩
    · simp at h
    · rw [List.concat_eq_append] at *
      have h1 : l'.length = n := by simpa using h
      rw [List.map_append, List.nodup_append] at hn
      have hx : getS x.1 l' = none := by
        rw [getS_none]
        intro hx
        exact hn.2.2 _ hx x.1 (by simp) rfl
      rw [insL_snoc, insL_self n l' h1 hn.1 (fun y hy => hm y (by simp [hy])) (by simp at hl; omega)]
      have e0 : setE x.1 l' = 0 := by
        unfold setE
        rw [if_neg (by rw [hm x (by simp)]; simp), if_neg (by simp at hl; omega)]
      unfold setL
      rw [if_pos e0, put_none (idx_none hx)]
theorem getS_map {α : Type} (f : Sp → α) (s : Sp) : ∀ l : List Sp, getS s (l.map fun t => (t, f t)) = if s ∈ l then some (f s) else none
  | [] => rfl
  | t :: l => by
    simp only [List.map_cons, getS, getS_map f s l, List.mem_cons]
    by_cases h : s = t
    · subst h; simp
    · simp [h]
theorem getS_sortT (m : List (Sp × Tr)) (s : Sp) : getS s (sortT m) = getS s m := by
  unfold sortT
  rw [getS_map]
  cases hg : getS s m with
  | none => rw [if_neg (fun h => getS_none.1 hg ((sortS_perm _).mem_iff.1 h))]
  | some x =>
    rw [if_pos]
    · rfl
    · rw [(sortS_perm _).mem_iff]
      exact Classical.byContradiction fun hn => by rw [getS_none.2 hn] at hg; cases hg
theorem sortT_keys (m : List (Sp × Tr)) : (sortT m).map (·.1) = sortS (m.map (·.1)) := by
  unfold sortT
  rw [List.map_map]
  exact List.map_id _
theorem sortT_len (m : List (Sp × Tr)) : (sortT m).length = m.length := by
  have := congrArg List.length (sortT_keys m)
  rwa [List.length_map, (sortS_perm _).length_eq, List.length_map] at this
theorem Match.rows {w : World} {l : List (Sp × Seen)} {m : List (Sp × Tr)} (h : Match w l m) : ∀ ss : List Sp, (∀ s ∈ ss, s ∈ l.map (·.1)) → Match w (rowsS seen0 (fun _ => true) l ss) (ss.map fun s => (s, (getS s m).getD tr0))
  | [], _ => trivial
  | s :: ss, hs => by
    have h2 := Match.rows h ss (fun t ht => hs t (by simp [ht]))
    have e : rowsS seen0 (fun _ => true) l (s :: ss) = (s, (getS s l).getD seen0) :: rowsS seen0 (fun _ => true) l ss := by simp [rowsS]
    rw [e]
    refine ⟨rfl, ?_, h2⟩
    rcases h.get s with ⟨h1, _⟩ | ⟨x, t, h1, h3, h4⟩
    · exact absurd (hs s (by simp)) (getS_none.1 h1)
    · simp only [h1, h3, Option.getD_some]
      exact h4

theorem ownFrom_tab {α β : Type} {T : TypeId} {enc : α → Value} {B tb mb : Nat} (f : β → List (Sp × α)) (h1 : tb < B) (h2 : mb < B) : OwnFrom B (fun s W => TabIs T enc W tb mb (f s)) := fun s X Y row hs hg hr => by
  have hb : ∀ k, k < B → some k ≠ row := fun k hk e => by have := (hr k e.symm).1; omega
  refine ⟨(hg.block tb (lt_of hs.tab) (hb tb h1)).trans hs.tab, ?_⟩
  obtain ⟨es, clock, h, r⟩ := hs.map
  exact ⟨es, clock, (hg.block mb (lt_of h) (hb mb h2)).trans h, r⟩

set_option maxRecDepth 100000 in
set_option maxHeartbeats 3200000 in
theorem storeCopy_in (p tb mb : Nat) (dd : Int) (m : List (Sp × Tr)) (w : World) (h : StIs w p tb mb dd m) (hl : m.length ≤ 65536) (hmay : ∀ x ∈ m, mayS x.1.1 x.1.2 = true) :
    CallsIn Fence.wide 5 Try.prog 52 #[.pointer (some ⟨p, 0, none⟩)] w fun e w1 => ∃ p2 tb2 mb2, e = .returned (.pointer (some ⟨p2, 0, none⟩)) ∧
      w.heap.size ≤ p2 ∧ w.heap.size ≤ tb2 ∧ w.heap.size ≤ mb2 ∧ StIs w1 p2 tb2 mb2 dd (sortT m) ∧ Fr [] w w1 := by
  have HH := Lib.hid h
  obtain ⟨hst, hwd, ls, hT, hM⟩ := h
  have hll : ls.length ≤ 65536 := by rw [hM.len]; exact hl
  have hnd := hT.nodup
  have hkeys := hM.keys
  have hrows : Hid (Match w (rowsS seen0 (fun _ => true) ls (sortS (ls.map (·.1)))) (sortT m)) := by
    show Match _ _ _
    unfold sortT
    rw [← hkeys]
    exact hM.rows _ (fun s hs => (sortS_perm _).mem_iff.1 hs)
  have hins : Hid (insL (rowsS seen0 (fun _ => true) ls (sortS (ls.map (·.1)))) = rowsS seen0 (fun _ => true) ls (sortS (ls.map (·.1)))) := by
    show _ = _
    refine insL_self _ _ rfl ?_ ?_ ?_
    · rw [rows_keys]
      exact (sortS_perm _).nodup_iff.2 hnd
    · intro x hx
      have h1 : x.1 ∈ (rowsS seen0 (fun _ => true) ls (sortS (ls.map (·.1)))).map (·.1) := List.mem_map_of_mem (f := (·.1)) hx
      rw [rows_keys, (sortS_perm _).mem_iff, hkeys] at h1
      obtain ⟨y, hy, e⟩ := List.mem_map.1 h1
      rw [← e]
      exact hmay y hy
    · refine Nat.le_trans (rowsS_le _ _ _ _) ?_
      rw [(sortS_perm _).length_eq, List.length_map]
      exact hll
  have hRl : (rowsS seen0 (fun _ => true) ls (sortS (ls.map (·.1)))).length ≤ 65536 := by
    refine Nat.le_trans (rowsS_le _ _ _ _) ?_
    rw [(sortS_perm _).length_eq, List.length_map]
    exact hll
  have HT := Lib.hid hT
  have HLL := Lib.hid hll
  have HRL := Lib.hid hRl
  have HWD := Lib.hid hwd
  have c0 : w.cell? ⟨p, 0, none⟩ = some (.int .i64 dd) := cell_of hst 0
  have c1 : w.cell? ⟨p, 1, none⟩ = some (.pointer (some ⟨tb, 0, none⟩)) := cell_of hst 1
  have hlt := lt_of hst
  clear hM hT hll hkeys hl hwd hst hRl hnd hmay
  refine callsIn_of_wp_marks Try.func52 rfl trivial ?_ rfl
  simp only [Try.ntmps52, List.size_toArray, List.length_cons, List.length_nil, Nat.reduceAdd, Nat.reduceSub, Array.replicate_succ, Array.replicate_zero, List.push_toArray, List.append_toArray, List.nil_append, List.cons_append]
  gi_wp2_with fail
  gi_cut [3] from 5 (fun s3 wx => ∃ ob p2 tb2 mb2, s3 = .pointer (some ⟨ob, 0, none⟩) ∧ w.heap.size ≤ ob ∧ w.heap.size ≤ p2 ∧ w.heap.size ≤ tb2 ∧ w.heap.size ≤ mb2 ∧ wx.heap[ob]? = some (.cells #[.pointer (some ⟨p2, 0, none⟩)] 29 (0, 0)) ∧
    wx.heap[p2]? = some (.cells #[.int .i64 dd, .pointer (some ⟨tb2, 0, none⟩)] 124 (0, 0)) ∧ TabIs tT Seen.val wx tb2 mb2 [] ∧ Fr [] w wx)
  case first =>
    refine wpIn_mono (Q := NoPanic _) ?_ NoPanic.imp
    gi_region_with (refine ⟨trivial, ?_⟩; gi_at_call 56; refine (callsIn_wide.2 (newT _)).mono ?_; rintro e w1 ⟨tb2, mb2, rfl, ht, hm, hT2, h1⟩; have hr1 := h1.rules.1; have hr2 := h1.rules.2; have hz := h1.size; (try simp at hz); (try simp at ht hm); (try have hz2 : w.heap.size < w1.heap.size := by omega); have hp1 : w1.cell? ⟨p, 0, none⟩ = some (.int .i64 dd) := (by first | exact ce_call h1 c0 | exact ce_call h1 (ce_drew c0) | exact ce_call h1 (ce_drew (ce_old c0)) | exact ce_call h1 (ce_old (ce_drew c0))); have hp2 : p < w1.heap.size := by omega)
    all_goals
      have hw1 : Fr [] w w1 := by first | exact ((Fr.refl [] w).drew).trans0 h1 | exact (((Fr.refl [] w).alloc _).drew).trans0 h1
      refine NoPanic.normal ?_
      gi_wp2_with fail
      gi_meet
      first
        | exact ⟨w1.heap.size + 1, w1.heap.size, tb2, mb2, rfl, by omega, by omega, by omega, by omega, hp_new (by simp), hp_old (hp_new rfl), hT2.fr (((Fr.refl [] w1).alloc _).alloc _) (by simp) (by simp), (hw1.alloc _).alloc _⟩
        | exact ⟨w1.heap.size, w1.heap.size + 1, tb2, mb2, rfl, by omega, by omega, by omega, by omega, hp_old (hp_new rfl), hp_new (by simp), hT2.fr (((Fr.refl [] w1).alloc _).alloc _) (by simp) (by simp), (hw1.alloc _).alloc _⟩
        | exact ⟨w.heap.size, w1.heap.size, tb2, mb2, rfl, by omega, by omega, by omega, by omega,
            hp_old (set_of (h1.heap (show (w.alloc (.cells #[.pointer none] 29)).drew.heap[w.heap.size]? = some (.cells #[.pointer none] 29 (0, 0)) from heap_new w _) (by simp)) 0 _), hp_new (by simp),
            hT2.fr (((Fr.refl [w.heap.size] w1).setCell (p := ⟨w.heap.size, 0, none⟩) (.inl (by simp)) _).alloc _) (by simp; omega) (by simp; omega), (hw1.setCell (p := ⟨w.heap.size, 0, none⟩) (.inr (Nat.le_refl _)) _).alloc _⟩
  case rest =>
    obtain ⟨ob, p2, tb2, mb2, rfl, lo, lp, lt, lm, hO, hP, hT2, hf1⟩ := hcut
    have HT2 := Lib.hid hT2
    have c1 := (hf1.cell (p := ⟨p, 1, none⟩) hlt (by simp)).trans c1
    clear hT2 c0
    gi_wp2_with fail
    refine ⟨trivial, ?_⟩
    gi_at_call 89
    refine (callsIn_wide.2 (all_Seen tb mb ls _ (HT.out.fr hf1 (by simp) (by simp)) HLL.out)).mono ?_
    rintro e w3 ⟨B, rv, rfl, hI, h3⟩
    have hf3 : Fr [] w w3 := hf1.trans0 h3
    have HM := Lib.hid (hrows.out.fr hf3 (fun _ h => by simp at h))
    generalize rowsS seen0 (fun _ => true) ls (sortS (ls.map (·.1))) = R at *
    have HI := Lib.hid hI
    have hIlt := hI.lt
    have hO3 := h3.heap hO (by simp)
    have hP3 := h3.heap hP (by simp)
    have HT3 := Lib.hid (HT2.out.fr h3 (by simp) (by simp))
    have ltb := lt_of HT3.out.tab
    have lmb := HT3.out.map.lt
    have ltc := lt_of HT2.out.tab
    have lmc := HT2.out.map.lt
    clear hI h3 hO hP
    have hne1 : ob ≠ tb2 := by
      rintro rfl
      have h := HT3.out.tab
      rw [hO3] at h
      injection h with h
      injection h with h1 h2 h3
      cases h2
    have hne2 : ob ≠ mb2 := by
      rintro rfl
      obtain ⟨_, _, h, _⟩ := HT3.out.map
      rw [hO3] at h
      cases h
    have hne3 : p2 ≠ tb2 := by
      rintro rfl
      have h := HT3.out.tab
      rw [hP3] at h
      injection h with h
      injection h with h1 h2 h3
      cases h2
    have hne4 : p2 ≠ mb2 := by
      rintro rfl
      obtain ⟨_, _, h, _⟩ := HT3.out.map
      rw [hP3] at h
      cases h
    gi_wp2
    refine range_iter rfl (by omega) (gf := 138) (lb := #[.pointer (some ⟨B, 0, none⟩)]) rfl trivial (enters_of Try.func138 (by kernel_rfl) rfl) [tb2, mb2] (by simp; omega)
      (overK_Seen 4 (by omega) B rv R _ (fun W W' hk hr => RIs.kept HI.out.own (Nat.le_refl _) (by intro g hg; simp only [List.mem_cons, List.not_mem_nil, or_false] at hg; intro e; have := (HI.out.own.lt _ e).1; omega) hk hr) w3 HI.out.box hIlt (RIs.of_owns HI.out.own) (by have := HRL.out; omega)) (fun _ => rfl)
      (fun pre W => TabIs tT Seen.val W tb2 mb2 (insL (pre.map (·.1))) ∧ Fr [tb2, mb2] w3 W) (fun _ _ _ => False) ?_ (fun _ _ _ _ _ h _ _ => h) ⟨HT3.out, Fr.refl _ _⟩ ?_ ?_ ?_
    · exact (ownFrom_tab (fun pre : List {x // x ∈ R} => insL (pre.map (·.1))) ltb lmb).and (ownFrom_fr _ _)
    · intro l pre x W hJ hf
      gi_wp2
      have h0 : Fr [] W ((W.alloc (.cells #[.int .i64 x.1.1.1, .int .i64 x.1.1.2] 26)).alloc (.cells #[.int .i64 x.1.2.v.k, .int .i64 x.1.2.v.n, .string x.1.2.v.s, .slice x.1.2.p x.1.2.n x.1.2.c] 122)) := ((Fr.refl [] W).alloc _).alloc _
      have hat0 : ((W.alloc (.cells #[.int .i64 x.1.1.1, .int .i64 x.1.1.2] 26)).alloc (.cells #[.int .i64 x.1.2.v.k, .int .i64 x.1.2.v.n, .string x.1.2.v.s, .slice x.1.2.p x.1.2.n x.1.2.c] 122)).heap[W.heap.size]? = some (.cells #[.int .i64 x.1.1.1, .int .i64 x.1.1.2] 26 (0, 0)) := hp_old (hp_new rfl)
      have hxx0 : ((W.alloc (.cells #[.int .i64 x.1.1.1, .int .i64 x.1.1.2] 26)).alloc (.cells #[.int .i64 x.1.2.v.k, .int .i64 x.1.2.v.n, .string x.1.2.v.s, .slice x.1.2.p x.1.2.n x.1.2.c] 122)).heap[W.heap.size + 1]? = some (.cells #[.int .i64 x.1.2.v.k, .int .i64 x.1.2.v.n, .string x.1.2.v.s, .slice x.1.2.p x.1.2.n x.1.2.c] 122 (0, 0)) := hp_new (by simp)
      refine ⟨h0, ⟨hJ.1.fr h0 (by simp) (by simp), hJ.2.trans0 h0⟩, ?_⟩
      intro l2 pre2 W2 hrel hl2 hr2 hJ2 hf2 hlt2
      have hat := hrel.block hat0
      have hxx := hrel.block hxx0
      have hTW := Lib.hid hJ2.1
      clear hat0 hxx0 hrel hJ h0 hf
      generalize W.heap.size = A at *
      have hOW := hf2.heap hO3 (by simp; omega)
      have hPW := hf2.heap hP3 (by simp; omega)
      have c1 : W2.cell? ⟨p2, 1, none⟩ = some (.pointer (some ⟨tb2, 0, none⟩)) := cell_of hPW 1
      have o0 : W2.cell? ⟨ob, 0, none⟩ = some (.pointer (some ⟨p2, 0, none⟩)) := cell_of hOW 0
      have a0 : W2.cell? ⟨A, 0, none⟩ = some (.int .i64 x.1.1.1) := cell_of hat 0
      have a1 : W2.cell? ⟨A, 1, none⟩ = some (.int .i64 x.1.1.2) := cell_of hat 1
      have x0 : W2.cell? ⟨A + 1, 0, none⟩ = some (.int .i64 x.1.2.v.k) := cell_of hxx 0
      have x1 : W2.cell? ⟨A + 1, 1, none⟩ = some (.int .i64 x.1.2.v.n) := cell_of hxx 1
      have x2 : W2.cell? ⟨A + 1, 2, none⟩ = some (.string x.1.2.v.s) := cell_of hxx 2
      have x3 : W2.cell? ⟨A + 1, 3, none⟩ = some (.slice x.1.2.p x.1.2.n x.1.2.c) := cell_of hxx 3
      gi_wp2_with fail
      gi_region_with (refine ⟨trivial, ?_⟩; gi_at_call 59; refine (CallsIn.inRound l2 (callsIn_wide.2 (setT tb2 mb2 x.1.1 x.1.2 _ _ (hTW.out.fr ((Fr.refl [] W2).drew) (by simp) (by simp))))).mono ?_; rintro e w5 ⟨rfl, hT5, h5⟩)
      all_goals
        gi_wp2
        refine ⟨((Fr.refl [tb2, mb2] W2).drew).transS h5, ?_, hf2.transS (((Fr.refl [tb2, mb2] W2).drew).transS h5)⟩
        rw [List.map_append, List.map_cons, List.map_nil, insL_snoc]
        exact hT5
    · intro D xs W hD hS hJ hf hK
      have hOW := hf.heap hO3 (by simp; omega)
      have hPW := hf.heap hP3 (by simp; omega)
      have o0 : W.cell? ⟨ob, 0, none⟩ = some (.pointer (some ⟨p2, 0, none⟩)) := cell_of hOW 0
      gi_wp2
      have hDl := lt_of hK
      have hfD : Fr [D] W (W.putObj D (.deferred none)) :=
        have g := grownBy_putObj' W D (.deferred none)
        ⟨g.os, g.tape, g.output, g.size, fun k _ hn => World.putObj_heap_other (by simpa using hn)⟩
      have hFw : Fr [] w (W.putObj D (.deferred none)) := (hf3.trans hf (by simp; omega)).putObj (by have := hf3.size; omega) _
      have hJR : TabIs tT Seen.val W tb2 mb2 R := by
        have := hJ.1
        rwa [show xs.map (·.1) = R from hS, hins.out] at this
      refine ⟨by simp, .inl ⟨_, _, rfl, run_takeDeferred hK, ?_⟩⟩
      exact ⟨_, results_tmp rfl _ _ _, p2, tb2, mb2, rfl, lp, lt, lm, ⟨hfD.heap hPW (by simp; have := lt_of hP3; omega), HWD.out, R, hJR.fr hfD (by simp; omega) (by simp; omega), hrows.out.fr hFw (fun _ h => by simp at h)⟩, hFw⟩
    · intro D c pre W _ _ h _
      exact h.elim

theorem storeCopy (p tb mb : Nat) (dd : Int) (m : List (Sp × Tr)) (w : World) (h : StIs w p tb mb dd m) (hl : m.length ≤ 65536) (hmay : ∀ x ∈ m, mayS x.1.1 x.1.2 = true) :
    Calls Try.prog 52 #[.pointer (some ⟨p, 0, none⟩)] w fun e w1 => ∃ p2 tb2 mb2, e = .returned (.pointer (some ⟨p2, 0, none⟩)) ∧
      w.heap.size ≤ p2 ∧ w.heap.size ≤ tb2 ∧ w.heap.size ≤ mb2 ∧ StIs w1 p2 tb2 mb2 dd (sortT m) ∧ Fr [] w w1 := callsIn_wide.1 (storeCopy_in p tb mb dd m w h hl hmay)
end Go.Proofs.Ytldppdafgbipjaa
