/-
  Contracts of trace.Store.Drop and All.
-/
import Derived.Test.YtldppdafgbipjaaStore
import Derived.Test.YtldppdafgbipjaaTab
import Derived.Test.YtldppdafgbipjaaAllSeen
import Derived.Test.YtldppdafgbipjaaLoopK
import Derived.Test.YtldppdafgbipjaaColl
namespace Go.Proofs.Ytldppdafgbipjaa
open Go.RowKit Go.Shelf
attribute [local go_sem] Oper.semAt_some

theorem storeDrop (p tb mb : Nat) (dd : Int) (s : Sp) (m : List (Sp × Tr)) (w : World) (h : StIs w p tb mb dd m) :
    Calls Try.prog 50 #[.pointer (some ⟨p, 0, none⟩), spV s] w fun e w1 => e = .returned (.bool (getS s m).isSome) ∧ StIs w1 p tb mb dd (delS s m) ∧ Fr [tb, mb] w w1 := by
  have HH := Lib.hid h
  obtain ⟨hst, hwd, ls, hT, hM⟩ := h
  have hg : (getS s ls).isSome = (getS s m).isSome := by
    rcases hM.get s with ⟨h1, h2⟩ | ⟨x, t, h1, h2, _⟩ <;> rw [h1, h2] <;> rfl
  have c0 := cell_of hst 0
  have c1 := cell_of hst 1
  have hlt := lt_of hst
  have hlt1 : ∀ k, p < w.heap.size + k := fun k => by omega
  have Hst := Lib.hid hst
  clear hst
  have hpn : p ∉ [tb, mb] := by
    intro hm
    obtain ⟨_, _, ls', ⟨ht, es, clock, hb, _⟩, _⟩ := HH.out
    simp only [List.mem_cons, List.not_mem_nil, or_false] at hm
    have h0 := Hst.out
    rcases hm with rfl | rfl
    · rw [ht] at h0
      injection h0 with h0
      injection h0 with h1 h2 h3
      cases h2
    · rw [hb] at h0
      cases h0
  go_enter Try.func50, Try.ntmps50
  go_wp2_with fail
  have hW : Fr [] w (w.alloc (.cells #[.int .i64 s.1, .int .i64 s.2] 26)) := (Fr.refl [] w).alloc _
  have hb1 := heap_new w (.cells #[.int .i64 s.1, .int .i64 s.2] 26)
  have hTW := Lib.hid (hT.fr hW (by simp) (by simp))
  have htl := lt_of hT.tab
  have hml := hT.map.lt
  have hp1 : (_ : World).cell? ⟨p, 1, none⟩ = some (.pointer (some ⟨tb, 0, none⟩)) := (hW.cell (p := ⟨p, 1, none⟩) hlt (by simp)).trans c1
  have hpW := Nat.lt_of_lt_of_le hlt hW.size
  clear c0 c1 hlt1
  generalize w.alloc (.cells #[.int .i64 s.1, .int .i64 s.2] 26) = W at *
  have hB0 := lt_of hb1
  have hbc0 : W.cell? ⟨w.heap.size, 0, none⟩ = some (.int .i64 s.1) := cell_of hb1 0
  have hbc1 : W.cell? ⟨w.heap.size, 1, none⟩ = some (.int .i64 s.2) := cell_of hb1 1
  obtain ⟨B, hB⟩ : ∃ B, w.heap.size = B := ⟨_, rfl⟩
  rw [hB] at hbc0 hbc1 hB0 hb1 hlt htl hml ⊢
  go_region_held3 (fun u => u.cell? ⟨p, 1, none⟩ = some (.pointer (some ⟨tb, 0, none⟩)) ∧ u.cell? ⟨B, 0, none⟩ = some (.int .i64 s.1) ∧ u.cell? ⟨B, 1, none⟩ = some (.int .i64 s.2))
    (first | exact ⟨hp1, hbc0, hbc1⟩ | exact hS)
    ((go_at_call 90; refine (drop_Seen tb mb s ls _ (hTW.out.fr ((Fr.refl [] W).drew) (by simp) (by simp))).mono ?_; rintro e w1 ⟨rfl, hT1, h1⟩; have h1 := (((Fr.refl [tb, mb] W).drew)).transS h1; have hS : w1.cell? ⟨p, 1, none⟩ = some (.pointer (some ⟨tb, 0, none⟩)) ∧ w1.cell? ⟨B, 0, none⟩ = some (.int .i64 s.1) ∧ w1.cell? ⟨B, 1, none⟩ = some (.int .i64 s.2) := ⟨(h1.cell (p := ⟨p, 1, none⟩) hpW hpn).trans hp1, (h1.cell (p := ⟨B, 0, none⟩) hB0 (by simp; omega)).trans hbc0, (h1.cell (p := ⟨B, 1, none⟩) hB0 (by simp; omega)).trans hbc1⟩))
  have hF : Fr [tb, mb] w w1 := (hW.mono (by simp)).transS h1
  have hS : StIs w1 p tb mb dd (delS s m) := ⟨hF.heap Hst.out hpn, hwd, _, hT1, (hM.del s).fr hF HH.out.notE⟩
  have HS := Lib.hid hS
  clear hS hT hM hT1
  go_wp2
  go_ret
  exact ⟨rfl, HS.out, hF⟩

/-- What the store's table goes over, as places. -/
theorem rows_keys {α : Type} (z : α) (l : List (Sp × α)) (ss : List Sp) : (rowsS z (fun _ => true) l ss).map (·.1) = ss := by
  unfold rowsS
  rw [List.filter_eq_self.2 (fun _ _ => rfl), List.map_map]
  exact List.map_id _

abbrev keyC {R : List (Sp × Seen)} (x : {x // x ∈ R}) : List Value := spC x.1.1

set_option maxRecDepth 100000 in
set_option maxHeartbeats 3200000 in
theorem storeAll_in (p tb mb : Nat) (dd : Int) (m : List (Sp × Tr)) (w : World) (h : StIs w p tb mb dd m) (hl : m.length ≤ 65536) :
    CallsIn Fence.wide 5 Try.prog 49 #[.pointer (some ⟨p, 0, none⟩)] w fun e w1 => ∃ v, e = .returned v ∧
      w1.ownsRow w.heap.size 26 2 v (sortS (m.map (·.1))).length ((sortS (m.map (·.1))).flatMap spC) ∧ Fr [] w w1 := by
  obtain ⟨i0, hi, hz0, hz1, hz2⟩ := info_parts infoSpot
  obtain ⟨hst, hwd, ls, hT, hM⟩ := h
  have hll : ls.length ≤ 65536 := by rw [hM.len]; exact hl
  have hkeys := hM.keys
  have HT := Lib.hid hT
  have HLL := Lib.hid hll
  have HKEYS := Lib.hid hkeys
  have c1 := cell_of hst 1
  have hlt := lt_of hst
  have hlt1 : ∀ k, p < w.heap.size + k := fun k => by omega
  clear hM hT hll hkeys hl hwd hst
  refine callsIn_of_wp_marks Try.func49 rfl trivial ?_ rfl
  simp only [Try.ntmps49, List.size_toArray, List.length_cons, List.length_nil, Nat.reduceAdd, Nat.reduceSub, Array.replicate_succ, Array.replicate_zero, List.push_toArray, List.append_toArray, List.nil_append, List.cons_append]
  gi_wp2_with fail
  refine ⟨trivial, ?_⟩
  gi_at_call 89
  refine (callsIn_wide.2 (all_Seen tb mb ls _ (HT.out.fr ((Fr.refl [] w).alloc _) (by simp) (by simp)) HLL.out)).mono ?_
  rintro e w1 ⟨B, rv, rfl, hI, h1⟩
  have hlb := h1.heap (heap_new w (.cells #[.slice none 0 0] 35)) (by simp)
  have hf1 : Fr [] w w1 := ((Fr.refl [] w).alloc _).trans0 h1
  have hsz : (w.alloc (.cells #[.slice none 0 0] 35)).heap.size = w.heap.size + 1 := by simp
  rw [hsz] at hI
  have hRk := rows_keys seen0 ls (sortS (ls.map (·.1)))
  have hRl : (rowsS seen0 (fun _ => true) ls (sortS (ls.map (·.1)))).length ≤ 65536 := by
    refine Nat.le_trans (rowsS_le _ _ _ _) ?_
    rw [(sortS_perm _).length_eq, List.length_map]
    exact HLL.out
  generalize rowsS seen0 (fun _ => true) ls (sortS (ls.map (·.1))) = R at *
  rw [HKEYS.out] at hRk
  have HRK := Lib.hid hRk
  have HRL := Lib.hid hRl
  have HI := Lib.hid hI
  have hbl := lt_of hlb
  have hIlt := hI.lt
  have hwz := hf1.size
  clear h1 hI hsz hRk hRl
  gi_wp2
  have hB0 : Boxed w1 w.heap.size 35 (.slice none 0 0) := hlb
  refine range_iterK rfl (by omega) (gf := 138) (lb := #[.pointer (some ⟨B, 0, none⟩)]) rfl trivial (enters_of Try.func138 (by kernel_rfl) rfl) [w.heap.size]
    (overK_Seen 4 (by omega) B rv R _ (fun W W' hk hr => RIs.kept HI.out.own (Nat.le_refl _) (by intro g hg; rw [List.mem_singleton] at hg; subst hg; intro e; have := (HI.out.own.lt _ e).1; omega) hk hr) w1 HI.out.box hIlt (RIs.of_owns HI.out.own) (by have := HRL.out; omega)) (fun _ => rfl)
    (fun pre W => ∃ v, Boxed W w.heap.size 35 v ∧ W.ownsRow w1.heap.size 26 2 v pre.length (pre.flatMap keyC) ∧ True) (fun _ _ _ => False)
    (Own.from (holdsRow_own w1.heap.size w.heap.size 35 26 2 (fun pre : List {x // x ∈ R} => pre.length) (fun pre => pre.flatMap keyC) (fun _ _ => True)) _) (fun _ _ _ _ _ h _ _ => h) ⟨_, hB0, World.ownsRow_nil _ _ _ _, trivial⟩ ?_ ?_ ?_
  · intro l pre x W hJ hf
    gi_wp2
    have h0 := (Fr.refl [] W).alloc (.cells #[.int .i64 x.val.1.1, .int .i64 x.val.1.2] 26)
    have hJ2 := hJ
    obtain ⟨v, hv, hrow, _⟩ := hJ2
    refine ⟨h0, ⟨v, hv.alloc _, hrow.alloc _, trivial⟩, ?_⟩
    have hat0 := heap_new W (.cells #[.int .i64 x.1.1.1, .int .i64 x.1.1.2] 26)
    intro l2 pre2 W2 hrel hl2 hr2 hJ2 hf2 hlt2
    have hat := hrel.block hat0
    clear hat0 hrel hJ hv hrow h0
    generalize W.heap.size = A at *
    obtain ⟨v, hv, hrow, _⟩ := hJ2
    have hc := hv.cell
    have x0 : W2.cell? ⟨A, 0, none⟩ = some (.int .i64 x.1.1.1) := cell_of hat 0
    have x1 : W2.cell? ⟨A, 1, none⟩ = some (.int .i64 x.1.1.2) := cell_of hat 1
    have hlN : pre2.length < 70000 := by have := HRL.out; omega
    have hf2z := hf2.size
    have happ := fun (w3 : World) (v' : Value) (h1 : w3.ownsRow w1.heap.size 26 2 v' (pre2.length + 1) (pre2.flatMap keyC ++ keyC x)) (h2 : (W2.alloc (.cells #[.int .i64 x.1.1.1, .int .i64 x.1.1.2] 26)).grownBy w3 v.ownBlock) =>
      Boxed.app (t := 35) (e := 26) hv (by decide) hrow hf2z h1 h2
    gi_wp2_with (gi_at_builtin; refine wpListIn_append_own _ rfl _ _ 35 rfl w1.heap.size 26 i0 _ 2 16 Try.underlying35 hi hz0 hz1 hz2 rfl (by decide) _ _ _ rfl (hrow.alloc _) ⟨W2.heap.size, 0, none⟩ 1 1 (keyC x) rfl rfl (news_of _ _ _) (by simp [Value.oneCell', keyC]) (by unfold maxLen; omega) (by omega) (by simp; omega) ?_; intro v' w3 hown' hgrow _; obtain ⟨g', cap', rfl⟩ := ownsRow_succ hown'; obtain ⟨hv1, hv2, hr2, hk2, hb2⟩ := happ _ _ hown' hgrow; have hc1 := hv1.cell; have hf1 := hv1.frozen)
    exact ⟨hk2, hb2, ⟨_, hv2, by simpa using hr2, trivial⟩⟩
  · intro D xs W hD hS ⟨v, hv, hrow, _⟩ hf hK
    have hc := hv.cell
    gi_wp2
    refine ⟨by simp, .inl ⟨_, _, rfl, run_takeDeferred hK, ?_⟩⟩
    have hx : xs.flatMap keyC = (sortS (m.map (·.1))).flatMap spC := by
      rw [← HRK.out]
      have e : R.map (·.1) = xs.map (·.1.1) := by
        have := congrArg (List.map (·.1)) (show xs.map (fun x : {x // x ∈ R} => x.1) = R from hS)
        rw [← this, List.map_map]
        rfl
      rw [e]
      simp [List.flatMap_map]
    have hn : xs.length = (sortS (m.map (·.1))).length := by
      have e : (xs.map (·.1)).length = R.length := by rw [show xs.map (·.1) = R from hS]
      rw [← HRK.out]
      simpa using e
    rw [hx, hn] at hrow
    exact ⟨_, results_tmp rfl _ _ _, v, rfl, owns_mono (ownsRow_putObj hrow _ hK rfl) hwz, (hf1.trans hf (by simp)).putObj (by omega) _⟩
  · intro D c pre W _ _ h _
    exact h.elim

theorem storeAll (p tb mb : Nat) (dd : Int) (m : List (Sp × Tr)) (w : World) (h : StIs w p tb mb dd m) (hl : m.length ≤ 65536) :
    Calls Try.prog 49 #[.pointer (some ⟨p, 0, none⟩)] w fun e w1 => ∃ v, e = .returned v ∧
      w1.ownsRow w.heap.size 26 2 v (sortS (m.map (·.1))).length ((sortS (m.map (·.1))).flatMap spC) ∧ Fr [] w w1 := callsIn_wide.1 (storeAll_in p tb mb dd m w h hl)
end Go.Proofs.Ytldppdafgbipjaa
