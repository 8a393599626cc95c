/-
  cycle.made: the graph of some nodes.
-/
import Derived.Test.YtdlpbpohbkcafaaGreatCGraph2
import Derived.Deep.RegionLaw
import Derived.Deep.AppendLies
import Derived.Deep.RegionHeld3
import Derived.Deep.CutBlock
import Derived.Deep.RegionWith
namespace Go.Proofs.YtdlpbpohbkcafaaGreat
open Go.RowKit Go.Shelf Go.Sort Go.Proofs

abbrev tSp : TypeId := 27
abbrev tNd : TypeId := 30
abbrev tG : TypeId := 60
structure NodesAt (w : World) (v : Value) (ns : List Nd) : Prop where
  row : SlAt w v 3 ns.length (ns.flatMap ndC)
  nx : ∀ n ∈ ns, SpotsAt w (.slice n.na n.next.length n.nc) n.next
theorem NodesAt.fr0 {w w1 : World} {v : Value} {ns : List Nd} (h : NodesAt w v ns) (hf : Fr [] w w1) : NodesAt w1 v ns := ⟨h.row.fr0 hf, fun n hn => (h.nx n hn).fr0 hf⟩
theorem NodesAt.cell {w : World} {v : Value} {ns : List Nd} (h : NodesAt w v ns) {k : Nat} (hk : k < ns.length) : ∃ b off c, v = .slice (some ⟨b, off, none⟩) ns.length c ∧ b < w.heap.size ∧
    w.cell? ⟨b, off + k * 3, none⟩ = some (.int .i64 ns[k].at_.1) ∧ w.cell? ⟨b, off + k * 3 + 1, none⟩ = some (.int .i64 ns[k].at_.2) ∧ w.cell? ⟨b, off + k * 3 + 2, none⟩ = some (.slice ns[k].na ns[k].next.length ns[k].nc) := by
  obtain ⟨b, off, c, e, hb, hc⟩ := h.row.cell (by omega)
  refine ⟨b, off, c, e, hb, hc (k * 3 + 0) _ (by rw [flat_get ndC 3 (fun _ => rfl) ns k 0 hk (by omega)]; rfl), ?_, ?_⟩
  · rw [Nat.add_assoc]
    exact hc (k * 3 + 1) _ (by rw [flat_get ndC 3 (fun _ => rfl) ns k 1 hk (by omega)]; rfl)
  · rw [Nat.add_assoc]
    exact hc (k * 3 + 2) _ (by rw [flat_get ndC 3 (fun _ => rfl) ns k 2 hk (by omega)]; rfl)

/-- A graph's block, its places, its lists. -/
def GraphIs (w : World) (g : Nat) (l : List Sp) (nx : Dg) : Prop :=
  ∃ sv nv rows, w.heap[g]? = some (.cells #[sv, nv] tG (0, 0)) ∧ SpotsAt w sv l ∧ SlAt w nv 1 nx.length rows ∧ ∀ k (hk : k < nx.length), ∃ v, rows[k]? = some v ∧ NumsAt w v nx[k]
theorem GraphIs.fr0 {w w1 : World} {g : Nat} {l : List Sp} {nx : Dg} (h : GraphIs w g l nx) (hf : Fr [] w w1) : GraphIs w1 g l nx := by
  obtain ⟨sv, nv, rows, h1, h2, h3, h4⟩ := h
  exact ⟨sv, nv, rows, hf.heap h1 (by simp), h2.fr0 hf, h3.fr0 hf, fun k hk => by obtain ⟨v, e, hv⟩ := h4 k hk; exact ⟨v, e, hv.fr0 hf⟩⟩
/-- What made leaves. -/
def MadePost (ns : List Nd) (w : World) (e : Ending) (w1 : World) : Prop :=
  Fr [] w w1 ∧ ((madeE ns ≠ 0 ∧ e = .returned (.tuple #[.pointer none, .int .i64 (madeE ns)])) ∨ (madeE ns = 0 ∧ ∃ g, e = .returned (.tuple #[.pointer (some ⟨g, 0, none⟩), .int .i64 0]) ∧ GraphIs w1 g (gSp ns) (gNx ns)))
theorem MadePost.no {ns : List Nd} {w w1 : World} {E : Int} (hf : Fr [] w w1) (hE : madeE ns = E) (h0 : E ≠ 0) : MadePost ns w (.returned (.tuple #[.pointer none, .int .i64 E])) w1 := by
  subst hE
  exact ⟨hf, .inl ⟨h0, rfl⟩⟩
theorem own_form {w : World} {B : Nat} {e : TypeId} {size n : Nat} {v : Value} {xs : List Value} (h : w.ownsRow B e size v n xs) : ∃ q k c, v = .slice q k c := by
  rcases h.2 with ⟨e, _⟩ | ⟨_, _, _, e, _⟩
  · exact ⟨_, _, _, e⟩
  · exact ⟨_, _, _, e⟩
theorem own_sl {w : World} {B : Nat} {e : TypeId} {size n : Nat} {v : Value} {xs : List Value} (h : w.ownsRow B e size v n xs) : SlAt w v size n xs := by
  rcases h.2 with ⟨rfl, h0⟩ | ⟨g, cap, cur, rfl, hb, hg, h1, h2, h3, h4⟩
  · subst h0
    exact ⟨h.1, ⟨_, _, rfl, by omega, by omega⟩, by omega⟩
  · exact ⟨h.1, ⟨_, _, rfl, h1, by unfold maxLen at h2; omega⟩, fun _ => ⟨g, 0, cap, rfl, lt_of hg, fun j x hx => by rw [Nat.zero_add]; exact take_cells hg h4 j x hx⟩⟩
theorem spots_cell {w : World} {v : Value} {l : List Sp} (h : SpotsAt w v l) {k : Nat} (hk : k < l.length) : ∃ b off c, v = .slice (some ⟨b, off, none⟩) l.length c ∧ b < w.heap.size ∧ w.cell? ⟨b, off + k * 2, none⟩ = some (.int .i64 l[k].1) ∧ w.cell? ⟨b, off + k * 2 + 1, none⟩ = some (.int .i64 l[k].2) := by
  obtain ⟨b, off, c, e, hb, hc⟩ := h.cell (by omega)
  refine ⟨b, off, c, e, hb, hc (k * 2 + 0) _ (by rw [flat_get spC 2 (fun _ => rfl) l k 0 hk (by omega)]; rfl), ?_⟩
  rw [Nat.add_assoc]
  exact hc (k * 2 + 1) _ (by rw [flat_get spC 2 (fun _ => rfl) l k 1 hk (by omega)]; rfl)
theorem zeroInt2 (w : World) : (zeroValue 3).run Tryz.prog w = .ok (.int .i64 0) w := by kernel_rfl
/-- The lists when the first k nodes are done. -/
def RowsAt (ns : List Nd) (NX k : Nat) (w : World) : Prop := ∃ rows : List Value, rows.length = ns.length ∧ w.heap[NX]? = some (.cells rows.toArray 47 (0, 0)) ∧ ∀ j, j < ns.length → ∃ q c, rows[j]? = some (.slice q (doneAt ns k j).length c) ∧ NumsAt w (.slice q (doneAt ns k j).length c) (doneAt ns k j) ∧ ∀ b off, q = some ⟨b, off, none⟩ → NX < b
theorem RowsAt.start {ns : List Nd} {NX : Nat} {w : World} (h : w.heap[NX]? = some (.cells (Array.replicate ns.length (.slice none 0 0)) 47 (0, 0))) : RowsAt ns NX 0 w := by
  refine ⟨List.replicate ns.length (.slice none 0 0), by simp, by rw [h]; simp, fun j hj => ?_⟩
  have e : doneAt ns 0 j = [] := by unfold doneAt; simp [atsN]
  rw [e]
  exact ⟨none, 0, by simp [hj], SlAt.nil _ _, by simp⟩
theorem RowsAt.fr {ns : List Nd} {NX k : Nat} {w w1 : World} (h : RowsAt ns NX k w) (hf : Fr [] w w1) : RowsAt ns NX k w1 := by
  obtain ⟨rows, h1, h2, h3⟩ := h
  exact ⟨rows, h1, hf.heap h2 (by simp), fun j hj => by obtain ⟨q, c, e, hn, hb⟩ := h3 j hj; exact ⟨q, c, e, hn.fr0 hf, hb⟩⟩
theorem RowsAt.put {ns : List Nd} {NX k ix : Nat} {w : World} {q : Option Addr} {c : Nat} {m : List Nat} (h : RowsAt ns NX k w) (hix : ix < ns.length) (hd : ∀ j, j < ns.length → doneAt ns (k + 1) j = if j = ix then m else doneAt ns k j) (hv : NumsAt w (.slice q m.length c) m)
    (hb : ∀ b off, q = some ⟨b, off, none⟩ → NX < b) : RowsAt ns NX (k + 1) (w.setCell ⟨NX, ix, none⟩ (.slice q m.length c)) := by
  obtain ⟨rows, h1, h2, h3⟩ := h
  have hF : Fr [NX] w (w.setCell ⟨NX, ix, none⟩ (.slice q m.length c)) := (Fr.refl [NX] w).setCell (.inl (by simp)) _
  have keep : ∀ {q' c' m'}, NumsAt w (.slice q' (List.length m') c') m' → (∀ b off, q' = some ⟨b, off, none⟩ → NX < b) → NumsAt (w.setCell ⟨NX, ix, none⟩ (.slice q m.length c)) (.slice q' m'.length c') m' := fun hn hb' => SlAt.fr hn hF (by
    intro b off c e
    have := hb' b off (by cases e; rfl)
    simp
    omega)
  refine ⟨rows.set ix (.slice q m.length c), by simp [h1], ?_, fun j hj => ?_⟩
  · rw [set_of h2]
    simp
  · rw [hd j hj]
    by_cases e : j = ix
    · subst e
      rw [if_pos rfl]
      exact ⟨q, c, by simp [h1, hj], keep hv hb, hb⟩
    · rw [if_neg e]
      obtain ⟨q', c', e', hn, hb'⟩ := h3 j hj
      exact ⟨q', c', by rw [List.getElem?_set_ne (Ne.symm e)]; exact e', keep hn hb', hb'⟩
theorem madeE1 {ns : List Nd} (h2 : ¬(65536 < ns.length ∨ 1048576 < tot ns)) (hb : ns.any badN = false) (hn : ¬ (ns.map (·.at_)).Nodup) : madeE ns = 1 := by
  unfold madeE
  rw [if_neg h2, if_neg (by rw [hb]; decide), if_pos hn]
theorem madeE0 {ns : List Nd} (h2 : ¬(65536 < ns.length ∨ 1048576 < tot ns)) (hb : ns.any badN = false) (hn : (ns.map (·.at_)).Nodup) : madeE ns = 0 := by
  unfold madeE
  rw [if_neg h2, if_neg (by rw [hb]; decide), if_neg (fun h => h hn)]
theorem badN_false {n : Nd} (h : badN n = false) : mayS n.at_.1 n.at_.2 = true ∧ (n.next.any fun s => !mayS s.1 s.2) = false := by
  unfold badN at h
  rw [Bool.or_eq_false_iff] at h
  exact ⟨by simpa using h.1, h.2⟩

set_option maxRecDepth 100000 in
set_option maxHeartbeats 6400000 in
theorem madeC (v : Value) (ns : List Nd) (w : World) (hv : NodesAt w v ns) (hB : ns.length + tot ns ≤ 4194304) : Calls Tryz.prog 22 #[v] w (MadePost ns w) := by
  have HV := Lib.hid hv
  obtain ⟨q, c, rfl, hc1, hc2⟩ := hv.row.form
  have hlb : ns.length ≤ 4194304 := by omega
  clear hv
  go_enter Tryz.func22, Tryz.ntmps22
  go_upto_block 0 with fail
  go_cut [4] (fun s4 wx => ∃ a : Nat, s4 = .int .i64 (a : Int) ∧ (1048576 < a ↔ 1048576 < tot ns) ∧ a ≤ 4194304 ∧ Fr [] w wx)
  case first =>
    go_wp2_with fail
    go_loopw [4, 6, 24] (fun s _ i wr => ∃ k : Nat, i = .int .i64 (k : Int) ∧ k ≤ ns.length ∧ s = .int .i64 (tot (ns.take k) : Int) ∧ tot (ns.take k) ≤ 1048576 ∧ Fr [] w wr) (fun _ _ i _ => ns.length - (intOf i).toNat)
    case atStart => exact ⟨0, rfl, by omega, by simp [tot], by simp [tot], Fr.refl _ _⟩
    case round =>
      obtain ⟨k, rfl, hk, rfl, hb, hf⟩ := hrel
      by_cases hlt : k < ns.length
      · obtain ⟨b, off, _, e, hbl, c0, c1, c2⟩ := (HV.out.fr0 hf).cell hlt
        cases e
        have hk1 : (k : Int) < (ns.length : Int) := by omega
        have ht := tot_take ns (k + 1)
        have hs : tot (ns.take (k + 1)) = tot (ns.take k) + ns[k].next.length := by rw [List.take_succ_eq_append_getElem hlt, tot_snoc]
        have HS := Lib.hid hs
        generalize ns[k] = n at *
        generalize tot (ns.take k) = a at *
        have hnl : n.next.length ≤ 4194304 := by have := HS.out; omega
        have hw1 : IntKind.i64.wrap ((a : Int) + (n.next.length : Int)) = (a : Int) + (n.next.length : Int) := by rw [IntKind.wrap_i64]; omega
        by_cases hbig : (1048576 : Int) < (a : Int) + (n.next.length : Int)
        · go_wp2
          go_meet
          refine ⟨a + n.next.length, by simp, ?_, ?_, hf.alloc _⟩
          · have := HS.out; constructor <;> intro <;> omega
          · have := HS.out; omega
        · go_wp2
          go_roundw
          case rel => exact ⟨k + 1, by go_num, by omega, by rw [HS.out]; simp, by rw [HS.out]; omega, hf.alloc _⟩
          case measure => simp [intOf]; omega
      · obtain rfl : k = ns.length := by omega
        rw [List.take_length] at *
        go_wp2
        go_meet
        exact ⟨_, rfl, Iff.rfl, by omega, hf⟩
  case rest =>
    obtain ⟨a, rfl, ha, ha2, hf0⟩ := hcut
    by_cases h2 : 65536 < ns.length ∨ 1048576 < tot ns
    · have HE : Hid (madeE ns = 2) := by show _ = _; unfold madeE; rw [if_pos h2]
      by_cases h65 : (65536 : Int) < (ns.length : Int)
      · go_wp2
        go_ret2
        exact MadePost.no hf0 HE.out (by decide)
      · have hab : (1048576 : Int) < (a : Int) := by omega
        go_wp2
        go_ret2
        exact MadePost.no hf0 HE.out (by decide)
    · have h65 : ¬ (65536 : Int) < (ns.length : Int) := by omega
      have hab : ¬ (1048576 : Int) < (a : Int) := by omega
      have H2 := Lib.hid h2
      clear h2 ha ha2
      obtain ⟨i0, hi0, hz0, hz1, hz2⟩ := info_parts infoSpot
      go_upto_block 2 with fail
      have hG := heap_new wc (.cells #[.slice none 0 0, .slice none 0 0] tG)
      have hW : Fr [] w (wc.alloc (.cells #[.slice none 0 0, .slice none 0 0] tG)) := hf0.alloc _
      have hGW : (wc.alloc (.cells #[.slice none 0 0, .slice none 0 0] tG)).heap.size = wc.heap.size + 1 := by simp
      have hwG := hf0.size
      generalize wc.alloc (.cells #[.slice none 0 0, .slice none 0 0] tG) = W at *
      generalize wc.heap.size = G at *
      have HW := Lib.hid hW
      clear hW hf0
      go_cut [7] (fun s7 wx => s7 = .pointer (some ⟨G, 0, none⟩) ∧ ns.any badN = false ∧ Fr [G] W wx ∧ ∃ sv, wx.heap[G]? = some (.cells #[sv, .slice none 0 0] tG (0, 0)) ∧ wx.ownsRow (G + 1) tSp 2 sv ns.length ((atsN ns).flatMap spC))
      case first =>
        go_wp2_with fail
        go_loopw [9, 47] (fun _ i wr => ∃ k : Nat, i = .int .i64 (k : Int) ∧ k ≤ ns.length ∧ (ns.take k).any badN = false ∧ Fr [G] W wr ∧ ∃ sv, wr.heap[G]? = some (.cells #[sv, .slice none 0 0] tG (0, 0)) ∧ wr.ownsRow (G + 1) tSp 2 sv k ((atsN (ns.take k)).flatMap spC)) (fun _ i _ => ns.length - (intOf i).toNat)
        case atStart => exact ⟨0, rfl, by omega, by simp, Fr.refl _ _, _, hG, World.ownsRow_nil _ _ _ _⟩
        case round =>
          obtain ⟨k, rfl, hk, hbad, hf, sv, hGr, hown⟩ := hrel
          have HBAD := Lib.hid hbad
          clear hbad
          by_cases hlt : k < ns.length
          · have HFW := Lib.hid (HW.out.trans hf (fun x hx => by rw [List.mem_singleton] at hx; exact .inr (by omega)))
            obtain ⟨b, off, _, e, hbl, c0, c1, c2⟩ := (HV.out.fr0 HFW.out).cell hlt
            cases e
            have hk1 : (k : Int) < (ns.length : Int) := by omega
            have hnx := Lib.hid ((HV.out.fr0 HFW.out).nx ns[k] (List.getElem_mem hlt))
            have ht := Lib.hid (List.take_succ_eq_append_getElem hlt)
            have hin := Lib.hid (List.getElem_mem hlt)
            generalize ns[k] = n at *
            obtain ⟨q1, n1, p1, rfl⟩ := own_form hown
            have HG := Lib.hid hGr
            have HOWN := Lib.hid hown
            have hglt := lt_of hGr
            clear hGr hown
            go_wp2_with fail
            refine (spotMay _ _ _).mono ?_
            rintro e w3 ⟨rfl, h3⟩
            have h4 : Fr [] wr w3 := ((Fr.refl [] wr).alloc _).trans0 h3
            have hND := h3.heap (heap_new wr (.cells #[.int .i64 n.at_.1, .int .i64 n.at_.2, .slice n.na n.next.length n.nc] tNd)) (by simp)
            have hGr := h4.heap HG.out (by simp)
            have hown := owns_fr HOWN.out h4 (by simp)
            have hwl := hf.size
            generalize wr.alloc (.cells #[.int .i64 n.at_.1, .int .i64 n.at_.2, .slice n.na n.next.length n.nc] tNd) = wa at *
            by_cases hbn : badN n = true
            · have HE : Hid (madeE ns = 10) := by
                show _ = _
                unfold madeE
                rw [if_neg H2.out, if_pos (List.any_eq_true.2 ⟨n, hin.out, hbn⟩)]
              cases hm : mayS n.at_.1 n.at_.2 with
              | false =>
                go_wp2
                go_ret2
                exact MadePost.no (HFW.out.trans0 h4) HE.out (by decide)
              | true =>
                have hbb : (n.next.any fun s => !mayS s.1 s.2) = true := by simpa [badN, hm] using hbn
                clear hbn hm
                have hc2 := cell_of hND 2
                go_wp2_with fail
                refine (hasBad _ _ _ (hnx.out.fr0 h4)).mono ?_
                rintro e w5 ⟨rfl, h5⟩
                rw [hbb]
                go_wp2
                go_ret2
                exact MadePost.no (HFW.out.trans0 (h4.trans0 h5)) HE.out (by decide)
            · obtain ⟨hm, hbb⟩ := badN_false (by simpa using hbn)
              have HNB := Lib.hid hbn
              clear hbn
              rw [hm]
              clear hm
              have hc2 := cell_of hND 2
              go_wp2_with fail
              refine (hasBad _ _ _ (hnx.out.fr0 h4)).mono ?_
              rintro e w5 ⟨rfl, h5⟩
              rw [hbb]
              have h6 := h4.trans0 h5
              have hND5 := h5.heap hND (by simp)
              have hGr5 := h5.heap hGr (by simp)
              have hown5 := owns_fr hown h5 (by simp)
              clear hND hGr hown hc2 hbb
              have hgc0 := cell_of hGr5 0
              have hgc1 := cell_of hGr5 1
              have hgf := free_of hGr5 0
              have hnd0 := cell_of hND5 0
              have hnd1 := cell_of hND5 1
              have hgl5 := lt_of hGr5
              have hndl := lt_of hND5
              have hGo : some G ≠ (Value.slice q1 n1 p1).ownBlock := fun e => by have := (hown5.lt G e.symm).1; omega
              have hw3l := h3.size
              have hw5l := h5.size
              go_wp2_with fail
              go_region_law (first | (refine step_append_lies _ (by rfl) _ _ _ (by rfl) (G + 1) tSp i0 _ 2 16 Tryz.underlying28 hi0 hz0 hz1 hz2 rfl (by omega) (.slice q1 n1 p1) k ((atsN (ns.take k)).flatMap spC) (by rfl) ((hown5.alloc _).drew) ⟨w5.heap.size, 0, none⟩ 1 1 (spC n.at_) (by rfl) (by rfl) (World.news_of_block (cs := (spC n.at_).toArray) (t := tSp) (fr := (0, 0)) (heap_alloc_new w5 _)) (by simp [Value.oneCell']) (by omega) (by unfold maxLen; omega) (by omega) (by simp; omega) (w5.heap.size + 1) (by simp) ?_; intro gg cap w7 hown7 hgrow hat hlt7; have hG7 := (hgrow.block G (by simp; omega) hGo).trans ((((Fr.refl [] w5).alloc _).drew).heap hGr5 (by simp)); have hG7c := cell_of hG7 0; have hG7f := free_of hG7 0))
              all_goals
                have hfin : Fr [G] W w7 := ((hf.trans0 h6).alloc _).drew.grown hgrow (fun g hg => .inr (by have := (hown5.lt g hg).1; omega))
                go_wp2_with fail
                go_roundw
                case rel =>
                  refine ⟨k + 1, by go_num, by omega, ?_, hfin.setCell (.inl (by simp)) _, _, set_of hG7 0 _, ?_⟩
                  · rw [ht.out, List.any_append, HBAD.out]
                    simpa using HNB.out
                  · rw [ht.out]
                    have e : (atsN (ns.take k ++ [n])).flatMap spC = (atsN (ns.take k)).flatMap spC ++ spC n.at_ := by simp [atsN]
                    rw [e]
                    exact owns_fr hown7 ((Fr.refl [G] w7).setCell (.inl (by simp)) _) (fun g hg => by simp; have := (hown7.lt g hg).1; omega)
                case measure => simp [intOf]; omega
          · obtain rfl : k = ns.length := by omega
            rw [List.take_length] at *
            go_wp2
            go_meet
            exact ⟨rfl, HBAD.out, hf, sv, hGr, hown⟩
      case rest =>
        obtain ⟨rfl, hbad, hf, sv, hGr, hown⟩ := hcut
        obtain ⟨q1, n1, p1, rfl⟩ := own_form hown
        have hlen : (atsN ns).length = ns.length := by simp [atsN]
        rw [← hlen] at hown
        have hgc0 := cell_of hGr 0
        have hglt := lt_of hGr
        have HGR := Lib.hid hGr
        have HOWN := Lib.hid hown
        have HBAD := Lib.hid hbad
        have HFW := Lib.hid (HW.out.trans hf (fun x hx => by rw [List.mem_singleton] at hx; exact .inr (by omega)))
        clear hGr hown hbad
        go_wp2_with fail
        refine (sortRowS _ _ (by omega) HOWN.out).mono ?_
        rintro e w3 ⟨rfl, hown3, hgr3⟩
        have hGo : some G ≠ (Value.slice q1 n1 p1).ownBlock := fun e => by have := (HOWN.out.lt G e.symm).1; omega
        have hG3 := (hgr3.block G hglt hGo).trans HGR.out
        have h03 := HFW.out.grown hgr3 (fun g hg => .inr (by have := (HOWN.out.lt g hg).1; omega))
        have hown4 : w3.ownsRow (G + 1) tSp 2 (.slice q1 n1 p1) (gSp ns).length ((gSp ns).flatMap spC) := by rw [gSp_len, ← hlen]; exact hown3
        have hs3 := own_sl hown4
        have hll : (gSp ns).length = ns.length := gSp_len ns
        obtain ⟨sq, sc, hse, hsc1, hsc2⟩ := hs3.form
        cases hse
        have HQ : Hid (∀ b off, q1 = some ⟨b, off, none⟩ → G + 1 ≤ b ∧ b < w3.heap.size) := by
          intro b off e
          subst e
          exact hown4.lt b rfl
        have HG3 := Lib.hid hG3
        have HS3 := Lib.hid hs3
        have HW3 := Lib.hid h03
        have hG3l := lt_of hG3
        have hc30 := cell_of hG3 0
        clear hG3 hs3 h03 hown3 hown4 hgr3 hgc0 hGo
        clear hglt HOWN HGR HFW hf
        have hmm := @run_makeMap Tryz.prog
        go_upto_block 4 with fail
        clear hmm
        have hm0 := MapIs.made w3
        have hW4 : Fr [] w3 (w3.alloc (.map #[] 0)) := (Fr.refl [] w3).alloc _
        have hw3s := HW3.out.size
        generalize w3.alloc (.map #[] 0) = W4 at *
        generalize hM : w3.heap.size = M at *
        have HW4 := Lib.hid hW4
        have HMM := Lib.hid hM
        clear hW4 hc30 hM
        go_cut [10] (fun s10 wx => s10 = .map (some M) ∧ (gSp ns).Nodup ∧ Fr [] w3 wx ∧ ∃ lst, MapIs wx M lst ∧ NumMap lst (gSp ns) (gSp ns).length)
        case first =>
          go_wp2_with fail
          go_loopw [11, 12, 13, 14, 83] (fun _ _ _ _ i wr => ∃ k : Nat, i = .int .i64 (k : Int) ∧ k ≤ (gSp ns).length ∧ ((gSp ns).take k).Nodup ∧ Fr [] w3 wr ∧ ∃ lst, MapIs wr M lst ∧ NumMap lst (gSp ns) k) (fun _ _ _ _ i _ => (gSp ns).length - (intOf i).toNat)
          case atStart => exact ⟨0, rfl, by omega, by simp, HW4.out, [], hm0, NumMap.nil _⟩
          case round =>
            obtain ⟨k, rfl, hk, hnd, hf, lst, hmap, hnm⟩ := hrel
            by_cases hlt : k < (gSp ns).length
            · obtain ⟨b, off, _, e, hbl, c0, c1⟩ := spots_cell (HS3.out.fr0 hf) hlt
              cases e
              have hk1 : (k : Int) < ((gSp ns).length : Int) := by omega
              obtain ⟨es, clock, hme, hpe, hst, hndm⟩ := hmap
              have hMl := lt_of hme
              have hlook : ∀ W : World, ob W M = some (.map es clock) → (Instr.lookup 95 (.map (some M)) (spV (gSp ns)[k]) true).run Tryz.prog W = .ok (.tuple #[(if (gSp ns)[k] ∈ (gSp ns).take k then .int .i64 ((gSp ns).idxOf (gSp ns)[k] : Int) else .int .i64 0), .bool (decide ((gSp ns)[k] ∈ (gSp ns).take k))]) W := by
                intro W hW
                rw [run_look (P := Tryz.prog) spotKey Tryz.underlying95 zeroInt hW hpe _ true, hnm]
                by_cases hx : (gSp ns)[k] ∈ (gSp ns).take k <;> simp [hx]
              have hput := fun (W : World) (hW : ob W M = some (.map es clock)) => run_put (P := Tryz.prog) spotKey Tryz.underlying95 hW hpe (gSp ns)[k] (.int .i64 (k : Int))
              have HNM := Lib.hid hnm
              have HNDK := Lib.hid hnd
              clear hnm hnd
              have hob : ob (wr.alloc (.cells #[.int .i64 (gSp ns)[k].1, .int .i64 (gSp ns)[k].2] tSp)) M = some (.map es clock) := ((Fr.refl [] wr).alloc _).heap hme (by simp)
              have hob2 := hob
              by_cases hx : (gSp ns)[k] ∈ (gSp ns).take k
              · have HE : Hid (madeE ns = 1) := madeE1 H2.out HBAD.out (twice_no hlt hx)
                simp only [if_pos hx, decide_eq_true hx] at hlook
                clear hx hput
                have hlk := hlook _ hob
                clear hlook
                generalize (gSp ns)[k] = s at *
                generalize (gSp ns).idxOf s = ix at *
                go_wp2
                go_ret2
                exact MadePost.no (HW3.out.trans0 (hf.alloc _)) HE.out (by decide)
              · have HX := Lib.hid hx
                simp only [if_neg hx, decide_eq_false hx] at hlook
                clear hx
                have hlk := hlook _ hob
                have hpt := hput _ hob
                clear hlook hput
                go_wp2
                go_roundw
                case rel => exact ⟨k + 1, by go_num, by omega, nodup_snoc hlt HNDK.out HX.out, (hf.alloc _).setBlock hob (.inr (by have := HMM.out; omega)) _, _, MapIs.put hob hpe hst hndm _ _, HNM.out.put hlt rfl HX.out⟩
                case measure => simp [intOf]; omega
            · obtain rfl : k = (gSp ns).length := by omega
              rw [List.take_length] at hnd
              go_wp2
              go_meet
              exact ⟨rfl, hnd, hf, lst, hmap, hnm⟩
        case rest =>
          obtain ⟨rfl, hnd, hf, lst, hmap, hnm⟩ := hcut
          have HND := Lib.hid ((gSp_nodup ns).1 hnd)
          have HE : Hid (madeE ns = 0) := madeE0 H2.out HBAD.out HND.out
          have HNL := Lib.hid hnd
          have HNM := Lib.hid hnm
          clear hnd hnm hm0 HW4
          have hG5 := hf.heap HG3.out (by simp)
          have hGl := lt_of hG5
          have hc50 := cell_of hG5 0
          have hc51 := cell_of hG5 1
          have hf51 := free_of hG5 1
          have HS5 := Lib.hid (HS3.out.fr0 hf)
          have HW5 := Lib.hid (HW3.out.trans0 hf)
          clear HS3 HG3 HW3 HMM hf
          have hmk := mkSS ns.length (by omega)
          have hMl := hmap.lt
          go_upto_block 6 with fail
          clear hmk hc50 hc51 hf51
          obtain ⟨i1, hi1, hy0, hy1, hy2⟩ := info_parts infoInt
          have hGr6 := hp_old (set_of hG5 1 (.slice (some ⟨wc.heap.size, 0, none⟩) ns.length ns.length)) (o := (.cells (Array.replicate ns.length (.slice none 0 0)) 47))
          have hF6 : Fr [G] wc ((wc.setCell ⟨G, 1, none⟩ (.slice (some ⟨wc.heap.size, 0, none⟩) ns.length ns.length)).alloc (.cells (Array.replicate ns.length (.slice none 0 0)) 47)) := ((Fr.refl [G] wc).setCell (.inl (by simp)) _).alloc _
          have hR6 : RowsAt ns wc.heap.size 0 ((wc.setCell ⟨G, 1, none⟩ (.slice (some ⟨wc.heap.size, 0, none⟩) ns.length ns.length)).alloc (.cells (Array.replicate ns.length (.slice none 0 0)) 47)) := RowsAt.start (hp_new (by simp))
          generalize (wc.setCell ⟨G, 1, none⟩ (.slice (some ⟨wc.heap.size, 0, none⟩) ns.length ns.length)).alloc (.cells (Array.replicate ns.length (.slice none 0 0)) 47) = W6 at *
          generalize wc.heap.size = NX at *
          have HF0 := Lib.hid (HW5.out.trans hF6 (fun x hx => by rw [List.mem_singleton] at hx; exact .inr (by omega)))
          have hm6 : MapIs W6 M lst := hmap.fr hF6 (by simp; omega)
          have HS6 := Lib.hid (HS5.out.fr hF6 (by intro b off c e; have := (HQ.out b off (by cases e; rfl)).1; simp; omega))
          have HGR6 : Hid (W6.heap[G]? = some (.cells #[.slice q1 (gSp ns).length p1, .slice (some ⟨NX, 0, none⟩) ns.length ns.length] tG (0, 0))) := hGr6
          have HT : Hid (tot ns ≤ 1048576) := by have := H2.out; show _ ≤ _; omega
          clear hmap hF6 HS5 HW5 hGr6 hG5 hGl
          go_wp2_with fail
          go_loopw [16, 17, 19, 20, 21, 107] (fun _ _ _ _ _ i wr => ∃ k : Nat, i = .int .i64 (k : Int) ∧ k ≤ ns.length ∧ Fr [NX] W6 wr ∧ RowsAt ns NX k wr) (fun _ _ _ _ _ i _ => ns.length - (intOf i).toNat)
          case atStart => exact ⟨0, rfl, by omega, Fr.refl _ _, hR6⟩
          case round =>
            obtain ⟨k, rfl, hk, hf, hR⟩ := hrel
            have hnxG : NX ∉ ([] : List Nat) := by simp
            have HFW := Lib.hid (HF0.out.trans hf (fun x hx => by rw [List.mem_singleton] at hx; exact .inr (by omega)))
            have HGR := Lib.hid (hf.heap HGR6.out (by simp; omega))
            have HMR := Lib.hid (hm6.fr hf (by simp; omega))
            by_cases hlt : k < ns.length
            · obtain ⟨b, off, _, e, hbl, c0, c1, c2⟩ := (HV.out.fr0 HFW.out).cell hlt
              cases e
              have hk1 : (k : Int) < (ns.length : Int) := by omega
              have hnx := Lib.hid ((HV.out.fr0 HFW.out).nx ns[k] (List.getElem_mem hlt))
              have HDS : Hid (∀ j, j < ns.length → doneAt ns (k + 1) j = if j = (gSp ns).idxOf ns[k].at_ then numsOf (gSp ns) ns[k].next else doneAt ns k j) := fun j hj => doneAt_succ HND.out hlt hj
              have HIN : Hid (ns[k].at_ ∈ gSp ns) := (gSp_mem _ _).2 (List.mem_map.2 ⟨_, List.getElem_mem hlt, rfl⟩)
              have hnl : ns[k].next.length ≤ 1048576 := by
                have h1 := tot_take ns (k + 1)
                rw [List.take_succ_eq_append_getElem hlt, tot_snoc] at h1
                have := HT.out
                omega
              generalize ns[k] = n at *
              go_upto_block 8 with fail
              have hwa : Fr [] wr (wr.alloc (.cells #[.int .i64 n.at_.1, .int .i64 n.at_.2, .slice n.na n.next.length n.nc] tNd)) := (Fr.refl [] wr).alloc _
              have hND := heap_new wr (.cells #[.int .i64 n.at_.1, .int .i64 n.at_.2, .slice n.na n.next.length n.nc] tNd)
              generalize wr.alloc (.cells #[.int .i64 n.at_.1, .int .i64 n.at_.2, .slice n.na n.next.length n.nc] tNd) = wa at *
              generalize hPD : wr.heap.size = PD at *
              have HRA := Lib.hid (hR.fr hwa)
              have HSN := Lib.hid (hnx.out.fr0 hwa)
              have HMA := Lib.hid (HMR.out.fr hwa (by simp))
              clear hR hnx
              go_cut [17] (fun s wx => Fr [] wa wx ∧ wx.ownsRow wa.heap.size 3 1 s (hits (gSp ns) n.next).length ((hits (gSp ns) n.next).flatMap nC))
              case first =>
                go_wp2_with fail
                go_loopw [17, 19, 20, 21, 114] (fun s _ _ _ i wx => ∃ j : Nat, i = .int .i64 (j : Int) ∧ j ≤ n.next.length ∧ Fr [] wa wx ∧ wx.ownsRow wa.heap.size 3 1 s (hits (gSp ns) (n.next.take j)).length ((hits (gSp ns) (n.next.take j)).flatMap nC)) (fun _ _ _ _ i _ => n.next.length - (intOf i).toNat)
                case atStart => exact ⟨0, rfl, by omega, Fr.refl _ _, by simpa [hits] using World.ownsRow_nil _ _ _ _⟩
                case round =>
                  obtain ⟨j, rfl, hj, hfx, hown⟩ := hrel
                  by_cases hjl : j < n.next.length
                  · obtain ⟨b2, off2, c2', e2, hbl2, d0, d1⟩ := spots_cell (HSN.out.fr0 hfx) hjl
                    have e21 : n.na = some ⟨b2, off2, none⟩ := by injection e2
                    rw [e21]
                    have hj1 : (j : Int) < (n.next.length : Int) := by omega
                    have HTK : Hid (hits (gSp ns) (n.next.take (j + 1)) = hits (gSp ns) (n.next.take j) ++ (numL (gSp ns) n.next[j]).toList) := by
                      show _ = _
                      rw [List.take_succ_eq_append_getElem hjl, hits_snoc]
                    have hhl : (hits (gSp ns) (n.next.take j)).length ≤ j := by
                      have := hits_len (gSp ns) (n.next.take j)
                      rw [List.length_take] at this
                      omega
                    obtain ⟨es, clock, hme, hpe, hst, hndm⟩ := HMA.out.fr hfx (by simp)
                    have hob := ((Fr.refl [] wr).alloc (.cells #[.int .i64 n.next[j].1, .int .i64 n.next[j].2] tSp)).heap hme (by simp)
                    have hlk := run_look (P := Tryz.prog) spotKey Tryz.underlying95 zeroInt hob hpe n.next[j] true
                    rw [HNM.out.full] at hlk
                    have hwal := hfx.size
                    clear hme hpe hst hndm hob
                    generalize n.next[j] = s at *
                    generalize hits (gSp ns) (n.next.take j) = zs at *
                    cases hN : numL (gSp ns) s with
                    | none =>
                      rw [hN] at hlk HTK
                      simp only [Option.map_none, Option.getD_none, Option.isSome_none, if_true] at hlk
                      clear hN
                      go_wp2
                      go_roundw
                      case rel => exact ⟨j + 1, by go_num, by omega, hfx.alloc _, by rw [HTK.out]; simpa using owns_fr hown ((Fr.refl [] wr).alloc _) (by simp)⟩
                      case measure => simp [intOf]; omega
                    | some ix =>
                      rw [hN] at hlk HTK
                      simp only [Option.map_some, Option.getD_some, Option.isSome_some, if_true] at hlk
                      clear hN
                      have hown2 := (hown.alloc (.cells #[.int .i64 s.1, .int .i64 s.2] tSp)).alloc (.cells #[.int .i64 (ix : Int)] 3)
                      go_wp2_with (at_builtin; refine wpList_append_own _ rfl _ _ 47 rfl wa.heap.size 3 i1 _ 1 8 Tryz.underlying47 hi1 hy0 hy1 hy2 rfl (by decide) _ _ _ rfl hown2 ⟨wr.heap.size + 1, 0, none⟩ 1 1 [.int .i64 (ix : Int)] rfl rfl (by have := news_of (wr.alloc (.cells #[.int .i64 s.1, .int .i64 s.2] tSp)) [.int .i64 (ix : Int)] 3; simpa using this) (one_mem rfl) (by unfold maxLen; omega) (by omega) (by simp; omega) ?_; intro v' w9 hown9 hgrow _)
                      go_roundw
                      case rel => exact ⟨j + 1, by go_num, by omega, ((hfx.alloc _).alloc _).grown hgrow (fun g hg => .inr (hown2.lt g hg).1), by rw [HTK.out]; simpa using hown9⟩
                      case measure => simp [intOf]; omega
                  · obtain rfl : j = n.next.length := by omega
                    rw [List.take_length] at hown
                    go_wp2
                    go_meet
                    exact ⟨hfx, hown⟩
              case rest =>
                obtain ⟨hfx, hown⟩ := hcut
                obtain ⟨q2, n2, p2, rfl⟩ := own_form hown
                have hzl := hits_len (gSp ns) n.next
                have HNU : Hid (cmpct (sortN (hits (gSp ns) n.next)) = numsOf (gSp ns) n.next) := hits_nums HNL.out
                have hix := List.idxOf_lt_length_of_mem HIN.out
                rw [hll] at hix
                generalize hits (gSp ns) n.next = zs at *
                go_wp2_with fail
                refine (sortI zs _ (by omega) hown).mono ?_
                rintro e w8 ⟨rfl, hown8, hgr8⟩
                rw [← sortN_len zs] at hown8
                have h8 := hfx.grown hgr8 (fun g hg => .inr (hown.lt g hg).1)
                have hG8 := h8.heap (hwa.heap HGR.out (by simp)) (by simp)
                have hD8 := h8.heap hND (by simp)
                obtain ⟨rows, hr1, hr2a, hr3⟩ := HRA.out
                have hr2 := h8.heap hr2a (by simp)
                obtain ⟨es, clock, hme, hpe, hst, hndm⟩ := HMA.out.fr h8 (by simp)
                have hx0 : ∃ v0, rows.toArray[(gSp ns).idxOf n.at_]? = some v0 := ⟨_, by rw [List.getElem?_toArray, List.getElem?_eq_getElem (by rw [hr1]; exact hix)]⟩
                obtain ⟨v0, hv0⟩ := hx0
                have hixI : (((gSp ns).idxOf n.at_ : Nat) : Int) < (ns.length : Int) := by omega
                have hlkN : numL (gSp ns) n.at_ = some ((gSp ns).idxOf n.at_) := by unfold numL; rw [if_pos HIN.out]
                have hlk8 := run_look (P := Tryz.prog) spotKey Tryz.underlying95 zeroInt (w := w8.drew) hme hpe n.at_ false
                rw [HNM.out.full, hlkN] at hlk8
                simp only [Option.map_some, Option.getD_some, Bool.false_eq_true, if_false] at hlk8
                have HLK9 : Hid (∀ w9 : World, Fr [] wa w9 → (Instr.lookup 95 (.map (some M)) (spV n.at_) false).run Tryz.prog w9 = .ok (.int .i64 ((gSp ns).idxOf n.at_ : Int)) w9) := by
                  intro w9 h9
                  obtain ⟨es, clock, hme, hpe, hst, hndm⟩ := HMA.out.fr h9 (by simp)
                  have := run_look (P := Tryz.prog) spotKey Tryz.underlying95 zeroInt hme hpe n.at_ false
                  rw [HNM.out.full, hlkN] at this
                  simpa using this
                have HDS2 : Hid (∀ j, j < ns.length → doneAt ns (k + 1) j = if j = (gSp ns).idxOf n.at_ then cmpct (sortN zs) else doneAt ns k j) := fun j hj => by rw [HNU.out]; exact HDS.out j hj
                clear hlkN hpe hst hndm
                generalize (gSp ns).idxOf n.at_ = ix at *
                have hg1 := cell_of hG8 1
                have hd0 := cell_of hD8 0
                have hd1 := cell_of hD8 1
                have hx8 := (cell_of hr2 ix).trans hv0
                have hxf8 := free_of hr2 ix
                have hDl8 := lt_of hD8
                have hGl8 := lt_of hG8
                have hXl8 := lt_of hr2
                go_wp2_with fail
                go_region_with (first | (go_at_call 44; refine (compactI _ _ (owns_fr hown8 ((Fr.refl [] w8).drew) (by simp))).mono ?_; rintro e w9 ⟨q9, c9, rfl, hown9, hob9, hgr9⟩; have h9 := h8.drew.grown hgr9 (fun g hg => .inr (hown.lt g hg).1); have hlk9 := HLK9.out _ h9; have hg19 := cell_of (h9.heap (hwa.heap HGR.out (by simp)) (by simp)) 1; have hd09 := cell_of (h9.heap hND (by simp)) 0; have hd19 := cell_of (h9.heap hND (by simp)) 1; have hx9 := (cell_of (h9.heap hr2a (by simp)) ix).trans hv0; have hxf9 := free_of (h9.heap hr2a (by simp)) ix))
                all_goals
                  have hRk : RowsAt ns NX k w9 := ⟨rows, hr1, h9.heap hr2a (by simp), fun j hj => by obtain ⟨q, c, e, hn, hb⟩ := hr3 j hj; exact ⟨q, c, e, hn.fr0 h9, hb⟩⟩
                  go_wp2_with fail
                  go_roundw
                  case rel => exact ⟨k + 1, by go_num, by omega, ((hf.trans0 hwa).trans0 h9).setCell (.inl (by simp)) _, hRk.put hix HDS2.out (own_sl hown9) (by intro b off e; subst e; have := (hown9.lt b rfl).1; have := lt_of hr2a; omega)⟩
                  case measure => simp [intOf]; omega
            · obtain rfl : k = ns.length := by omega
              have hrr := hR
              obtain ⟨rows, hr1, hr2, hr3⟩ := hrr
              go_wp2
              go_ret2
              refine ⟨HFW.out, .inr ⟨HE.out, G, rfl, _, _, rows, HGR.out, HS6.out.fr hf ?_, by rw [gNx_len]; exact SlAt.of_block hr2 (by rw [hr1, Nat.mul_one]) (by omega), ?_⟩⟩
              · intro b off c e
                have := (HQ.out b off (by cases e; rfl)).2
                simp
                omega
              · intro j hj
                obtain ⟨q, c, e, hn, _⟩ := hr3 j (by rw [gNx_len] at hj; exact hj)
                rw [doneAt_all hj] at e hn
                exact ⟨_, e, hn⟩
end Go.Proofs.YtdlpbpohbkcafaaGreat
