/-
  Arguments, opened: a slice of nodes.
  quadrillelaw21: light, Room.
  quadrillelaw21.copied.
  quadrillelaw21.kept.
  Arguments, opened: a slice of nodes, and how long its lists may be.
-/
import Derived.Test.YtdlpbpohbkcafaaGreatLaw
import Derived.Test.YtdlpbpohbkcafaaGreatCMade
import Derived.Deep.SlicePairs
import Derived.Lib.SmallJoins
import Derived.Test.YtdlpbpohbkcafaaGreatCUtil
import Derived.Test.YtdlpbpohbkcafaaGreatCTwin
import Derived.SizedLaws
namespace Go.Proofs.YtdlpbpohbkcafaaGreat
section
open Go.ChangeShapes Go.WideShapes Go.ChangeAt Go.RowKit Go.Joins Go.Deep

theorem Tryz.cellsS : Tryz.prog.cellsOf 27 = 2 := by kernel_rfl
theorem Tryz.cellsI : Tryz.prog.cellsOf 3 = 1 := by kernel_rfl
theorem Tryz.cellsN : Tryz.prog.cellsOf tNd = 3 := by kernel_rfl
theorem Tryz.cellsLS : Tryz.prog.cellsOf 28 = 1 := by kernel_rfl
theorem list_of {α : Type} {p : Nat → α → Prop} : ∀ (len : Nat), (∀ i, i < len → ∃ x, p i x) → ∃ xs : List α, xs.length = len ∧ ∀ i (hi : i < xs.length), p i xs[i]
  | 0, _ => ⟨[], rfl, fun i hi => by simp at hi⟩
  | n + 1, h => by
    obtain ⟨xs, hl, hx⟩ := list_of n (fun i hi => h i (by omega))
    obtain ⟨y, hy⟩ := h n (by omega)
    refine ⟨xs ++ [y], by simp [hl], fun i hi => ?_⟩
    simp only [List.length_append, List.length_cons, List.length_nil] at hi
    rw [List.getElem_append]
    split
    · exact hx i _
    · have e : i = n := by omega
      subst e
      simpa using hy

theorem slAt_of {α : Type} {w : World} (f : α → List Value) {size : Nat} (hf : ∀ x, (f x).length = size) (hsz : 0 < size) {a : Addr} {len cap : Nat} (hl : len ≤ cap) (hm : cap ≤ maxLen)
    (h : ∀ i, i < len → ∃ x : α, w.cells? 0 (a.add (i * size)) size = some (f x)) : ∃ xs : List α, SlAt w (.slice (some a) len cap) size xs.length (xs.flatMap f) := by
  obtain ⟨xs, hlen, hx⟩ := list_of len h
  refine ⟨xs, ?_⟩
  subst hlen
  obtain ⟨b, off, spot⟩ := a
  refine ⟨flat_len f size hf xs, ⟨_, _, rfl, hl, by unfold maxLen at hm; omega⟩, fun hpos => ?_⟩
  have key : ∀ i (hi : i < xs.length) j, j < size → w.cell? ((⟨b, off, spot⟩ : Addr).add (i * size + j)) = (f xs[i])[j]? := fun i hi j hj => by
    have := (World.cells?_some (hx i hi)).2.2 j hj
    rwa [add_add] at this
  have hspot : spot = none := by
    have h0 := key 0 hpos 0 hsz
    rw [List.getElem?_eq_getElem (by rw [hf]; exact hsz)] at h0
    simpa [Addr.add] using World.cell?_spot h0
  subst hspot
  have ea : ∀ k, (⟨b, off, none⟩ : Addr).add k = ⟨b, off + k, none⟩ := fun k => by
    unfold Addr.add
    split
    · rename_i h0; subst h0; rfl
    · rfl
  have hb : b < w.heap.size := by
    have h0 := key 0 hpos 0 hsz
    rw [List.getElem?_eq_getElem (by rw [hf]; exact hsz), ea] at h0
    exact World.block_lt_of_cell? w _ h0
  refine ⟨b, off, _, rfl, hb, fun j x hxj => ?_⟩
  have hj : j < xs.length * size := by
    have := (List.getElem?_eq_some_iff.1 hxj).1
    rwa [flat_len f size hf] at this
  have hi : j / size < xs.length := by
    rw [Nat.div_lt_iff_lt_mul hsz]
    exact hj
  have hr : j % size < size := Nat.mod_lt _ hsz
  have e : j / size * size + j % size = j := by rw [Nat.mul_comm]; exact Nat.div_add_mod j size
  have hg := flat_get f size hf xs (j / size) (j % size) hi hr
  have hk := key (j / size) hi (j % size) hr
  rw [e, hxj] at hg
  rw [e, ea] at hk
  rw [hk, hg]

section
variable {H : Type} {enc : TypeId × Value → H} {W : World}
/-- A field that is a number. -/
theorem fld_int {base : Nat} {spare : Nat → Bool} {held : Bool} {n : Nat} {v : Value} {y : Option (DataW H × List MemPlace)} (h : DataW.trod enc Tryz.prog W base spare held n 3 [v] = y) (hy : y.isSome = true) : ∃ i, v = .int .i64 i := by
  obtain ⟨y0, rfl⟩ := Option.isSome_iff_exists.1 hy
  obtain ⟨i, e0, _, _⟩ := DataW.trod_int (t := 3) Tryz.underlying3 h
  cases e0
  exact ⟨i, rfl⟩
end
/-- The same, and what each of them has besides. -/
theorem slAt_ofP {α : Type} {w : World} (f : α → List Value) (P : α → Prop) {size : Nat} (hf : ∀ x, (f x).length = size) (hsz : 0 < size) {a : Addr} {len cap : Nat} (hl : len ≤ cap) (hm : cap ≤ maxLen)
    (h : ∀ i, i < len → ∃ x : α, w.cells? 0 (a.add (i * size)) size = some (f x) ∧ P x) : ∃ xs : List α, SlAt w (.slice (some a) len cap) size xs.length (xs.flatMap f) ∧ ∀ x ∈ xs, P x := by
  obtain ⟨xs, hx⟩ := slAt_of (α := {x // P x}) (fun x => f x.1) (fun x => hf x.1) hsz hl hm (fun i hi => by
    obtain ⟨x, h1, h2⟩ := h i hi
    exact ⟨⟨x, h2⟩, h1⟩)
  refine ⟨xs.map (·.1), ?_, fun x hx => ?_⟩
  · have e : (xs.map (·.1)).flatMap f = xs.flatMap fun x => f x.1 := by rw [List.flatMap_map]
    rw [e, List.length_map]
    exact hx
  · obtain ⟨y, _, rfl⟩ := List.mem_map.1 hx
    exact y.2

section
variable {H : Type} {enc : TypeId × Value → H} {W : World}
theorem open_spotC {base : Nat} {spare : Nat → Bool} {held : Bool} {n : Nat} {a b : Value} {y : Option (DataW H × List MemPlace)} (h : DataW.trod enc Tryz.prog W base spare held n tSp [a, b] = y) (hy : y.isSome = true) : ∃ s : Sp, a = .int .i64 s.1 ∧ b = .int .i64 s.2 := by
  obtain ⟨y0, rfl⟩ := Option.isSome_iff_exists.1 hy
  obtain ⟨xs, k, _, _, _, hxl, hf⟩ := DataW.trod_struct Tryz.underlying27 h
  have hxl2 : xs.length = 2 := hxl
  have f0 := hf 0 _ rfl
  have f1 := hf 1 _ rfl
  simp only [List.getElem_toArray, List.getElem_cons_zero, List.getElem_cons_succ] at f0 f1
  rw [Tryz.cellsI] at f0 f1
  obtain ⟨i, rfl⟩ := fld_int f0 (by simp [hxl2])
  obtain ⟨j, rfl⟩ := fld_int f1 (by simp [hxl2])
  exact ⟨(i, j), rfl, rfl⟩
theorem len2 {cs : List Value} (h : cs.length = 2) : ∃ c0 c1, cs = [c0, c1] := by
  match cs, h with
  | [c0, c1], _ => exact ⟨_, _, rfl⟩
theorem len3 {cs : List Value} (h : cs.length = 3) : ∃ c0 c1 c2, cs = [c0, c1, c2] := by
  match cs, h with
  | [c0, c1, c2], _ => exact ⟨_, _, _, rfl⟩
theorem open_slS {spare : Nat → Bool} {held : Bool} {n : Nat} {v : Value} {y : Option (DataW H × List MemPlace)} (h : DataW.trod enc Tryz.prog W 0 spare held n 28 [v] = y) (hy : y.isSome = true) : ∃ a c, ∃ ds : List Sp, v = .slice a ds.length c ∧ SpotsAt W (.slice a ds.length c) ds := by
  obtain ⟨y0, rfl⟩ := Option.isSome_iff_exists.1 hy
  rcases open_slice Tryz.underlying28 h with ⟨hc, _⟩ | ⟨a, len, cap, m, n, D, Pl, hc, _, hl, hm, hmm, _, hall⟩
  · cases hc
    exact ⟨none, 0, [], rfl, SlAt.nil W 2⟩
  · cases hc
    have hlm : len ≤ m := by rw [hmm]; split <;> omega
    rw [Tryz.cellsS] at hall
    obtain ⟨ds, hds⟩ := slAt_of spC (size := 2) (fun _ => rfl) (by decide) hl hm (fun i hi => by
      obtain ⟨cs', h1, h2⟩ := hall i (by omega)
      obtain ⟨_, hlen, _⟩ := World.cells?_some h1
      obtain ⟨c0, c1, rfl⟩ := len2 hlen
      obtain ⟨s, rfl, rfl⟩ := open_spotC h2 rfl
      exact ⟨s, h1⟩)
    obtain ⟨a', c', e, _, _⟩ := hds.form
    cases e
    exact ⟨_, _, ds, rfl, hds⟩

set_option maxRecDepth 100000 in
theorem open_nodeC {spare : Nat → Bool} {held : Bool} {n : Nat} {cs : List Value} (hlen : cs.length = 3) {x : DataW H × List MemPlace} (h : DataW.trod enc Tryz.prog W 0 spare held n tNd cs = some x) : ∃ nd : Nd, cs = ndC nd ∧ SpotsAt W (.slice nd.na nd.next.length nd.nc) nd.next := by
  obtain ⟨xs, k, _, _, _, hxl, hf⟩ := DataW.trod_struct Tryz.underlying30 h
  have hxl2 : xs.length = 2 := hxl
  obtain ⟨c0, c1, c2, rfl⟩ := len3 hlen
  have f0 := hf 0 _ rfl
  have f1 := hf 1 _ rfl
  simp only [List.getElem_toArray, List.getElem_cons_zero, List.getElem_cons_succ] at f0 f1
  rw [Tryz.cellsS] at f0
  rw [Tryz.cellsLS] at f1
  obtain ⟨s, rfl, rfl⟩ := open_spotC f0 (by simp [hxl2])
  obtain ⟨a, c, ds, rfl, hds⟩ := open_slS f1 (by simp [hxl2])
  exact ⟨⟨s, a, c, ds⟩, rfl, hds⟩
set_option maxRecDepth 100000 in
theorem open_nodes {r : Reach} {b0 : Nat} {v : Value} {d : DataW H} {p : List MemPlace}
    (hv : Value.okWide Tryz.prog W r b0 24 v) (h : DataW.Trod enc Tryz.prog W 0 (fun _ => true) true 24 v d p) : ∃ ns : List Nd, NodesAt W v ns := by
  obtain ⟨pa, len, cap, rfl⟩ := okWide_slice Tryz.underlying24 hv
  obtain ⟨fuel, hf⟩ := h
  simp only [Value.cells] at hf
  rcases open_slice Tryz.underlying24 hf with ⟨hc, _⟩ | ⟨a, len', cap', m, n, D, Pl, hc, _, hl, hm, hmm, _, hall⟩
  · simp only [List.cons.injEq, and_true, Value.slice.injEq] at hc
    obtain ⟨rfl, rfl, rfl⟩ := hc
    exact ⟨[], SlAt.nil W 3, by simp⟩
  · simp only [List.cons.injEq, and_true, Value.slice.injEq] at hc
    obtain ⟨rfl, rfl, rfl⟩ := hc
    simp only [if_true] at hmm
    subst hmm
    rw [Tryz.cellsN] at hall
    obtain ⟨ns, h1, h2⟩ := slAt_ofP ndC (fun nd => SpotsAt W (.slice nd.na nd.next.length nd.nc) nd.next) (size := 3) (fun _ => rfl) (by decide) hl hm (fun i hi => by
      obtain ⟨cs', h1, h2⟩ := hall i (by omega)
      obtain ⟨_, hlen, _⟩ := World.cells?_some h1
      obtain ⟨nd, rfl, h3⟩ := open_nodeC hlen h2
      exact ⟨nd, h1, h3⟩)
    exact ⟨ns, h1, h2⟩
end
end
section
section
open Go.RowKit Go.Shelf Go.Sort Go.Proofs

theorem infoTS' : (Tryz.prog.info? tS).map (fun i => (i.zero, i.size, i.bytes)) = some (some (.slice none 0 0), 1, 24) := by kernel_rfl
/-- No list of the nodes is longer than memory. -/
def Small (ns : List Nd) : Prop := ns.length ≤ 1125899906842624 ∧ ∀ n ∈ ns, n.next.length ≤ 1125899906842624
def LightPost (ns : List Nd) (most : Nat) (w : World) (e : Ending) (w1 : World) : Prop := ∃ b, e = .returned (.bool b) ∧ (b = true → ns.length + tot ns ≤ most) ∧ Fr [] w w1
set_option maxRecDepth 100000 in
theorem lightC (v : Value) (ns : List Nd) (most : Nat) (w : World) (hv : NodesAt w v ns) (hs : Small ns) (hm : most ≤ 4194304) : Calls Tryz.prog 6 #[v, .int .i64 (most : Int)] w (LightPost ns most w) := by
  obtain ⟨qa, ca, rfl, ha1, ha2⟩ := hv.row.form
  have HV := Lib.hid hv
  have HS : Hid (∀ n ∈ ns, n.next.length ≤ 1125899906842624) := hs.2
  have hs1 := hs.1
  clear hv hs
  go_enter Tryz.func6, Tryz.ntmps6
  go_wp2_with fail
  go_loopw [5, 6] (fun n i wr => ∃ k : Nat, i = .int .i64 (k : Int) ∧ n = .int .i64 ((ns.length + tot (ns.take k) : Nat) : Int) ∧ k ≤ ns.length ∧ (ns.length + tot (ns.take k) ≤ 4194304 + 1125899906842624) ∧ Fr [] w wr) (fun _ i _ => ns.length - (intOf i).toNat)
  case atStart => exact ⟨0, rfl, by simp [tot], by omega, by simp [tot]; omega, Fr.refl _ _⟩
  case round =>
    obtain ⟨k, rfl, rfl, hk, hb, hf⟩ := hrel
    by_cases hlt : k < ns.length
    · have hk1 : (k : Int) < (ns.length : Int) := by omega
      by_cases hle : ns.length + tot (ns.take k) ≤ most
      · obtain ⟨b, off, _, e, hbl, _, _, c2⟩ := (HV.out.fr0 hf).cell hlt
        cases e
        have hnl := HS.out ns[k] (List.getElem_mem hlt)
        have hts : tot (ns.take (k + 1)) = tot (ns.take k) + ns[k].next.length := by rw [List.take_succ_eq_append_getElem hlt, tot_snoc]
        have HTS : Hid (ns.length + tot (ns.take (k + 1)) = (ns.length + tot (ns.take k)) + ns[k].next.length) := by show _ = _; omega
        clear hts
        generalize ns[k].next.length = m at *
        generalize ns[k].na = na at *
        generalize ns[k].nc = nc at *
        generalize hsm : ns.length + tot (ns.take k) = s at *
        clear hsm
        have hle1 : (s : Int) ≤ (most : Int) := by omega
        have hled : decide ((s : Int) ≤ (most : Int)) = true := decide_eq_true hle1
        have hled2 : decide (s ≤ most) = true := decide_eq_true hle
        have hwr : IntKind.i64.wrap ((s : Int) + (m : Int)) = ((s + m : Nat) : Int) := by rw [IntKind.wrap_i64]; omega
        go_wp2
        go_roundw
        case rel => exact ⟨k + 1, by go_num, by first | rw [HTS.out]; rfl | (rw [HTS.out]; go_num), by omega, by rw [HTS.out]; omega, hf⟩
        case measure => simp [intOf]; omega
      · have HN : Hid (¬ ns.length + tot ns ≤ most) := fun h => hle (by have := tot_take ns k; omega)
        generalize hsm : ns.length + tot (ns.take k) = s at *
        clear hsm
        have hle1 : ¬ (s : Int) ≤ (most : Int) := by omega
        have hled : decide ((s : Int) ≤ (most : Int)) = false := decide_eq_false hle1
        have hled2 : decide (s ≤ most) = false := decide_eq_false hle
        go_wp2
        go_ret
        exact ⟨_, rfl, fun h => by simp at h, hf⟩
    · obtain rfl : k = ns.length := by omega
      rw [List.take_length] at hb ⊢
      generalize hsm : ns.length + tot ns = s at *
      have HSM := Lib.hid hsm
      clear hsm
      go_wp2
      go_ret
      refine ⟨decide (s ≤ most), ?_, fun h => by rw [HSM.out]; exact of_decide_eq_true h, hf⟩
      first | rfl | simp
/-- How far one goes into spare room. -/
def roomN (n c : Nat) : Nat := if n + 70000 < c then n + 70000 else c
theorem roomC (n c : Nat) (w : World) (hn : n ≤ 4194304) : Calls Tryz.prog 38 #[.int .i64 (n : Int), .int .i64 (c : Int)] w fun e w1 => e = .returned (.int .i64 (roomN n c : Nat)) ∧ Fr [] w w1 := by
  go_enter Tryz.func38, Tryz.ntmps38
  have hwr : IntKind.i64.wrap ((n : Int) + 70000) = ((n + 70000 : Nat) : Int) := by rw [IntKind.wrap_i64]; omega
  by_cases h : n + 70000 < c
  · have h1 : ((n + 70000 : Nat) : Int) < (c : Int) := by omega
    have h2 : (n : Int) + 70000 < (c : Int) := by omega
    go_wp2
    go_ret
    refine ⟨?_, Fr.refl _ _⟩
    unfold roomN
    rw [if_pos h]
    first | rfl | simp
  · have h1 : ¬ ((n + 70000 : Nat) : Int) < (c : Int) := by omega
    have h2 : ¬ (n : Int) + 70000 < (c : Int) := by omega
    go_wp2
    go_ret
    refine ⟨?_, Fr.refl _ _⟩
    unfold roomN
    rw [if_neg h]
    rfl
theorem roomN_le {n c : Nat} (h : n ≤ c) : n ≤ roomN n c ∧ roomN n c ≤ c ∧ roomN n c ≤ n + 70000 := by
  unfold roomN
  split <;> omega
end
section
open Go.RowKit Go.Shelf Go.Sort Go.Proofs

theorem TwinAt.rowc {B : Nat} {w : World} {ls : List Nd} {g cap : Nat} (h : w.ownsRow B tNd 3 (.slice (some ⟨g, 0, none⟩) (ls.length + 1) cap) (ls.length + 1) (ls.flatMap ndC ++ markN)) :
    (∀ k (hk : k < ls.length), w.cell? ⟨g, k * 3, none⟩ = some (.int .i64 ls[k].at_.1) ∧ w.cell? ⟨g, k * 3 + 1, none⟩ = some (.int .i64 ls[k].at_.2) ∧ w.cell? ⟨g, k * 3 + 2, none⟩ = some (.slice ls[k].na ls[k].next.length ls[k].nc)) ∧ w.cell? ⟨g, ls.length * 3, none⟩ = some (.int .i64 (-7)) ∧ g < w.heap.size := by
  have hl := flat_len ndC 3 (fun _ => rfl) ls
  have key : ∀ j, j < (ls.length + 1) * 3 → w.cell? ⟨g, j, none⟩ = (ls.flatMap ndC ++ markN)[j]? := fun j hj => h.cellAt j hj
  have low : ∀ k i (hk : k < ls.length), i < 3 → w.cell? ⟨g, k * 3 + i, none⟩ = (ndC ls[k])[i]? := fun k i hk hi => by
    rw [key _ (by omega), List.getElem?_append_left (by rw [hl]; omega), flat_get ndC 3 (fun _ => rfl) ls k i hk hi]
  refine ⟨fun k hk => ⟨by have := low k 0 hk (by omega); simpa using this, by have := low k 1 hk (by omega); simpa using this, by have := low k 2 hk (by omega); simpa using this⟩, ?_, (h.lt g rfl).2⟩
  rw [key _ (by omega), List.getElem?_append_right (by rw [hl]; omega), hl, Nat.sub_self]
  rfl
theorem TwNx.mark {B : Nat} {w : World} {n : Nd} (h : TwNx B w n) {a : Addr} (ha : n.na = some a) : ∃ b, a = ⟨b, 0, none⟩ ∧ b < w.heap.size ∧ w.cell? ⟨b, n.next.length * 2, none⟩ = some (.int .i64 (-7)) ∧ n.next.length + 1 ≤ n.nc ∧ n.nc ≤ 9223372036854775807 := by
  rcases h with ⟨h, _⟩ | ⟨b, h1, h2⟩
  · rw [h] at ha
    cases ha
  · rw [h1] at ha
    cases ha
    obtain ⟨_, _, e, h3, h4⟩ := (own_sl h2).form
    cases e
    refine ⟨b, rfl, (h2.lt b rfl).2, ?_, h3, h4⟩
    have hl := flat_len spC 2 (fun _ => rfl) n.next
    rw [h2.cellAt _ (by omega), List.getElem?_append_right (by rw [hl]; exact Nat.le_refl _), hl, Nat.sub_self]
    rfl
/-- Lists that are the same: nothing but draws. -/
theorem eqQ (va vb : Value) (la : List Sp) (w : World) (ha : SpotsAt w va la) (hb : SpotsAt w vb la) : Calls Tryz.prog 13 #[va, vb] w fun e w1 => e = .returned (.bool true) ∧ ∃ m, w1 = w.drewN m := by
  obtain ⟨qa, ca, rfl, ha1, ha2⟩ := ha.form
  obtain ⟨qb, cb, rfl, hb1, hb2⟩ := hb.form
  have HA := Lib.hid ha
  have HB := Lib.hid hb
  have hb3 : ((la.length : Int) != (la.length : Int)) = false := by simp
  clear ha hb
  go_enter Tryz.func13, Tryz.ntmps13
  go_wp2_with fail
  go_loopw [5] (fun i wr => ∃ k n : Nat, i = .int .i64 (k : Int) ∧ k ≤ la.length ∧ wr = w.drewN n) (fun i _ => la.length - (intOf i).toNat)
  case atStart => exact ⟨0, 0, rfl, by omega, rfl⟩
  case round =>
    obtain ⟨k, n, rfl, hk, hf⟩ := hrel
    have hf2 : Fr [] w (w.drewN n) := (Fr.refl [] w).drewN n
    rw [← hf] at hf2
    have HF := Lib.hid hf
    clear hf
    by_cases hlt : k < la.length
    · obtain ⟨b1, o1, _, e1, hbl1, c0, c1⟩ := spots_cell (HA.out.fr0 hf2) hlt
      cases e1
      obtain ⟨b2, o2, _, e2, hbl2, d0, d1⟩ := spots_cell (HB.out.fr0 hf2) hlt
      cases e2
      have hk1 : (k : Int) < (la.length : Int) := by omega
      generalize la[k] = x at *
      have hne := neqS x x
      have hne2 : ∀ w : World, (binOp .neq 27 (.agg #[.int .i64 x.1, .int .i64 x.2]) (.agg #[.int .i64 x.1, .int .i64 x.2])).run Tryz.prog w = .ok (.bool false) w := fun w => by rw [hne]; simp
      clear hne
      go_wp2_with fail
      go_region_held3 (fun u => u.cell? ⟨b1, o1 + k * 2, none⟩ = some (.int .i64 x.1) ∧ u.cell? ⟨b1, o1 + k * 2 + 1, none⟩ = some (.int .i64 x.2) ∧ u.cell? ⟨b2, o2 + k * 2, none⟩ = some (.int .i64 x.1) ∧ u.cell? ⟨b2, o2 + k * 2 + 1, none⟩ = some (.int .i64 x.2)) (exact ⟨ce_drew c0, ce_drew c1, ce_drew d0, ce_drew d1⟩) (fail)
      go_wp2
      go_roundw
      case rel => exact ⟨k + 1, n + 1, by go_num, by omega, by rw [HF.out]; rfl⟩
      case measure => simp [intOf]; omega
    · obtain rfl : k = la.length := by omega
      go_wp2
      go_ret
      exact ⟨rfl, n, HF.out⟩
set_option maxRecDepth 100000 in
set_option maxHeartbeats 3200000 in
theorem keptC (lv nv : Value) (ls ns : List Nd) (B : Nat) (w : World) (hl : TwinAt B w lv ls) (hn : NodesAt w nv ns) (he : era ls = era ns) (hs : ns.length + tot ns ≤ 4194304) :
    Calls Tryz.prog 17 #[lv, nv] w fun e w1 => e = .returned (.bool true) ∧ Fr [] w w1 := by
  obtain ⟨g, cap, rfl, hrow⟩ := hl.row
  obtain ⟨qa, ca, rfl, ha1, ha2⟩ := hn.row.form
  obtain ⟨_, _, e, hc1, hc2⟩ := (own_sl hrow).form
  cases e
  have hlen : ls.length = ns.length := by rw [← era_len ls, he, era_len]
  have HE : Hid (∀ k (h1 : k < ls.length) (h2 : k < ns.length), ls[k].at_ = ns[k].at_ ∧ ls[k].next = ns[k].next) := fun k h1 h2 => by
    have h3 : (era ls)[k]'(by simpa using h1) = (era ns)[k]'(by simpa using h2) := by simp only [he]
    simpa using h3
  have HT : Hid (∀ n ∈ ns, n.next.length ≤ 4194304) := fun n hn' => by have := tot_le hn'; omega
  have HL := Lib.hid hl
  have HN := Lib.hid hn
  have HR := Lib.hid hrow
  obtain ⟨_, hmk, hgl⟩ := TwinAt.rowc hrow
  have hnl : ns.length ≤ 4194304 := by omega
  have hwr : IntKind.i64.wrap ((ns.length : Int) + 1) = ((ns.length + 1 : Nat) : Int) := by rw [IntKind.wrap_i64]; omega
  have hne0 : ((ns.length : Int) != (ns.length : Int)) = false := by simp
  rw [hlen] at hc1 hmk ⊢
  have HLEN := Lib.hid hlen
  clear hl hn hrow he hlen hs
  go_enter Tryz.func17, Tryz.ntmps17
  go_wp2_with fail
  go_loopw [5] (fun i wr => ∃ k : Nat, i = .int .i64 (k : Int) ∧ k ≤ ns.length ∧ Fr [] w wr) (fun i _ => ns.length - (intOf i).toNat)
  case atStart => exact ⟨0, rfl, by omega, Fr.refl _ _⟩
  case round =>
    obtain ⟨k, rfl, hk, hf⟩ := hrel
    by_cases hlt : k < ns.length
    · have hltl : k < ls.length := by rw [HLEN.out]; exact hlt
      have hk1 : (k : Int) < (ns.length : Int) := by omega
      obtain ⟨b, off, _, e, hb, c0, c1, c2⟩ := (HN.out.fr0 hf).cell hlt
      cases e
      obtain ⟨hrc, _, hgl2⟩ := TwinAt.rowc (owns_fr HR.out hf (by simp))
      obtain ⟨d0, d1, d2⟩ := hrc k hltl
      obtain ⟨e1, e2⟩ := HE.out k hltl hlt
      rw [e1] at d0 d1
      have HSN := Lib.hid ((HN.out.fr0 hf).nx ns[k] (List.getElem_mem hlt))
      have htw := ((HL.out.fr0 hf).nx ls[k] (List.getElem_mem hltl))
      have HSL := Lib.hid (htw.1.spots htw.2)
      have hnl2 := HT.out ns[k] (List.getElem_mem hlt)
      have hna : ls[k].na = none ∨ ∃ a, ls[k].na = some a := by cases ls[k].na <;> simp
      have HMK : Hid (∀ a, ls[k].na = some a → ∃ b, a = ⟨b, 0, none⟩ ∧ b < wr.heap.size ∧ wr.cell? ⟨b, ls[k].next.length * 2, none⟩ = some (.int .i64 (-7)) ∧ ls[k].next.length + 1 ≤ ls[k].nc ∧ ls[k].nc ≤ 9223372036854775807) := fun a ha => htw.1.mark ha
      rw [e2] at d2 HSL HMK
      clear hrc htw e1 e2
      generalize ls[k].na = la at *
      generalize ls[k].nc = lc at *
      generalize ns[k].na = xa at *
      generalize ns[k].nc = xc at *
      generalize ns[k].next = next at *
      generalize ns[k].at_ = s at *
      have hne := neqS s s
      have hne2 : ∀ w : World, (binOp .neq 27 (.agg #[.int .i64 s.1, .int .i64 s.2]) (.agg #[.int .i64 s.1, .int .i64 s.2])).run Tryz.prog w = .ok (.bool false) w := fun w => by rw [hne]; simp
      have HEQ : Hid (∀ n : Nat, Calls Tryz.prog 13 #[.slice la next.length lc, .slice xa next.length xc] (wr.drewN n) fun e w1 => e = .returned (.bool true) ∧ ∃ m, w1 = (wr.drewN n).drewN m) := fun n => eqQ _ _ next _ (HSL.out.fr0 ((Fr.refl [] wr).drewN n)) (HSN.out.fr0 ((Fr.refl [] wr).drewN n))
      clear hne
      have hwr2 : IntKind.i64.wrap ((next.length : Int) + 1) = ((next.length + 1 : Nat) : Int) := by rw [IntKind.wrap_i64]; omega
      generalize next.length = n at *
      rcases hna with rfl | ⟨a, rfl⟩
      · go_wp2_with fail
        go_quiet ((go_at_call 13; exact Calls.quiet_of (HEQ.out _)))
        have hfA : Fr [] w (wr.drewN nq) := hf.drewN nq
        clear c0 c1 c2 d0 d1 d2
        go_wp2
        go_roundw
        case rel => exact ⟨k + 1, by go_num, by omega, hfA⟩
        case measure => simp [intOf]; omega
      · obtain ⟨mb, rfl, hmb, m0, hm1, hm2⟩ := HMK.out a rfl
        have hm3 : ((n : Int) + 1) ≤ (lc : Int) := by omega
        have hm5 : (0 : Int) ≤ (n : Int) + 1 := by omega
        have hm6 : ((n : Int) + 1).toNat = n + 1 := by omega
        have hm7 : (n : Int) < (n : Int) + 1 := by omega
        have hwr3 : IntKind.i64.wrap ((n : Int) + 1) = (n : Int) + 1 := by rw [hwr2]; rfl
        clear hwr2
        go_wp2_with fail
        go_quiet ((go_at_call 13; exact Calls.quiet_of (HEQ.out _)))
        have hfA : Fr [] w (wr.drewN nq) := hf.drewN nq
        clear c0 c1 c2 d0 d1 d2 m0
        go_wp2
        go_roundw
        case rel => exact ⟨k + 1, by go_num, by omega, hfA⟩
        case measure => simp [intOf]; omega
    · obtain rfl : k = ns.length := by omega
      go_wp2
      go_ret
      exact ⟨rfl, hf⟩
end
section
open Go.ChangeShapes Go.WideShapes Go.ChangeAt Go.RowKit Go.Joins Go.Deep

theorem Tryz.bytesSp : Tryz.prog.bytesOf tSp = 16 := by kernel_rfl
theorem Tryz.bytesNd : Tryz.prog.bytesOf tNd = 40 := by kernel_rfl
section
variable {H : Type} {enc : TypeId × Value → H} {W : World}
/-- No list of it takes more than memory. -/
def Wt (t : TypeId) (d : DataW H) : Prop := ∀ n ∈ d.weights Tryz.prog t, n ≤ reachBytes
theorem weights_all {P : Program} {e : TypeId} {d : DataW H} {n : Nat} (hn : n ∈ d.weights P e) : ∀ {l : List (DataW H)}, d ∈ l → n ∈ DataW.weightsAll P e l
  | [], hd => by simp at hd
  | a :: l, hd => by
    simp only [DataW.weightsAll, List.mem_append]
    rcases List.mem_cons.1 hd with rfl | hd
    · exact .inl hn
    · exact .inr (weights_all hn hd)
theorem Wt.el {t e : TypeId} {elems spare : List (DataW H)} (hu : Tryz.prog.underlying t = some (.slice e)) (h : Wt t (.slice elems spare)) {d : DataW H} (hd : d ∈ elems) : Wt e d := fun n hn => h n (by
  simp only [DataW.weights, hu, List.mem_cons, List.mem_append]
  exact .inr (.inl (weights_all hn hd)))
theorem Wt.len {t e : TypeId} {elems spare : List (DataW H)} (hu : Tryz.prog.underlying t = some (.slice e)) (h : Wt t (.slice elems spare)) {k : Nat} (hk : 0 < k) (hb : Tryz.prog.bytesOf e = k) : elems.length ≤ reachBytes := by
  have h1 := h ((elems.length + spare.length) * Tryz.prog.bytesOf e) (by simp [DataW.weights, hu])
  rw [hb] at h1
  exact Nat.le_trans (Nat.le_trans (Nat.le_add_right _ _) (Nat.le_mul_of_pos_right _ hk)) h1
theorem reach_small {n : Nat} (h : n ≤ reachBytes) : n ≤ 1125899906842624 := by
  unfold reachBytes at h
  omega
theorem open_slSW {spare : Nat → Bool} {held : Bool} {n : Nat} {v : Value} {y : DataW H × List MemPlace} (h : DataW.trod enc Tryz.prog W 0 spare held n 28 [v] = some y) (hw : Wt 28 y.1) : ∃ a c, ∃ ds : List Sp, v = .slice a ds.length c ∧ SpotsAt W (.slice a ds.length c) ds ∧ ds.length ≤ 1125899906842624 := by
  rcases open_slice Tryz.underlying28 h with ⟨hc, _⟩ | ⟨a, len, cap, m, n, D, Pl, hc, _, hl, hm, hmm, hy, hall⟩
  · cases hc
    exact ⟨none, 0, [], rfl, SlAt.nil W 2, by simp⟩
  · cases hc
    subst hy
    have hlen := hw.len Tryz.underlying28 (by decide) Tryz.bytesSp
    rw [List.length_map, List.length_range] at hlen
    have hlm : len ≤ m := by rw [hmm]; split <;> omega
    rw [Tryz.cellsS] at hall
    obtain ⟨ds, hds⟩ := slAt_of spC (size := 2) (fun _ => rfl) (by decide) hl hm (fun i hi => by
      obtain ⟨cs', h1, h2⟩ := hall i (by omega)
      obtain ⟨_, hlen, _⟩ := World.cells?_some h1
      obtain ⟨c0, c1, rfl⟩ := len2 hlen
      obtain ⟨s, rfl, rfl⟩ := open_spotC h2 rfl
      exact ⟨s, h1⟩)
    obtain ⟨a', c', e, _, _⟩ := hds.form
    cases e
    exact ⟨_, _, ds, rfl, hds, reach_small hlen⟩
set_option maxRecDepth 100000 in
theorem open_nodeW {spare : Nat → Bool} {held : Bool} {n : Nat} {cs : List Value} (hlen : cs.length = 3) {x : DataW H × List MemPlace} (h : DataW.trod enc Tryz.prog W 0 spare held n tNd cs = some x) (hw : Wt tNd x.1) : ∃ nd : Nd, cs = ndC nd ∧ SpotsAt W (.slice nd.na nd.next.length nd.nc) nd.next ∧ nd.next.length ≤ 1125899906842624 := by
  obtain ⟨xs, k, _, hx, _, hxl, hf⟩ := DataW.trod_struct Tryz.underlying30 h
  have hxl2 : xs.length = 2 := hxl
  obtain ⟨c0, c1, c2, rfl⟩ := len3 hlen
  have f0 := hf 0 _ rfl
  have f1 := hf 1 _ rfl
  simp only [List.getElem_toArray, List.getElem_cons_zero, List.getElem_cons_succ] at f0 f1
  rw [Tryz.cellsS] at f0
  rw [Tryz.cellsLS] at f1
  obtain ⟨s, rfl, rfl⟩ := open_spotC f0 (by simp [hxl2])
  rw [List.getElem?_eq_getElem (by omega)] at f1
  have hw1 : Wt 28 xs[1].1 := fun n hn => hw n (by
    rw [hx]
    simp only [DataW.weights, Tryz.underlying30]
    refine DataW.weights_mem_each (j := 1) (t := 28) (d := xs[1].1) rfl ?_ n hn
    rw [List.getElem?_map, List.getElem?_eq_getElem (by omega)]
    rfl)
  obtain ⟨a, c, ds, rfl, hds, hl⟩ := open_slSW f1 hw1
  exact ⟨⟨s, a, c, ds⟩, rfl, hds, hl⟩
set_option maxRecDepth 100000 in
theorem open_nodesW {r : Reach} {b0 : Nat} {v : Value} {d : DataW H} {p : List MemPlace}
    (hv : Value.okWide Tryz.prog W r b0 24 v) (h : DataW.Trod enc Tryz.prog W 0 (fun _ => true) true 24 v d p) (hw : Wt 24 d) : ∃ ns : List Nd, NodesAt W v ns ∧ Small ns := by
  obtain ⟨pa, len, cap, rfl⟩ := okWide_slice Tryz.underlying24 hv
  obtain ⟨fuel, hf⟩ := h
  simp only [Value.cells] at hf
  rcases open_slice Tryz.underlying24 hf with ⟨hc, _⟩ | ⟨a, len', cap', m, n, D, Pl, hc, _, hl, hm, hmm, hy, hall⟩
  · simp only [List.cons.injEq, and_true, Value.slice.injEq] at hc
    obtain ⟨rfl, rfl, rfl⟩ := hc
    exact ⟨[], ⟨SlAt.nil W 3, by simp⟩, by simp, by simp⟩
  · simp only [List.cons.injEq, and_true, Value.slice.injEq] at hc
    obtain ⟨rfl, rfl, rfl⟩ := hc
    simp only [Prod.mk.injEq] at hy
    obtain ⟨rfl, _⟩ := hy
    have hlen := hw.len Tryz.underlying24 (by decide) Tryz.bytesNd
    rw [List.length_map, List.length_range] at hlen
    have hel : ∀ i, i < len → Wt tNd (D i) := fun i hi => hw.el Tryz.underlying24 (List.mem_map.2 ⟨i, List.mem_range.2 hi, rfl⟩)
    simp only [if_true] at hmm
    subst hmm
    rw [Tryz.cellsN] at hall
    obtain ⟨ns, h1, h2⟩ := slAt_ofP ndC (fun nd => SpotsAt W (.slice nd.na nd.next.length nd.nc) nd.next ∧ nd.next.length ≤ 1125899906842624) (size := 3) (fun _ => rfl) (by decide) hl hm (fun i hi => by
      obtain ⟨cs', h1, h2⟩ := hall i (by omega)
      obtain ⟨_, hlen, _⟩ := World.cells?_some h1
      obtain ⟨nd, rfl, h3⟩ := open_nodeW hlen h2 (hel i hi)
      exact ⟨nd, h1, h3⟩)
    obtain ⟨_, _, e, _, _⟩ := h1.form
    cases e
    exact ⟨ns, ⟨h1, fun nd hn => (h2 nd hn).1⟩, reach_small hlen, fun nd hn => (h2 nd hn).2⟩
end
end
end
end Go.Proofs.YtdlpbpohbkcafaaGreat
