/-
  quadrillelaw22's pair: a store and the document's; (*pair).keep.
-/
import Derived.Test.YtldppdafgbipjaaKeep22
import Derived.Test.YtldppdafgbipjaaTAllP
import Derived.Test.YtldppdafgbipjaaRef22S
import Derived.Deep.RegionHeld3
import Derived.StillTailTactics
namespace Go.Proofs.Ytldppdafgbipjaa
open Go.RowKit

/-- A call of the script. -/
structure Op22 where
  k : Int
  on : Int
  s : Sp
  v : V
  da : Option Addr
  dc : Nat
  ds : List Sp
  va : Option Addr
  vc : Nat
  vs : List V
  i : Int
abbrev Op22.val (o : Op22) : Value := .agg #[.int .i64 o.k, .int .i64 o.on, .int .i64 o.s.1, .int .i64 o.s.2, .int .i64 o.v.k, .int .i64 o.v.n, .string o.v.s, .slice o.da o.ds.length o.dc, .slice o.va o.vs.length o.vc, .int .i64 o.i]
abbrev tPr : TypeId := 107
abbrev tOp : TypeId := 111

/-- Below N. -/
def LowA (N n : Nat) (a : Option Addr) : Prop := 0 < n → ∀ b off, a = some ⟨b, off, none⟩ → b < N
structure OpOk (N : Nat) (w : World) (o : Op22) : Prop where
  ds : SpotsAt w (.slice o.da o.ds.length o.dc) o.ds
  vs : ValsAt w (.slice o.va o.vs.length o.vc) o.vs
  dlow : LowA N o.ds.length o.da
  vlow : LowA N o.vs.length o.va
  sz : o.v.s.size ≤ 9223372036854775807
  szs : ∀ x ∈ o.vs, x.s.size ≤ 9223372036854775807
  dl : o.ds.length ≤ 65536
  vl : o.vs.length ≤ 65536
  i0 : -9223372036854775808 ≤ o.i
  i1 : o.i ≤ 9223372036854775807

/-- A store and the document's, which tell the same. -/
structure PairIs (N : Nat) (w : World) (p tb mb rp T : Nat) (dd : Int) (m n : List (Sp × Tr)) : Prop where
  st : StIs w p tb mb dd m
  rf : RefIs w rp T dd n
  sm : SameT m n
  gm : Good dd m
  ne : mb ≠ T
  n1 : N ≤ tb
  n2 : N ≤ mb
  n3 : N ≤ T

theorem cells_ne {w : World} {x y : Nat} {T U : TypeId} {cs ds : Array Value} {f g : Nat × Nat} (hx : w.heap[x]? = some (.cells cs T f)) (hy : w.heap[y]? = some (.cells ds U g)) (hne : T ≠ U) : x ≠ y := by
  rintro rfl
  rw [hx] at hy
  injection hy with hy
  injection hy with _ h2 _
  exact hne h2
theorem map_ne {w : World} {x y : Nat} {T : TypeId} {cs : Array Value} {f : Nat × Nat} {es : Array MapEntry} {clock : Nat} (hx : w.heap[x]? = some (.cells cs T f)) (hy : w.heap[y]? = some (.map es clock)) : x ≠ y := by
  rintro rfl
  rw [hx] at hy
  cases hy

theorem StIs.notD {w : World} {p tb mb : Nat} {dd : Int} {m : List (Sp × Tr)} (h : StIs w p tb mb dd m) : NotD w [tb, mb] := by
  obtain ⟨_, _, ls, ⟨ht, es, clock, hm, _⟩, _⟩ := h
  intro b hb cur
  simp only [List.mem_cons, List.not_mem_nil, or_false] at hb
  rcases hb with rfl | rfl
  · rw [ht]
    refine ⟨fun h => ?_, fun h => ?_⟩ <;> (injection h with h; injection h with _ h2 _; cases h2)
  · rw [hm]
    exact ⟨(fun h => by cases h), (fun h => by cases h)⟩
theorem RefIs.notE {w : World} {p T : Nat} {dd : Int} {m : List (Sp × Tr)} (h : RefIs w p T dd m) : NotE w [T] := by
  obtain ⟨_, _, ls, ⟨es, clock, hm, _⟩, _⟩ := h
  intro b hb cur
  rw [List.mem_singleton] at hb
  subst hb
  rw [hm]
  exact fun h => by cases h
theorem StIs.nodup {w : World} {p tb mb : Nat} {dd : Int} {m : List (Sp × Tr)} (h : StIs w p tb mb dd m) : (m.map (·.1)).Nodup := by
  obtain ⟨_, _, ls, hT, hM⟩ := h
  rw [← hM.keys]
  exact hT.nodup
/-- The document's store behind what turned the other one. -/
theorem RefIs.frSt {w w1 : World} {p tb mb rp T : Nat} {dd dd2 : Int} {m n : List (Sp × Tr)} (h : RefIs w rp T dd n) (hs : StIs w p tb mb dd2 m) (hne : mb ≠ T) (hf : Fr [tb, mb] w w1) : RefIs w1 rp T dd n := by
  have hD := hs.notD
  have h2 := h
  obtain ⟨_, _, ls, ⟨ht, es, clock, hm, _⟩, _⟩ := hs
  obtain ⟨_, _, _, ⟨es2, clock2, hT, _⟩, _⟩ := h
  refine h2.fr hf ?_ ?_ hD
  · simp only [List.mem_cons, List.not_mem_nil, or_false, not_or]
    exact ⟨cells_ne h2.st ht (by decide), map_ne h2.st hm⟩
  · simp only [List.mem_cons, List.not_mem_nil, or_false, not_or]
    exact ⟨fun e => map_ne ht hT e.symm, fun e => hne e.symm⟩
theorem StIs.frRef {w w1 : World} {p tb mb rp T : Nat} {dd dd2 : Int} {m n : List (Sp × Tr)} (hs : StIs w p tb mb dd2 m) (h : RefIs w rp T dd n) (hne : mb ≠ T) (hf : Fr [T] w w1) : StIs w1 p tb mb dd2 m := by
  have hE := h.notE
  have h2 := hs
  obtain ⟨hp, _, ls, ⟨ht, es, clock, hm, _⟩, _⟩ := hs
  obtain ⟨_, _, _, ⟨es2, clock2, hT, _⟩, _⟩ := h
  exact h2.fr hf (by simpa using map_ne hp hT) (by simpa using map_ne ht hT) (by simpa using hne) hE

theorem StIs.off {w : World} {p tb mb b : Nat} {dd : Int} {m : List (Sp × Tr)} {cs : Array Value} {U : TypeId} {f : Nat × Nat} (h : StIs w p tb mb dd m) (hb : w.heap[b]? = some (.cells cs U f)) (hU : U ≠ tT) : b ∉ [tb, mb] := by
  obtain ⟨_, _, ls, ⟨ht, es, clock, hm, _⟩, _⟩ := h
  simp only [List.mem_cons, List.not_mem_nil, or_false, not_or]
  exact ⟨cells_ne hb ht hU, map_ne hb hm⟩
theorem RefIs.off {w : World} {p T b : Nat} {dd : Int} {m : List (Sp × Tr)} {cs : Array Value} {U : TypeId} {f : Nat × Nat} (h : RefIs w p T dd m) (hb : w.heap[b]? = some (.cells cs U f)) : b ∉ [T] := by
  obtain ⟨_, _, _, ⟨es, clock, hT, _⟩, _⟩ := h
  simpa using map_ne hb hT
theorem SlAt.low {w w1 : World} {N size n c : Nat} {a : Option Addr} {cs : List Value} {S : List Nat} (h : SlAt w (.slice a n c) size n cs) (hl : LowA N n a) (hf : Fr S w w1) (hS : ∀ g ∈ S, N ≤ g) : SlAt w1 (.slice a n c) size n cs := by
  refine ⟨h.len, h.form, fun h0 => ?_⟩
  obtain ⟨b, off, c', e, hb, hc⟩ := h.cell h0
  cases e
  have h1 := hl h0 b off rfl
  exact ⟨b, off, _, rfl, Nat.lt_of_lt_of_le hb hf.size, fun j x hx => (hf.cell (p := ⟨b, off + j, none⟩) hb (fun hm => by have h2 := hS b hm; omega)).trans (hc j x hx)⟩

set_option maxRecDepth 100000 in
set_option maxHeartbeats 6400000 in
theorem keep22 (N PB p tb mb rp T : Nat) (dd : Int) (m n : List (Sp × Tr)) (o : Op22) (w : World) (hP : w.heap[PB]? = some (.cells #[.pointer (some ⟨p, 0, none⟩), .pointer (some ⟨rp, 0, none⟩)] tPr (0, 0)))
    (hN : N ≤ w.heap.size) (hI : PairIs N w p tb mb rp T dd m n) (hO : OpOk N w o) :
    Calls Try.prog 91 #[.pointer (some ⟨PB, 0, none⟩), o.val] w fun e w1 => e = .returned (.bool true) ∧
      PairIs N w1 p tb mb rp T dd (keepL dd o.s o.v o.ds o.vs m) (keepL dd o.s o.v o.ds o.vs n) ∧ Fr [tb, mb, T] w w1 := by
  have HI := Lib.hid hI
  have HO := Lib.hid hO
  have HP := Lib.hid hP
  clear hI hO hP
  go_enter Try.func91, Try.ntmps91
  go_wp2_with fail
  have h0 : Fr [] w (w.alloc (.cells #[.int .i64 o.k, .int .i64 o.on, .int .i64 o.s.1, .int .i64 o.s.2, .int .i64 o.v.k, .int .i64 o.v.n, .string o.v.s, .slice o.da o.ds.length o.dc, .slice o.va o.vs.length o.vc, .int .i64 o.i] tOp)) := (Fr.refl [] w).alloc _
  have hOB := heap_new w (.cells #[.int .i64 o.k, .int .i64 o.on, .int .i64 o.s.1, .int .i64 o.s.2, .int .i64 o.v.k, .int .i64 o.v.n, .string o.v.s, .slice o.da o.ds.length o.dc, .slice o.va o.vs.length o.vc, .int .i64 o.i] tOp)
  generalize w.alloc (.cells #[.int .i64 o.k, .int .i64 o.on, .int .i64 o.s.1, .int .i64 o.s.2, .int .i64 o.v.k, .int .i64 o.v.n, .string o.v.s, .slice o.da o.ds.length o.dc, .slice o.va o.vs.length o.vc, .int .i64 o.i] tOp) = W0 at *
  have hd0 := cell_of hOB 7
  have hx0 := cell_of hOB 8
  have hW0 := lt_of hOB
  refine keepA PB w.heap.size o.val o.da o.va o.dc o.vc o.ds o.vs W0 (Lib.hid (HO.out.ds.fr0 h0)) (Lib.hid (HO.out.vs.fr0 h0)) (Lib.hid HO.out.dl) (Lib.hid HO.out.vl) hd0 hx0 _ ?_
  intro g1 cap1 g2 cap2 u s12 s13 s15 s16 s17 s18 s19 s21 s22 s23 hFu a1 a2
  dsimp only
  have hU := h0.trans0 hFu
  have hPu := hU.heap HP.out (by simp)
  have hOu := hFu.heap hOB (by simp)
  obtain ⟨b1, b2, b3, cur1, b4, b5, b6⟩ := own_cap a1
  obtain ⟨d1, d2, d3, cur2, d4, d5, d6⟩ := own_cap a2
  unfold maxLen at b2 d2
  have hds1 : SpotsAt u (.slice (some ⟨g1, 0, none⟩) o.ds.length cap1) o.ds := by
    show SlAt _ _ _ _ _
    have := SlAt.front (SlAt.of_owns a1) o.ds.length (by omega)
    rw [flat_take spC 2 (fun _ => rfl)] at this
    simpa using this
  have hvs1 : ValsAt u (.slice (some ⟨g2, 0, none⟩) o.vs.length cap2) o.vs := by
    show SlAt _ _ _ _ _
    have := SlAt.front (SlAt.of_owns a2) o.vs.length (by omega)
    rwa [List.take_left' (flat_len vC 3 (fun _ => rfl) o.vs)] at this
  have hSu := HI.out.st.fr0 hU
  have hRu := HI.out.rf.fr0 hU
  have hXu := (RefX.of HI.out.rf (X := [g1, g2]) (by intro g hg; simp only [List.mem_cons, List.not_mem_nil, or_false] at hg; omega)).fr hU (by simp) (NotD.nil w)
  have hOoff := hSu.off hOu (by decide)
  have hPoff := hSu.off hPu (by decide)
  have hTn : T ∉ [tb, mb] := by
    obtain ⟨_, _, ls, ⟨ht, _⟩, _⟩ := hSu
    obtain ⟨_, _, _, ⟨es2, clock2, hT, _⟩, _⟩ := hRu
    simp only [List.mem_cons, List.not_mem_nil, or_false, not_or]
    exact ⟨fun e => map_ne ht hT e.symm, fun e => HI.out.ne e.symm⟩
  have HX := Lib.hid (fun (w3 : World) (h3 : Fr [tb, mb] u w3) => hXu.fr h3 hTn hSu.notD)
  have HA1 := Lib.hid (fun (w3 : World) (h3 : Fr [tb, mb] u w3) => owns_frT a1 h3 (fun b hb cur => (hSu.notD b hb cur).1))
  have HA2 := Lib.hid (fun (w3 : World) (h3 : Fr [tb, mb] u w3) => owns_frT a2 h3 (fun b hb cur => (hSu.notD b hb cur).2))
  have HRS := Lib.hid (fun (w3 : World) (h3 : Fr [tb, mb] u w3) => hRu.frSt hSu HI.out.ne h3)
  have HDS1 := Lib.hid hds1
  have HVS1 := Lib.hid hvs1
  have HSU := Lib.hid hSu
  have HOU := Lib.hid hOu
  have HPU := Lib.hid hPu
  have hPc := cell_of hPu
  have hOc := cell_of hOu
  have hg1u := lt_of b4
  have hg2u := lt_of d4
  have hW0u := hFu.size
  have HU := Lib.hid hU
  clear hds1 hvs1 hSu hRu hXu a1 a2 b4 b5 b6 d4 d5 d6 hOu hPu hFu h0 hOB hd0 hx0
  go_wp2_with fail
  go_still_tail 10, (by kernel_rfl)
  change wpList _ _ _ _ _ u.drew
  have hdr : Fr [] u u.drew := (Fr.refl [] u).drew
  go_wp2_with (go_at_call 15; refine (traceKeep p tb mb dd o.s o.v _ _ o.ds o.vs m _ (HSU.out.fr0 hdr) (HDS1.out.fr0 hdr) (HVS1.out.fr0 hdr) HO.out.sz HO.out.szs).mono ?_; rintro e w3 ⟨rfl, hS3, h3'⟩)
  have h3 : Fr [tb, mb] u w3 := (hdr.mono (by simp)).transS h3'
  have hP3 := h3.heap HPU.out hPoff
  have hO3 := h3.heap HOU.out hOoff
  have HP3 := Lib.hid hP3
  have HO3 := Lib.hid hO3
  have hPc := cell_of hP3
  have hOc := cell_of hO3
  have HS3 := Lib.hid hS3
  have HR3 := Lib.hid (HRS.out w3 h3)
  have HX3 := Lib.hid (HX.out w3 h3)
  have HA13 := Lib.hid (HA1.out w3 h3)
  have HA23 := Lib.hid (HA2.out w3 h3)
  have hw3 := h3.size
  have H3 := Lib.hid ((HU.out.mono (by simp)).transS h3)
  clear hS3 h3 h3' hdr hP3 hO3 HRS HX HA1 HA2 HU HPU HOU
  go_wp2_with fail
  go_still_tail 12, (by kernel_rfl)
  change wpList _ _ _ _ _ w3.drew
  have hdr : Fr [] w3 w3.drew := (Fr.refl [] w3).drew
  have hGn : n.length ≤ 65536 := (HI.out.gm.same HI.out.sm HI.out.rf.nodup).le
  have hNt : ∀ g ∈ [tb, mb], N ≤ g := by
    have h1 := HI.out.n1
    have h2 := HI.out.n2
    intro g hg
    simp only [List.mem_cons, List.not_mem_nil, or_false] at hg
    rcases hg with rfl | rfl <;> assumption
  have HDA := Lib.hid (SlAt.low HO.out.ds HO.out.dlow H3.out hNt)
  have HVA := Lib.hid (SlAt.low HO.out.vs HO.out.vlow H3.out hNt)
  go_wp2_with (go_at_call 117; refine (refKeep rp T dd o.s o.v _ _ o.ds o.vs n _ (HR3.out.fr0 hdr) hGn (HDA.out.fr0 hdr) (HVA.out.fr0 hdr) HO.out.sz HO.out.szs).mono ?_; rintro e w4 ⟨rfl, hR4, h4', hX4⟩)
  have h4 : Fr [T] w3 w4 := (hdr.mono (by simp)).transS h4'
  have hX4 := hX4 [g1, g2] (by intro g hg; simp only [List.mem_cons, List.not_mem_nil, or_false] at hg; show g < w3.heap.size; omega) (HX3.out.fr hdr (by simp) (NotD.nil w3))
  have hP4 := h4.heap HP3.out (HR3.out.off HP3.out)
  have hO4 := h4.heap HO3.out (HR3.out.off HO3.out)
  have HA14 := Lib.hid (owns_frT HA13.out h4 (fun b hb cur => (HR3.out.notD b hb cur).1))
  have hA24 := owns_frT HA23.out h4 (fun b hb cur => (HR3.out.notD b hb cur).2)
  have HS4 := Lib.hid (HS3.out.frRef HR3.out HI.out.ne h4)
  have HR4 := Lib.hid hR4
  have HX4 := Lib.hid hX4
  have H4 : Hid (Fr [tb, mb, T] w w4) := by
    show Fr _ _ _
    refine (H3.out.mono (fun x hx => ?_)).trans h4 (fun x hx => ?_)
    · simp only [List.mem_cons, List.not_mem_nil, or_false] at hx ⊢
      rcases hx with rfl | rfl <;> simp
    · rw [List.mem_singleton] at hx; simp [hx]
  have hkE : keepE o.s o.v o.ds o.vs n = keepE o.s o.v o.ds o.vs m := (keepE_same HI.out.sm HI.out.gm.nd HI.out.rf.nodup o.s o.v o.ds o.vs).symm
  rw [hkE]
  have HOB4 := Lib.hid hO4
  have hOc := cell_of hO4
  obtain ⟨_, _, _, cur, hcur, hcs, hct⟩ := own_cap hA24
  have HC := Lib.hid hcur
  have HCS := Lib.hid hcs
  have hcell : ∀ j x, (o.vs.flatMap vC ++ [Value.int .i64 1, .int .i64 (-99), .string ⟨#[]⟩])[j]? = some x → w4.cell? ⟨g2, j, none⟩ = some x := take_cells hcur hct
  have hfl := flat_len vC 3 (fun _ => rfl) o.vs
  have m0 : w4.cell? ⟨g2, o.vs.length * 3, none⟩ = some (.int .i64 1) := hcell _ _ (by rw [List.getElem?_append_right (by omega), hfl, Nat.sub_self]; rfl)
  have m1 : w4.cell? ⟨g2, o.vs.length * 3 + 1, none⟩ = some (.int .i64 (-99)) := hcell _ _ (by rw [List.getElem?_append_right (by omega), hfl, Nat.add_sub_cancel_left]; rfl)
  have m2 : w4.cell? ⟨g2, o.vs.length * 3 + 2, none⟩ = some (.string ⟨#[]⟩) := hcell _ _ (by rw [List.getElem?_append_right (by omega), hfl, Nat.add_sub_cancel_left]; rfl)
  have HFL : Hid (∀ (k : Nat) (hk : k < o.vs.length), cur[k * 3]? = some (.int .i64 o.vs[k].k) ∧ cur[k * 3 + 1]? = some (.int .i64 o.vs[k].n) ∧ cur[k * 3 + 2]? = some (.string o.vs[k].s)) := by
    show ∀ (k : Nat) (hk : k < o.vs.length), _
    intro k hk
    have key : ∀ j, j < 3 → cur[k * 3 + j]? = (vC o.vs[k])[j]? := fun j hj => by
      have h1 : (o.vs.flatMap vC ++ [Value.int .i64 1, .int .i64 (-99), .string ⟨#[]⟩])[k * 3 + j]? = (vC o.vs[k])[j]? := by
        rw [List.getElem?_append_left (by omega), flat_get vC 3 (fun _ => rfl) o.vs k j hk hj]
      rw [← h1, ← hct, List.getElem?_take_of_lt (by omega), Array.getElem?_toList]
    exact ⟨key 0 (by omega), key 1 (by omega), key 2 (by omega)⟩
  have hw1 : IntKind.i64.wrap ((o.vs.length : Int) + 1) = (o.vs.length : Int) + 1 := by rw [IntKind.wrap_i64]; omega
  have hn1 : ((o.vs.length : Int) + 1).toNat = o.vs.length + 1 := by omega
  have hle : o.vs.length + 1 ≤ cap2 := by omega
  have hle2 : (o.vs.length : Int) + 1 ≤ (cap2 : Int) := by omega
  have hlt1 : (o.vs.length : Int) < (o.vs.length : Int) + 1 := by omega
  have hge1 : (0 : Int) ≤ (o.vs.length : Int) := by omega
  have hge2 : (0 : Int) ≤ (o.vs.length : Int) + 1 := by omega
  have hg2l := lt_of hcur
  clear hR4 hX4 h4 h4' hP4 hO4 hA24 hcur hcs hct hcell hfl hkE hdr HR3 HS3 HX3 HA13 HA23 HP3 HO3 hPc H3 HDA HVA hNt
  go_upto_region 4 with fail
  go_cut [9] (fun a wx => a = .bool true ∧ Fr [] w4 wx)
  case first =>
    go_region_held3 (fun u => u.cell? ⟨g2, o.vs.length * 3, none⟩ = some (.int .i64 1) ∧ u.cell? ⟨g2, o.vs.length * 3 + 1, none⟩ = some (.int .i64 (-99)) ∧ u.cell? ⟨g2, o.vs.length * 3 + 2, none⟩ = some (.string ⟨#[]⟩))
      (first | exact ⟨m0, m1, m2⟩ | exact hS3)
      ((go_at_call 16; refine (numC (-99) _).mono ?_; rintro e w5 ⟨rfl, h5'⟩; have h5 : Fr [] w4 w5 := ((Fr.refl [] w4).drew).transS h5'; have hS3 : w5.cell? ⟨g2, o.vs.length * 3, none⟩ = some (.int .i64 1) ∧ w5.cell? ⟨g2, o.vs.length * 3 + 1, none⟩ = some (.int .i64 (-99)) ∧ w5.cell? ⟨g2, o.vs.length * 3 + 2, none⟩ = some (.string ⟨#[]⟩) := ⟨ce_call h5 m0, ce_call h5 m1, ce_call h5 m2⟩))
    all_goals
      go_wp2_with fail
      go_meet
      exact ⟨rfl, h5⟩
  case rest =>
    obtain ⟨rfl, hWx⟩ := hcut
    have hCc := hWx.heap HC.out (by simp)
    have HWX := Lib.hid hWx
    have hNt : ∀ g ∈ [tb, mb, T], N ≤ g := by
      have h1 := HI.out.n1
      have h2 := HI.out.n2
      have h3 := HI.out.n3
      intro g hg
      simp only [List.mem_cons, List.not_mem_nil, or_false] at hg
      rcases hg with rfl | rfl | rfl <;> assumption
    have HNT := Lib.hid hNt
    have hg2g : ∀ x ∈ [g2], x ∈ [tb, mb, T] ∨ w.heap.size ≤ x := fun x hx => by rw [List.mem_singleton] at hx; omega
    have HG2 := Lib.hid hg2g
    clear hOc m0 m1 m2 hWx hw1 hn1 hle hle2 hlt1 hge2 hg2l hNt hg2g
    go_wp2_with fail
    go_loopw [9, 10] (fun a i wr => ∃ k : Nat, i = .int .i64 (k : Int) ∧ a = .bool true ∧ k ≤ o.vs.length ∧ Fr [g2] w4 wr ∧ ∃ cur' : Array Value, wr.heap[g2]? = some (.cells cur' tVa (0, 0)) ∧ cur'.size = cap2 * 3 ∧ ∀ j, k * 3 ≤ j → cur'[j]? = cur[j]?) (fun _ i _ => o.vs.length - (intOf i).toNat)
    case atStart => exact ⟨0, rfl, rfl, by omega, HWX.out.mono (by simp), cur, hCc, HCS.out, fun _ _ => rfl⟩
    case round =>
      obtain ⟨k, rfl, rfl, hk, hf, cur', hc', hs', hj⟩ := hrel
      have HFw := Lib.hid (H4.out.trans hf HG2.out)
      have hoB : w.heap.size ∉ [g2] := by simp; omega
      have hOw := hf.heap HOB4.out hoB
      by_cases hlt : k < o.vs.length
      · have o8 := cell_of hOw 8
        obtain ⟨b, off, _, e, hb, y0, y1, y2⟩ := vals_cells (SlAt.low HO.out.vs HO.out.vlow HFw.out HNT.out) hlt
        injection e with e1 e2 e3
        rw [e1] at o8
        have hx := HFL.out k hlt
        have x0 : wr.cell? ⟨g2, k * 3, none⟩ = some (.int .i64 o.vs[k].k) := ((cell_of hc' _).trans (hj _ (by omega))).trans hx.1
        have x1 : wr.cell? ⟨g2, k * 3 + 1, none⟩ = some (.int .i64 o.vs[k].n) := ((cell_of hc' _).trans (hj _ (by omega))).trans hx.2.1
        have x2 : wr.cell? ⟨g2, k * 3 + 2, none⟩ = some (.string o.vs[k].s) := ((cell_of hc' _).trans (hj _ (by omega))).trans hx.2.2
        generalize o.vs[k] = d at *
        have hk1 : (k : Int) < (o.vs.length : Int) := by omega
        have hk2 : (0 : Int) ≤ (k : Int) := by omega
        have HJ := Lib.hid hj
        have HC2 := Lib.hid hc'
        have HS2 := Lib.hid hs'
        have HF := Lib.hid hf
        clear hx hj hc' hs' hf hOw e1 e2 e3 hCc
        go_wp2_with fail
        go_region
        go_wp2_with fail
        refine (numC 77 _).mono ?_
        rintro e w5 ⟨rfl, h5⟩
        have hF5 := HF.out.drew.trans0 h5
        have hc5 := h5.heap (show wr.drew.heap[g2]? = _ from HC2.out) (by simp)
        have z0 := cell_of hc5
        have zf := free_of hc5
        have hgl5 := lt_of hc5
        clear x0 x1 x2 y0 y1 y2 o8 h5
        have hs20 : (cur'.size : Int) = (cap2 : Int) * 3 := by have := HS2.out; omega
        have z1 : w5.cell? ⟨g2, k * 3, none⟩ = some (cur'[k * 3]?.getD undef) := by rw [z0, Array.getElem?_eq_getElem (by have := HS2.out; omega)]; rfl
        have z2 : w5.cell? ⟨g2, k * 3 + 1, none⟩ = some (cur'[k * 3 + 1]?.getD undef) := by rw [z0, Array.getElem?_eq_getElem (by have := HS2.out; omega)]; rfl
        have z3 : w5.cell? ⟨g2, k * 3 + 2, none⟩ = some (cur'[k * 3 + 2]?.getD undef) := by rw [z0, Array.getElem?_eq_getElem (by have := HS2.out; omega)]; rfl
        clear z0 hs20
        go_wp2
        go_roundw
        case rel =>
          refine ⟨k + 1, by go_num, rfl, by omega, ((hF5.setCell (.inl (by simp)) _).setCell (.inl (by simp)) _).setCell (.inl (by simp)) _, _, set_of (set_of (set_of hc5 _ _) _ _) _ _, by simp [HS2.out], fun j hj => ?_⟩
          rw [Array.getElem?_setIfInBounds_ne (by omega), Array.getElem?_setIfInBounds_ne (by omega), Array.getElem?_setIfInBounds_ne (by omega)]
          exact HJ.out j (by omega)
        case measure => simp [intOf]; omega
      · obtain rfl : k = o.vs.length := by omega
        have o7 := cell_of hOw 7
        have hrow := owns_frT HA14.out hf (fun b hb cur2 h => by
          rw [List.mem_singleton] at hb
          subst hb
          rw [HC.out] at h
          injection h with h
          injection h with _ h2 _
          cases h2)
        have HROW := Lib.hid hrow
        have HF := Lib.hid hf
        have HCW := Lib.hid hc'
        clear hrow hf hj hs' hc' hOw hCc
        go_wp2_with fail
        refine (backC g1 cap1 W0.heap.size _ o.ds _ HROW.out (SlAt.low HO.out.ds HO.out.dlow HFw.out HNT.out) (fun h0 b off c e => by injection e with e1 _ _; have := HO.out.dlow h0 b off e1; omega)).mono ?_
        rintro e w6 ⟨rfl, h6⟩
        go_wp2
        go_ret
        obtain ⟨_, _, r3, cu1, r4, _, _⟩ := own_cap HA14.out
        have hFin : Fr [g1, g2] w4 w6 := (HF.out.mono (by simp)).trans h6 (by simp)
        have hlt4 := HP.out
        have hw04 := H4.out.size
        have hX : ∀ b, b < w.heap.size → b ∉ [g1, g2] := fun b hb hm => by
          simp only [List.mem_cons, List.not_mem_nil, or_false] at hm
          omega
        obtain ⟨q0, _, ls0, ⟨q1, es0, clock0, q2, _⟩, _⟩ := HI.out.st
        obtain ⟨q3, _, _, ⟨_, _, q4, _⟩, _⟩ := HI.out.rf
        have hNE : NotE w4 [g1, g2] := by
          intro b hb cur2 h
          simp only [List.mem_cons, List.not_mem_nil, or_false] at hb
          rcases hb with rfl | rfl
          · rw [r4] at h
            injection h with h
            injection h with _ h2 _
            cases h2
          · rw [HC.out] at h
            injection h with h
            injection h with _ h2 _
            cases h2
        obtain ⟨lsN, hN1, hN2⟩ := HX4.out.frX hFin (hX T (lt_of q4))
        refine ⟨rfl, ⟨HS4.out.fr hFin (hX p (lt_of q0)) (hX tb (lt_of q1)) (hX mb (lt_of q2)) hNE, ⟨hFin.heap HR4.out.st (hX rp (lt_of q3)), HR4.out.wd, lsN, hN1, hN2⟩,
          keepL_same HI.out.sm HI.out.gm.nd HI.out.rf.nodup dd o.s o.v o.ds o.vs, HI.out.gm.keep o.s o.v o.ds o.vs, HI.out.ne, HI.out.n1, HI.out.n2, HI.out.n3⟩, H4.out.trans hFin (fun x hx => .inr ?_)⟩
        simp only [List.mem_cons, List.not_mem_nil, or_false] at hx
        omega
end Go.Proofs.Ytldppdafgbipjaa
