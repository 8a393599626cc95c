/-
  quadrilleref21.Leads: what lies in memory on the way.
  quadrilleref21.Leads: those that point to none.
  quadrilleref21.Leads: those that are on rings.
-/
import Derived.Test.YtdlpbpohbkcafaaGreatRfR
import Derived.Test.YtdlpbpohbkcafaaGreatCLeadM
import Derived.Test.YtdlpbpohbkcafaaGreatRfPE
import Derived.StillTailTactics
namespace Go.Proofs.YtdlpbpohbkcafaaGreat
section
open Go.RowKit Go.Shelf Go.Sort Go.Proofs

def stF (th : Nat → Bool) : Nat → Nat := fun v => if th v = true then 2 else 0
theorem stF_upd (th : Nat → Bool) (v : Nat) : upd (stF th) v 2 = stF (upd th v true) := by
  funext x
  unfold upd stF
  by_cases e : x = v <;> simp [e]
structure LQ (W0 : World) (Ou Th B : Nat) (spots : List Sp) (g : Dg) (st : Nat → Nat) (th : Nat → Bool) (l : List Nat) (lv : Value) (w : World) : Prop where
  out : w.rowIs Ou tLd (spots.length * 6) (outF spots g st)
  th' : w.rowIs Th tB spots.length fun i => .bool (th i)
  row : w.ownsRow B tI 1 lv l.length (l.flatMap nC)
  fr : Fr [Ou, Th] W0 w
  sz : B ≤ w.heap.size
  lo : Ou < B ∧ Th < B ∧ Ou ≠ Th ∧ W0.heap.size = B
section
variable {W0 w w1 : World} {Ou Th B : Nat} {spots : List Sp} {g : Dg} {st : Nat → Nat} {th : Nat → Bool} {l : List Nat} {lv : Value}
theorem LQ.fr0 (h : LQ W0 Ou Th B spots g st th l lv w) (hf : Fr [] w w1) : LQ W0 Ou Th B spots g st th l lv w1 :=
  ⟨row_fr h.out hf (by simp), row_fr h.th' hf (by simp), owns_fr h.row hf (by simp), h.fr.trans0 hf, Nat.le_trans h.sz hf.size, h.lo⟩
theorem outF_put {n v : Nat} {vs : List Value} (h : w.rowIs Ou tLd (n * 6) (outF spots g st)) (hvs : vs = ldC spots v (leadOf g v)) : (w.setCells Ou (v * 6) vs).rowIs Ou tLd (n * 6) (outF spots g (upd st v 2)) := by
  subst hvs
  refine (Go.rowIs_setCells _ _ _ _ h).congr fun i _ => ?_
  by_cases e : i / 6 = v
  · have h1 : v * 6 ≤ i ∧ i < v * 6 + 6 := by omega
    have h2 : i - v * 6 = i % 6 := by omega
    rw [if_pos (by simpa using h1)]
    unfold outF
    rw [e, upd_same, if_pos rfl, h2, List.getD_eq_getElem?_getD]
  · have h1 : ¬ (v * 6 ≤ i ∧ i < v * 6 + 6) := by omega
    rw [if_neg (by simpa using h1)]
    unfold outF
    rw [upd_other e]
theorem LQ.six (h : LQ W0 Ou Th B spots g st th l lv w) {v : Nat} {x0 x1 x2 x3 x4 x5 : Value} (hvs : [x0, x1, x2, x3, x4, x5] = ldC spots v (leadOf g v)) : LQ W0 Ou Th B spots g (upd st v 2) th l lv (six w Ou (v * 6) x0 x1 x2 x3 x4 x5) := by
  have hf := fr_six w Ou (v * 6) x0 x1 x2 x3 x4 x5
  refine ⟨?_, row_fr h.th' hf (by simp; exact fun e => h.lo.2.2.1 e.symm), owns_fr h.row hf (own_low h.row h.lo.1), h.fr.trans hf (fun x hx => .inl (by rw [List.mem_singleton] at hx; simp [hx])), Nat.le_trans h.sz hf.size, h.lo⟩
  rw [six_eq]
  exact row_fr (outF_put h.out hvs) ((Fr.refl [] _).drew) (by simp)
theorem LQ.tell (h : LQ W0 Ou Th B spots g st th l lv w) (v : Nat) : LQ W0 Ou Th B spots g st (upd th v true) l lv (w.setCell ⟨Th, v, none⟩ (.bool true)) :=
  ⟨h.out.setOther h.lo.2.2.1 _, (h.th'.set v _).congr fun i _ => by simp only [upd]; split <;> rfl, owns_fr h.row (fr_cell w Th v _) (own_low h.row h.lo.2.1), h.fr.trans (fr_cell w Th v _) (fun x hx => .inl (by rw [List.mem_singleton] at hx; simp [hx])), by simpa using h.sz, h.lo⟩
theorem LQ.push (h : LQ W0 Ou Th B spots g st th l lv w) {lv2 : Value} {l2 : List Nat} (hg : w.grownBy w1 lv.ownBlock) (ho : w1.ownsRow B tI 1 lv2 l2.length (l2.flatMap nC)) : LQ W0 Ou Th B spots g st th l2 lv2 w1 := by
  have hf := fr_grown hg
  exact ⟨row_fr h.out hf (low_not h.row h.lo.1), row_fr h.th' hf (low_not h.row h.lo.2.1), ho, h.fr.trans hf (fun x hx => .inr (by rw [h.lo.2.2.2]; exact (h.row.lt x (by simpa using hx)).1)), Nat.le_trans h.sz hf.size, h.lo⟩
/-- A lead of the call's own is written. -/
theorem LQ.frE (h : LQ W0 Ou Th B spots g st th l lv w) {E : Nat} {cs : Array Value} (hE : w.heap[E]? = some (.cells cs tLd (0, 0))) (hB : B ≤ E) (hf : Fr [E] w w1) : LQ W0 Ou Th B spots g st th l lv w1 :=
  ⟨row_fr h.out hf (by have := h.lo.1; simp; omega), row_fr h.th' hf (by have := h.lo.2.1; simp; omega), owns_fr h.row hf (fun k hk hm => by rw [List.mem_singleton] at hm; exact own_box h.row hE (by decide) k hk hm), h.fr.trans hf (fun x hx => .inr (by rw [List.mem_singleton] at hx; rw [h.lo.2.2.2]; omega)), Nat.le_trans h.sz hf.size, h.lo⟩
theorem LQ.congr (h : LQ W0 Ou Th B spots g st th l lv w) {st2 : Nat → Nat} (he : st = st2) : LQ W0 Ou Th B spots g st2 th l lv w := he ▸ h
/-- One's six cells. -/
theorem LQ.cell (h : LQ W0 Ou Th B spots g st th l lv w) {v k : Nat} (hv : v < spots.length) (hk : k < 6) (h2 : st v = 2) : w.cell? ⟨Ou, v * 6 + k, none⟩ = some ((ldC spots v (leadOf g v)).getD k default) := by
  rw [h.out.cell (by omega), outF_at hk, if_pos h2]
end
end
section
open Go.RowKit Go.Shelf Go.Sort Go.Proofs

/-- What has been told ahead of place k: rings, and ends. -/
structure LS (g F : Dg) (k : Nat) (th : Nat → Bool) (l : List Nat) : Prop where
  ok : LOk g F th l 0
  rg : ∀ v, v < g.length → Rch1 g v v → v ∈ l
  nn : ∀ v, v < k → nxs g v = [] → v ∈ l
  lt : ∀ v ∈ l, Rch1 g v v ∨ v < k
theorem LS.put {g F : Dg} {k : Nat} {th : Nat → Bool} {l : List Nat} (h : LS g F k th l) (hk : k < g.length) (hn : nxs g k = []) : th k = false ∧ LS g F (k + 1) (upd th k true) (l ++ [k]) := by
  have hno : k ∉ l := fun hm => by
    rcases h.lt k hm with h1 | h1
    · exact nil_no1 hn h1
    · omega
  have hs : th k = false := by
    cases e : th k with
    | false => rfl
    | true => exact absurd ((h.ok.tl k).1 e) hno
  refine ⟨hs, h.ok.put (Nat.zero_le _) hk hs (sink_lead hn).1, fun v hv hr => List.mem_append_left _ (h.rg v hv hr), fun v hv hz => ?_, fun v hv => ?_⟩
  · rcases Nat.lt_or_eq_of_le (Nat.le_of_lt_succ hv) with hlt | rfl
    · exact List.mem_append_left _ (h.nn v hlt hz)
    · simp
  · rcases List.mem_append.1 hv with hv | hv
    · rcases h.lt v hv with h1 | h1
      · exact .inl h1
      · exact .inr (by omega)
    · simp at hv
      exact .inr (by omega)
theorem LS.skip {g F : Dg} {k : Nat} {th : Nat → Bool} {l : List Nat} (h : LS g F k th l) (hn : nxs g k ≠ []) : LS g F (k + 1) th l :=
  ⟨h.ok, h.rg, fun v hv hz => by
    rcases Nat.lt_or_eq_of_le (Nat.le_of_lt_succ hv) with hlt | rfl
    · exact h.nn v hlt hz
    · exact absurd hz hn, fun v hv => (h.lt v hv).imp id (by omega)⟩
set_option maxRecDepth 100000 in
set_option maxHeartbeats 6400000 in
theorem leadsSinks (wg W0 : World) (G Ou Th B : Nat) (spots : List Sp) (g F : Dg) (th0 : Nat → Bool) (l0 : List Nat) (lv : Value) (w : World) {s0 s1 s2 s3 s5 s9 s11 s12 s13 s14 s16 s17 s18 s19 s20 s21 s22 s23 s24 s25 s26 s27 s28 s29 s30 s31 s32 s33 s34 s35 s36 s37 s38 s39 s40 s41 s42 s43 s44 s45 s46 s47 s48 s49 s50 s51 s52 s53 s54 s55 s56 s57 s58 s59 s60 s61 s62 s63 s64 s65 s66 s67 s68 s69 s70 s71 s72 s73 s74 s75 s76 s77 s78 s79 s80 s81 s82 s83 s84 s85 s86 s87 s88 s89 s90 s91 s92 s93 s94 s95 s96 s97 s98 s99 s100 s101 s102 s103 s104 s105 s106 s107 s108 s109 s110 s111 s112 s113 s114 s115 s116 s117 s118 s119 s120 s121 s122 s123 s124 s125 s126 s127 s128 s129 s130 s131 s132 s133 s134 s135 s136 s137 s138 s139 s140 s141 s142 s143 s144 s145 s146 s147 s148 s149 s150 s151 s152 s153 s154 s155 s156 s157 s158 s159 s160 s161 s162 s163 s164 s165 s166 s167 s168 s169 s170 s171 s172 s173 s174 s175 s176 s177 s178 s179 s180 s181 s182 s183 s184 s185 s186 s187 s188 s189 s190 s191 s192 s193 s194 s195 s196 s197 s198 s199 s200 s201 s202 s203 s204 s205 s206 s207 s208 s209 s210 s211 s212 s213 s214 s215 s216 : Value} (hG : RfG wg G spots g F) (hst : Fr [] wg W0) (hO : wg.heap.size ≤ Ou ∧ wg.heap.size ≤ Th) (hlen : spots.length = g.length) (hl : spots.length ≤ 65536)
    (hQ0 : LQ W0 Ou Th B spots g (stF th0) th0 l0 lv w) (hS : LS g F 0 th0 l0) (Q : Exit → Act → World → Prop)
    (hQ : ∀ (n10 n15 n105 n106 n107 n108 n109 n110 n111 n112 n113 n114 n115 n116 n117 n118 n119 n120 n121 n122 n123 n124 n125 n126 n127 n128 n129 n130 n131 n132 n133 n134 n135 n136 n137 n138 n139 n140 n141 n142 n143 : Value) (th : Nat → Bool) (l : List Nat) (w' : World), LQ W0 Ou Th B spots g (stF th) th l n10 w' → LS g F g.length th l → Q .normal { tmps := #[s0, s1, s2, s3, .pointer (some ⟨G, 0, none⟩), s5, .int .i64 (spots.length : Int), .slice (some ⟨Ou, 0, none⟩) spots.length spots.length, .slice (some ⟨Th, 0, none⟩) spots.length spots.length, s9, n10, s11, s12, s13, s14, n15, s16, s17, s18, s19, s20, s21, s22, s23, s24, s25, s26, s27, s28, s29, s30, s31, s32, s33, s34, s35, s36, s37, s38, s39, s40, s41, s42, s43, s44, s45, s46, s47, s48, s49, s50, s51, s52, s53, s54, s55, s56, s57, s58, s59, s60, s61, s62, s63, s64, s65, s66, s67, s68, s69, s70, s71, s72, s73, s74, s75, s76, s77, s78, s79, s80, s81, s82, s83, s84, s85, s86, s87, s88, s89, s90, s91, s92, s93, s94, s95, s96, s97, s98, s99, s100, s101, s102, s103, s104, n105, n106, n107, n108, n109, n110, n111, n112, n113, n114, n115, n116, n117, n118, n119, n120, n121, n122, n123, n124, n125, n126, n127, n128, n129, n130, n131, n132, n133, n134, n135, n136, n137, n138, n139, n140, n141, n142, n143, s144, s145, s146, s147, s148, s149, s150, s151, s152, s153, s154, s155, s156, s157, s158, s159, s160, s161, s162, s163, s164, s165, s166, s167, s168, s169, s170, s171, s172, s173, s174, s175, s176, s177, s178, s179, s180, s181, s182, s183, s184, s185, s186, s187, s188, s189, s190, s191, s192, s193, s194, s195, s196, s197, s198, s199, s200, s201, s202, s203, s204, s205, s206, s207, s208, s209, s210, s211, s212, s213, s214, s215, s216], defers := [] } w') :
    (subC [1, 1, 1, 1, 1, 1, 1, 1, 1, 1, 0, 1] (Tryz.f15.body.getD .skip)).wp Tryz.prog Q { tmps := #[s0, s1, s2, s3, .pointer (some ⟨G, 0, none⟩), s5, .int .i64 (spots.length : Int), .slice (some ⟨Ou, 0, none⟩) spots.length spots.length, .slice (some ⟨Th, 0, none⟩) spots.length spots.length, s9, lv, s11, s12, s13, s14, .int .i64 0, s16, s17, s18, s19, s20, s21, s22, s23, s24, s25, s26, s27, s28, s29, s30, s31, s32, s33, s34, s35, s36, s37, s38, s39, s40, s41, s42, s43, s44, s45, s46, s47, s48, s49, s50, s51, s52, s53, s54, s55, s56, s57, s58, s59, s60, s61, s62, s63, s64, s65, s66, s67, s68, s69, s70, s71, s72, s73, s74, s75, s76, s77, s78, s79, s80, s81, s82, s83, s84, s85, s86, s87, s88, s89, s90, s91, s92, s93, s94, s95, s96, s97, s98, s99, s100, s101, s102, s103, s104, s105, s106, s107, s108, s109, s110, s111, s112, s113, s114, s115, s116, s117, s118, s119, s120, s121, s122, s123, s124, s125, s126, s127, s128, s129, s130, s131, s132, s133, s134, s135, s136, s137, s138, s139, s140, s141, s142, s143, s144, s145, s146, s147, s148, s149, s150, s151, s152, s153, s154, s155, s156, s157, s158, s159, s160, s161, s162, s163, s164, s165, s166, s167, s168, s169, s170, s171, s172, s173, s174, s175, s176, s177, s178, s179, s180, s181, s182, s183, s184, s185, s186, s187, s188, s189, s190, s191, s192, s193, s194, s195, s196, s197, s198, s199, s200, s201, s202, s203, s204, s205, s206, s207, s208, s209, s210, s211, s212, s213, s214, s215, s216], defers := [] } w := by
  have HQ := Lib.hid hQ
  have HG := Lib.hid hG
  have HST : Hid (∀ u, Fr [Ou, Th] W0 u → Fr [] wg u) := fun u hf => hst.trans hf (fun x hx => .inr (by
    simp at hx
    rcases hx with rfl | rfl
    · exact hO.1
    · exact hO.2))
  have HLEN := Lib.hid hlen
  have HQ0 := Lib.hid hQ0
  have HS := Lib.hid hS
  obtain ⟨i1, hi1, hy0, hy1, hy2⟩ := info_parts infoInt
  clear hQ hG hst hQ0 hS hlen
  show (Code.block 6 _).wp _ _ _ _
  dsimp only
  go_wp2_with fail
  go_loopw [10, 15] (fun lv iv wr => ∃ (k : Nat) (th : Nat → Bool) (l : List Nat), iv = .int .i64 (k : Int) ∧ k ≤ spots.length ∧ LQ W0 Ou Th B spots g (stF th) th l lv wr ∧ LS g F k th l) (fun _ iv _ => spots.length - (intOf iv).toNat)
  case atStart => exact ⟨0, th0, l0, rfl, by omega, HQ0.out, HS.out⟩
  case round =>
    obtain ⟨k, th, l, rfl, hk, hq, hs⟩ := hrel
    have HL := Lib.hid hq
    have HSK := Lib.hid hs
    clear hq hs HQ0 HS
    by_cases hlt : k < spots.length
    · have hk1 : (k : Int) < (spots.length : Int) := by omega
      have hkg : k < g.length := by have := HLEN.out; omega
      have hkg1 : (k : Int) < (g.length : Int) := by omega
      obtain ⟨av, tv, fv, hbx, hav, htv, _⟩ := (HG.out.fr0 (HST.out _ HL.out.fr)).ex
      obtain ⟨tb, t1, _, u, e, htb, d0, hu⟩ := htv.cell hkg
      subst e
      rw [← nxs_get hkg] at hu
      obtain ⟨uq, uc, rfl, hu1, hu2⟩ := hu.form
      have b0 := cell_of hbx 0
      have b1 := cell_of hbx 1
      have hGl := lt_of hbx
      obtain ⟨ab, ao, _, e, hab, a0, a1⟩ := spots_cell hav hlt
      subst e
      have HSP : Hid (spots.getD k (0, 0) = spots[k]) := by
        show _ = _
        rw [List.getD_eq_getElem?_getD, List.getElem?_eq_getElem hlt]
        rfl
      generalize spots[k] = s at *
      clear hbx hav htv hu
      by_cases hz : (nxs g k).length = 0
      · have hnil : nxs g k = [] := List.eq_nil_of_length_eq_zero hz
        obtain ⟨hth, hput⟩ := HSK.out.put hkg hnil
        have HPUT := Lib.hid hput
        have HVS : Hid ([Value.int .i64 s.1, .int .i64 s.2, .bool false, .int .i64 0, .int .i64 s.1, .int .i64 s.2] = ldC spots k (leadOf g k)) := by
          show _ = _
          rw [(sink_lead hnil).2]
          show _ = [Value.int .i64 (spots.getD k (0, 0)).1, .int .i64 (spots.getD k (0, 0)).2, .bool false, .int .i64 ((0 : Nat) : Int), .int .i64 (spots.getD k (0, 0)).1, .int .i64 (spots.getD k (0, 0)).2]
          rw [HSP.out]
          rfl
        have hll : l.length ≤ 65536 := by
          have := HSK.out.ok.len
          have := HLEN.out
          omega
        clear hnil hput hth
        have o0 := HL.out.out.cell (i := k * 6) (by omega)
        have o1 := HL.out.out.cell (i := k * 6 + 1) (by omega)
        have o2 := HL.out.out.cell (i := k * 6 + 2) (by omega)
        have o3 := HL.out.out.cell (i := k * 6 + 3) (by omega)
        have o4 := HL.out.out.cell (i := k * 6 + 4) (by omega)
        have o5 := HL.out.out.cell (i := k * 6 + 5) (by omega)
        have q0 := HL.out.out.frozen (k * 6)
        have q1 := HL.out.out.frozen (k * 6 + 1)
        have q2 := HL.out.out.frozen (k * 6 + 2)
        have q3 := HL.out.out.frozen (k * 6 + 3)
        have q4 := HL.out.out.frozen (k * 6 + 4)
        have q5 := HL.out.out.frozen (k * 6 + 5)
        have hOl := HL.out.out.lt
        rw [hz] at d0
        clear hz
        go_upto_region 28 with fail
        go_still_tail 17, (by kernel_rfl)
        change wpList _ _ _ _ _ wr.drew
        go_upto_region 29 with fail
        have hL2 := HL.out.six HVS.out
        dsimp only [six] at hL2
        have hL3 := (hL2.tell k).congr (stF_upd th k)
        have t0 := hL2.th'.cell hlt
        have tf := hL2.th'.frozen k
        have tl := hL2.th'.lt
        have HL3 := Lib.hid hL3
        have hBz : B ≤ (((((((wr.setCell ⟨Ou, k * 6, none⟩ (.int .i64 s.1)).setCell ⟨Ou, k * 6 + 1, none⟩ (.int .i64 s.2)).setCell ⟨Ou, k * 6 + 2, none⟩ (.bool false)).setCell ⟨Ou, k * 6 + 3, none⟩ (.int .i64 0)).setCell ⟨Ou, k * 6 + 4, none⟩ (.int .i64 s.1)).setCell ⟨Ou, k * 6 + 5, none⟩ (.int .i64 s.2)).drew).heap.size := hL2.sz
        clear hL2 hL3 o0 o1 o2 o3 o4 o5 q0 q1 q2 q3 q4 q5 hOl a0 a1 hab d0 htb b0 b1 hGl HSK HVS
        generalize ((((((wr.setCell ⟨Ou, k * 6, none⟩ (.int .i64 s.1)).setCell ⟨Ou, k * 6 + 1, none⟩ (.int .i64 s.2)).setCell ⟨Ou, k * 6 + 2, none⟩ (.bool false)).setCell ⟨Ou, k * 6 + 3, none⟩ (.int .i64 0)).setCell ⟨Ou, k * 6 + 4, none⟩ (.int .i64 s.1)).setCell ⟨Ou, k * 6 + 5, none⟩ (.int .i64 s.2)).drew = W2 at *
        go_upto_region 30 with fail
        have hB3 : B ≤ (W2.setCell ⟨Th, k, none⟩ (.bool true)).heap.size := HL3.out.sz
        clear t0 tf tl
        generalize W2.setCell ⟨Th, k, none⟩ (.bool true) = W3 at *
        have hown := HL3.out.row.alloc (.cells #[.int .i64 (k : Int)] tI)
        obtain ⟨lq, ln, lc, rfl⟩ := own_form hown
        go_wp2_with (at_builtin; refine wpList_append_own _ rfl _ _ 47 rfl B tI i1 _ 1 8 Tryz.underlying47 hi1 hy0 hy1 hy2 rfl (by decide) _ _ _ rfl hown ⟨W3.heap.size, 0, none⟩ 1 1 [.int .i64 (k : Int)] rfl rfl (by have := news_of W3 [.int .i64 (k : Int)] tI; simpa using this) (one_mem rfl) (by unfold maxLen; omega) (by omega) (by simp; omega) ?_; intro lv9 w9 hown9 hgrow _)
        have HL9 := Lib.hid ((HL3.out.fr0 ((Fr.refl [] W3).alloc (.cells #[.int .i64 (k : Int)] tI))).push (l2 := l ++ [k]) hgrow (by simpa using hown9))
        go_roundw
        case rel => exact ⟨k + 1, upd th k true, l ++ [k], by go_num, by omega, HL9.out, HPUT.out⟩
        case measure => simp [intOf]; omega
      · have HS2 := Lib.hid (HSK.out.skip (fun e => hz (by rw [e]; rfl)))
        have hbe : (((nxs g k).length : Int) == 0) = false := by rw [beq_eq_false_iff_ne]; omega
        have hbe2 : ¬ ((nxs g k).length : Int) = 0 := by omega
        clear hz HSK a0 a1 hab b0
        generalize (nxs g k).length = nm at *
        go_wp2
        go_roundw
        case rel => exact ⟨k + 1, th, l, by go_num, by omega, HL.out, HS2.out⟩
        case measure => simp [intOf]; omega
    · obtain rfl : k = spots.length := by omega
      have hs2 := HSK.out
      rw [HLEN.out] at hs2
      have HS2 := Lib.hid hs2
      clear hs2
      go_wp2
      apply HQ.out
      · exact HL.out
      · exact HS2.out
end
section
open Go.RowKit Go.Shelf Go.Sort Go.Proofs

theorem flatten_nodup : ∀ {Rn : List (List Nat)}, (∀ r ∈ Rn, r.Nodup) → (Rn.Pairwise fun r q => ∀ a ∈ r, a ∉ q) → Rn.flatten.Nodup
  | [], _, _ => by simp
  | r :: Rn, h1, h2 => by
    obtain ⟨h3, h4⟩ := List.pairwise_cons.1 h2
    rw [List.flatten_cons, List.nodup_append]
    refine ⟨h1 r (by simp), flatten_nodup (fun q hq => h1 q (by simp [hq])) h4, fun a ha b hb e => ?_⟩
    subst e
    obtain ⟨q, hq, hm⟩ := List.mem_flatten.1 hb
    exact h3 q hq a ha hm
/-- The rings, as far as they have been told. -/
structure LR (g F : Dg) (Rn : List (List Nat)) (i k : Nat) (th : Nat → Bool) (l : List Nat) : Prop where
  ok : LOk g F th l 0
  eq : l = (Rn.take i).flatten ++ (Rn.getD i []).take k
theorem LR.put {g F : Dg} (h1 : ∀ v, (nxs g v).length ≤ 1) {Rn : List (List Nat)} (hR : RingsOk g Rn fun v => v < g.length) {i k : Nat} {th : Nat → Bool} {l : List Nat} (h : LR g F Rn i k th l) (hi : i < Rn.length) (hk : k < Rn[i].length) : LR g F Rn i (k + 1) (upd th Rn[i][k] true) (l ++ [Rn[i][k]]) ∧ leadOf g Rn[i][k] = ⟨true, 0, Rn[i].headD 0⟩ ∧ Rn[i][k] < g.length := by
  obtain ⟨a1, a2, a3⟩ := ring_lead h1 hR (List.getElem_mem hi) (List.getElem_mem hk)
  have hg : Rn.getD i [] = Rn[i] := by rw [List.getD_eq_getElem?_getD, List.getElem?_eq_getElem hi]; rfl
  have hnd : ∀ r ∈ Rn, r.Nodup := fun r hr => by
    obtain ⟨p, rfl, h2, _⟩ := hR.el r hr
    exact (sortN_perm p).nodup_iff.2 h2
  have hN := flatten_nodup hnd hR.apart
  have hpre : (l ++ [Rn[i][k]]).Nodup := by
    have e : l ++ [Rn[i][k]] = (Rn.take i).flatten ++ Rn[i].take (k + 1) := by rw [h.eq, hg, List.append_assoc, List.take_succ_eq_append_getElem hk]
    rw [e]
    refine hN.sublist ?_
    have e2 : Rn.flatten = (Rn.take i).flatten ++ (Rn[i] ++ (Rn.drop (i + 1)).flatten) := by
      conv => lhs; rw [← List.take_append_drop i Rn, List.drop_eq_getElem_cons hi]
      rw [List.flatten_append, List.flatten_cons]
    rw [e2]
    exact List.Sublist.append_left ((List.take_sublist _ _).trans (List.sublist_append_left _ _)) _
  have hno : Rn[i][k] ∉ l := fun hm => (List.nodup_append.1 hpre).2.2 _ hm _ (by simp) rfl
  have hs : th Rn[i][k] = false := by
    cases e : th Rn[i][k] with
    | false => rfl
    | true => exact absurd ((h.ok.tl _).1 e) hno
  refine ⟨⟨h.ok.put (Nat.zero_le _) a3 hs a1, ?_⟩, a2, a3⟩
  rw [h.eq, hg, List.append_assoc, List.take_succ_eq_append_getElem hk]
theorem LR.next {g F : Dg} {Rn : List (List Nat)} {i : Nat} {th : Nat → Bool} {l : List Nat} (hi : i < Rn.length) (h : LR g F Rn i Rn[i].length th l) : LR g F Rn (i + 1) 0 th l := by
  refine ⟨h.ok, ?_⟩
  have hg : Rn.getD i [] = Rn[i] := by rw [List.getD_eq_getElem?_getD, List.getElem?_eq_getElem hi]; rfl
  rw [h.eq, hg, List.take_length, List.take_zero, List.append_nil, List.take_succ_eq_append_getElem hi, List.flatten_append]
  simp
theorem LR.done {g F : Dg} {Rn : List (List Nat)} (hR : RingsOk g Rn fun v => v < g.length) {th : Nat → Bool} {l : List Nat} (h : LR g F Rn Rn.length 0 th l) : LS g F 0 th l := by
  have e : l = Rn.flatten := by rw [h.eq]; simp
  refine ⟨h.ok, fun v hv hr => ?_, fun v hv => by omega, fun v hv => .inl ?_⟩
  · obtain ⟨r, hr, hm⟩ := hR.all v hv hr
    rw [e]
    exact List.mem_flatten.2 ⟨r, hr, hm⟩
  · rw [e] at hv
    obtain ⟨r, hr, hm⟩ := List.mem_flatten.1 hv
    obtain ⟨p, rfl, _, _, _, h5⟩ := hR.el r hr
    have := mem_sortN.1 hm
    exact ((h5 v this v).1 this).1
set_option maxRecDepth 100000 in
set_option maxHeartbeats 6400000 in
theorem leadsRings (wg W0 : World) (G Ou Th B : Nat) (spots : List Sp) (g F : Dg) (Rn : List (List Nat)) (sv : Value) (w : World) {s0 s1 s2 s3 s5 s9 s13 s14 s15 s16 s17 s18 s19 s20 s21 s22 s23 s24 s25 s26 s27 s28 s29 s30 s31 s32 s33 s34 s35 s36 s37 s38 s39 s40 s41 s42 s43 s44 s45 s46 s47 s48 s49 s50 s51 s52 s53 s54 s55 s56 s57 s58 s59 s60 s61 s62 s63 s64 s65 s66 s67 s68 s69 s70 s71 s72 s73 s74 s75 s76 s77 s78 s79 s80 s81 s82 s83 s84 s85 s86 s87 s88 s89 s90 s91 s92 s93 s94 s95 s96 s97 s98 s99 s100 s101 s102 s103 s104 s105 s106 s107 s108 s109 s110 s111 s112 s113 s114 s115 s116 s117 s118 s119 s120 s121 s122 s123 s124 s125 s126 s127 s128 s129 s130 s131 s132 s133 s134 s135 s136 s137 s138 s139 s140 s141 s142 s143 s144 s145 s146 s147 s148 s149 s150 s151 s152 s153 s154 s155 s156 s157 s158 s159 s160 s161 s162 s163 s164 s165 s166 s167 s168 s169 s170 s171 s172 s173 s174 s175 s176 s177 s178 s179 s180 s181 s182 s183 s184 s185 s186 s187 s188 s189 s190 s191 s192 s193 s194 s195 s196 s197 s198 s199 s200 s201 s202 s203 s204 s205 s206 s207 s208 s209 s210 s211 s212 s213 s214 s215 s216 : Value} (hG : RfG wg G spots g F) (hst : Fr [] wg W0) (hO : wg.heap.size ≤ Ou ∧ wg.heap.size ≤ Th) (hlen : spots.length = g.length) (hl : spots.length ≤ 65536) (h1 : ∀ v, (nxs g v).length ≤ 1)
    (hR : RingsOk g Rn fun v => v < g.length) (hta : ∀ u, Fr [Ou, Th] W0 u → ToAt u sv Rn)
    (hQ0 : LQ W0 Ou Th B spots g (stF fun _ => false) (fun _ => false) [] (.slice none 0 0) w) (Q : Exit → Act → World → Prop)
    (hQ : ∀ (n10 n12 n13 n14 n53 n54 n55 n56 n57 n58 n59 n60 n61 n62 n63 n64 n65 n66 n67 n68 n69 n70 n71 n72 n73 n74 n75 n76 n77 n78 n79 n80 n81 n82 n83 n84 n85 n86 n87 n88 n89 n90 n91 n92 n93 n94 n95 n96 n97 n98 n99 n100 n101 n102 n103 n104 : Value) (th : Nat → Bool) (l : List Nat) (w' : World), LQ W0 Ou Th B spots g (stF th) th l n10 w' → LS g F 0 th l → Q .normal { tmps := #[s0, s1, s2, s3, .pointer (some ⟨G, 0, none⟩), s5, .int .i64 (spots.length : Int), .slice (some ⟨Ou, 0, none⟩) spots.length spots.length, .slice (some ⟨Th, 0, none⟩) spots.length spots.length, s9, n10, sv, n12, n13, n14, s15, s16, s17, s18, s19, s20, s21, s22, s23, s24, s25, s26, s27, s28, s29, s30, s31, s32, s33, s34, s35, s36, s37, s38, s39, s40, s41, s42, s43, s44, s45, s46, s47, s48, s49, s50, s51, s52, n53, n54, n55, n56, n57, n58, n59, n60, n61, n62, n63, n64, n65, n66, n67, n68, n69, n70, n71, n72, n73, n74, n75, n76, n77, n78, n79, n80, n81, n82, n83, n84, n85, n86, n87, n88, n89, n90, n91, n92, n93, n94, n95, n96, n97, n98, n99, n100, n101, n102, n103, n104, s105, s106, s107, s108, s109, s110, s111, s112, s113, s114, s115, s116, s117, s118, s119, s120, s121, s122, s123, s124, s125, s126, s127, s128, s129, s130, s131, s132, s133, s134, s135, s136, s137, s138, s139, s140, s141, s142, s143, s144, s145, s146, s147, s148, s149, s150, s151, s152, s153, s154, s155, s156, s157, s158, s159, s160, s161, s162, s163, s164, s165, s166, s167, s168, s169, s170, s171, s172, s173, s174, s175, s176, s177, s178, s179, s180, s181, s182, s183, s184, s185, s186, s187, s188, s189, s190, s191, s192, s193, s194, s195, s196, s197, s198, s199, s200, s201, s202, s203, s204, s205, s206, s207, s208, s209, s210, s211, s212, s213, s214, s215, s216], defers := [] } w') :
    (subC [1, 1, 1, 1, 1, 1, 1, 1, 1, 0, 1] (Tryz.f15.body.getD .skip)).wp Tryz.prog Q { tmps := #[s0, s1, s2, s3, .pointer (some ⟨G, 0, none⟩), s5, .int .i64 (spots.length : Int), .slice (some ⟨Ou, 0, none⟩) spots.length spots.length, .slice (some ⟨Th, 0, none⟩) spots.length spots.length, s9, .slice none 0 0, sv, .int .i64 0, s13, s14, s15, s16, s17, s18, s19, s20, s21, s22, s23, s24, s25, s26, s27, s28, s29, s30, s31, s32, s33, s34, s35, s36, s37, s38, s39, s40, s41, s42, s43, s44, s45, s46, s47, s48, s49, s50, s51, s52, s53, s54, s55, s56, s57, s58, s59, s60, s61, s62, s63, s64, s65, s66, s67, s68, s69, s70, s71, s72, s73, s74, s75, s76, s77, s78, s79, s80, s81, s82, s83, s84, s85, s86, s87, s88, s89, s90, s91, s92, s93, s94, s95, s96, s97, s98, s99, s100, s101, s102, s103, s104, s105, s106, s107, s108, s109, s110, s111, s112, s113, s114, s115, s116, s117, s118, s119, s120, s121, s122, s123, s124, s125, s126, s127, s128, s129, s130, s131, s132, s133, s134, s135, s136, s137, s138, s139, s140, s141, s142, s143, s144, s145, s146, s147, s148, s149, s150, s151, s152, s153, s154, s155, s156, s157, s158, s159, s160, s161, s162, s163, s164, s165, s166, s167, s168, s169, s170, s171, s172, s173, s174, s175, s176, s177, s178, s179, s180, s181, s182, s183, s184, s185, s186, s187, s188, s189, s190, s191, s192, s193, s194, s195, s196, s197, s198, s199, s200, s201, s202, s203, s204, s205, s206, s207, s208, s209, s210, s211, s212, s213, s214, s215, s216], defers := [] } w := by
  have HQ := Lib.hid hQ
  have HG := Lib.hid hG
  have HST : Hid (∀ u, Fr [Ou, Th] W0 u → Fr [] wg u) := fun u hf => hst.trans hf (fun x hx => .inr (by
    simp at hx
    rcases hx with rfl | rfl
    · exact hO.1
    · exact hO.2))
  have HLEN := Lib.hid hlen
  have HQ0 := Lib.hid hQ0
  have HTA := Lib.hid hta
  have HR := Lib.hid hR
  have H1 := Lib.hid h1
  obtain ⟨sq, sc, rfl, hs1, hs2⟩ := (hta w hQ0.fr).form
  obtain ⟨i1, hi1, hy0, hy1, hy2⟩ := info_parts infoInt
  clear hQ hG hst hQ0 hlen hta hR h1
  show (Code.block 2 _).wp _ _ _ _
  dsimp only
  go_wp2_with fail
  go_loopw [10, 12] (fun lv iv wr => ∃ (i : Nat) (th : Nat → Bool) (l : List Nat), iv = .int .i64 (i : Int) ∧ i ≤ Rn.length ∧ LQ W0 Ou Th B spots g (stF th) th l lv wr ∧ LR g F Rn i 0 th l) (fun _ iv _ => Rn.length - (intOf iv).toNat)
  case atStart => exact ⟨0, fun _ => false, [], rfl, by omega, HQ0.out, ⟨⟨by simp, by simp, by simp, by simp, fun j h => by simp at h⟩, by simp⟩⟩
  case round =>
    obtain ⟨i, th, l, rfl, hi, hq, hs⟩ := hrel
    have HL := Lib.hid hq
    have HLR := Lib.hid hs
    clear hq hs HQ0
    by_cases hlt : i < Rn.length
    · have hi1' : (i : Int) < (Rn.length : Int) := by omega
      have HPUT := Lib.hid (fun (k : Nat) (th : Nat → Bool) (l : List Nat) (h : LR g F Rn i k th l) (hk : k < Rn[i].length) => h.put H1.out HR.out hlt hk)
      have HNX := Lib.hid (fun (th : Nat → Bool) (l : List Nat) (h : LR g F Rn i Rn[i].length th l) => h.next hlt)
      have HCELL : Hid (∀ wr, Fr [Ou, Th] W0 wr → ∃ b off c uq uc, Value.slice sq Rn.length sc = .slice (some ⟨b, off, none⟩) Rn.length c ∧ b < wr.heap.size ∧ wr.cell? ⟨b, off + i, none⟩ = some (.slice uq Rn[i].length uc) ∧ NumsAt wr (.slice uq Rn[i].length uc) Rn[i]) := fun wr hf => by
        obtain ⟨b, off, c, u, e, hb, d0, hu⟩ := (HTA.out wr hf).cell hlt
        obtain ⟨uq, uc, rfl, _, _⟩ := hu.form
        exact ⟨b, off, c, uq, uc, e, hb, d0, hu⟩
      have hrl : Rn[i].length ≤ 65536 := by
        obtain ⟨p, e, h2, _, h4, _⟩ := HR.out.el _ (List.getElem_mem hlt)
        rw [e, sortN_len]
        have := nodup_lt h2 h4
        have := HLEN.out
        omega
      have HRB : Hid (∀ j (hj : j < Rn[i].length), Rn[i][j] < g.length) := fun j hj => (ring_lead H1.out HR.out (List.getElem_mem hlt) (List.getElem_mem hj)).2.2
      generalize Rn[i] = r at *
      go_wp2_with fail
      go_loopw [10, 13] (fun lv kv wr => ∃ (k : Nat) (th : Nat → Bool) (l : List Nat), kv = .int .i64 (k : Int) ∧ k ≤ r.length ∧ LQ W0 Ou Th B spots g (stF th) th l lv wr ∧ LR g F Rn i k th l) (fun _ kv _ => r.length - (intOf kv).toNat)
      case atStart => exact ⟨0, th, l, rfl, by omega, HL.out, HLR.out⟩
      case round =>
        clear HL HLR
        obtain ⟨k, th, l, rfl, hk, hq, hs⟩ := hrel
        have HL := Lib.hid hq
        have HLR := Lib.hid hs
        clear hq hs
        obtain ⟨b, off, _, uq, uc, e, hb, d0, hu⟩ := HCELL.out wr HL.out.fr
        cases e
        by_cases hkl : k < r.length
        · have hk1 : (k : Int) < (r.length : Int) := by omega
          have hpos : 0 < r.length := by omega
          have hp1 : (0 : Int) < (r.length : Int) := by omega
          obtain ⟨ub, uo, _, e, hub, dc⟩ := hu.cell (by omega)
          cases e
          have d1 := dc k (.int .i64 (r[k] : Int)) (by
            have := flat_get nC 1 (fun _ => rfl) r k 0 hkl (by omega)
            simpa using this)
          have d2 : wr.cell? ⟨ub, uo, none⟩ = some (.int .i64 (r[0] : Int)) := dc 0 (.int .i64 (r[0] : Int)) (by
            have := flat_get nC 1 (fun _ => rfl) r 0 0 hpos (by omega)
            simpa using this)
          obtain ⟨hlr2, hld, hxg⟩ := HPUT.out k th l HLR.out hkl
          have hfg := HRB.out 0 hpos
          have HH0 : Hid (r.headD 0 = r[0]) := by
            show _ = _
            cases r with
            | nil => simp at hpos
            | cons a t => rfl
          have hll : l.length ≤ 65536 := by
            have := HLR.out.ok.len
            have := HLEN.out
            omega
          have HLR2 := Lib.hid hlr2
          have HLD := Lib.hid hld
          obtain ⟨av, tv, fv, hbx, hav, _, _⟩ := (HG.out.fr0 (HST.out _ HL.out.fr)).ex
          have b0 := cell_of hbx 0
          have hGl := lt_of hbx
          clear dc hu hlr2 hld hbx
          generalize r[k] = x at *
          generalize r[0] = f at *
          have hxs : x < spots.length := by have := HLEN.out; omega
          have hfs : f < spots.length := by have := HLEN.out; omega
          have hxs1 : (x : Int) < (spots.length : Int) := by omega
          have hfs1 : (f : Int) < (spots.length : Int) := by omega
          obtain ⟨ab, ao, _, e, hab, a0, a1⟩ := spots_cell hav hxs
          subst e
          obtain ⟨_, _, _, e, _, p0, p1⟩ := spots_cell hav hfs
          cases e
          have HVS : Hid ([Value.int .i64 spots[x].1, .int .i64 spots[x].2, .bool true, .int .i64 0, .int .i64 spots[f].1, .int .i64 spots[f].2] = ldC spots x (leadOf g x)) := by
            show _ = _
            rw [HLD.out, HH0.out]
            show _ = [Value.int .i64 (spots.getD x (0, 0)).1, .int .i64 (spots.getD x (0, 0)).2, .bool true, .int .i64 ((0 : Nat) : Int), .int .i64 (spots.getD f (0, 0)).1, .int .i64 (spots.getD f (0, 0)).2]
            rw [List.getD_eq_getElem?_getD, List.getElem?_eq_getElem hxs, List.getD_eq_getElem?_getD, List.getElem?_eq_getElem hfs]
            rfl
          generalize spots[x] = s at *
          generalize spots[f] = t at *
          have o0 := HL.out.out.cell (i := x * 6) (by omega)
          have o1 := HL.out.out.cell (i := x * 6 + 1) (by omega)
          have o2 := HL.out.out.cell (i := x * 6 + 2) (by omega)
          have o3 := HL.out.out.cell (i := x * 6 + 3) (by omega)
          have o4 := HL.out.out.cell (i := x * 6 + 4) (by omega)
          have o5 := HL.out.out.cell (i := x * 6 + 5) (by omega)
          have q0 := HL.out.out.frozen (x * 6)
          have q1 := HL.out.out.frozen (x * 6 + 1)
          have q2 := HL.out.out.frozen (x * 6 + 2)
          have q3 := HL.out.out.frozen (x * 6 + 3)
          have q4 := HL.out.out.frozen (x * 6 + 4)
          have q5 := HL.out.out.frozen (x * 6 + 5)
          have hOl := HL.out.out.lt
          clear hav hxg hfg HLD
          go_upto_region 21 with fail
          go_still_tail 22, (by kernel_rfl)
          change wpList _ _ _ _ _ wr.drew
          go_upto_region 22 with fail
          have hL2 := HL.out.six HVS.out
          dsimp only [six] at hL2
          have hL3 := (hL2.tell x).congr (stF_upd th x)
          have t0 := hL2.th'.cell hxs
          have tf := hL2.th'.frozen x
          have tl := hL2.th'.lt
          have HL3 := Lib.hid hL3
          clear hL2 hL3 o0 o1 o2 o3 o4 o5 q0 q1 q2 q3 q4 q5 hOl a0 a1 p0 p1 hab d0 d1 d2 hub hb b0 hGl HVS
          generalize ((((((wr.setCell ⟨Ou, x * 6, none⟩ (.int .i64 s.1)).setCell ⟨Ou, x * 6 + 1, none⟩ (.int .i64 s.2)).setCell ⟨Ou, x * 6 + 2, none⟩ (.bool true)).setCell ⟨Ou, x * 6 + 3, none⟩ (.int .i64 0)).setCell ⟨Ou, x * 6 + 4, none⟩ (.int .i64 t.1)).setCell ⟨Ou, x * 6 + 5, none⟩ (.int .i64 t.2)).drew = W2 at *
          go_upto_region 23 with fail
          have hB3 : B ≤ (W2.setCell ⟨Th, x, none⟩ (.bool true)).heap.size := HL3.out.sz
          clear t0 tf tl
          generalize W2.setCell ⟨Th, x, none⟩ (.bool true) = W3 at *
          have hown := HL3.out.row.alloc (.cells #[.int .i64 (x : Int)] tI)
          obtain ⟨lq, ln, lc, rfl⟩ := own_form hown
          go_wp2_with (at_builtin; refine wpList_append_own _ rfl _ _ 47 rfl B tI i1 _ 1 8 Tryz.underlying47 hi1 hy0 hy1 hy2 rfl (by decide) _ _ _ rfl hown ⟨W3.heap.size, 0, none⟩ 1 1 [.int .i64 (x : Int)] rfl rfl (by have := news_of W3 [.int .i64 (x : Int)] tI; simpa using this) (one_mem rfl) (by unfold maxLen; omega) (by omega) (by simp; omega) ?_; intro lv9 w9 hown9 hgrow _)
          have HL9 := Lib.hid ((HL3.out.fr0 ((Fr.refl [] W3).alloc (.cells #[.int .i64 (x : Int)] tI))).push (l2 := l ++ [x]) hgrow (by simpa using hown9))
          go_roundw
          case rel => exact ⟨k + 1, upd th x true, l ++ [x], by go_num, by omega, HL9.out, HLR2.out⟩
          case measure => simp [intOf]; omega
        · obtain rfl : k = r.length := by omega
          have HN := Lib.hid (HNX.out th l HLR.out)
          clear hu
          go_wp2
          go_roundw
          case rel => exact ⟨i + 1, th, l, by go_num, by omega, HL.out, HN.out⟩
          case measure => simp [intOf]; omega
    · obtain rfl : i = Rn.length := by omega
      have HD := Lib.hid (HLR.out.done HR.out)
      go_wp2
      apply HQ.out
      · exact HL.out
      · exact HD.out
end
end Go.Proofs.YtdlpbpohbkcafaaGreat
