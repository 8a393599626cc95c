/-
  quadrillelaw21.CycleLeads: the loop that leaves one pointer to each node; the loop that finds a lead.
-/
import Derived.Test.YtdlpbpohbkcafaaCycL
import Derived.Test.YtdlpbpohbkcafaaCLeads
import Derived.Deep.CutBlock
namespace Go.Proofs.Ytdlpbpohbkcafaa
open Go.RowKit Go.Shelf Go.Sort Go.Proofs

theorem nd_set : ∀ (l : List Nd) (k : Nat) (hk : k < l.length) (y : Nd) (u : Value), ndC y = [.int .i64 l[k].at_.1, .int .i64 l[k].at_.2, u] → (l.flatMap ndC).set (k * 3 + 2) u = (l.set k y).flatMap ndC
  | [], k, hk, _, _, _ => by simp at hk
  | x :: l, 0, _, y, u, h => by
    show _ = ndC y ++ l.flatMap ndC
    rw [h]
    rfl
  | x :: l, k + 1, hk, y, u, h => by
    have ih := nd_set l k (by simpa using hk) y u h
    rw [show (k + 1) * 3 + 2 = k * 3 + 2 + 3 by omega]
    show _ :: _ :: _ :: ((l.flatMap ndC).set (k * 3 + 2) u) = _ :: _ :: _ :: ((l.set k y).flatMap ndC)
    rw [ih]
/-- The first k cut. -/
def cutK (ls : List Nd) (k : Nat) : List Nd := (ls.take k).map cutN ++ ls.drop k
theorem cutK_len (ls : List Nd) {k : Nat} (hk : k ≤ ls.length) : (cutK ls k).length = ls.length := by
  unfold cutK
  rw [List.length_append, List.length_map, List.length_take, List.length_drop]
  omega
theorem cutK_get (ls : List Nd) {k : Nat} (hk : k < ls.length) : (cutK ls k)[k]'(by rw [cutK_len ls (by omega)]; exact hk) = ls[k] := by
  have hm : ((ls.take k).map cutN).length = k := by rw [List.length_map, List.length_take]; omega
  unfold cutK
  rw [List.getElem_append_right (by omega)]
  simp only [hm, Nat.sub_self, List.getElem_drop, Nat.add_zero]
theorem cutK_succ (ls : List Nd) {k : Nat} (hk : k < ls.length) : cutK ls (k + 1) = (cutK ls k).set k (cutN ls[k]) := by
  have hm : ((ls.take k).map cutN).length = k := by rw [List.length_map, List.length_take]; omega
  unfold cutK
  rw [List.take_succ_eq_append_getElem hk, List.map_append, List.append_assoc, List.set_append_right _ _ (by omega), hm, Nat.sub_self, List.drop_eq_getElem_cons hk]
  rfl
theorem cutK_same (ls : List Nd) {k : Nat} (hk : k < ls.length) (h : ls[k].next.length ≤ 1) : cutK ls (k + 1) = cutK ls k := by
  have e : cutN ls[k] = ls[k] := by
    unfold cutN
    rw [List.take_of_length_le h]
  rw [cutK_succ ls hk, e]
  have := cutK_get ls hk
  apply List.ext_getElem (by simp)
  intro i h1 h2
  rw [List.getElem_set]
  split
  · rename_i hi
    subst hi
    exact this.symm
  · rfl
theorem cut_nx {B : Nat} {w : World} {n : Nd} (h : w.ownsRow B tSp 2 (.slice n.na n.next.length n.nc) n.next.length (n.next.flatMap spC)) : SpotsAt w (.slice (cutN n).na (cutN n).next.length (cutN n).nc) (cutN n).next := by
  by_cases h0 : n.next.length ≤ 1
  · have e : cutN n = n := by
      unfold cutN
      rw [List.take_of_length_le h0]
    rw [e]
    exact own_sl h
  · have hl : (cutN n).next.length = 1 := by show (n.next.take 1).length = 1; rw [List.length_take]; omega
    obtain ⟨g, c, e, _⟩ := h.form (by omega)
    simp only [Value.slice.injEq] at e
    have hq := e.1
    rw [hq] at h
    show SlAt w (.slice n.na (cutN n).next.length n.nc) 2 (cutN n).next.length ((cutN n).next.flatMap spC)
    rw [hq, hl]
    refine own_sl (own_take h (by omega) ?_)
    show _ = (n.next.take 1).flatMap spC
    cases hz : n.next with
    | nil => rw [hz] at h0; simp at h0
    | cons a t => rfl
set_option maxRecDepth 100000 in
set_option maxHeartbeats 3200000 in
theorem leadsCut (w0 : World) (B : Nat) (ls : List Nd) (v3 v5 : Value) (w : World) {s0 s1 s2 s6 s7 s8 s9 s10 s11 s12 s13 s14 s15 s16 s17 s18 s19 s20 s21 s22 s23 s24 s25 s26 s27 s28 s29 s30 s31 s32 s33 s34 s35 s36 s37 s38 s39 s40 s41 s42 s43 s44 s45 s46 s47 s48 s49 s50 s51 s52 s53 s54 s55 s56 s57 s58 s59 s60 s61 s62 s63 s64 s65 s66 s67 s68 s69 s70 s71 s72 s73 s74 s75 s76 s77 s78 s79 s80 s81 s82 s83 s84 s85 s86 s87 s88 s89 s90 s91 s92 s93 s94 s95 s96 s97 s98 s99 s100 s101 s102 s103 s104 s105 s106 s107 s108 s109 s110 s111 s112 s113 s114 s115 s116 s117 s118 s119 s120 s121 s122 s123 s124 s125 s126 s127 s128 s129 s130 s131 s132 s133 s134 s135 s136 s137 s138 s139 s140 s141 s142 s143 s144 s145 s146 s147 s148 s149 s150 s151 s152 s153 s154 s155 s156 s157 s158 s159 s160 s161 s162 s163 s164 s165 s166 s167 s168 s169 s170 s171 s172 s173 s174 s175 s176 s177 s178 s179 s180 s181 s182 s183 s184 s185 s186 s187 s188 s189 s190 s191 s192 s193 s194 s195 s196 s197 s198 s199 s200 s201 s202 s203 s204 s205 s206 s207 s208 s209 s210 s211 s212 s213 : Value} (hL : LsAt B w v3 ls) (hll : ls.length ≤ 65536) (hB : w0.heap.size ≤ B) (hfr : Fr [] w0 w) (Q : Exit → Act → World → Prop)
    (hQ : ∀ (n2 n4 n17 n18 n19 n20 n21 n22 n23 n24 n25 n26 n27 n28 n29 n30 n31 n32 n33 n34 n35 n36 n37 n38 n39 : Value) (w' : World), NodesAt w' v3 (ls.map cutN) → Fr [] w0 w' → Q .normal { tmps := #[s0, s1, n2, v3, n4, v5, s6, s7, s8, s9, s10, s11, s12, s13, s14, s15, s16, n17, n18, n19, n20, n21, n22, n23, n24, n25, n26, n27, n28, n29, n30, n31, n32, n33, n34, n35, n36, n37, n38, n39, s40, s41, s42, s43, s44, s45, s46, s47, s48, s49, s50, s51, s52, s53, s54, s55, s56, s57, s58, s59, s60, s61, s62, s63, s64, s65, s66, s67, s68, s69, s70, s71, s72, s73, s74, s75, s76, s77, s78, s79, s80, s81, s82, s83, s84, s85, s86, s87, s88, s89, s90, s91, s92, s93, s94, s95, s96, s97, s98, s99, s100, s101, s102, s103, s104, s105, s106, s107, s108, s109, s110, s111, s112, s113, s114, s115, s116, s117, s118, s119, s120, s121, s122, s123, s124, s125, s126, s127, s128, s129, s130, s131, s132, s133, s134, s135, s136, s137, s138, s139, s140, s141, s142, s143, s144, s145, s146, s147, s148, s149, s150, s151, s152, s153, s154, s155, s156, s157, s158, s159, s160, s161, s162, s163, s164, s165, s166, s167, s168, s169, s170, s171, s172, s173, s174, s175, s176, s177, s178, s179, s180, s181, s182, s183, s184, s185, s186, s187, s188, s189, s190, s191, s192, s193, s194, s195, s196, s197, s198, s199, s200, s201, s202, s203, s204, s205, s206, s207, s208, s209, s210, s211, s212, s213], defers := [] } w') :
    (subC [1, 1, 1, 0, 1] (Try.f5.body.getD .skip)).wp Try.prog Q { tmps := #[s0, s1, s2, v3, .int .i64 0, v5, s6, s7, s8, s9, s10, s11, s12, s13, s14, s15, s16, s17, s18, s19, s20, s21, s22, s23, s24, s25, s26, s27, s28, s29, s30, s31, s32, s33, s34, s35, s36, s37, s38, s39, s40, s41, s42, s43, s44, s45, s46, s47, s48, s49, s50, s51, s52, s53, s54, s55, s56, s57, s58, s59, s60, s61, s62, s63, s64, s65, s66, s67, s68, s69, s70, s71, s72, s73, s74, s75, s76, s77, s78, s79, s80, s81, s82, s83, s84, s85, s86, s87, s88, s89, s90, s91, s92, s93, s94, s95, s96, s97, s98, s99, s100, s101, s102, s103, s104, s105, s106, s107, s108, s109, s110, s111, s112, s113, s114, s115, s116, s117, s118, s119, s120, s121, s122, s123, s124, s125, s126, s127, s128, s129, s130, s131, s132, s133, s134, s135, s136, s137, s138, s139, s140, s141, s142, s143, s144, s145, s146, s147, s148, s149, s150, s151, s152, s153, s154, s155, s156, s157, s158, s159, s160, s161, s162, s163, s164, s165, s166, s167, s168, s169, s170, s171, s172, s173, s174, s175, s176, s177, s178, s179, s180, s181, s182, s183, s184, s185, s186, s187, s188, s189, s190, s191, s192, s193, s194, s195, s196, s197, s198, s199, s200, s201, s202, s203, s204, s205, s206, s207, s208, s209, s210, s211, s212, s213], defers := [] } w := by
  have HQ := Lib.hid hQ
  obtain ⟨sq, sc, rfl, hs1, hs2⟩ := hL.nodes.row.form
  have hrow0 := hL.row
  have hnx0 := hL.nx
  clear hQ hL
  show (Code.block 0 _).wp _ _ _ _
  dsimp only
  go_wp2_with fail
  go_loopw [4] (fun i wr => ∃ k : Nat, i = .int .i64 (k : Int) ∧ k ≤ ls.length ∧ wr.ownsRow B tNd 3 (.slice sq ls.length sc) ls.length ((cutK ls k).flatMap ndC) ∧ (∀ n ∈ ls, wr.ownsRow B tSp 2 (.slice n.na n.next.length n.nc) n.next.length (n.next.flatMap spC)) ∧ Fr [] w0 wr) (fun i _ => ls.length - (intOf i).toNat)
  case atStart => exact ⟨0, rfl, by omega, hrow0, hnx0, hfr⟩
  case round =>
    obtain ⟨k, rfl, hk, hrow, hnx, hf⟩ := hrel
    have HNX := Lib.hid hnx
    have HRW := Lib.hid hrow
    clear hrow0 hnx0 hnx hfr
    by_cases hlt : k < ls.length
    · have hk1 : (k : Int) < (ls.length : Int) := by omega
      have hlen := cutK_len ls (Nat.le_of_lt hlt)
      obtain ⟨g, c, e, hgB, hgl⟩ := hrow.form (by omega)
      cases e
      have hnr : NRow wr (.slice (some ⟨g, 0, none⟩) ls.length sc) (cutK ls k) := by
        show SlAt _ _ 3 (cutK ls k).length _
        rw [hlen]
        exact own_sl hrow
      obtain ⟨b, off, _, e, hb, d0, d1, d2⟩ := nrow_cell hnr (k := k) (by omega)
      clear hnr
      rw [hlen] at e
      cases e
      rw [cutK_get ls hlt] at d0 d1 d2
      have hnk := HNX.out ls[k] (List.getElem_mem hlt)
      obtain ⟨_, _, e, hx1, hx2⟩ := (own_sl hnk).form
      cases e
      have hfz : wr.frozen? ⟨g, k * 3 + 2, none⟩ = false := hrow.frozenAt _
      have hne : ∀ n ∈ ls, (Value.slice n.na n.next.length n.nc).ownBlock ≠ some g := fun n hn e => own_ne (HNX.out n hn) hrow (by decide) g e rfl
      by_cases h1 : ls[k].next.length ≤ 1
      · have h2 : ¬ (1 : Int) < (ls[k].next.length : Int) := by omega
        have HSM := Lib.hid (cutK_same ls hlt h1)
        have d2' : wr.cell? ⟨g, k * 3 + 2, none⟩ = some (.slice ls[k].na ls[k].next.length ls[k].nc) := by simpa using d2
        clear h1 hnk hx1 hx2 d0 d1 d2 hne
        generalize ls[k].next.length = m at *
        generalize ls[k].na = na at *
        generalize ls[k].nc = nc at *
        go_wp2
        go_roundw
        case rel => exact ⟨k + 1, by go_num, by omega, by rw [HSM.out]; exact HRW.out, HNX.out, hf⟩
        case measure => simp [intOf]; omega
      · have h2 : (1 : Int) < (ls[k].next.length : Int) := by omega
        obtain ⟨gx, cx, ex, _, _⟩ := hnk.form (by omega)
        have hcs := cutK_succ ls hlt
        obtain ⟨r1, _⟩ := hrow.stored (k * 3 + 2) (.slice ls[k].na 1 ls[k].nc)
        have hset := nd_set (cutK ls k) k (by omega) (cutN ls[k]) (.slice ls[k].na 1 ls[k].nc) (by
          have : (ls[k].next.take 1).length = 1 := by rw [List.length_take]; omega
          rw [cutK_get ls hlt]
          show [_, _, Value.slice ls[k].na (ls[k].next.take 1).length ls[k].nc] = _
          rw [this]
          rfl)
        rw [hset, ← hcs] at r1
        have HR1 := Lib.hid r1
        have HNX2 : Hid (∀ n ∈ ls, (wr.setCell ⟨g, k * 3 + 2, none⟩ (.slice ls[k].na 1 ls[k].nc)).ownsRow B tSp 2 (.slice n.na n.next.length n.nc) n.next.length (n.next.flatMap spC)) := fun n hn => ownsRow_setCell_other (HNX.out n hn) (hne n hn) _
        have HF2 : Hid (Fr [] w0 (wr.setCell ⟨g, k * 3 + 2, none⟩ (.slice ls[k].na 1 ls[k].nc))) := hf.setCell (.inr (Nat.le_trans hB hgB)) _
        have d2' : wr.cell? ⟨g, k * 3 + 2, none⟩ = some (.slice ls[k].na ls[k].next.length ls[k].nc) := by simpa using d2
        have hna : ls[k].na = some ⟨gx, 0, none⟩ := by simp only [Value.slice.injEq] at ex; exact ex.1
        clear h1 hnk d0 d1 d2 hne r1 hset hcs ex
        rw [hna] at *
        generalize ls[k].next.length = m at *
        generalize ls[k].nc = nc at *
        go_wp2
        go_roundw
        case rel => exact ⟨k + 1, by go_num, by omega, HR1.out, HNX2.out, HF2.out⟩
        case measure => simp [intOf]; omega
    · obtain rfl : k = ls.length := by omega
      have hN : NodesAt wr (.slice sq ls.length sc) (ls.map cutN) := by
        refine ⟨?_, fun n hn => ?_⟩
        · have h := own_sl hrow
          rw [show cutK ls ls.length = ls.map cutN by unfold cutK; rw [List.take_length, List.drop_length, List.append_nil]] at h
          rw [List.length_map]
          exact h
        · obtain ⟨m, hm, rfl⟩ := List.mem_map.1 hn
          exact cut_nx (HNX.out m hm)
      have HN := Lib.hid hN
      clear hN hrow
      go_wp2
      apply HQ.out
      · exact HN.out
      · exact hf
/-- A lead in its box. -/
abbrev XAt (X : Nat) (x : Lx) (w : World) : Prop := EndAt X (.int .i64 x.at_.1) (.int .i64 x.at_.2) x.ring x.steps x.first w
set_option maxRecDepth 100000 in
set_option maxHeartbeats 3200000 in
theorem leadFindX (wb : World) (X m u : Nat) (ns : List Nd) (lx : List Lx) (v3 v5 : Value) (w : World) {s0 s1 s2 s4 s6 s7 s8 s12 s13 s14 s15 s16 s17 s18 s19 s20 s21 s22 s23 s24 s25 s26 s27 s28 s29 s30 s31 s32 s33 s34 s35 s36 s37 s38 s39 s40 s41 s42 s43 s44 s45 s46 s47 s48 s49 s50 s51 s52 s53 s54 s55 s56 s57 s58 s59 s60 s61 s62 s63 s64 s65 s66 s67 s68 s69 s70 s71 s72 s73 s74 s75 s76 s77 s78 s79 s80 s81 s82 s83 s84 s85 s86 s87 s88 s89 s90 s91 s92 s93 s94 s95 s96 s97 s98 s99 s100 s101 s102 s103 s104 s105 s106 s107 s108 s109 s110 s111 s112 s113 s114 s115 s116 s117 s118 s119 s120 s121 s122 s123 s124 s125 s126 s127 s128 s129 s130 s131 s132 s133 s134 s135 s136 s137 s138 s139 s140 s141 s142 s143 s144 s145 s146 s147 s148 s149 s150 s151 s152 s153 s154 s155 s156 s157 s158 s159 s160 s161 s162 s163 s164 s165 s166 s167 s168 s169 s170 s171 s172 s173 s174 s175 s176 s177 s178 s179 s180 s181 s182 s183 s184 s185 s186 s187 s188 s189 s190 s191 s192 s193 s194 s195 s196 s197 s198 s199 s200 s201 s202 s203 s204 s205 s206 s207 s208 s209 s210 s211 s212 s213 : Value} (hN : NodesAt wb v3 ns) (hL : LeadsAt wb v5 lx) (hm : m < ns.length) (hu : u < lx.length) (hus : lx[u].at_ = ns[m].at_)
    (hinj : ∀ i j (hi : i < lx.length) (hj : j < lx.length), lx[i].at_ = lx[j].at_ → i = j) (hX : wb.heap.size ≤ X) (hx0 : XAt X ⟨(0, 0), false, 0, (0, 0)⟩ w) (hfr : Fr [] wb w) (Q : Exit → Act → World → Prop)
    (hQ : ∀ (n2 n11 n139 n140 n141 n142 n143 n144 n145 n146 n147 n148 n149 n150 n151 n152 n153 n154 n155 n156 n157 n158 n159 : Value) (w' : World), XAt X lx[u] w' → Fr [] wb w' → Q .normal { tmps := #[s0, s1, n2, v3, s4, v5, s6, s7, s8, .int .i64 (m : Int), .pointer (some ⟨X, 0, none⟩), n11, s12, s13, s14, s15, s16, s17, s18, s19, s20, s21, s22, s23, s24, s25, s26, s27, s28, s29, s30, s31, s32, s33, s34, s35, s36, s37, s38, s39, s40, s41, s42, s43, s44, s45, s46, s47, s48, s49, s50, s51, s52, s53, s54, s55, s56, s57, s58, s59, s60, s61, s62, s63, s64, s65, s66, s67, s68, s69, s70, s71, s72, s73, s74, s75, s76, s77, s78, s79, s80, s81, s82, s83, s84, s85, s86, s87, s88, s89, s90, s91, s92, s93, s94, s95, s96, s97, s98, s99, s100, s101, s102, s103, s104, s105, s106, s107, s108, s109, s110, s111, s112, s113, s114, s115, s116, s117, s118, s119, s120, s121, s122, s123, s124, s125, s126, s127, s128, s129, s130, s131, s132, s133, s134, s135, s136, s137, s138, n139, n140, n141, n142, n143, n144, n145, n146, n147, n148, n149, n150, n151, n152, n153, n154, n155, n156, n157, n158, n159, s160, s161, s162, s163, s164, s165, s166, s167, s168, s169, s170, s171, s172, s173, s174, s175, s176, s177, s178, s179, s180, s181, s182, s183, s184, s185, s186, s187, s188, s189, s190, s191, s192, s193, s194, s195, s196, s197, s198, s199, s200, s201, s202, s203, s204, s205, s206, s207, s208, s209, s210, s211, s212, s213], defers := [] } w') :
    (subC [1, 1, 1, 1, 1, 1, 0, 1, 0, 0, 1, 0, 0, 1, 1, 1, 1, 1, 1, 1, 0, 1] (Try.f5.body.getD .skip)).wp Try.prog Q { tmps := #[s0, s1, s2, v3, s4, v5, s6, s7, s8, .int .i64 (m : Int), .pointer (some ⟨X, 0, none⟩), .int .i64 0, s12, s13, s14, s15, s16, s17, s18, s19, s20, s21, s22, s23, s24, s25, s26, s27, s28, s29, s30, s31, s32, s33, s34, s35, s36, s37, s38, s39, s40, s41, s42, s43, s44, s45, s46, s47, s48, s49, s50, s51, s52, s53, s54, s55, s56, s57, s58, s59, s60, s61, s62, s63, s64, s65, s66, s67, s68, s69, s70, s71, s72, s73, s74, s75, s76, s77, s78, s79, s80, s81, s82, s83, s84, s85, s86, s87, s88, s89, s90, s91, s92, s93, s94, s95, s96, s97, s98, s99, s100, s101, s102, s103, s104, s105, s106, s107, s108, s109, s110, s111, s112, s113, s114, s115, s116, s117, s118, s119, s120, s121, s122, s123, s124, s125, s126, s127, s128, s129, s130, s131, s132, s133, s134, s135, s136, s137, s138, s139, s140, s141, s142, s143, s144, s145, s146, s147, s148, s149, s150, s151, s152, s153, s154, s155, s156, s157, s158, s159, s160, s161, s162, s163, s164, s165, s166, s167, s168, s169, s170, s171, s172, s173, s174, s175, s176, s177, s178, s179, s180, s181, s182, s183, s184, s185, s186, s187, s188, s189, s190, s191, s192, s193, s194, s195, s196, s197, s198, s199, s200, s201, s202, s203, s204, s205, s206, s207, s208, s209, s210, s211, s212, s213], defers := [] } w := by
  have HQ := Lib.hid hQ
  have HL := Lib.hid hL
  have HINJ : Hid (∀ k (hk : k < lx.length), lx[k].at_ = ns[m].at_ → k = u) := fun k hk e => hinj k u hk hu (by rw [e, hus])
  obtain ⟨b, off, sc, rfl, hb, c0, c1, _⟩ := hN.cell hm
  obtain ⟨_, _, e, hs1, hs2⟩ := hN.row.form
  cases e
  obtain ⟨lq, lc, rfl, hl1, hl2⟩ := hL.form
  have hm1 : (m : Int) < (ns.length : Int) := by omega
  have HC0 := Lib.hid c0
  have HC1 := Lib.hid c1
  clear hQ hL hN hinj c0 c1
  generalize ns[m].at_ = s at *
  show (Code.block 4 _).wp _ _ _ _
  dsimp only
  go_wp2_with fail
  go_loopw [11] (fun i wr => ∃ (k : Nat) (x : Lx), i = .int .i64 (k : Int) ∧ k ≤ lx.length ∧ (u < k → x = lx[u]) ∧ XAt X x wr ∧ Fr [] wb wr) (fun i _ => lx.length - (intOf i).toNat)
  case atStart => exact ⟨0, _, rfl, by omega, fun h => absurd h (by omega), hx0, hfr⟩
  case round =>
    obtain ⟨k, x, rfl, hk, hx, hxa, hf⟩ := hrel
    have HX := Lib.hid hx
    have HXA := Lib.hid hxa
    clear hx hxa hx0 hfr
    by_cases hlt : k < lx.length
    · have hk1 : (k : Int) < (lx.length : Int) := by omega
      obtain ⟨b1, o1, _, e, hb1, d0, d1, d2, d3, d4, d5⟩ := leads_cell (HL.out.fr0 hf) hlt
      cases e
      have e0 := ce_call hf HC0.out
      have e1 := ce_call hf HC1.out
      by_cases hks : lx[k].at_ = s
      · have hku := HINJ.out k hlt hks
        have HKX : Hid (u < k + 1 → lx[k] = lx[u]) := fun _ => by simp only [hku]
        clear hku
        generalize lx[k] = y at *
        subst hks
        go_wp2_with fail
        go_region_held3 (fun z => z.cell? ⟨b1, o1 + k * 6, none⟩ = some (.int .i64 y.at_.1) ∧ z.cell? ⟨b1, o1 + k * 6 + 1, none⟩ = some (.int .i64 y.at_.2) ∧ z.cell? ⟨b, off + m * 3, none⟩ = some (.int .i64 y.at_.1) ∧ z.cell? ⟨b, off + m * 3 + 1, none⟩ = some (.int .i64 y.at_.2))
          (first | exact ⟨ce_drew d0, ce_drew d1, ce_drew e0, ce_drew e1⟩) (fail)
        have hEl := lt_of HXA.out
        have d0 := ce_drew d0
        have d1 := ce_drew d1
        have d2 := ce_drew d2
        have d3 := ce_drew d3
        have d4 := ce_drew d4
        have d5 := ce_drew d5
        have HXD : Hid (XAt X x wr.drew) := HXA.out
        have HFD : Hid (Fr [] wb wr.drew) := hf.drew
        generalize wr.drew = wd at *
        have hEc := cell_of HXD.out
        have g0 := hEc 0
        have g1 := hEc 1
        have g2 := hEc 2
        have g3 := hEc 3
        have g4 := hEc 4
        have g5 := hEc 5
        have hEf := free_of HXD.out
        have f0 := hEf 0
        have f1 := hEf 1
        have f2 := hEf 2
        have f3 := hEf 3
        have f4 := hEf 4
        have f5 := hEf 5
        clear hEc hEf
        go_wp2
        go_roundw
        case rel => exact ⟨k + 1, y, by go_num, by omega, HKX.out, HXD.out.set6 _ _ _ _ _, ((((((HFD.out.setCell (.inr hX) _).setCell (.inr hX) _).setCell (.inr hX) _).setCell (.inr hX) _).setCell (.inr hX) _).setCell (.inr hX) _)⟩
        case measure => simp [intOf]; omega
      · have HKX : Hid (u < k + 1 → x = lx[u]) := fun h => by
          have : u ≠ k := fun e => hks (by simp only [← e]; exact hus)
          exact HX.out (by omega)
        have heq : ∀ w : World, (binOp .eql 33 (.agg #[.int .i64 lx[k].at_.1, .int .i64 lx[k].at_.2]) (.agg #[.int .i64 s.1, .int .i64 s.2])).run Try.prog w = .ok (.bool false) w := fun w => by rw [eqlS, beq_eq_false_iff_ne.2 hks]
        clear hks d2 d3 d4 d5
        generalize lx[k].at_ = t at *
        go_wp2_with fail
        go_region_held3 (fun z => z.cell? ⟨b1, o1 + k * 6, none⟩ = some (.int .i64 t.1) ∧ z.cell? ⟨b1, o1 + k * 6 + 1, none⟩ = some (.int .i64 t.2) ∧ z.cell? ⟨b, off + m * 3, none⟩ = some (.int .i64 s.1) ∧ z.cell? ⟨b, off + m * 3 + 1, none⟩ = some (.int .i64 s.2))
          (first | exact ⟨ce_drew d0, ce_drew d1, ce_drew e0, ce_drew e1⟩) (fail)
        go_wp2
        go_roundw
        case rel => exact ⟨k + 1, x, by go_num, by omega, HKX.out, HXA.out, hf.drew⟩
        case measure => simp [intOf]; omega
    · obtain rfl : k = lx.length := by omega
      have HE : Hid (x = lx[u]) := HX.out hu
      go_wp2
      apply HQ.out
      · rw [← HE.out]
        exact HXA.out
      · exact hf
end Go.Proofs.Ytdlpbpohbkcafaa
