/-
  quadrilleref21.graph: one number goes into a row of the one table, and one into a row of the other.
  quadrilleref21.graph: one node's numbers go into the tables.
-/
import Derived.Test.YtdlpbpohbkcafaaGreatRfGRA
import Derived.Test.YtdlpbpohbkcafaaGreatRfGRB
import Derived.Deep.CutBlock
namespace Go.Proofs.YtdlpbpohbkcafaaGreat
section
open Go.RowKit Go.Shelf Go.Sort Go.Proofs

/-- What a region that grows row j of table T (slot i of it) leaves ahead of its store. -/
structure GrPh (w w' : World) (j : Nat) (rows : List Value) (hj : j < rows.length) (B len : Nat) (xs : List Value) (g cap : Nat) (u : World) : Prop where
  own : u.ownsRow B tI 1 (.slice (some ⟨g, 0, none⟩) len cap) len xs
  gr : w'.grownBy u (rows[j]).ownBlock
  at' : (rows[j]).ownBlock = some g ∨ g = w.heap.size + 1
/-- What holds of every world of the region. -/
structure GrW (w0 : World) (G T F B LB : Nat) (av lv : Value) (l : List Sp) (m : List Nat) (rows : List Value) (u : World) : Prop where
  box : u.heap[G]? = some (.cells #[av, .slice (some ⟨T, 0, none⟩) l.length l.length, .slice (some ⟨F, 0, none⟩) l.length l.length] tGr (0, 0))
  t : u.heap[T]? = some (.cells (rows.take l.length).toArray tSI (0, 0))
  f : u.heap[F]? = some (.cells (rows.drop l.length).toArray tSI (0, 0))
  m' : u.ownsRow LB tI 1 lv m.length (m.flatMap nC)
theorem GB.phW {w0 : World} {G T F B LB : Nat} {av lv : Value} {l : List Sp} {m : List Nat} {rows : List Value} {L : Nat → List Nat} {w : World} (h : GB w0 G T F B av l rows L w) (hm : w.ownsRow LB tI 1 lv m.length (m.flatMap nC)) {u : World} {S : List Nat} (hf : Fr S w u) (hG : G ∉ S) (hT : T ∉ S) (hF : F ∉ S) (hL : ∀ g, lv.ownBlock = some g → g ∉ S) : GrW w0 G T F B LB av lv l m rows u :=
  ⟨hf.heap h.box hG, hf.heap h.tw.t hT, hf.heap h.tw.f hF, owns_fr hm hf hL⟩
set_option maxRecDepth 100000 in
set_option maxHeartbeats 3200000 in
theorem graphPut (w0 : World) (G T F B LB a p v : Nat) (av lv : Value) (l : List Sp) (m : List Nat) (rows : List Value) (L : Nat → List Nat) (w : World) {s0 s1 s2 s3 s4 s5 s7 s8 s9 s10 s13 s14 s16 s17 s18 s19 s20 s21 s22 s23 s24 s25 s26 s27 s28 s29 s30 s31 s32 s33 s34 s35 s36 s37 s38 s39 s40 s41 s42 s43 s44 s45 s46 s47 s48 s49 s50 s51 s52 s53 s54 s55 s56 s57 s58 s59 s60 s61 s62 s63 s64 s65 s66 s67 s68 s69 s70 s71 s72 s73 s74 s75 s76 s77 s78 s79 s80 s81 s82 s83 s84 s85 s86 s87 s88 s89 s90 s91 s92 s93 s94 s95 s96 s97 s98 s99 s100 s101 s102 s103 s104 s105 s106 s107 s108 s109 s110 s111 s112 s113 s114 s115 s116 s117 s118 s119 s120 s121 s122 s123 s124 s125 s126 s127 s128 s129 s130 s131 s132 s133 s134 s135 s136 s137 s138 s139 s140 s141 s142 s143 s144 s145 s146 s147 s148 s149 s150 s151 s152 s153 s154 s155 s156 s157 s158 s159 s160 s161 s162 s163 s164 s165 s166 s167 s168 s169 s170 s171 s172 s173 s174 s175 s176 s177 s178 s179 s180 s181 s182 s183 s184 s185 s186 s187 s188 s189 s190 s191 s192 s193 s194 s195 s196 s197 s198 s199 s200 s201 s202 s203 s204 s205 s206 s207 s208 s209 s210 s211 s212 s213 s214 s215 s216 s217 s218 s219 s220 s221 s222 s223 s224 s225 s226 s227 s228 s229 s230 s231 s232 s233 s234 : Value}
    (hG : GB w0 G T F B av l rows L w) (ha : a < l.length) (hv : v < l.length) (hLa : (L a).length ≤ 4194304) (hLv : (L (l.length + v)).length ≤ 4194304) (hBw : B ≤ w.heap.size) (hm : w.ownsRow LB tI 1 lv m.length (m.flatMap nC)) (hp : p < m.length) (hpv : m[p] = v)
    (hsep : ∀ j (h : j < rows.length), ∀ g, rows[j].ownBlock = some g → lv.ownBlock ≠ some g) (Q : Exit → Act → World → Prop)
    (hQ : ∀ (n193 n194 n195 n196 n197 n198 n199 n200 n201 n202 n203 n204 n205 n206 n207 n208 n209 n210 n211 n212 n213 n214 n215 n216 n217 n218 n219 n220 n221 n222 n223 n224 n225 n226 n227 n228 n229 n230 n231 n232 n233 : Value) (rows' : List Value) (w' : World), GB w0 G T F B av l rows' (upd (upd L a (L a ++ [v])) (l.length + v) (L (l.length + v) ++ [a])) w' → w'.ownsRow LB tI 1 lv m.length (m.flatMap nC) → (∀ j (h : j < rows'.length), ∀ g, rows'[j].ownBlock = some g → lv.ownBlock ≠ some g) → w.heap.size ≤ w'.heap.size →
      Q .normal { tmps := #[s0, s1, s2, s3, s4, s5, .pointer (some ⟨G, 0, none⟩), s7, s8, s9, s10, .int .i64 (a : Int), lv, s13, s14, .int .i64 (p : Int), s16, s17, s18, s19, s20, s21, s22, s23, s24, s25, s26, s27, s28, s29, s30, s31, s32, s33, s34, s35, s36, s37, s38, s39, s40, s41, s42, s43, s44, s45, s46, s47, s48, s49, s50, s51, s52, s53, s54, s55, s56, s57, s58, s59, s60, s61, s62, s63, s64, s65, s66, s67, s68, s69, s70, s71, s72, s73, s74, s75, s76, s77, s78, s79, s80, s81, s82, s83, s84, s85, s86, s87, s88, s89, s90, s91, s92, s93, s94, s95, s96, s97, s98, s99, s100, s101, s102, s103, s104, s105, s106, s107, s108, s109, s110, s111, s112, s113, s114, s115, s116, s117, s118, s119, s120, s121, s122, s123, s124, s125, s126, s127, s128, s129, s130, s131, s132, s133, s134, s135, s136, s137, s138, s139, s140, s141, s142, s143, s144, s145, s146, s147, s148, s149, s150, s151, s152, s153, s154, s155, s156, s157, s158, s159, s160, s161, s162, s163, s164, s165, s166, s167, s168, s169, s170, s171, s172, s173, s174, s175, s176, s177, s178, s179, s180, s181, s182, s183, s184, s185, s186, s187, s188, s189, s190, s191, s192, n193, n194, n195, n196, n197, n198, n199, n200, n201, n202, n203, n204, n205, n206, n207, n208, n209, n210, n211, n212, n213, n214, n215, n216, n217, n218, n219, n220, n221, n222, n223, n224, n225, n226, n227, n228, n229, n230, n231, n232, n233, s234], defers := [] } w') :
    (subC [1, 1, 1, 1, 1, 1, 1, 1, 1, 1, 0, 1, 0, 0, 1, 0, 0, 1, 1, 1, 1, 1, 0, 0, 1, 0, 0, 1, 2] (Tryz.f30.body.getD .skip)).wp Tryz.prog Q { tmps := #[s0, s1, s2, s3, s4, s5, .pointer (some ⟨G, 0, none⟩), s7, s8, s9, s10, .int .i64 (a : Int), lv, s13, s14, .int .i64 (p : Int), s16, s17, s18, s19, s20, s21, s22, s23, s24, s25, s26, s27, s28, s29, s30, s31, s32, s33, s34, s35, s36, s37, s38, s39, s40, s41, s42, s43, s44, s45, s46, s47, s48, s49, s50, s51, s52, s53, s54, s55, s56, s57, s58, s59, s60, s61, s62, s63, s64, s65, s66, s67, s68, s69, s70, s71, s72, s73, s74, s75, s76, s77, s78, s79, s80, s81, s82, s83, s84, s85, s86, s87, s88, s89, s90, s91, s92, s93, s94, s95, s96, s97, s98, s99, s100, s101, s102, s103, s104, s105, s106, s107, s108, s109, s110, s111, s112, s113, s114, s115, s116, s117, s118, s119, s120, s121, s122, s123, s124, s125, s126, s127, s128, s129, s130, s131, s132, s133, s134, s135, s136, s137, s138, s139, s140, s141, s142, s143, s144, s145, s146, s147, s148, s149, s150, s151, s152, s153, s154, s155, s156, s157, s158, s159, s160, s161, s162, s163, s164, s165, s166, s167, s168, s169, s170, s171, s172, s173, s174, s175, s176, s177, s178, s179, s180, s181, s182, s183, s184, s185, s186, s187, s188, s189, s190, s191, s192, s193, s194, s195, s196, s197, s198, s199, s200, s201, s202, s203, s204, s205, s206, s207, s208, s209, s210, s211, s212, s213, s214, s215, s216, s217, s218, s219, s220, s221, s222, s223, s224, s225, s226, s227, s228, s229, s230, s231, s232, s233, s234], defers := [] } w := by
  have HQ := Lib.hid hQ
  have HG := Lib.hid hG
  have HM := Lib.hid hm
  have HS := Lib.hid hsep
  have HPV := Lib.hid hpv
  clear hQ hG hm hsep hpv
  show (Code.seq (Code.region 44 _ _) _).wp _ _ _ _
  dsimp only
  obtain ⟨i0, hi0, hz0, hz1, hz2⟩ := info_parts infoInt
  have hajl : a < rows.length := by rw [HG.out.tw.len]; omega
  obtain ⟨gl, cl, rfl, hgl, _, _⟩ := own_cellI HM.out hp
  -- what the first region's worlds know
  have key : ∀ (rows : List Value) (L : Nat → List Nat) (w : World), GB w0 G T F B av l rows L w → w.ownsRow LB tI 1 (.slice (some ⟨gl, 0, none⟩) m.length cl) m.length (m.flatMap nC) → (∀ j (h : j < rows.length), ∀ g, rows[j].ownBlock = some g → (Value.slice (some ⟨gl, 0, none⟩) m.length cl).ownBlock ≠ some g) → ∀ j (hj : j < rows.length), ∀ u, (∃ S : List Nat, Fr S w u ∧ ∀ b ∈ S, rows[j].ownBlock = some b) → GrW w0 G T F B LB av (.slice (some ⟨gl, 0, none⟩) m.length cl) l m rows u := fun rows L w h hm hs j hj u ⟨S, hf, hS⟩ =>
    h.phW hm hf (fun hb => h.tw.off h.box (by decide) j hj G (hS G hb) rfl) (fun hb => h.tw.off h.tw.t (by decide) j hj T (hS T hb) rfl) (fun hb => h.tw.off h.tw.f (by decide) j hj F (hS F hb) rfl) (fun g hg hb => hs j hj g (hS g hb) hg)
  have HK := Lib.hid key
  clear key
  obtain ⟨q1, n1, p1, eq1⟩ := own_form (HG.out.tw.own a hajl)
  have HE1 := Lib.hid eq1
  clear eq1
  go_wp2_with fail
  refine graphR44 G T B a p v gl cl m.length l.length q1 n1 p1 (L a) w (fun g cap u => GrPh w (w.drew.alloc (.cells #[.int .i64 (v : Int)] tI)) a rows hajl B ((L a).length + 1) ((L a).flatMap nC ++ nC v) g cap u) (fun u => ∃ S : List Nat, Fr S w u ∧ ∀ b ∈ S, rows[a].ownBlock = some b) ⟨[], (Fr.refl [] w).drew, by simp⟩ ⟨[], ((Fr.refl [] w).drew).alloc _, by simp⟩ (fun g cap u hap => ⟨rows[a].ownBlock.toList, (((Fr.refl _ w).drew).alloc _).grown hap.gr (fun k hk => .inl (by rw [hk]; simp)), fun b hb => by simpa using hb⟩) i0 hi0 hz0 hz1 hz2 (Lib.hid ?_) hLa hBw (Lib.hid ?_) (Lib.hid ?_) (Lib.hid ?_) (Lib.hid ?_) (by omega) (by omega) ?_ _ ?_
  · have := (owns_fr (HG.out.tw.own a hajl) (Fr.refl [] w).drew (by simp)).alloc (.cells #[.int .i64 (v : Int)] tI)
    rw [HE1.out] at this
    exact this
  · exact fun u hu => cell_of (HK.out rows L w HG.out HM.out HS.out a hajl u hu).box 1
  · intro u hu
    rw [cell_of (HK.out rows L w HG.out HM.out HS.out a hajl u hu).t a, ← HE1.out]
    simp [ha, hajl]
  · exact fun u hu => free_of (HK.out rows L w HG.out HM.out HS.out a hajl u hu).t a
  · intro u hu
    obtain ⟨_, _, e, _, c, _⟩ := own_cellI (HK.out rows L w HG.out HM.out HS.out a hajl u hu).m' hp
    cases e
    rw [HPV.out] at c
    exact c
  · intro g cap u h1 h2 h3
    rw [← HE1.out] at h2 h3
    exact ⟨h1, h2, h3⟩
  · intro n193 n194 n195 n196 n197 n198 n199 n200 n201 n202 n203 n204 n205 n206 n207 n208 n209 n210 n211 g cap u hap
    have hA := (HG.out.fr0 (((Fr.refl [] w).drew).alloc (.cells #[.int .i64 (v : Int)] tI))).put (v' := .slice (some ⟨g, 0, none⟩) ((L a).length + 1) cap) (l' := L a ++ [v]) hajl (by simpa using hap.own) hap.gr (fun k hk => by
      cases hk
      rcases hap.at' with h | h
      · exact .inl h
      · exact .inr (by rw [h]; simp))
    have hA1 := hA.1 ha
    have hf1 : Fr rows[a].ownBlock.toList w u := (((Fr.refl _ w).drew).alloc _).grown hap.gr (fun k hk => .inl (by rw [hk]; simp))
    have hwu := HK.out rows L w HG.out HM.out HS.out a hajl u ⟨rows[a].ownBlock.toList, hf1, fun b hb => by simpa using hb⟩
    have hm1 : (u.setCell ⟨T, a, none⟩ (.slice (some ⟨g, 0, none⟩) ((L a).length + 1) cap)).ownsRow LB tI 1 (.slice (some ⟨gl, 0, none⟩) m.length cl) m.length (m.flatMap nC) := owns_fr hwu.m' (fr_cell u T a _) (fun k hk hm => by
      rw [List.mem_singleton] at hm
      exact own_box hwu.m' hwu.t (by decide) k hk hm)
    have hs1 : ∀ j (h : j < (rows.set a (.slice (some ⟨g, 0, none⟩) ((L a).length + 1) cap)).length), ∀ k, (rows.set a (.slice (some ⟨g, 0, none⟩) ((L a).length + 1) cap))[j].ownBlock = some k → (Value.slice (some ⟨gl, 0, none⟩) m.length cl).ownBlock ≠ some k := fun j hj k hk hk2 => by
      rw [List.getElem_set] at hk
      split at hk
      · cases hk
        rcases hap.at' with h | h
        · exact HS.out a hajl _ h hk2
        · exact absurd (HM.out.lt g hk2).2 (by rw [h]; omega)
      · exact HS.out j (by simpa using hj) k hk hk2
    have hzz : w.heap.size ≤ (u.setCell ⟨T, a, none⟩ (.slice (some ⟨g, 0, none⟩) ((L a).length + 1) cap)).heap.size := by
      have := hf1.size
      simpa using this
    have HG1 := Lib.hid hA1
    have HM1 := Lib.hid hm1
    have HS1 := Lib.hid hs1
    clear hA hA1 hf1 hwu hm1 hs1 hap
    have hvj : l.length + v < (rows.set a (.slice (some ⟨g, 0, none⟩) ((L a).length + 1) cap)).length := by rw [HG1.out.tw.len]; omega
    generalize rows.set a (.slice (some ⟨g, 0, none⟩) ((L a).length + 1) cap) = rows1 at *
    generalize u.setCell ⟨T, a, none⟩ (.slice (some ⟨g, 0, none⟩) ((L a).length + 1) cap) = w2 at *
    have HLV : Hid (upd L a (L a ++ [v]) (l.length + v) = L (l.length + v)) := upd_other (by omega)
    have HLN : Hid ((upd L a (L a ++ [v]) (l.length + v)).length ≤ 4194304) := by rw [HLV.out]; exact hLv
    generalize hL1 : upd L a (L a ++ [v]) = L1 at *
    have HL1 := Lib.hid hL1
    clear hL1
    obtain ⟨q2, n2, p2, eq2⟩ := own_form (HG1.out.tw.own (l.length + v) hvj)
    have HE2 := Lib.hid eq2
    clear eq2
    dsimp only
    go_wp2_with fail
    refine graphR45 G F B a p v gl cl m.length l.length q2 n2 p2 (L1 (l.length + v)) w2 (fun g cap u => GrPh w2 (w2.drew.alloc (.cells #[.int .i64 (a : Int)] tI)) (l.length + v) rows1 hvj B ((L1 (l.length + v)).length + 1) ((L1 (l.length + v)).flatMap nC ++ nC a) g cap u) (fun u => ∃ S : List Nat, Fr S w2 u ∧ ∀ b ∈ S, rows1[l.length + v].ownBlock = some b) ⟨[], (Fr.refl [] w2).drew, by simp⟩ ⟨[], ((Fr.refl [] w2).drew).alloc _, by simp⟩ (fun g cap u hap => ⟨rows1[l.length + v].ownBlock.toList, (((Fr.refl _ w2).drew).alloc _).grown hap.gr (fun k hk => .inl (by rw [hk]; simp)), fun b hb => by simpa using hb⟩) i0 hi0 hz0 hz1 hz2 (Lib.hid ?_) HLN.out (by omega) (Lib.hid ?_) (Lib.hid ?_) (Lib.hid ?_) (Lib.hid ?_) (by omega) (by omega) ?_ _ ?_
    · have := (owns_fr (HG1.out.tw.own (l.length + v) hvj) (Fr.refl [] w2).drew (by simp)).alloc (.cells #[.int .i64 (a : Int)] tI)
      rw [HE2.out] at this
      exact this
    · exact fun u hu => cell_of (HK.out rows1 L1 w2 HG1.out HM1.out HS1.out (l.length + v) hvj u hu).box 2
    · intro u hu
      rw [cell_of (HK.out rows1 L1 w2 HG1.out HM1.out HS1.out (l.length + v) hvj u hu).f v, ← HE2.out]
      simp [List.getElem?_drop]
    · exact fun u hu => free_of (HK.out rows1 L1 w2 HG1.out HM1.out HS1.out (l.length + v) hvj u hu).f v
    · intro u hu
      obtain ⟨_, _, e, _, c, _⟩ := own_cellI (HK.out rows1 L1 w2 HG1.out HM1.out HS1.out (l.length + v) hvj u hu).m' hp
      cases e
      rw [HPV.out] at c
      exact c
    · intro g cap u h1 h2 h3
      rw [← HE2.out] at h2 h3
      exact ⟨h1, h2, h3⟩
    · intro n212 n213 n214 n215 n216 n217 n218 n219 n220 n221 n222 n223 n224 n225 n226 n227 n228 n229 n230 n231 n232 n233 g2 cap2 u2 hap
      have hA := (HG1.out.fr0 (((Fr.refl [] w2).drew).alloc (.cells #[.int .i64 (a : Int)] tI))).put (v' := .slice (some ⟨g2, 0, none⟩) ((L1 (l.length + v)).length + 1) cap2) (l' := L1 (l.length + v) ++ [a]) hvj (by simpa using hap.own) hap.gr (fun k hk => by
        cases hk
        rcases hap.at' with h | h
        · exact .inl h
        · exact .inr (by rw [h]; simp))
      have hA1 := hA.2 v rfl
      have hf1 : Fr rows1[l.length + v].ownBlock.toList w2 u2 := (((Fr.refl _ w2).drew).alloc _).grown hap.gr (fun k hk => .inl (by rw [hk]; simp))
      have hwu := HK.out rows1 L1 w2 HG1.out HM1.out HS1.out (l.length + v) hvj u2 ⟨rows1[l.length + v].ownBlock.toList, hf1, fun b hb => by simpa using hb⟩
      have hm1 : (u2.setCell ⟨F, v, none⟩ (.slice (some ⟨g2, 0, none⟩) ((L1 (l.length + v)).length + 1) cap2)).ownsRow LB tI 1 (.slice (some ⟨gl, 0, none⟩) m.length cl) m.length (m.flatMap nC) := owns_fr hwu.m' (fr_cell u2 F v _) (fun k hk hm => by
        rw [List.mem_singleton] at hm
        exact own_box hwu.m' hwu.f (by decide) k hk hm)
      have hs1 : ∀ j (h : j < (rows1.set (l.length + v) (.slice (some ⟨g2, 0, none⟩) ((L1 (l.length + v)).length + 1) cap2)).length), ∀ k, (rows1.set (l.length + v) (.slice (some ⟨g2, 0, none⟩) ((L1 (l.length + v)).length + 1) cap2))[j].ownBlock = some k → (Value.slice (some ⟨gl, 0, none⟩) m.length cl).ownBlock ≠ some k := fun j hj k hk hk2 => by
        rw [List.getElem_set] at hk
        split at hk
        · cases hk
          rcases hap.at' with h | h
          · exact HS1.out (l.length + v) hvj _ h hk2
          · exact absurd (HM1.out.lt g2 hk2).2 (by rw [h]; omega)
        · exact HS1.out j (by simpa using hj) k hk hk2
      have hzz : w.heap.size ≤ (u2.setCell ⟨F, v, none⟩ (.slice (some ⟨g2, 0, none⟩) ((L1 (l.length + v)).length + 1) cap2)).heap.size := by
        have := hf1.size
        simp
        omega
      have e : upd L1 (l.length + v) (L1 (l.length + v) ++ [a]) = upd L1 (l.length + v) (L (l.length + v) ++ [a]) := by rw [HLV.out]
      exact HQ.out n193 n194 n195 n196 n197 n198 n199 n200 n201 n202 n203 n204 n205 n206 n207 n208 n209 n210 n211 n212 n213 n214 n215 n216 n217 n218 n219 n220 n221 n222 n223 n224 n225 n226 n227 n228 n229 n230 n231 n232 n233 _ _ (hA1.congr fun j _ => congrFun e j) hm1 hs1 hzz
end
section
open Go.RowKit Go.Shelf Go.Sort Go.Proofs

/-- Between two of a node's numbers. -/
structure PutJ (w0 : World) (G T F B LB n a k : Nat) (av lv : Value) (l : List Sp) (ns : List Nd) (m : List Nat) (p : Nat) (rows : List Value) (w : World) : Prop where
  gb : GB w0 G T F B av l rows (tabP ns k a m p) w
  lv' : w.ownsRow LB tI 1 lv m.length (m.flatMap nC)
  sep : ∀ j (h : j < rows.length), ∀ g, rows[j].ownBlock = some g → lv.ownBlock ≠ some g
  sz : n ≤ w.heap.size
theorem PutJ.fr0 {w0 : World} {G T F B LB n a k : Nat} {av lv : Value} {l : List Sp} {ns : List Nd} {m : List Nat} {p : Nat} {rows : List Value} {w w1 : World} (h : PutJ w0 G T F B LB n a k av lv l ns m p rows w) (hf : Fr [] w w1) : PutJ w0 G T F B LB n a k av lv l ns m p rows w1 :=
  ⟨h.gb.fr0 hf, owns_fr h.lv' hf (by simp), h.sep, Nat.le_trans h.sz hf.size⟩
theorem PutJ.yes {w0 : World} {G T F B LB n a k : Nat} {av lv : Value} {l : List Sp} {ns : List Nd} {m : List Nat} {p : Nat} {w : World} {rows' : List Value} (hln : l.length = ns.length) (ha : a < l.length) (hs : m.Pairwise (· ≤ ·)) (hp : p < m.length) (h : p = 0 ∨ m[p] ≠ m[p - 1]!)
    (h1 : GB w0 G T F B av l rows' (upd (upd (tabP ns k a m p) a (tabP ns k a m p a ++ [m[p]])) (l.length + m[p]) (tabP ns k a m p (l.length + m[p]) ++ [a])) w) (h2 : w.ownsRow LB tI 1 lv m.length (m.flatMap nC)) (h3 : ∀ j (h : j < rows'.length), ∀ g, rows'[j].ownBlock = some g → lv.ownBlock ≠ some g) (h4 : n ≤ w.heap.size) :
    PutJ w0 G T F B LB n a k av lv l ns m (p + 1) rows' w := by
  refine ⟨h1.congr fun j _ => ?_, h2, h3, h4⟩
  rw [hln] at ha ⊢
  rw [tabP_yes ha hs hp h, tabP_at ha, tabP_from hs hp h]
set_option maxRecDepth 100000 in
set_option maxHeartbeats 3200000 in
theorem graphPuts (w0 : World) (G T F B LB n a k : Nat) (av lv : Value) (l : List Sp) (ns : List Nd) (m : List Nat) (rows : List Value) (w : World) {s0 s1 s2 s3 s4 s5 s7 s8 s9 s10 s13 s14 s16 s17 s18 s19 s20 s21 s22 s23 s24 s25 s26 s27 s28 s29 s30 s31 s32 s33 s34 s35 s36 s37 s38 s39 s40 s41 s42 s43 s44 s45 s46 s47 s48 s49 s50 s51 s52 s53 s54 s55 s56 s57 s58 s59 s60 s61 s62 s63 s64 s65 s66 s67 s68 s69 s70 s71 s72 s73 s74 s75 s76 s77 s78 s79 s80 s81 s82 s83 s84 s85 s86 s87 s88 s89 s90 s91 s92 s93 s94 s95 s96 s97 s98 s99 s100 s101 s102 s103 s104 s105 s106 s107 s108 s109 s110 s111 s112 s113 s114 s115 s116 s117 s118 s119 s120 s121 s122 s123 s124 s125 s126 s127 s128 s129 s130 s131 s132 s133 s134 s135 s136 s137 s138 s139 s140 s141 s142 s143 s144 s145 s146 s147 s148 s149 s150 s151 s152 s153 s154 s155 s156 s157 s158 s159 s160 s161 s162 s163 s164 s165 s166 s167 s168 s169 s170 s171 s172 s173 s174 s175 s176 s177 s178 s179 s180 s181 s182 s183 s184 s185 s186 s187 s188 s189 s190 s191 s192 s193 s194 s195 s196 s197 s198 s199 s200 s201 s202 s203 s204 s205 s206 s207 s208 s209 s210 s211 s212 s213 s214 s215 s216 s217 s218 s219 s220 s221 s222 s223 s224 s225 s226 s227 s228 s229 s230 s231 s232 s233 s234 : Value}
    (hJ : PutJ w0 G T F B LB n a k av lv l ns m 0 rows w) (hln : l.length = ns.length) (hl : l.length ≤ 65536) (hk : k ≤ ns.length) (ha : a < l.length) (hmb : ∀ x ∈ m, x < l.length) (hms : m.Pairwise (· ≤ ·)) (hml : m.length ≤ 4000000) (hB : B ≤ n) (Q : Exit → Act → World → Prop)
    (hQ : ∀ (n15 n173 n174 n175 n176 n177 n178 n179 n180 n181 n182 n183 n184 n185 n186 n187 n188 n189 n190 n191 n192 n193 n194 n195 n196 n197 n198 n199 n200 n201 n202 n203 n204 n205 n206 n207 n208 n209 n210 n211 n212 n213 n214 n215 n216 n217 n218 n219 n220 n221 n222 n223 n224 n225 n226 n227 n228 n229 n230 n231 n232 n233 : Value) (rows' : List Value) (w' : World), PutJ w0 G T F B LB n a k av lv l ns m m.length rows' w' → Q .normal { tmps := #[s0, s1, s2, s3, s4, s5, .pointer (some ⟨G, 0, none⟩), s7, s8, s9, s10, .int .i64 (a : Int), lv, s13, s14, n15, s16, s17, s18, s19, s20, s21, s22, s23, s24, s25, s26, s27, s28, s29, s30, s31, s32, s33, s34, s35, s36, s37, s38, s39, s40, s41, s42, s43, s44, s45, s46, s47, s48, s49, s50, s51, s52, s53, s54, s55, s56, s57, s58, s59, s60, s61, s62, s63, s64, s65, s66, s67, s68, s69, s70, s71, s72, s73, s74, s75, s76, s77, s78, s79, s80, s81, s82, s83, s84, s85, s86, s87, s88, s89, s90, s91, s92, s93, s94, s95, s96, s97, s98, s99, s100, s101, s102, s103, s104, s105, s106, s107, s108, s109, s110, s111, s112, s113, s114, s115, s116, s117, s118, s119, s120, s121, s122, s123, s124, s125, s126, s127, s128, s129, s130, s131, s132, s133, s134, s135, s136, s137, s138, s139, s140, s141, s142, s143, s144, s145, s146, s147, s148, s149, s150, s151, s152, s153, s154, s155, s156, s157, s158, s159, s160, s161, s162, s163, s164, s165, s166, s167, s168, s169, s170, s171, s172, n173, n174, n175, n176, n177, n178, n179, n180, n181, n182, n183, n184, n185, n186, n187, n188, n189, n190, n191, n192, n193, n194, n195, n196, n197, n198, n199, n200, n201, n202, n203, n204, n205, n206, n207, n208, n209, n210, n211, n212, n213, n214, n215, n216, n217, n218, n219, n220, n221, n222, n223, n224, n225, n226, n227, n228, n229, n230, n231, n232, n233, s234], defers := [] } w') :
    (subC [1, 1, 1, 1, 1, 1, 1, 1, 1, 1, 0, 1, 0, 0, 1, 0, 0, 1, 1, 1, 1, 1] (Tryz.f30.body.getD .skip)).wp Tryz.prog Q { tmps := #[s0, s1, s2, s3, s4, s5, .pointer (some ⟨G, 0, none⟩), s7, s8, s9, s10, .int .i64 (a : Int), lv, s13, s14, .int .i64 0, s16, s17, s18, s19, s20, s21, s22, s23, s24, s25, s26, s27, s28, s29, s30, s31, s32, s33, s34, s35, s36, s37, s38, s39, s40, s41, s42, s43, s44, s45, s46, s47, s48, s49, s50, s51, s52, s53, s54, s55, s56, s57, s58, s59, s60, s61, s62, s63, s64, s65, s66, s67, s68, s69, s70, s71, s72, s73, s74, s75, s76, s77, s78, s79, s80, s81, s82, s83, s84, s85, s86, s87, s88, s89, s90, s91, s92, s93, s94, s95, s96, s97, s98, s99, s100, s101, s102, s103, s104, s105, s106, s107, s108, s109, s110, s111, s112, s113, s114, s115, s116, s117, s118, s119, s120, s121, s122, s123, s124, s125, s126, s127, s128, s129, s130, s131, s132, s133, s134, s135, s136, s137, s138, s139, s140, s141, s142, s143, s144, s145, s146, s147, s148, s149, s150, s151, s152, s153, s154, s155, s156, s157, s158, s159, s160, s161, s162, s163, s164, s165, s166, s167, s168, s169, s170, s171, s172, s173, s174, s175, s176, s177, s178, s179, s180, s181, s182, s183, s184, s185, s186, s187, s188, s189, s190, s191, s192, s193, s194, s195, s196, s197, s198, s199, s200, s201, s202, s203, s204, s205, s206, s207, s208, s209, s210, s211, s212, s213, s214, s215, s216, s217, s218, s219, s220, s221, s222, s223, s224, s225, s226, s227, s228, s229, s230, s231, s232, s233, s234], defers := [] } w := by
  have HQ := Lib.hid hQ
  have HJ := Lib.hid hJ
  have HLN := Lib.hid hln
  have HMB := Lib.hid hmb
  have HMS := Lib.hid hms
  obtain ⟨lq, lc, rfl, hl1, hl2⟩ := (own_sl hJ.lv').form
  clear hQ hJ hln hmb hms
  show (Code.block 12 _).wp _ _ _ _
  dsimp only
  go_wp2_with fail
  go_loopw [15] (fun i wr => ∃ (p : Nat) (rows : List Value), i = .int .i64 (p : Int) ∧ p ≤ m.length ∧ PutJ w0 G T F B LB n a k av (.slice lq m.length lc) l ns m p rows wr) (fun i _ => m.length - (intOf i).toNat)
  case atStart => exact ⟨0, rows, rfl, by omega, HJ.out⟩
  case round =>
    obtain ⟨p, rows, rfl, hp, hJ⟩ := hrel
    have HJR := Lib.hid hJ
    clear hJ
    by_cases hlt : p < m.length
    · have hp1 : (p : Int) < (m.length : Int) := by omega
      have hLa : (tabP ns k a m p a).length ≤ 4194304 := by
        have := tabP_len (ns := ns) (k := k) (a := a) (m := m) (p := p) (j := a) hk
        have := HLN.out
        omega
      have hLv : (tabP ns k a m p (l.length + m[p])).length ≤ 4194304 := by
        have := tabP_len (ns := ns) (k := k) (a := a) (m := m) (p := p) (j := l.length + m[p]) hk
        have := HLN.out
        omega
      have HLA := Lib.hid hLa
      have HLV := Lib.hid hLv
      clear hLa hLv
      by_cases hp0 : p = 0
      · subst hp0
        simp only [show ((0 : Nat) : Int) = 0 from rfl]
        go_wp2_with fail
        go_quiet (fail)
        have HJ2 := Lib.hid (HJR.out.fr0 ((Fr.refl [] wr).drewN nq))
        clear HJR
        generalize wr.drewN nq = w2 at *
        go_upto_if 192 with fail
        refine wp_cond_true rfl ?_
        refine graphPut w0 G T F B LB a 0 m[0] av (.slice lq m.length lc) l m rows (tabP ns k a m 0) w2 HJ2.out.gb ha (HMB.out _ (List.getElem_mem hlt)) HLA.out HLV.out (Nat.le_trans hB HJ2.out.sz) HJ2.out.lv' hlt rfl HJ2.out.sep _ ?_
        intros
        rename_i rows' w3 h1 h2 h3 h4
        have HJ3 := Lib.hid (PutJ.yes HLN.out ha HMS.out hlt (.inl rfl) h1 h2 h3 (Nat.le_trans HJ2.out.sz h4))
        clear h1 h2 h3 h4
        dsimp only
        go_wp2
        go_roundw
        case rel => exact ⟨1, rows', rfl, by omega, HJ3.out⟩
        case measure => simp [intOf]; omega
      · obtain ⟨q, hq⟩ : ∃ q, q + 1 = p := ⟨p - 1, by omega⟩
        have hql : q < m.length := by omega
        have hq1 : (q : Int) < (m.length : Int) := by omega
        obtain ⟨g, c, e, _, c0, _⟩ := own_cellI HJR.out.lv' hlt
        cases e
        obtain ⟨_, _, e, _, c1, _⟩ := own_cellI HJR.out.lv' hql
        cases e
        have hpd : ((p : Int) == 0) = false := by rw [beq_eq_false_iff_ne]; omega
        have hwr : IntKind.i64.wrap ((p : Int) - 1) = (q : Int) := by rw [IntKind.wrap_i64]; omega
        have HPRE : Hid (m[p - 1]! = m[q]) := by
          show _ = _
          rw [show p - 1 = q by omega]
          simp [hql]
        have HQP := Lib.hid hq
        clear hq
        by_cases hne : m[p] = m[q]
        · have HNO : Hid (¬ (p = 0 ∨ m[p] ≠ m[p - 1]!)) := fun h => by
            rcases h with h | h
            · exact hp0 h
            · rw [HPRE.out] at h
              exact h hne
          have hbe : ((m[p] : Int) != (m[q] : Int)) = false := by rw [hne]; simp
          have hbe2 : ((m[q] : Int) != (m[q] : Int)) = false := by simp
          have HMP := Lib.hid hne
          clear hne hp0
          generalize hmp : m[p] = x at *
          generalize hmq : m[q] = y at *
          have HMPe := Lib.hid hmp
          clear hmp hmq
          go_wp2_with fail
          go_quiet (fail)
          have HJ2 := Lib.hid (HJR.out.fr0 ((Fr.refl [] wr).drewN nq))
          clear HJR c0 c1
          generalize wr.drewN nq = w2 at *
          go_wp2
          go_roundw
          case rel => exact ⟨p + 1, rows, by go_num, by omega, ⟨HJ2.out.gb.congr fun j _ => (tabP_no HMS.out hlt (by rw [HMPe.out]; exact HNO.out) j).symm, HJ2.out.lv', HJ2.out.sep, HJ2.out.sz⟩⟩
          case measure => simp [intOf]; omega
        · have HYES : Hid (p = 0 ∨ m[p] ≠ m[p - 1]!) := .inr (by rw [HPRE.out]; exact hne)
          have hbe : ((m[p] : Int) != (m[q] : Int)) = true := by
            rw [bne_iff_ne]
            omega
          clear hne hp0
          generalize hmp : m[p] = x at *
          generalize hmq : m[q] = y at *
          have HMPe := Lib.hid hmp
          clear hmp hmq
          go_wp2_with fail
          go_quiet (fail)
          have HJ2 := Lib.hid (HJR.out.fr0 ((Fr.refl [] wr).drewN nq))
          clear HJR c0 c1
          generalize wr.drewN nq = w2 at *
          go_upto_if 192 with fail
          refine wp_cond_true rfl ?_
          refine graphPut w0 G T F B LB a p x av (.slice (some ⟨g, 0, none⟩) m.length lc) l m rows (tabP ns k a m p) w2 HJ2.out.gb ha (by rw [← HMPe.out]; exact HMB.out _ (List.getElem_mem hlt)) HLA.out HLV.out (Nat.le_trans hB HJ2.out.sz) HJ2.out.lv' hlt HMPe.out HJ2.out.sep _ ?_
          intros
          rename_i rows' w3 h1 h2 h3 h4
          have HJ3 : Hid (PutJ w0 G T F B LB n a k av (.slice (some ⟨g, 0, none⟩) m.length lc) l ns m (p + 1) rows' w3) := PutJ.yes HLN.out ha HMS.out hlt (by rw [HMPe.out]; exact HYES.out) (by rw [HMPe.out]; exact h1) h2 h3 (Nat.le_trans HJ2.out.sz h4)
          clear h1 h2 h3 h4
          dsimp only
          go_wp2
          go_roundw
          case rel => exact ⟨p + 1, rows', by go_num, by omega, HJ3.out⟩
          case measure => simp [intOf]; omega
    · obtain rfl : p = m.length := by omega
      go_wp2
      apply HQ.out
      exact HJR.out
end
end Go.Proofs.YtdlpbpohbkcafaaGreat
