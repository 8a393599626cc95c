/-
  quadrillelaw21.CycleRings: the marks against the ways.
-/
import Derived.Test.YtdlpbpohbkcafaaCLawRA
import Derived.Test.YtdlpbpohbkcafaaCRingA
namespace Go.Proofs.Ytdlpbpohbkcafaa
open Go.RowKit Go.Shelf Go.Sort Go.Proofs

abbrev tBS : TypeId := 36
theorem infoBS : (Try.prog.info? tBS).map (fun i => (i.zero, i.size, i.bytes)) = some (some (.slice none 0 0), 1, 24) := by kernel_rfl
theorem row_not {w : World} {S n B : Nat} {t e : TypeId} {f : Nat → Value} {v : Value} {size m : Nat} {xs : List Value} (h : w.rowIs S t n f) (ho : w.ownsRow B e size v m xs) (hne : t ≠ e) : S ∉ v.ownBlock.toList := fun hm => by
  obtain ⟨c, h1, _⟩ := h
  obtain ⟨_, c2, h2⟩ := own_hp ho (g := S) (by simpa using hm)
  rw [h1] at h2
  cases h2
  exact hne rfl
/-- The lists of all, in rows somewhere. -/
structure AllAt (B n : Nat) (g : Dg) (w : World) (v : Value) (Ss : List Nat) : Prop where
  row : w.ownsRow B tBS 1 v Ss.length (Ss.map fun S => .slice (some ⟨S, 0, none⟩) n n)
  at' : ∀ i (h : i < Ss.length), w.rowIs Ss[i] tB n fun j => .bool (reachB g i j)
theorem AllAt.fr0 {B n : Nat} {g : Dg} {w w1 : World} {v : Value} {Ss : List Nat} (h : AllAt B n g w v Ss) (hf : Fr [] w w1) : AllAt B n g w1 v Ss := ⟨owns_fr h.row hf (by simp), fun i hi => row_fr (h.at' i hi) hf (by simp)⟩
set_option maxRecDepth 100000 in
set_option maxHeartbeats 3200000 in
theorem lawLists (wb : World) (Wh : Nat) (ns : List Nd) (v3 v4 : Value) (w : World) {s0 s1 s2 s5 s7 s8 s9 s12 s13 s14 s15 s16 s17 s18 s19 s20 s21 s22 s23 s24 s25 s26 s27 s28 s29 s30 s31 s32 s33 s34 s35 s36 s37 s38 s39 s40 s41 s42 s43 s44 s45 s46 s47 s48 s49 s50 s51 s52 s53 s54 s55 s56 s57 s58 s59 s60 s61 s62 s63 s64 s65 s66 s67 s68 s69 s70 s71 s72 s73 s74 s75 s76 s77 s78 s79 s80 s81 s82 s83 s84 s85 s86 s87 s88 s89 s90 s91 s92 s93 s94 s95 s96 s97 s98 s99 s100 s101 s102 s103 s104 s105 s106 s107 s108 s109 s110 s111 s112 s113 s114 s115 s116 s117 s118 s119 s120 s121 s122 s123 s124 s125 s126 s127 s128 s129 s130 s131 s132 s133 s134 s135 s136 s137 s138 s139 s140 s141 s142 s143 s144 s145 s146 s147 s148 s149 s150 s151 s152 s153 s154 s155 s156 s157 s158 s159 s160 s161 s162 s163 s164 s165 s166 s167 s168 s169 s170 s171 s172 s173 s174 s175 s176 s177 s178 s179 s180 s181 s182 s183 s184 s185 s186 s187 : Value} (hN : NodesAt wb v3 ns) (hnd : (atsN ns).Nodup) (hlen : ns.length ≤ 65536) (hfr : Fr [] wb w) (Q : Exit → Act → World → Prop)
    (hQ : ∀ (n10 n11 n12 n118 n119 n120 n121 n122 n123 n124 n125 n126 n127 n128 n129 n130 : Value) (Ss : List Nat) (w' : World), Ss.length = ns.length → AllAt w.heap.size ns.length (uG (era ns)) w' n10 Ss → Fr [] w w' → Q .normal { tmps := #[s0, s1, s2, v3, v4, s5, .slice (some ⟨Wh, 0, none⟩) ns.length ns.length, s7, s8, s9, n10, n11, n12, s13, s14, s15, s16, s17, s18, s19, s20, s21, s22, s23, s24, s25, s26, s27, s28, s29, s30, s31, s32, s33, s34, s35, s36, s37, s38, s39, s40, s41, s42, s43, s44, s45, s46, s47, s48, s49, s50, s51, s52, s53, s54, s55, s56, s57, s58, s59, s60, s61, s62, s63, s64, s65, s66, s67, s68, s69, s70, s71, s72, s73, s74, s75, s76, s77, s78, s79, s80, s81, s82, s83, s84, s85, s86, s87, s88, s89, s90, s91, s92, s93, s94, s95, s96, s97, s98, s99, s100, s101, s102, s103, s104, s105, s106, s107, s108, s109, s110, s111, s112, s113, s114, s115, s116, s117, n118, n119, n120, n121, n122, n123, n124, n125, n126, n127, n128, n129, n130, s131, s132, s133, s134, s135, s136, s137, s138, s139, s140, s141, s142, s143, s144, s145, s146, s147, s148, s149, s150, s151, s152, s153, s154, s155, s156, s157, s158, s159, s160, s161, s162, s163, s164, s165, s166, s167, s168, s169, s170, s171, s172, s173, s174, s175, s176, s177, s178, s179, s180, s181, s182, s183, s184, s185, s186, s187], defers := [] } w') :
    (subC [1, 1, 1, 1, 1, 1, 1, 1, 0, 1] (Try.f3.body.getD .skip)).wp Try.prog Q { tmps := #[s0, s1, s2, v3, v4, s5, .slice (some ⟨Wh, 0, none⟩) ns.length ns.length, s7, s8, s9, .slice none 0 0, .int .i64 0, s12, s13, s14, s15, s16, s17, s18, s19, s20, s21, s22, s23, s24, s25, s26, s27, s28, s29, s30, s31, s32, s33, s34, s35, s36, s37, s38, s39, s40, s41, s42, s43, s44, s45, s46, s47, s48, s49, s50, s51, s52, s53, s54, s55, s56, s57, s58, s59, s60, s61, s62, s63, s64, s65, s66, s67, s68, s69, s70, s71, s72, s73, s74, s75, s76, s77, s78, s79, s80, s81, s82, s83, s84, s85, s86, s87, s88, s89, s90, s91, s92, s93, s94, s95, s96, s97, s98, s99, s100, s101, s102, s103, s104, s105, s106, s107, s108, s109, s110, s111, s112, s113, s114, s115, s116, s117, s118, s119, s120, s121, s122, s123, s124, s125, s126, s127, s128, s129, s130, s131, s132, s133, s134, s135, s136, s137, s138, s139, s140, s141, s142, s143, s144, s145, s146, s147, s148, s149, s150, s151, s152, s153, s154, s155, s156, s157, s158, s159, s160, s161, s162, s163, s164, s165, s166, s167, s168, s169, s170, s171, s172, s173, s174, s175, s176, s177, s178, s179, s180, s181, s182, s183, s184, s185, s186, s187], defers := [] } w := by
  have HQ := Lib.hid hQ
  have HN := Lib.hid hN
  have HND := Lib.hid hnd
  obtain ⟨sq, sc, rfl, hs1, hs2⟩ := hN.row.form
  obtain ⟨iB, hiB, hb0, hb1, hb2⟩ := info_parts infoBS
  clear hQ hN hnd
  show (Code.block 4 _).wp _ _ _ _
  dsimp only
  go_wp2_with fail
  go_loopw [10, 11] (fun lv i wr => ∃ (k : Nat) (Ss : List Nat), i = .int .i64 (k : Int) ∧ k ≤ ns.length ∧ Ss.length = k ∧ AllAt w.heap.size ns.length (uG (era ns)) wr lv Ss ∧ Fr [] w wr) (fun _ i _ => ns.length - (intOf i).toNat)
  case atStart => exact ⟨0, [], rfl, by omega, rfl, ⟨World.ownsRow_nil _ _ _ _, fun i hi => by simp at hi⟩, Fr.refl _ _⟩
  case round =>
    obtain ⟨k, Ss, rfl, hk, hSk, hA, hf⟩ := hrel
    have HA := Lib.hid hA
    have HSK := Lib.hid hSk
    have hSl : Ss.length ≤ 65536 := by omega
    clear hA hSk
    by_cases hlt : k < ns.length
    · have hk1 : (k : Int) < (ns.length : Int) := by omega
      go_wp2_with fail
      refine (reachC _ ns k _ (HN.out.fr0 (hfr.trans0 hf)) HND.out hlen hlt).mono ?_
      rintro e w3 ⟨S, rfl, hS, hrow, h3⟩
      have HA3 := Lib.hid (HA.out.fr0 h3)
      have HR3 := Lib.hid hrow
      have hf3 := hf.trans0 h3
      have hown2 := HA3.out.row.alloc (.cells #[.slice (some ⟨S, 0, none⟩) ns.length ns.length] tBS)
      have hsz := hf3.size
      clear hrow h3
      go_wp2_with (at_builtin; refine wpList_append_own _ rfl _ _ 35 rfl w.heap.size tBS iB _ 1 24 Try.underlying35 hiB hb0 hb1 hb2 rfl (by decide) _ _ _ rfl hown2 ⟨w3.heap.size, 0, none⟩ 1 1 [.slice (some ⟨S, 0, none⟩) ns.length ns.length] rfl rfl (by have := news_of w3 [.slice (some ⟨S, 0, none⟩) ns.length ns.length] tBS; simpa using this) (one_mem rfl) (by unfold maxLen; omega) (by omega) (by simp; omega) ?_; intro v' w9 hown9 hgrow _)
      have hfa : Fr [] w3 (w3.alloc (.cells #[.slice (some ⟨S, 0, none⟩) ns.length ns.length] tBS)) := (Fr.refl [] w3).alloc _
      have HF9 : Fr [] w w9 := (hf3.trans0 hfa).grown hgrow (fun k' hk' => .inr (hown2.lt k' hk').1)
      have HA9 : Hid (AllAt w.heap.size ns.length (uG (era ns)) w9 v' (Ss ++ [S])) := by
        refine ⟨by simpa using hown9, fun i hi => ?_⟩
        have key : ∀ (T : Nat) (F : Nat → Value), w3.rowIs T tB ns.length F → w9.rowIs T tB ns.length F := fun T F hT => by
          have h1 := row_fr hT hfa (by simp)
          exact row_fr h1 (fr_grown hgrow) (row_not h1 hown2 (by decide))
        simp only [List.length_append, List.length_cons, List.length_nil, Nat.zero_add] at hi
        by_cases e : i < Ss.length
        · rw [List.getElem_append_left e]
          exact key _ _ (HA3.out.at' i e)
        · have e2 : i = Ss.length := by omega
          subst e2
          rw [List.getElem_append_right (Nat.le_refl _)]
          have := key _ _ HR3.out
          rw [← HSK.out] at this
          simpa using this
      clear hown9 hgrow hown2 hfa
      go_wp2
      go_roundw
      case rel => exact ⟨k + 1, Ss ++ [S], by go_num, by omega, by simp [HSK.out], HA9.out, HF9⟩
      case measure => simp [intOf]; omega
    · obtain rfl : k = ns.length := by omega
      go_wp2
      apply HQ.out
      · exact HSK.out
      · exact HA.out
      · exact hf
theorem mark_one {ns : List Nd} {R : List (List Sp)} (hF : RingFacts (atsN ns) (Rch1 (uG (era ns))) R) {i : Nat} (hi : i < ns.length) : 0 < ringNo R ((atsN ns).getD i (0, 0)) ↔ reachB (uG (era ns)) i i = true := by
  have hil : i < (atsN ns).length := by simpa [atsN] using hi
  rw [reachB_true, List.getD_eq_getElem?_getD, List.getElem?_eq_getElem hil]
  have h := hF.both i i hil hil
  have h2 : 0 < ringNo R (atsN ns)[i] ↔ ∃ r ∈ R, (atsN ns)[i] ∈ r ∧ (atsN ns)[i] ∈ r := by
    rw [← ringNo_same hF.apart]
    simp only [and_true]
    omega
  show 0 < ringNo R (atsN ns)[i] ↔ _
  rw [h2, h]
  simp
theorem mark_two {ns : List Nd} {R : List (List Sp)} (hF : RingFacts (atsN ns) (Rch1 (uG (era ns))) R) {i k : Nat} (hi : i < ns.length) (hk : k < ns.length) : (0 < ringNo R ((atsN ns).getD i (0, 0)) ∧ ringNo R ((atsN ns).getD i (0, 0)) = ringNo R ((atsN ns).getD k (0, 0))) ↔ (reachB (uG (era ns)) i k = true ∧ reachB (uG (era ns)) k i = true) := by
  have hil : i < (atsN ns).length := by simpa [atsN] using hi
  have hkl : k < (atsN ns).length := by simpa [atsN] using hk
  rw [reachB_true, reachB_true, List.getD_eq_getElem?_getD, List.getElem?_eq_getElem hil, List.getD_eq_getElem?_getD, List.getElem?_eq_getElem hkl]
  have h := hF.both i k hil hkl
  rw [← h, ← ringNo_same hF.apart]
  show (0 < ringNo R (atsN ns)[i] ∧ _) ↔ _
  constructor
  · rintro ⟨h1, h2⟩
    exact ⟨by omega, h2⟩
  · rintro ⟨h1, h2⟩
    exact ⟨by omega, h2⟩
set_option maxRecDepth 100000 in
set_option maxHeartbeats 6400000 in
theorem lawCheckIn (B Wh i : Nat) (ns : List Nd) (R : List (List Sp)) (v4 : Value) (sq : Option Addr) (sc b off lc : Nat) (Ss : List Nat) (w : World) {s0 s1 s2 s5 s7 s8 s9 s11 s12 s14 s15 s16 s17 s18 s19 s20 s21 s22 s23 s24 s25 s26 s27 s28 s29 s30 s31 s32 s33 s34 s35 s36 s37 s38 s39 s40 s41 s42 s43 s44 s45 s46 s47 s48 s49 s50 s51 s52 s53 s54 s55 s56 s57 s58 s59 s60 s61 s62 s63 s64 s65 s66 s67 s68 s69 s70 s71 s72 s73 s74 s75 s76 s77 s78 s79 s80 s81 s82 s83 s84 s85 s86 s87 s88 s89 s90 s91 s92 s93 s94 s95 s96 s97 s98 s99 s100 s101 s102 s103 s104 s105 s106 s107 s108 s109 s110 s111 s112 s113 s114 s115 s116 s117 s118 s119 s120 s121 s122 s123 s124 s125 s126 s127 s128 s129 s130 s131 s132 s133 s134 s135 s136 s137 s138 s139 s140 s141 s142 s143 s144 s145 s146 s147 s148 s149 s150 s151 s152 s153 s154 s155 s156 s157 s158 s159 s160 s161 s162 s163 s164 s165 s166 s167 s168 s169 s170 s171 s172 s173 s174 s175 s176 s177 s178 s179 s180 s181 s182 s183 s184 s185 s186 s187 : Value} (hi : i < ns.length) (hlen : ns.length ≤ 65536) (hRF : RingFacts (atsN ns) (Rch1 (uG (era ns))) R)
    (hw : w.rowIs Wh tI ns.length (markF ns R)) (hA : AllAt B ns.length (uG (era ns)) w (.slice (some ⟨b, off, none⟩) ns.length lc) Ss) (hS : Ss.length = ns.length) (hl1 : ns.length ≤ lc) (hl2 : lc ≤ 9223372036854775807) (Q : Exit → Act → World → Prop)
    (hQ : ∀ (n2 n14 n150 n151 n152 n153 n154 n155 n156 n157 n158 n159 n160 n161 n162 n163 n164 n165 n166 n167 n168 n169 n170 n171 n172 n173 n174 n175 n176 n177 n178 n179 n180 n181 n182 n183 n184 n185 n186 n187 : Value) (w' : World), Fr [] w w' → Q .normal { tmps := #[s0, s1, n2, .slice sq ns.length sc, v4, s5, .slice (some ⟨Wh, 0, none⟩) ns.length ns.length, s7, s8, s9, .slice (some ⟨b, off, none⟩) ns.length lc, s11, s12, .int .i64 (i : Int), n14, s15, s16, s17, s18, s19, s20, s21, s22, s23, s24, s25, s26, s27, s28, s29, s30, s31, s32, s33, s34, s35, s36, s37, s38, s39, s40, s41, s42, s43, s44, s45, s46, s47, s48, s49, s50, s51, s52, s53, s54, s55, s56, s57, s58, s59, s60, s61, s62, s63, s64, s65, s66, s67, s68, s69, s70, s71, s72, s73, s74, s75, s76, s77, s78, s79, s80, s81, s82, s83, s84, s85, s86, s87, s88, s89, s90, s91, s92, s93, s94, s95, s96, s97, s98, s99, s100, s101, s102, s103, s104, s105, s106, s107, s108, s109, s110, s111, s112, s113, s114, s115, s116, s117, s118, s119, s120, s121, s122, s123, s124, s125, s126, s127, s128, s129, s130, s131, s132, s133, s134, s135, s136, s137, s138, s139, s140, s141, s142, s143, s144, s145, s146, s147, s148, s149, n150, n151, n152, n153, n154, n155, n156, n157, n158, n159, n160, n161, n162, n163, n164, n165, n166, n167, n168, n169, n170, n171, n172, n173, n174, n175, n176, n177, n178, n179, n180, n181, n182, n183, n184, n185, n186, n187], defers := [] } w') :
    (subC [1, 1, 1, 1, 1, 1, 1, 1, 1, 0, 1, 0, 0, 1, 0, 0, 1] (Try.f3.body.getD .skip)).wp Try.prog Q { tmps := #[s0, s1, s2, .slice sq ns.length sc, v4, s5, .slice (some ⟨Wh, 0, none⟩) ns.length ns.length, s7, s8, s9, .slice (some ⟨b, off, none⟩) ns.length lc, s11, s12, .int .i64 (i : Int), s14, s15, s16, s17, s18, s19, s20, s21, s22, s23, s24, s25, s26, s27, s28, s29, s30, s31, s32, s33, s34, s35, s36, s37, s38, s39, s40, s41, s42, s43, s44, s45, s46, s47, s48, s49, s50, s51, s52, s53, s54, s55, s56, s57, s58, s59, s60, s61, s62, s63, s64, s65, s66, s67, s68, s69, s70, s71, s72, s73, s74, s75, s76, s77, s78, s79, s80, s81, s82, s83, s84, s85, s86, s87, s88, s89, s90, s91, s92, s93, s94, s95, s96, s97, s98, s99, s100, s101, s102, s103, s104, s105, s106, s107, s108, s109, s110, s111, s112, s113, s114, s115, s116, s117, s118, s119, s120, s121, s122, s123, s124, s125, s126, s127, s128, s129, s130, s131, s132, s133, s134, s135, s136, s137, s138, s139, s140, s141, s142, s143, s144, s145, s146, s147, s148, s149, s150, s151, s152, s153, s154, s155, s156, s157, s158, s159, s160, s161, s162, s163, s164, s165, s166, s167, s168, s169, s170, s171, s172, s173, s174, s175, s176, s177, s178, s179, s180, s181, s182, s183, s184, s185, s186, s187], defers := [] } w := by
  have HQ := Lib.hid hQ
  have HF := Lib.hid hRF
  have HW := Lib.hid hw
  have HA := Lib.hid hA
  have HS := Lib.hid hS
  clear hQ hRF hw hA hS
  show ((Code.region 31 _ _).seq _).wp _ _ _ _
  dsimp only
  go_wp2_with fail
  go_loopw [14] (fun j wr => ∃ k : Nat, j = .int .i64 (k : Int) ∧ k ≤ i ∧ Fr [] w wr) (fun j _ => i - (intOf j).toNat)
  case atStart => exact ⟨0, rfl, by omega, Fr.refl _ _⟩
  case round =>
    obtain ⟨k, rfl, hk, hf⟩ := hrel
    by_cases hlt : k < i
    · have hki : (k : Int) < (i : Int) := by omega
      have hkn : k < ns.length := by omega
      have hi1 : (i : Int) < (ns.length : Int) := by omega
      have hk1 : (k : Int) < (ns.length : Int) := by omega
      have hA2 := HA.out.fr0 hf
      obtain ⟨_, _, _, e, hb, hc⟩ := (own_sl hA2.row).cell (by have := HS.out; omega)
      rw [HS.out] at e
      cases e
      have hiS : i < Ss.length := by rw [HS.out]; exact hi
      have hkS : k < Ss.length := by rw [HS.out]; exact hkn
      have e0 : wr.cell? ⟨b, off + i, none⟩ = some (.slice (some ⟨Ss[i], 0, none⟩) ns.length ns.length) := hc i _ (by simp [hiS])
      have e1 : wr.cell? ⟨b, off + k, none⟩ = some (.slice (some ⟨Ss[k], 0, none⟩) ns.length ns.length) := hc k _ (by simp [hkS])
      have f0 := (hA2.at' i hiS).cell hkn
      have f1 := (hA2.at' k hkS).cell hi
      have hWR := row_fr HW.out hf (by simp)
      have g0 : wr.cell? ⟨Wh, i, none⟩ = some (.int .i64 (ringNo R ((atsN ns).getD i (0, 0)) : Int)) := hWR.cell hi
      have g1 : wr.cell? ⟨Wh, k, none⟩ = some (.int .i64 (ringNo R ((atsN ns).getD k (0, 0)) : Int)) := hWR.cell hkn
      have hM := mark_two HF.out hi hkn
      have HLT := Lib.hid hlt
      clear hA2 hc hWR hlt
      generalize ringNo R ((atsN ns).getD i (0, 0)) = wi at *
      generalize ringNo R ((atsN ns).getD k (0, 0)) = wk at *
      generalize Ss[i] = Si at *
      generalize Ss[k] = Sk at *
      generalize reachB (uG (era ns)) i k = ra at *
      generalize reachB (uG (era ns)) k i = rb at *
      by_cases hp : 0 < wi
      · have hp1 : (0 : Int) < (wi : Int) := by omega
        have hp2 : decide ((0 : Int) < (wi : Int)) = true := decide_eq_true hp1
        have hp3 : decide (0 < wi) = true := decide_eq_true hp
        by_cases he : wi = wk
        · obtain ⟨rfl, rfl⟩ := hM.1 ⟨hp, he⟩
          subst he
          have HHP := Lib.hid hp
          clear hM
          go_wp2_with fail
          go_quiet (fail)
          go_wp2
          go_roundw
          case rel => exact ⟨k + 1, by go_num, by have := HLT.out; omega, hf.drewN nq⟩
          case measure => simp [intOf]; omega
        · have hnot : ¬ (ra = true ∧ rb = true) := fun h => he (hM.2 h).2
          have he1 : ((wi : Int) == (wk : Int)) = false := by rw [beq_eq_false_iff_ne]; omega
          have he2 : ¬ (wi : Int) = (wk : Int) := by omega
          have HE := Lib.hid he
          clear hM he
          cases ra with
          | false =>
            clear hnot
            go_wp2_with fail
            go_quiet (fail)
            go_wp2
            go_roundw
            case rel => exact ⟨k + 1, by go_num, by have := HLT.out; omega, hf.drewN nq⟩
            case measure => simp [intOf]; omega
          | true =>
            obtain rfl : rb = false := by cases rb with
              | false => rfl
              | true => exact absurd ⟨rfl, rfl⟩ hnot
            clear hnot
            go_wp2_with fail
            go_quiet (fail)
            go_wp2
            go_roundw
            case rel => exact ⟨k + 1, by go_num, by have := HLT.out; omega, hf.drewN nq⟩
            case measure => simp [intOf]; omega
      · have hnot : ¬ (ra = true ∧ rb = true) := fun h => hp (hM.2 h).1
        obtain rfl : wi = 0 := by omega
        have g0' : wr.cell? ⟨Wh, i, none⟩ = some (.int .i64 0) := g0
        clear hM hp g0
        cases ra with
        | false =>
          clear hnot
          go_wp2_with fail
          go_quiet (fail)
          go_wp2
          go_roundw
          case rel => exact ⟨k + 1, by go_num, by have := HLT.out; omega, hf.drewN nq⟩
          case measure => simp [intOf]; omega
        | true =>
          obtain rfl : rb = false := by cases rb with
            | false => rfl
            | true => exact absurd ⟨rfl, rfl⟩ hnot
          clear hnot
          go_wp2_with fail
          go_quiet (fail)
          go_wp2
          go_roundw
          case rel => exact ⟨k + 1, by go_num, by have := HLT.out; omega, hf.drewN nq⟩
          case measure => simp [intOf]; omega
    · obtain rfl : k = i := by omega
      go_wp2
      apply HQ.out
      exact hf
set_option maxRecDepth 100000 in
set_option maxHeartbeats 3200000 in
theorem lawCheck (B Wh : Nat) (ns : List Nd) (R : List (List Sp)) (v3 v4 v10 : Value) (Ss : List Nat) (w : World) {s0 s1 s2 s5 s7 s8 s9 s11 s12 s14 s15 s16 s17 s18 s19 s20 s21 s22 s23 s24 s25 s26 s27 s28 s29 s30 s31 s32 s33 s34 s35 s36 s37 s38 s39 s40 s41 s42 s43 s44 s45 s46 s47 s48 s49 s50 s51 s52 s53 s54 s55 s56 s57 s58 s59 s60 s61 s62 s63 s64 s65 s66 s67 s68 s69 s70 s71 s72 s73 s74 s75 s76 s77 s78 s79 s80 s81 s82 s83 s84 s85 s86 s87 s88 s89 s90 s91 s92 s93 s94 s95 s96 s97 s98 s99 s100 s101 s102 s103 s104 s105 s106 s107 s108 s109 s110 s111 s112 s113 s114 s115 s116 s117 s118 s119 s120 s121 s122 s123 s124 s125 s126 s127 s128 s129 s130 s131 s132 s133 s134 s135 s136 s137 s138 s139 s140 s141 s142 s143 s144 s145 s146 s147 s148 s149 s150 s151 s152 s153 s154 s155 s156 s157 s158 s159 s160 s161 s162 s163 s164 s165 s166 s167 s168 s169 s170 s171 s172 s173 s174 s175 s176 s177 s178 s179 s180 s181 s182 s183 s184 s185 s186 s187 : Value} (hsl : ∃ a c, v3 = .slice a ns.length c ∧ ns.length ≤ c ∧ c ≤ 9223372036854775807) (hlen : ns.length ≤ 65536) (hRF : RingFacts (atsN ns) (Rch1 (uG (era ns))) R)
    (hw : w.rowIs Wh tI ns.length (markF ns R)) (hA : AllAt B ns.length (uG (era ns)) w v10 Ss) (hS : Ss.length = ns.length) (Q : Exit → Act → World → Prop)
    (hQ : ∀ (n2 n13 n14 n131 n132 n133 n134 n135 n136 n137 n138 n139 n140 n141 n142 n143 n144 n145 n146 n147 n148 n149 n150 n151 n152 n153 n154 n155 n156 n157 n158 n159 n160 n161 n162 n163 n164 n165 n166 n167 n168 n169 n170 n171 n172 n173 n174 n175 n176 n177 n178 n179 n180 n181 n182 n183 n184 n185 n186 n187 : Value) (w' : World), Fr [] w w' → Q .normal { tmps := #[s0, s1, n2, v3, v4, s5, .slice (some ⟨Wh, 0, none⟩) ns.length ns.length, s7, s8, s9, v10, s11, s12, n13, n14, s15, s16, s17, s18, s19, s20, s21, s22, s23, s24, s25, s26, s27, s28, s29, s30, s31, s32, s33, s34, s35, s36, s37, s38, s39, s40, s41, s42, s43, s44, s45, s46, s47, s48, s49, s50, s51, s52, s53, s54, s55, s56, s57, s58, s59, s60, s61, s62, s63, s64, s65, s66, s67, s68, s69, s70, s71, s72, s73, s74, s75, s76, s77, s78, s79, s80, s81, s82, s83, s84, s85, s86, s87, s88, s89, s90, s91, s92, s93, s94, s95, s96, s97, s98, s99, s100, s101, s102, s103, s104, s105, s106, s107, s108, s109, s110, s111, s112, s113, s114, s115, s116, s117, s118, s119, s120, s121, s122, s123, s124, s125, s126, s127, s128, s129, s130, n131, n132, n133, n134, n135, n136, n137, n138, n139, n140, n141, n142, n143, n144, n145, n146, n147, n148, n149, n150, n151, n152, n153, n154, n155, n156, n157, n158, n159, n160, n161, n162, n163, n164, n165, n166, n167, n168, n169, n170, n171, n172, n173, n174, n175, n176, n177, n178, n179, n180, n181, n182, n183, n184, n185, n186, n187], defers := [] } w') :
    (subC [1, 1, 1, 1, 1, 1, 1, 1, 1, 0, 1] (Try.f3.body.getD .skip)).wp Try.prog Q { tmps := #[s0, s1, s2, v3, v4, s5, .slice (some ⟨Wh, 0, none⟩) ns.length ns.length, s7, s8, s9, v10, s11, s12, .int .i64 0, s14, s15, s16, s17, s18, s19, s20, s21, s22, s23, s24, s25, s26, s27, s28, s29, s30, s31, s32, s33, s34, s35, s36, s37, s38, s39, s40, s41, s42, s43, s44, s45, s46, s47, s48, s49, s50, s51, s52, s53, s54, s55, s56, s57, s58, s59, s60, s61, s62, s63, s64, s65, s66, s67, s68, s69, s70, s71, s72, s73, s74, s75, s76, s77, s78, s79, s80, s81, s82, s83, s84, s85, s86, s87, s88, s89, s90, s91, s92, s93, s94, s95, s96, s97, s98, s99, s100, s101, s102, s103, s104, s105, s106, s107, s108, s109, s110, s111, s112, s113, s114, s115, s116, s117, s118, s119, s120, s121, s122, s123, s124, s125, s126, s127, s128, s129, s130, s131, s132, s133, s134, s135, s136, s137, s138, s139, s140, s141, s142, s143, s144, s145, s146, s147, s148, s149, s150, s151, s152, s153, s154, s155, s156, s157, s158, s159, s160, s161, s162, s163, s164, s165, s166, s167, s168, s169, s170, s171, s172, s173, s174, s175, s176, s177, s178, s179, s180, s181, s182, s183, s184, s185, s186, s187], defers := [] } w := by
  have HQ := Lib.hid hQ
  have HF := Lib.hid hRF
  have HW := Lib.hid hw
  have HA := Lib.hid hA
  have HS := Lib.hid hS
  obtain ⟨sq, sc, rfl, hs1, hs2⟩ := hsl
  obtain ⟨lq, lc, hlv, hl1, hl2⟩ := (own_sl hA.row).form
  rw [hS] at hlv hl1
  subst hlv
  clear hQ hRF hw hA hS
  show (Code.block 6 _).wp _ _ _ _
  dsimp only
  go_wp2_with fail
  go_loopw [13] (fun i wr => ∃ k : Nat, i = .int .i64 (k : Int) ∧ k ≤ ns.length ∧ Fr [] w wr) (fun i _ => ns.length - (intOf i).toNat)
  case atStart => exact ⟨0, rfl, by omega, Fr.refl _ _⟩
  case round =>
    obtain ⟨i, rfl, hi, hf⟩ := hrel
    by_cases hlt : i < ns.length
    · have hi1 : (i : Int) < (ns.length : Int) := by omega
      have hA2 := HA.out.fr0 hf
      obtain ⟨b, off, _, e, hb, hc⟩ := (own_sl hA2.row).cell (by have := HS.out; omega)
      rw [HS.out] at e
      cases e
      have hiS : i < Ss.length := by rw [HS.out]; exact hlt
      have HC := Lib.hid hc
      have hSl : Hid (∀ j (hj : j < Ss.length), wr.cell? ⟨b, off + j, none⟩ = some (.slice (some ⟨Ss[j], 0, none⟩) ns.length ns.length)) := fun j hj => HC.out j _ (by simp [hj])
      have e0 := hSl.out i hiS
      have HRI := Lib.hid (hA2.at' i hiS)
      have HWR := Lib.hid (row_fr HW.out hf (by simp))
      have e1 := HRI.out.cell hlt
      have e2 := HWR.out.cell hlt
      have hM1 := mark_one HF.out hlt
      have hmk : markF ns R i = .int .i64 (ringNo R ((atsN ns).getD i (0, 0)) : Int) := rfl
      rw [hmk] at e2
      have HLT := Lib.hid hlt
      clear hA2 hc hmk hlt
      generalize hwi : ringNo R ((atsN ns).getD i (0, 0)) = wi at *
      have HWI := Lib.hid hwi
      clear hwi
      generalize hSi : Ss[i] = Si at *
      clear hSi
      by_cases hp : 0 < wi
      · have hp1 : (0 : Int) < (wi : Int) := by omega
        have hp2 : decide ((0 : Int) < (wi : Int)) = true := decide_eq_true hp1
        have hp3 : decide (0 < wi) = true := decide_eq_true hp
        have hbt := hM1.1 hp
        rw [hbt] at e1
        have HHP := Lib.hid hp
        clear hM1 hbt
        go_wp2_with fail
        go_quiet (fail)
        go_upto_if 149 with fail
        refine wp_cond_false rfl ?_
        go_step
        simp only [Exit.then]
        go_step
        refine lawCheckIn B Wh i ns R _ sq sc b off lc Ss (wr.drewN nq) HLT.out hlen HF.out (row_fr HWR.out ((Fr.refl [] wr).drewN nq) (by simp)) (HA.out.fr0 (hf.drewN nq)) HS.out hl1 hl2 _ ?_
        intros
        rename_i w' hf'
        have HFW := Lib.hid ((hf.drewN nq).trans0 hf')
        clear hf'
        dsimp only
        go_wp2
        go_roundw
        case rel => exact ⟨i + 1, by go_num, by have := HLT.out; omega, HFW.out⟩
        case measure => simp [intOf]; have := HLT.out; omega
      · obtain rfl : wi = 0 := by omega
        have hbf : reachB (uG (era ns)) i i = false := by
          cases h : reachB (uG (era ns)) i i with
          | false => rfl
          | true => exact absurd (hM1.2 h) hp
        rw [hbf] at e1
        have e2' : wr.cell? ⟨Wh, i, none⟩ = some (.int .i64 0) := e2
        clear hM1 hbf hp e2
        go_wp2_with fail
        go_quiet (fail)
        go_upto_if 149 with fail
        refine wp_cond_false rfl ?_
        go_step
        simp only [Exit.then]
        go_step
        refine lawCheckIn B Wh i ns R _ sq sc b off lc Ss (wr.drewN nq) HLT.out hlen HF.out (row_fr HWR.out ((Fr.refl [] wr).drewN nq) (by simp)) (HA.out.fr0 (hf.drewN nq)) HS.out hl1 hl2 _ ?_
        intros
        rename_i w' hf'
        have HFW := Lib.hid ((hf.drewN nq).trans0 hf')
        clear hf'
        dsimp only
        go_wp2
        go_roundw
        case rel => exact ⟨i + 1, by go_num, by have := HLT.out; omega, HFW.out⟩
        case measure => simp [intOf]; have := HLT.out; omega
    · obtain rfl : i = ns.length := by omega
      go_wp2
      apply HQ.out
      exact hf
end Go.Proofs.Ytdlpbpohbkcafaa
