/-
  quadrillelaw7's (*pair).goes: a pass, from the loop's head to its head.
-/
import Derived.Test.YtldppdafgbipjaaGoesP
namespace Go.Proofs.Ytldppdafgbipjaa
open Go.RowKit Go.Shelf
attribute [local go_sem] Oper.semAt_some

set_option maxRecDepth 100000 in
set_option maxHeartbeats 1600000 in
theorem goesRound (n0 : Nat) (hn0 : 6 ≤ n0) (pass : Int) (hpass : pass = 0 ∨ pass = 1) (pb tb mb rb PB LB XB FB VB B M N0 : Nat) (o : Op7) (vA vX vl vx rv : Value) (l R G : List (Sp × Int)) (W : World) {z0 z1 z9 z10 z11 z12 z13 z14 z15 z16 z17 z18 z19 z20 z21 z22 z23 z24 z25 z26 z27 z28 z29 z30 z31 z32 z33 z34 z35 z36 z37 z38 z39 z40 z41 z42 z43 z44 z45 z46 z47 z48 z49 z50 z51 z52 z53 z54 z55 z56 z57 z58 z59 z60 z61 z62 z63 z64 z65 z66 z67 z68 z69 z70 z71 z72 z73 z74 z75 z76 z77 z78 z79 z80 z81 z82 z83 z84 z85 z86 z87 z88 z89 z90 z91 z92 z93 z94 z95 z96 z97 z98 z99 z100 z101 z102 z103 z104 z105 z106 z107 z108 z109 z110 z111 z112 z113 z114 z115 z116 z117 z118 z119 z120 z121 z122 z123 z124 z125 z126 z127 z128 z129 z130 z131 z132 z133 z134 z135 z136 z137 z138 z139 z140 z141 z142 z143 z144 z145 z146 z147 z148 z149 z150 z151 z152 z153 z154 z155 z156 z157 z158 z159 z160 z161 z162 z163 z164 z165 z166 z167 z168 z169 z170 z171 z172 z173 z174 z175 z176 z177 z178 z179 z180 z181 z182 z183 z184 z185 z186 z187 z188 z189 z190 z191 : Value} (ds : List Deferred) (Q : Exit → Act → World → Prop)
    (hX : TX W tb mb rb vA vX l R) (hGl : G.length ≤ 65536)
    (hP : W.heap[pb]? = some (.cells #[.pointer (some ⟨tb, 0, none⟩), .pointer (some ⟨rb, 0, none⟩)] 52 (0, 0)))
    (hPB : W.heap[PB]? = some (.cells #[.pointer (some ⟨pb, 0, none⟩)] 44 (0, 0)))
    (hOB : W.heap[PB + 1]? = some (.cells #[.int .i64 o.k, .int .i64 o.s.1, .int .i64 o.s.2, .int .i64 o.x, .int .i64 o.a.t, .int .i64 o.a.l, .int .i64 o.a.b, .int .i64 o.a.r, .bool o.on] 56 (0, 0)))
    (hBB : W.heap[PB + 1 + 1]? = some (.cells #[.bool false] 4 (0, 0)))
    (hLB : W.heap[LB]? = some (.cells #[vl] 35 (0, 0))) (hl : W.ownsRow N0 26 2 vl G.length (G.flatMap encA))
    (hXB : W.heap[XB]? = some (.cells #[vx] 48 (0, 0))) (hx : W.ownsRow N0 3 1 vx G.length (G.flatMap encX))
    (hFB : W.heap[FB]? = some (.cells #[.func (.func 107) #[] #[.pointer (some ⟨B, 0, none⟩)]] 62 (0, 0))) (hI : Iterint N0 W B rv G)
    (hVB : W.heap[VB]? = some (.cells #[.int .i64 pass] 3 (0, 0)))
    (hS : ∀ g ∈ tb :: mb :: rBl rb vA vX, (g < PB ∧ g ≠ pb) ∨ (M ≤ g ∧ g ≠ VB))
    (hb : pb < PB ∧ PB + 1 + 1 < N0 ∧ N0 ≤ LB ∧ LB < M ∧ N0 ≤ XB ∧ XB < M ∧ N0 ≤ FB ∧ FB < M ∧ B < M ∧ PB + 1 + 1 < VB ∧ M ≤ W.heap.size)
    (hv : (∀ k, vl.ownBlock = some k → k < M) ∧ (∀ k, vx.ownBlock = some k → k < M) ∧ (∀ k, rv.ownBlock = some k → k < M))
    (hnext : ∀ (y0 y1 y9 y10 y11 y12 y13 y14 y15 y16 y17 y18 y19 y20 y21 y22 y23 y24 y25 y26 y27 y28 y29 y30 y31 y32 y33 y34 y35 y36 y37 y38 y39 y40 y41 y42 y43 y44 y45 y46 y47 y48 y49 y50 y51 y52 y53 y54 y55 y56 y57 y58 y59 y60 y61 y62 y63 y64 y65 y66 y67 y68 y69 y70 y71 y72 y73 y74 y75 y76 y77 y78 y79 y80 y81 y82 y83 y84 y85 y86 y87 y88 y89 y90 y91 y92 y93 y94 y95 y96 y97 y98 y99 y100 y101 y102 y103 y104 y105 y106 y107 y108 y109 y110 y111 y112 y113 y114 y115 y116 y117 y118 y119 y120 y121 y122 y123 y124 y125 y126 y127 y128 y129 y130 y131 y132 y133 y134 y135 y136 y137 y138 y139 y140 y141 y142 y143 y144 y145 y146 y147 y148 y149 y150 y151 y152 y153 y154 y155 y156 y157 y158 y159 y160 y161 y162 y163 y164 y165 y166 y167 y168 y169 y170 y171 y172 y173 y174 y175 y176 y177 y178 y179 y180 y181 y182 y183 y184 y185 y186 y187 y188 y189 y190 y191 : Value) (VB2 D : Nat) (X : World) (vA' vX' : Value) (l' R' : List (Sp × Int)), TX X tb mb rb vA' vX' l' R' → Fr (tb :: mb :: rBl rb vA vX) W X → (∀ g ∈ rBl rb vA' vX', g ∈ rBl rb vA vX ∨ W.heap.size ≤ g) → X.heap[VB2]? = some (.cells #[.int .i64 (pass + 1)] 3 (0, 0)) →
      W.heap.size ≤ VB2 → (∀ g ∈ rBl rb vA' vX', g < VB2) → X.heap[D]? = some (.deferred (some [])) → W.heap.size ≤ D → Q .normal { tmps := #[y0, y1, .pointer (some ⟨PB, 0, none⟩), .pointer (some ⟨(PB + 1), 0, none⟩), .pointer (some ⟨(PB + 1 + 1), 0, none⟩), .pointer (some ⟨LB, 0, none⟩), .pointer (some ⟨XB, 0, none⟩), .pointer (some ⟨FB, 0, none⟩), .pointer (some ⟨VB2, 0, none⟩), y9, y10, y11, y12, y13, y14, y15, y16, y17, y18, y19, y20, y21, y22, y23, y24, y25, y26, y27, y28, y29, y30, y31, y32, y33, y34, y35, y36, y37, y38, y39, y40, y41, y42, y43, y44, y45, y46, y47, y48, y49, y50, y51, y52, y53, y54, y55, y56, y57, y58, y59, y60, y61, y62, y63, y64, y65, y66, y67, y68, y69, y70, y71, y72, y73, y74, y75, y76, y77, y78, y79, y80, y81, y82, y83, y84, y85, y86, y87, y88, y89, y90, y91, y92, y93, y94, y95, y96, y97, y98, y99, y100, y101, y102, y103, y104, y105, y106, y107, y108, y109, y110, y111, y112, y113, y114, y115, y116, y117, y118, y119, y120, y121, y122, y123, y124, y125, y126, y127, y128, y129, y130, y131, y132, y133, y134, y135, y136, y137, y138, y139, y140, y141, y142, y143, y144, y145, y146, y147, y148, y149, y150, y151, y152, y153, y154, y155, y156, y157, y158, y159, y160, y161, y162, y163, y164, y165, y166, y167, y168, y169, y170, y171, y172, y173, y174, y175, y176, y177, y178, y179, y180, y181, y182, y183, y184, y185, y186, y187, y188, y189, y190, y191], defers := { target := .collected D, args := #[] } :: ds } X) :
    (subC [1, 1, 1, 1, 1, 0, 1, 0, 0] (Try.f23.body.getD .skip)).wpIn Fence.wide n0 Try.prog Q { tmps := #[z0, z1, .pointer (some ⟨PB, 0, none⟩), .pointer (some ⟨(PB + 1), 0, none⟩), .pointer (some ⟨(PB + 1 + 1), 0, none⟩), .pointer (some ⟨LB, 0, none⟩), .pointer (some ⟨XB, 0, none⟩), .pointer (some ⟨FB, 0, none⟩), .pointer (some ⟨VB, 0, none⟩), z9, z10, z11, z12, z13, z14, z15, z16, z17, z18, z19, z20, z21, z22, z23, z24, z25, z26, z27, z28, z29, z30, z31, z32, z33, z34, z35, z36, z37, z38, z39, z40, z41, z42, z43, z44, z45, z46, z47, z48, z49, z50, z51, z52, z53, z54, z55, z56, z57, z58, z59, z60, z61, z62, z63, z64, z65, z66, z67, z68, z69, z70, z71, z72, z73, z74, z75, z76, z77, z78, z79, z80, z81, z82, z83, z84, z85, z86, z87, z88, z89, z90, z91, z92, z93, z94, z95, z96, z97, z98, z99, z100, z101, z102, z103, z104, z105, z106, z107, z108, z109, z110, z111, z112, z113, z114, z115, z116, z117, z118, z119, z120, z121, z122, z123, z124, z125, z126, z127, z128, z129, z130, z131, z132, z133, z134, z135, z136, z137, z138, z139, z140, z141, z142, z143, z144, z145, z146, z147, z148, z149, z150, z151, z152, z153, z154, z155, z156, z157, z158, z159, z160, z161, z162, z163, z164, z165, z166, z167, z168, z169, z170, z171, z172, z173, z174, z175, z176, z177, z178, z179, z180, z181, z182, z183, z184, z185, z186, z187, z188, z189, z190, z191], defers := ds } W := by
  show (((Code.region 9 _ _).seq (Code.cond _ _ _)).seq _).wpIn _ _ _ _ _ _
  obtain ⟨ql, cl, rfl⟩ := (RIs.of_owns hl).form
  have v0 := cell_of hVB 0
  have f0 := cell_of hFB 0
  have hVl := lt_of hVB
  have hFl := lt_of hFB
  have hp2 : pass < 2 := by rcases hpass with rfl | rfl <;> decide
  have HX := Lib.hid hX
  have HI := Lib.hid hI
  have HS := Lib.hid hS
  have HV := Lib.hid hv
  have HN := Lib.hid hnext
  have HL := Lib.hid hl
  have HXo := Lib.hid hx
  clear hX hI hS hv hnext hl hx
  gi_wp2_with fail
  have h1 : Fr [] W (W.alloc (.cells #[.int .i64 0] 3)) := (Fr.refl [] W).alloc _
  have hK1 := heap_new W (.cells #[.int .i64 0] 3)
  have hP1 := h1.heap hP (by simp)
  have hPB1 := h1.heap hPB (by simp)
  have hOB1 := h1.heap hOB (by simp)
  have hBB1 := h1.heap hBB (by simp)
  have hLB1 := h1.heap hLB (by simp)
  have hXB1 := h1.heap hXB (by simp)
  have hFB1 := h1.heap hFB (by simp)
  have hVB1 := h1.heap hVB (by simp)
  have hz1 : (W.alloc (.cells #[.int .i64 0] 3)).heap.size = W.heap.size + 1 := by simp
  generalize W.alloc (.cells #[.int .i64 0] 3) = W1 at *
  obtain ⟨KB, hKBe⟩ : ∃ KB, W.heap.size = KB := ⟨_, rfl⟩
  rw [hKBe] at hK1 hz1 hb hVl hFl ⊢
  obtain ⟨b0, b1, b2, b3, b4, b5, b6, b7, b8, b9, b10⟩ := hb
  refine goesRange n0 hn0 pass hpass pb tb mb rb PB LB XB FB VB KB B o vA vX (.slice ql G.length cl) vx rv l R G N0 W1 ds _ (HX.out.fr0 h1) hGl hP1 hPB1 hOB1 hBB1 hLB1 (owns_fr HL.out h1 (by simp)) hXB1 (owns_fr HXo.out h1 (by simp)) hFB1 (HI.out.fr h1 (Nat.le_refl _)) hVB1 hK1 (by omega) ?_ ?_ ?_ ?_
  · intro g hg
    have hgl : g < W.heap.size := by
      rcases List.mem_cons.1 hg with rfl | hg
      · exact lt_of HX.out.tab.tab
      · rcases List.mem_cons.1 hg with rfl | hg
        · exact HX.out.tab.map.lt
        · exact HX.out.ref.lt g hg
    have h2 := HS.out g hg
    have h3 : B = B := rfl
    have hBN := HI.out.le
    refine ⟨by simp only [List.mem_cons, List.not_mem_nil, or_false]; omega, fun e => ?_, fun e => ?_, fun e => ?_⟩
    · have h4 := HV.out.1 g e
      have h5 := (HL.out.lt g e).1
      omega
    · have h4 := HV.out.2.1 g e
      have h5 := (HXo.out.lt g e).1
      omega
    · have h4 := HV.out.2.2 g e
      have h5 := (HI.out.own.lt g e).1
      omega
  · refine ⟨fun e => ?_, fun e => ?_, fun e => ?_, by omega, by simp only [List.mem_cons, List.not_mem_nil, or_false]; omega⟩
    · have := HV.out.1 _ e; omega
    · have := HV.out.2.1 _ e; omega
    · have := HV.out.2.2 _ e; omega
  · intro D X hD hJ hF hK
    obtain ⟨hk, vA', vX', l', R', hX', hB'⟩ := hJ
    have hnot : ∀ b ∈ [PB + 1, VB, LB], b ∉ KB :: tb :: mb :: rBl rb vA vX := by
      intro b hb hm
      rcases List.mem_cons.1 hm with rfl | hm
      · simp only [List.mem_cons, List.not_mem_nil, or_false] at hb; omega
      · have h2 := HS.out b hm
        simp only [List.mem_cons, List.not_mem_nil, or_false] at hb
        omega
    have k0 := cell_of hk 0
    have o3 := cell_of (hF.heap hOB1 (hnot _ (by simp))) 3
    have v0 := cell_of (hF.heap hVB1 (hnot _ (by simp))) 0
    have l0 := cell_of (hF.heap hLB1 (hnot _ (by simp))) 0
    have hkl := lt_of hk
    have hw1 : IntKind.i64.wrap (pass + 1) = pass + 1 := by rcases hpass with rfl | rfl <;> rfl
    have HX' := Lib.hid hX'
    have HB' := Lib.hid hB'
    clear hX' hB' hnot
    dsimp only
    gi_wp2
    have hal : Fr [] X (X.alloc (.cells #[.int .i64 (pass + 1)] 3)) := (Fr.refl [] X).alloc _
    have hzX := hF.size
    have hzW := h1.size
    refine HN.out _ _ _ _ _ _ _ _ _ _ _ _ _ _ _ _ _ _ _ _ _ _ _ _ _ _ _ _ _ _ _ _ _ _ _ _ _ _ _ _ _ _ _ _ _ _ _ _ _ _ _ _ _ _ _ _ _ _ _ _ _ _ _ _ _ _ _ _ _ _ _ _ _ _ _ _ _ _ _ _ _ _ _ _ _ _ _ _ _ _ _ _ _ _ _ _ _ _ _ _ _ _ _ _ _ _ _ _ _ _ _ _ _ _ _ _ _ _ _ _ _ _ _ _ _ _ _ _ _ _ _ _ _ _ _ _ _ _ _ _ _ _ _ _ _ _ _ _ _ _ _ _ _ _ _ _ _ _ _ _ _ _ _ _ _ _ _ _ _ _ _ _ _ _ _ _ _ _ _ _ _ _ _ _ _ X.heap.size D _ vA' vX' l' R' (HX'.out.fr0 hal) ((((h1.mono (by simp)) : Fr (tb :: mb :: rBl rb vA vX) W W1).trans hF (fun g hg => ?_)).trans0 hal) (fun g hg => (HB'.out g hg).imp id (fun h => by omega)) (heap_new X _) (by omega) (HX'.out.ref.lt) (hal.heap hK (by simp)) (by omega)
    rcases List.mem_cons.1 hg with rfl | hg
    · exact .inr (by omega)
    · exact .inl hg
  · intro D k X hD hp0 hkc hJ hF hK
    subst hp0
    obtain ⟨hk, vA', vX', l', R', hX', hB'⟩ := hJ
    have hnot : ∀ b ∈ [PB + 1, VB, LB], b ∉ KB :: tb :: mb :: rBl rb vA vX := by
      intro b hb hm
      rcases List.mem_cons.1 hm with rfl | hm
      · simp only [List.mem_cons, List.not_mem_nil, or_false] at hb; omega
      · have h2 := HS.out b hm
        simp only [List.mem_cons, List.not_mem_nil, or_false] at hb
        omega
    have k0 := cell_of hk 0
    have o3 := cell_of (hF.heap hOB1 (hnot _ (by simp))) 3
    have v0 := cell_of (hF.heap hVB1 (hnot _ (by simp))) 0
    have l0 := cell_of (hF.heap hLB1 (hnot _ (by simp))) 0
    have hkl := lt_of hk
    have hw3 : IntKind.i64.wrap (o.x + 3) = (k : Int) := by rw [hkc, IntKind.wrap_i64, wrap64]
    have HX' := Lib.hid hX'
    have HB' := Lib.hid hB'
    clear hX' hB' hnot hkc
    dsimp only
    by_cases hkG : (k : Int) = (G.length : Int)
    · gi_wp2
      have hal : Fr [] X (X.alloc (.cells #[.int .i64 (0 + 1)] 3)) := (Fr.refl [] X).alloc _
      have hzX := hF.size
      have hzW := h1.size
      refine HN.out _ _ _ _ _ _ _ _ _ _ _ _ _ _ _ _ _ _ _ _ _ _ _ _ _ _ _ _ _ _ _ _ _ _ _ _ _ _ _ _ _ _ _ _ _ _ _ _ _ _ _ _ _ _ _ _ _ _ _ _ _ _ _ _ _ _ _ _ _ _ _ _ _ _ _ _ _ _ _ _ _ _ _ _ _ _ _ _ _ _ _ _ _ _ _ _ _ _ _ _ _ _ _ _ _ _ _ _ _ _ _ _ _ _ _ _ _ _ _ _ _ _ _ _ _ _ _ _ _ _ _ _ _ _ _ _ _ _ _ _ _ _ _ _ _ _ _ _ _ _ _ _ _ _ _ _ _ _ _ _ _ _ _ _ _ _ _ _ _ _ _ _ _ _ _ _ _ _ _ _ _ _ _ _ _ X.heap.size D _ vA' vX' l' R' (HX'.out.fr0 hal) ((((h1.mono (by simp)) : Fr (tb :: mb :: rBl rb vA vX) W W1).trans hF (fun g hg => ?_)).trans0 hal) (fun g hg => (HB'.out g hg).imp id (fun h => by omega)) (heap_new X _) (by omega) (HX'.out.ref.lt) (hal.heap hK (by simp)) (by omega)
      rcases List.mem_cons.1 hg with rfl | hg
      · exact .inr (by omega)
      · exact .inl hg
    · gi_wp2
      have hal : Fr [] X (X.alloc (.cells #[.int .i64 (0 + 1)] 3)) := (Fr.refl [] X).alloc _
      have hzX := hF.size
      have hzW := h1.size
      refine HN.out _ _ _ _ _ _ _ _ _ _ _ _ _ _ _ _ _ _ _ _ _ _ _ _ _ _ _ _ _ _ _ _ _ _ _ _ _ _ _ _ _ _ _ _ _ _ _ _ _ _ _ _ _ _ _ _ _ _ _ _ _ _ _ _ _ _ _ _ _ _ _ _ _ _ _ _ _ _ _ _ _ _ _ _ _ _ _ _ _ _ _ _ _ _ _ _ _ _ _ _ _ _ _ _ _ _ _ _ _ _ _ _ _ _ _ _ _ _ _ _ _ _ _ _ _ _ _ _ _ _ _ _ _ _ _ _ _ _ _ _ _ _ _ _ _ _ _ _ _ _ _ _ _ _ _ _ _ _ _ _ _ _ _ _ _ _ _ _ _ _ _ _ _ _ _ _ _ _ _ _ _ _ _ _ _ X.heap.size D _ vA' vX' l' R' (HX'.out.fr0 hal) ((((h1.mono (by simp)) : Fr (tb :: mb :: rBl rb vA vX) W W1).trans hF (fun g hg => ?_)).trans0 hal) (fun g hg => (HB'.out g hg).imp id (fun h => by omega)) (heap_new X _) (by omega) (HX'.out.ref.lt) (hal.heap hK (by simp)) (by omega)
      rcases List.mem_cons.1 hg with rfl | hg
      · exact .inr (by omega)
      · exact .inl hg
end Go.Proofs.Ytldppdafgbipjaa
