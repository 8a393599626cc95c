/-
  quadrillelaw7's (*pair).goes: one pass.
-/
import Derived.Test.YtldppdafgbipjaaGoesD
import Derived.Test.YtldppdafgbipjaaAllint
import Derived.Stop.RegionWithIn
import Derived.Sort.CutIn
namespace Go.Proofs.Ytldppdafgbipjaa
open Go.RowKit Go.Shelf
attribute [local go_sem] Oper.semAt_some

set_option maxRecDepth 100000 in
set_option maxHeartbeats 6400000 in
theorem goesRange (n0 : Nat) (hn0 : 6 ≤ n0) (pass : Int) (hpass : pass = 0 ∨ pass = 1) (pb tb mb rb PB LB XB FB VB KB B : Nat) (o : Op7) (vA vX vl vx rv : Value) (l R G : List (Sp × Int)) (N0 : Nat) (W : World) {z0 z1 z10 z11 z12 z13 z14 z15 z16 z17 z18 z19 z20 z21 z22 z23 z24 z25 z26 z27 z28 z29 z30 z31 z32 z33 z34 z35 z36 z37 z38 z39 z40 z41 z42 z43 z44 z45 z46 z47 z48 z49 z50 z51 z52 z53 z54 z55 z56 z57 z58 z59 z60 z61 z62 z63 z65 z66 z67 z68 z69 z70 z71 z72 z73 z74 z75 z76 z77 z78 z79 z80 z81 z82 z83 z84 z85 z86 z87 z88 z89 z90 z91 z92 z93 z94 z95 z96 z97 z98 z99 z100 z101 z102 z103 z104 z105 z106 z107 z108 z109 z110 z111 z112 z113 z114 z115 z116 z117 z118 z119 z120 z121 z122 z123 z124 z125 z126 z127 z128 z129 z130 z131 z132 z133 z134 z135 z136 z137 z138 z139 z140 z141 z142 z143 z144 z145 z146 z147 z148 z149 z150 z151 z152 z153 z154 z155 z156 z157 z158 z159 z160 z161 z162 z163 z164 z165 z166 z167 z168 z169 z170 z171 z172 z173 z174 z175 z176 z177 z178 z179 z180 z181 z182 z183 z184 z185 z186 z187 z188 z189 z190 z191 : Value} (ds : List Deferred) (Q : Exit → Act → World → Prop)
    (hX : TX W tb mb rb vA vX l R) (hGl : G.length ≤ 65536)
    (hP : W.heap[pb]? = some (.cells #[.pointer (some ⟨tb, 0, none⟩), .pointer (some ⟨rb, 0, none⟩)] 52 (0, 0)))
    (hPB : W.heap[PB]? = some (.cells #[.pointer (some ⟨pb, 0, none⟩)] 44 (0, 0)))
    (hOB : W.heap[PB + 1]? = some (.cells #[.int .i64 o.k, .int .i64 o.s.1, .int .i64 o.s.2, .int .i64 o.x, .int .i64 o.a.t, .int .i64 o.a.l, .int .i64 o.a.b, .int .i64 o.a.r, .bool o.on] 56 (0, 0)))
    (hBB : W.heap[PB + 1 + 1]? = some (.cells #[.bool false] 4 (0, 0)))
    (hLB : W.heap[LB]? = some (.cells #[vl] 35 (0, 0))) (hl : W.ownsRow N0 26 2 vl G.length (G.flatMap encA))
    (hXB : W.heap[XB]? = some (.cells #[vx] 48 (0, 0))) (hx : W.ownsRow N0 3 1 vx G.length (G.flatMap encX))
    (hFB : W.heap[FB]? = some (.cells #[.func (.func 107) #[] #[.pointer (some ⟨B, 0, none⟩)]] 62 (0, 0))) (hI : Iterint N0 W B rv G)
    (hVB : W.heap[VB]? = some (.cells #[.int .i64 pass] 3 (0, 0))) (hKB : W.heap[KB]? = some (.cells #[.int .i64 0] 3 (0, 0))) (hVK : VB ≠ KB)
    (hS : ∀ g ∈ tb :: mb :: rBl rb vA vX, g ∉ [pb, PB, PB + 1, PB + 1 + 1, LB, XB, FB, VB, KB, B] ∧ vl.ownBlock ≠ some g ∧ vx.ownBlock ≠ some g ∧ rv.ownBlock ≠ some g)
    (hKo : vl.ownBlock ≠ some KB ∧ vx.ownBlock ≠ some KB ∧ rv.ownBlock ≠ some KB ∧ KB ≠ B ∧ KB ∉ [pb, PB, PB + 1, PB + 1 + 1, LB, XB, FB])
    (hdone : ∀ D X, W.heap.size ≤ D → JG KB tb mb rb vA vX W.heap.size G.length X → Fr (KB :: tb :: mb :: rBl rb vA vX) W X → X.heap[D]? = some (.deferred (some [])) → Q .normal { tmps := #[z0, z1, .pointer (some ⟨PB, 0, none⟩), .pointer (some ⟨(PB + 1), 0, none⟩), .pointer (some ⟨(PB + 1 + 1), 0, none⟩), .pointer (some ⟨LB, 0, none⟩), .pointer (some ⟨XB, 0, none⟩), .pointer (some ⟨FB, 0, none⟩), .pointer (some ⟨VB, 0, none⟩), .pointer (some ⟨KB, 0, none⟩), z10, z11, z12, z13, z14, z15, z16, z17, z18, z19, z20, z21, z22, z23, z24, z25, z26, z27, z28, z29, z30, z31, z32, z33, z34, z35, z36, z37, z38, z39, z40, z41, z42, z43, z44, z45, z46, z47, z48, z49, z50, z51, z52, z53, z54, z55, z56, z57, z58, z59, z60, z61, z62, z63, .func (.func 107) #[] #[.pointer (some ⟨B, 0, none⟩)], z65, z66, z67, z68, z69, z70, z71, z72, z73, z74, z75, z76, z77, z78, z79, z80, z81, z82, z83, z84, z85, z86, z87, z88, z89, z90, z91, z92, z93, z94, z95, z96, z97, z98, z99, z100, z101, z102, z103, z104, z105, z106, z107, z108, z109, z110, z111, z112, z113, z114, z115, z116, z117, z118, z119, z120, z121, z122, z123, z124, z125, z126, z127, z128, z129, z130, z131, z132, z133, z134, z135, z136, z137, z138, z139, z140, z141, z142, z143, z144, z145, z146, z147, z148, z149, z150, z151, z152, z153, z154, z155, z156, z157, z158, z159, z160, z161, z162, z163, z164, z165, z166, z167, z168, z169, z170, z171, z172, z173, z174, z175, z176, z177, z178, z179, z180, z181, z182, z183, z184, z185, z186, z187, z188, z189, z190, z191], defers := { target := .collected D, args := #[] } :: ds } X)
    (hstop : ∀ (D k : Nat) (X : World), W.heap.size ≤ D → pass = 0 → (k : Int) = wrap64 (o.x + 3) → JG KB tb mb rb vA vX W.heap.size k X → Fr (KB :: tb :: mb :: rBl rb vA vX) W X → X.heap[D]? = some (.deferred (some [])) → (Code.exit 2).wpIn Fence.wide n0 Try.prog Q { tmps := #[z0, z1, .pointer (some ⟨PB, 0, none⟩), .pointer (some ⟨(PB + 1), 0, none⟩), .pointer (some ⟨(PB + 1 + 1), 0, none⟩), .pointer (some ⟨LB, 0, none⟩), .pointer (some ⟨XB, 0, none⟩), .pointer (some ⟨FB, 0, none⟩), .pointer (some ⟨VB, 0, none⟩), .pointer (some ⟨KB, 0, none⟩), z10, z11, z12, z13, z14, z15, z16, z17, z18, z19, z20, z21, z22, z23, z24, z25, z26, z27, z28, z29, z30, z31, z32, z33, z34, z35, z36, z37, z38, z39, z40, z41, z42, z43, z44, z45, z46, z47, z48, z49, z50, z51, z52, z53, z54, z55, z56, z57, z58, z59, z60, z61, z62, z63, .func (.func 107) #[] #[.pointer (some ⟨B, 0, none⟩)], z65, z66, z67, z68, z69, z70, z71, z72, z73, z74, z75, z76, z77, z78, z79, z80, z81, z82, z83, z84, z85, z86, z87, z88, z89, z90, z91, z92, z93, z94, z95, z96, z97, z98, z99, z100, z101, z102, z103, z104, z105, z106, z107, z108, z109, z110, z111, z112, z113, z114, z115, z116, z117, z118, z119, z120, z121, z122, z123, z124, z125, z126, z127, z128, z129, z130, z131, z132, z133, z134, z135, z136, z137, z138, z139, z140, z141, z142, z143, z144, z145, z146, z147, z148, z149, z150, z151, z152, z153, z154, z155, z156, z157, z158, z159, z160, z161, z162, z163, z164, z165, z166, z167, z168, z169, z170, z171, z172, z173, z174, z175, z176, z177, z178, z179, z180, z181, z182, z183, z184, z185, z186, z187, z188, z189, z190, z191], defers := { target := .collected D, args := #[] } :: ds } X) :
    (subC [1, 1, 1, 1, 1, 0, 1, 0, 0, 1, 0, 0, 1, 0, 1, 0] (Try.f23.body.getD .skip)).wpIn Fence.wide n0 Try.prog Q { tmps := #[z0, z1, .pointer (some ⟨PB, 0, none⟩), .pointer (some ⟨(PB + 1), 0, none⟩), .pointer (some ⟨(PB + 1 + 1), 0, none⟩), .pointer (some ⟨LB, 0, none⟩), .pointer (some ⟨XB, 0, none⟩), .pointer (some ⟨FB, 0, none⟩), .pointer (some ⟨VB, 0, none⟩), .pointer (some ⟨KB, 0, none⟩), z10, z11, z12, z13, z14, z15, z16, z17, z18, z19, z20, z21, z22, z23, z24, z25, z26, z27, z28, z29, z30, z31, z32, z33, z34, z35, z36, z37, z38, z39, z40, z41, z42, z43, z44, z45, z46, z47, z48, z49, z50, z51, z52, z53, z54, z55, z56, z57, z58, z59, z60, z61, z62, z63, .func (.func 107) #[] #[.pointer (some ⟨B, 0, none⟩)], z65, z66, z67, z68, z69, z70, z71, z72, z73, z74, z75, z76, z77, z78, z79, z80, z81, z82, z83, z84, z85, z86, z87, z88, z89, z90, z91, z92, z93, z94, z95, z96, z97, z98, z99, z100, z101, z102, z103, z104, z105, z106, z107, z108, z109, z110, z111, z112, z113, z114, z115, z116, z117, z118, z119, z120, z121, z122, z123, z124, z125, z126, z127, z128, z129, z130, z131, z132, z133, z134, z135, z136, z137, z138, z139, z140, z141, z142, z143, z144, z145, z146, z147, z148, z149, z150, z151, z152, z153, z154, z155, z156, z157, z158, z159, z160, z161, z162, z163, z164, z165, z166, z167, z168, z169, z170, z171, z172, z173, z174, z175, z176, z177, z178, z179, z180, z181, z182, z183, z184, z185, z186, z187, z188, z189, z190, z191], defers := ds } W := by
  show (Code.rangeFunc (.tmp 64) #[65, 66] _ _).wpIn _ _ _ _ _ _
  have hkl := lt_of hKB
  have hmbl := hX.tab.map.lt
  have HI := Lib.hid hI
  have HG := Lib.hid hGl
  refine range_iterK rfl (by omega) (gf := 107) (lb := #[.pointer (some ⟨B, 0, none⟩)]) rfl trivial (enters_of Try.func107 (by kernel_rfl) rfl) (KB :: tb :: mb :: rBl rb vA vX)
    (overK_int (n0 - 1) (by omega) B rv G _ (fun X X' hk hr => RIs.kept HI.out.own (Nat.le_refl _) (by
      intro g hg e
      rcases List.mem_cons.1 hg with rfl | hg
      · exact hKo.2.2.1 e
      · exact (hS g hg).2.2.2 e) hk hr) W HI.out.box HI.out.lt (RIs.of_owns HI.out.own) (by have := HG.out; omega)) (fun _ => rfl)
    (fun pre X => JG KB tb mb rb vA vX W.heap.size pre.length X)
    (fun (c : Code) (pre : List {x // x ∈ G}) (X : World) => ¬ pre.map (·.1) <+: G ∨ (c = .exit 2 ∧ pass = 0 ∧ (pre.length : Int) = wrap64 (o.x + 3) ∧ JG KB tb mb rb vA vX W.heap.size pre.length X ∧ Fr (KB :: tb :: mb :: rBl rb vA vX) W X)) ?_ ?_ ?_ ?_ ?_ ?_
  · exact JG.own hmbl hkl _
  · rintro c pre X Y row hh hg hr
    rcases hh with hh | ⟨e1, e2, e3, e4, e5⟩
    · exact .inl hh
    · exact .inr ⟨e1, e2, e3, JG.own hmbl hkl (fun p : List {x // x ∈ G} => p.length) pre X Y row e4 hg hr, ownFrom_fr (β := Unit) _ W () X Y row e5 hg hr⟩
  · exact ⟨hKB, vA, vX, l, R, hX, fun g hg => .inl hg⟩
  · intro l1 pre x W1 hJ hf
    gi_wp2
    have h0 : Fr [] W1 (W1.alloc (.cells #[.int .i64 x.val.1.1, .int .i64 x.val.1.2] 26)) := (Fr.refl [] W1).alloc _
    have hat0 := heap_new W1 (.cells #[.int .i64 x.val.1.1, .int .i64 x.val.1.2] 26)
    refine ⟨h0, hJ.fr0 h0, ?_⟩
    have hABl : W.heap.size ≤ W1.heap.size := hf.size
    intro l2 pre2 W2 hrel hl2 r2 hr2 hJ2 hf2 hlt2
    have hat := hrel.block hat0
    obtain ⟨vA2, vX2, l2', R2, hX2, hS2⟩ := hrel (fun X => ∃ vA' vX' l R, TX X tb mb rb vA' vX' l R ∧ ∀ g ∈ rBl rb vA' vX', (g ∈ rBl rb vA vX ∨ W.heap.size ≤ g) ∧ g < W1.heap.size)
      (by
        rintro u X Y row ⟨vA', vX', l, R, e1, e2⟩ hg hr
        exact ⟨vA', vX', l, R, TX.own (β := Unit) hmbl (fun _ => vA') (fun _ => vX') (fun _ => l) (fun _ => R) () X Y row e1 hg hr, e2⟩)
      (by
        obtain ⟨_, vA', vX', l, R, e1, e2⟩ := hJ
        exact ⟨vA', vX', l, R, e1.fr0 h0, fun g hg => ⟨e2 g hg, e1.ref.lt g hg⟩⟩)
    have hk2 := hJ2.1
    clear hat0 hrel hJ h0 hf hJ2
    obtain ⟨AB, hABe⟩ : ∃ AB, W1.heap.size = AB := ⟨_, rfl⟩
    rw [hABe] at hat hABl hS2 ⊢
    have hnot : ∀ b ∈ [pb, PB, PB + 1, PB + 1 + 1, LB, XB, FB, VB, B], b ∉ KB :: tb :: mb :: rBl rb vA vX := by
      intro b hb hm
      rcases List.mem_cons.1 hm with rfl | hm
      · simp only [List.mem_cons, List.not_mem_nil, or_false] at hb hKo
        omega
      · have h1 := (hS b hm).1
        simp only [List.mem_cons, List.not_mem_nil, or_false] at hb h1
        omega
    have p0 : W2.cell? ⟨PB, 0, none⟩ = some (.pointer (some ⟨pb, 0, none⟩)) := cell_of (hf2.heap hPB (hnot _ (by simp))) 0
    have hP2 := hf2.heap hP (hnot _ (by simp))
    have pt : W2.cell? ⟨pb, 0, none⟩ = some (.pointer (some ⟨tb, 0, none⟩)) := cell_of hP2 0
    have pr : W2.cell? ⟨pb, 1, none⟩ = some (.pointer (some ⟨rb, 0, none⟩)) := cell_of hP2 1
    have hO2 := hf2.heap hOB (hnot _ (by simp))
    have hV2 := hf2.heap hVB (hnot _ (by simp))
    have hF2 := hf2.heap hFB (hnot _ (by simp))
    have hL2 := hf2.heap hLB (hnot _ (by simp))
    have hXh2 := hf2.heap hXB (hnot _ (by simp))
    have k0 : W2.cell? ⟨KB, 0, none⟩ = some (.int .i64 (pre2.length : Int)) := cell_of hk2 0
    have a0 : W2.cell? ⟨AB, 0, none⟩ = some (.int .i64 x.1.1.1) := cell_of hat 0
    have a1 : W2.cell? ⟨AB, 1, none⟩ = some (.int .i64 x.1.1.2) := cell_of hat 1
    have hlo2 := owns_fr hl hf2 (by
      intro k hk hm
      rcases List.mem_cons.1 hm with rfl | hm
      · exact hKo.1 hk
      · exact (hS k hm).2.1 hk)
    have hxo2 := owns_fr hx hf2 (by
      intro k hk hm
      rcases List.mem_cons.1 hm with rfl | hm
      · exact hKo.2.1 hk
      · exact (hS k hm).2.2.1 hk)
    obtain ⟨gl, cl, rfl, hgl, hcl⟩ := (RIs.of_owns hlo2).cell (by omega)
    obtain ⟨gx, cx, rfl, hgx, hcx⟩ := (RIs.of_owns hxo2).cell (by omega)
    have l0 : W2.cell? ⟨LB, 0, none⟩ = some (.slice (some ⟨gl, 0, none⟩) G.length cl) := cell_of hL2 0
    have x0 : W2.cell? ⟨XB, 0, none⟩ = some (.slice (some ⟨gx, 0, none⟩) G.length cx) := cell_of hXh2 0
    have e0 : W2.cell? ⟨gl, pre2.length * 2, none⟩ = some (.int .i64 G[pre2.length].1.1) := hcl (pre2.length * 2 + 0) _ (by rw [flat_get encA 2 (fun _ => rfl) G pre2.length 0 hlt2 (by omega)]; rfl)
    have e1 : W2.cell? ⟨gl, pre2.length * 2 + 1, none⟩ = some (.int .i64 G[pre2.length].1.2) := hcl (pre2.length * 2 + 1) _ (by rw [flat_get encA 2 (fun _ => rfl) G pre2.length 1 hlt2 (by omega)]; rfl)
    have f0 : W2.cell? ⟨gx, pre2.length, none⟩ = some (.int .i64 G[pre2.length].2) := by have := hcx (pre2.length * 1 + 0) (.int .i64 G[pre2.length].2) (by rw [flat_get encX 1 (fun _ => rfl) G pre2.length 0 hlt2 (by omega)]; rfl); simpa using this
    obtain ⟨y, hy⟩ : ∃ y, G[pre2.length] = y := ⟨_, rfl⟩
    have HY := Lib.hid hy
    rw [hy] at e0 e1 f0
    have HXX := Lib.hid hX2
    have HS2 := Lib.hid hS2
    have hki : (pre2.length : Int) < (G.length : Int) := by omega
    have hk0 : (0 : Int) ≤ (pre2.length : Int) := by omega
    have hd2 : decide (G.length ≤ pre2.length) = false := by simp; omega
    have HD2 := Lib.hid hd2
    have hA2l := lt_of hat
    have HLO := Lib.hid hlo2
    have HXO := Lib.hid hxo2
    have hB2 := hf2.heap hBB (hnot _ (by simp))
    have HRO := Lib.hid (show ∀ k, rv.ownBlock = some k → k ∉ KB :: tb :: mb :: rBl rb vA vX from by
      intro k hk hm
      rcases List.mem_cons.1 hm with rfl | hm
      · exact hKo.2.2.1 hk
      · exact (hS k hm).2.2.2 hk)
    clear hy hd2 hcl hcx hX2 hS2 hlo2 hxo2
    have hKS : KB ∉ tb :: mb :: rBl rb vA vX := fun hm => (hS KB hm).1 (by simp)
    have hN5 : ∀ b ∈ [pb, PB, PB + 1, KB, AB], b ∉ tb :: mb :: rBl rb vA2 vX2 := by
      have hr0 := hX.ref.lt
      have ht0 := lt_of hX.tab.tab
      have key : ∀ b, b < W.heap.size → b ∉ tb :: mb :: rBl rb vA vX → b ∉ tb :: mb :: rBl rb vA2 vX2 := fun b hb hn hm => by
        simp only [List.mem_cons] at hn hm
        rcases hm with h | h | h
        · exact hn (.inl h)
        · exact hn (.inr (.inl h))
        · rcases (HS2.out b h).1 with h | h
          · exact hn (.inr (.inr h))
          · omega
      intro b hb
      simp only [List.mem_cons, List.not_mem_nil, or_false] at hb
      rcases hb with rfl | rfl | rfl | rfl | rfl
      · exact key _ (lt_of hP) (fun hm => hnot _ (by simp) (List.mem_cons_of_mem _ hm))
      · exact key _ (lt_of hPB) (fun hm => hnot _ (by simp) (List.mem_cons_of_mem _ hm))
      · exact key _ (lt_of hOB) (fun hm => hnot _ (by simp) (List.mem_cons_of_mem _ hm))
      · exact key _ hkl hKS
      · intro hm
        simp only [List.mem_cons] at hm
        rcases hm with h | h | h
        · omega
        · omega
        · have := (HS2.out _ h).2; omega
    have hVN : VB ∉ tb :: mb :: rBl rb vA2 vX2 := by
      have hn := hnot VB (by simp)
      have hb := lt_of hVB
      intro hm
      simp only [List.mem_cons] at hn hm
      rcases hm with h | h | h
      · exact hn (.inr (.inl h))
      · exact hn (.inr (.inr (.inl h)))
      · rcases (HS2.out VB h).1 with h | h
        · exact hn (.inr (.inr (.inr h)))
        · omega
    have HVN := Lib.hid hVN
    have HN5 := Lib.hid hN5
    have HKS := Lib.hid hKS
    have hnx : x.1 ≠ y → ¬ (pre2 ++ [x]).map (·.1) <+: G := fun hne hp => by
      rw [List.map_append, List.map_cons, List.map_nil] at hp
      obtain ⟨tl, htl⟩ := hp
      have h2 : ((pre2.map (·.1) ++ [x.1]) ++ tl)[pre2.length]? = some x.1 := by simp
      rw [htl] at h2
      rw [List.getElem?_eq_getElem hlt2, HY.out] at h2
      exact hne (Option.some.inj h2).symm
    have HNX := Lib.hid hnx
    have HNOT := Lib.hid hnot
    have o3 : W2.cell? ⟨PB + 1, 3, none⟩ = some (.int .i64 o.x) := cell_of hO2 3
    have v0 : W2.cell? ⟨VB, 0, none⟩ = some (.int .i64 pass) := cell_of hV2 0
    have hPL := Lib.hid (show pre2.length < 65536 by have := HG.out; omega)
    clear hN5 hVN hKS hnx hnot
    by_cases hxy : x.1 = y
    · rw [hxy] at a0 a1 ⊢
      gi_wp2_with fail
      refine region_round 20 rfl (fun u => u.cell? ⟨KB, 0, none⟩ = some (.int .i64 (pre2.length : Int)) ∧ u.cell? ⟨LB, 0, none⟩ = some (.slice (some ⟨gl, 0, none⟩) G.length cl) ∧ u.cell? ⟨XB, 0, none⟩ = some (.slice (some ⟨gx, 0, none⟩) G.length cx) ∧ u.cell? ⟨AB, 0, none⟩ = some (.int .i64 y.1.1) ∧ u.cell? ⟨AB, 1, none⟩ = some (.int .i64 y.1.2) ∧ u.cell? ⟨gl, pre2.length * 2, none⟩ = some (.int .i64 y.1.1) ∧ u.cell? ⟨gl, pre2.length * 2 + 1, none⟩ = some (.int .i64 y.1.2) ∧ u.cell? ⟨gx, pre2.length, none⟩ = some (.int .i64 y.2)) (by kernel_rfl) (by kernel_rfl) (by rintro ⟨_, _, h⟩; exact h) ?_ ?_
      · exact ⟨ce_drew k0, ce_drew l0, ce_drew x0, ce_drew a0, ce_drew a1, ce_drew e0, ce_drew e1, ce_drew f0⟩
      intro hHeld
      refine wpAnyH_take (i := 0) (v := ?_) rfl (by kernel_rfl) (by kernel_rfl) (by kernel_rfl) (fun _ _ _ h => h) (Or.inl ⟨by rfl, ?_⟩) hHeld ?_
      rotate_left
      · (intro w hSw; (try dsimp only at hSw); go_simp; try with_reducible rfl)
      try simp only [Act.put, List.getElem_toArray, List.getElem_cons_zero, List.setIfInBounds_toArray, List.set_cons_zero, List.set_cons_succ]
      refine wpAnyH_take (i := 1) (v := ?_) rfl (by kernel_rfl) (by kernel_rfl) (by kernel_rfl) (fun _ _ _ h => h) (Or.inl ⟨by rfl, ?_⟩) hHeld ?_
      rotate_left
      · (intro w hSw; (try dsimp only at hSw); go_simp; try with_reducible rfl)
      try simp only [Act.put, List.getElem_toArray, List.getElem_cons_zero, List.getElem_cons_succ, List.setIfInBounds_toArray, List.set_cons_zero, List.set_cons_succ]
      refine wpAnyH_take (i := 2) (v := ?_) rfl (by kernel_rfl) (by kernel_rfl) (by kernel_rfl) (fun _ _ _ h => h) (Or.inl ⟨by rfl, ?_⟩) hHeld ?_
      rotate_left
      · (intro w hSw; (try dsimp only at hSw); go_simp; try with_reducible rfl)
      try simp only [Act.put, List.getElem_toArray, List.getElem_cons_zero, List.getElem_cons_succ, List.setIfInBounds_toArray, List.set_cons_zero, List.set_cons_succ]
      refine wpAnyH_take (i := 3) (v := ?_) rfl (by kernel_rfl) (by kernel_rfl) (by kernel_rfl) (fun _ _ _ h => h) (Or.inl ⟨by rfl, ?_⟩) hHeld ?_
      rotate_left
      · (intro w hSw; (try dsimp only at hSw); go_simp; try with_reducible rfl)
      try simp only [Act.put, List.getElem_toArray, List.getElem_cons_zero, List.getElem_cons_succ, List.setIfInBounds_toArray, List.set_cons_zero, List.set_cons_succ]
      try simp only [HD2.out]
      refine wpAnyH_take (i := 4) (v := ?_) rfl (by kernel_rfl) (by kernel_rfl) (by kernel_rfl) (fun _ _ _ h => h) (Or.inl ⟨by rfl, ?_⟩) hHeld ?_
      rotate_left
      · (intro w hSw; (try dsimp only at hSw); go_simp; try with_reducible rfl)
      try simp only [Act.put, List.getElem_toArray, List.getElem_cons_zero, List.getElem_cons_succ, List.setIfInBounds_toArray, List.set_cons_zero, List.set_cons_succ]
      refine wpAnyH_take (i := 5) (v := ?_) rfl (by kernel_rfl) (by kernel_rfl) (by kernel_rfl) (fun _ _ _ h => h) (Or.inl ⟨by rfl, ?_⟩) hHeld ?_
      rotate_left
      · (intro w hSw; (try dsimp only at hSw); go_simp; try with_reducible rfl)
      try simp only [Act.put, List.getElem_toArray, List.getElem_cons_zero, List.getElem_cons_succ, List.setIfInBounds_toArray, List.set_cons_zero, List.set_cons_succ]
      refine wpAnyH_take (i := 6) (v := ?_) rfl (by kernel_rfl) (by kernel_rfl) (by kernel_rfl) (fun _ _ _ h => h) (Or.inl ⟨by rfl, ?_⟩) hHeld ?_
      rotate_left
      · (intro w hSw; (try dsimp only at hSw); go_simp; try with_reducible rfl)
      try simp only [Act.put, List.getElem_toArray, List.getElem_cons_zero, List.getElem_cons_succ, List.setIfInBounds_toArray, List.set_cons_zero, List.set_cons_succ]
      refine wpAnyH_take (i := 7) (v := ?_) rfl (by kernel_rfl) (by kernel_rfl) (by kernel_rfl) (fun _ _ _ h => h) (Or.inl ⟨by rfl, ?_⟩) hHeld ?_
      rotate_left
      · (intro w hSw; (try dsimp only at hSw); go_simp; try with_reducible rfl)
      try simp only [Act.put, List.getElem_toArray, List.getElem_cons_zero, List.getElem_cons_succ, List.setIfInBounds_toArray, List.set_cons_zero, List.set_cons_succ]
      refine wpAnyH_take (i := 8) (v := ?_) rfl (by kernel_rfl) (by kernel_rfl) (by kernel_rfl) (fun _ _ _ h => h) (Or.inl ⟨by rfl, ?_⟩) hHeld ?_
      rotate_left
      · (intro w hSw; (try dsimp only at hSw); go_simp; try with_reducible rfl)
      try simp only [Act.put, List.getElem_toArray, List.getElem_cons_zero, List.getElem_cons_succ, List.setIfInBounds_toArray, List.set_cons_zero, List.set_cons_succ]
      refine wpAnyH_take (i := 9) (v := ?_) rfl (by kernel_rfl) (by kernel_rfl) (by kernel_rfl) (fun _ _ _ h => h) (Or.inl ⟨by rfl, ?_⟩) hHeld ?_
      rotate_left
      · (intro w hSw; (try dsimp only at hSw); go_simp; try with_reducible rfl)
      try simp only [Act.put, List.getElem_toArray, List.getElem_cons_zero, List.getElem_cons_succ, List.setIfInBounds_toArray, List.set_cons_zero, List.set_cons_succ]
      refine wpAnyH_take (i := 10) (v := ?_) rfl (by kernel_rfl) (by kernel_rfl) (by kernel_rfl) (fun _ _ _ h => h) (Or.inl ⟨by rfl, ?_⟩) hHeld ?_
      rotate_left
      · (intro w hSw; (try dsimp only at hSw); go_simp; try with_reducible rfl)
      try simp only [Act.put, List.getElem_toArray, List.getElem_cons_zero, List.getElem_cons_succ, List.setIfInBounds_toArray, List.set_cons_zero, List.set_cons_succ]
      refine wpAnyH_take (i := 11) (v := ?_) rfl (by kernel_rfl) (by kernel_rfl) (by kernel_rfl) (fun _ _ _ h => h) (Or.inl ⟨by rfl, ?_⟩) hHeld ?_
      rotate_left
      · (intro w hSw; (try dsimp only at hSw); go_simp; try with_reducible rfl)
      try simp only [Act.put, List.getElem_toArray, List.getElem_cons_zero, List.getElem_cons_succ, List.setIfInBounds_toArray, List.set_cons_zero, List.set_cons_succ]
      refine wpAnyH_take (i := 12) (v := ?_) rfl (by kernel_rfl) (by kernel_rfl) (by kernel_rfl) (fun _ _ _ h => h) (Or.inl ⟨by rfl, ?_⟩) hHeld ?_
      rotate_left
      · (intro w hSw; (try dsimp only at hSw); go_simp; try with_reducible rfl)
      try simp only [Act.put, List.getElem_toArray, List.getElem_cons_zero, List.getElem_cons_succ, List.setIfInBounds_toArray, List.set_cons_zero, List.set_cons_succ]
      refine wpAnyH_take (i := 13) (v := ?_) rfl (by kernel_rfl) (by kernel_rfl) (by kernel_rfl) (fun _ _ _ h => h) (Or.inl ⟨by rfl, ?_⟩) hHeld ?_
      rotate_left
      · (intro w hSw; (try dsimp only at hSw); go_simp; try with_reducible rfl)
      try simp only [Act.put, List.getElem_toArray, List.getElem_cons_zero, List.getElem_cons_succ, List.setIfInBounds_toArray, List.set_cons_zero, List.set_cons_succ]
      refine wpAnyH_take (i := 14) (v := ?_) rfl (by kernel_rfl) (by kernel_rfl) (by kernel_rfl) (fun _ _ _ h => h) (Or.inl ⟨by rfl, ?_⟩) hHeld ?_
      rotate_left
      · (intro w hSw; (try dsimp only at hSw); go_simp; try with_reducible rfl)
      try simp only [Act.put, List.getElem_toArray, List.getElem_cons_zero, List.getElem_cons_succ, List.setIfInBounds_toArray, List.set_cons_zero, List.set_cons_succ]
      refine wpAnyH_take (i := 15) (v := ?_) rfl (by kernel_rfl) (by kernel_rfl) (by kernel_rfl) (fun _ _ _ h => h) (Or.inl ⟨by rfl, ?_⟩) hHeld ?_
      rotate_left
      · (intro w hSw; (try dsimp only at hSw); go_simp; try with_reducible rfl)
      try simp only [Act.put, List.getElem_toArray, List.getElem_cons_zero, List.getElem_cons_succ, List.setIfInBounds_toArray, List.set_cons_zero, List.set_cons_succ]
      refine wpAnyH_take (i := 16) (v := ?_) rfl (by kernel_rfl) (by kernel_rfl) (by kernel_rfl) (fun _ _ _ h => h) (Or.inl ⟨by rfl, ?_⟩) hHeld ?_
      rotate_left
      · (intro w hSw; (try dsimp only at hSw); go_simp; try with_reducible rfl)
      try simp only [Act.put, List.getElem_toArray, List.getElem_cons_zero, List.getElem_cons_succ, List.setIfInBounds_toArray, List.set_cons_zero, List.set_cons_succ]
      refine wpAnyH_take (i := 17) (v := ?_) rfl (by kernel_rfl) (by kernel_rfl) (by kernel_rfl) (fun _ _ _ h => h) (Or.inl ⟨by rfl, ?_⟩) hHeld ?_
      rotate_left
      · (intro w hSw; (try dsimp only at hSw); go_simp; try with_reducible rfl)
      try simp only [Act.put, List.getElem_toArray, List.getElem_cons_zero, List.getElem_cons_succ, List.setIfInBounds_toArray, List.set_cons_zero, List.set_cons_succ]
      refine wpAnyH_take (i := 18) (v := ?_) rfl (by kernel_rfl) (by kernel_rfl) (by kernel_rfl) (fun _ _ _ h => h) (Or.inl ⟨by rfl, ?_⟩) hHeld ?_
      rotate_left
      · (intro w hSw; (try dsimp only at hSw); go_simp; try with_reducible rfl)
      try simp only [Act.put, List.getElem_toArray, List.getElem_cons_zero, List.getElem_cons_succ, List.setIfInBounds_toArray, List.set_cons_zero, List.set_cons_succ]
      refine wpAnyH_take (i := 19) (v := ?_) rfl (by kernel_rfl) (by kernel_rfl) (by kernel_rfl) (fun _ _ _ h => h) (Or.inl ⟨by rfl, ?_⟩) hHeld ?_
      rotate_left
      · (intro w hSw; (try dsimp only at hSw); go_simp; try with_reducible rfl)
      try simp only [Act.put, List.getElem_toArray, List.getElem_cons_zero, List.getElem_cons_succ, List.setIfInBounds_toArray, List.set_cons_zero, List.set_cons_succ]
      refine wpAnyH_done (by kernel_rfl) ?_ _
      have hd : Fr [] W2 W2.drew := (Fr.refl [] W2).drew
      have HX3 := Lib.hid (HXX.out.fr0 hd)
      have hk3 := hd.heap hk2 (by simp)
      have hr3 := hd.heap hr2 (by simp)
      have k0 := ce_call hd k0
      have o3 := ce_call hd o3
      have v0 := ce_call hd v0
      have p0 := ce_call hd p0
      have pt := ce_call hd pt
      have pr := ce_call hd pr
      have a0 := ce_call hd a0
      have a1 := ce_call hd a1
      have o1 : W2.drew.cell? ⟨PB + 1, 1, none⟩ = some (.int .i64 o.s.1) := cell_of (hd.heap hO2 (by simp)) 1
      have o2 : W2.drew.cell? ⟨PB + 1, 2, none⟩ = some (.int .i64 o.s.2) := cell_of (hd.heap hO2 (by simp)) 2
      have hO3 := hd.heap hO2 (by simp)
      have hV3 := hd.heap hV2 (by simp)
      have hF3 := hd.heap hF2 (by simp)
      have hL3 := hd.heap hL2 (by simp)
      have hX3 := hd.heap hXh2 (by simp)
      have hB3 := hd.heap hB2 (by simp)
      generalize W2.drew = W3 at *
      have O3 := Lib.hid o3
      have hOK : PB + 1 ≠ KB := by simp only [List.mem_cons, List.not_mem_nil, or_false] at hKo; omega
      have hOK2 : KB ≠ PB + 1 := fun e => hOK e.symm
      have hVK2 : KB ≠ VB := fun e => hVK e.symm
      have hw1 : IntKind.i64.wrap ((pre2.length : Int) + 1) = (pre2.length : Int) + 1 := by have := hPL.out; rw [IntKind.wrap_i64]; omega
      have hw4 : IntKind.i64.wrap ((pre2.length : Int) + 3) = (pre2.length : Int) + 3 := by have := hPL.out; rw [IntKind.wrap_i64]; omega
      have hne3 : ¬ ((pre2.length : Int) + 1 = (pre2.length : Int) + 3) := by omega
      by_cases hkx : (pre2.length : Int) = o.x
      · rw [← hkx] at o3
        clear hkx
        rcases hpass with rfl | rfl
        · gi_upto_if 94 with fail
          refine wpIn_cond_true rfl ?_
          refine wpIn_mono (goesTurn l2 _ pb tb mb rb PB LB XB FB VB KB AB W.heap.size o y vA2 vX2 l2' R2 pre2.length hPL W3 _ HX3.out (lt_of hX.tab.tab) hmbl p0 pt pr o1 o2 k0 a0 a1 HN5.out ?_) NP.imp
          intro s12 s13 s95 s96 s97 s98 s99 s100 s101 s102 s103 s104 s105 s106 s107 s108 s109 s110 s111 s112 s113 s114 s115 s116 s117 s118 s119 s120 s121 s122 s123 s124 s125 s126 s127 X' vA' vX' l' R' hX' hKF hFr hB'
          have hkX : X'.heap[KB]? = some (.cells #[.int .i64 (pre2.length : Int)] 3 (0, 0)) := hFr.heap hk3 (HN5.out KB (by simp))
          have hEnd := roundEnd hkl hf2 (fun g hg => (HS2.out g hg).1) HKS.out hX' ((hd.keepsFrom (by simp)).trans hKF) ((hd.mono (by simp)).transS hFr) (fun g hg => (hB' g hg).imp id (fun h => Nat.le_trans hd.size h)) hkX
          have HEND := Lib.hid hEnd
          have k0 := cell_of hkX 0
          have kf := free_of hkX 0
          have hklX := lt_of hkX
          have o3 := ceS hFr (HN5.out (PB + 1) (by simp)) o3
          have v0 := ceS hFr (HVN.out) v0
          clear hX' hKF hFr hB' hEnd p0 pt pr o1 o2 a0 a1
          dsimp only
          gi_wp2
          obtain ⟨q1, q2, q3, q4⟩ := HEND.out
          exact ⟨q1, q2, by show JG _ _ _ _ _ _ _ (pre2 ++ [x]).length _; rw [List.length_append]; exact q3⟩
        · gi_upto_if 135 with fail
          refine wpIn_cond_true rfl ?_
          have hI3 : Iterint N0 W3 B rv G := ⟨ceS (hf2.transS ((hd.mono (by simp)))) (HNOT.out B (by simp)) HI.out.box, Nat.lt_of_lt_of_le HI.out.lt (Nat.le_trans hf2.size hd.size), HI.out.le, owns_fr HI.out.own (hf2.transS (hd.mono (by simp))) HRO.out⟩
          refine goesNest l2 _ (by omega) r2 PB LB XB FB VB KB AB B _ _ rv G HG N0 W3 _ hr3 hB3 hL3 (owns_fr HLO.out hd (by simp)) hX3 (owns_fr HXO.out hd (by simp)) hF3 hI3 ?_
          intro s14 s15 s16 s136 s137 s138 s139 s140 s141 s142 s143 s144 s145 s146 s147 s148 s149 s150 s151 s152 s153 s154 s155 s156 s157 s158 s159 s160 s161 s162 s163 s164 X' hFr
          have hd2 := hd.trans0 hFr
          have hkX := hFr.heap hk3 (by simp)
          have hEnd := roundEnd hkl hf2 (fun g hg => (HS2.out g hg).1) HKS.out (HX3.out.fr0 hFr) (hd2.keepsFrom (by simp)) (hd2.mono (by simp)) (fun g hg => .inl hg) hkX
          have HEND := Lib.hid hEnd
          have k0 := cell_of hkX 0
          have kf := free_of hkX 0
          have hklX := lt_of hkX
          have o3 := ce_call hFr o3
          have v0 := ce_call hFr v0
          clear hEnd p0 pt pr o1 o2 a0 a1 hd2
          dsimp only
          gi_wp2
          obtain ⟨q1, q2, q3, q4⟩ := HEND.out
          exact ⟨q1, q2, by show JG _ _ _ _ _ _ _ (pre2 ++ [x]).length _; rw [List.length_append]; exact q3⟩
      · have hEnd := roundEnd hkl hf2 (fun g hg => (HS2.out g hg).1) HKS.out HX3.out (hd.keepsFrom (by simp)) (hd.mono (by simp)) (fun g hg => .inl hg) hk3
        have HEND := Lib.hid hEnd
        have kf := free_of hk3 0
        have hklX := lt_of hk3
        obtain ⟨c, hcE⟩ : ∃ c, wrap64 (o.x + 3) = c := ⟨_, rfl⟩
        have hw3 : IntKind.i64.wrap (o.x + 3) = c := by rw [← hcE, IntKind.wrap_i64, wrap64]
        have HC := Lib.hid hcE
        clear hcE hEnd p0 pt pr o1 o2 a0 a1 hw4 hne3
        by_cases hc : (pre2.length : Int) + 1 = c
        · subst hc
          rcases hpass with rfl | rfl
          · gi_wp2
            obtain ⟨q1, q2, q3, q4⟩ := HEND.out
            refine ⟨q1, .inr ⟨rfl, ?_, ?_, q4⟩⟩
            · rw [HC.out, List.length_append]; simp
            · show JG _ _ _ _ _ _ _ (pre2 ++ [x]).length _
              rw [List.length_append]
              exact q3
          · gi_wp2
            obtain ⟨q1, q2, q3, q4⟩ := HEND.out
            exact ⟨q1, q2, by show JG _ _ _ _ _ _ _ (pre2 ++ [x]).length _; rw [List.length_append]; exact q3⟩
        · gi_wp2
          obtain ⟨q1, q2, q3, q4⟩ := HEND.out
          exact ⟨q1, q2, by show JG _ _ _ _ _ _ _ (pre2 ++ [x]).length _; rw [List.length_append]; exact q3⟩
    · have hB3 := hB2
      have bc := cell_of hB3 0
      have bf := free_of hB3 0
      have hbl3 := lt_of hB3
      have hbW := lt_of hBB
      obtain ⟨⟨s, v⟩, hxm⟩ := x
      simp only at a0 a1 hxy ⊢
      have hnx := HNX.out hxy
      clear p0 pt pr o3 v0
      by_cases hxs : s = y.1
      · subst hxs
        have hxv : ¬ v = y.2 := fun e => hxy (by rw [e])
        clear hxy
        gi_wp2_with fail
        refine region_round 20 rfl (fun u => u.cell? ⟨KB, 0, none⟩ = some (.int .i64 (pre2.length : Int)) ∧ u.cell? ⟨LB, 0, none⟩ = some (.slice (some ⟨gl, 0, none⟩) G.length cl) ∧ u.cell? ⟨XB, 0, none⟩ = some (.slice (some ⟨gx, 0, none⟩) G.length cx) ∧ u.cell? ⟨AB, 0, none⟩ = some (.int .i64 y.1.1) ∧ u.cell? ⟨AB, 1, none⟩ = some (.int .i64 y.1.2) ∧ u.cell? ⟨gl, pre2.length * 2, none⟩ = some (.int .i64 y.1.1) ∧ u.cell? ⟨gl, pre2.length * 2 + 1, none⟩ = some (.int .i64 y.1.2) ∧ u.cell? ⟨gx, pre2.length, none⟩ = some (.int .i64 y.2)) (by kernel_rfl) (by kernel_rfl) (by rintro ⟨_, _, h⟩; exact h) ?_ ?_
        · exact ⟨ce_drew k0, ce_drew l0, ce_drew x0, ce_drew a0, ce_drew a1, ce_drew e0, ce_drew e1, ce_drew f0⟩
        intro hHeld
        refine wpAnyH_take (i := 0) (v := ?_) rfl (by kernel_rfl) (by kernel_rfl) (by kernel_rfl) (fun _ _ _ h => h) (Or.inl ⟨by rfl, ?_⟩) hHeld ?_
        rotate_left
        · (intro w hSw; (try dsimp only at hSw); go_simp; try with_reducible rfl)
        try simp only [Act.put, List.getElem_toArray, List.getElem_cons_zero, List.setIfInBounds_toArray, List.set_cons_zero, List.set_cons_succ]
        refine wpAnyH_take (i := 1) (v := ?_) rfl (by kernel_rfl) (by kernel_rfl) (by kernel_rfl) (fun _ _ _ h => h) (Or.inl ⟨by rfl, ?_⟩) hHeld ?_
        rotate_left
        · (intro w hSw; (try dsimp only at hSw); go_simp; try with_reducible rfl)
        try simp only [Act.put, List.getElem_toArray, List.getElem_cons_zero, List.getElem_cons_succ, List.setIfInBounds_toArray, List.set_cons_zero, List.set_cons_succ]
        refine wpAnyH_take (i := 2) (v := ?_) rfl (by kernel_rfl) (by kernel_rfl) (by kernel_rfl) (fun _ _ _ h => h) (Or.inl ⟨by rfl, ?_⟩) hHeld ?_
        rotate_left
        · (intro w hSw; (try dsimp only at hSw); go_simp; try with_reducible rfl)
        try simp only [Act.put, List.getElem_toArray, List.getElem_cons_zero, List.getElem_cons_succ, List.setIfInBounds_toArray, List.set_cons_zero, List.set_cons_succ]
        refine wpAnyH_take (i := 3) (v := ?_) rfl (by kernel_rfl) (by kernel_rfl) (by kernel_rfl) (fun _ _ _ h => h) (Or.inl ⟨by rfl, ?_⟩) hHeld ?_
        rotate_left
        · (intro w hSw; (try dsimp only at hSw); go_simp; try with_reducible rfl)
        try simp only [Act.put, List.getElem_toArray, List.getElem_cons_zero, List.getElem_cons_succ, List.setIfInBounds_toArray, List.set_cons_zero, List.set_cons_succ]
        try simp only [HD2.out]
        refine wpAnyH_take (i := 4) (v := ?_) rfl (by kernel_rfl) (by kernel_rfl) (by kernel_rfl) (fun _ _ _ h => h) (Or.inl ⟨by rfl, ?_⟩) hHeld ?_
        rotate_left
        · (intro w hSw; (try dsimp only at hSw); go_simp; try with_reducible rfl)
        try simp only [Act.put, List.getElem_toArray, List.getElem_cons_zero, List.getElem_cons_succ, List.setIfInBounds_toArray, List.set_cons_zero, List.set_cons_succ]
        refine wpAnyH_take (i := 5) (v := ?_) rfl (by kernel_rfl) (by kernel_rfl) (by kernel_rfl) (fun _ _ _ h => h) (Or.inl ⟨by rfl, ?_⟩) hHeld ?_
        rotate_left
        · (intro w hSw; (try dsimp only at hSw); go_simp; try with_reducible rfl)
        try simp only [Act.put, List.getElem_toArray, List.getElem_cons_zero, List.getElem_cons_succ, List.setIfInBounds_toArray, List.set_cons_zero, List.set_cons_succ]
        refine wpAnyH_take (i := 6) (v := ?_) rfl (by kernel_rfl) (by kernel_rfl) (by kernel_rfl) (fun _ _ _ h => h) (Or.inl ⟨by rfl, ?_⟩) hHeld ?_
        rotate_left
        · (intro w hSw; (try dsimp only at hSw); go_simp; try with_reducible rfl)
        try simp only [Act.put, List.getElem_toArray, List.getElem_cons_zero, List.getElem_cons_succ, List.setIfInBounds_toArray, List.set_cons_zero, List.set_cons_succ]
        refine wpAnyH_take (i := 7) (v := ?_) rfl (by kernel_rfl) (by kernel_rfl) (by kernel_rfl) (fun _ _ _ h => h) (Or.inl ⟨by rfl, ?_⟩) hHeld ?_
        rotate_left
        · (intro w hSw; (try dsimp only at hSw); go_simp; try with_reducible rfl)
        try simp only [Act.put, List.getElem_toArray, List.getElem_cons_zero, List.getElem_cons_succ, List.setIfInBounds_toArray, List.set_cons_zero, List.set_cons_succ]
        refine wpAnyH_take (i := 8) (v := ?_) rfl (by kernel_rfl) (by kernel_rfl) (by kernel_rfl) (fun _ _ _ h => h) (Or.inl ⟨by rfl, ?_⟩) hHeld ?_
        rotate_left
        · (intro w hSw; (try dsimp only at hSw); go_simp; try with_reducible rfl)
        try simp only [Act.put, List.getElem_toArray, List.getElem_cons_zero, List.getElem_cons_succ, List.setIfInBounds_toArray, List.set_cons_zero, List.set_cons_succ]
        refine wpAnyH_take (i := 9) (v := ?_) rfl (by kernel_rfl) (by kernel_rfl) (by kernel_rfl) (fun _ _ _ h => h) (Or.inl ⟨by rfl, ?_⟩) hHeld ?_
        rotate_left
        · (intro w hSw; (try dsimp only at hSw); go_simp; try with_reducible rfl)
        try simp only [Act.put, List.getElem_toArray, List.getElem_cons_zero, List.getElem_cons_succ, List.setIfInBounds_toArray, List.set_cons_zero, List.set_cons_succ]
        refine wpAnyH_take (i := 10) (v := ?_) rfl (by kernel_rfl) (by kernel_rfl) (by kernel_rfl) (fun _ _ _ h => h) (Or.inl ⟨by rfl, ?_⟩) hHeld ?_
        rotate_left
        · (intro w hSw; (try dsimp only at hSw); go_simp; try with_reducible rfl)
        try simp only [Act.put, List.getElem_toArray, List.getElem_cons_zero, List.getElem_cons_succ, List.setIfInBounds_toArray, List.set_cons_zero, List.set_cons_succ]
        refine wpAnyH_take (i := 11) (v := ?_) rfl (by kernel_rfl) (by kernel_rfl) (by kernel_rfl) (fun _ _ _ h => h) (Or.inl ⟨by rfl, ?_⟩) hHeld ?_
        rotate_left
        · (intro w hSw; (try dsimp only at hSw); go_simp; try with_reducible rfl)
        try simp only [Act.put, List.getElem_toArray, List.getElem_cons_zero, List.getElem_cons_succ, List.setIfInBounds_toArray, List.set_cons_zero, List.set_cons_succ]
        refine wpAnyH_take (i := 12) (v := ?_) rfl (by kernel_rfl) (by kernel_rfl) (by kernel_rfl) (fun _ _ _ h => h) (Or.inl ⟨by rfl, ?_⟩) hHeld ?_
        rotate_left
        · (intro w hSw; (try dsimp only at hSw); go_simp; try with_reducible rfl)
        try simp only [Act.put, List.getElem_toArray, List.getElem_cons_zero, List.getElem_cons_succ, List.setIfInBounds_toArray, List.set_cons_zero, List.set_cons_succ]
        refine wpAnyH_take (i := 13) (v := ?_) rfl (by kernel_rfl) (by kernel_rfl) (by kernel_rfl) (fun _ _ _ h => h) (Or.inl ⟨by rfl, ?_⟩) hHeld ?_
        rotate_left
        · (intro w hSw; (try dsimp only at hSw); go_simp; try with_reducible rfl)
        try simp only [Act.put, List.getElem_toArray, List.getElem_cons_zero, List.getElem_cons_succ, List.setIfInBounds_toArray, List.set_cons_zero, List.set_cons_succ]
        refine wpAnyH_take (i := 14) (v := ?_) rfl (by kernel_rfl) (by kernel_rfl) (by kernel_rfl) (fun _ _ _ h => h) (Or.inl ⟨by rfl, ?_⟩) hHeld ?_
        rotate_left
        · (intro w hSw; (try dsimp only at hSw); go_simp; try with_reducible rfl)
        try simp only [Act.put, List.getElem_toArray, List.getElem_cons_zero, List.getElem_cons_succ, List.setIfInBounds_toArray, List.set_cons_zero, List.set_cons_succ]
        refine wpAnyH_take (i := 15) (v := ?_) rfl (by kernel_rfl) (by kernel_rfl) (by kernel_rfl) (fun _ _ _ h => h) (Or.inl ⟨by rfl, ?_⟩) hHeld ?_
        rotate_left
        · (intro w hSw; (try dsimp only at hSw); go_simp; try with_reducible rfl)
        try simp only [Act.put, List.getElem_toArray, List.getElem_cons_zero, List.getElem_cons_succ, List.setIfInBounds_toArray, List.set_cons_zero, List.set_cons_succ]
        refine wpAnyH_take (i := 16) (v := ?_) rfl (by kernel_rfl) (by kernel_rfl) (by kernel_rfl) (fun _ _ _ h => h) (Or.inl ⟨by rfl, ?_⟩) hHeld ?_
        rotate_left
        · (intro w hSw; (try dsimp only at hSw); go_simp; try with_reducible rfl)
        try simp only [Act.put, List.getElem_toArray, List.getElem_cons_zero, List.getElem_cons_succ, List.setIfInBounds_toArray, List.set_cons_zero, List.set_cons_succ]
        refine wpAnyH_take (i := 17) (v := ?_) rfl (by kernel_rfl) (by kernel_rfl) (by kernel_rfl) (fun _ _ _ h => h) (Or.inl ⟨by rfl, ?_⟩) hHeld ?_
        rotate_left
        · (intro w hSw; (try dsimp only at hSw); go_simp; try with_reducible rfl)
        try simp only [Act.put, List.getElem_toArray, List.getElem_cons_zero, List.getElem_cons_succ, List.setIfInBounds_toArray, List.set_cons_zero, List.set_cons_succ]
        refine wpAnyH_take (i := 18) (v := ?_) rfl (by kernel_rfl) (by kernel_rfl) (by kernel_rfl) (fun _ _ _ h => h) (Or.inl ⟨by rfl, ?_⟩) hHeld ?_
        rotate_left
        · (intro w hSw; (try dsimp only at hSw); go_simp; try with_reducible rfl)
        try simp only [Act.put, List.getElem_toArray, List.getElem_cons_zero, List.getElem_cons_succ, List.setIfInBounds_toArray, List.set_cons_zero, List.set_cons_succ]
        refine wpAnyH_take (i := 19) (v := ?_) rfl (by kernel_rfl) (by kernel_rfl) (by kernel_rfl) (fun _ _ _ h => h) (Or.inl ⟨by rfl, ?_⟩) hHeld ?_
        rotate_left
        · (intro w hSw; (try dsimp only at hSw); go_simp; try with_reducible rfl)
        try simp only [Act.put, List.getElem_toArray, List.getElem_cons_zero, List.getElem_cons_succ, List.setIfInBounds_toArray, List.set_cons_zero, List.set_cons_succ]
        refine wpAnyH_done (by kernel_rfl) ?_ _
        gi_wp2
        exact ⟨(((Fr.refl [PB + 1 + 1] W2).setCell (.inl (by simp)) _).drew).keepsFrom (by simpa using hbW), .inl hnx⟩
      · have h4 : (¬ s.1 = y.1.1) ∨ (s.1 = y.1.1 ∧ ¬ s.2 = y.1.2) := by
          by_cases h1 : s.1 = y.1.1
          · exact .inr ⟨h1, fun h2 => hxs (Prod.ext h1 h2)⟩
          · exact .inl h1
        clear hxs hxy
        rcases h4 with h1 | ⟨h1, h2⟩
        all_goals
          gi_wp2_with fail
          refine region_round 20 rfl (fun u => u.cell? ⟨KB, 0, none⟩ = some (.int .i64 (pre2.length : Int)) ∧ u.cell? ⟨LB, 0, none⟩ = some (.slice (some ⟨gl, 0, none⟩) G.length cl) ∧ u.cell? ⟨XB, 0, none⟩ = some (.slice (some ⟨gx, 0, none⟩) G.length cx) ∧ u.cell? ⟨AB, 0, none⟩ = some (.int .i64 s.1) ∧ u.cell? ⟨AB, 1, none⟩ = some (.int .i64 s.2) ∧ u.cell? ⟨gl, pre2.length * 2, none⟩ = some (.int .i64 y.1.1) ∧ u.cell? ⟨gl, pre2.length * 2 + 1, none⟩ = some (.int .i64 y.1.2) ∧ u.cell? ⟨gx, pre2.length, none⟩ = some (.int .i64 y.2)) (by kernel_rfl) (by kernel_rfl) (by rintro ⟨_, _, h⟩; exact h) ?_ ?_
          · exact ⟨ce_drew k0, ce_drew l0, ce_drew x0, ce_drew a0, ce_drew a1, ce_drew e0, ce_drew e1, ce_drew f0⟩
          intro hHeld
          refine wpAnyH_take (i := 0) (v := ?_) rfl (by kernel_rfl) (by kernel_rfl) (by kernel_rfl) (fun _ _ _ h => h) (Or.inl ⟨by rfl, ?_⟩) hHeld ?_
          rotate_left
          · (intro w hSw; (try dsimp only at hSw); go_simp; try with_reducible rfl)
          try simp only [Act.put, List.getElem_toArray, List.getElem_cons_zero, List.setIfInBounds_toArray, List.set_cons_zero, List.set_cons_succ]
          refine wpAnyH_take (i := 1) (v := ?_) rfl (by kernel_rfl) (by kernel_rfl) (by kernel_rfl) (fun _ _ _ h => h) (Or.inl ⟨by rfl, ?_⟩) hHeld ?_
          rotate_left
          · (intro w hSw; (try dsimp only at hSw); go_simp; try with_reducible rfl)
          try simp only [Act.put, List.getElem_toArray, List.getElem_cons_zero, List.getElem_cons_succ, List.setIfInBounds_toArray, List.set_cons_zero, List.set_cons_succ]
          refine wpAnyH_take (i := 2) (v := ?_) rfl (by kernel_rfl) (by kernel_rfl) (by kernel_rfl) (fun _ _ _ h => h) (Or.inl ⟨by rfl, ?_⟩) hHeld ?_
          rotate_left
          · (intro w hSw; (try dsimp only at hSw); go_simp; try with_reducible rfl)
          try simp only [Act.put, List.getElem_toArray, List.getElem_cons_zero, List.getElem_cons_succ, List.setIfInBounds_toArray, List.set_cons_zero, List.set_cons_succ]
          refine wpAnyH_take (i := 3) (v := ?_) rfl (by kernel_rfl) (by kernel_rfl) (by kernel_rfl) (fun _ _ _ h => h) (Or.inl ⟨by rfl, ?_⟩) hHeld ?_
          rotate_left
          · (intro w hSw; (try dsimp only at hSw); go_simp; try with_reducible rfl)
          try simp only [Act.put, List.getElem_toArray, List.getElem_cons_zero, List.getElem_cons_succ, List.setIfInBounds_toArray, List.set_cons_zero, List.set_cons_succ]
          try simp only [HD2.out]
          refine wpAnyH_take (i := 4) (v := ?_) rfl (by kernel_rfl) (by kernel_rfl) (by kernel_rfl) (fun _ _ _ h => h) (Or.inl ⟨by rfl, ?_⟩) hHeld ?_
          rotate_left
          · (intro w hSw; (try dsimp only at hSw); go_simp; try with_reducible rfl)
          try simp only [Act.put, List.getElem_toArray, List.getElem_cons_zero, List.getElem_cons_succ, List.setIfInBounds_toArray, List.set_cons_zero, List.set_cons_succ]
          refine wpAnyH_take (i := 5) (v := ?_) rfl (by kernel_rfl) (by kernel_rfl) (by kernel_rfl) (fun _ _ _ h => h) (Or.inl ⟨by rfl, ?_⟩) hHeld ?_
          rotate_left
          · (intro w hSw; (try dsimp only at hSw); go_simp; try with_reducible rfl)
          try simp only [Act.put, List.getElem_toArray, List.getElem_cons_zero, List.getElem_cons_succ, List.setIfInBounds_toArray, List.set_cons_zero, List.set_cons_succ]
          refine wpAnyH_take (i := 6) (v := ?_) rfl (by kernel_rfl) (by kernel_rfl) (by kernel_rfl) (fun _ _ _ h => h) (Or.inl ⟨by rfl, ?_⟩) hHeld ?_
          rotate_left
          · (intro w hSw; (try dsimp only at hSw); go_simp; try with_reducible rfl)
          try simp only [Act.put, List.getElem_toArray, List.getElem_cons_zero, List.getElem_cons_succ, List.setIfInBounds_toArray, List.set_cons_zero, List.set_cons_succ]
          refine wpAnyH_take (i := 7) (v := ?_) rfl (by kernel_rfl) (by kernel_rfl) (by kernel_rfl) (fun _ _ _ h => h) (Or.inl ⟨by rfl, ?_⟩) hHeld ?_
          rotate_left
          · (intro w hSw; (try dsimp only at hSw); go_simp; try with_reducible rfl)
          try simp only [Act.put, List.getElem_toArray, List.getElem_cons_zero, List.getElem_cons_succ, List.setIfInBounds_toArray, List.set_cons_zero, List.set_cons_succ]
          refine wpAnyH_take (i := 8) (v := ?_) rfl (by kernel_rfl) (by kernel_rfl) (by kernel_rfl) (fun _ _ _ h => h) (Or.inl ⟨by rfl, ?_⟩) hHeld ?_
          rotate_left
          · (intro w hSw; (try dsimp only at hSw); go_simp; try with_reducible rfl)
          try simp only [Act.put, List.getElem_toArray, List.getElem_cons_zero, List.getElem_cons_succ, List.setIfInBounds_toArray, List.set_cons_zero, List.set_cons_succ]
          refine wpAnyH_take (i := 9) (v := ?_) rfl (by kernel_rfl) (by kernel_rfl) (by kernel_rfl) (fun _ _ _ h => h) (Or.inl ⟨by rfl, ?_⟩) hHeld ?_
          rotate_left
          · (intro w hSw; (try dsimp only at hSw); go_simp; try with_reducible rfl)
          try simp only [Act.put, List.getElem_toArray, List.getElem_cons_zero, List.getElem_cons_succ, List.setIfInBounds_toArray, List.set_cons_zero, List.set_cons_succ]
          refine wpAnyH_take (i := 10) (v := ?_) rfl (by kernel_rfl) (by kernel_rfl) (by kernel_rfl) (fun _ _ _ h => h) (Or.inl ⟨by rfl, ?_⟩) hHeld ?_
          rotate_left
          · (intro w hSw; (try dsimp only at hSw); go_simp; try with_reducible rfl)
          try simp only [Act.put, List.getElem_toArray, List.getElem_cons_zero, List.getElem_cons_succ, List.setIfInBounds_toArray, List.set_cons_zero, List.set_cons_succ]
          refine wpAnyH_take (i := 11) (v := ?_) rfl (by kernel_rfl) (by kernel_rfl) (by kernel_rfl) (fun _ _ _ h => h) (Or.inl ⟨by rfl, ?_⟩) hHeld ?_
          rotate_left
          · (intro w hSw; (try dsimp only at hSw); go_simp; try with_reducible rfl)
          try simp only [Act.put, List.getElem_toArray, List.getElem_cons_zero, List.getElem_cons_succ, List.setIfInBounds_toArray, List.set_cons_zero, List.set_cons_succ]
          refine wpAnyH_take (i := 12) (v := ?_) rfl (by kernel_rfl) (by kernel_rfl) (by kernel_rfl) (fun _ _ _ h => h) (Or.inl ⟨by rfl, ?_⟩) hHeld ?_
          rotate_left
          · (intro w hSw; (try dsimp only at hSw); go_simp; try with_reducible rfl)
          try simp only [Act.put, List.getElem_toArray, List.getElem_cons_zero, List.getElem_cons_succ, List.setIfInBounds_toArray, List.set_cons_zero, List.set_cons_succ]
          refine wpAnyH_take (i := 13) (v := undef) rfl (by kernel_rfl) (by kernel_rfl) (by kernel_rfl) (fun _ _ _ h => h) (Or.inr ⟨by rfl, rfl⟩) hHeld ?_
          try simp only [Act.put, List.getElem_toArray, List.getElem_cons_zero, List.getElem_cons_succ, List.setIfInBounds_toArray, List.set_cons_zero, List.set_cons_succ]
          refine wpAnyH_take (i := 14) (v := undef) rfl (by kernel_rfl) (by kernel_rfl) (by kernel_rfl) (fun _ _ _ h => h) (Or.inr ⟨by rfl, rfl⟩) hHeld ?_
          try simp only [Act.put, List.getElem_toArray, List.getElem_cons_zero, List.getElem_cons_succ, List.setIfInBounds_toArray, List.set_cons_zero, List.set_cons_succ]
          refine wpAnyH_take (i := 15) (v := undef) rfl (by kernel_rfl) (by kernel_rfl) (by kernel_rfl) (fun _ _ _ h => h) (Or.inr ⟨by rfl, rfl⟩) hHeld ?_
          try simp only [Act.put, List.getElem_toArray, List.getElem_cons_zero, List.getElem_cons_succ, List.setIfInBounds_toArray, List.set_cons_zero, List.set_cons_succ]
          refine wpAnyH_take (i := 16) (v := undef) rfl (by kernel_rfl) (by kernel_rfl) (by kernel_rfl) (fun _ _ _ h => h) (Or.inr ⟨by rfl, rfl⟩) hHeld ?_
          try simp only [Act.put, List.getElem_toArray, List.getElem_cons_zero, List.getElem_cons_succ, List.setIfInBounds_toArray, List.set_cons_zero, List.set_cons_succ]
          refine wpAnyH_take (i := 17) (v := undef) rfl (by kernel_rfl) (by kernel_rfl) (by kernel_rfl) (fun _ _ _ h => h) (Or.inr ⟨by rfl, rfl⟩) hHeld ?_
          try simp only [Act.put, List.getElem_toArray, List.getElem_cons_zero, List.getElem_cons_succ, List.setIfInBounds_toArray, List.set_cons_zero, List.set_cons_succ]
          refine wpAnyH_take (i := 18) (v := undef) rfl (by kernel_rfl) (by kernel_rfl) (by kernel_rfl) (fun _ _ _ h => h) (Or.inr ⟨by rfl, rfl⟩) hHeld ?_
          try simp only [Act.put, List.getElem_toArray, List.getElem_cons_zero, List.getElem_cons_succ, List.setIfInBounds_toArray, List.set_cons_zero, List.set_cons_succ]
          refine wpAnyH_take (i := 19) (v := ?_) rfl (by kernel_rfl) (by kernel_rfl) (by kernel_rfl) (fun _ _ _ h => h) (Or.inl ⟨by rfl, ?_⟩) hHeld ?_
          rotate_left
          · (intro w hSw; (try dsimp only at hSw); go_simp; try with_reducible rfl)
          try simp only [Act.put, List.getElem_toArray, List.getElem_cons_zero, List.getElem_cons_succ, List.setIfInBounds_toArray, List.set_cons_zero, List.set_cons_succ]
          refine wpAnyH_done (by kernel_rfl) ?_ _
          gi_wp2
          exact ⟨(((Fr.refl [PB + 1 + 1] W2).setCell (.inl (by simp)) _).drew).keepsFrom (by simpa using hbW), .inl hnx⟩
  · intro D xs X hD hT hJ hF hK
    have e : xs.length = G.length := by
      have := congrArg List.length (show xs.map (·.1) = G from hT)
      rwa [List.length_map] at this
    rw [e] at hJ
    exact hdone D X hD hJ hF hK
  · intro D c pre X hD hTp hx hK
    rcases hx with hx | ⟨rfl, e2, e3, e4, e5⟩
    · exact absurd hTp hx
    · exact hstop D pre.length X hD e2 e3 e4 e5 hK
end Go.Proofs.Ytldppdafgbipjaa
