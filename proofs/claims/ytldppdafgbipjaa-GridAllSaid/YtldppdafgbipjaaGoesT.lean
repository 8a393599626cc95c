/-
  quadrillelaw7's (*pair).goes: the end of a round.
-/
import Derived.Test.YtldppdafgbipjaaGoesR
import Derived.Test.YtldppdafgbipjaaAllint
import Derived.Stop.RegionWithIn
import Derived.Sort.CutIn
namespace Go.Proofs.Ytldppdafgbipjaa
open Go.RowKit Go.Shelf
attribute [local go_sem] Oper.semAt_some

/-- Part of a code: 0 the first, 1 the second, or what lies within; of a branch 2 and 3; 2 a loop's body. -/
def subC : List Nat → Code → Code
  | [], c => c
  | 0 :: p, .seq a _ => subC p a
  | 1 :: p, .seq _ b => subC p b
  | 0 :: p, .block _ c => subC p c
  | 0 :: p, .loop c => subC p c
  | 2 :: p, .cond _ c _ => subC p c
  | 3 :: p, .cond _ _ c => subC p c
  | 2 :: p, .rangeFunc _ _ _ c => subC p c
  | _, c => c

/-- The table and the document's, the same. -/
structure TX (w : World) (tb mb rb : Nat) (vA vX : Value) (l R : List (Sp × Int)) : Prop where
  tab : TabIs 148 (fun x : Int => .int .i64 x) w tb mb l
  ref : RIn w rb vA vX R R
  asc : Asc R l
  le : l.length ≤ 65536
theorem Iterint.fr {n0 n1 : Nat} {w w1 : World} {B : Nat} {rv : Value} {R : List (Sp × Int)} (h : Iterint n0 w B rv R) (hf : Fr [] w w1) (hn : n1 ≤ n0) : Iterint n1 w1 B rv R :=
  ⟨(hf.cell (p := ⟨B, 0, none⟩) h.lt (by simp)).trans h.box, Nat.lt_of_lt_of_le h.lt hf.size, Nat.le_trans hn h.le, owns_mono (owns_fr h.own hf (by simp)) hn⟩
theorem Fr.dropB {b : Nat} {w w1 : World} (h : Fr [b] w w1) (hb : w1.heap[b]? = w.heap[b]?) : Fr [] w w1 :=
  ⟨h.os, h.tape, h.output, h.size, fun k hk _ => if e : k = b then by rw [e]; exact hb else h.block k hk (by simpa using e)⟩
theorem keeps_turns {B : Nat} {w w1 : World} {rb : Nat} {vA vX : Value} {A X : List (Sp × Int)} (h : RIn w rb vA vX A X) (hf : Fr (rBl rb vA vX) w w1) : KeepsFrom B w w1 := by
  refine ⟨hf.size, fun k o _ hk ho => hf.heap hk fun hm => ?_⟩
  simp only [rBl, List.mem_cons, List.mem_append, Option.mem_toList] at hm
  rcases hm with rfl | hm | hm
  · rw [h.tab] at hk
    cases hk
    cases ho
  · obtain ⟨_, hh⟩ := own_heap h.at' hm
    rw [hh] at hk
    cases hk
    cases ho
  · obtain ⟨_, hh⟩ := own_heap h.xs hm
    rw [hh] at hk
    cases hk
    cases ho
theorem TX.own {β : Type} {B : Nat} {tb mb rb : Nat} (hm : mb < B) (f f2 : β → Value) (g g2 : β → List (Sp × Int)) : OwnFrom B (fun x W => TX W tb mb rb (f x) (f2 x) (g x) (g2 x)) := by
  rintro x X Y row ⟨hT, hR, hA, hl⟩ hg hr
  have hcell : ∀ {b : Nat} {cs : Array Value} {e : TypeId} {fr : Nat × Nat}, X.heap[b]? = some (.cells cs e fr) → Y.heap[b]? = some (.cells cs e fr) := fun {b cs e fr} hb => by
    refine (hg.block b (lt_of hb) (fun hrow => ?_)).trans hb
    obtain ⟨_, o, ho, hc⟩ := hr b hrow.symm
    rw [hb] at ho
    cases ho
    cases hc
  have hown : ∀ {e : TypeId} {size n : Nat} {v : Value} {xs : List Value}, X.ownsRow 0 e size v n xs → Y.ownsRow 0 e size v n xs := fun {e size n v xs} ho => by
    refine ⟨ho.1, ?_⟩
    rcases ho.2 with ho | ⟨k, cap, cur, hv, hk, hh, r⟩
    · exact .inl ho
    · exact .inr ⟨k, cap, cur, hv, hk, hcell hh, r⟩
  obtain ⟨es, clock, hmap, hrest⟩ := hT.map
  refine ⟨⟨hcell hT.tab, ⟨es, clock, ?_, hrest⟩⟩, ⟨hcell hR.tab, hown hR.at', hown hR.xs⟩, hA, hl⟩
  exact (hg.block mb (lt_of hmap) (fun hrow => by have := (hr mb hrow.symm).1; omega)).trans hmap
theorem TX.fr0 {w w1 : World} {tb mb rb : Nat} {vA vX : Value} {l R : List (Sp × Int)} (h : TX w tb mb rb vA vX l R) (hf : Fr [] w w1) : TX w1 tb mb rb vA vX l R := ⟨h.tab.fr hf (by simp) (by simp), h.ref.fr hf, h.asc, h.le⟩

/-- What the going over keeps: how many, and the table and the document's. -/
def JG (KB tb mb rb : Nat) (vA vX : Value) (N : Nat) (n : Nat) (W : World) : Prop :=
  W.heap[KB]? = some (.cells #[.int .i64 (n : Int)] 3 (0, 0)) ∧ ∃ vA' vX' l R, TX W tb mb rb vA' vX' l R ∧ ∀ g ∈ rBl rb vA' vX', g ∈ rBl rb vA vX ∨ N ≤ g
theorem JG.own {β : Type} {B KB tb mb rb : Nat} {vA vX : Value} {N : Nat} (hm : mb < B) (hk : KB < B) (f : β → Nat) : OwnFrom B (fun x W => JG KB tb mb rb vA vX N (f x) W) := by
  rintro x X Y row ⟨h1, vA', vX', l, R, h2, h3⟩ hg hr
  refine ⟨?_, vA', vX', l, R, TX.own (β := Unit) hm (fun _ => vA') (fun _ => vX') (fun _ => l) (fun _ => R) () X Y row h2 hg hr, h3⟩
  exact (hg.block KB (lt_of h1) (fun hrow => by have := (hr KB hrow.symm).1; omega)).trans h1
theorem JG.fr0 {KB tb mb rb : Nat} {vA vX : Value} {N n : Nat} {W W1 : World} (h : JG KB tb mb rb vA vX N n W) (hf : Fr [] W W1) : JG KB tb mb rb vA vX N n W1 := by
  obtain ⟨h1, vA', vX', l, R, h2, h3⟩ := h
  exact ⟨hf.heap h1 (by simp), vA', vX', l, R, h2.fr0 hf, h3⟩

set_option maxRecDepth 100000 in
set_option maxHeartbeats 1600000 in
theorem goesTail (l2 n : Nat) (pass : Int) (hpass : pass = 0 ∨ pass = 1) (PB LB XB FB VB KB AB : Nat) (o : Op7) (k : Nat) (hk : Hid (k < 65536)) (X : World) {z0 z1 z11 z12 z13 z14 z15 z16 z17 z18 z19 z20 z21 z22 z23 z24 z25 z26 z27 z28 z29 z30 z31 z32 z33 z34 z35 z36 z37 z38 z39 z40 z41 z42 z43 z44 z45 z46 z47 z48 z49 z50 z51 z52 z53 z54 z55 z56 z57 z58 z59 z60 z61 z62 z63 z64 z65 z66 z67 z68 z69 z70 z71 z72 z73 z74 z75 z76 z77 z78 z79 z80 z81 z82 z83 z84 z85 z86 z87 z88 z89 z90 z91 z92 z93 z94 z95 z96 z97 z98 z99 z100 z101 z102 z103 z104 z105 z106 z107 z108 z109 z110 z111 z112 z113 z114 z115 z116 z117 z118 z119 z120 z121 z122 z123 z124 z125 z126 z127 z128 z129 z130 z131 z132 z133 z134 z135 z136 z137 z138 z139 z140 z141 z142 z143 z144 z145 z146 z147 z148 z149 z150 z151 z152 z153 z154 z155 z156 z157 z158 z159 z160 z161 z162 z163 z164 z165 z166 z167 z168 z169 z170 z171 z172 z173 z174 z175 z176 z177 z178 z179 z180 z181 z182 z183 z184 z185 z186 z187 z188 z189 z190 z191 : Value} (Q : Exit → Act → World → Prop)
    (hK : X.heap[KB]? = some (.cells #[.int .i64 (k : Int)] 3 (0, 0))) (o3 : X.cell? ⟨PB + 1, 3, none⟩ = some (.int .i64 o.x)) (v0 : X.cell? ⟨VB, 0, none⟩ = some (.int .i64 pass)) (hOK : PB + 1 ≠ KB) (hVK : VB ≠ KB)
    (h1 : ∀ a, Q .normal a (X.setCell ⟨KB, 0, none⟩ (.int .i64 ((k : Int) + 1)))) (h2 : ∀ a, pass = 0 → (k : Int) + 1 = wrap64 (o.x + 3) → Q (.exit 2) a (X.setCell ⟨KB, 0, none⟩ (.int .i64 ((k : Int) + 1)))) :
    (subC [1, 1, 1, 1, 1, 0, 1, 0, 0, 1, 0, 0, 1, 0, 1, 0, 2, 0, 1, 1, 1] (Try.f23.body.getD .skip)).wpIn (Fence.wide.inRound l2) n Try.prog Q { tmps := #[z0, z1, .pointer (some ⟨PB, 0, none⟩), .pointer (some ⟨(PB + 1), 0, none⟩), .pointer (some ⟨(PB + 1 + 1), 0, none⟩), .pointer (some ⟨LB, 0, none⟩), .pointer (some ⟨XB, 0, none⟩), .pointer (some ⟨FB, 0, none⟩), .pointer (some ⟨VB, 0, none⟩), .pointer (some ⟨KB, 0, none⟩), .pointer (some ⟨AB, 0, none⟩), z11, z12, z13, z14, z15, z16, z17, z18, z19, z20, z21, z22, z23, z24, z25, z26, z27, z28, z29, z30, z31, z32, z33, z34, z35, z36, z37, z38, z39, z40, z41, z42, z43, z44, z45, z46, z47, z48, z49, z50, z51, z52, z53, z54, z55, z56, z57, z58, z59, z60, z61, z62, z63, z64, z65, z66, z67, z68, z69, z70, z71, z72, z73, z74, z75, z76, z77, z78, z79, z80, z81, z82, z83, z84, z85, z86, z87, z88, z89, z90, z91, z92, z93, z94, z95, z96, z97, z98, z99, z100, z101, z102, z103, z104, z105, z106, z107, z108, z109, z110, z111, z112, z113, z114, z115, z116, z117, z118, z119, z120, z121, z122, z123, z124, z125, z126, z127, z128, z129, z130, z131, z132, z133, z134, z135, z136, z137, z138, z139, z140, z141, z142, z143, z144, z145, z146, z147, z148, z149, z150, z151, z152, z153, z154, z155, z156, z157, z158, z159, z160, z161, z162, z163, z164, z165, z166, z167, z168, z169, z170, z171, z172, z173, z174, z175, z176, z177, z178, z179, z180, z181, z182, z183, z184, z185, z186, z187, z188, z189, z190, z191], defers := [] } X := by
  have k0 := cell_of hK 0
  have kf := free_of hK 0
  have hkl := lt_of hK
  have o3' : (X.setCell ⟨KB, 0, none⟩ (.int .i64 ((k : Int) + 1))).cell? ⟨PB + 1, 3, none⟩ = some (.int .i64 o.x) := (st1 (fun e => hOK e.symm)).trans o3
  have v0' : (X.setCell ⟨KB, 0, none⟩ (.int .i64 ((k : Int) + 1))).cell? ⟨VB, 0, none⟩ = some (.int .i64 pass) := (st1 (fun e => hVK e.symm)).trans v0
  have hw1 : IntKind.i64.wrap ((k : Int) + 1) = (k : Int) + 1 := by have := hk.out; rw [IntKind.wrap_i64]; omega
  have hOK2 : KB ≠ PB + 1 := fun e => hOK e.symm
  have hVK2 : KB ≠ VB := fun e => hVK e.symm
  show ((Code.region 34 _ _).seq ((Code.region 35 _ _).seq (Code.cond _ _ _))).wpIn _ _ _ _ _ _
  obtain ⟨c, hcE⟩ : ∃ c, wrap64 (o.x + 3) = c := ⟨_, rfl⟩
  have hw3 : IntKind.i64.wrap (o.x + 3) = c := by rw [← hcE, IntKind.wrap_i64, wrap64]
  have HC := Lib.hid hcE
  rw [hcE] at h2
  have H2 := Lib.hid h2
  clear hcE h2
  by_cases hc : (k : Int) + 1 = c
  · subst hc
    rcases hpass with rfl | rfl
    · gi_wp2
      exact H2.out _ trivial trivial
    · gi_wp2
      exact h1 _
  · gi_wp2
    exact h1 _

set_option maxRecDepth 100000 in
set_option maxHeartbeats 1000000 in
theorem goesNest (l2 n0 : Nat) (hn0 : 4 ≤ n0) (r2 : Loop) (PB LB XB FB VB KB AB B : Nat) (vl vx rv : Value) (G : List (Sp × Int)) (hGl : Hid (G.length ≤ 65536)) (N0 : Nat) (W : World) {z0 z1 z11 z12 z13 z14 z15 z16 z17 z18 z19 z20 z21 z22 z23 z24 z25 z26 z27 z28 z29 z30 z31 z32 z33 z34 z35 z36 z37 z38 z39 z40 z41 z42 z43 z44 z45 z46 z47 z48 z49 z50 z51 z52 z53 z54 z55 z56 z57 z58 z59 z60 z61 z62 z63 z64 z65 z66 z67 z68 z69 z70 z71 z72 z73 z74 z75 z76 z77 z78 z79 z80 z81 z82 z83 z84 z85 z86 z87 z88 z89 z90 z91 z92 z93 z94 z95 z96 z97 z98 z99 z100 z101 z102 z103 z104 z105 z106 z107 z108 z109 z110 z111 z112 z113 z114 z115 z116 z117 z118 z119 z120 z121 z122 z123 z124 z125 z126 z127 z128 z129 z130 z131 z132 z133 z134 z135 z136 z137 z138 z139 z140 z141 z142 z143 z144 z145 z146 z147 z148 z149 z150 z151 z152 z153 z154 z155 z156 z157 z158 z159 z160 z161 z162 z163 z164 z165 z166 z167 z168 z169 z170 z171 z172 z173 z174 z175 z176 z177 z178 z179 z180 z181 z182 z183 z184 z185 z186 z187 z188 z189 z190 z191 : Value} (Q : Exit → Act → World → Prop)
    (hr2 : W.heap[l2]? = some (.loop r2))
    (hBB : W.heap[PB + 1 + 1]? = some (.cells #[.bool false] 4 (0, 0)))
    (hLB : W.heap[LB]? = some (.cells #[vl] 35 (0, 0))) (hl : W.ownsRow N0 26 2 vl G.length (G.flatMap encA))
    (hXB : W.heap[XB]? = some (.cells #[vx] 48 (0, 0))) (hx : W.ownsRow N0 3 1 vx G.length (G.flatMap encX))
    (hFB : W.heap[FB]? = some (.cells #[.func (.func 107) #[] #[.pointer (some ⟨B, 0, none⟩)]] 62 (0, 0))) (hI : Iterint N0 W B rv G)
    (hdone : ∀ (s14 s15 s16 s136 s137 s138 s139 s140 s141 s142 s143 s144 s145 s146 s147 s148 s149 s150 s151 s152 s153 s154 s155 s156 s157 s158 s159 s160 s161 s162 s163 s164 : Value) (X : World), Fr [] W X → Q .normal { tmps := #[z0, z1, .pointer (some ⟨PB, 0, none⟩), .pointer (some ⟨(PB + 1), 0, none⟩), .pointer (some ⟨(PB + 1 + 1), 0, none⟩), .pointer (some ⟨LB, 0, none⟩), .pointer (some ⟨XB, 0, none⟩), .pointer (some ⟨FB, 0, none⟩), .pointer (some ⟨VB, 0, none⟩), .pointer (some ⟨KB, 0, none⟩), .pointer (some ⟨AB, 0, none⟩), z11, z12, z13, s14, s15, s16, z17, z18, z19, z20, z21, z22, z23, z24, z25, z26, z27, z28, z29, z30, z31, z32, z33, z34, z35, z36, z37, z38, z39, z40, z41, z42, z43, z44, z45, z46, z47, z48, z49, z50, z51, z52, z53, z54, z55, z56, z57, z58, z59, z60, z61, z62, z63, z64, z65, z66, z67, z68, z69, z70, z71, z72, z73, z74, z75, z76, z77, z78, z79, z80, z81, z82, z83, z84, z85, z86, z87, z88, z89, z90, z91, z92, z93, z94, z95, z96, z97, z98, z99, z100, z101, z102, z103, z104, z105, z106, z107, z108, z109, z110, z111, z112, z113, z114, z115, z116, z117, z118, z119, z120, z121, z122, z123, z124, z125, z126, z127, z128, z129, z130, z131, z132, z133, z134, z135, s136, s137, s138, s139, s140, s141, s142, s143, s144, s145, s146, s147, s148, s149, s150, s151, s152, s153, s154, s155, s156, s157, s158, s159, s160, s161, s162, s163, s164, z165, z166, z167, z168, z169, z170, z171, z172, z173, z174, z175, z176, z177, z178, z179, z180, z181, z182, z183, z184, z185, z186, z187, z188, z189, z190, z191], defers := [] } X) :
    (subC [1, 1, 1, 1, 1, 0, 1, 0, 0, 1, 0, 0, 1, 0, 1, 0, 2, 0, 1, 1, 0, 1, 2] (Try.f23.body.getD .skip)).wpIn (Fence.wide.inRound l2) n0 Try.prog Q { tmps := #[z0, z1, .pointer (some ⟨PB, 0, none⟩), .pointer (some ⟨(PB + 1), 0, none⟩), .pointer (some ⟨(PB + 1 + 1), 0, none⟩), .pointer (some ⟨LB, 0, none⟩), .pointer (some ⟨XB, 0, none⟩), .pointer (some ⟨FB, 0, none⟩), .pointer (some ⟨VB, 0, none⟩), .pointer (some ⟨KB, 0, none⟩), .pointer (some ⟨AB, 0, none⟩), z11, z12, z13, z14, z15, z16, z17, z18, z19, z20, z21, z22, z23, z24, z25, z26, z27, z28, z29, z30, z31, z32, z33, z34, z35, z36, z37, z38, z39, z40, z41, z42, z43, z44, z45, z46, z47, z48, z49, z50, z51, z52, z53, z54, z55, z56, z57, z58, z59, z60, z61, z62, z63, z64, z65, z66, z67, z68, z69, z70, z71, z72, z73, z74, z75, z76, z77, z78, z79, z80, z81, z82, z83, z84, z85, z86, z87, z88, z89, z90, z91, z92, z93, z94, z95, z96, z97, z98, z99, z100, z101, z102, z103, z104, z105, z106, z107, z108, z109, z110, z111, z112, z113, z114, z115, z116, z117, z118, z119, z120, z121, z122, z123, z124, z125, z126, z127, z128, z129, z130, z131, z132, z133, z134, z135, z136, z137, z138, z139, z140, z141, z142, z143, z144, z145, z146, z147, z148, z149, z150, z151, z152, z153, z154, z155, z156, z157, z158, z159, z160, z161, z162, z163, z164, z165, z166, z167, z168, z169, z170, z171, z172, z173, z174, z175, z176, z177, z178, z179, z180, z181, z182, z183, z184, z185, z186, z187, z188, z189, z190, z191], defers := [] } W := by
  show ((Code.region 25 _ _).seq (((Code.region 26 _ _).seq (Code.block 4 _)).seq _)).wpIn _ _ _ _ _ _
  obtain ⟨ql, cl, rfl⟩ := (RIs.of_owns hl).form
  obtain ⟨qx, cx, rfl⟩ := (RIs.of_owns hx).form
  have hLP : LB ≠ PB + 1 + 1 := box_ne hLB hBB (by decide)
  have hXP : XB ≠ PB + 1 + 1 := box_ne hXB hBB (by decide)
  have HDONE := Lib.hid hdone
  have HBB := Lib.hid hBB
  clear hdone
  have hI0 := hI
  have hx0 := hx
  have f0 := cell_of hFB 0
  have hFl := lt_of hFB
  have hBl := lt_of hBB
  have hLl := lt_of hLB
  have hXl := lt_of hXB
  gi_wp2_with fail
  have h1 : Fr [] W (W.alloc (.cells #[.int .i64 0] 3)) := (Fr.refl [] W).alloc _
  have hJB := heap_new W (.cells #[.int .i64 0] 3)
  have hI1 := hI.fr h1 (Nat.le_refl _)
  have hr1 := h1.heap hr2 (by simp)
  have hBB := h1.heap hBB (by simp)
  have hLB := h1.heap hLB (by simp)
  have hXB := h1.heap hXB (by simp)
  have hl := owns_fr hl h1 (by simp)
  have hx := owns_fr hx h1 (by simp)
  generalize W.alloc (.cells #[.int .i64 0] 3) = W1 at *
  obtain ⟨JB, hJBe⟩ : ∃ JB, W.heap.size = JB := ⟨_, rfl⟩
  rw [hJBe] at hJB hFl hBl hLl hXl ⊢
  have hJl := lt_of hJB
  have HI := Lib.hid hI1
  have hxJ : ∀ k, (Value.slice qx G.length cx).ownBlock = some k → k ≠ JB := fun k hk e => by
    obtain ⟨_, hh⟩ := own_heap (owns_mono hx0 (Nat.zero_le _)) hk
    have := lt_of hh
    omega
  have hJX : JB ∉ [PB + 1 + 1, LB, XB, FB] := by simp only [List.mem_cons, List.not_mem_nil, or_false]; omega
  have hlN : ∀ k, (Value.slice ql G.length cl).ownBlock = some k → k ∉ [JB, PB + 1 + 1] := fun k hk hm => by
    simp only [List.mem_cons, List.not_mem_nil, or_false] at hm
    rcases hm with rfl | rfl
    · exact own_nbox hl hJB (by decide) _ hk (by simp)
    · exact own_nbox hl hBB (by decide) _ hk (by simp)
  have hxN : ∀ k, (Value.slice qx G.length cx).ownBlock = some k → k ∉ [JB, PB + 1 + 1] := fun k hk hm => by
    have hlt := (hx.lt k hk)
    simp only [List.mem_cons, List.not_mem_nil, or_false] at hm
    rcases hm with rfl | rfl
    · exact hxJ _ hk rfl
    · exact own_nbox hx hBB (by decide) _ hk (by simp)
  have hrN : ∀ k, rv.ownBlock = some k → k ∉ [JB, PB + 1 + 1] := fun k hk hm => by
    simp only [List.mem_cons, List.not_mem_nil, or_false] at hm
    rcases hm with rfl | rfl
    · exact own_nbox HI.out.own hJB (by decide) _ hk (by simp)
    · exact own_nbox HI.out.own hBB (by decide) _ hk (by simp)
  have HLN := Lib.hid hlN
  have HXN := Lib.hid hxN
  have HRN := Lib.hid hrN
  clear hlN hxN hrN hxJ
  refine range_iterN rfl hr1 (by omega) (gf := 107) (lb := #[.pointer (some ⟨B, 0, none⟩)]) rfl trivial (enters_of Try.func107 (by kernel_rfl) rfl) [JB, PB + 1 + 1] (by
      intro k hk
      simp only [List.mem_cons, List.not_mem_nil, or_false] at hk
      rcases hk with rfl | rfl
      · exact hJl
      · exact lt_of hBB)
    (SeqStopsK.inRound l2 (overK_int (n0 - 1) (by omega) B rv G _ (fun X X' hk hr => RIs.kept HI.out.own (Nat.le_refl _) (by
      intro g hg e
      exact HRN.out g e hg) hk hr) W1 HI.out.box HI.out.lt (RIs.of_owns HI.out.own) (by have := hGl.out; omega))) (fun _ => rfl)
    (fun pre X => X.heap[JB]? = some (.cells #[.int .i64 (pre.length : Int)] 3 (0, 0)) ∧ X.heap[PB + 1 + 1]? = some (.cells #[.bool false] 4 (0, 0)))
    (fun (c : Code) (pre : List {x // x ∈ G}) (X : World) => ¬ pre.map (·.1) <+: G) ?_ (fun _ => ownFrom_pure _ (fun pre : List {x // x ∈ G} => ¬ pre.map (·.1) <+: G)) ⟨hJB, hBB⟩ ?_ ?_ ?_
  · rintro pre X Y row ⟨h1, h2⟩ hg hr
    exact ⟨ownFrom_block _ JB (fun pre : List {x // x ∈ G} => .cells #[.int .i64 (pre.length : Int)] 3 (0, 0)) hJl pre X Y row h1 hg hr, ownFrom_block (β := Unit) _ (PB + 1 + 1) (fun _ => .cells #[.bool false] 4 (0, 0)) (lt_of hBB) () X Y row h2 hg hr⟩
  · intro l1 pre x W2 hJ hf
    gi_wp2
    have h0 : Fr [] W2 (W2.alloc (.cells #[.int .i64 x.val.1.1, .int .i64 x.val.1.2] 26)) := (Fr.refl [] W2).alloc _
    have hat0 := heap_new W2 (.cells #[.int .i64 x.val.1.1, .int .i64 x.val.1.2] 26)
    refine ⟨h0, ⟨h0.heap hJ.1 (by simp), h0.heap hJ.2 (by simp)⟩, ?_⟩
    have hABl : W1.heap.size ≤ W2.heap.size := hf.size
    intro l3 pre2 W3 hrel hl3 hr3 hJ3 hf3 hlt2
    have hat := hrel.block hat0
    clear hat0 hrel hJ h0 hf
    obtain ⟨AC, hACe⟩ : ∃ AC, W2.heap.size = AC := ⟨_, rfl⟩
    rw [hACe] at hat hABl ⊢
    have hL2 := hf3.heap hLB (by simp; omega)
    have hXh2 := hf3.heap hXB (by simp; omega)
    have hB3 := hJ3.2
    have k0 : W3.cell? ⟨JB, 0, none⟩ = some (.int .i64 (pre2.length : Int)) := cell_of hJ3.1 0
    have a0 : W3.cell? ⟨AC, 0, none⟩ = some (.int .i64 x.1.1.1) := cell_of hat 0
    have a1 : W3.cell? ⟨AC, 1, none⟩ = some (.int .i64 x.1.1.2) := cell_of hat 1
    have hlo2 := owns_fr hl hf3 HLN.out
    have hxo2 := owns_fr hx hf3 HXN.out
    obtain ⟨gl, cl', el, hgl, hcl⟩ := (RIs.of_owns hlo2).cell (by omega)
    obtain ⟨gx, cx', ex, hgx, hcx⟩ := (RIs.of_owns hxo2).cell (by omega)
    cases el
    cases ex
    have l0 : W3.cell? ⟨LB, 0, none⟩ = some (.slice (some ⟨gl, 0, none⟩) G.length cl) := cell_of hL2 0
    have x0 : W3.cell? ⟨XB, 0, none⟩ = some (.slice (some ⟨gx, 0, none⟩) G.length cx) := cell_of hXh2 0
    have e0 : W3.cell? ⟨gl, pre2.length * 2, none⟩ = some (.int .i64 G[pre2.length].1.1) := hcl (pre2.length * 2 + 0) _ (by rw [flat_get encA 2 (fun _ => rfl) G pre2.length 0 hlt2 (by omega)]; rfl)
    have e1 : W3.cell? ⟨gl, pre2.length * 2 + 1, none⟩ = some (.int .i64 G[pre2.length].1.2) := hcl (pre2.length * 2 + 1) _ (by rw [flat_get encA 2 (fun _ => rfl) G pre2.length 1 hlt2 (by omega)]; rfl)
    have f0 : W3.cell? ⟨gx, pre2.length, none⟩ = some (.int .i64 G[pre2.length].2) := by have := hcx (pre2.length * 1 + 0) (.int .i64 G[pre2.length].2) (by rw [flat_get encX 1 (fun _ => rfl) G pre2.length 0 hlt2 (by omega)]; rfl); simpa using this
    obtain ⟨y, hy⟩ : ∃ y, G[pre2.length] = y := ⟨_, rfl⟩
    have HY := Lib.hid hy
    rw [hy] at e0 e1 f0
    have hki : (pre2.length : Int) < (G.length : Int) := by omega
    have hk0 : (0 : Int) ≤ (pre2.length : Int) := by omega
    have hd2 : decide (G.length ≤ pre2.length) = false := by simp; omega
    have HD2 := Lib.hid hd2
    have hw1 : IntKind.i64.wrap ((pre2.length : Int) + 1) = (pre2.length : Int) + 1 := by have := hGl.out; rw [IntKind.wrap_i64]; omega
    have hA2l := lt_of hat
    have kf := free_of hJ3.1 0
    have hkl3 := lt_of hJ3.1
    have bc := cell_of hB3 0
    have bf := free_of hB3 0
    have hbl3 := lt_of hB3
    clear hy hd2 hcl hcx hlo2 hxo2
    have hpre : x.1 ≠ y → ¬ (pre2 ++ [x]).map (·.1) <+: G := fun hne hp => by
      rw [List.map_append, List.map_cons, List.map_nil] at hp
      obtain ⟨tl, htl⟩ := hp
      have h2 : ((pre2.map (·.1) ++ [x.1]) ++ tl)[pre2.length]? = some x.1 := by simp
      rw [htl] at h2
      rw [List.getElem?_eq_getElem hlt2, HY.out] at h2
      exact hne (Option.some.inj h2).symm
    have HPRE := Lib.hid hpre
    obtain ⟨⟨s, v⟩, hxm⟩ := x
    simp only at a0 a1 HPRE ⊢
    clear hpre
    by_cases hxs : s = y.1
    · subst hxs
      by_cases hxv : v = y.2
      · subst hxv
        gi_wp2_with fail
        refine region_round 20 rfl (fun u => u.cell? ⟨JB, 0, none⟩ = some (.int .i64 (pre2.length : Int)) ∧ u.cell? ⟨LB, 0, none⟩ = some (.slice (some ⟨gl, 0, none⟩) G.length cl) ∧ u.cell? ⟨XB, 0, none⟩ = some (.slice (some ⟨gx, 0, none⟩) G.length cx) ∧ u.cell? ⟨AC, 0, none⟩ = some (.int .i64 y.1.1) ∧ u.cell? ⟨AC, 1, none⟩ = some (.int .i64 y.1.2) ∧ u.cell? ⟨gl, pre2.length * 2, none⟩ = some (.int .i64 y.1.1) ∧ u.cell? ⟨gl, pre2.length * 2 + 1, none⟩ = some (.int .i64 y.1.2) ∧ u.cell? ⟨gx, pre2.length, none⟩ = some (.int .i64 y.2)) (by kernel_rfl) (by kernel_rfl) (by rintro ⟨_, _, h⟩; exact h) ?_ ?_
        · exact ⟨ce_drew k0, ce_drew l0, ce_drew x0, ce_drew a0, ce_drew a1, ce_drew e0, ce_drew e1, ce_drew f0⟩
        intro hHeld
        refine wpAnyH_take (i := 0) (v := ?_) rfl (by kernel_rfl) (by kernel_rfl) (by kernel_rfl) (fun _ _ _ h => h) (Or.inl ⟨by rfl, ?_⟩) hHeld ?_
        rotate_left
        · (intro w hSw; (try dsimp only at hSw); go_simp; try with_reducible rfl)
        try simp only [Act.put, List.getElem_toArray, List.getElem_cons_zero, List.setIfInBounds_toArray, List.set_cons_zero, List.set_cons_succ]
        refine wpAnyH_take (i := 1) (v := ?_) rfl (by kernel_rfl) (by kernel_rfl) (by kernel_rfl) (fun _ _ _ h => h) (Or.inl ⟨by rfl, ?_⟩) hHeld ?_
        rotate_left
        · (intro w hSw; (try dsimp only at hSw); go_simp; try with_reducible rfl)
        try simp only [Act.put, List.getElem_toArray, List.getElem_cons_zero, List.getElem_cons_succ, List.setIfInBounds_toArray, List.set_cons_zero, List.set_cons_succ]
        refine wpAnyH_take (i := 2) (v := ?_) rfl (by kernel_rfl) (by kernel_rfl) (by kernel_rfl) (fun _ _ _ h => h) (Or.inl ⟨by rfl, ?_⟩) hHeld ?_
        rotate_left
        · (intro w hSw; (try dsimp only at hSw); go_simp; try with_reducible rfl)
        try simp only [Act.put, List.getElem_toArray, List.getElem_cons_zero, List.getElem_cons_succ, List.setIfInBounds_toArray, List.set_cons_zero, List.set_cons_succ]
        refine wpAnyH_take (i := 3) (v := ?_) rfl (by kernel_rfl) (by kernel_rfl) (by kernel_rfl) (fun _ _ _ h => h) (Or.inl ⟨by rfl, ?_⟩) hHeld ?_
        rotate_left
        · (intro w hSw; (try dsimp only at hSw); go_simp; try with_reducible rfl)
        try simp only [Act.put, List.getElem_toArray, List.getElem_cons_zero, List.getElem_cons_succ, List.setIfInBounds_toArray, List.set_cons_zero, List.set_cons_succ]
        try simp only [HD2.out]
        refine wpAnyH_take (i := 4) (v := ?_) rfl (by kernel_rfl) (by kernel_rfl) (by kernel_rfl) (fun _ _ _ h => h) (Or.inl ⟨by rfl, ?_⟩) hHeld ?_
        rotate_left
        · (intro w hSw; (try dsimp only at hSw); go_simp; try with_reducible rfl)
        try simp only [Act.put, List.getElem_toArray, List.getElem_cons_zero, List.getElem_cons_succ, List.setIfInBounds_toArray, List.set_cons_zero, List.set_cons_succ]
        refine wpAnyH_take (i := 5) (v := ?_) rfl (by kernel_rfl) (by kernel_rfl) (by kernel_rfl) (fun _ _ _ h => h) (Or.inl ⟨by rfl, ?_⟩) hHeld ?_
        rotate_left
        · (intro w hSw; (try dsimp only at hSw); go_simp; try with_reducible rfl)
        try simp only [Act.put, List.getElem_toArray, List.getElem_cons_zero, List.getElem_cons_succ, List.setIfInBounds_toArray, List.set_cons_zero, List.set_cons_succ]
        refine wpAnyH_take (i := 6) (v := ?_) rfl (by kernel_rfl) (by kernel_rfl) (by kernel_rfl) (fun _ _ _ h => h) (Or.inl ⟨by rfl, ?_⟩) hHeld ?_
        rotate_left
        · (intro w hSw; (try dsimp only at hSw); go_simp; try with_reducible rfl)
        try simp only [Act.put, List.getElem_toArray, List.getElem_cons_zero, List.getElem_cons_succ, List.setIfInBounds_toArray, List.set_cons_zero, List.set_cons_succ]
        refine wpAnyH_take (i := 7) (v := ?_) rfl (by kernel_rfl) (by kernel_rfl) (by kernel_rfl) (fun _ _ _ h => h) (Or.inl ⟨by rfl, ?_⟩) hHeld ?_
        rotate_left
        · (intro w hSw; (try dsimp only at hSw); go_simp; try with_reducible rfl)
        try simp only [Act.put, List.getElem_toArray, List.getElem_cons_zero, List.getElem_cons_succ, List.setIfInBounds_toArray, List.set_cons_zero, List.set_cons_succ]
        refine wpAnyH_take (i := 8) (v := ?_) rfl (by kernel_rfl) (by kernel_rfl) (by kernel_rfl) (fun _ _ _ h => h) (Or.inl ⟨by rfl, ?_⟩) hHeld ?_
        rotate_left
        · (intro w hSw; (try dsimp only at hSw); go_simp; try with_reducible rfl)
        try simp only [Act.put, List.getElem_toArray, List.getElem_cons_zero, List.getElem_cons_succ, List.setIfInBounds_toArray, List.set_cons_zero, List.set_cons_succ]
        refine wpAnyH_take (i := 9) (v := ?_) rfl (by kernel_rfl) (by kernel_rfl) (by kernel_rfl) (fun _ _ _ h => h) (Or.inl ⟨by rfl, ?_⟩) hHeld ?_
        rotate_left
        · (intro w hSw; (try dsimp only at hSw); go_simp; try with_reducible rfl)
        try simp only [Act.put, List.getElem_toArray, List.getElem_cons_zero, List.getElem_cons_succ, List.setIfInBounds_toArray, List.set_cons_zero, List.set_cons_succ]
        refine wpAnyH_take (i := 10) (v := ?_) rfl (by kernel_rfl) (by kernel_rfl) (by kernel_rfl) (fun _ _ _ h => h) (Or.inl ⟨by rfl, ?_⟩) hHeld ?_
        rotate_left
        · (intro w hSw; (try dsimp only at hSw); go_simp; try with_reducible rfl)
        try simp only [Act.put, List.getElem_toArray, List.getElem_cons_zero, List.getElem_cons_succ, List.setIfInBounds_toArray, List.set_cons_zero, List.set_cons_succ]
        refine wpAnyH_take (i := 11) (v := ?_) rfl (by kernel_rfl) (by kernel_rfl) (by kernel_rfl) (fun _ _ _ h => h) (Or.inl ⟨by rfl, ?_⟩) hHeld ?_
        rotate_left
        · (intro w hSw; (try dsimp only at hSw); go_simp; try with_reducible rfl)
        try simp only [Act.put, List.getElem_toArray, List.getElem_cons_zero, List.getElem_cons_succ, List.setIfInBounds_toArray, List.set_cons_zero, List.set_cons_succ]
        refine wpAnyH_take (i := 12) (v := ?_) rfl (by kernel_rfl) (by kernel_rfl) (by kernel_rfl) (fun _ _ _ h => h) (Or.inl ⟨by rfl, ?_⟩) hHeld ?_
        rotate_left
        · (intro w hSw; (try dsimp only at hSw); go_simp; try with_reducible rfl)
        try simp only [Act.put, List.getElem_toArray, List.getElem_cons_zero, List.getElem_cons_succ, List.setIfInBounds_toArray, List.set_cons_zero, List.set_cons_succ]
        refine wpAnyH_take (i := 13) (v := ?_) rfl (by kernel_rfl) (by kernel_rfl) (by kernel_rfl) (fun _ _ _ h => h) (Or.inl ⟨by rfl, ?_⟩) hHeld ?_
        rotate_left
        · (intro w hSw; (try dsimp only at hSw); go_simp; try with_reducible rfl)
        try simp only [Act.put, List.getElem_toArray, List.getElem_cons_zero, List.getElem_cons_succ, List.setIfInBounds_toArray, List.set_cons_zero, List.set_cons_succ]
        refine wpAnyH_take (i := 14) (v := ?_) rfl (by kernel_rfl) (by kernel_rfl) (by kernel_rfl) (fun _ _ _ h => h) (Or.inl ⟨by rfl, ?_⟩) hHeld ?_
        rotate_left
        · (intro w hSw; (try dsimp only at hSw); go_simp; try with_reducible rfl)
        try simp only [Act.put, List.getElem_toArray, List.getElem_cons_zero, List.getElem_cons_succ, List.setIfInBounds_toArray, List.set_cons_zero, List.set_cons_succ]
        refine wpAnyH_take (i := 15) (v := ?_) rfl (by kernel_rfl) (by kernel_rfl) (by kernel_rfl) (fun _ _ _ h => h) (Or.inl ⟨by rfl, ?_⟩) hHeld ?_
        rotate_left
        · (intro w hSw; (try dsimp only at hSw); go_simp; try with_reducible rfl)
        try simp only [Act.put, List.getElem_toArray, List.getElem_cons_zero, List.getElem_cons_succ, List.setIfInBounds_toArray, List.set_cons_zero, List.set_cons_succ]
        refine wpAnyH_take (i := 16) (v := ?_) rfl (by kernel_rfl) (by kernel_rfl) (by kernel_rfl) (fun _ _ _ h => h) (Or.inl ⟨by rfl, ?_⟩) hHeld ?_
        rotate_left
        · (intro w hSw; (try dsimp only at hSw); go_simp; try with_reducible rfl)
        try simp only [Act.put, List.getElem_toArray, List.getElem_cons_zero, List.getElem_cons_succ, List.setIfInBounds_toArray, List.set_cons_zero, List.set_cons_succ]
        refine wpAnyH_take (i := 17) (v := ?_) rfl (by kernel_rfl) (by kernel_rfl) (by kernel_rfl) (fun _ _ _ h => h) (Or.inl ⟨by rfl, ?_⟩) hHeld ?_
        rotate_left
        · (intro w hSw; (try dsimp only at hSw); go_simp; try with_reducible rfl)
        try simp only [Act.put, List.getElem_toArray, List.getElem_cons_zero, List.getElem_cons_succ, List.setIfInBounds_toArray, List.set_cons_zero, List.set_cons_succ]
        refine wpAnyH_take (i := 18) (v := ?_) rfl (by kernel_rfl) (by kernel_rfl) (by kernel_rfl) (fun _ _ _ h => h) (Or.inl ⟨by rfl, ?_⟩) hHeld ?_
        rotate_left
        · (intro w hSw; (try dsimp only at hSw); go_simp; try with_reducible rfl)
        try simp only [Act.put, List.getElem_toArray, List.getElem_cons_zero, List.getElem_cons_succ, List.setIfInBounds_toArray, List.set_cons_zero, List.set_cons_succ]
        refine wpAnyH_take (i := 19) (v := ?_) rfl (by kernel_rfl) (by kernel_rfl) (by kernel_rfl) (fun _ _ _ h => h) (Or.inl ⟨by rfl, ?_⟩) hHeld ?_
        rotate_left
        · (intro w hSw; (try dsimp only at hSw); go_simp; try with_reducible rfl)
        try simp only [Act.put, List.getElem_toArray, List.getElem_cons_zero, List.getElem_cons_succ, List.setIfInBounds_toArray, List.set_cons_zero, List.set_cons_succ]
        refine wpAnyH_done (by kernel_rfl) ?_ _
        have kd := free_of (hp_drew hJ3.1) 0
        gi_wp2
        have hSt : (W3.setCell ⟨JB, 0, none⟩ (.int .i64 ((pre2.length : Int) + 1))).drew.heap[JB]? = some (.cells #[.int .i64 ((pre2.length : Int) + 1)] 3 (0, 0)) := set_of hJ3.1 0 (.int .i64 ((pre2.length : Int) + 1))
        have hBt := ((Fr.refl [JB] W3).setCell (p := ⟨JB, 0, none⟩) (.inl (by simp)) (.int .i64 ((pre2.length : Int) + 1))).heap hB3 (by simp; omega)
        exact ⟨((Fr.refl [JB, PB + 1 + 1] W3).setCell (.inl (by simp)) _).drew, by simpa using hSt, hBt⟩
      · have hnx := HPRE.out (fun e => hxv (by rw [← e]))
        gi_wp2_with fail
        refine region_round 20 rfl (fun u => u.cell? ⟨JB, 0, none⟩ = some (.int .i64 (pre2.length : Int)) ∧ u.cell? ⟨LB, 0, none⟩ = some (.slice (some ⟨gl, 0, none⟩) G.length cl) ∧ u.cell? ⟨XB, 0, none⟩ = some (.slice (some ⟨gx, 0, none⟩) G.length cx) ∧ u.cell? ⟨AC, 0, none⟩ = some (.int .i64 y.1.1) ∧ u.cell? ⟨AC, 1, none⟩ = some (.int .i64 y.1.2) ∧ u.cell? ⟨gl, pre2.length * 2, none⟩ = some (.int .i64 y.1.1) ∧ u.cell? ⟨gl, pre2.length * 2 + 1, none⟩ = some (.int .i64 y.1.2) ∧ u.cell? ⟨gx, pre2.length, none⟩ = some (.int .i64 y.2)) (by kernel_rfl) (by kernel_rfl) (by rintro ⟨_, _, h⟩; exact h) ?_ ?_
        · exact ⟨ce_drew k0, ce_drew l0, ce_drew x0, ce_drew a0, ce_drew a1, ce_drew e0, ce_drew e1, ce_drew f0⟩
        intro hHeld
        refine wpAnyH_take (i := 0) (v := ?_) rfl (by kernel_rfl) (by kernel_rfl) (by kernel_rfl) (fun _ _ _ h => h) (Or.inl ⟨by rfl, ?_⟩) hHeld ?_
        rotate_left
        · (intro w hSw; (try dsimp only at hSw); go_simp; try with_reducible rfl)
        try simp only [Act.put, List.getElem_toArray, List.getElem_cons_zero, List.setIfInBounds_toArray, List.set_cons_zero, List.set_cons_succ]
        refine wpAnyH_take (i := 1) (v := ?_) rfl (by kernel_rfl) (by kernel_rfl) (by kernel_rfl) (fun _ _ _ h => h) (Or.inl ⟨by rfl, ?_⟩) hHeld ?_
        rotate_left
        · (intro w hSw; (try dsimp only at hSw); go_simp; try with_reducible rfl)
        try simp only [Act.put, List.getElem_toArray, List.getElem_cons_zero, List.getElem_cons_succ, List.setIfInBounds_toArray, List.set_cons_zero, List.set_cons_succ]
        refine wpAnyH_take (i := 2) (v := ?_) rfl (by kernel_rfl) (by kernel_rfl) (by kernel_rfl) (fun _ _ _ h => h) (Or.inl ⟨by rfl, ?_⟩) hHeld ?_
        rotate_left
        · (intro w hSw; (try dsimp only at hSw); go_simp; try with_reducible rfl)
        try simp only [Act.put, List.getElem_toArray, List.getElem_cons_zero, List.getElem_cons_succ, List.setIfInBounds_toArray, List.set_cons_zero, List.set_cons_succ]
        refine wpAnyH_take (i := 3) (v := ?_) rfl (by kernel_rfl) (by kernel_rfl) (by kernel_rfl) (fun _ _ _ h => h) (Or.inl ⟨by rfl, ?_⟩) hHeld ?_
        rotate_left
        · (intro w hSw; (try dsimp only at hSw); go_simp; try with_reducible rfl)
        try simp only [Act.put, List.getElem_toArray, List.getElem_cons_zero, List.getElem_cons_succ, List.setIfInBounds_toArray, List.set_cons_zero, List.set_cons_succ]
        try simp only [HD2.out]
        refine wpAnyH_take (i := 4) (v := ?_) rfl (by kernel_rfl) (by kernel_rfl) (by kernel_rfl) (fun _ _ _ h => h) (Or.inl ⟨by rfl, ?_⟩) hHeld ?_
        rotate_left
        · (intro w hSw; (try dsimp only at hSw); go_simp; try with_reducible rfl)
        try simp only [Act.put, List.getElem_toArray, List.getElem_cons_zero, List.getElem_cons_succ, List.setIfInBounds_toArray, List.set_cons_zero, List.set_cons_succ]
        refine wpAnyH_take (i := 5) (v := ?_) rfl (by kernel_rfl) (by kernel_rfl) (by kernel_rfl) (fun _ _ _ h => h) (Or.inl ⟨by rfl, ?_⟩) hHeld ?_
        rotate_left
        · (intro w hSw; (try dsimp only at hSw); go_simp; try with_reducible rfl)
        try simp only [Act.put, List.getElem_toArray, List.getElem_cons_zero, List.getElem_cons_succ, List.setIfInBounds_toArray, List.set_cons_zero, List.set_cons_succ]
        refine wpAnyH_take (i := 6) (v := ?_) rfl (by kernel_rfl) (by kernel_rfl) (by kernel_rfl) (fun _ _ _ h => h) (Or.inl ⟨by rfl, ?_⟩) hHeld ?_
        rotate_left
        · (intro w hSw; (try dsimp only at hSw); go_simp; try with_reducible rfl)
        try simp only [Act.put, List.getElem_toArray, List.getElem_cons_zero, List.getElem_cons_succ, List.setIfInBounds_toArray, List.set_cons_zero, List.set_cons_succ]
        refine wpAnyH_take (i := 7) (v := ?_) rfl (by kernel_rfl) (by kernel_rfl) (by kernel_rfl) (fun _ _ _ h => h) (Or.inl ⟨by rfl, ?_⟩) hHeld ?_
        rotate_left
        · (intro w hSw; (try dsimp only at hSw); go_simp; try with_reducible rfl)
        try simp only [Act.put, List.getElem_toArray, List.getElem_cons_zero, List.getElem_cons_succ, List.setIfInBounds_toArray, List.set_cons_zero, List.set_cons_succ]
        refine wpAnyH_take (i := 8) (v := ?_) rfl (by kernel_rfl) (by kernel_rfl) (by kernel_rfl) (fun _ _ _ h => h) (Or.inl ⟨by rfl, ?_⟩) hHeld ?_
        rotate_left
        · (intro w hSw; (try dsimp only at hSw); go_simp; try with_reducible rfl)
        try simp only [Act.put, List.getElem_toArray, List.getElem_cons_zero, List.getElem_cons_succ, List.setIfInBounds_toArray, List.set_cons_zero, List.set_cons_succ]
        refine wpAnyH_take (i := 9) (v := ?_) rfl (by kernel_rfl) (by kernel_rfl) (by kernel_rfl) (fun _ _ _ h => h) (Or.inl ⟨by rfl, ?_⟩) hHeld ?_
        rotate_left
        · (intro w hSw; (try dsimp only at hSw); go_simp; try with_reducible rfl)
        try simp only [Act.put, List.getElem_toArray, List.getElem_cons_zero, List.getElem_cons_succ, List.setIfInBounds_toArray, List.set_cons_zero, List.set_cons_succ]
        refine wpAnyH_take (i := 10) (v := ?_) rfl (by kernel_rfl) (by kernel_rfl) (by kernel_rfl) (fun _ _ _ h => h) (Or.inl ⟨by rfl, ?_⟩) hHeld ?_
        rotate_left
        · (intro w hSw; (try dsimp only at hSw); go_simp; try with_reducible rfl)
        try simp only [Act.put, List.getElem_toArray, List.getElem_cons_zero, List.getElem_cons_succ, List.setIfInBounds_toArray, List.set_cons_zero, List.set_cons_succ]
        refine wpAnyH_take (i := 11) (v := ?_) rfl (by kernel_rfl) (by kernel_rfl) (by kernel_rfl) (fun _ _ _ h => h) (Or.inl ⟨by rfl, ?_⟩) hHeld ?_
        rotate_left
        · (intro w hSw; (try dsimp only at hSw); go_simp; try with_reducible rfl)
        try simp only [Act.put, List.getElem_toArray, List.getElem_cons_zero, List.getElem_cons_succ, List.setIfInBounds_toArray, List.set_cons_zero, List.set_cons_succ]
        refine wpAnyH_take (i := 12) (v := ?_) rfl (by kernel_rfl) (by kernel_rfl) (by kernel_rfl) (fun _ _ _ h => h) (Or.inl ⟨by rfl, ?_⟩) hHeld ?_
        rotate_left
        · (intro w hSw; (try dsimp only at hSw); go_simp; try with_reducible rfl)
        try simp only [Act.put, List.getElem_toArray, List.getElem_cons_zero, List.getElem_cons_succ, List.setIfInBounds_toArray, List.set_cons_zero, List.set_cons_succ]
        refine wpAnyH_take (i := 13) (v := ?_) rfl (by kernel_rfl) (by kernel_rfl) (by kernel_rfl) (fun _ _ _ h => h) (Or.inl ⟨by rfl, ?_⟩) hHeld ?_
        rotate_left
        · (intro w hSw; (try dsimp only at hSw); go_simp; try with_reducible rfl)
        try simp only [Act.put, List.getElem_toArray, List.getElem_cons_zero, List.getElem_cons_succ, List.setIfInBounds_toArray, List.set_cons_zero, List.set_cons_succ]
        refine wpAnyH_take (i := 14) (v := ?_) rfl (by kernel_rfl) (by kernel_rfl) (by kernel_rfl) (fun _ _ _ h => h) (Or.inl ⟨by rfl, ?_⟩) hHeld ?_
        rotate_left
        · (intro w hSw; (try dsimp only at hSw); go_simp; try with_reducible rfl)
        try simp only [Act.put, List.getElem_toArray, List.getElem_cons_zero, List.getElem_cons_succ, List.setIfInBounds_toArray, List.set_cons_zero, List.set_cons_succ]
        refine wpAnyH_take (i := 15) (v := ?_) rfl (by kernel_rfl) (by kernel_rfl) (by kernel_rfl) (fun _ _ _ h => h) (Or.inl ⟨by rfl, ?_⟩) hHeld ?_
        rotate_left
        · (intro w hSw; (try dsimp only at hSw); go_simp; try with_reducible rfl)
        try simp only [Act.put, List.getElem_toArray, List.getElem_cons_zero, List.getElem_cons_succ, List.setIfInBounds_toArray, List.set_cons_zero, List.set_cons_succ]
        refine wpAnyH_take (i := 16) (v := ?_) rfl (by kernel_rfl) (by kernel_rfl) (by kernel_rfl) (fun _ _ _ h => h) (Or.inl ⟨by rfl, ?_⟩) hHeld ?_
        rotate_left
        · (intro w hSw; (try dsimp only at hSw); go_simp; try with_reducible rfl)
        try simp only [Act.put, List.getElem_toArray, List.getElem_cons_zero, List.getElem_cons_succ, List.setIfInBounds_toArray, List.set_cons_zero, List.set_cons_succ]
        refine wpAnyH_take (i := 17) (v := ?_) rfl (by kernel_rfl) (by kernel_rfl) (by kernel_rfl) (fun _ _ _ h => h) (Or.inl ⟨by rfl, ?_⟩) hHeld ?_
        rotate_left
        · (intro w hSw; (try dsimp only at hSw); go_simp; try with_reducible rfl)
        try simp only [Act.put, List.getElem_toArray, List.getElem_cons_zero, List.getElem_cons_succ, List.setIfInBounds_toArray, List.set_cons_zero, List.set_cons_succ]
        refine wpAnyH_take (i := 18) (v := ?_) rfl (by kernel_rfl) (by kernel_rfl) (by kernel_rfl) (fun _ _ _ h => h) (Or.inl ⟨by rfl, ?_⟩) hHeld ?_
        rotate_left
        · (intro w hSw; (try dsimp only at hSw); go_simp; try with_reducible rfl)
        try simp only [Act.put, List.getElem_toArray, List.getElem_cons_zero, List.getElem_cons_succ, List.setIfInBounds_toArray, List.set_cons_zero, List.set_cons_succ]
        refine wpAnyH_take (i := 19) (v := ?_) rfl (by kernel_rfl) (by kernel_rfl) (by kernel_rfl) (fun _ _ _ h => h) (Or.inl ⟨by rfl, ?_⟩) hHeld ?_
        rotate_left
        · (intro w hSw; (try dsimp only at hSw); go_simp; try with_reducible rfl)
        try simp only [Act.put, List.getElem_toArray, List.getElem_cons_zero, List.getElem_cons_succ, List.setIfInBounds_toArray, List.set_cons_zero, List.set_cons_succ]
        refine wpAnyH_done (by kernel_rfl) ?_ _
        gi_wp2
        exact ⟨((Fr.refl [JB, PB + 1 + 1] W3).setCell (.inl (by simp)) _).drew, hnx⟩
    · have hnx := HPRE.out (fun e => hxs (by rw [← e]))
      have h4 : (¬ s.1 = y.1.1) ∨ (s.1 = y.1.1 ∧ ¬ s.2 = y.1.2) := by
        by_cases h1 : s.1 = y.1.1
        · exact .inr ⟨h1, fun h2 => hxs (Prod.ext h1 h2)⟩
        · exact .inl h1
      clear hxs
      rcases h4 with h1 | ⟨h1, h2⟩
      all_goals
        gi_wp2_with fail
        refine region_round 20 rfl (fun u => u.cell? ⟨JB, 0, none⟩ = some (.int .i64 (pre2.length : Int)) ∧ u.cell? ⟨LB, 0, none⟩ = some (.slice (some ⟨gl, 0, none⟩) G.length cl) ∧ u.cell? ⟨XB, 0, none⟩ = some (.slice (some ⟨gx, 0, none⟩) G.length cx) ∧ u.cell? ⟨AC, 0, none⟩ = some (.int .i64 s.1) ∧ u.cell? ⟨AC, 1, none⟩ = some (.int .i64 s.2) ∧ u.cell? ⟨gl, pre2.length * 2, none⟩ = some (.int .i64 y.1.1) ∧ u.cell? ⟨gl, pre2.length * 2 + 1, none⟩ = some (.int .i64 y.1.2) ∧ u.cell? ⟨gx, pre2.length, none⟩ = some (.int .i64 y.2)) (by kernel_rfl) (by kernel_rfl) (by rintro ⟨_, _, h⟩; exact h) ?_ ?_
        · exact ⟨ce_drew k0, ce_drew l0, ce_drew x0, ce_drew a0, ce_drew a1, ce_drew e0, ce_drew e1, ce_drew f0⟩
        intro hHeld
        refine wpAnyH_take (i := 0) (v := ?_) rfl (by kernel_rfl) (by kernel_rfl) (by kernel_rfl) (fun _ _ _ h => h) (Or.inl ⟨by rfl, ?_⟩) hHeld ?_
        rotate_left
        · (intro w hSw; (try dsimp only at hSw); go_simp; try with_reducible rfl)
        try simp only [Act.put, List.getElem_toArray, List.getElem_cons_zero, List.setIfInBounds_toArray, List.set_cons_zero, List.set_cons_succ]
        refine wpAnyH_take (i := 1) (v := ?_) rfl (by kernel_rfl) (by kernel_rfl) (by kernel_rfl) (fun _ _ _ h => h) (Or.inl ⟨by rfl, ?_⟩) hHeld ?_
        rotate_left
        · (intro w hSw; (try dsimp only at hSw); go_simp; try with_reducible rfl)
        try simp only [Act.put, List.getElem_toArray, List.getElem_cons_zero, List.getElem_cons_succ, List.setIfInBounds_toArray, List.set_cons_zero, List.set_cons_succ]
        refine wpAnyH_take (i := 2) (v := ?_) rfl (by kernel_rfl) (by kernel_rfl) (by kernel_rfl) (fun _ _ _ h => h) (Or.inl ⟨by rfl, ?_⟩) hHeld ?_
        rotate_left
        · (intro w hSw; (try dsimp only at hSw); go_simp; try with_reducible rfl)
        try simp only [Act.put, List.getElem_toArray, List.getElem_cons_zero, List.getElem_cons_succ, List.setIfInBounds_toArray, List.set_cons_zero, List.set_cons_succ]
        refine wpAnyH_take (i := 3) (v := ?_) rfl (by kernel_rfl) (by kernel_rfl) (by kernel_rfl) (fun _ _ _ h => h) (Or.inl ⟨by rfl, ?_⟩) hHeld ?_
        rotate_left
        · (intro w hSw; (try dsimp only at hSw); go_simp; try with_reducible rfl)
        try simp only [Act.put, List.getElem_toArray, List.getElem_cons_zero, List.getElem_cons_succ, List.setIfInBounds_toArray, List.set_cons_zero, List.set_cons_succ]
        try simp only [HD2.out]
        refine wpAnyH_take (i := 4) (v := ?_) rfl (by kernel_rfl) (by kernel_rfl) (by kernel_rfl) (fun _ _ _ h => h) (Or.inl ⟨by rfl, ?_⟩) hHeld ?_
        rotate_left
        · (intro w hSw; (try dsimp only at hSw); go_simp; try with_reducible rfl)
        try simp only [Act.put, List.getElem_toArray, List.getElem_cons_zero, List.getElem_cons_succ, List.setIfInBounds_toArray, List.set_cons_zero, List.set_cons_succ]
        refine wpAnyH_take (i := 5) (v := ?_) rfl (by kernel_rfl) (by kernel_rfl) (by kernel_rfl) (fun _ _ _ h => h) (Or.inl ⟨by rfl, ?_⟩) hHeld ?_
        rotate_left
        · (intro w hSw; (try dsimp only at hSw); go_simp; try with_reducible rfl)
        try simp only [Act.put, List.getElem_toArray, List.getElem_cons_zero, List.getElem_cons_succ, List.setIfInBounds_toArray, List.set_cons_zero, List.set_cons_succ]
        refine wpAnyH_take (i := 6) (v := ?_) rfl (by kernel_rfl) (by kernel_rfl) (by kernel_rfl) (fun _ _ _ h => h) (Or.inl ⟨by rfl, ?_⟩) hHeld ?_
        rotate_left
        · (intro w hSw; (try dsimp only at hSw); go_simp; try with_reducible rfl)
        try simp only [Act.put, List.getElem_toArray, List.getElem_cons_zero, List.getElem_cons_succ, List.setIfInBounds_toArray, List.set_cons_zero, List.set_cons_succ]
        refine wpAnyH_take (i := 7) (v := ?_) rfl (by kernel_rfl) (by kernel_rfl) (by kernel_rfl) (fun _ _ _ h => h) (Or.inl ⟨by rfl, ?_⟩) hHeld ?_
        rotate_left
        · (intro w hSw; (try dsimp only at hSw); go_simp; try with_reducible rfl)
        try simp only [Act.put, List.getElem_toArray, List.getElem_cons_zero, List.getElem_cons_succ, List.setIfInBounds_toArray, List.set_cons_zero, List.set_cons_succ]
        refine wpAnyH_take (i := 8) (v := ?_) rfl (by kernel_rfl) (by kernel_rfl) (by kernel_rfl) (fun _ _ _ h => h) (Or.inl ⟨by rfl, ?_⟩) hHeld ?_
        rotate_left
        · (intro w hSw; (try dsimp only at hSw); go_simp; try with_reducible rfl)
        try simp only [Act.put, List.getElem_toArray, List.getElem_cons_zero, List.getElem_cons_succ, List.setIfInBounds_toArray, List.set_cons_zero, List.set_cons_succ]
        refine wpAnyH_take (i := 9) (v := ?_) rfl (by kernel_rfl) (by kernel_rfl) (by kernel_rfl) (fun _ _ _ h => h) (Or.inl ⟨by rfl, ?_⟩) hHeld ?_
        rotate_left
        · (intro w hSw; (try dsimp only at hSw); go_simp; try with_reducible rfl)
        try simp only [Act.put, List.getElem_toArray, List.getElem_cons_zero, List.getElem_cons_succ, List.setIfInBounds_toArray, List.set_cons_zero, List.set_cons_succ]
        refine wpAnyH_take (i := 10) (v := ?_) rfl (by kernel_rfl) (by kernel_rfl) (by kernel_rfl) (fun _ _ _ h => h) (Or.inl ⟨by rfl, ?_⟩) hHeld ?_
        rotate_left
        · (intro w hSw; (try dsimp only at hSw); go_simp; try with_reducible rfl)
        try simp only [Act.put, List.getElem_toArray, List.getElem_cons_zero, List.getElem_cons_succ, List.setIfInBounds_toArray, List.set_cons_zero, List.set_cons_succ]
        refine wpAnyH_take (i := 11) (v := ?_) rfl (by kernel_rfl) (by kernel_rfl) (by kernel_rfl) (fun _ _ _ h => h) (Or.inl ⟨by rfl, ?_⟩) hHeld ?_
        rotate_left
        · (intro w hSw; (try dsimp only at hSw); go_simp; try with_reducible rfl)
        try simp only [Act.put, List.getElem_toArray, List.getElem_cons_zero, List.getElem_cons_succ, List.setIfInBounds_toArray, List.set_cons_zero, List.set_cons_succ]
        refine wpAnyH_take (i := 12) (v := ?_) rfl (by kernel_rfl) (by kernel_rfl) (by kernel_rfl) (fun _ _ _ h => h) (Or.inl ⟨by rfl, ?_⟩) hHeld ?_
        rotate_left
        · (intro w hSw; (try dsimp only at hSw); go_simp; try with_reducible rfl)
        try simp only [Act.put, List.getElem_toArray, List.getElem_cons_zero, List.getElem_cons_succ, List.setIfInBounds_toArray, List.set_cons_zero, List.set_cons_succ]
        refine wpAnyH_take (i := 13) (v := undef) rfl (by kernel_rfl) (by kernel_rfl) (by kernel_rfl) (fun _ _ _ h => h) (Or.inr ⟨by rfl, rfl⟩) hHeld ?_
        try simp only [Act.put, List.getElem_toArray, List.getElem_cons_zero, List.getElem_cons_succ, List.setIfInBounds_toArray, List.set_cons_zero, List.set_cons_succ]
        refine wpAnyH_take (i := 14) (v := undef) rfl (by kernel_rfl) (by kernel_rfl) (by kernel_rfl) (fun _ _ _ h => h) (Or.inr ⟨by rfl, rfl⟩) hHeld ?_
        try simp only [Act.put, List.getElem_toArray, List.getElem_cons_zero, List.getElem_cons_succ, List.setIfInBounds_toArray, List.set_cons_zero, List.set_cons_succ]
        refine wpAnyH_take (i := 15) (v := undef) rfl (by kernel_rfl) (by kernel_rfl) (by kernel_rfl) (fun _ _ _ h => h) (Or.inr ⟨by rfl, rfl⟩) hHeld ?_
        try simp only [Act.put, List.getElem_toArray, List.getElem_cons_zero, List.getElem_cons_succ, List.setIfInBounds_toArray, List.set_cons_zero, List.set_cons_succ]
        refine wpAnyH_take (i := 16) (v := undef) rfl (by kernel_rfl) (by kernel_rfl) (by kernel_rfl) (fun _ _ _ h => h) (Or.inr ⟨by rfl, rfl⟩) hHeld ?_
        try simp only [Act.put, List.getElem_toArray, List.getElem_cons_zero, List.getElem_cons_succ, List.setIfInBounds_toArray, List.set_cons_zero, List.set_cons_succ]
        refine wpAnyH_take (i := 17) (v := undef) rfl (by kernel_rfl) (by kernel_rfl) (by kernel_rfl) (fun _ _ _ h => h) (Or.inr ⟨by rfl, rfl⟩) hHeld ?_
        try simp only [Act.put, List.getElem_toArray, List.getElem_cons_zero, List.getElem_cons_succ, List.setIfInBounds_toArray, List.set_cons_zero, List.set_cons_succ]
        refine wpAnyH_take (i := 18) (v := undef) rfl (by kernel_rfl) (by kernel_rfl) (by kernel_rfl) (fun _ _ _ h => h) (Or.inr ⟨by rfl, rfl⟩) hHeld ?_
        try simp only [Act.put, List.getElem_toArray, List.getElem_cons_zero, List.getElem_cons_succ, List.setIfInBounds_toArray, List.set_cons_zero, List.set_cons_succ]
        refine wpAnyH_take (i := 19) (v := ?_) rfl (by kernel_rfl) (by kernel_rfl) (by kernel_rfl) (fun _ _ _ h => h) (Or.inl ⟨by rfl, ?_⟩) hHeld ?_
        rotate_left
        · (intro w hSw; (try dsimp only at hSw); go_simp; try with_reducible rfl)
        try simp only [Act.put, List.getElem_toArray, List.getElem_cons_zero, List.getElem_cons_succ, List.setIfInBounds_toArray, List.set_cons_zero, List.set_cons_succ]
        refine wpAnyH_done (by kernel_rfl) ?_ _
        gi_wp2
        exact ⟨((Fr.refl [JB, PB + 1 + 1] W3).setCell (.inl (by simp)) _).drew, hnx⟩
  · intro xs X hT hJ hF
    have e : xs.length = G.length := by
      have := congrArg List.length (show xs.map (·.1) = G from hT)
      rwa [List.length_map] at this
    rw [e] at hJ
    have j0 := cell_of hJ.1 0
    have l0 := cell_of (hF.heap hLB (by simp; omega)) 0
    gi_wp2
    exact HDONE.out _ _ _ _ _ _ _ _ _ _ _ _ _ _ _ _ _ _ _ _ _ _ _ _ _ _ _ _ _ _ _ _ _ (Fr.dropB (((h1.mono (by simp)) : Fr [PB + 1 + 1] W W1).trans hF (by simp; omega)) (hJ.2.trans HBB.out.symm))
  · intro c pre X hTp hx hK
    exact absurd hTp hx
end Go.Proofs.Ytldppdafgbipjaa
