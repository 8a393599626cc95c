/-
  quadrillelaw7's (*pair).goes: what is taken away and set within a round.
-/
import Derived.Test.YtldppdafgbipjaaGoesT
namespace Go.Proofs.Ytldppdafgbipjaa
open Go.RowKit Go.Shelf
attribute [local go_sem] Oper.semAt_some

/-- Q, but never at a panic. -/
def NP (Q : Exit → Act → World → Prop) : Exit → Act → World → Prop
  | .normal, a, w => Q .normal a w
  | .ret, a, w => Q .ret a w
  | .exit i, a, w => Q (.exit i) a w
  | .goto t, a, w => Q (.goto t) a w
  | .panic _, _, _ => False
  | .outgrown, _, _ => False
theorem NP.imp {Q : Exit → Act → World → Prop} : ∀ e a w, NP Q e a w → Q e a w := fun e a w h => by
  cases e with
  | panic => exact h.elim
  | outgrown => exact h.elim
  | _ => exact h
theorem ceS {S : List Nat} {w w1 : World} {b i : Nat} {v : Value} (hf : Fr S w w1) (hn : b ∉ S) (h : w.cell? ⟨b, i, none⟩ = some v) : w1.cell? ⟨b, i, none⟩ = some v := (hf.cell (p := ⟨b, i, none⟩) (World.block_lt_of_cell? w ⟨b, i, none⟩ h) hn).trans h
theorem Fr.keepsF {S : List Nat} {B : Nat} {w w1 : World} (h : Fr S w w1) (hS : ∀ k ∈ S, k < B) : KeepsFrom B w w1 := h.keepsFrom hS

theorem rdropT (rb : Nat) (vA vX : Value) (R : List (Sp × Int)) (s : Sp) (w : World) (h : RIn w rb vA vX R R) (hR : Srt R) (hl : R.length ≤ 65536) :
    Calls Try.prog 74 #[.pointer (some ⟨rb, 0, none⟩), spV s] w fun e w1 => (∃ b, e = .returned (.bool b)) ∧ ∃ vA' vX', RIn w1 rb vA' vX' (refD s R) (refD s R) ∧ Turns rb vA vX w vA' vX' w1 := by
  refine (drop7 rb vA vX R s w h hR hl).mono ?_
  rintro e w1 ⟨he, vA', vX', hk, ht⟩
  refine ⟨⟨_, he⟩, vA', vX', ?_, ht⟩
  unfold refD
  split
  · rename_i hg
    rw [if_pos hg] at hk
    exact hk
  · rename_i hg
    rw [if_neg hg] at hk
    exact hk

set_option maxRecDepth 100000 in
set_option maxHeartbeats 3200000 in
theorem goesTurn (l2 n : Nat) (pb tb mb rb PB LB XB FB VB KB AB Bd : Nat) (o : Op7) (y : Sp × Int) (vA vX : Value) (l R : List (Sp × Int)) (k : Nat) (hk : Hid (k < 65536)) (X : World) {z0 z1 z11 z12 z13 z14 z15 z16 z17 z18 z19 z20 z21 z22 z23 z24 z25 z26 z27 z28 z29 z30 z31 z32 z33 z34 z35 z36 z37 z38 z39 z40 z41 z42 z43 z44 z45 z46 z47 z48 z49 z50 z51 z52 z53 z54 z55 z56 z57 z58 z59 z60 z61 z62 z63 z64 z65 z66 z67 z68 z69 z70 z71 z72 z73 z74 z75 z76 z77 z78 z79 z80 z81 z82 z83 z84 z85 z86 z87 z88 z89 z90 z91 z92 z93 z94 z95 z96 z97 z98 z99 z100 z101 z102 z103 z104 z105 z106 z107 z108 z109 z110 z111 z112 z113 z114 z115 z116 z117 z118 z119 z120 z121 z122 z123 z124 z125 z126 z127 z128 z129 z130 z131 z132 z133 z134 z135 z136 z137 z138 z139 z140 z141 z142 z143 z144 z145 z146 z147 z148 z149 z150 z151 z152 z153 z154 z155 z156 z157 z158 z159 z160 z161 z162 z163 z164 z165 z166 z167 z168 z169 z170 z171 z172 z173 z174 z175 z176 z177 z178 z179 z180 z181 z182 z183 z184 z185 z186 z187 z188 z189 z190 z191 : Value} (Q : Exit → Act → World → Prop)
    (hX : TX X tb mb rb vA vX l R) (htb : tb < Bd) (hmb : mb < Bd)
    (p0 : X.cell? ⟨PB, 0, none⟩ = some (.pointer (some ⟨pb, 0, none⟩))) (pt : X.cell? ⟨pb, 0, none⟩ = some (.pointer (some ⟨tb, 0, none⟩))) (pr : X.cell? ⟨pb, 1, none⟩ = some (.pointer (some ⟨rb, 0, none⟩)))
    (o1 : X.cell? ⟨PB + 1, 1, none⟩ = some (.int .i64 o.s.1)) (o2 : X.cell? ⟨PB + 1, 2, none⟩ = some (.int .i64 o.s.2)) (k0 : X.cell? ⟨KB, 0, none⟩ = some (.int .i64 (k : Int)))
    (a0 : X.cell? ⟨AB, 0, none⟩ = some (.int .i64 y.1.1)) (a1 : X.cell? ⟨AB, 1, none⟩ = some (.int .i64 y.1.2))
    (hn : ∀ b ∈ [pb, PB, PB + 1, KB, AB], b ∉ tb :: mb :: rBl rb vA vX)
    (hdone : ∀ (s12 s13 s95 s96 s97 s98 s99 s100 s101 s102 s103 s104 s105 s106 s107 s108 s109 s110 s111 s112 s113 s114 s115 s116 s117 s118 s119 s120 s121 s122 s123 s124 s125 s126 s127 : Value) (X' : World) (vA' vX' : Value) (l' R' : List (Sp × Int)), TX X' tb mb rb vA' vX' l' R' → KeepsFrom Bd X X' → Fr (tb :: mb :: rBl rb vA vX) X X' → (∀ g ∈ rBl rb vA' vX', g ∈ rBl rb vA vX ∨ X.heap.size ≤ g) → Q .normal { tmps := #[z0, z1, .pointer (some ⟨PB, 0, none⟩), .pointer (some ⟨(PB + 1), 0, none⟩), .pointer (some ⟨(PB + 1 + 1), 0, none⟩), .pointer (some ⟨LB, 0, none⟩), .pointer (some ⟨XB, 0, none⟩), .pointer (some ⟨FB, 0, none⟩), .pointer (some ⟨VB, 0, none⟩), .pointer (some ⟨KB, 0, none⟩), .pointer (some ⟨AB, 0, none⟩), z11, s12, s13, z14, z15, z16, z17, z18, z19, z20, z21, z22, z23, z24, z25, z26, z27, z28, z29, z30, z31, z32, z33, z34, z35, z36, z37, z38, z39, z40, z41, z42, z43, z44, z45, z46, z47, z48, z49, z50, z51, z52, z53, z54, z55, z56, z57, z58, z59, z60, z61, z62, z63, z64, z65, z66, z67, z68, z69, z70, z71, z72, z73, z74, z75, z76, z77, z78, z79, z80, z81, z82, z83, z84, z85, z86, z87, z88, z89, z90, z91, z92, z93, z94, s95, s96, s97, s98, s99, s100, s101, s102, s103, s104, s105, s106, s107, s108, s109, s110, s111, s112, s113, s114, s115, s116, s117, s118, s119, s120, s121, s122, s123, s124, s125, s126, s127, z128, z129, z130, z131, z132, z133, z134, z135, z136, z137, z138, z139, z140, z141, z142, z143, z144, z145, z146, z147, z148, z149, z150, z151, z152, z153, z154, z155, z156, z157, z158, z159, z160, z161, z162, z163, z164, z165, z166, z167, z168, z169, z170, z171, z172, z173, z174, z175, z176, z177, z178, z179, z180, z181, z182, z183, z184, z185, z186, z187, z188, z189, z190, z191], defers := [] } X') :
    (subC [1, 1, 1, 1, 1, 0, 1, 0, 0, 1, 0, 0, 1, 0, 1, 0, 2, 0, 1, 0, 1, 2] (Try.f23.body.getD .skip)).wpIn (Fence.wide.inRound l2) n Try.prog (NP Q) { tmps := #[z0, z1, .pointer (some ⟨PB, 0, none⟩), .pointer (some ⟨(PB + 1), 0, none⟩), .pointer (some ⟨(PB + 1 + 1), 0, none⟩), .pointer (some ⟨LB, 0, none⟩), .pointer (some ⟨XB, 0, none⟩), .pointer (some ⟨FB, 0, none⟩), .pointer (some ⟨VB, 0, none⟩), .pointer (some ⟨KB, 0, none⟩), .pointer (some ⟨AB, 0, none⟩), z11, z12, z13, z14, z15, z16, z17, z18, z19, z20, z21, z22, z23, z24, z25, z26, z27, z28, z29, z30, z31, z32, z33, z34, z35, z36, z37, z38, z39, z40, z41, z42, z43, z44, z45, z46, z47, z48, z49, z50, z51, z52, z53, z54, z55, z56, z57, z58, z59, z60, z61, z62, z63, z64, z65, z66, z67, z68, z69, z70, z71, z72, z73, z74, z75, z76, z77, z78, z79, z80, z81, z82, z83, z84, z85, z86, z87, z88, z89, z90, z91, z92, z93, z94, z95, z96, z97, z98, z99, z100, z101, z102, z103, z104, z105, z106, z107, z108, z109, z110, z111, z112, z113, z114, z115, z116, z117, z118, z119, z120, z121, z122, z123, z124, z125, z126, z127, z128, z129, z130, z131, z132, z133, z134, z135, z136, z137, z138, z139, z140, z141, z142, z143, z144, z145, z146, z147, z148, z149, z150, z151, z152, z153, z154, z155, z156, z157, z158, z159, z160, z161, z162, z163, z164, z165, z166, z167, z168, z169, z170, z171, z172, z173, z174, z175, z176, z177, z178, z179, z180, z181, z182, z183, z184, z185, z186, z187, z188, z189, z190, z191], defers := [] } X := by
  show ((Code.region 18 _ _).seq ((Code.region 19 _ _).seq ((Code.region 20 _ _).seq ((Code.region 21 _ _).seq _)))).wpIn _ _ _ _ _ _
  have HX := Lib.hid hX
  have HN := Lib.hid hn
  have HDONE := Lib.hid hdone
  have hw7 : IntKind.i64.wrap (7000 + (k : Int)) = 7000 + (k : Int) := by have := hk.out; rw [IntKind.wrap_i64]; omega
  have hap := Lib.hid (TR.apart hX.tab hX.ref)
  have nT : ∀ b ∈ [pb, PB, PB + 1, KB, AB], b ∉ [tb, mb] := fun b hb hm => hn b hb (by simp at hm; rcases hm with rfl | rfl <;> simp)
  have NT := Lib.hid nT
  have hNd := hX.tab.nodup
  have HND := Lib.hid hNd
  clear hX hn hdone nT hNd
  gi_wp2_with fail
  refine region_round 6 rfl (fun u => u.cell? ⟨PB, 0, none⟩ = some (.pointer (some ⟨pb, 0, none⟩)) ∧ u.cell? ⟨pb, 0, none⟩ = some (.pointer (some ⟨tb, 0, none⟩)) ∧ u.cell? ⟨pb, 1, none⟩ = some (.pointer (some ⟨rb, 0, none⟩)) ∧ u.cell? ⟨PB + 1, 1, none⟩ = some (.int .i64 o.s.1) ∧ u.cell? ⟨PB + 1, 2, none⟩ = some (.int .i64 o.s.2) ∧ u.cell? ⟨KB, 0, none⟩ = some (.int .i64 (k : Int)) ∧ u.cell? ⟨AB, 0, none⟩ = some (.int .i64 y.1.1) ∧ u.cell? ⟨AB, 1, none⟩ = some (.int .i64 y.1.2)) (by kernel_rfl) (by kernel_rfl) (by rintro ⟨_, _, h⟩; exact h) ?_ ?_
  · exact ⟨ce_drew p0, ce_drew pt, ce_drew pr, ce_drew o1, ce_drew o2, ce_drew k0, ce_drew a0, ce_drew a1⟩
  intro hHeld
  refine wpAnyH_take (i := 0) (v := ?_) rfl (by kernel_rfl) (by kernel_rfl) (by kernel_rfl) (fun _ _ _ h => h) (Or.inl ⟨by rfl, ?_⟩) hHeld ?_
  rotate_left
  · (intro w hSw; (try dsimp only at hSw); go_simp; try with_reducible rfl)
  try simp only [Act.put, List.getElem_toArray, List.getElem_cons_zero, List.setIfInBounds_toArray, List.set_cons_zero, List.set_cons_succ]
  refine wpAnyH_take (i := 1) (v := ?_) rfl (by kernel_rfl) (by kernel_rfl) (by kernel_rfl) (fun _ _ _ h => h) (Or.inl ⟨by rfl, ?_⟩) hHeld ?_
  rotate_left
  · (intro w hSw; (try dsimp only at hSw); go_simp; try with_reducible rfl)
  try simp only [Act.put, List.getElem_toArray, List.getElem_cons_zero, List.getElem_cons_succ, List.setIfInBounds_toArray, List.set_cons_zero, List.set_cons_succ]
  refine wpAnyH_take (i := 2) (v := ?_) rfl (by kernel_rfl) (by kernel_rfl) (by kernel_rfl) (fun _ _ _ h => h) (Or.inl ⟨by rfl, ?_⟩) hHeld ?_
  rotate_left
  · (intro w hSw; (try dsimp only at hSw); go_simp; try with_reducible rfl)
  try simp only [Act.put, List.getElem_toArray, List.getElem_cons_zero, List.getElem_cons_succ, List.setIfInBounds_toArray, List.set_cons_zero, List.set_cons_succ]
  refine wpAnyH_take (i := 3) (v := ?_) rfl (by kernel_rfl) (by kernel_rfl) (by kernel_rfl) (fun _ _ _ h => h) (Or.inl ⟨by rfl, ?_⟩) hHeld ?_
  rotate_left
  · (intro w hSw; (try dsimp only at hSw); go_simp; try with_reducible rfl)
  try simp only [Act.put, List.getElem_toArray, List.getElem_cons_zero, List.getElem_cons_succ, List.setIfInBounds_toArray, List.set_cons_zero, List.set_cons_succ]
  refine wpAnyH_take (i := 4) (v := ?_) rfl (by kernel_rfl) (by kernel_rfl) (by kernel_rfl) (fun _ _ _ h => h) (Or.inl ⟨by rfl, ?_⟩) hHeld ?_
  rotate_left
  · (intro w hSw; (try dsimp only at hSw); go_simp; try with_reducible rfl)
  try simp only [Act.put, List.getElem_toArray, List.getElem_cons_zero, List.getElem_cons_succ, List.setIfInBounds_toArray, List.set_cons_zero, List.set_cons_succ]
  refine wpAnyH_ready (rs := [5]) (by kernel_rfl) (by simp) ?_
  refine AllReadyH.cons rfl (fun K hK => ?_) AllReadyH.nil
  go_simp
  refine (drop_int tb mb y.1 l _ (HX.out.tab.fr ((Fr.refl [] X).drew) (by simp) (by simp))).mono ?_
  rintro e w1 ⟨rfl, hT1, hC1⟩
  refine hK.out _ _ ?_ (fun hHeld => ?_)
  · exact ⟨ceS hC1 (NT.out _ (by simp)) (ce_drew p0), ceS hC1 (NT.out _ (by simp)) (ce_drew pt), ceS hC1 (NT.out _ (by simp)) (ce_drew pr), ceS hC1 (NT.out _ (by simp)) (ce_drew o1), ceS hC1 (NT.out _ (by simp)) (ce_drew o2), ceS hC1 (NT.out _ (by simp)) (ce_drew k0), ceS hC1 (NT.out _ (by simp)) (ce_drew a0), ceS hC1 (NT.out _ (by simp)) (ce_drew a1)⟩
  clear hK K
  try simp only [Act.put, List.getElem_toArray, List.getElem_cons_zero, List.getElem_cons_succ, List.setIfInBounds_toArray, List.set_cons_zero, List.set_cons_succ]
  refine wpAnyH_done (by kernel_rfl) ?_ _
  have hD1 : Fr [tb, mb] X w1 := ((Fr.refl [tb, mb] X).drew).transS hC1
  have HPT := Lib.hid pt
  have HP0 := Lib.hid p0
  have HO1 := Lib.hid o1
  have HK0 := Lib.hid k0
  have HA0 := Lib.hid a0
  have p0 := ceS hD1 (NT.out _ (by simp)) p0
  have pt := ceS hD1 (NT.out _ (by simp)) pt
  have pr := ceS hD1 (NT.out _ (by simp)) pr
  have o1 := ceS hD1 (NT.out _ (by simp)) o1
  have o2 := ceS hD1 (NT.out _ (by simp)) o2
  have k0 := ceS hD1 (NT.out _ (by simp)) k0
  have a0 := ceS hD1 (NT.out _ (by simp)) a0
  have a1 := ceS hD1 (NT.out _ (by simp)) a1
  have HT1 := Lib.hid hT1
  have HR1 := Lib.hid (HX.out.ref.frS hD1 hap.out)
  have hlR : R.length ≤ 65536 := by rw [HX.out.asc.len]; exact HX.out.le
  have HLR := Lib.hid hlR
  have nR : ∀ b ∈ [pb, PB, PB + 1, KB, AB], b ∉ rBl rb vA vX := fun b hb hm => HN.out b hb (List.mem_cons_of_mem _ (List.mem_cons_of_mem _ hm))
  have NR := Lib.hid nR
  have hlt1 : ∀ b ∈ [pb, PB, PB + 1, KB, AB], b < X.heap.size := by
    intro b hb
    simp only [List.mem_cons, List.not_mem_nil, or_false] at hb
    rcases hb with rfl | rfl | rfl | rfl | rfl
    · exact World.block_lt_of_cell? X _ HPT.out
    · exact World.block_lt_of_cell? X _ HP0.out
    · exact World.block_lt_of_cell? X _ HO1.out
    · exact World.block_lt_of_cell? X _ HK0.out
    · exact World.block_lt_of_cell? X _ HA0.out
  have HLT := Lib.hid hlt1
  clear hT1 hC1 hlR nR hlt1
  gi_wp2_with fail
  refine region_round 6 rfl (fun u => u.cell? ⟨PB, 0, none⟩ = some (.pointer (some ⟨pb, 0, none⟩)) ∧ u.cell? ⟨pb, 0, none⟩ = some (.pointer (some ⟨tb, 0, none⟩)) ∧ u.cell? ⟨pb, 1, none⟩ = some (.pointer (some ⟨rb, 0, none⟩)) ∧ u.cell? ⟨PB + 1, 1, none⟩ = some (.int .i64 o.s.1) ∧ u.cell? ⟨PB + 1, 2, none⟩ = some (.int .i64 o.s.2) ∧ u.cell? ⟨KB, 0, none⟩ = some (.int .i64 (k : Int)) ∧ u.cell? ⟨AB, 0, none⟩ = some (.int .i64 y.1.1) ∧ u.cell? ⟨AB, 1, none⟩ = some (.int .i64 y.1.2)) (by kernel_rfl) (by kernel_rfl) (by rintro ⟨_, _, h⟩; exact h) ?_ ?_
  · exact ⟨ce_drew p0, ce_drew pt, ce_drew pr, ce_drew o1, ce_drew o2, ce_drew k0, ce_drew a0, ce_drew a1⟩
  intro hHeld
  refine wpAnyH_take (i := 0) (v := ?_) rfl (by kernel_rfl) (by kernel_rfl) (by kernel_rfl) (fun _ _ _ h => h) (Or.inl ⟨by rfl, ?_⟩) hHeld ?_
  rotate_left
  · (intro w hSw; (try dsimp only at hSw); go_simp; try with_reducible rfl)
  try simp only [Act.put, List.getElem_toArray, List.getElem_cons_zero, List.setIfInBounds_toArray, List.set_cons_zero, List.set_cons_succ]
  refine wpAnyH_take (i := 1) (v := ?_) rfl (by kernel_rfl) (by kernel_rfl) (by kernel_rfl) (fun _ _ _ h => h) (Or.inl ⟨by rfl, ?_⟩) hHeld ?_
  rotate_left
  · (intro w hSw; (try dsimp only at hSw); go_simp; try with_reducible rfl)
  try simp only [Act.put, List.getElem_toArray, List.getElem_cons_zero, List.getElem_cons_succ, List.setIfInBounds_toArray, List.set_cons_zero, List.set_cons_succ]
  refine wpAnyH_take (i := 2) (v := ?_) rfl (by kernel_rfl) (by kernel_rfl) (by kernel_rfl) (fun _ _ _ h => h) (Or.inl ⟨by rfl, ?_⟩) hHeld ?_
  rotate_left
  · (intro w hSw; (try dsimp only at hSw); go_simp; try with_reducible rfl)
  try simp only [Act.put, List.getElem_toArray, List.getElem_cons_zero, List.getElem_cons_succ, List.setIfInBounds_toArray, List.set_cons_zero, List.set_cons_succ]
  refine wpAnyH_take (i := 3) (v := ?_) rfl (by kernel_rfl) (by kernel_rfl) (by kernel_rfl) (fun _ _ _ h => h) (Or.inl ⟨by rfl, ?_⟩) hHeld ?_
  rotate_left
  · (intro w hSw; (try dsimp only at hSw); go_simp; try with_reducible rfl)
  try simp only [Act.put, List.getElem_toArray, List.getElem_cons_zero, List.getElem_cons_succ, List.setIfInBounds_toArray, List.set_cons_zero, List.set_cons_succ]
  refine wpAnyH_take (i := 4) (v := ?_) rfl (by kernel_rfl) (by kernel_rfl) (by kernel_rfl) (fun _ _ _ h => h) (Or.inl ⟨by rfl, ?_⟩) hHeld ?_
  rotate_left
  · (intro w hSw; (try dsimp only at hSw); go_simp; try with_reducible rfl)
  try simp only [Act.put, List.getElem_toArray, List.getElem_cons_zero, List.getElem_cons_succ, List.setIfInBounds_toArray, List.set_cons_zero, List.set_cons_succ]
  refine wpAnyH_ready (rs := [5]) (by kernel_rfl) (by simp) ?_
  refine AllReadyH.cons rfl (fun K hK => ?_) AllReadyH.nil
  go_simp
  refine (rdropT rb vA vX R y.1 _ (HR1.out.fr ((Fr.refl [] w1).drew)) HX.out.asc.srt HLR.out).mono ?_
  rintro e w2 ⟨⟨bb, rfl⟩, vA2, vX2, hR2, hC2⟩
  refine hK.out _ _ ?_ (fun hHeld => ?_)
  · exact ⟨ceS hC2.1 (NR.out _ (by simp)) (ce_drew p0), ceS hC2.1 (NR.out _ (by simp)) (ce_drew pt), ceS hC2.1 (NR.out _ (by simp)) (ce_drew pr), ceS hC2.1 (NR.out _ (by simp)) (ce_drew o1), ceS hC2.1 (NR.out _ (by simp)) (ce_drew o2), ceS hC2.1 (NR.out _ (by simp)) (ce_drew k0), ceS hC2.1 (NR.out _ (by simp)) (ce_drew a0), ceS hC2.1 (NR.out _ (by simp)) (ce_drew a1)⟩
  clear hK K
  try simp only [Act.put, List.getElem_toArray, List.getElem_cons_zero, List.getElem_cons_succ, List.setIfInBounds_toArray, List.set_cons_zero, List.set_cons_succ]
  refine wpAnyH_done (by kernel_rfl) ?_ _
  have hD2 : Fr (rBl rb vA vX) w1 w2 := ((Fr.refl _ w1).drew).transS hC2.1
  have p0 := ceS hD2 (NR.out _ (by simp)) p0
  have pt := ceS hD2 (NR.out _ (by simp)) pt
  have pr := ceS hD2 (NR.out _ (by simp)) pr
  have o1 := ceS hD2 (NR.out _ (by simp)) o1
  have o2 := ceS hD2 (NR.out _ (by simp)) o2
  have k0 := ceS hD2 (NR.out _ (by simp)) k0
  have a0 := ceS hD2 (NR.out _ (by simp)) a0
  have a1 := ceS hD2 (NR.out _ (by simp)) a1
  have HR2 := Lib.hid hR2
  have HC2 := Lib.hid hC2
  have HT2 := Lib.hid (HT1.out.fr hD2 (fun hm => hap.out _ hm (by simp)) (fun hm => hap.out _ hm (by simp)))
  have HAS := Lib.hid (HX.out.asc.delD HND.out y.1)
  have HLE := Lib.hid (delS_len y.1 HX.out.le)
  have HND2 := Lib.hid (delS_nodup (s := y.1) HND.out)
  have hap2 := Lib.hid (TR.apart HT2.out HR2.out)
  obtain ⟨l3, hl3⟩ : ∃ l3, delS y.1 l = l3 := ⟨_, rfl⟩
  obtain ⟨R3, hR3⟩ : ∃ R3, refD y.1 R = R3 := ⟨_, rfl⟩
  rw [hl3] at HT2 HAS HLE HND2
  rw [hR3] at HR2 HAS
  have hz1 := hD1.size
  have hz2 := hD2.size
  have N2 := Lib.hid (show ∀ b ∈ [pb, PB, PB + 1, KB, AB], b ∉ rBl rb vA2 vX2 from fun b hb hm => by
    rcases HC2.out.2 b hm with h | h
    · exact NR.out b hb h
    · have h3 := HLT.out b hb
      have h4 : w1.heap.size ≤ b := h
      omega)
  clear hR2 hC2 hl3 hR3
  obtain ⟨E, hE⟩ : ∃ E, setE o.s l3 = E := ⟨_, rfl⟩
  have HE := Lib.hid hE
  have HE2 := Lib.hid (show setE o.s R3 = E by rw [HAS.out.setE]; exact hE)
  clear hE
  gi_wp2_with fail
  refine region_round 10 rfl (fun u => u.cell? ⟨PB, 0, none⟩ = some (.pointer (some ⟨pb, 0, none⟩)) ∧ u.cell? ⟨pb, 0, none⟩ = some (.pointer (some ⟨tb, 0, none⟩)) ∧ u.cell? ⟨pb, 1, none⟩ = some (.pointer (some ⟨rb, 0, none⟩)) ∧ u.cell? ⟨PB + 1, 1, none⟩ = some (.int .i64 o.s.1) ∧ u.cell? ⟨PB + 1, 2, none⟩ = some (.int .i64 o.s.2) ∧ u.cell? ⟨KB, 0, none⟩ = some (.int .i64 (k : Int)) ∧ u.cell? ⟨AB, 0, none⟩ = some (.int .i64 y.1.1) ∧ u.cell? ⟨AB, 1, none⟩ = some (.int .i64 y.1.2)) (by kernel_rfl) (by kernel_rfl) (by rintro ⟨_, _, h⟩; exact h) ?_ ?_
  · exact ⟨ce_drew p0, ce_drew pt, ce_drew pr, ce_drew o1, ce_drew o2, ce_drew k0, ce_drew a0, ce_drew a1⟩
  intro hHeld
  refine wpAnyH_take (i := 0) (v := ?_) rfl (by kernel_rfl) (by kernel_rfl) (by kernel_rfl) (fun _ _ _ h => h) (Or.inl ⟨by rfl, ?_⟩) hHeld ?_
  rotate_left
  · (intro w hSw; (try dsimp only at hSw); go_simp; try with_reducible rfl)
  try simp only [Act.put, List.getElem_toArray, List.getElem_cons_zero, List.setIfInBounds_toArray, List.set_cons_zero, List.set_cons_succ]
  refine wpAnyH_take (i := 1) (v := ?_) rfl (by kernel_rfl) (by kernel_rfl) (by kernel_rfl) (fun _ _ _ h => h) (Or.inl ⟨by rfl, ?_⟩) hHeld ?_
  rotate_left
  · (intro w hSw; (try dsimp only at hSw); go_simp; try with_reducible rfl)
  try simp only [Act.put, List.getElem_toArray, List.getElem_cons_zero, List.getElem_cons_succ, List.setIfInBounds_toArray, List.set_cons_zero, List.set_cons_succ]
  refine wpAnyH_take (i := 2) (v := ?_) rfl (by kernel_rfl) (by kernel_rfl) (by kernel_rfl) (fun _ _ _ h => h) (Or.inl ⟨by rfl, ?_⟩) hHeld ?_
  rotate_left
  · (intro w hSw; (try dsimp only at hSw); go_simp; try with_reducible rfl)
  try simp only [Act.put, List.getElem_toArray, List.getElem_cons_zero, List.getElem_cons_succ, List.setIfInBounds_toArray, List.set_cons_zero, List.set_cons_succ]
  refine wpAnyH_take (i := 3) (v := ?_) rfl (by kernel_rfl) (by kernel_rfl) (by kernel_rfl) (fun _ _ _ h => h) (Or.inl ⟨by rfl, ?_⟩) hHeld ?_
  rotate_left
  · (intro w hSw; (try dsimp only at hSw); go_simp; try with_reducible rfl)
  try simp only [Act.put, List.getElem_toArray, List.getElem_cons_zero, List.getElem_cons_succ, List.setIfInBounds_toArray, List.set_cons_zero, List.set_cons_succ]
  refine wpAnyH_take (i := 4) (v := ?_) rfl (by kernel_rfl) (by kernel_rfl) (by kernel_rfl) (fun _ _ _ h => h) (Or.inl ⟨by rfl, ?_⟩) hHeld ?_
  rotate_left
  · (intro w hSw; (try dsimp only at hSw); go_simp; try with_reducible rfl)
  try simp only [Act.put, List.getElem_toArray, List.getElem_cons_zero, List.getElem_cons_succ, List.setIfInBounds_toArray, List.set_cons_zero, List.set_cons_succ]
  refine wpAnyH_take (i := 5) (v := ?_) rfl (by kernel_rfl) (by kernel_rfl) (by kernel_rfl) (fun _ _ _ h => h) (Or.inl ⟨by rfl, ?_⟩) hHeld ?_
  rotate_left
  · (intro w hSw; (try dsimp only at hSw); go_simp; try with_reducible rfl)
  try simp only [Act.put, List.getElem_toArray, List.getElem_cons_zero, List.getElem_cons_succ, List.setIfInBounds_toArray, List.set_cons_zero, List.set_cons_succ]
  refine wpAnyH_take (i := 6) (v := ?_) rfl (by kernel_rfl) (by kernel_rfl) (by kernel_rfl) (fun _ _ _ h => h) (Or.inl ⟨by rfl, ?_⟩) hHeld ?_
  rotate_left
  · (intro w hSw; (try dsimp only at hSw); go_simp; try with_reducible rfl)
  try simp only [Act.put, List.getElem_toArray, List.getElem_cons_zero, List.getElem_cons_succ, List.setIfInBounds_toArray, List.set_cons_zero, List.set_cons_succ]
  refine wpAnyH_take (i := 7) (v := ?_) rfl (by kernel_rfl) (by kernel_rfl) (by kernel_rfl) (fun _ _ _ h => h) (Or.inl ⟨by rfl, ?_⟩) hHeld ?_
  rotate_left
  · (intro w hSw; (try dsimp only at hSw); go_simp; try with_reducible rfl)
  try simp only [Act.put, List.getElem_toArray, List.getElem_cons_zero, List.getElem_cons_succ, List.setIfInBounds_toArray, List.set_cons_zero, List.set_cons_succ]
  refine wpAnyH_ready (rs := [8]) (by kernel_rfl) (by simp) ?_
  refine AllReadyH.cons rfl (fun K hK => ?_) AllReadyH.nil
  go_simp
  refine (set_int tb mb o.s (7000 + (k : Int)) l3 _ (HT2.out.fr ((Fr.refl [] w2).drew) (by simp) (by simp))).mono ?_
  rw [HE.out]
  rintro e w3 ⟨rfl, hT3, hC3⟩
  refine hK.out _ _ ?_ (fun hHeld => ?_)
  · exact ⟨ceS hC3 (NT.out _ (by simp)) (ce_drew p0), ceS hC3 (NT.out _ (by simp)) (ce_drew pt), ceS hC3 (NT.out _ (by simp)) (ce_drew pr), ceS hC3 (NT.out _ (by simp)) (ce_drew o1), ceS hC3 (NT.out _ (by simp)) (ce_drew o2), ceS hC3 (NT.out _ (by simp)) (ce_drew k0), ceS hC3 (NT.out _ (by simp)) (ce_drew a0), ceS hC3 (NT.out _ (by simp)) (ce_drew a1)⟩
  clear hK K
  try simp only [Act.put, List.getElem_toArray, List.getElem_cons_zero, List.getElem_cons_succ, List.setIfInBounds_toArray, List.set_cons_zero, List.set_cons_succ]
  refine wpAnyH_take (i := 9) (v := ?_) rfl (by kernel_rfl) (by kernel_rfl) (by kernel_rfl) (fun _ _ _ h => h) (Or.inl ⟨by rfl, ?_⟩) hHeld ?_
  rotate_left
  · (intro w hSw; (try dsimp only at hSw); go_simp; try with_reducible rfl)
  try simp only [Act.put, List.getElem_toArray, List.getElem_cons_zero, List.getElem_cons_succ, List.setIfInBounds_toArray, List.set_cons_zero, List.set_cons_succ]
  refine wpAnyH_done (by kernel_rfl) ?_ _
  have hD3 : Fr [tb, mb] w2 w3 := ((Fr.refl [tb, mb] w2).drew).transS hC3
  have p0 := ceS hD3 (NT.out _ (by simp)) p0
  have pt := ceS hD3 (NT.out _ (by simp)) pt
  have pr := ceS hD3 (NT.out _ (by simp)) pr
  have o1 := ceS hD3 (NT.out _ (by simp)) o1
  have o2 := ceS hD3 (NT.out _ (by simp)) o2
  have k0 := ceS hD3 (NT.out _ (by simp)) k0
  have a0 := ceS hD3 (NT.out _ (by simp)) a0
  have a1 := ceS hD3 (NT.out _ (by simp)) a1
  have HT3 := Lib.hid hT3
  have HR3 := Lib.hid (HR2.out.frS hD3 hap2.out)
  have HLR3 := Lib.hid (show R3.length ≤ 65536 by rw [HAS.out.len]; exact HLE.out)
  clear hT3 hC3
  gi_wp2_with fail
  refine region_round 10 rfl (fun u => u.cell? ⟨PB, 0, none⟩ = some (.pointer (some ⟨pb, 0, none⟩)) ∧ u.cell? ⟨pb, 0, none⟩ = some (.pointer (some ⟨tb, 0, none⟩)) ∧ u.cell? ⟨pb, 1, none⟩ = some (.pointer (some ⟨rb, 0, none⟩)) ∧ u.cell? ⟨PB + 1, 1, none⟩ = some (.int .i64 o.s.1) ∧ u.cell? ⟨PB + 1, 2, none⟩ = some (.int .i64 o.s.2) ∧ u.cell? ⟨KB, 0, none⟩ = some (.int .i64 (k : Int)) ∧ u.cell? ⟨AB, 0, none⟩ = some (.int .i64 y.1.1) ∧ u.cell? ⟨AB, 1, none⟩ = some (.int .i64 y.1.2)) (by kernel_rfl) (by kernel_rfl) (by rintro ⟨_, _, h⟩; exact h) ?_ ?_
  · exact ⟨ce_drew p0, ce_drew pt, ce_drew pr, ce_drew o1, ce_drew o2, ce_drew k0, ce_drew a0, ce_drew a1⟩
  intro hHeld
  refine wpAnyH_take (i := 0) (v := ?_) rfl (by kernel_rfl) (by kernel_rfl) (by kernel_rfl) (fun _ _ _ h => h) (Or.inl ⟨by rfl, ?_⟩) hHeld ?_
  rotate_left
  · (intro w hSw; (try dsimp only at hSw); go_simp; try with_reducible rfl)
  try simp only [Act.put, List.getElem_toArray, List.getElem_cons_zero, List.setIfInBounds_toArray, List.set_cons_zero, List.set_cons_succ]
  refine wpAnyH_take (i := 1) (v := ?_) rfl (by kernel_rfl) (by kernel_rfl) (by kernel_rfl) (fun _ _ _ h => h) (Or.inl ⟨by rfl, ?_⟩) hHeld ?_
  rotate_left
  · (intro w hSw; (try dsimp only at hSw); go_simp; try with_reducible rfl)
  try simp only [Act.put, List.getElem_toArray, List.getElem_cons_zero, List.getElem_cons_succ, List.setIfInBounds_toArray, List.set_cons_zero, List.set_cons_succ]
  refine wpAnyH_take (i := 2) (v := ?_) rfl (by kernel_rfl) (by kernel_rfl) (by kernel_rfl) (fun _ _ _ h => h) (Or.inl ⟨by rfl, ?_⟩) hHeld ?_
  rotate_left
  · (intro w hSw; (try dsimp only at hSw); go_simp; try with_reducible rfl)
  try simp only [Act.put, List.getElem_toArray, List.getElem_cons_zero, List.getElem_cons_succ, List.setIfInBounds_toArray, List.set_cons_zero, List.set_cons_succ]
  refine wpAnyH_take (i := 3) (v := ?_) rfl (by kernel_rfl) (by kernel_rfl) (by kernel_rfl) (fun _ _ _ h => h) (Or.inl ⟨by rfl, ?_⟩) hHeld ?_
  rotate_left
  · (intro w hSw; (try dsimp only at hSw); go_simp; try with_reducible rfl)
  try simp only [Act.put, List.getElem_toArray, List.getElem_cons_zero, List.getElem_cons_succ, List.setIfInBounds_toArray, List.set_cons_zero, List.set_cons_succ]
  refine wpAnyH_take (i := 4) (v := ?_) rfl (by kernel_rfl) (by kernel_rfl) (by kernel_rfl) (fun _ _ _ h => h) (Or.inl ⟨by rfl, ?_⟩) hHeld ?_
  rotate_left
  · (intro w hSw; (try dsimp only at hSw); go_simp; try with_reducible rfl)
  try simp only [Act.put, List.getElem_toArray, List.getElem_cons_zero, List.getElem_cons_succ, List.setIfInBounds_toArray, List.set_cons_zero, List.set_cons_succ]
  refine wpAnyH_take (i := 5) (v := ?_) rfl (by kernel_rfl) (by kernel_rfl) (by kernel_rfl) (fun _ _ _ h => h) (Or.inl ⟨by rfl, ?_⟩) hHeld ?_
  rotate_left
  · (intro w hSw; (try dsimp only at hSw); go_simp; try with_reducible rfl)
  try simp only [Act.put, List.getElem_toArray, List.getElem_cons_zero, List.getElem_cons_succ, List.setIfInBounds_toArray, List.set_cons_zero, List.set_cons_succ]
  refine wpAnyH_take (i := 6) (v := ?_) rfl (by kernel_rfl) (by kernel_rfl) (by kernel_rfl) (fun _ _ _ h => h) (Or.inl ⟨by rfl, ?_⟩) hHeld ?_
  rotate_left
  · (intro w hSw; (try dsimp only at hSw); go_simp; try with_reducible rfl)
  try simp only [Act.put, List.getElem_toArray, List.getElem_cons_zero, List.getElem_cons_succ, List.setIfInBounds_toArray, List.set_cons_zero, List.set_cons_succ]
  refine wpAnyH_take (i := 7) (v := ?_) rfl (by kernel_rfl) (by kernel_rfl) (by kernel_rfl) (fun _ _ _ h => h) (Or.inl ⟨by rfl, ?_⟩) hHeld ?_
  rotate_left
  · (intro w hSw; (try dsimp only at hSw); go_simp; try with_reducible rfl)
  try simp only [Act.put, List.getElem_toArray, List.getElem_cons_zero, List.getElem_cons_succ, List.setIfInBounds_toArray, List.set_cons_zero, List.set_cons_succ]
  refine wpAnyH_ready (rs := [8]) (by kernel_rfl) (by simp) ?_
  refine AllReadyH.cons rfl (fun K hK => ?_) AllReadyH.nil
  go_simp
  refine (set7 rb vA2 vX2 R3 o.s (7000 + (k : Int)) _ (HR3.out.fr ((Fr.refl [] w3).drew)) HAS.out.srt HLR3.out).mono ?_
  rw [HE2.out]
  rintro e w4 ⟨rfl, vA4, vX4, hR4, hC4⟩
  refine hK.out _ _ ?_ (fun hHeld => ?_)
  · exact ⟨ceS hC4.1 (N2.out _ (by simp)) (ce_drew p0), ceS hC4.1 (N2.out _ (by simp)) (ce_drew pt), ceS hC4.1 (N2.out _ (by simp)) (ce_drew pr), ceS hC4.1 (N2.out _ (by simp)) (ce_drew o1), ceS hC4.1 (N2.out _ (by simp)) (ce_drew o2), ceS hC4.1 (N2.out _ (by simp)) (ce_drew k0), ceS hC4.1 (N2.out _ (by simp)) (ce_drew a0), ceS hC4.1 (N2.out _ (by simp)) (ce_drew a1)⟩
  clear hK K
  try simp only [Act.put, List.getElem_toArray, List.getElem_cons_zero, List.getElem_cons_succ, List.setIfInBounds_toArray, List.set_cons_zero, List.set_cons_succ]
  refine wpAnyH_take (i := 9) (v := ?_) rfl (by kernel_rfl) (by kernel_rfl) (by kernel_rfl) (fun _ _ _ h => h) (Or.inl ⟨by rfl, ?_⟩) hHeld ?_
  rotate_left
  · (intro w hSw; (try dsimp only at hSw); go_simp; try with_reducible rfl)
  try simp only [Act.put, List.getElem_toArray, List.getElem_cons_zero, List.getElem_cons_succ, List.setIfInBounds_toArray, List.set_cons_zero, List.set_cons_succ]
  refine wpAnyH_done (by kernel_rfl) ?_ _
  have hD4 : Fr (rBl rb vA2 vX2) w3 w4 := ((Fr.refl _ w3).drew).transS hC4.1
  have HR4 := Lib.hid hR4
  have HC4 := Lib.hid hC4
  have HT4 := Lib.hid (HT3.out.fr hD4 (fun hm => hap2.out _ hm (by simp)) (fun hm => hap2.out _ hm (by simp)))
  clear hR4 hC4 p0 pt pr o1 o2 k0 a0 a1
  gi_wp2_with fail
  refine HDONE.out _ _ _ _ _ _ _ _ _ _ _ _ _ _ _ _ _ _ _ _ _ _ _ _ _ _ _ _ _ _ _ _ _ _ _ w4 vA4 vX4 _ _ ⟨HT4.out, HR4.out, HAS.out.setL o.s _, setL_len HLE.out⟩ ?_ ?_ ?_
  · have b1 : ∀ k ∈ [tb, mb], k < Bd := fun k hk => by simp at hk; rcases hk with rfl | rfl <;> assumption
    exact (((hD1.keepsFrom b1).trans (keeps_turns HR1.out hD2)).trans (hD3.keepsFrom b1)).trans (keeps_turns HR3.out hD4)
  · have s1 : Fr (tb :: mb :: rBl rb vA vX) X w1 := hD1.mono (fun k hk => .inl (by simp at hk; rcases hk with rfl | rfl <;> simp))
    have s2 : Fr (tb :: mb :: rBl rb vA vX) w1 w2 := hD2.mono (fun k hk => .inl (by simp [hk]))
    have s3 : Fr (tb :: mb :: rBl rb vA vX) w2 w3 := hD3.mono (fun k hk => .inl (by simp at hk; rcases hk with rfl | rfl <;> simp))
    refine ((s1.transS s2).transS s3).trans hD4 (fun k hk => ?_)
    rcases HC2.out.2 k hk with h | h
    · exact .inl (by simp [h])
    · exact .inr (Nat.le_trans hz1 h)
  · intro g hg
    rcases HC4.out.2 g hg with h | h
    · rcases HC2.out.2 g h with h | h
      · exact .inl h
      · exact .inr (Nat.le_trans hz1 h)
    · have h5 : w3.heap.size ≤ g := h
      have h6 := hD3.size
      exact .inr (by omega)

theorem TX.frS {S : List Nat} {w w1 : World} {tb mb rb : Nat} {vA vX : Value} {l R : List (Sp × Int)} (h : TX w tb mb rb vA vX l R) (hf : Fr S w w1) (hS : ∀ g ∈ tb :: mb :: rBl rb vA vX, g ∉ S) : TX w1 tb mb rb vA vX l R :=
  ⟨h.tab.fr hf (hS tb (by simp)) (hS mb (by simp)), h.ref.frS hf (fun g hg => hS g (by simp [hg])), h.asc, h.le⟩

/-- What a round owes at its end. -/
theorem roundEnd {KB tb mb rb : Nat} {vA vX vA2 vX2 vA' vX' : Value} {l' R' : List (Sp × Int)} {W W2 X' : World} {k : Nat} (hkW : KB < W.heap.size) (hf2 : Fr (KB :: tb :: mb :: rBl rb vA vX) W W2) (hS2 : ∀ g ∈ rBl rb vA2 vX2, g ∈ rBl rb vA vX ∨ W.heap.size ≤ g)
    (hKS : KB ∉ tb :: mb :: rBl rb vA vX) (hX' : TX X' tb mb rb vA' vX' l' R') (hKF : KeepsFrom W.heap.size W2 X') (hFr : Fr (tb :: mb :: rBl rb vA2 vX2) W2 X') (hB' : ∀ g ∈ rBl rb vA' vX', g ∈ rBl rb vA2 vX2 ∨ W2.heap.size ≤ g)
    (hKX : X'.heap[KB]? = some (.cells #[.int .i64 (k : Int)] 3 (0, 0))) :
    KeepsFrom W.heap.size W2 (X'.setCell ⟨KB, 0, none⟩ (.int .i64 ((k : Int) + 1))) ∧ Kept W.heap.size (KB :: tb :: mb :: rBl rb vA vX) W2 (X'.setCell ⟨KB, 0, none⟩ (.int .i64 ((k : Int) + 1))) ∧
      JG KB tb mb rb vA vX W.heap.size (k + 1) (X'.setCell ⟨KB, 0, none⟩ (.int .i64 ((k : Int) + 1))) ∧ Fr (KB :: tb :: mb :: rBl rb vA vX) W (X'.setCell ⟨KB, 0, none⟩ (.int .i64 ((k : Int) + 1))) := by
  have hs : Fr [KB] X' (X'.setCell ⟨KB, 0, none⟩ (.int .i64 ((k : Int) + 1))) := (Fr.refl _ X').setCell (.inl (by simp)) _
  have hz2 := hf2.size
  have hK2 : KB ∉ rBl rb vA2 vX2 := fun hm => by
    rcases hS2 KB hm with h | h
    · exact hKS (by simp [h])
    · omega
  have hK' : ∀ g ∈ tb :: mb :: rBl rb vA' vX', g ∉ [KB] := fun g hg hm => by
    rw [List.mem_singleton] at hm
    subst hm
    simp only [List.mem_cons] at hg hKS
    rcases hg with h | h | h
    · exact hKS (.inl h)
    · exact hKS (.inr (.inl h))
    · rcases hB' g h with h | h
      · exact hK2 h
      · omega
  have hall : Fr (KB :: tb :: mb :: rBl rb vA2 vX2) W2 (X'.setCell ⟨KB, 0, none⟩ (.int .i64 ((k : Int) + 1))) := (hFr.mono (fun g hg => .inl (List.mem_cons_of_mem _ hg))).trans hs (fun g hg => by simp at hg; subst hg; exact .inl (by simp))
  refine ⟨hKF.trans (hs.keepsFrom (by simpa using hkW)), ⟨hall.os, hall.tape, hall.output, hall.size, fun b hb hn => hall.block b (by omega) (fun hm => ?_)⟩, ⟨?_, vA', vX', l', R', hX'.frS hs hK', fun g hg => ?_⟩, hf2.trans hall (fun g hg => ?_)⟩
  · simp only [List.mem_cons] at hm hn
    rcases hm with h | h | h | h
    · exact hn (.inl h)
    · exact hn (.inr (.inl h))
    · exact hn (.inr (.inr (.inl h)))
    · rcases hS2 b h with h | h
      · exact hn (.inr (.inr (.inr h)))
      · omega
  · have := set_of hKX 0 (.int .i64 ((k : Int) + 1))
    simpa using this
  · rcases hB' g hg with h | h
    · exact hS2 g h
    · exact .inr (by omega)
  · simp only [List.mem_cons] at hg ⊢
    rcases hg with h | h | h | h
    · exact .inl (.inl h)
    · exact .inl (.inr (.inl h))
    · exact .inl (.inr (.inr (.inl h)))
    · rcases hS2 g h with h | h
      · exact .inl (.inr (.inr (.inr h)))
      · exact .inr h
end Go.Proofs.Ytldppdafgbipjaa
