/-
  quadrillelaw21.begun answers true.
-/
import Derived.Test.YtdlpbpohbkcafaaGreatCUtil
import Derived.Test.YtdlpbpohbkcafaaGreatBegP
import Derived.Test.YtdlpbpohbkcafaaGreatCRingT
import Derived.Test.YtdlpbpohbkcafaaGreatCOrdB
import Derived.Test.YtdlpbpohbkcafaaGreatCLeadB
namespace Go.Proofs.YtdlpbpohbkcafaaGreat
open Go.RowKit Go.Shelf Go.Sort Go.Proofs

/-- What is known of a world: it has grown out of these, and these blocks lie there. -/
structure Kn (us : List World) (w : World) (l : List (Nat × Array Value × TypeId)) : Prop where
  fr : ∀ u ∈ us, Fr [] u w
  at' : ∀ x ∈ l, w.heap[x.1]? = some (.cells x.2.1 x.2.2 (0, 0))
theorem Kn.start (w : World) : Kn [w] w [] := ⟨fun u hu => by rw [List.mem_singleton] at hu; rw [hu]; exact Fr.refl _ _, by simp⟩
theorem Kn.mark {us : List World} {w : World} {l : List (Nat × Array Value × TypeId)} (h : Kn us w l) : Kn (w :: us) w [] := ⟨fun u hu => by
  rcases List.mem_cons.1 hu with rfl | hu
  · exact Fr.refl _ _
  · exact h.fr u hu, by simp⟩
theorem Kn.call {us : List World} {w w1 : World} {l : List (Nat × Array Value × TypeId)} (h : Kn us w l) (hf : Fr [] w w1) : Kn us w1 l := ⟨fun u hu => (h.fr u hu).trans0 hf, fun x hx => hf.heap (h.at' x hx) (by simp)⟩
theorem Kn.new {us : List World} {w : World} {l : List (Nat × Array Value × TypeId)} (h : Kn us w l) (c : Array Value) (t : TypeId) : Kn us (w.alloc (.cells c t)) ((w.heap.size, c, t) :: l) := ⟨fun u hu => (h.fr u hu).alloc _, fun x hx => by
  rcases List.mem_cons.1 hx with rfl | hx
  · exact heap_new w _
  · exact hp_old (h.at' x hx)⟩
theorem rowsS_of {w : World} {B B2 : Nat} {sv : Value} {vs : List Value} {ls : List (List Sp)} (h : w.ownsRow B tS 1 sv vs.length vs) (ht : Told B2 w vs ls) : RowsS w sv ls :=
  ⟨vs, ht.len, own_sl h, fun i h1 h2 => own_sl (ht.at' i h1 h2)⟩
def wantL : List Lx := [⟨(0, 0), true, 1, (0, 1)⟩, ⟨(0, 1), true, 0, (0, 1)⟩, ⟨(0, 2), true, 0, (0, 1)⟩]
theorem begL {G : Dg} (h0 : leadOf G 0 = ⟨true, 1, 1⟩) (h1 : leadOf G 1 = ⟨true, 0, 1⟩) (h2 : leadOf G 2 = ⟨true, 0, 1⟩) : leadsC [(0, 0), (0, 1), (0, 2)] G = wantL.flatMap lxC := by
  unfold leadsC
  rw [show List.range ([(0, 0), (0, 1), (0, 2)] : List Sp).length = [0, 1, 2] from rfl]
  simp only [List.flatMap_cons, List.flatMap_nil, h0, h1, h2]
  rfl
set_option maxRecDepth 100000 in
set_option maxHeartbeats 6400000 in
theorem begun21 (w : World) : Calls Tryz.prog 5 #[] w fun e w1 => e = .returned (.bool true) ∧ Fr [] w w1 := by
  have hK := Kn.start w
  go_enter Tryz.func5, Tryz.ntmps5
  go_wp2_with fail
  refine (atC 0 _).mono ?_
  rintro e w1 ⟨rfl, h1⟩
  replace hK := hK.call h1
  clear h1
  go_wp2_with fail
  refine (nodeC 1 _ _ _ _).mono ?_
  rintro e w2 ⟨rfl, h2⟩
  replace hK := (hK.new #[.int .i64 0, .int .i64 0] tSp).call h2
  clear h2
  generalize w1.heap.size = A2 at *
  go_wp2_with fail
  refine (atC 1 _).mono ?_
  rintro e w3 ⟨rfl, h3⟩
  replace hK := hK.call h3
  clear h3
  go_wp2_with fail
  refine (nodeC 0 _ _ _ _).mono ?_
  rintro e w4 ⟨rfl, h4⟩
  replace hK := (hK.new #[.int .i64 0, .int .i64 1] tSp).call h4
  clear h4
  generalize w3.heap.size = A4 at *
  go_wp2_with fail
  refine (atC 0 _).mono ?_
  rintro e w5 ⟨rfl, h5⟩
  replace hK := hK.call h5
  clear h5
  go_wp2_with fail
  refine (nodeC 2 _ _ _ _).mono ?_
  rintro e w6 ⟨rfl, h6⟩
  replace hK := (hK.new #[.int .i64 0, .int .i64 0] tSp).call h6
  clear h6
  generalize w5.heap.size = A6 at *
  go_wp2_with fail
  have hN1 : NodesAt (w6.alloc (.cells #[.int .i64 0, .int .i64 1, .slice (some ⟨A2, 0, none⟩) 1 1, .int .i64 0, .int .i64 0, .slice (some ⟨A4, 0, none⟩) 1 1, .int .i64 0, .int .i64 2, .slice (some ⟨A6, 0, none⟩) 1 1] tNd)) (.slice (some ⟨w6.heap.size, 0, none⟩) 3 3) [⟨(0, 1), some ⟨A2, 0, none⟩, 1, [(0, 0)]⟩, ⟨(0, 0), some ⟨A4, 0, none⟩, 1, [(0, 1)]⟩, ⟨(0, 2), some ⟨A6, 0, none⟩, 1, [(0, 0)]⟩] := by
    have hK2 := hK.new #[.int .i64 0, .int .i64 1, .slice (some ⟨A2, 0, none⟩) 1 1, .int .i64 0, .int .i64 0, .slice (some ⟨A4, 0, none⟩) 1 1, .int .i64 0, .int .i64 2, .slice (some ⟨A6, 0, none⟩) 1 1] tNd
    refine ⟨SlAt.of_block (cs := ([⟨(0, 1), some ⟨A2, 0, none⟩, 1, [(0, 0)]⟩, ⟨(0, 0), some ⟨A4, 0, none⟩, 1, [(0, 1)]⟩, ⟨(0, 2), some ⟨A6, 0, none⟩, 1, [(0, 0)]⟩] : List Nd).flatMap ndC) (heap_new _ _) rfl (by decide), fun n hn => ?_⟩
    simp only [List.mem_cons, List.not_mem_nil, or_false] at hn
    rcases hn with rfl | rfl | rfl
    · exact SlAt.of_block (n := 1) (size := 2) (cs := spC (0, 0)) (hK2.at' (A2, #[.int .i64 0, .int .i64 0], tSp) (by simp)) rfl (by decide)
    · exact SlAt.of_block (n := 1) (size := 2) (cs := spC (0, 1)) (hK2.at' (A4, #[.int .i64 0, .int .i64 1], tSp) (by simp)) rfl (by decide)
    · exact SlAt.of_block (n := 1) (size := 2) (cs := spC (0, 0)) (hK2.at' (A6, #[.int .i64 0, .int .i64 0], tSp) (by simp)) rfl (by decide)
  replace hK := hK.new #[.int .i64 0, .int .i64 1, .slice (some ⟨A2, 0, none⟩) 1 1, .int .i64 0, .int .i64 0, .slice (some ⟨A4, 0, none⟩) 1 1, .int .i64 0, .int .i64 2, .slice (some ⟨A6, 0, none⟩) 1 1] tNd
  refine (ringsC _ _ _ hN1 (by simp [tot])).mono ?_
  obtain ⟨m0, m1⟩ := beg1 (ns := [⟨(0, 1), some ⟨A2, 0, none⟩, 1, [(0, 0)]⟩, ⟨(0, 0), some ⟨A4, 0, none⟩, 1, [(0, 1)]⟩, ⟨(0, 2), some ⟨A6, 0, none⟩, 1, [(0, 0)]⟩]) rfl
  rintro e w7 ⟨h7, ⟨h0, _⟩ | ⟨hz, sv, vs, rfl, hown, htold⟩⟩
  · exact absurd m0 h0
  rw [m1] at htold
  clear m0 m1 hz
  have HR := Lib.hid (rowsS_of hown htold)
  replace hK := (hK.call h7).mark
  clear hown htold h7
  clear hN1
  go_wp2_with fail
  refine (atC 1 _).mono ?_
  rintro e w8 ⟨rfl, h8⟩
  replace hK := hK.call h8
  clear h8
  go_wp2_with fail
  refine (nodeC 0 _ _ _ _).mono ?_
  rintro e w9 ⟨rfl, h9⟩
  replace hK := (hK.new #[.int .i64 0, .int .i64 1] tSp).call h9
  clear h9
  generalize w8.heap.size = A9 at *
  go_wp2_with fail
  refine (atC 2 _).mono ?_
  rintro e w10 ⟨rfl, h10⟩
  replace hK := hK.call h10
  clear h10
  go_wp2_with fail
  refine (nodeC 1 _ _ _ _).mono ?_
  rintro e w11 ⟨rfl, h11⟩
  replace hK := (hK.new #[.int .i64 0, .int .i64 2] tSp).call h11
  clear h11
  generalize w10.heap.size = A11 at *
  go_wp2_with fail
  refine (nodeC 2 _ _ _ _).mono ?_
  rintro e w12 ⟨rfl, h12⟩
  replace hK := hK.call h12
  clear h12
  go_wp2_with fail
  have hN2 : NodesAt (w12.alloc (.cells #[.int .i64 0, .int .i64 0, .slice (some ⟨A9, 0, none⟩) 1 1, .int .i64 0, .int .i64 1, .slice (some ⟨A11, 0, none⟩) 1 1, .int .i64 0, .int .i64 2, .slice none 0 0] tNd)) (.slice (some ⟨w12.heap.size, 0, none⟩) 3 3) [⟨(0, 0), some ⟨A9, 0, none⟩, 1, [(0, 1)]⟩, ⟨(0, 1), some ⟨A11, 0, none⟩, 1, [(0, 2)]⟩, ⟨(0, 2), none, 0, []⟩] := by
    have hK2 := hK.new #[.int .i64 0, .int .i64 0, .slice (some ⟨A9, 0, none⟩) 1 1, .int .i64 0, .int .i64 1, .slice (some ⟨A11, 0, none⟩) 1 1, .int .i64 0, .int .i64 2, .slice none 0 0] tNd
    refine ⟨SlAt.of_block (cs := ([⟨(0, 0), some ⟨A9, 0, none⟩, 1, [(0, 1)]⟩, ⟨(0, 1), some ⟨A11, 0, none⟩, 1, [(0, 2)]⟩, ⟨(0, 2), none, 0, []⟩] : List Nd).flatMap ndC) (heap_new _ _) rfl (by decide), fun n hn => ?_⟩
    simp only [List.mem_cons, List.not_mem_nil, or_false] at hn
    rcases hn with rfl | rfl | rfl
    · exact SlAt.of_block (n := 1) (size := 2) (cs := spC (0, 1)) (hK2.at' (A9, #[.int .i64 0, .int .i64 1], tSp) (by simp)) rfl (by decide)
    · exact SlAt.of_block (n := 1) (size := 2) (cs := spC (0, 2)) (hK2.at' (A11, #[.int .i64 0, .int .i64 2], tSp) (by simp)) rfl (by decide)
    · exact SlAt.nil _ 2
  replace hK := hK.new #[.int .i64 0, .int .i64 0, .slice (some ⟨A9, 0, none⟩) 1 1, .int .i64 0, .int .i64 1, .slice (some ⟨A11, 0, none⟩) 1 1, .int .i64 0, .int .i64 2, .slice none 0 0] tNd
  refine (orderC _ _ _ hN2 (by simp [tot])).mono ?_
  obtain ⟨m0, m1, m2, m3⟩ := beg2 (ns := [⟨(0, 0), some ⟨A9, 0, none⟩, 1, [(0, 1)]⟩, ⟨(0, 1), some ⟨A11, 0, none⟩, 1, [(0, 2)]⟩, ⟨(0, 2), none, 0, []⟩]) rfl
  rintro e w13 ⟨h13, ⟨h0, _⟩ | ⟨_, h0, _⟩ | ⟨hz, hz2, so, rfl, hown⟩⟩
  · exact absurd m0 h0
  · rw [m2, m3] at h0
    exact absurd h0 (by decide)
  rw [m1, m2] at hown
  clear m0 m1 m2 m3 hz hz2
  have HO : Hid (SpotsAt w13 so [(0, 2), (0, 1), (0, 0)]) := own_sl hown
  replace hK := (hK.call h13).mark
  clear hown h13
  clear hN2
  go_wp2_with fail
  refine (atC 0 _).mono ?_
  rintro e w14 ⟨rfl, h14⟩
  replace hK := hK.call h14
  clear h14
  go_wp2_with fail
  refine (nodeC 0 _ _ _ _).mono ?_
  rintro e w15 ⟨rfl, h15⟩
  replace hK := (hK.new #[.int .i64 0, .int .i64 0] tSp).call h15
  clear h15
  generalize w14.heap.size = A15 at *
  go_wp2_with fail
  have hN3 : NodesAt (w15.alloc (.cells #[.int .i64 0, .int .i64 0, .slice (some ⟨A15, 0, none⟩) 1 1] tNd)) (.slice (some ⟨w15.heap.size, 0, none⟩) 1 1) [⟨(0, 0), some ⟨A15, 0, none⟩, 1, [(0, 0)]⟩] := by
    have hK2 := hK.new #[.int .i64 0, .int .i64 0, .slice (some ⟨A15, 0, none⟩) 1 1] tNd
    refine ⟨SlAt.of_block (cs := ([⟨(0, 0), some ⟨A15, 0, none⟩, 1, [(0, 0)]⟩] : List Nd).flatMap ndC) (heap_new _ _) rfl (by decide), fun n hn => ?_⟩
    simp only [List.mem_cons, List.not_mem_nil, or_false] at hn
    subst hn
    · exact SlAt.of_block (n := 1) (size := 2) (cs := spC (0, 0)) (hK2.at' (A15, #[.int .i64 0, .int .i64 0], tSp) (by simp)) rfl (by decide)
  replace hK := hK.new #[.int .i64 0, .int .i64 0, .slice (some ⟨A15, 0, none⟩) 1 1] tNd
  refine (orderC _ _ _ hN3 (by simp [tot])).mono ?_
  obtain ⟨m0, m1⟩ := beg3 (ns := [⟨(0, 0), some ⟨A15, 0, none⟩, 1, [(0, 0)]⟩]) rfl
  rintro e w16 ⟨h16, ⟨h0, _⟩ | ⟨hz, hz2, rfl⟩ | ⟨_, h0, _⟩⟩
  · exact absurd m0 h0
  rotate_left
  · exact absurd m1 h0
  clear m0 m1 hz hz2
  replace hK := (hK.call h16).mark
  clear h16
  clear hN3
  go_wp2_with fail
  refine (atC 1 _).mono ?_
  rintro e w17 ⟨rfl, h17⟩
  replace hK := hK.call h17
  clear h17
  go_wp2_with fail
  refine (nodeC 0 _ _ _ _).mono ?_
  rintro e w18 ⟨rfl, h18⟩
  replace hK := (hK.new #[.int .i64 0, .int .i64 1] tSp).call h18
  clear h18
  generalize w17.heap.size = A18 at *
  go_wp2_with fail
  refine (atC 2 _).mono ?_
  rintro e w19 ⟨rfl, h19⟩
  replace hK := hK.call h19
  clear h19
  go_wp2_with fail
  refine (nodeC 1 _ _ _ _).mono ?_
  rintro e w20 ⟨rfl, h20⟩
  replace hK := (hK.new #[.int .i64 0, .int .i64 2] tSp).call h20
  clear h20
  generalize w19.heap.size = A20 at *
  go_wp2_with fail
  refine (atC 1 _).mono ?_
  rintro e w21 ⟨rfl, h21⟩
  replace hK := hK.call h21
  clear h21
  go_wp2_with fail
  refine (nodeC 2 _ _ _ _).mono ?_
  rintro e w22 ⟨rfl, h22⟩
  replace hK := (hK.new #[.int .i64 0, .int .i64 1] tSp).call h22
  clear h22
  generalize w21.heap.size = A22 at *
  go_wp2_with fail
  have hN4 : NodesAt (w22.alloc (.cells #[.int .i64 0, .int .i64 0, .slice (some ⟨A18, 0, none⟩) 1 1, .int .i64 0, .int .i64 1, .slice (some ⟨A20, 0, none⟩) 1 1, .int .i64 0, .int .i64 2, .slice (some ⟨A22, 0, none⟩) 1 1] tNd)) (.slice (some ⟨w22.heap.size, 0, none⟩) 3 3) [⟨(0, 0), some ⟨A18, 0, none⟩, 1, [(0, 1)]⟩, ⟨(0, 1), some ⟨A20, 0, none⟩, 1, [(0, 2)]⟩, ⟨(0, 2), some ⟨A22, 0, none⟩, 1, [(0, 1)]⟩] := by
    have hK2 := hK.new #[.int .i64 0, .int .i64 0, .slice (some ⟨A18, 0, none⟩) 1 1, .int .i64 0, .int .i64 1, .slice (some ⟨A20, 0, none⟩) 1 1, .int .i64 0, .int .i64 2, .slice (some ⟨A22, 0, none⟩) 1 1] tNd
    refine ⟨SlAt.of_block (cs := ([⟨(0, 0), some ⟨A18, 0, none⟩, 1, [(0, 1)]⟩, ⟨(0, 1), some ⟨A20, 0, none⟩, 1, [(0, 2)]⟩, ⟨(0, 2), some ⟨A22, 0, none⟩, 1, [(0, 1)]⟩] : List Nd).flatMap ndC) (heap_new _ _) rfl (by decide), fun n hn => ?_⟩
    simp only [List.mem_cons, List.not_mem_nil, or_false] at hn
    rcases hn with rfl | rfl | rfl
    · exact SlAt.of_block (n := 1) (size := 2) (cs := spC (0, 1)) (hK2.at' (A18, #[.int .i64 0, .int .i64 1], tSp) (by simp)) rfl (by decide)
    · exact SlAt.of_block (n := 1) (size := 2) (cs := spC (0, 2)) (hK2.at' (A20, #[.int .i64 0, .int .i64 2], tSp) (by simp)) rfl (by decide)
    · exact SlAt.of_block (n := 1) (size := 2) (cs := spC (0, 1)) (hK2.at' (A22, #[.int .i64 0, .int .i64 1], tSp) (by simp)) rfl (by decide)
  replace hK := hK.new #[.int .i64 0, .int .i64 0, .slice (some ⟨A18, 0, none⟩) 1 1, .int .i64 0, .int .i64 1, .slice (some ⟨A20, 0, none⟩) 1 1, .int .i64 0, .int .i64 2, .slice (some ⟨A22, 0, none⟩) 1 1] tNd
  refine (leadsC' _ _ _ hN4 (by simp [tot])).mono ?_
  obtain ⟨m0, m1, m2, m3, m4, m5⟩ := beg4 (ns := [⟨(0, 0), some ⟨A18, 0, none⟩, 1, [(0, 1)]⟩, ⟨(0, 1), some ⟨A20, 0, none⟩, 1, [(0, 2)]⟩, ⟨(0, 2), some ⟨A22, 0, none⟩, 1, [(0, 1)]⟩]) rfl
  rintro e w23 ⟨h23, ⟨h0, _⟩ | ⟨_, ⟨x, h0, hx⟩, _⟩ | ⟨hz, hz2, sl, rfl, hown⟩⟩
  · exact absurd m0 h0
  · rw [m1] at h0
    have := m2 x h0
    omega
  rw [m1, begL m3 m4 m5] at hown
  clear m0 m1 m2 m3 m4 m5 hz hz2
  have HL : Hid (LeadsAt w23 sl wantL) := own_sl hown
  replace hK := (hK.call h23).mark
  clear hown h23
  clear hN4
  go_wp2_with fail
  refine (nodeC 0 _ _ _ _).mono ?_
  rintro e w24 ⟨rfl, h24⟩
  replace hK := hK.call h24
  clear h24
  go_wp2_with fail
  refine (nodeC 0 _ _ _ _).mono ?_
  rintro e w25 ⟨rfl, h25⟩
  replace hK := hK.call h25
  clear h25
  go_wp2_with fail
  have hN5 : NodesAt (w25.alloc (.cells #[.int .i64 0, .int .i64 0, .slice none 0 0, .int .i64 0, .int .i64 0, .slice none 0 0] tNd)) (.slice (some ⟨w25.heap.size, 0, none⟩) 2 2) [⟨(0, 0), none, 0, []⟩, ⟨(0, 0), none, 0, []⟩] := by
    have hK2 := hK.new #[.int .i64 0, .int .i64 0, .slice none 0 0, .int .i64 0, .int .i64 0, .slice none 0 0] tNd
    refine ⟨SlAt.of_block (cs := ([⟨(0, 0), none, 0, []⟩, ⟨(0, 0), none, 0, []⟩] : List Nd).flatMap ndC) (heap_new _ _) rfl (by decide), fun n hn => ?_⟩
    simp only [List.mem_cons, List.not_mem_nil, or_false] at hn
    rcases hn with rfl | rfl
    · exact SlAt.nil _ 2
    · exact SlAt.nil _ 2
  replace hK := hK.new #[.int .i64 0, .int .i64 0, .slice none 0 0, .int .i64 0, .int .i64 0, .slice none 0 0] tNd
  refine (ringsC _ _ _ hN5 (by simp [tot])).mono ?_
  have m0 := beg5 (ns := [⟨(0, 0), none, 0, []⟩, ⟨(0, 0), none, 0, []⟩]) rfl
  rintro e w26 ⟨h26, ⟨hz, rfl⟩ | ⟨h0, _⟩⟩
  rotate_left
  · rw [m0] at h0
    cases h0
  rw [m0]
  clear m0 hz
  replace hK := (hK.call h26).mark
  clear h26
  clear hN5
  go_wp2_with fail
  refine (atC 0 _).mono ?_
  rintro e w27 ⟨rfl, h27⟩
  replace hK := hK.call h27
  clear h27
  go_wp2_with fail
  refine (atC 1 _).mono ?_
  rintro e w28 ⟨rfl, h28⟩
  replace hK := hK.call h28
  clear h28
  go_wp2_with fail
  refine (atC 1 _).mono ?_
  rintro e w29 ⟨rfl, h29⟩
  replace hK := hK.call h29
  clear h29
  go_wp2_with fail
  refine (atC 1 _).mono ?_
  rintro e w30 ⟨rfl, h30⟩
  replace hK := hK.call h30
  clear h30
  go_wp2_with fail
  refine (atC 2 _).mono ?_
  rintro e w31 ⟨rfl, h31⟩
  replace hK := hK.call h31
  clear h31
  go_wp2_with fail
  refine (atC 1 _).mono ?_
  rintro e w32 ⟨rfl, h32⟩
  replace hK := hK.call h32
  clear h32
  have HWL : Hid (LeadsAt (w32.alloc (.cells #[.int .i64 0, .int .i64 0, .bool true, .int .i64 1, .int .i64 0, .int .i64 1, .int .i64 0, .int .i64 1, .bool true, .int .i64 0, .int .i64 0, .int .i64 1, .int .i64 0, .int .i64 2, .bool true, .int .i64 0, .int .i64 0, .int .i64 1] tLd)) (.slice (some ⟨w32.heap.size, 0, none⟩) 3 3) wantL) := SlAt.of_block (cs := wantL.flatMap lxC) (heap_new _ _) rfl (by decide)
  go_wp2_with fail
  replace hK := (hK.new #[.int .i64 0, .int .i64 0, .bool true, .int .i64 1, .int .i64 0, .int .i64 1, .int .i64 0, .int .i64 1, .bool true, .int .i64 0, .int .i64 0, .int .i64 1, .int .i64 0, .int .i64 2, .bool true, .int .i64 0, .int .i64 0, .int .i64 1] tLd).mark
  generalize hWW : w32.alloc (.cells #[.int .i64 0, .int .i64 0, .bool true, .int .i64 1, .int .i64 0, .int .i64 1, .int .i64 0, .int .i64 1, .bool true, .int .i64 0, .int .i64 0, .int .i64 1, .int .i64 0, .int .i64 2, .bool true, .int .i64 0, .int .i64 0, .int .i64 1] tLd) = WW at *
  generalize w32.heap.size = AW at *
  clear hWW
  refine (atC 0 _).mono ?_
  rintro e w33 ⟨rfl, h33⟩
  replace hK := hK.call h33
  clear h33
  go_wp2_with fail
  refine (atC 1 _).mono ?_
  rintro e w34 ⟨rfl, h34⟩
  replace hK := hK.call h34
  clear h34
  have HRB : Hid (RowsS ((w34.alloc (.cells #[.int .i64 0, .int .i64 0, .int .i64 0, .int .i64 1] tSp)).alloc (.cells #[.slice (some ⟨w34.heap.size, 0, none⟩) 2 2] tS)) (.slice (some ⟨w34.heap.size + 1, 0, none⟩) 1 1) [[(0, 0), (0, 1)]]) := by
    refine ⟨[.slice (some ⟨w34.heap.size, 0, none⟩) 2 2], rfl, SlAt.of_block (n := 1) (size := 1) (hp_new (by simp)) rfl (by decide), fun i h1 h2 => ?_⟩
    have hi : i = 0 := by simp at h1; omega
    subst hi
    exact SlAt.of_block (n := 2) (size := 2) (cs := ([(0, 0), (0, 1)] : List Sp).flatMap spC) (hp_old (heap_new _ _)) rfl (by decide)
  go_wp2_with fail
  replace hK := (hK.new #[.int .i64 0, .int .i64 0, .int .i64 0, .int .i64 1] tSp).new #[.slice (some ⟨w34.heap.size, 0, none⟩) 2 2] tS
  refine (eqRingsC _ _ [[(0, 0), (0, 1)]] [[(0, 0), (0, 1)]] _ (HR.out.fr0 (hK.fr w7 (by simp))) HRB.out).mono ?_
  rw [decide_eq_true rfl]
  rintro e w35 ⟨rfl, h35⟩
  replace hK := (hK.call h35).mark
  clear h35 HRB HR
  go_wp2_with fail
  refine (atC 2 _).mono ?_
  rintro e w36 ⟨rfl, h36⟩
  replace hK := hK.call h36
  clear h36
  go_wp2_with fail
  refine (atC 1 _).mono ?_
  rintro e w37 ⟨rfl, h37⟩
  replace hK := hK.call h37
  clear h37
  go_wp2_with fail
  refine (atC 0 _).mono ?_
  rintro e w38 ⟨rfl, h38⟩
  replace hK := hK.call h38
  clear h38
  have HOB : Hid (SpotsAt (w38.alloc (.cells #[.int .i64 0, .int .i64 2, .int .i64 0, .int .i64 1, .int .i64 0, .int .i64 0] tSp)) (.slice (some ⟨w38.heap.size, 0, none⟩) 3 3) [(0, 2), (0, 1), (0, 0)]) := SlAt.of_block (n := 3) (size := 2) (cs := ([(0, 2), (0, 1), (0, 0)] : List Sp).flatMap spC) (heap_new _ _) rfl (by decide)
  go_wp2_with fail
  replace hK := hK.new #[.int .i64 0, .int .i64 2, .int .i64 0, .int .i64 1, .int .i64 0, .int .i64 0] tSp
  refine (eqC _ _ [(0, 2), (0, 1), (0, 0)] [(0, 2), (0, 1), (0, 0)] _ (HO.out.fr0 (hK.fr w13 (by simp))) HOB.out).mono ?_
  rw [decide_eq_true rfl]
  rintro e w39 ⟨rfl, h39⟩
  replace hK := (hK.call h39).mark
  clear h39 HOB HO
  go_wp2_with fail
  refine (eqLeadsC _ _ wantL wantL _ (HL.out.fr0 (hK.fr w23 (by simp))) (HWL.out.fr0 (hK.fr WW (by simp)))).mono ?_
  rw [decide_eq_true rfl]
  rintro e w40 ⟨rfl, h40⟩
  replace hK := (hK.call h40).mark
  clear h40 HL HWL
  go_wp2
  go_ret
  exact ⟨rfl, hK.fr w (by simp)⟩
end Go.Proofs.YtdlpbpohbkcafaaGreat
