/-
  quadrillelaw22.begun answers true.
-/
import Derived.Test.YtldppdafgbipjaaReads
import Derived.Test.YtldppdafgbipjaaSame
namespace Go.Proofs.Ytldppdafgbipjaa
open Go.RowKit

theorem may_num (n : Int) : mayV ⟨1, n, ⟨#[]⟩⟩ = true := by simp [mayV]
theorem may_v0 : mayV ⟨0, 0, ⟨#[]⟩⟩ = true := by simp [mayV]
theorem bytes_num (n : Int) : bytesV ⟨1, n, ⟨#[]⟩⟩ = 1 :: be8 n := by simp [bytesV, goodV, may_num, bytesOf]
theorem num_56 : sumV ⟨1, 6, ⟨#[]⟩⟩ 64 ≠ sumV ⟨1, 5, ⟨#[]⟩⟩ 64 := by
  unfold sumV
  rw [bytes_num, bytes_num]
  decide +kernel

/-- The lists that begun keeps. -/
def bDs : List Sp := [(0, 0), (0, 2)]
def bVs : List V := [⟨1, 5, ⟨#[]⟩⟩, ⟨0, 0, ⟨#[]⟩⟩]
theorem b_keepE : keepE (0, 1) ⟨1, 6, ⟨#[]⟩⟩ bDs bVs [] = 0 := by
  simp [keepE, mayE, bDs, bVs, mayS, may_num, may_v0, setE, getS]
theorem b_get (w : Int) : getS (0, 1) (keepL w (0, 1) ⟨1, 6, ⟨#[]⟩⟩ bDs bVs []) = some ⟨⟨1, 6, ⟨#[]⟩⟩, ensOf w bDs bVs⟩ := by
  unfold keepL
  rw [if_pos b_keepE, getS_put, if_pos rfl]
theorem b_same5 : sameO 64 (some ⟨⟨1, 6, ⟨#[]⟩⟩, ensOf 64 bDs bVs⟩) 0 ⟨1, 5, ⟨#[]⟩⟩ = (true, true, 0) := by
  simp [sameO, entO, ensOf, bDs, bVs, may_num, sameVB]
theorem b_same6 : sameO 64 (some ⟨⟨1, 6, ⟨#[]⟩⟩, ensOf 64 bDs bVs⟩) 0 ⟨1, 6, ⟨#[]⟩⟩ = (false, false, 0) := by
  simp [sameO, entO, ensOf, bDs, bVs, may_num, num_56]
theorem b_dep : entO (some ⟨⟨1, 6, ⟨#[]⟩⟩, ensOf 64 bDs bVs⟩) 1 = (⟨(0, 2), ⟨0, 0, ⟨#[]⟩⟩, sumV ⟨0, 0, ⟨#[]⟩⟩ 64⟩, 0) := by
  simp [entO, ensOf, bDs, bVs]

theorem b_len : lenO (some ⟨⟨1, 6, ⟨#[]⟩⟩, ensOf 64 bDs bVs⟩) = 2 := by simp [lenO, ensOf, bDs, bVs]

set_option maxRecDepth 100000 in
set_option maxHeartbeats 3200000 in
theorem begun22 (w : World) : Calls Try.prog 13 #[] w fun e w1 => e = .returned (.bool true) ∧ Fr [] w w1 := by
  go_enter Try.func13, Try.ntmps13
  go_wp2_with fail
  refine (traceNew 64 _ (by omega) (by omega)).mono ?_
  rintro e w1 ⟨p, tb, mb, rfl, hp, ht, hm, hS, h1⟩
  have HS := Lib.hid hS
  clear hS
  go_wp2_with fail
  refine (traceNew_no 65 _ (.inr (by omega))).mono ?_
  rintro e w2 ⟨rfl, h2⟩
  go_wp2_with fail
  refine (numC 6 _).mono ?_
  rintro e w3 ⟨rfl, h3⟩
  go_wp2_with fail
  refine (numC 5 _).mono ?_
  rintro e w4 ⟨rfl, h4⟩
  have hds := h4.heap (heap_new w3 (.cells #[.int .i64 0, .int .i64 0, .int .i64 0, .int .i64 2] 26)) (by simp)
  have h4' : Fr [] w3 w4 := ((Fr.refl [] w3).alloc _).transS h4
  have hsd : SpotsAt w4 (.slice (some ⟨w3.heap.size, 0, none⟩) 2 2) bDs := SlAt.of_block (cs := bDs.flatMap spC) hds rfl (by decide)
  have HD := Lib.hid hsd
  have hS4 := Lib.hid (HS.out.fr0 (h2.trans0 (h3.trans0 h4')))
  have hfr4 : Fr [] w w4 := h1.trans0 (h2.trans0 (h3.trans0 h4'))
  clear hds hsd h4 h4' h3 h2 h1 HS
  generalize w3.heap.size = DS at *
  go_wp2_with fail
  have hvs := heap_new w4 (.cells #[.int .i64 1, .int .i64 5, .string ⟨#[]⟩, .int .i64 0, .int .i64 0, .string ⟨#[]⟩] 23)
  have hsv : ValsAt (w4.alloc (.cells #[.int .i64 1, .int .i64 5, .string ⟨#[]⟩, .int .i64 0, .int .i64 0, .string ⟨#[]⟩] 23)) (.slice (some ⟨w4.heap.size, 0, none⟩) 2 2) bVs := SlAt.of_block (cs := bVs.flatMap vC) hvs rfl (by decide)
  refine (traceKeep p tb mb 64 (0, 1) ⟨1, 6, ⟨#[]⟩⟩ _ _ bDs bVs [] _ ?hst ?hds ?hvs (by decide) ?hsz).mono ?_
  case hst => exact hS4.out.fr0 ((Fr.refl [] w4).alloc _)
  case hds => exact HD.out.fr0 ((Fr.refl [] w4).alloc _)
  case hvs => exact hsv
  case hsz => intro x hx; simp [bVs] at hx; rcases hx with rfl | rfl <;> decide
  rw [b_keepE]
  rintro e w5 ⟨rfl, hS5, h5⟩
  have HS := Lib.hid hS5
  have hfr5 : Fr [] w w5 := (hfr4.alloc _).trans h5 (by simp; omega)
  clear hS5 h5 hvs hsv HD hS4 hfr4
  go_wp2_with fail
  refine (traceValue p tb mb 64 (0, 1) _ _ HS.out).mono ?_
  rw [b_get]
  simp only [valO, Option.isSome_some]
  rintro e w6 ⟨rfl, h6⟩
  go_wp2_with fail
  have hb6 := heap_new w6 (.cells #[.int .i64 1, .int .i64 6, .string ⟨#[]⟩] 23)
  have hfr7 : Fr [] w5 (w6.alloc (.cells #[.int .i64 1, .int .i64 6, .string ⟨#[]⟩] 23)) := h6.alloc _
  refine (traceDep p tb mb 64 (0, 1) 1 _ _ (HS.out.fr0 hfr7) (by omega) (by omega)).mono ?_
  rw [b_get, b_dep]
  rintro e w7 ⟨rfl, h7⟩
  have hb6' := h7.heap hb6 (by simp)
  have hfr7' := hfr7.trans0 h7
  clear hb6 hfr7 h7 h6
  generalize w6.heap.size = V6 at *
  go_wp2_with fail
  have hb7 := heap_new w7 (.cells #[.int .i64 0, .int .i64 2] 26)
  have hb6'' := ((Fr.refl [] w7).alloc (.cells #[.int .i64 0, .int .i64 2] 26)).heap hb6' (by simp)
  have hfr8 : Fr [] w5 (w7.alloc (.cells #[.int .i64 0, .int .i64 2] 26)) := hfr7'.alloc _
  generalize w7.alloc (.cells #[.int .i64 0, .int .i64 2] 26) = w8 at *
  generalize w7.heap.size = D7 at *
  clear hb6' hfr7'
  refine (numC 5 _).mono ?_
  rintro e w9 ⟨rfl, h9⟩
  go_wp2_with fail
  refine (traceSame p tb mb 64 (0, 1) 0 ⟨1, 5, ⟨#[]⟩⟩ _ _ (HS.out.fr0 (hfr8.trans0 h9)) (by omega) (by omega) (by decide)).mono ?_
  rw [b_get, b_same5]
  rintro e w10 ⟨rfl, h10⟩
  go_wp2_with fail
  refine (numC 6 _).mono ?_
  rintro e w11 ⟨rfl, h11⟩
  go_wp2_with fail
  refine (traceSame p tb mb 64 (0, 1) 0 ⟨1, 6, ⟨#[]⟩⟩ _ _ (HS.out.fr0 (hfr8.trans0 (h9.trans0 (h10.trans0 h11)))) (by omega) (by omega) (by decide)).mono ?_
  rw [b_get, b_same6]
  rintro e w12 ⟨rfl, h12⟩
  have h8 : Fr [] w8 w12 := h9.trans0 (h10.trans0 (h11.trans0 h12))
  have hv := h8.heap hb6'' (by simp)
  have hd := h8.heap hb7 (by simp)
  have hS12 := Lib.hid (HS.out.fr0 (hfr8.trans0 h8))
  have hfr12 : Fr [] w w12 := hfr5.trans0 (hfr8.trans0 h8)
  clear h8 h9 h10 h11 h12 hfr8 hb6'' hb7 hfr5 HS
  have hvl := lt_of hv
  have hdl := lt_of hd
  have hv0 : w12.cell? ⟨V6, 0, none⟩ = some (.int .i64 1) := cell_of hv 0
  have hv1 : w12.cell? ⟨V6, 1, none⟩ = some (.int .i64 6) := cell_of hv 1
  have hv2 : w12.cell? ⟨V6, 2, none⟩ = some (.string ⟨#[]⟩) := cell_of hv 2
  have hd0 : w12.cell? ⟨D7, 0, none⟩ = some (.int .i64 0) := cell_of hd 0
  have hd1 : w12.cell? ⟨D7, 1, none⟩ = some (.int .i64 2) := cell_of hd 1
  go_wp2_with fail
  go_region_held3 (fun u => u.cell? ⟨V6, 0, none⟩ = some (.int .i64 1) ∧ u.cell? ⟨V6, 1, none⟩ = some (.int .i64 6) ∧ u.cell? ⟨V6, 2, none⟩ = some (.string ⟨#[]⟩) ∧ u.cell? ⟨D7, 0, none⟩ = some (.int .i64 0) ∧ u.cell? ⟨D7, 1, none⟩ = some (.int .i64 2))
    (first | exact ⟨hv0, hv1, hv2, hd0, hd1⟩ | exact hSA | exact hSB)
    ((first | (go_at_call 16; refine (numC 6 _).mono ?_; rintro e wA ⟨rfl, hA⟩; have hA1 : Fr [] w12 wA := ((Fr.refl [] w12).drew).transS hA; have hSA : wA.cell? ⟨V6, 0, none⟩ = some (.int .i64 1) ∧ wA.cell? ⟨V6, 1, none⟩ = some (.int .i64 6) ∧ wA.cell? ⟨V6, 2, none⟩ = some (.string ⟨#[]⟩) ∧ wA.cell? ⟨D7, 0, none⟩ = some (.int .i64 0) ∧ wA.cell? ⟨D7, 1, none⟩ = some (.int .i64 2) := ⟨(hA1.cell (p := ⟨V6, 0, none⟩) hvl (by simp)).trans hv0, (hA1.cell (p := ⟨V6, 1, none⟩) hvl (by simp)).trans hv1, (hA1.cell (p := ⟨V6, 2, none⟩) hvl (by simp)).trans hv2, (hA1.cell (p := ⟨D7, 0, none⟩) hdl (by simp)).trans hd0, (hA1.cell (p := ⟨D7, 1, none⟩) hdl (by simp)).trans hd1⟩) | (go_at_call 18; refine (traceLen p tb mb 64 (0, 1) _ _ (hS12.out.fr0 hA1)).mono ?_; rw [b_get, b_len]; rintro e wB ⟨rfl, hB⟩; have hB1 : Fr [] w12 wB := hA1.trans0 hB; have hSB : wB.cell? ⟨V6, 0, none⟩ = some (.int .i64 1) ∧ wB.cell? ⟨V6, 1, none⟩ = some (.int .i64 6) ∧ wB.cell? ⟨V6, 2, none⟩ = some (.string ⟨#[]⟩) ∧ wB.cell? ⟨D7, 0, none⟩ = some (.int .i64 0) ∧ wB.cell? ⟨D7, 1, none⟩ = some (.int .i64 2) := ⟨(hB1.cell (p := ⟨V6, 0, none⟩) hvl (by simp)).trans hv0, (hB1.cell (p := ⟨V6, 1, none⟩) hvl (by simp)).trans hv1, (hB1.cell (p := ⟨V6, 2, none⟩) hvl (by simp)).trans hv2, (hB1.cell (p := ⟨D7, 0, none⟩) hdl (by simp)).trans hd0, (hB1.cell (p := ⟨D7, 1, none⟩) hdl (by simp)).trans hd1⟩)))
  go_wp2
  go_ret
  exact ⟨rfl, hfr12.trans0 hB1⟩
end Go.Proofs.Ytldppdafgbipjaa
