/-
  quadrillelaw7.begun answers true.
-/
import Derived.Test.YtldppdafgbipjaaAllStr
import Derived.Test.YtldppdafgbipjaaLoopK
import Derived.Test.YtldppdafgbipjaaTab
namespace Go.Proofs.Ytldppdafgbipjaa
open Go.RowKit Go.Shelf
attribute [local go_sem] Oper.semAt_some

theorem placeC (r c : Int) (w : World) : Calls Try.prog 25 #[.int .i64 r, .int .i64 c] w fun e w1 => e = .returned (spotV r c) ∧ Fr [] w w1 := by
  go_enter Try.func25, Try.ntmps25
  go_wp2
  refine bodyPost_ret (v := spotV r c) (by simp [results, Try.results25, go_sem]) rfl ⟨rfl, ?_⟩
  repeat' (first | exact Fr.refl _ _ | apply Fr.drew | apply Fr.alloc | (refine Fr.setCell ?_ (.inr (by simp)) _))

/-- What begun lays. -/
def bA : ByteArray := ⟨#[97]⟩
def bB : ByteArray := ⟨#[98]⟩
def bC : ByteArray := ⟨#[99]⟩
def l7a : List (Sp × ByteArray) := [((1, 0), ⟨#[99]⟩)]
def l7b : List (Sp × ByteArray) := [((1, 0), ⟨#[99]⟩), ((0, 1), ⟨#[98]⟩)]
def l7 : List (Sp × ByteArray) := [((1, 0), ⟨#[99]⟩), ((0, 1), ⟨#[98]⟩), ((0, 0), ⟨#[97]⟩)]
def l7d : List (Sp × ByteArray) := [((1, 0), ⟨#[99]⟩), ((0, 0), ⟨#[97]⟩)]
theorem e7a : setE (1, 0) ([] : List (Sp × ByteArray)) = 0 := by simp [setE, mayS, getS]
theorem e7b : setE (0, 1) l7a = 0 := by simp [setE, mayS, getS, l7a]
theorem e7c : setE (0, 0) l7b = 0 := by simp [setE, mayS, getS, l7b]
theorem e7d : setE (65536, 0) l7 = 10 := by simp [setE, mayS]
theorem s7a : setL (1, 0) ⟨#[99]⟩ ([] : List (Sp × ByteArray)) = l7a := by unfold setL; rw [e7a]; rfl
theorem s7b : setL (0, 1) ⟨#[98]⟩ l7a = l7b := by unfold setL; rw [e7b]; rfl
theorem s7c : setL (0, 0) ⟨#[97]⟩ l7b = l7 := by unfold setL; rw [e7c]; rfl
theorem s7d (x : ByteArray) : setL (65536, 0) x l7 = l7 := by unfold setL; rw [e7d]; rfl
theorem g7 : getS (0, 1) l7 = some ⟨#[98]⟩ := rfl
theorem sort7 : sortS (l7.map (·.1)) = [(0, 0), (0, 1), (1, 0)] := by
  rw [sortS_of_perm (show (l7.map (·.1)).Perm [((0 : Int), (0 : Int)), (0, 1), (1, 0)] by decide)]
  exact List.mergeSort_of_pairwise (by decide)
def r7 : List (Sp × ByteArray) := [((0, 0), ⟨#[97]⟩), ((0, 1), ⟨#[98]⟩), ((1, 0), ⟨#[99]⟩)]
def r7o : List (Sp × ByteArray) := [((0, 0), ⟨#[97]⟩), ((1, 0), ⟨#[99]⟩)]
theorem rows7 : rowsS ⟨#[]⟩ (fun _ => true) l7 (sortS (l7.map (·.1))) = r7 := by rw [sort7]; rfl
theorem rows7o : rowsS ⟨#[]⟩ (hasA ⟨0, 0, 5, 0⟩) l7 (sortS (l7.map (·.1))) = r7o := by rw [sort7]; rfl
theorem d7 : delS (0, 1) l7 = l7d := rfl
theorem g7d : getS (0, 1) l7d = none := rfl

/-- The texts, one behind the other. -/
def catS (s : ByteArray) (l : List (Sp × ByteArray)) : ByteArray := l.foldl (fun s x => s ++ x.2) s
theorem catS_size : ∀ (l : List (Sp × ByteArray)) (s : ByteArray), (∀ x ∈ l, x.2.size = 1) → (catS s l).size = s.size + l.length
  | [], s, _ => rfl
  | x :: l, s, h => by
    have h1 := catS_size l (s ++ x.2) (fun y hy => h y (by simp [hy]))
    have h2 := h x (by simp)
    have h3 : catS s (x :: l) = catS (s ++ x.2) l := rfl
    rw [h3, h1, ByteArray.size_append, h2, List.length_cons]
    omega
theorem r7_one : ∀ x ∈ r7, x.2.size = 1 := by decide
theorem r7o_one : ∀ x ∈ r7o, x.2.size = 1 := by decide

theorem fnNilStr (f : Nat) (b : Nat) (w : World) : (binOp .eql 143 (.func (.func f) #[] #[.pointer (some ⟨b, 0, none⟩)]) .nilFunc).run Try.prog w = .ok (.bool false) w := by kernel_rfl

set_option maxRecDepth 100000 in
set_option maxHeartbeats 6400000 in
theorem begun7_in (w : World) : CallsIn Fence.wide 5 Try.prog 20 #[] w fun e w1 => e = .returned (.bool true) ∧ Fr [] w w1 := by
  refine callsIn_of_wp_marks Try.func20 rfl trivial ?_ rfl
  simp only [Try.ntmps20, List.size_toArray, List.length_nil, Nat.reduceSub, Array.replicate_succ, Array.replicate_zero, List.push_toArray, List.append_toArray, List.nil_append, List.cons_append]
  gi_wp2_with fail
  refine ⟨trivial, ?_⟩
  gi_at_call 64
  refine (callsIn_wide.2 (new_Str _)).mono ?_
  rintro e w1 ⟨tb, mb, rfl, ht, hm, hT, h1⟩
  have hres := h1.heap (heap_new w (.cells #[.bool false] 4)) (by simp)
  have hf1 : Fr [] w w1 := ((Fr.refl [] w).alloc _).trans0 h1
  have ht' : w.heap.size < tb := by simp at ht; omega
  have hm' : w.heap.size < mb := by simp at hm; omega
  have HT := Lib.hid hT
  clear h1 hT ht hm
  gi_wp2_with fail
  refine ⟨trivial, ?_⟩
  gi_at_call 25
  refine (callsIn_wide.2 (placeC 1 0 _)).mono ?_
  rintro e v1 ⟨rfl, hp⟩
  gi_wp2_with fail
  refine ⟨trivial, ?_⟩
  gi_at_call 65
  refine (callsIn_wide.2 (set_Str tb mb (1, 0) ⟨#[99]⟩ _ _ (HT.out.fr hp (by simp) (by simp)))).mono ?_
  rw [e7a, s7a]
  rintro e w2 ⟨rfl, hT, h1⟩
  replace hres := h1.heap (hp.heap hres (by simp)) (by simp; omega)
  have hf2 : Fr [] w w2 := (hf1.trans0 hp).trans h1 (by simp; omega)
  replace HT := Lib.hid hT
  clear h1 hT hp
  gi_wp2_with fail
  refine ⟨trivial, ?_⟩
  gi_at_call 25
  refine (callsIn_wide.2 (placeC 0 1 _)).mono ?_
  rintro e v2 ⟨rfl, hp⟩
  gi_wp2_with fail
  refine ⟨trivial, ?_⟩
  gi_at_call 65
  refine (callsIn_wide.2 (set_Str tb mb (0, 1) ⟨#[98]⟩ _ _ (HT.out.fr hp (by simp) (by simp)))).mono ?_
  rw [e7b, s7b]
  rintro e w3 ⟨rfl, hT, h1⟩
  replace hres := h1.heap (hp.heap hres (by simp)) (by simp; omega)
  have hf3 : Fr [] w w3 := (hf2.trans0 hp).trans h1 (by simp; omega)
  replace HT := Lib.hid hT
  clear h1 hT hp
  gi_wp2_with fail
  refine ⟨trivial, ?_⟩
  gi_at_call 25
  refine (callsIn_wide.2 (placeC 0 0 _)).mono ?_
  rintro e v3 ⟨rfl, hp⟩
  gi_wp2_with fail
  refine ⟨trivial, ?_⟩
  gi_at_call 65
  refine (callsIn_wide.2 (set_Str tb mb (0, 0) ⟨#[97]⟩ _ _ (HT.out.fr hp (by simp) (by simp)))).mono ?_
  rw [e7c, s7c]
  rintro e w4 ⟨rfl, hT, h1⟩
  replace hres := h1.heap (hp.heap hres (by simp)) (by simp; omega)
  have hf4 : Fr [] w w4 := (hf3.trans0 hp).trans h1 (by simp; omega)
  replace HT := Lib.hid hT
  clear h1 hT hp
  gi_wp2_with fail
  refine ⟨trivial, ?_⟩
  gi_at_call 25
  refine (callsIn_wide.2 (placeC 65536 0 _)).mono ?_
  rintro e v4 ⟨rfl, hp⟩
  gi_wp2_with fail
  refine ⟨trivial, ?_⟩
  gi_at_call 65
  refine (callsIn_wide.2 (set_Str tb mb (65536, 0) ⟨#[120]⟩ _ _ (HT.out.fr hp (by simp) (by simp)))).mono ?_
  rw [e7d, s7d]
  rintro e w5 ⟨rfl, hT, h1⟩
  replace hres := h1.heap (hp.heap hres (by simp)) (by simp; omega)
  have hf5 : Fr [] w w5 := (hf4.trans0 hp).trans h1 (by simp; omega)
  replace HT := Lib.hid hT
  clear h1 hT hp
  gi_wp2_with fail
  refine ⟨trivial, ?_⟩
  gi_at_call 25
  refine (callsIn_wide.2 (placeC 0 1 _)).mono ?_
  rintro e v5 ⟨rfl, hp⟩
  gi_wp2_with fail
  refine ⟨trivial, ?_⟩
  gi_at_call 66
  refine (callsIn_wide.2 (get_Str tb mb (0, 1) _ _ (HT.out.fr hp (by simp) (by simp)))).mono ?_
  rw [g7]
  rintro e w6 ⟨rfl, h1⟩
  replace hres := h1.heap (hp.heap hres (by simp)) (by simp)
  have hf6 : Fr [] w w6 := (hf5.trans0 hp).trans0 h1
  replace HT := Lib.hid (HT.out.fr (hp.trans0 h1) (by simp) (by simp))
  have htl := lt_of HT.out.tab
  have hml := HT.out.map.lt
  clear h1 hp
  gi_wp2_with fail
  refine ⟨trivial, ?_⟩
  gi_at_call 67
  refine (callsIn_wide.2 (all_Str tb mb l7 _ (HT.out.fr ((Fr.refl [] w6).alloc _) (by simp) (by simp)) (by decide))).mono ?_
  rw [rows7]
  rintro e w7 ⟨B1, rv1, rfl, hI1, h1⟩
  have hsb := h1.heap (heap_new w6 (.cells #[.string ⟨#[]⟩] 9)) (by simp)
  have hf7 : Fr [] w6 w7 := ((Fr.refl [] w6).alloc _).trans0 h1
  have hle1 := hI1.le
  have hlt1 := hI1.lt
  have hf6z := hf6.size
  replace hres := hf7.heap hres (by simp)
  replace HT := Lib.hid (HT.out.fr hf7 (by simp) (by simp))
  replace hf7 : Fr [] w w7 := hf6.trans0 hf7
  have HI1 := Lib.hid hI1
  have hsz1 : (w6.alloc (.cells #[.string ⟨#[]⟩] 9)).heap.size = w6.heap.size + 1 := by simp
  rw [hsz1] at hle1 HI1
  clear h1 hI1 hf6
  gi_wp2_with fail
  refine ⟨trivial, ?_⟩
  gi_at_call 68
  refine (callsIn_wide.2 (overA_Str tb mb l7 ⟨0, 0, 5, 0⟩ _ HT.out (by decide))).mono ?_
  rw [rows7o]
  rintro e w8 ⟨B2, rv2, rfl, hI2, h2⟩
  replace hsb := h2.heap hsb (by simp)
  replace hres := h2.heap hres (by simp)
  replace HT := Lib.hid (HT.out.fr h2 (by simp) (by simp))
  have hf8 : Fr [] w w8 := hf7.trans0 h2
  have hb1 := (h2.cell (p := ⟨B1, 0, none⟩) hlt1 (by simp)).trans HI1.out.box
  have hR1 := Lib.hid ((RIs.of_owns HI1.out.own).fr h2 (by simp))
  have HI2 := Lib.hid hI2
  have h2z := h2.size
  have hk1 : ∀ W W', Kept w8.heap.size [w6.heap.size] W W' → RIs W rv1 3 r7.length (r7.flatMap rowStr) → RIs W' rv1 3 r7.length (r7.flatMap rowStr) := fun W W' hk hr =>
    RIs.kept HI1.out.own h2z (by intro k hk; rw [List.mem_singleton] at hk; subst hk; intro e; have := (HI1.out.own.lt _ e).1; omega) hk hr
  have hk2 : ∀ (W0 : World), w8.heap.size ≤ W0.heap.size → ∀ W W', Kept W0.heap.size [w6.heap.size] W W' → RIs W rv2 3 r7o.length (r7o.flatMap rowStr) → RIs W' rv2 3 r7o.length (r7o.flatMap rowStr) := fun W0 h0 W W' hk hr =>
    RIs.kept HI2.out.own h0 (by intro k hk; rw [List.mem_singleton] at hk; subst hk; intro e; have := (HI2.out.own.lt _ e).1; omega) hk hr
  have hK1 := Lib.hid hk1
  have hK2 := Lib.hid hk2
  have hsl := lt_of hsb
  clear hI2 h2 hf7 hk1 hk2
  generalize w6.heap.size = sB at *
  have hfn := fnNilStr
  gi_wp2
  refine range_iter rfl (by omega) (gf := 125) (lb := #[.pointer (some ⟨B1, 0, none⟩)]) rfl trivial (enters_of Try.func125 (by kernel_rfl) rfl) [sB] (by simpa using hsl)
    (overK_Str 4 (by omega) B1 rv1 r7 _ hK1.out w8 hb1 (by omega) hR1.out (by decide)) (fun _ => rfl)
    (fun pre W => W.heap[sB]? = some (.cells #[.string (catS ⟨#[]⟩ (pre.map (·.1)))] 9 (0, 0))) (fun _ _ _ => False) (ownFrom_block _ _ _ hsl) (fun _ _ _ _ _ h _ _ => h) hsb ?_ ?_ ?_
  · intro l pre x W hJ hf
    gi_wp2
    refine ⟨(Fr.refl [] W).alloc _, ((Fr.refl [] W).alloc _).heap hJ (by simp), ?_⟩
    have hat0 := heap_new W (.cells #[.int .i64 x.1.1.1, .int .i64 x.1.1.2] 26)
    intro l2 pre2 W2 hrel hl2 hr2 hJ2 hf2 hlt
    have hat := hrel.block hat0
    have hsA := lt_of hJ
    clear hat0 hJ hf hrel
    generalize W.heap.size = A at *
    have hne1 : ¬ A = sB := by omega
    have hne2 : ¬ sB = A := by omega
    have hx : x.1.1.1 ≤ 1 := by
      have := x.2
      simp only [r7, List.mem_cons, List.not_mem_nil, or_false] at this
      rcases this with h | h | h <;> rw [h] <;> decide
    have c0 : W2.cell? ⟨A, 0, none⟩ = some (.int .i64 x.1.1.1) := cell_of hat 0
    have cs := cell_of hJ2 0
    have fs := free_of hJ2 0
    have hz1 := catS_size (pre2.map (·.1)) ⟨#[]⟩ (by intro y hy; obtain ⟨z, _, rfl⟩ := List.mem_map.1 hy; exact r7_one _ z.2)
    have hz2 := r7_one _ x.2
    rw [List.length_map] at hz1
    have hz3 : ((catS ⟨#[]⟩ (pre2.map (·.1))).size : Int) + (x.val.2.size : Int) ≤ 9223372036854775807 := by
      have h3 : r7.length = 3 := rfl
      have h0 : (ByteArray.mk #[]).size = 0 := rfl
      omega
    gi_wp2
    refine ⟨(Fr.refl [sB] W2).setCell (.inl (by simp)) _, ?_⟩
    refine (set_of hJ2 0 _).trans ?_
    simp [catS]
  · intro D xs W hD hT hJ hf hK
    have hc : catS ⟨#[]⟩ (xs.map (·.1)) = ⟨#[97, 98, 99]⟩ := by rw [show xs.map (·.1) = r7 from hT]; rfl
    rw [hc] at hJ
    gi_wp2
    have HI2' := HI2.out.lt
    have hsl2 := lt_of hJ
    have hb2 := (hf.cell (p := ⟨B2, 0, none⟩) HI2' (by have := HI2.out.le; simp; omega)).trans HI2.out.box
    have hDlt := lt_of hK
    refine range_iter rfl (by omega) (gf := 125) (lb := #[.pointer (some ⟨B2, 0, none⟩)]) rfl trivial (enters_of Try.func125 (by kernel_rfl) rfl) [sB] (by simpa using hsl2)
      (overK_Str 4 (by omega) B2 rv2 r7o _ (hK2.out W hf.size) W hb2 (Nat.lt_of_lt_of_le HI2' hf.size) ((RIs.of_owns HI2.out.own).fr hf (by intro g hg hm; rw [List.mem_singleton] at hm; subst hm; have := (HI2.out.own.lt _ hg).1; omega)) (by decide)) (fun _ => rfl)
      (fun pre W => W.heap[sB]? = some (.cells #[.string (catS ⟨#[97, 98, 99]⟩ (pre.map (·.1)))] 9 (0, 0))) (fun _ _ _ => False) (ownFrom_block _ _ _ hsl2) (fun _ _ _ _ _ h _ _ => h) hJ ?_ ?_ ?_
    · intro l pre x W3 hJ3 hf3
      gi_wp2
      refine ⟨Fr.refl [] _, hJ3, ?_⟩
      intro l2 pre2 W2 hrel hl2 hr2 hJ2 hf2 hlt
      clear hrel hJ3
      have cs := cell_of hJ2 0
      have fs := free_of hJ2 0
      have hz1 := catS_size (pre2.map (·.1)) ⟨#[97, 98, 99]⟩ (by intro y hy; obtain ⟨z, _, rfl⟩ := List.mem_map.1 hy; exact r7o_one _ z.2)
      have hz2 := r7o_one _ x.2
      rw [List.length_map] at hz1
      have hz3 : ((catS ⟨#[97, 98, 99]⟩ (pre2.map (·.1))).size : Int) + (x.val.2.size : Int) ≤ 9223372036854775807 := by
        have h3 : r7o.length = 2 := rfl
        have h0 : (ByteArray.mk #[97, 98, 99]).size = 3 := rfl
        omega
      gi_wp2
      refine ⟨(Fr.refl [sB] W2).setCell (.inl (by simp)) _, ?_⟩
      refine (set_of hJ2 0 _).trans ?_
      simp [catS]
    · intro D2 xs2 W9 hD2 hT2 hJ9 hf9 hK9
      have hc2 : catS ⟨#[97, 98, 99]⟩ (xs2.map (·.1)) = ⟨#[97, 98, 99, 97, 99]⟩ := by rw [show xs2.map (·.1) = r7o from hT2]; rfl
      rw [hc2] at hJ9
      have hK1' := hf9.heap hK (by simp; omega)
      have hW9 : Fr [sB] w8 W9 := hf.transS hf9
      have hT9 := Lib.hid (HT.out.fr hW9 (by simp; omega) (by simp; omega))
      have hres9 := hW9.heap hres (by simp; omega)
      have hc0 := cell_of hJ9 0
      gi_wp2_with fail
      refine ⟨trivial, ?_⟩
      gi_at_call 69
      refine (callsIn_wide.2 (len_Str tb mb l7 _ hT9.out)).mono ?_
      rintro e x1 ⟨rfl, h1⟩
      gi_wp2_with fail
      refine ⟨trivial, ?_⟩
      gi_at_call 25
      refine (callsIn_wide.2 (placeC 0 1 _)).mono ?_
      rintro e x2 ⟨rfl, h2⟩
      gi_wp2_with fail
      refine ⟨trivial, ?_⟩
      gi_at_call 70
      refine (callsIn_wide.2 (drop_Str tb mb (0, 1) l7 _ (hT9.out.fr (h1.trans0 h2) (by simp) (by simp)))).mono ?_
      rw [g7, d7]
      rintro e x3 ⟨rfl, hT3, h3⟩
      gi_wp2_with fail
      refine ⟨trivial, ?_⟩
      gi_at_call 25
      refine (callsIn_wide.2 (placeC 0 1 _)).mono ?_
      rintro e x4 ⟨rfl, h4⟩
      gi_wp2_with fail
      refine ⟨trivial, ?_⟩
      gi_at_call 70
      refine (callsIn_wide.2 (drop_Str tb mb (0, 1) l7d _ (hT3.fr h4 (by simp) (by simp)))).mono ?_
      rw [g7d]
      rintro e x5 ⟨rfl, hT5, h5⟩
      have hF : Fr [tb, mb] W9 x5 := ((((h1.mono (by simp)).trans0 h2).transS h3).trans0 h4).transS h5
      have hresF := hF.heap hres9 (by simp; omega)
      have hKF := hF.heap hK9 (by simp; omega)
      have hKG := hF.heap hK1' (by simp; omega)
      have hc9 := cell_of hresF 0
      have hf9' := free_of hresF 0
      gi_wp2
      have hFs : Fr [w.heap.size] x5 (x5.setCell ⟨w.heap.size, 0, none⟩ (.bool true)) := (Fr.refl _ x5).setCell (p := ⟨w.heap.size, 0, none⟩) (.inl (by simp)) _
      have hA2 := hFs.heap hKF (by simp; omega)
      have hA1 := hFs.heap hKG (by simp; omega)
      have hA0 := set_of hresF 0 (.bool true)
      have hFx : Fr [] w (x5.setCell ⟨w.heap.size, 0, none⟩ (.bool true)) := (((hf8.trans hW9 (by simp; omega)).trans hF (by simp; omega)).trans hFs (by simp))
      clear hKF hKG hresF hc9 hf9' hF
      generalize x5.setCell ⟨w.heap.size, 0, none⟩ (.bool true) = X at *
      have hB1 : (X.putObj D2 (.deferred none)).heap[D]? = some (.deferred (some [])) := (World.putObj_heap_other (by omega)).trans hA1
      refine ⟨by simp, .inl ⟨_, _, rfl, run_takeDeferred hA2, by simp, .inl ⟨_, _, rfl, run_takeDeferred hB1, ?_⟩⟩⟩
      have hg1 : ((X.putObj D2 (.deferred none)).putObj D (.deferred none)).heap[w.heap.size]? = (X.putObj D2 (.deferred none)).heap[w.heap.size]? := World.putObj_heap_other (by omega)
      have hg2 : (X.putObj D2 (.deferred none)).heap[w.heap.size]? = X.heap[w.heap.size]? := World.putObj_heap_other (by omega)
      have hcell : ((X.putObj D2 (.deferred none)).putObj D (.deferred none)).cell? ⟨w.heap.size, 0, none⟩ = some (.bool true) := cell_of (hg1.trans (hg2.trans hA0)) 0
      have hw8 := hf8.size
      refine ⟨.bool true, by simp [results, Try.results20, go_sem, hcell], rfl, (hFx.putObj (by omega) _).putObj (by omega) _⟩
    · intro D c pre W _ _ h _
      exact h.elim
  · intro D c pre W _ _ h _
    exact h.elim

theorem begun7 (w : World) : Calls Try.prog 20 #[] w fun e w1 => e = .returned (.bool true) ∧ Fr [] w w1 := callsIn_wide.1 (begun7_in w)
end Go.Proofs.Ytldppdafgbipjaa
