/-
  sort.Sort over a type of the caller's whose methods may lay new blocks: what is asked of the methods; insertionSort, reverseRange.
  sort.order2, median, medianAdjacent, choosePivot: some place within, and the data as they were.
  sort.nextPowerOfTwo, (*sort.xorshift).Next, sort.breakPatterns; math/bits.Len.
-/
import Derived.Test.YtdlpbpohbkcafaaGreatProg
import Derived.Test.YtdlpbpohbkcafaaGreatBase
import Derived.Shelf.Abstract
import Derived.Sort.LotA
import Derived.Sort.LotB
import Derived.Sort.LotC
import Derived.Sort.LotD3
import Derived.Shelf.Lay
import Derived.Shelf.SlGeneric
import Derived.Shelf.SlSortFunc.Xorshift
import Derived.Shelf.Small.Bits
import Derived.Ground.GgsProg
import Derived.Ground.NamesProg
namespace Go.Proofs.YtdlpbpohbkcafaaGreat
section
open Go.RowKit Go.Sort

/-- A type's three methods, as a sort meets them: V d: what is sorted stands as d; X: the blocks that a swap turns. -/
structure SvM {α : Type} [Inhabited α] (T : TypeId) (rv : Value) (gl gs : Nat) (lt : α → α → Bool) (N : Nat) (X : List Nat) (V : Array α → World → Prop) : Prop where
  mL : ∀ w, (method (Tryz.prog.types.size + 100) T rv "Less").run Tryz.prog w = .ok (gl, rv) w
  mS : ∀ w, (method (Tryz.prog.types.size + 100) T rv "Swap").run Tryz.prog w = .ok (gs, rv) w
  eL : ∀ args w, (callFunc gl args).run Tryz.prog w = .ok (.enter gl args) w
  eS : ∀ args w, (callFunc gs args).run Tryz.prog w = .ok (.enter gs args) w
  st : ∀ d (w w1 : World) (S : List Nat), V d w → Fr S w w1 → (∀ b ∈ S, b ∉ X) → V d w1
  xlt : ∀ d w, V d w → ∀ b ∈ X, b < w.heap.size
  less : ∀ d w, d.size = N → V d w → ∀ i j : Nat, i < N → j < N → Calls Tryz.prog gl #[rv, .int .i64 (i : Int), .int .i64 (j : Int)] w fun e w1 => e = .returned (.bool (lt d[i]! d[j]!)) ∧ Fr [] w w1
  swap : ∀ d w, d.size = N → V d w → ∀ i j : Nat, i < N → j < N → Calls Tryz.prog gs #[rv, .int .i64 (i : Int), .int .i64 (j : Int)] w fun e w1 => e = .returned (.tuple #[]) ∧ V (swp d i j) w1 ∧ Fr X w w1
def SvP (X : List Nat) (F : World → Prop) (w : World) (e : Ending) (w1 : World) : Prop := e = .returned (.tuple #[]) ∧ F w1 ∧ Fr X w w1
section
variable {α : Type} [Inhabited α] {T : TypeId} {rv : Value} {gl gs : Nat} {lt : α → α → Bool} {N : Nat} {X : List Nat} {V : Array α → World → Prop}
theorem SvM.st0 (h : SvM T rv gl gs lt N X V) {d : Array α} {w w1 : World} (hV : V d w) (hf : Fr [] w w1) : V d w1 := h.st d w w1 [] hV hf (by simp)
theorem sub1 {j : Nat} (h : 0 < j) : (((j - 1 : Nat) : Nat) : Int) = (j : Int) - 1 := by omega
theorem insInner_stop' {a j : Nat} {d : Array α} (h : j ≤ a ∨ lt d[j]! d[j - 1]! = false) : insInner lt a j d = d := by
  cases j with
  | zero => rfl
  | succ j =>
    unfold insInner
    rcases h with h | h
    · rw [show decide (j + 1 > a) = false from decide_eq_false (by omega)]; rfl
    · rw [Nat.add_sub_cancel] at h
      rw [h, Bool.and_false]; rfl
theorem insInner_go' {a j : Nat} {d : Array α} (h1 : a < j) (h2 : lt d[j]! d[j - 1]! = true) : insInner lt a j d = insInner lt a (j - 1) (swp d j (j - 1)) := by
  cases j with
  | zero => omega
  | succ j =>
    rw [Nat.add_sub_cancel] at h2 ⊢
    conv => lhs; unfold insInner
    rw [h2, show decide (j + 1 > a) = true from decide_eq_true (by omega)]; rfl
theorem insOuter_go' {a b i : Nat} {d : Array α} (h : i < b) : insOuter lt a b i d = insOuter lt a b (i + 1) (insInner lt a i d) := by
  conv => lhs; unfold insOuter
  rw [if_pos h]
theorem insOuter_stop' {a b i : Nat} {d : Array α} (h : ¬ i < b) : insOuter lt a b i d = d := by
  unfold insOuter
  rw [if_neg h]
set_option maxHeartbeats 1600000 in
set_option maxRecDepth 100000 in
theorem svIns (h : SvM T rv gl gs lt N X V) (hN : N < 4611686018427387904) (a b : Nat) (d : Array α) (w : World) (hd : d.size = N) (hV : V d w) (hab : a ≤ b) (hb : b ≤ N) :
    Calls Tryz.prog 98 #[.iface T rv, .int .i64 (a : Int), .int .i64 (b : Int)] w (SvP X (V (insertionSort lt d a b)) w) := by
  have mL := h.mL
  have mS := h.mS
  simp [go_sem] at mL mS
  have eL := h.eL
  have eS := h.eS
  have H := Lib.hid h
  have HV := Lib.hid hV
  have HD := Lib.hid hd
  clear h hV hd
  go_enter Tryz.func98, Tryz.ntmps98
  go_wp2_with fail
  go_loopw [6] (fun vi wr => ∃ (i : Nat) (dk : Array α), vi = .int .i64 (i : Int) ∧ a < i ∧ i ≤ b + 1 ∧ dk.size = N ∧ V dk wr ∧ Fr X w wr ∧ insOuter lt a b i dk = insOuter lt a b (a + 1) d) (fun vi _ => b + 1 - (intOf vi).toNat)
  case atStart => exact ⟨a + 1, d, by go_num, by omega, by omega, HD.out, HV.out, Fr.refl _ _, rfl⟩
  case round =>
    obtain ⟨i, dk, rfl, hai, hib, hsk, hVk, hfk, hO⟩ := hrel
    have HSK := Lib.hid hsk
    have HVK := Lib.hid hVk
    have HFK := Lib.hid hfk
    have HO := Lib.hid hO
    clear hsk hVk hfk hO
    by_cases hlt : i < b
    · have hlt1 : (i : Int) < (b : Int) := by omega
      go_wp2_with fail
      go_loopw [7] (fun vj wr => ∃ (j : Nat) (dj : Array α), vj = .int .i64 (j : Int) ∧ a ≤ j ∧ j ≤ i ∧ dj.size = N ∧ V dj wr ∧ Fr X w wr ∧ insInner lt a j dj = insInner lt a i dk) (fun vj _ => (intOf vj).toNat)
      case atStart => exact ⟨i, dk, rfl, by omega, by omega, HSK.out, HVK.out, HFK.out, rfl⟩
      case round =>
        obtain ⟨j, dj, rfl, haj, hji, hsj, hVj, hfj, hI⟩ := hrel
        have HSJ := Lib.hid hsj
        have HVJ := Lib.hid hVj
        have HFJ := Lib.hid hfj
        have HI := Lib.hid hI
        clear hsj hVj hfj hI
        have OUT : Hid ((j ≤ a ∨ lt dj[j]! dj[j - 1]! = false) → insOuter lt a b (i + 1) dj = insOuter lt a b (a + 1) d) := fun hs => by
          rw [← HO.out, insOuter_go' hlt, ← HI.out, insInner_stop' hs]
        by_cases hja : a < j
        · have hja1 : (a : Int) < (j : Int) := by omega
          have hj1 := sub1 (j := j) (by omega)
          cases hlv : lt dj[j]! dj[j - 1]! with
          | true =>
            have HGO : Hid (insInner lt a (j - 1) (swp dj j (j - 1)) = insInner lt a i dk) := by
              show _ = _
              rw [← HI.out, insInner_go' hja hlv]
            have hl := H.out.less dj wr HSJ.out HVJ.out j (j - 1) (by omega) (by omega)
            rw [hlv, hj1] at hl
            have HSW : Hid (∀ w1, Fr [] wr w1 → Calls Tryz.prog gs #[rv, .int .i64 (j : Int), .int .i64 ((j : Int) - 1)] w1 fun e w2 => e = .returned (.tuple #[]) ∧ V (swp dj j (j - 1)) w2 ∧ Fr X w1 w2) := fun w1 hf => by
              have := H.out.swap dj w1 HSJ.out (H.out.st0 HVJ.out hf) j (j - 1) (by omega) (by omega)
              rw [hj1] at this
              exact this
            have HL := Lib.hid hl
            clear hlv hl hj1
            go_wp2_with fail
            refine HL.out.mono ?_
            rintro e w1 ⟨rfl, h1⟩
            go_wp2_with fail
            refine (HSW.out _ h1).mono ?_
            rintro e w2 ⟨rfl, hV2, hf2⟩
            have HV2 := Lib.hid hV2
            have hff := (HFJ.out.trans0 h1).transS hf2
            clear hV2 hf2 h1
            go_wp2
            go_roundw
            case rel => exact ⟨j - 1, swp dj j (j - 1), by rw [sub1 (by omega)], by omega, by omega, by rw [size_swp]; exact HSJ.out, HV2.out, hff, HGO.out⟩
            case measure => simp [intOf]; omega
          | false =>
            have hO2 := Lib.hid (OUT.out (.inr hlv))
            have hl := H.out.less dj wr HSJ.out HVJ.out j (j - 1) (by omega) (by omega)
            rw [hlv, hj1] at hl
            have HL := Lib.hid hl
            clear hlv hl hj1
            go_wp2_with fail
            refine HL.out.mono ?_
            rintro e w1 ⟨rfl, h1⟩
            have hff := HFJ.out.trans0 h1
            have HV2 := Lib.hid (H.out.st0 HVJ.out h1)
            clear h1
            go_wp2
            go_roundw
            case rel => exact ⟨i + 1, dj, by go_num, by omega, by omega, HSJ.out, HV2.out, hff, hO2.out⟩
            case measure => simp [intOf]; omega
        · have hO2 := Lib.hid (OUT.out (.inl (by omega)))
          go_wp2
          go_roundw
          case rel => exact ⟨i + 1, dj, by go_num, by omega, by omega, HSJ.out, HVJ.out, HFJ.out, hO2.out⟩
          case measure => simp [intOf]; omega
    · have hE : Hid (insertionSort lt d a b = dk) := by
        show insOuter lt a b (a + 1) d = dk
        rw [← HO.out, insOuter_stop' hlt]
      go_wp2
      go_end0
      refine ⟨rfl, ?_, HFK.out⟩
      rw [hE.out]
      exact HVK.out
/-- What is as it was but for an order within [a, b). -/
def SvPm (X : List Nat) (V : Array α → World → Prop) (a b : Nat) (d : Array α) (w : World) (e : Ending) (w1 : World) : Prop := e = .returned (.tuple #[]) ∧ (∃ d', PermIn a b d d' ∧ V d' w1) ∧ Fr X w w1
set_option maxHeartbeats 1600000 in
set_option maxRecDepth 100000 in
theorem svRev (h : SvM T rv gl gs lt N X V) (hN : N < 4611686018427387904) (a b : Nat) (d : Array α) (w : World) (hd : d.size = N) (hV : V d w) (hab : a < b) (hb : b ≤ N) :
    Calls Tryz.prog 102 #[.iface T rv, .int .i64 (a : Int), .int .i64 (b : Int)] w (SvPm X V a b d w) := by
  have mS := h.mS
  simp [go_sem] at mS
  have eS := h.eS
  have H := Lib.hid h
  have HV := Lib.hid hV
  have HD := Lib.hid hd
  clear h hV hd
  go_enter Tryz.func102, Tryz.ntmps102
  go_wp2_with fail
  go_loopw [6, 7] (fun vi vj wr => ∃ (i j : Nat) (dk : Array α), vi = .int .i64 (i : Int) ∧ vj = .int .i64 (j : Int) ∧ a ≤ i ∧ j < b ∧ (i ≤ j ∨ j + 2 ≥ i) ∧ PermIn a b d dk ∧ V dk wr ∧ Fr X w wr) (fun vi vj _ => (intOf vj - intOf vi).toNat)
  case atStart => exact ⟨a, b - 1, d, rfl, by rw [sub1 (by omega)], by omega, by omega, by omega, permIn_refl _ _ _, HV.out, Fr.refl _ _⟩
  case round =>
    obtain ⟨i, j, dk, rfl, rfl, hai, hjb, hij, hp, hVk, hfk⟩ := hrel
    have HP := Lib.hid hp
    have HVK := Lib.hid hVk
    have HFK := Lib.hid hfk
    clear hp hVk hfk
    by_cases hlt : i < j
    · have hlt1 : (i : Int) < (j : Int) := by omega
      have HDK : Hid (dk.size = N) := by show _ = _; rw [HP.out.1]; exact HD.out
      have HSW := Lib.hid (H.out.swap dk wr HDK.out HVK.out i j (by omega) (by omega))
      have HPS : Hid (PermIn a b d (swp dk i j)) := permIn_trans _ _ _ a b HP.out (swp_permIn _ _ _ _ _ hai (by omega) (by omega) hjb (by rw [HDK.out]; exact hb))
      go_wp2_with fail
      refine HSW.out.mono ?_
      rintro e w2 ⟨rfl, hV2, hf2⟩
      have HV2 := Lib.hid hV2
      have hff := HFK.out.transS hf2
      clear hV2 hf2
      go_wp2
      go_roundw
      case rel => exact ⟨i + 1, j - 1, swp dk i j, by go_num, by rw [sub1 (by omega)], by omega, by omega, by omega, HPS.out, HV2.out, hff⟩
      case measure => simp [intOf]; omega
    · go_wp2
      go_end0
      exact ⟨rfl, ⟨dk, HP.out, HVK.out⟩, HFK.out⟩
end
end
section
open Go.RowKit Go.Sort

section
variable {α : Type} [Inhabited α] {T : TypeId} {rv : Value} {gl gs : Nat} {lt : α → α → Bool} {N : Nat} {X : List Nat} {V : Array α → World → Prop}
/-- The count of swaps, in a block of its own. -/
def SbAt (sb : Nat) (w : World) : Prop := ∃ c : Int, w.heap[sb]? = some (.cells #[.int .i64 c] 3 (0, 0))
theorem SbAt.fr0 {sb : Nat} {w w1 : World} (h : SbAt sb w) (hf : Fr [] w w1) : SbAt sb w1 := by
  obtain ⟨c, hc⟩ := h
  exact ⟨c, hf.heap hc (by simp)⟩
def O2P (sb a b : Nat) (F : World → Prop) (w : World) (e : Ending) (w1 : World) : Prop := ∃ x y : Nat, e = .returned (.tuple #[.int .i64 (x : Int), .int .i64 (y : Int)]) ∧ ((x = a ∧ y = b) ∨ (x = b ∧ y = a)) ∧ SbAt sb w1 ∧ F w1 ∧ Fr [sb] w w1
set_option maxRecDepth 100000 in
theorem svOrder2 (h : SvM T rv gl gs lt N X V) (_hN : N < 4611686018427387904) (a b sb : Nat) (d : Array α) (w : World) (hd : d.size = N) (hV : V d w) (ha : a < N) (hb : b < N) (hs : SbAt sb w) (hsX : sb ∉ X) :
    Calls Tryz.prog 120 #[.iface T rv, .int .i64 (a : Int), .int .i64 (b : Int), .pointer (some ⟨sb, 0, none⟩)] w (O2P sb a b (V d) w) := by
  have mL := h.mL
  simp [go_sem] at mL
  have eL := h.eL
  have H := Lib.hid h
  have HV := Lib.hid hV
  have HD := Lib.hid hd
  have HS := Lib.hid hs
  have hl := h.less d w hd hV b a hb ha
  clear h hV hd hs
  cases hlv : lt d[b]! d[a]! with
  | true =>
    rw [hlv] at hl
    have HL := Lib.hid hl
    clear hl hlv
    go_enter Tryz.func120, Tryz.ntmps120
    go_wp2_with fail
    refine HL.out.mono ?_
    rintro e w1 ⟨rfl, h1⟩
    obtain ⟨c, hc⟩ := HS.out.fr0 h1
    have HC := Lib.hid hc
    have c0 := cell_of hc 0
    have f0 := free_of hc 0
    have hsl := lt_of hc
    have H1 := Lib.hid h1
    clear h1 hc
    go_wp2
    go_ret2
    refine ⟨b, a, rfl, .inr ⟨rfl, rfl⟩, ⟨_, set_of HC.out 0 _⟩, H.out.st d _ _ [sb] (H.out.st0 HV.out H1.out) ((Fr.refl [sb] w1).setCell (.inl (by simp)) _) (by simpa using hsX), (H1.out.mono (by simp)).setCell (.inl (by simp)) _⟩
  | false =>
    rw [hlv] at hl
    have HL := Lib.hid hl
    clear hl hlv
    go_enter Tryz.func120, Tryz.ntmps120
    go_wp2_with fail
    refine HL.out.mono ?_
    rintro e w1 ⟨rfl, h1⟩
    have H1 := Lib.hid h1
    clear h1
    go_wp2
    go_ret2
    exact ⟨a, b, rfl, .inl ⟨rfl, rfl⟩, HS.out.fr0 H1.out, H.out.st0 HV.out H1.out, H1.out.mono (by simp)⟩
def MedP (sb : Nat) (R : Nat → Prop) (F : World → Prop) (w : World) (e : Ending) (w1 : World) : Prop := ∃ x : Nat, e = .returned (.int .i64 (x : Int)) ∧ R x ∧ SbAt sb w1 ∧ F w1 ∧ Fr [sb] w w1
set_option maxRecDepth 100000 in
theorem svMedian (h : SvM T rv gl gs lt N X V) (hN : N < 4611686018427387904) (a b c sb : Nat) (d : Array α) (w : World) (hd : d.size = N) (hV : V d w) (ha : a < N) (hb : b < N) (hc : c < N) (hs : SbAt sb w) (hsX : sb ∉ X) :
    Calls Tryz.prog 117 #[.iface T rv, .int .i64 (a : Int), .int .i64 (b : Int), .int .i64 (c : Int), .pointer (some ⟨sb, 0, none⟩)] w (MedP sb (fun x => x = a ∨ x = b ∨ x = c) (V d) w) := by
  have H := Lib.hid h
  have HV := Lib.hid hV
  have HD := Lib.hid hd
  have HS := Lib.hid hs
  clear h hV hd hs
  go_enter Tryz.func117, Tryz.ntmps117
  go_wp2_with fail
  refine (svOrder2 H.out hN a b sb d _ HD.out HV.out ha hb HS.out hsX).mono ?_
  rintro e w1 ⟨x, y, rfl, hxy, hs1, hv1, h1⟩
  have HXY := Lib.hid hxy
  have HS1 := Lib.hid hs1
  have HV1 := Lib.hid hv1
  have H1 := Lib.hid h1
  clear hxy hs1 hv1 h1
  go_wp2_with fail
  refine (svOrder2 H.out hN y c sb d _ HD.out HV1.out (by have := HXY.out; omega) hc HS1.out hsX).mono ?_
  rintro e w2 ⟨y2, z, rfl, hyz, hs2, hv2, h2⟩
  have HYZ := Lib.hid hyz
  have HS2 := Lib.hid hs2
  have HV2 := Lib.hid hv2
  have H2 := Lib.hid h2
  clear hyz hs2 hv2 h2
  go_wp2_with fail
  refine (svOrder2 H.out hN x y2 sb d _ HD.out HV2.out (by have := HXY.out; omega) (by have := HXY.out; have := HYZ.out; omega) HS2.out hsX).mono ?_
  rintro e w3 ⟨x3, y3, rfl, hxy3, hs3, hv3, h3⟩
  have HXY3 := Lib.hid hxy3
  have HS3 := Lib.hid hs3
  have HV3 := Lib.hid hv3
  have H3 := Lib.hid h3
  clear hxy3 hs3 hv3 h3
  go_wp2
  go_ret
  exact ⟨y3, rfl, by have h1 := HXY.out; have h2 := HYZ.out; have h3 := HXY3.out; omega, HS3.out, HV3.out, (H1.out.transS H2.out).transS H3.out⟩
set_option maxRecDepth 100000 in
theorem svMedAdj (h : SvM T rv gl gs lt N X V) (hN : N < 4611686018427387904) (a sb : Nat) (d : Array α) (w : World) (hd : d.size = N) (hV : V d w) (ha : 0 < a) (ha2 : a + 1 < N) (hs : SbAt sb w) (hsX : sb ∉ X) :
    Calls Tryz.prog 116 #[.iface T rv, .int .i64 (a : Int), .pointer (some ⟨sb, 0, none⟩)] w (MedP sb (fun x => a ≤ x + 1 ∧ x ≤ a + 1) (V d) w) := by
  have HM := Lib.hid (svMedian h hN (a - 1) a (a + 1) sb d w hd hV (by omega) (by omega) ha2 hs hsX)
  have h1 := sub1 ha
  have h2 : ((a + 1 : Nat) : Int) = (a : Int) + 1 := by omega
  rw [h1, h2] at HM
  clear h hV hd hs h1 h2
  go_enter Tryz.func116, Tryz.ntmps116
  go_wp2_with fail
  refine HM.out.mono ?_
  rintro e w3 ⟨x, rfl, hx, hs3, hv3, h3⟩
  have HX := Lib.hid hx
  have HS3 := Lib.hid hs3
  have HV3 := Lib.hid hv3
  have H3 := Lib.hid h3
  clear hx hs3 hv3 h3
  go_wp2
  go_ret
  exact ⟨x, rfl, by have := HX.out; omega, HS3.out, HV3.out, H3.out⟩
/-- Some place within, and a hint. -/
def PivP (a b : Nat) (F : World → Prop) (w : World) (e : Ending) (w1 : World) : Prop := ∃ p hnt : Nat, e = .returned (.tuple #[.int .i64 (p : Int), .int .i64 (hnt : Int)]) ∧ a ≤ p ∧ p < b ∧ hnt ≤ 2 ∧ F w1 ∧ Fr [] w w1
set_option maxRecDepth 100000 in
set_option maxHeartbeats 1600000 in
theorem svPivot (h : SvM T rv gl gs lt N X V) (hN : N < 4611686018427387904) (a b : Nat) (d : Array α) (w : World) (hd : d.size = N) (hV : V d w) (hab : a < b) (hb : b ≤ N) :
    Calls Tryz.prog 101 #[.iface T rv, .int .i64 (a : Int), .int .i64 (b : Int)] w (PivP a b (V d) w) := by
  have H := Lib.hid h
  have HV := Lib.hid hV
  have HD := Lib.hid hd
  obtain ⟨l, hl⟩ : ∃ l, b = a + l := ⟨b - a, by omega⟩
  subst hl
  have hba : (a : Int) + (l : Int) - (a : Int) = (l : Int) := by omega
  obtain ⟨q, hq⟩ : ∃ q, l / 4 = q := ⟨_, rfl⟩
  have hq1 : (l : Int) / 4 = (q : Int) := by omega
  have hq2 : 4 * q ≤ l ∧ l < 4 * q + 4 := by omega
  have HQ := Lib.hid hq
  have hnX : w.heap.size ∉ X := fun hm => by have := h.xlt d w hV _ hm; omega
  have hB0 := heap_new w (.cells #[.int .i64 0] 3)
  have hF0 : Fr [] w (w.alloc (.cells #[.int .i64 0] 3)) := (Fr.refl [] w).alloc _
  have HV0 := Lib.hid (h.st0 hV hF0)
  have HS0 : Hid (SbAt w.heap.size (w.alloc (.cells #[.int .i64 0] 3))) := ⟨0, hB0⟩
  have HNX := Lib.hid hnX
  -- the end, whatever place came out
  have END : ∀ (p : Nat) (w3 : World), a ≤ p → p < a + l → SbAt w.heap.size w3 → V d w3 → Fr [w.heap.size] (w.alloc (.cells #[.int .i64 0] 3)) w3 → ∃ c : Int, w3.heap[w.heap.size]? = some (.cells #[.int .i64 c] 3 (0, 0)) ∧ ∀ hnt : Nat, hnt ≤ 2 → PivP a (a + l) (V d) w (.returned (.tuple #[.int .i64 (p : Int), .int .i64 (hnt : Int)])) w3 := fun p w3 h1 h2 hs hv hf => by
    obtain ⟨c, hc⟩ := hs
    exact ⟨c, hc, fun hnt hh => ⟨p, hnt, rfl, h1, h2, hh, hv, hF0.trans hf (fun x hx => .inr (by rw [List.mem_singleton] at hx; omega))⟩⟩
  have HEND := Lib.hid END
  clear h hV hd hq hnX hB0 hF0 END
  by_cases h8 : 8 ≤ l
  · have h81 : (8 : Int) ≤ (l : Int) := by omega
    by_cases h50 : 50 ≤ l
    · have h501 : (50 : Int) ≤ (l : Int) := by omega
      go_enter Tryz.func101, Tryz.ntmps101
      go_wp2_with fail
      have m1 := svMedAdj H.out hN (a + q) w.heap.size d _ HD.out HV0.out (by omega) (by omega) HS0.out HNX.out
      rw [show ((a + q : Nat) : Int) = (a : Int) + (q : Int) by omega] at m1
      refine m1.mono ?_
      rintro e w1 ⟨x, rfl, hx, hs1, hv1, h1⟩
      have HX := Lib.hid hx
      have HS1 := Lib.hid hs1
      have HV1 := Lib.hid hv1
      have H1 := Lib.hid h1
      clear hx hs1 hv1 h1 m1
      go_wp2_with fail
      have m2 := svMedAdj H.out hN (a + q * 2) w.heap.size d _ HD.out HV1.out (by omega) (by omega) HS1.out HNX.out
      rw [show ((a + q * 2 : Nat) : Int) = (a : Int) + (q : Int) * 2 by omega] at m2
      refine m2.mono ?_
      rintro e w2 ⟨y, rfl, hy, hs2, hv2, h2⟩
      have HY := Lib.hid hy
      have HS2 := Lib.hid hs2
      have HV2 := Lib.hid hv2
      have H2 := Lib.hid (H1.out.transS h2)
      clear hy hs2 hv2 h2 m2
      go_wp2_with fail
      have m3 := svMedAdj H.out hN (a + q * 3) w.heap.size d _ HD.out HV2.out (by omega) (by omega) HS2.out HNX.out
      rw [show ((a + q * 3 : Nat) : Int) = (a : Int) + (q : Int) * 3 by omega] at m3
      refine m3.mono ?_
      rintro e w3 ⟨z, rfl, hz, hs3, hv3, h3⟩
      have HZ := Lib.hid hz
      have HS3 := Lib.hid hs3
      have HV3 := Lib.hid hv3
      have H3 := Lib.hid (H2.out.transS h3)
      clear hz hs3 hv3 h3 m3
      go_wp2_with fail
      refine (svMedian H.out hN x y z w.heap.size d _ HD.out HV3.out (by have := HX.out; omega) (by have := HY.out; omega) (by have := HZ.out; omega) HS3.out HNX.out).mono ?_
      rintro e w4 ⟨p, rfl, hp, hs4, hv4, h4⟩
      have hpr : a ≤ p ∧ p < a + l := by
        have h1 := HX.out
        have h2 := HY.out
        have h3 := HZ.out
        omega
      have HS4 := Lib.hid hs4
      have HV4 := Lib.hid hv4
      have H4 := Lib.hid (H3.out.transS h4)
      clear hp hs4 hv4 h4
      go_upto_region 12 with fail
      obtain ⟨c, hc, hp⟩ := HEND.out (p) _ (by omega) (by omega) HS4.out HV4.out H4.out
      have HP := Lib.hid hp
      have c0 := cell_of hc 0
      have hcl := lt_of hc
      clear hc hp
      by_cases h0 : c = 0
      · subst h0
        go_wp2
        go_ret2
        exact HP.out 1 (by omega)
      · by_cases h12 : c = 12
        · subst h12
          go_wp2
          go_ret2
          exact HP.out 2 (by omega)
        · have h0b : (c == 0) = false := by rw [beq_eq_false_iff_ne]; exact h0
          have h12b : (c == 12) = false := by rw [beq_eq_false_iff_ne]; exact h12
          go_wp2
          go_ret2
          exact HP.out 0 (by omega)
    · have h501 : ¬ (50 : Int) ≤ (l : Int) := by omega
      go_enter Tryz.func101, Tryz.ntmps101
      go_wp2_with fail
      have m1 := svMedian H.out hN (a + q) (a + q * 2) (a + q * 3) w.heap.size d _ HD.out HV0.out (by omega) (by omega) (by omega) HS0.out HNX.out
      rw [show ((a + q : Nat) : Int) = (a : Int) + (q : Int) by omega, show ((a + q * 2 : Nat) : Int) = (a : Int) + (q : Int) * 2 by omega, show ((a + q * 3 : Nat) : Int) = (a : Int) + (q : Int) * 3 by omega] at m1
      refine m1.mono ?_
      rintro e w4 ⟨p, rfl, hp, hs4, hv4, h4⟩
      have hpr : a ≤ p ∧ p < a + l := by omega
      have HS4 := Lib.hid hs4
      have HV4 := Lib.hid hv4
      have H4 := Lib.hid h4
      clear hp hs4 hv4 h4 m1
      go_upto_region 12 with fail
      obtain ⟨c, hc, hp⟩ := HEND.out (p) _ (by omega) (by omega) HS4.out HV4.out H4.out
      have HP := Lib.hid hp
      have c0 := cell_of hc 0
      have hcl := lt_of hc
      clear hc hp
      by_cases h0 : c = 0
      · subst h0
        go_wp2
        go_ret2
        exact HP.out 1 (by omega)
      · by_cases h12 : c = 12
        · subst h12
          go_wp2
          go_ret2
          exact HP.out 2 (by omega)
        · have h0b : (c == 0) = false := by rw [beq_eq_false_iff_ne]; exact h0
          have h12b : (c == 12) = false := by rw [beq_eq_false_iff_ne]; exact h12
          go_wp2
          go_ret2
          exact HP.out 0 (by omega)
  · have h81 : ¬ (8 : Int) ≤ (l : Int) := by omega
    obtain ⟨p, hp⟩ : ∃ p, p = a + q * 2 := ⟨_, rfl⟩
    have hpi : (a : Int) + (q : Int) * 2 = (p : Int) := by omega
    have HPI := Lib.hid hp
    clear hp
    go_enter Tryz.func101, Tryz.ntmps101
    go_upto_region 12 with fail
    obtain ⟨c, hc, hp⟩ := HEND.out (p) _ (by have := HPI.out; omega) (by have := HPI.out; omega) HS0.out HV0.out (Fr.refl _ _)
    have HP := Lib.hid hp
    have c0 := cell_of hc 0
    have hcl := lt_of hc
    clear hc hp
    by_cases h0 : c = 0
    · subst h0
      go_wp2
      go_ret2
      exact HP.out 1 (by omega)
    · by_cases h12 : c = 12
      · subst h12
        go_wp2
        go_ret2
        exact HP.out 2 (by omega)
      · have h0b : (c == 0) = false := by rw [beq_eq_false_iff_ne]; exact h0
        have h12b : (c == 12) = false := by rw [beq_eq_false_iff_ne]; exact h12
        go_wp2
        go_ret2
        exact HP.out 0 (by omega)
end
end
section
open Go.RowKit Go.Shelf Go.Sort Go.Proofs

def Tryz.xnextL_ren : Go.Shelf.Ren := ⟨fun | 36 => 115 | n => n, fun | 66 => 173 | 51 => 129 | 0 => 0 | 60 => 168 | 41 => 102 | n => n, fun | n => n⟩
theorem Tryz.xnextL : Go.Proofs.LaysGg.n36 Tryz.prog Tryz.xnextL_ren where
  mixed := by kernel_rfl
  f36 := Tryz.func115.trans (congrArg some (by kernel_rfl))
  t0 := Tryz.underlying0
  a0 := Tryz.isAgg0
  z0 := Tryz.sizeOf0
  v0 := Tryz.zeroValue0
  i0 := by kernel_rfl
  t41 := Tryz.underlying102
  a41 := Tryz.isAgg102
  z41 := Tryz.sizeOf102
  v41 := Tryz.zeroValue102
  i41 := by kernel_rfl
  t51 := Tryz.underlying129
  a51 := Tryz.isAgg129
  z51 := Tryz.sizeOf129
  v51 := Tryz.zeroValue129
  i51 := by kernel_rfl
  t60 := Tryz.underlying168
  a60 := Tryz.isAgg168
  z60 := Tryz.sizeOf168
  v60 := Tryz.zeroValue168
  i60 := by kernel_rfl
  t66 := Tryz.underlying173
  a66 := Tryz.isAgg173
  z66 := Tryz.sizeOf173
  v66 := Tryz.zeroValue173
  i66 := by kernel_rfl
def Tryz.nptL_ren : Go.Shelf.Ren := ⟨fun | 35 => 114 | 13 => 48 | 24 => 71 | 25 => 72 | n => n, fun | 3 => 3 | 41 => 102 | 49 => 127 | 51 => 129 | 4 => 4 | 5 => 5 | 9 => 9 | n => n, fun | n => n⟩
theorem Tryz.nptL : Go.Proofs.LaysGg.n35 Tryz.prog Tryz.nptL_ren where
  mixed := by kernel_rfl
  f13 := Tryz.func48.trans (congrArg some (by kernel_rfl))
  f24 := Tryz.func71.trans (congrArg some (by kernel_rfl))
  f25 := Tryz.func72.trans (congrArg some (by kernel_rfl))
  f35 := Tryz.func114.trans (congrArg some (by kernel_rfl))
  t3 := Tryz.underlying3
  a3 := Tryz.isAgg3
  z3 := Tryz.sizeOf3
  v3 := Tryz.zeroValue3
  i3 := by kernel_rfl
  t4 := Tryz.underlying4
  a4 := Tryz.isAgg4
  z4 := Tryz.sizeOf4
  v4 := Tryz.zeroValue4
  i4 := by kernel_rfl
  t5 := Tryz.underlying5
  a5 := Tryz.isAgg5
  z5 := Tryz.sizeOf5
  v5 := Tryz.zeroValue5
  i5 := by kernel_rfl
  t9 := Tryz.underlying9
  a9 := Tryz.isAgg9
  z9 := Tryz.sizeOf9
  v9 := Tryz.zeroValue9
  i9 := by kernel_rfl
  t41 := Tryz.underlying102
  a41 := Tryz.isAgg102
  z41 := Tryz.sizeOf102
  v41 := Tryz.zeroValue102
  i41 := by kernel_rfl
  t49 := Tryz.underlying127
  a49 := Tryz.isAgg127
  z49 := Tryz.sizeOf127
  v49 := Tryz.zeroValue127
  i49 := by kernel_rfl
  t51 := Tryz.underlying129
  a51 := Tryz.isAgg129
  z51 := Tryz.sizeOf129
  v51 := Tryz.zeroValue129
  i51 := by kernel_rfl
def Tryz.bitsL_ren : Go.Shelf.Ren := ⟨fun | 125 => 48 | 128 => 71 | 129 => 72 | n => n, fun | 46 => 102 | 3 => 3 | 51 => 127 | 53 => 129 | 4 => 4 | 5 => 5 | 9 => 9 | n => n, fun | n => n⟩
theorem Tryz.bitsL : Go.Proofs.Lays.n125 Tryz.prog Tryz.bitsL_ren where
  mixed := by kernel_rfl
  f125 := Tryz.func48.trans (congrArg some (by kernel_rfl))
  f128 := Tryz.func71.trans (congrArg some (by kernel_rfl))
  f129 := Tryz.func72.trans (congrArg some (by kernel_rfl))
  t3 := Tryz.underlying3
  a3 := Tryz.isAgg3
  z3 := Tryz.sizeOf3
  v3 := Tryz.zeroValue3
  t4 := Tryz.underlying4
  a4 := Tryz.isAgg4
  z4 := Tryz.sizeOf4
  v4 := Tryz.zeroValue4
  t5 := Tryz.underlying5
  a5 := Tryz.isAgg5
  z5 := Tryz.sizeOf5
  v5 := Tryz.zeroValue5
  t9 := Tryz.underlying9
  a9 := Tryz.isAgg9
  z9 := Tryz.sizeOf9
  v9 := Tryz.zeroValue9
  t46 := Tryz.underlying102
  a46 := Tryz.isAgg102
  z46 := Tryz.sizeOf102
  v46 := Tryz.zeroValue102
  t51 := Tryz.underlying127
  a51 := Tryz.isAgg127
  z51 := Tryz.sizeOf127
  v51 := Tryz.zeroValue127
  t53 := Tryz.underlying129
  a53 := Tryz.isAgg129
  z53 := Tryz.sizeOf129
  v53 := Tryz.zeroValue129

theorem bitsLenC (n : Nat) (hn : n < 4611686018427387904) (w : World) : Calls Tryz.prog 48 #[.int .u64 (n : Int)] w fun e w1 => ∃ r : Nat, e = .returned (.int .i64 (r : Int)) ∧ r ≤ 62 ∧ w = w1 := by
  have h := Any.bits_Len Tryz.bitsL (n : Int) w (by omega) (by omega)
  change Calls Tryz.prog 48 _ _ _ at h
  exact h.mono fun e w1 ⟨he, hw⟩ => ⟨_, he, Lib.bitLen_le n 62 (by omega) (by omega), hw.symm⟩
abbrev tXor : TypeId := 168
section
variable {α : Type} [Inhabited α] {T : TypeId} {rv : Value} {gl gs : Nat} {lt : α → α → Bool} {N : Nat} {X : List Nat} {V : Array α → World → Prop}
theorem nextC (rb R : Nat) (hR : R < 18446744073709551616) (w : World) (hb : w.heap[rb]? = some (.cells #[.int .u64 (R : Int)] tXor (0, 0))) : Calls Tryz.prog 115 #[.pointer (some ⟨rb, 0, none⟩)] w fun e w1 => ∃ R2 : Nat, e = .returned (.int .u64 (R2 : Int)) ∧ R2 < 18446744073709551616 ∧ w1.heap[rb]? = some (.cells #[.int .u64 (R2 : Int)] tXor (0, 0)) ∧ Fr [rb] w w1 := by
  have h := Any.xorshift_Next Tryz.xnextL rb 0 R hR w (cell_of hb 0) (free_of hb 0)
  change Calls Tryz.prog 115 _ _ _ at h
  refine h.mono fun e w1 ⟨he, hw⟩ => ⟨_, he, xorNextN_lt R hR, ?_, ?_⟩
  · rw [hw]
    exact set_of hb 0 _
  · rw [hw]
    exact ((Fr.refl [rb] w).setCell (.inl (by simp)) _).drewN 3
theorem nptC (n : Nat) (h0 : 0 < n) (hn : n < 4611686018427387904) (w : World) : Calls Tryz.prog 114 #[.int .i64 (n : Int)] w fun e w1 => ∃ M : Nat, e = .returned (.int .u64 (M : Int)) ∧ 1 ≤ M ∧ M ≤ 2 * n ∧ w = w1 := by
  have h := Any.nextPowerOfTwo Tryz.nptL n hn w
  change Calls Tryz.prog 114 _ _ _ at h
  refine h.mono fun e w1 ⟨he, hw⟩ => ⟨_, he, ?_, ?_, hw.symm⟩
  · rw [Nat.one_shiftLeft]
    exact Nat.two_pow_pos _
  · rw [Nat.one_shiftLeft]
    exact two_pow_bitsLen_le h0
set_option maxRecDepth 100000 in
set_option maxHeartbeats 1600000 in
theorem svBreak (h : SvM T rv gl gs lt N X V) (hN : N < 4611686018427387904) (a b : Nat) (d : Array α) (w : World) (hd : d.size = N) (hV : V d w) (hab : a ≤ b) (hb : b ≤ N) :
    Calls Tryz.prog 100 #[.iface T rv, .int .i64 (a : Int), .int .i64 (b : Int)] w (SvPm X V a b d w) := by
  have mS := h.mS
  simp [go_sem] at mS
  have eS := h.eS
  have H := Lib.hid h
  have HV := Lib.hid hV
  have HD := Lib.hid hd
  obtain ⟨l, hl⟩ : ∃ l, b = a + l := ⟨b - a, by omega⟩
  subst hl
  have hba : (a : Int) + (l : Int) - (a : Int) = (l : Int) := by omega
  obtain ⟨q, hq⟩ : ∃ q, l / 4 = q := ⟨_, rfl⟩
  have hq1 : (l : Int) / 4 = (q : Int) := by omega
  have hq2 : 4 * q ≤ l ∧ l < 4 * q + 4 := by omega
  have hnX : w.heap.size ∉ X := fun hm => by have := h.xlt d w hV _ hm; omega
  have HNX := Lib.hid hnX
  clear h hV hd hq hnX
  by_cases h8 : 8 ≤ l
  · have h81 : (8 : Int) ≤ (l : Int) := by omega
    have hlw : IntKind.u64.wrap (l : Int) = (l : Int) := by simp [IntKind.wrap, IntKind.bits, IntKind.signed]; omega
    have hB0 := heap_new w (.cells #[.int .u64 (l : Int)] tXor)
    have hF0 : Fr [] w (w.alloc (.cells #[.int .u64 (l : Int)] tXor)) := (Fr.refl [] w).alloc _
    have HB0 := Lib.hid hB0
    have HV0 := Lib.hid (H.out.st0 HV.out hF0)
    have HF0 := Lib.hid (hF0.mono (T := X) (by simp))
    clear hB0 hF0
    go_enter Tryz.func100, Tryz.ntmps100
    go_wp2_with fail
    refine (nptC l (by omega) (by omega) _).mono ?_
    rintro e w1 ⟨M, rfl, hM1, hM2, rfl⟩
    go_wp2_with fail
    go_loopw [9] (fun vi wr => ∃ (t R : Nat) (dk : Array α), vi = .int .i64 ((a : Int) + (q : Int) * 2 - 1 + (t : Int)) ∧ t ≤ 3 ∧ PermIn a (a + l) d dk ∧ V dk wr ∧ R < 18446744073709551616 ∧ wr.heap[w.heap.size]? = some (.cells #[.int .u64 (R : Int)] tXor (0, 0)) ∧ Fr X w wr) (fun vi _ => ((a : Int) + (q : Int) * 2 + 2 - intOf vi).toNat)
    case atStart => exact ⟨0, l, d, by simp, by omega, permIn_refl _ _ _, HV0.out, by omega, HB0.out, HF0.out⟩
    case round =>
      obtain ⟨t, R, dk, rfl, ht, hp, hv, hR, hB, hf⟩ := hrel
      have HP := Lib.hid hp
      have HVK := Lib.hid hv
      have HBK := Lib.hid hB
      have HFK := Lib.hid hf
      have HDK : Hid (dk.size = N) := by show _ = _; rw [hp.1]; exact HD.out
      clear hp hv hB hf
      by_cases hlt : t < 3
      · have hlt1 : (a : Int) + (q : Int) * 2 - 1 + (t : Int) ≤ (a : Int) + (q : Int) * 2 + 1 := by omega
        go_wp2_with fail
        refine (nextC w.heap.size R hR _ HBK.out).mono ?_
        rintro e w2 ⟨R2, rfl, hR2, hB2, h2⟩
        have HB2 := Lib.hid hB2
        have HV2 := Lib.hid (H.out.st dk _ _ [w.heap.size] HVK.out h2 (by simpa using HNX.out))
        have HF2 := Lib.hid (HFK.out.trans h2 (fun x hx => .inr (by rw [List.mem_singleton] at hx; omega)))
        obtain ⟨O, hO⟩ : ∃ O : Nat, O = R2 &&& (M - 1) := ⟨_, rfl⟩
        have lO : O ≤ M - 1 := by rw [hO]; exact Nat.and_le_right
        have eAnd : bits .and .u64 (R2 : Int) ((M : Int) - 1) = (O : Int) := by
          rw [show ((M : Int) - 1) = ((M - 1 : Nat) : Int) by omega, bits_and_u64_nat _ _ hR2 (by omega), hO]
        have hMw : IntKind.u64.wrap ((M : Int) - 1) = (M : Int) - 1 := by simp [IntKind.wrap, IntKind.bits, IntKind.signed]; omega
        have HSW : ∀ O2 : Nat, O2 < l → Hid (Calls Tryz.prog gs #[rv, .int .i64 ((a : Int) + (q : Int) * 2 - 1 + (t : Int)), .int .i64 ((a : Int) + (O2 : Int))] w2 fun e w3 => e = .returned (.tuple #[]) ∧ V (swp dk (a + q * 2 - 1 + t) (a + O2)) w3 ∧ Fr X w2 w3) := fun O2 hO2 => by
          have := H.out.swap dk w2 HDK.out HV2.out (a + q * 2 - 1 + t) (a + O2) (by omega) (by omega)
          rw [show ((a + q * 2 - 1 + t : Nat) : Int) = (a : Int) + (q : Int) * 2 - 1 + (t : Int) by omega, show ((a + O2 : Nat) : Int) = (a : Int) + (O2 : Int) by omega] at this
          exact this
        have HSW2 := Lib.hid HSW
        have HPS : Hid (∀ O2 : Nat, O2 < l → PermIn a (a + l) d (swp dk (a + q * 2 - 1 + t) (a + O2))) := fun O2 hO2 => permIn_trans _ _ _ a (a + l) HP.out (swp_permIn _ _ _ _ _ (by omega) (by omega) (by omega) (by omega) (by rw [HDK.out]; exact hb))
        clear hB2 h2 hO HSW
        by_cases hOl : l ≤ O
        · have hOl1 : (l : Int) ≤ (O : Int) := by omega
          have hsw := (HSW2.out (O - l) (by omega)).out
          rw [show ((O - l : Nat) : Int) = (O : Int) - (l : Int) by omega] at hsw
          have HS := Lib.hid hsw
          clear hsw
          go_wp2_with fail
          refine HS.out.mono ?_
          rintro e w3 ⟨rfl, hv3, h3⟩
          have HV3 := Lib.hid hv3
          have HF3 := Lib.hid (HF2.out.transS h3)
          have HB3 := Lib.hid (h3.heap HB2.out HNX.out)
          clear hv3 h3 eAnd hMw
          go_wp2
          go_roundw
          case rel => exact ⟨t + 1, R2, _, by congr 1; omega, by omega, HPS.out (O - l) (by omega), HV3.out, hR2, HB3.out, HF3.out⟩
          case measure => simp [intOf] <;> omega
        · have hOl1 : ¬ (l : Int) ≤ (O : Int) := by omega
          have HS := Lib.hid (HSW2.out O (by omega)).out
          go_wp2_with fail
          refine HS.out.mono ?_
          rintro e w3 ⟨rfl, hv3, h3⟩
          have HV3 := Lib.hid hv3
          have HF3 := Lib.hid (HF2.out.transS h3)
          have HB3 := Lib.hid (h3.heap HB2.out HNX.out)
          clear hv3 h3 eAnd hMw
          go_wp2
          go_roundw
          case rel => exact ⟨t + 1, R2, _, by congr 1; omega, by omega, HPS.out O (by omega), HV3.out, hR2, HB3.out, HF3.out⟩
          case measure => simp [intOf] <;> omega
      · have hlt1 : ¬ (a : Int) + (q : Int) * 2 - 1 + (t : Int) ≤ (a : Int) + (q : Int) * 2 + 1 := by omega
        go_wp2
        go_end0
        exact ⟨rfl, ⟨dk, HP.out, HVK.out⟩, HFK.out⟩
  · have h81 : ¬ (8 : Int) ≤ (l : Int) := by omega
    go_enter Tryz.func100, Tryz.ntmps100
    go_wp2
    go_end0
    exact ⟨rfl, ⟨d, permIn_refl _ _ _, HV.out⟩, Fr.refl _ _⟩
end
end
end Go.Proofs.YtdlpbpohbkcafaaGreat
