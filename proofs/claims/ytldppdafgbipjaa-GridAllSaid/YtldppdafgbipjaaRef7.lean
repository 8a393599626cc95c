/-
  quadrilleref7: find, Get.
-/
import Derived.Test.YtldppdafgbipjaaAscP
import Derived.Test.YtldppdafgbipjaaOrderP
import Derived.Deep.RegionHeld3
namespace Go.Proofs.Ytldppdafgbipjaa
open Go.RowKit

abbrev encA (x : Sp × Int) : List Value := spC x.1
abbrev encX (x : Sp × Int) : List Value := [.int .i64 x.2]
theorem eqlS (t s : Sp) (w : World) : (binOp .eql 26 (.agg #[.int .i64 t.1, .int .i64 t.2]) (.agg #[.int .i64 s.1, .int .i64 s.2])).run Try.prog w = .ok (.bool (t == s)) w := by
  have := run_eqSpot t s w
  simp [binOp, go_sem, this]
/-- The document's table: places of the list A, numbers of the list X. -/
structure RIn (w : World) (rb : Nat) (vA vX : Value) (A X : List (Sp × Int)) : Prop where
  tab : w.heap[rb]? = some (.cells #[vA, vX] 50 (0, 0))
  at' : w.ownsRow 0 26 2 vA A.length (A.flatMap encA)
  xs : w.ownsRow 0 3 1 vX X.length (X.flatMap encX)
section
variable {w w1 : World} {rb : Nat} {vA vX : Value} {A X R : List (Sp × Int)}
theorem own_heap {e : TypeId} {size n : Nat} {v : Value} {xs : List Value} (h : w.ownsRow 0 e size v n xs) {g : Nat} (hg : v.ownBlock = some g) : ∃ cur, w.heap[g]? = some (.cells cur e (0, 0)) := by
  rcases h.2 with ⟨rfl, _⟩ | ⟨g', cap, cur, rfl, _, hh, _⟩
  · cases hg
  · cases hg
    exact ⟨cur, hh⟩
theorem RIn.neA (h : RIn w rb vA vX A X) {g : Nat} (hg : vA.ownBlock = some g) : g ≠ rb := by
  rintro rfl
  obtain ⟨cur, hh⟩ := own_heap h.at' hg
  rw [h.tab] at hh
  injection hh with hh
  injection hh with h1 h2 h3
  cases h2
theorem RIn.neX (h : RIn w rb vA vX A X) {g : Nat} (hg : vX.ownBlock = some g) : g ≠ rb := by
  rintro rfl
  obtain ⟨cur, hh⟩ := own_heap h.xs hg
  rw [h.tab] at hh
  injection hh with hh
  injection hh with h1 h2 h3
  cases h2
theorem RIn.neAX (h : RIn w rb vA vX A X) {g f : Nat} (hg : vA.ownBlock = some g) (hf : vX.ownBlock = some f) : g ≠ f := by
  rintro rfl
  obtain ⟨cur, hh⟩ := own_heap h.at' hg
  obtain ⟨cur2, hh2⟩ := own_heap h.xs hf
  rw [hh] at hh2
  injection hh2 with hh2
  injection hh2 with h1 h2 h3
  cases h2
/-- Its blocks. -/
def rBl (rb : Nat) (vA vX : Value) : List Nat := rb :: (vA.ownBlock.toList ++ vX.ownBlock.toList)
theorem RIn.frS {S : List Nat} (h : RIn w rb vA vX A X) (hf : Fr S w w1) (hS : ∀ g ∈ rBl rb vA vX, g ∉ S) : RIn w1 rb vA vX A X :=
  ⟨hf.heap h.tab (hS rb (by simp [rBl])), owns_fr h.at' hf (fun k hk => hS k (by simp [rBl, hk])), owns_fr h.xs hf (fun k hk => hS k (by simp [rBl, hk]))⟩
theorem RIn.fr (h : RIn w rb vA vX A X) (hf : Fr [] w w1) : RIn w1 rb vA vX A X := h.frS hf (by simp)
theorem RIn.lt (h : RIn w rb vA vX A X) : ∀ g ∈ rBl rb vA vX, g < w.heap.size := by
  intro g hg
  simp only [rBl, List.mem_cons, List.mem_append, Option.mem_toList] at hg
  rcases hg with rfl | hg | hg
  · exact lt_of h.tab
  · obtain ⟨_, hh⟩ := own_heap h.at' hg; exact lt_of hh
  · obtain ⟨_, hh⟩ := own_heap h.xs hg; exact lt_of hh

theorem RIn.atC (h : RIn w rb vA vX A X) {k : Nat} (hk : k < A.length) :
    ∃ g c, vA = .slice (some ⟨g, 0, none⟩) A.length c ∧ g < w.heap.size ∧ w.cell? ⟨g, k * 2, none⟩ = some (.int .i64 A[k].1.1) ∧ w.cell? ⟨g, k * 2 + 1, none⟩ = some (.int .i64 A[k].1.2) := by
  obtain ⟨g, c, e, hg, hc⟩ := (RIs.of_owns h.at').cell (by omega)
  exact ⟨g, c, e, hg, hc (k * 2 + 0) _ (by rw [flat_get encA 2 (fun _ => rfl) A k 0 hk (by omega)]; rfl), hc (k * 2 + 1) _ (by rw [flat_get encA 2 (fun _ => rfl) A k 1 hk (by omega)]; rfl)⟩
theorem RIn.xsC (h : RIn w rb vA vX A X) {k : Nat} (hk : k < X.length) :
    ∃ g c, vX = .slice (some ⟨g, 0, none⟩) X.length c ∧ g < w.heap.size ∧ w.cell? ⟨g, k, none⟩ = some (.int .i64 X[k].2) := by
  obtain ⟨g, c, e, hg, hc⟩ := (RIs.of_owns h.xs).cell (by omega)
  exact ⟨g, c, e, hg, by have := hc (k * 1 + 0) (.int .i64 X[k].2) (by rw [flat_get encX 1 (fun _ => rfl) X k 0 hk (by omega)]; rfl); simpa using this⟩

theorem RIn.atG {g n c : Nat} (h : RIn w rb (.slice (some ⟨g, 0, none⟩) n c) vX A X) {k : Nat} (hk : k < A.length) :
    w.cell? ⟨g, k * 2, none⟩ = some (.int .i64 A[k].1.1) ∧ w.cell? ⟨g, k * 2 + 1, none⟩ = some (.int .i64 A[k].1.2) ∧ g < w.heap.size ∧ ∀ j, w.frozen? ⟨g, j, none⟩ = false := by
  obtain ⟨g', c', e, hg, h0, h1⟩ := h.atC hk
  injection e with e1 e2 e3
  cases e1
  subst e2
  exact ⟨h0, h1, hg, fun j => h.at'.frozenAt j⟩
theorem RIn.xsG {g n c : Nat} (h : RIn w rb vA (.slice (some ⟨g, 0, none⟩) n c) A X) {k : Nat} (hk : k < X.length) :
    w.cell? ⟨g, k, none⟩ = some (.int .i64 X[k].2) ∧ g < w.heap.size ∧ ∀ j, w.frozen? ⟨g, j, none⟩ = false := by
  obtain ⟨g', c', e, hg, h0⟩ := h.xsC hk
  injection e with e1 e2 e3
  cases e1
  subst e2
  exact ⟨h0, hg, fun j => h.xs.frozenAt j⟩

theorem setA (y : Sp × Int) : ∀ (l : List (Sp × Int)) (k : Nat), ((l.flatMap encA).set (k * 2) (.int .i64 y.1.1)).set (k * 2 + 1) (.int .i64 y.1.2) = (l.set k y).flatMap encA
  | [], k => by simp
  | x :: l, 0 => by simp
  | x :: l, k + 1 => by
    have e : (k + 1) * 2 = k * 2 + 1 + 1 := by omega
    rw [e]
    simp only [List.flatMap_cons, List.cons_append, List.nil_append, List.set_cons_succ]
    rw [setA y l k]
theorem setX (y : Sp × Int) : ∀ (l : List (Sp × Int)) (k : Nat), (l.flatMap encX).set k (.int .i64 y.2) = (l.set k y).flatMap encX
  | [], k => by simp
  | x :: l, 0 => by simp
  | x :: l, k + 1 => by
    simp only [List.flatMap_cons, List.cons_append, List.nil_append, List.set_cons_succ]
    rw [setX y l k]
theorem RIn.stA {g c n : Nat} (h : RIn w rb (.slice (some ⟨g, 0, none⟩) n c) vX A X) (hn : n = A.length) (k : Nat) (y : Sp × Int) :
    RIn ((w.setCell ⟨g, k * 2, none⟩ (.int .i64 y.1.1)).setCell ⟨g, k * 2 + 1, none⟩ (.int .i64 y.1.2)) rb (.slice (some ⟨g, 0, none⟩) n c) vX (A.set k y) X := by
  subst hn
  have hF : Fr [g] w ((w.setCell ⟨g, k * 2, none⟩ (.int .i64 y.1.1)).setCell ⟨g, k * 2 + 1, none⟩ (.int .i64 y.1.2)) := ((Fr.refl _ w).setCell (.inl (by simp)) _).setCell (.inl (by simp)) _
  refine ⟨hF.heap h.tab (by simp; exact fun e => h.neA rfl e.symm), ?_, owns_fr h.xs hF (fun f hf => by simp; exact fun e => h.neAX rfl hf e.symm)⟩
  have h2 := ((h.at'.stored (k * 2) (.int .i64 y.1.1)).1.stored (k * 2 + 1) (.int .i64 y.1.2)).1
  rw [setA] at h2
  rw [List.length_set]
  exact h2
theorem RIn.stX {g c n : Nat} (h : RIn w rb vA (.slice (some ⟨g, 0, none⟩) n c) A X) (hn : n = X.length) (k : Nat) (y : Sp × Int) :
    RIn (w.setCell ⟨g, k, none⟩ (.int .i64 y.2)) rb vA (.slice (some ⟨g, 0, none⟩) n c) A (X.set k y) := by
  subst hn
  have hF : Fr [g] w (w.setCell ⟨g, k, none⟩ (.int .i64 y.2)) := (Fr.refl _ w).setCell (.inl (by simp)) _
  refine ⟨hF.heap h.tab (by simp; exact fun e => h.neX rfl e.symm), owns_fr h.at' hF (fun f hf => by simp; exact h.neAX hf rfl), ?_⟩
  have h2 := (h.xs.stored k (.int .i64 y.2)).1
  rw [setX] at h2
  rw [List.length_set]
  exact h2
end

set_option maxRecDepth 100000 in
set_option maxHeartbeats 6400000 in
theorem find7 (rb : Nat) (vA vX : Value) (R : List (Sp × Int)) (s : Sp) (w : World) (h : RIn w rb vA vX R R) (hR : Srt R) (hl : R.length ≤ 65536) :
    Calls Try.prog 103 #[.pointer (some ⟨rb, 0, none⟩), spV s] w fun e w1 => e = .returned (.tuple #[.int .i64 (posS s R : Nat), .bool (getS s R).isSome]) ∧ Fr [] w w1 := by
  have HH := Lib.hid h
  have HR := Lib.hid hR
  have HL := Lib.hid hl
  obtain ⟨ht, hA, _⟩ := h
  obtain ⟨qa, ca, rfl⟩ := (RIs.of_owns hA).form
  have c0 : w.cell? ⟨rb, 0, none⟩ = some (.slice qa R.length ca) := cell_of ht 0
  have hrl := lt_of ht
  clear ht hA hR hl
  go_enter Try.func103, Try.ntmps103
  go_wp2_with fail
  have hW : Fr [] w (w.alloc (.cells #[.int .i64 s.1, .int .i64 s.2] 26)) := (Fr.refl [] w).alloc _
  have hB := heap_new w (.cells #[.int .i64 s.1, .int .i64 s.2] 26)
  have c0 := ce_call hW c0
  have HW := HH.out.fr hW
  have HWH := Lib.hid HW
  clear HW
  generalize w.alloc (.cells #[.int .i64 s.1, .int .i64 s.2] 26) = W at *
  obtain ⟨B, hBe⟩ : ∃ B, w.heap.size = B := ⟨_, rfl⟩
  rw [hBe] at hB ⊢
  go_region_held3 (fun u => u.cell? ⟨rb, 0, none⟩ = some (.slice qa R.length ca)) (exact ce_drew c0) (fail)
  go_wp2_with fail
  have hpl := pos_le s R
  go_loopw [6, 7] (fun lo hi wr => ∃ a b : Nat, lo = .int .i64 (a : Int) ∧ hi = .int .i64 (b : Int) ∧ a ≤ posS s R ∧ posS s R ≤ b ∧ b ≤ R.length ∧ Fr [] W wr) (fun lo hi _ => (intOf hi - intOf lo).toNat)
  case atStart => exact ⟨0, R.length, rfl, rfl, by omega, hpl, Nat.le_refl _, (Fr.refl _ _).drew⟩
  case round =>
    obtain ⟨a, b, rfl, rfl, ha, hb, hbl, hfr⟩ := hrel
    have hRL := HL.out
    by_cases hlt : (a : Int) < (b : Int)
    · go_wp2_with fail
      obtain ⟨m, hm⟩ : ∃ m : Nat, ((a : Int) + (b : Int)) / 2 = (m : Int) := ⟨(a + b) / 2, by omega⟩
      simp only [hm]
      have hm1 : a ≤ m ∧ m < b := by omega
      have hmR : m < R.length := by omega
      obtain ⟨g, c, eg, hg, e0, e1⟩ := HWH.out.atC hmR
      cases eg
      have hlts := pos_lt HR.out m hmR (s := s)
      obtain ⟨t, ht⟩ : ∃ t, R[m].1 = t := ⟨_, rfl⟩
      rw [ht] at e0 e1 hlts
      have e0 := ce_call hfr e0
      have e1 := ce_call hfr e1
      have c0 := ce_call hfr c0
      have hBr := hfr.heap hB (by simp)
      have b0 : wr.cell? ⟨B, 0, none⟩ = some (.int .i64 s.1) := cell_of hBr 0
      have b1 : wr.cell? ⟨B, 1, none⟩ = some (.int .i64 s.2) := cell_of hBr 1
      have HLT := Lib.hid hlts
      clear ht hlts hm
      go_region_held3 (fun u => u.cell? ⟨rb, 0, none⟩ = some (.slice (some ⟨g, 0, none⟩) R.length ca) ∧ u.cell? ⟨g, m * 2, none⟩ = some (.int .i64 t.1) ∧ u.cell? ⟨g, m * 2 + 1, none⟩ = some (.int .i64 t.2) ∧ u.cell? ⟨B, 0, none⟩ = some (.int .i64 s.1) ∧ u.cell? ⟨B, 1, none⟩ = some (.int .i64 s.2))
        ((first | exact ⟨ce_drew c0, ce_drew e0, ce_drew e1, ce_drew b0, ce_drew b1⟩ | exact ⟨ce_call hA (ce_drew c0), ce_call hA (ce_drew e0), ce_call hA (ce_drew e1), ce_call hA (ce_drew b0), ce_call hA (ce_drew b1)⟩))
        ((go_at_call 27; refine (aheadC t s _).mono ?_; rw [HLT.out]; rintro e wA ⟨rfl, hA⟩))
      have hF := (hfr.drew).trans0 hA
      by_cases hmp : m < posS s R
      · rw [decide_eq_true hmp]
        go_wp2_with fail
        go_roundw
        case rel => exact ⟨m + 1, b, by go_num, rfl, by omega, hb, hbl, hF⟩
        case measure => simp [intOf]; omega
      · rw [decide_eq_false hmp]
        go_wp2_with fail
        go_roundw
        case rel => exact ⟨a, m, rfl, rfl, ha, by omega, by omega, hF⟩
        case measure => simp [intOf]; omega
    · have e : a = posS s R := by omega
      subst e
      have hpg := pos_get HR.out (s := s)
      by_cases hpl2 : (posS s R : Int) < (R.length : Int)
      · have hpR : posS s R < R.length := by omega
        obtain ⟨g, c, eg, hg, e0, e1⟩ := HWH.out.atC hpR
        cases eg
        rw [List.getElem?_eq_getElem hpR] at hpg
        obtain ⟨t, ht⟩ : ∃ t, R[posS s R].1 = t := ⟨_, rfl⟩
        simp only [Option.bind_some, ht] at hpg
        rw [ht] at e0 e1
        have e0 := ce_call hfr e0
        have e1 := ce_call hfr e1
        have c0 := ce_call hfr c0
        have hBr := hfr.heap hB (by simp)
        have b0 : wr.cell? ⟨B, 0, none⟩ = some (.int .i64 s.1) := cell_of hBr 0
        have b1 : wr.cell? ⟨B, 1, none⟩ = some (.int .i64 s.2) := cell_of hBr 1
        have hts : (getS s R).isSome = (t == s) := by
          rw [hpg]
          by_cases e : t = s
          · rw [if_pos e]; simp [e]
          · rw [if_neg e]; simp [e]
        have HTS := Lib.hid hts
        clear ht hpg hts hpR hb ha hbl
        have heqs := eqlS t s
        go_wp2_with fail
        go_region_held3 (fun u => u.cell? ⟨rb, 0, none⟩ = some (.slice (some ⟨g, 0, none⟩) R.length ca) ∧ u.cell? ⟨g, posS s R * 2, none⟩ = some (.int .i64 t.1) ∧ u.cell? ⟨g, posS s R * 2 + 1, none⟩ = some (.int .i64 t.2) ∧ u.cell? ⟨B, 0, none⟩ = some (.int .i64 s.1) ∧ u.cell? ⟨B, 1, none⟩ = some (.int .i64 s.2))
          (exact ⟨ce_drew c0, ce_drew e0, ce_drew e1, ce_drew b0, ce_drew b1⟩) (fail)
        go_wp2_with fail
        refine bodyPost_ret (v := .tuple #[.int .i64 (posS s R : Nat), .bool (t == s)]) (by simp [results, Try.results103, go_sem]) rfl ⟨by rw [HTS.out], (hW.trans0 hfr).drew⟩
      · have hg : getS s R = none := by
          rw [hpg, List.getElem?_eq_none (by omega)]
          rfl
        have HG := Lib.hid hg
        have c0 := ce_call hfr c0
        clear hpg hg ha hb hbl
        have hdec : decide (posS s R < R.length) = false := decide_eq_false (by omega)
        have hpn : ¬ (posS s R < R.length) := by omega
        go_wp2_with fail
        go_region
        go_wp2_with fail
        refine bodyPost_ret (v := .tuple #[.int .i64 (posS s R : Nat), .bool false]) (by simp [results, Try.results103, go_sem]) rfl ⟨by rw [HG.out]; rfl, (hW.trans0 hfr).drew⟩

theorem get7 (rb : Nat) (vA vX : Value) (R : List (Sp × Int)) (s : Sp) (w : World) (h : RIn w rb vA vX R R) (hR : Srt R) (hl : R.length ≤ 65536) :
    Calls Try.prog 72 #[.pointer (some ⟨rb, 0, none⟩), spV s] w fun e w1 => e = .returned (.tuple #[.int .i64 ((getS s R).getD 0), .bool (getS s R).isSome]) ∧ Fr [] w w1 := by
  have HH := Lib.hid h
  have HR := Lib.hid hR
  have HL := Lib.hid hl
  clear h hR hl
  go_enter Try.func72, Try.ntmps72
  go_wp2_with fail
  refine (find7 rb vA vX R s _ (HH.out.fr ((Fr.refl [] w).alloc _)) HR.out HL.out).mono ?_
  rintro e w1 ⟨rfl, h1⟩
  have hF := ((Fr.refl [] w).alloc (.cells #[.int .i64 s.1, .int .i64 s.2] 26)).trans0 h1
  have HW := Lib.hid (HH.out.fr hF)
  cases hg : getS s R with
  | none =>
    have HG := Lib.hid hg
    clear hg h1
    go_wp2_with fail
    refine bodyPost_ret (v := .tuple #[.int .i64 0, .bool false]) (by simp [results, Try.results72, go_sem]) rfl ⟨by rw [HG.out]; rfl, hF⟩
  | some x =>
    obtain ⟨hp, hpe⟩ := pos_yes HR.out hg
    obtain ⟨g, c, eg, hgl, e0⟩ := HW.out.xsC hp
    rw [hpe] at e0
    have t1 : w1.cell? ⟨rb, 1, none⟩ = some (.slice (some ⟨g, 0, none⟩) R.length c) := by rw [← eg]; exact cell_of HW.out.tab 1
    have hpi : (posS s R : Int) < (R.length : Int) := by omega
    have hrl := lt_of HW.out.tab
    have HG := Lib.hid hg
    clear hg h1 hpe eg
    go_wp2_with fail
    refine bodyPost_ret (v := .tuple #[.int .i64 x, .bool true]) (by simp [results, Try.results72, go_sem]) rfl ⟨by rw [HG.out]; rfl, hF⟩
end Go.Proofs.Ytldppdafgbipjaa
