/-
  The document's trace store: contracts of New, Value, Len, entry, Dep, Drop.
-/
import Derived.Test.YtldppdafgbipjaaRef22
namespace Go.Proofs.Ytldppdafgbipjaa
open Go.RowKit

theorem SlAt.of_owns {w : World} {B : Nat} {e : TypeId} {size : Nat} {v : Value} {n : Nat} {xs : List Value} (h : w.ownsRow B e size v n xs) : SlAt w v size n xs := by
  obtain ⟨hl, h2⟩ := h
  rcases h2 with ⟨rfl, rfl⟩ | ⟨g, cap, cur, rfl, _, hc, h1, h3, h4, h5⟩
  · refine ⟨hl, ⟨_, _, rfl, Nat.le_refl _, by omega⟩, fun h => by omega⟩
  · refine ⟨hl, ⟨_, _, rfl, h1, by unfold maxLen at h3; omega⟩, fun _ => ⟨g, 0, cap, rfl, lt_of hc, fun j x hx => ?_⟩⟩
    rw [Nat.zero_add]
    exact take_cells hc h5 j x hx

abbrev tM : TypeId := 184
abbrev docV (a b : Int) (t : ByteArray) (dp : Option Addr) (n dc : Nat) (xp : Option Addr) (xc : Nat) : Value := .agg #[.int .i64 a, .int .i64 b, .string t, .slice dp n dc, .slice xp n xc]
theorem zeroDoc (w : World) : (zeroValue 188).run Try.prog w = .ok (docV 0 0 ⟨#[]⟩ none 0 0 none 0) w := by kernel_rfl

theorem fld1 (a b : Int) (t : ByteArray) (x y : Value) (w : World) : (Instr.field 188 (.agg #[.int .i64 a, .int .i64 b, .string t, x, y]) 1).run Try.prog w = .ok x w := by kernel_rfl
theorem fld2 (a b : Int) (t : ByteArray) (x y : Value) (w : World) : (Instr.field 188 (.agg #[.int .i64 a, .int .i64 b, .string t, x, y]) 2).run Try.prog w = .ok y w := by kernel_rfl

def esO (o : Option Tr) : List En := match o with | none => [] | some t => t.es
theorem esO_len (o : Option Tr) : (esO o).length = lenO o := by cases o <;> rfl

/-- What a look-up finds. -/
structure Look (w : World) (T : Nat) (s : Sp) (o : Option Tr) (es : Array MapEntry) (clock : Nat) (dp : Option Addr) (dc : Nat) (xp : Option Addr) (xc : Nat) : Prop where
  hb : ob w T = some (.map es clock)
  l1 : ∀ W : World, ob W T = some (.map es clock) → (Instr.lookup tM (.map (some T)) (spV s) true).run Try.prog W = .ok (.tuple #[docV (valO o).k (valO o).n (valO o).s dp (lenO o) dc xp xc, .bool o.isSome]) W
  l0 : ∀ W : World, ob W T = some (.map es clock) → (Instr.lookup tM (.map (some T)) (spV s) false).run Try.prog W = .ok (docV (valO o).k (valO o).n (valO o).s dp (lenO o) dc xp xc) W
  ds : SlAt w (.slice dp (lenO o) dc) 2 (lenO o) (((esO o).map (·.at_)).flatMap spC)
  xs : SlAt w (.slice xp (lenO o) xc) 3 (lenO o) (((esO o).map (·.v)).flatMap vC)
theorem RefIs.look {w : World} {p T : Nat} {dd : Int} {m : List (Sp × Tr)} (h : RefIs w p T dd m) (s : Sp) : ∃ es clock dp dc xp xc, Look w T s (getS s m) es clock dp dc xp xc := by
  obtain ⟨_, _, ls, ⟨es, clock, hb, hp, _, _⟩, hM⟩ := h
  rcases hM.get s with ⟨h1, h2⟩ | ⟨u, t, h1, h2, d, x, rfl, h3, h4⟩
  · refine ⟨es, clock, none, 0, none, 0, hb, fun W hW => ?_, fun W hW => ?_, by rw [h2]; exact SlAt.nil w 2, by rw [h2]; exact SlAt.nil w 3⟩
    · have := run_look (P := Try.prog) spotKey Try.underlying184 zeroDoc hW hp s true
      rw [this, h1, h2]
      rfl
    · have := run_look (P := Try.prog) spotKey Try.underlying184 zeroDoc hW hp s false
      rw [this, h1, h2]
      rfl
  · have hd := SlAt.of_owns h3
    have hx := SlAt.of_owns h4
    obtain ⟨dp, dc, rfl, _, _⟩ := hd.form
    obtain ⟨xp, xc, rfl, _, _⟩ := hx.form
    refine ⟨es, clock, dp, dc, xp, xc, hb, fun W hW => ?_, fun W hW => ?_, by rw [h2]; exact hd, by rw [h2]; exact hx⟩
    · have := run_look (P := Try.prog) spotKey Try.underlying184 zeroDoc hW hp s true
      rw [this, h1, h2]
      rfl
    · have := run_look (P := Try.prog) spotKey Try.underlying184 zeroDoc hW hp s false
      rw [this, h1, h2]
      rfl

attribute [local go_sem] ob_alloc ob_alloc2 ob_alloc3 ob_alloc4 ob_drew ob_drewN ob_setCell

theorem refNew (d : Int) (w : World) (h0 : 0 ≤ d) (h1 : d ≤ 64) : Calls Try.prog 51 #[.int .i64 d] w fun e w1 => ∃ p T, e = .returned (.tuple #[.pointer (some ⟨p, 0, none⟩), .int .i64 0]) ∧ w.heap.size ≤ p ∧ w.heap.size ≤ T ∧ RefIs w1 p T d [] ∧ Fr [] w w1 := by
  have hmm := @run_makeMap Try.prog
  go_enter Try.func51, Try.ntmps51
  go_wp2
  go_ret2
  refine ⟨w.heap.size + 1, w.heap.size, rfl, by omega, by omega, ⟨?_, ⟨h0, h1⟩, [], ?_, trivial⟩, ((Fr.refl [] w).alloc _).alloc _⟩
  · exact hp_new (by simp)
  · exact (MapIs.made w).fr ((Fr.refl [] _).alloc _) (by simp)

theorem refNew_no (d : Int) (w : World) (h : d < 0 ∨ 64 < d) : Calls Try.prog 51 #[.int .i64 d] w fun e w1 => e = .returned (.tuple #[.pointer none, .int .i64 27]) ∧ Fr [] w w1 := by
  rcases h with h | h
  · go_enter Try.func51, Try.ntmps51
    go_wp2_with fail
    go_ret2
    exact ⟨rfl, Fr.refl _ _⟩
  · have h' : ¬ d < 0 := by omega
    go_enter Try.func51, Try.ntmps51
    go_wp2_with fail
    go_ret2
    exact ⟨rfl, Fr.refl _ _⟩

set_option maxHeartbeats 400000 in
theorem refValue0 (p T : Nat) (s : Sp) (w : World) (es : Array MapEntry) (clock : Nat) (a b : Int) (t : ByteArray) (dp : Option Addr) (n dc : Nat) (xp : Option Addr) (xc : Nat) (ok : Bool)
    (h0 : w.cell? ⟨p, 1, none⟩ = some (.map (some T))) (hlt : p < w.heap.size) (hb : ob w T = some (.map es clock)) (hlm : T < w.heap.size)
    (hlook : ∀ W : World, ob W T = some (.map es clock) → (Instr.lookup tM (.map (some T)) (spV s) true).run Try.prog W = .ok (.tuple #[docV a b t dp n dc xp xc, .bool ok]) W) :
    Calls Try.prog 92 #[.pointer (some ⟨p, 0, none⟩), spV s] w fun e w1 => e = .returned (.tuple #[.agg #[.int .i64 a, .int .i64 b, .string t], .bool ok]) ∧ Fr [] w w1 := by
  have hlt1 : ∀ k, p < w.heap.size + k := fun k => by omega
  have hlm1 : ∀ k, T < w.heap.size + k := fun k => by omega
  go_enter Try.func92, Try.ntmps92
  go_wp2
  go_region
  go_wp2
  exact bodyPost_ret (v := .tuple #[.agg #[.int .i64 a, .int .i64 b, .string t], .bool ok]) (by simp [results, Try.results92, go_sem]) rfl ⟨rfl, ((((Fr.refl [] w).alloc _).alloc _).alloc _).drew⟩
theorem refValue (p T : Nat) (dd : Int) (s : Sp) (m : List (Sp × Tr)) (w : World) (h : RefIs w p T dd m) :
    Calls Try.prog 92 #[.pointer (some ⟨p, 0, none⟩), spV s] w fun e w1 => e = .returned (.tuple #[(valO (getS s m)).val, .bool (getS s m).isSome]) ∧ Fr [] w w1 := by
  obtain ⟨es, clock, dp, dc, xp, xc, L⟩ := h.look s
  exact refValue0 p T s w es clock _ _ _ dp _ dc xp xc _ (cell_of h.st 1) (lt_of h.st) L.hb (lt_of L.hb) L.l1

set_option maxHeartbeats 400000 in
theorem refLen0 (p T : Nat) (s : Sp) (w : World) (es : Array MapEntry) (clock : Nat) (a b : Int) (t : ByteArray) (dp : Option Addr) (n dc : Nat) (xp : Option Addr) (xc : Nat)
    (h0 : w.cell? ⟨p, 1, none⟩ = some (.map (some T))) (hlt : p < w.heap.size) (hb : ob w T = some (.map es clock)) (hlm : T < w.heap.size)
    (hlook : ∀ W : World, ob W T = some (.map es clock) → (Instr.lookup tM (.map (some T)) (spV s) false).run Try.prog W = .ok (.agg #[.int .i64 a, .int .i64 b, .string t, .slice dp n dc, .slice xp n xc]) W) :
    Calls Try.prog 93 #[.pointer (some ⟨p, 0, none⟩), spV s] w fun e w1 => e = .returned (.int .i64 (n : Int)) ∧ Fr [] w w1 := by
  have hlt1 : ∀ k, p < w.heap.size + k := fun k => by omega
  have hlm1 : ∀ k, T < w.heap.size + k := fun k => by omega
  have hfld := fld1 a b t (.slice dp n dc) (.slice xp n xc)
  go_enter Try.func93, Try.ntmps93
  go_wp2
  go_region
  go_wp2
  go_ret
  exact ⟨rfl, ((Fr.refl [] w).alloc _).drew⟩
theorem refLen (p T : Nat) (dd : Int) (s : Sp) (m : List (Sp × Tr)) (w : World) (h : RefIs w p T dd m) :
    Calls Try.prog 93 #[.pointer (some ⟨p, 0, none⟩), spV s] w fun e w1 => e = .returned (.int .i64 (lenO (getS s m) : Int)) ∧ Fr [] w w1 := by
  obtain ⟨es, clock, dp, dc, xp, xc, L⟩ := h.look s
  exact refLen0 p T s w es clock _ _ _ dp _ dc xp xc (cell_of h.st 1) (lt_of h.st) L.hb (lt_of L.hb) L.l0

def entE (ok : Bool) (n : Nat) (i : Int) : Int := if ok = false then 3 else if 0 ≤ i ∧ i < (n : Int) then 0 else 1
theorem entO_two (o : Option Tr) (i : Int) : (entO o i).2 = entE o.isSome (lenO o) i := by
  cases o with
  | none => rfl
  | some t =>
    unfold entO entE lenO
    simp only [Option.isSome_some, Bool.true_eq_false, if_false]
    split <;> rfl

set_option maxHeartbeats 400000 in
theorem refEntry0 (p T : Nat) (s : Sp) (i : Int) (w : World) (es : Array MapEntry) (clock : Nat) (a b : Int) (t : ByteArray) (dp : Option Addr) (n dc : Nat) (xp : Option Addr) (xc : Nat) (ok : Bool)
    (h0 : w.cell? ⟨p, 1, none⟩ = some (.map (some T))) (hlt : p < w.heap.size) (hb : ob w T = some (.map es clock)) (hlm : T < w.heap.size)
    (hlook : ∀ W : World, ob W T = some (.map es clock) → (Instr.lookup tM (.map (some T)) (spV s) true).run Try.prog W = .ok (.tuple #[docV a b t dp n dc xp xc, .bool ok]) W) :
    Calls Try.prog 119 #[.pointer (some ⟨p, 0, none⟩), spV s, .int .i64 i] w fun e w1 => e = .returned (.int .i64 (entE ok n i)) ∧ Fr [] w w1 := by
  have hlt1 : ∀ k, p < w.heap.size + k := fun k => by omega
  have hlm1 : ∀ k, T < w.heap.size + k := fun k => by omega
  cases hok : ok with
  | false =>
    subst hok
    go_enter Try.func119, Try.ntmps119
    go_wp2
    go_region
    go_wp2
    go_ret
    exact ⟨rfl, (((Fr.refl [] w).alloc _).alloc _).drew⟩
  | true =>
    subst hok
    by_cases h1 : i < 0
    · have e : entE true n i = 1 := by simp [entE]; omega
      rw [e]
      go_enter Try.func119, Try.ntmps119
      go_wp2
      go_region
      go_wp2
      go_ret
      exact ⟨rfl, (((Fr.refl [] w).alloc _).alloc _).drew⟩
    · by_cases h2 : i < (n : Int)
      · have e : entE true n i = 0 := by simp [entE]; omega
        rw [e]
        go_enter Try.func119, Try.ntmps119
        go_wp2
        go_region
        go_wp2
        go_ret
        exact ⟨rfl, (((Fr.refl [] w).alloc _).alloc _).drew⟩
      · have e : entE true n i = 1 := by simp [entE]; omega
        rw [e]
        go_enter Try.func119, Try.ntmps119
        go_wp2
        go_region
        go_wp2
        go_ret
        exact ⟨rfl, (((Fr.refl [] w).alloc _).alloc _).drew⟩
theorem refEntry (p T : Nat) (dd : Int) (s : Sp) (i : Int) (m : List (Sp × Tr)) (w : World) (h : RefIs w p T dd m) :
    Calls Try.prog 119 #[.pointer (some ⟨p, 0, none⟩), spV s, .int .i64 i] w fun e w1 => e = .returned (.int .i64 (entO (getS s m) i).2) ∧ Fr [] w w1 := by
  obtain ⟨es, clock, dp, dc, xp, xc, L⟩ := h.look s
  rw [entO_two]
  exact refEntry0 p T s i w es clock _ _ _ dp _ dc xp xc _ (cell_of h.st 1) (lt_of h.st) L.hb (lt_of L.hb) L.l1

theorem entO_in {o : Option Tr} {i : Int} (h : (entO o i).2 = 0) : ∃ k : Nat, i = (k : Int) ∧ ∃ hk : k < (esO o).length, k < lenO o ∧ (entO o i).1 = (esO o)[k] := by
  cases o with
  | none => cases h
  | some t =>
    unfold entO at h ⊢
    simp only at h ⊢
    split at h
    · rename_i hi
      rw [if_pos hi]
      refine ⟨i.toNat, by omega, (by show i.toNat < t.es.length; omega), (by show i.toNat < t.es.length; omega), ?_⟩
      show t.es.getD i.toNat en0 = t.es[i.toNat]
      rw [List.getD_eq_getElem?_getD, List.getElem?_eq_getElem (by omega)]
      rfl
    · cases h
theorem entO_out {o : Option Tr} {i : Int} (h : (entO o i).2 ≠ 0) : (entO o i).1 = en0 := by
  cases o with
  | none => rfl
  | some t =>
    unfold entO at h ⊢
    simp only at h ⊢
    split at h
    · exact absurd rfl h
    · rename_i hi
      rw [if_neg hi]

set_option maxRecDepth 100000 in
set_option maxHeartbeats 800000 in
theorem refDep0 (p T : Nat) (dd : Int) (s : Sp) (k : Nat) (d : Sp) (m : List (Sp × Tr)) (w : World) (es : Array MapEntry) (clock : Nat) (a b : Int) (t : ByteArray) (g off : Nat) (n dc : Nat) (xp : Option Addr) (xc : Nat)
    (h : RefIs w p T dd m) (hE : (entO (getS s m) (k : Int)).2 = 0)
    (h0 : w.cell? ⟨p, 1, none⟩ = some (.map (some T))) (hlt : p < w.heap.size) (hb : ob w T = some (.map es clock)) (hlm : T < w.heap.size)
    (hlook : ∀ W : World, ob W T = some (.map es clock) → (Instr.lookup tM (.map (some T)) (spV s) false).run Try.prog W = .ok (.agg #[.int .i64 a, .int .i64 b, .string t, .slice (some ⟨g, off, none⟩) n dc, .slice xp n xc]) W) (hk : k < n)
    (hg : g < w.heap.size) (c0 : w.cell? ⟨g, off + k * 2, none⟩ = some (.int .i64 d.1)) (c1 : w.cell? ⟨g, off + k * 2 + 1, none⟩ = some (.int .i64 d.2)) :
    Calls Try.prog 94 #[.pointer (some ⟨p, 0, none⟩), spV s, .int .i64 (k : Int)] w fun e w1 => e = .returned (.tuple #[spV d, .int .i64 0]) ∧ Fr [] w w1 := by
  have HS := Lib.hid h
  have HE := Lib.hid hE
  clear h hE
  go_enter Try.func94, Try.ntmps94
  go_wp2_with fail
  refine (refEntry p T dd s (k : Int) m _ ?hs).mono ?_
  case hs => exact HS.out.fr0 (((Fr.refl [] w).alloc _).alloc _)
  rw [HE.out]
  rintro e w1 ⟨rfl, h1⟩
  obtain ⟨h2, hb1, hb2, hz⟩ := h1.new2 (by simp)
  clear h1
  have h0 := (h2.cell (p := ⟨p, 1, none⟩) hlt (by simp)).trans h0
  have c0 := (h2.cell (p := ⟨g, off + k * 2, none⟩) hg (by simp)).trans c0
  have c1 := (h2.cell (p := ⟨g, off + k * 2 + 1, none⟩) hg (by simp)).trans c1
  have hb : ob w1 T = some (.map es clock) := (h2.block T hlm (by simp)).trans hb
  have hc1 := cell_of hb1
  have hc2 := cell_of hb2
  have hf2 := free_of hb2
  have hk1 : (k : Int) < (n : Int) := by omega
  have hk2 : (0 : Int) ≤ (k : Int) := by omega
  clear hb1
  have hfld := fld1 a b t (.slice (some ⟨g, off, none⟩) n dc) (.slice xp n xc)
  go_wp2_with fail
  go_region
  go_wp2
  refine bodyPost_ret (v := .tuple #[spV d, .int .i64 0]) (by simp [results, Try.results94, go_sem, hc2]) rfl ⟨rfl, ?_⟩
  exact (((h2.drew).setCell (.inr (by simp)) _).setCell (.inr (by simp)) _)

set_option maxRecDepth 100000 in
theorem refDep_no (p T : Nat) (dd : Int) (s : Sp) (i : Int) (m : List (Sp × Tr)) (w : World) (h : RefIs w p T dd m) (hE : (entO (getS s m) i).2 ≠ 0) :
    Calls Try.prog 94 #[.pointer (some ⟨p, 0, none⟩), spV s, .int .i64 i] w fun e w1 => e = .returned (.tuple #[spV (0, 0), .int .i64 (entO (getS s m) i).2]) ∧ Fr [] w w1 := by
  have HS := Lib.hid h
  obtain ⟨E, he⟩ : ∃ E, (entO (getS s m) i).2 = E := ⟨_, rfl⟩
  rw [he] at hE ⊢
  have hrb : (E != 0) = true := by rw [bne_iff_ne]; exact hE
  have HE := Lib.hid he
  clear h hE he
  go_enter Try.func94, Try.ntmps94
  go_wp2_with fail
  refine (refEntry p T dd s i m _ ?hs).mono ?_
  case hs => exact HS.out.fr0 (((Fr.refl [] w).alloc _).alloc _)
  rw [HE.out]
  rintro e w1 ⟨rfl, h1⟩
  obtain ⟨h2, hb1, hb2, hz⟩ := h1.new2 (by simp)
  clear h1 hb1
  have hc2 := cell_of hb2
  have hf2 := free_of hb2
  go_wp2
  refine bodyPost_ret (v := .tuple #[spV (0, 0), .int .i64 E]) (by simp [results, Try.results94, go_sem, hc2]) rfl ⟨rfl, ?_⟩
  exact ((h2.setCell (.inr (by simp)) _).setCell (.inr (by simp)) _)

theorem refDep (p T : Nat) (dd : Int) (s : Sp) (i : Int) (m : List (Sp × Tr)) (w : World) (h : RefIs w p T dd m) :
    Calls Try.prog 94 #[.pointer (some ⟨p, 0, none⟩), spV s, .int .i64 i] w fun e w1 => e = .returned (.tuple #[spV (entO (getS s m) i).1.at_, .int .i64 (entO (getS s m) i).2]) ∧ Fr [] w w1 := by
  by_cases hE : (entO (getS s m) i).2 = 0
  · obtain ⟨k, rfl, hk, hkn, he⟩ := entO_in hE
    obtain ⟨es, clock, dp, dc, xp, xc, L⟩ := h.look s
    rw [he, hE]
    obtain ⟨g, off, c, e, hg, hc⟩ := L.ds.cell (by omega)
    cases e
    have hkl : k < ((esO (getS s m)).map (·.at_)).length := by rw [List.length_map]; exact hk
    have hd : ((esO (getS s m)).map (·.at_))[k] = (esO (getS s m))[k].at_ := List.getElem_map _
    have c0 := hc (k * 2 + 0) _ (by rw [flat_get spC 2 (fun _ => rfl) _ k 0 hkl (by omega), hd]; rfl)
    have c1 := hc (k * 2 + 1) _ (by rw [flat_get spC 2 (fun _ => rfl) _ k 1 hkl (by omega), hd]; rfl)
    exact refDep0 p T dd s k _ m w es clock _ _ _ g off _ dc xp xc h hE (cell_of h.st 1) (lt_of h.st) L.hb (lt_of L.hb) L.l0 hkn hg c0 c1
  · rw [entO_out hE]
    exact refDep_no p T dd s i m w h hE

theorem RefIs.ne {w : World} {p T : Nat} {dd : Int} {m : List (Sp × Tr)} (h : RefIs w p T dd m) : p ≠ T := by
  rintro rfl
  obtain ⟨hst, _, ls, ⟨es, clock, hm, _⟩, _⟩ := h
  rw [hst] at hm
  cases hm

set_option maxHeartbeats 1600000 in
theorem refDrop0 (p T : Nat) (s : Sp) (w : World) (es : Array MapEntry) (clock : Nat) (O : Obj) (a b : Int) (t : ByteArray) (dp : Option Addr) (n dc : Nat) (xp : Option Addr) (xc : Nat) (ok : Bool)
    (h0 : w.cell? ⟨p, 1, none⟩ = some (.map (some T))) (hlt : p < w.heap.size) (hb : ob w T = some (.map es clock)) (hlm : T < w.heap.size)
    (hlook : ∀ W : World, ob W T = some (.map es clock) → (Instr.lookup tM (.map (some T)) (spV s) true).run Try.prog W = .ok (.tuple #[docV a b t dp n dc xp xc, .bool ok]) W)
    (hdel : ∀ (ty x : TypeId) (W : World), ob W T = some (.map es clock) → (Builtin.delete_ #[tM, x] ty #[.map (some T), spV s]).run Try.prog W = .ok (.tuple #[]) (ChangeMaps.setBlock W T O)) :
    Calls Try.prog 96 #[.pointer (some ⟨p, 0, none⟩), spV s] w fun e w1 => e = .returned (.bool ok) ∧ ∃ W, Fr [] w W ∧ Fr [] (ChangeMaps.setBlock W T O) w1 := by
  have hlt1 : ∀ k, p < w.heap.size + k := fun k => by omega
  have hlm1 : ∀ k, T < w.heap.size + k := fun k => by omega
  go_enter Try.func96, Try.ntmps96
  go_wp2
  go_region
  go_wp2
  go_region
  go_wp2
  go_ret
  refine ⟨rfl, ?W, ?fa, ?fb⟩
  case fb => first | exact (Fr.refl [] (ChangeMaps.setBlock _ T O)).drew | exact (Fr.refl [] (ChangeMaps.setBlock _ T O)) | exact ((Fr.refl [] (ChangeMaps.setBlock _ T O)).drew).drew
  case fa => repeat' (first | exact Fr.refl _ _ | apply Fr.drew | apply Fr.alloc)

theorem look1 {w : World} {T : Nat} {m : List (Sp × Tr)} {ls : List (Sp × Value)} {es : Array MapEntry} {clock : Nat} (hp : es.toList.map prE = ls.map encS) (hM : DMatch w ls m) (s : Sp) :
    ∃ a b t dp n dc xp xc, ∀ W : World, ob W T = some (.map es clock) → (Instr.lookup tM (.map (some T)) (spV s) true).run Try.prog W = .ok (.tuple #[docV a b t dp n dc xp xc, .bool (getS s m).isSome]) W := by
  rcases hM.get s with ⟨h1, h2⟩ | ⟨u, t, h1, h2, d, x, rfl, h3, h4⟩
  · refine ⟨0, 0, ⟨#[]⟩, none, 0, 0, none, 0, fun W hW => ?_⟩
    have := run_look (P := Try.prog) spotKey Try.underlying184 zeroDoc hW hp s true
    rw [this, h1, h2]
    rfl
  · obtain ⟨dp, dc, rfl, _, _⟩ := (SlAt.of_owns h3).form
    obtain ⟨xp, xc, rfl, _, _⟩ := (SlAt.of_owns h4).form
    refine ⟨t.v.k, t.v.n, t.v.s, dp, t.es.length, dc, xp, xc, fun W hW => ?_⟩
    have := run_look (P := Try.prog) spotKey Try.underlying184 zeroDoc hW hp s true
    rw [this, h1, h2]
    rfl

theorem refDrop (p T : Nat) (dd : Int) (s : Sp) (m : List (Sp × Tr)) (w : World) (h : RefIs w p T dd m) :
    Calls Try.prog 96 #[.pointer (some ⟨p, 0, none⟩), spV s] w fun e w1 => e = .returned (.bool (getS s m).isSome) ∧ RefIs w1 p T dd (delS s m) ∧ Fr [T] w w1 := by
  have hD := h.notD
  have hne := h.ne
  obtain ⟨hst, hwd, ls, ⟨es, clock, hb, hp, hs, hn⟩, hM⟩ := h
  have hdel := fun (ty x : TypeId) (W : World) (hW : ob W T = some (.map es clock)) => run_del (P := Try.prog) spotKey Try.underlying184 ty hW hp s x
  have fin : ∀ {e : Ending} {w1 : World}, (e = .returned (.bool (getS s m).isSome) ∧ ∃ W, Fr [] w W ∧ Fr [] (ChangeMaps.setBlock W T (.map (delE s ls es) clock)) w1) → e = .returned (.bool (getS s m).isSome) ∧ RefIs w1 p T dd (delS s m) ∧ Fr [T] w w1 := by
    rintro e w1 ⟨rfl, W, h1, h2⟩
    have hbW := h1.heap hb (by simp)
    have hF : Fr [T] w w1 := ((h1.mono (by simp)).setBlock hbW (.inl (by simp)) _).trans h2 (by simp)
    exact ⟨rfl, ⟨hF.heap hst (by simpa using hne), hwd, _, (MapIs.del hbW hp hs hn s).fr h2 (by simp), (hM.fr hF hD).del s⟩, hF⟩
  obtain ⟨a, b, t, dp, n, dc, xp, xc, hlook⟩ := look1 hp hM s
  exact (refDrop0 p T s w es clock _ a b t dp n dc xp xc _ (cell_of hst 1) (lt_of hst) hb (lt_of hb) hlook hdel).mono fun e w1 h => fin h
end Go.Proofs.Ytldppdafgbipjaa
