/-
  keep.reader: wrong, bytes, number.
  A kept workbook's bytes, read again: what stands at each field. No program in sight.
  keep.reader's cells: the edits of a kept workbook.
-/
import Derived.Test.YtnmkhoebijodhaaGreatDoorKeepN
import Derived.Test.YtnmkhoebijodhaaGreatDoorKpP
import Derived.Test.YtnmkhoebijodhaaGreatDoorFacts
import Derived.Test.YtnmkhoebijodhaaGreatDoorAgg
import Derived.Test.YtnmkhoebijodhaaGreatDoorCmp
namespace Go.Proofs.YtnmkhoebijodhaaGreatDoor
section
open Go.RowKit Go.Shelf

abbrev rdV (v : Value) (a b : Int) : Obj := .cells #[v, .int .i64 a, .int .i64 b] 91 (0, 0)

theorem rdWrong0 (r : Nat) (v : Value) (a b x : Int) (w : World) (h : w.heap[r]? = some (rdV v a b)) (hb : 0 ≤ b) :
    Calls Tryz.prog 37 #[.pointer (some ⟨r, 0, none⟩), .int .i64 x] w fun e w1 => e = .returned (.tuple #[]) ∧ Fr [] w w1 := by
  have c2 := cell_of h 2
  go_enter Tryz.func37, Tryz.ntmps37
  go_wp2
  refine bodyPost_end (results_none rfl _ _ _) rfl ?_
  exact ⟨rfl, Fr.refl _ _⟩
theorem rdWrong1 (r : Nat) (v : Value) (a b x : Int) (w : World) (h : w.heap[r]? = some (rdV v a b)) (hb : b < 0) :
    Calls Tryz.prog 37 #[.pointer (some ⟨r, 0, none⟩), .int .i64 x] w fun e w1 => e = .returned (.tuple #[]) ∧ w1.heap[r]? = some (rdV v a x) ∧ Fr [r] w w1 := by
  have c2 := cell_of h 2
  have f2 := free_of h 2
  go_enter Tryz.func37, Tryz.ntmps37
  go_wp2
  refine bodyPost_end (results_none rfl _ _ _) rfl ?_
  exact ⟨rfl, set_of h 2 _, (Fr.refl _ _).setCell (.inl (by simp)) _⟩

/-- A field that is there: at least one byte. -/
theorem rdBytes (r pb po N cap a n : Nat) (w : World) (h : w.heap[r]? = some (rdV (.slice (some ⟨pb, po, none⟩) N cap) (a : Int) (-1))) (hn : 0 < n) (hN : a + n ≤ N) (hcap : N ≤ cap) (h63 : cap ≤ 9223372036854775807) :
    Calls Tryz.prog 36 #[.pointer (some ⟨r, 0, none⟩), .int .i64 (n : Int)] w fun e w1 => e = .returned (.slice (some ⟨pb, po + a, none⟩) n (cap - a)) ∧ w1.heap[r]? = some (rdV (.slice (some ⟨pb, po, none⟩) N cap) ((a : Int) + (n : Int)) (-1)) ∧ Fr [r] w w1 := by
  have c0 := cell_of h 0
  have c1 := cell_of h 1
  have c2 := cell_of h 2
  have f1 := free_of h 1
  have hd1 : decide ((-1 : Int) ≥ 0) = false := by decide
  have hw1 : IntKind.i64.wrap ((N : Int) - (a : Int)) = (N : Int) - (a : Int) := by rw [IntKind.wrap_i64]; omega
  have hw2 : IntKind.i64.wrap ((a : Int) + (n : Int)) = ((a : Int) + (n : Int)) := by rw [IntKind.wrap_i64]; omega
  have hd2 : decide ((n : Int) > (N : Int) - (a : Int)) = false := by simp; omega
  go_enter Tryz.func36, Tryz.ntmps36
  go_wp2_with fail
  go_quiet (fail)
  go_wp2_with fail
  have hb := set_of (show (w.drewN nq).heap[r]? = some (rdV (.slice (some ⟨pb, po, none⟩) N cap) (a : Int) (-1)) from h) 1 (.int .i64 ((a : Int) + (n : Int)))
  have hF : Fr [r] w ((w.drewN nq).setCell ⟨r, 1, none⟩ (.int .i64 ((a : Int) + (n : Int)))) := ((Fr.refl _ _).drewN nq).setCell (.inl (by simp)) _
  generalize (w.drewN nq).setCell ⟨r, 1, none⟩ (.int .i64 ((a : Int) + (n : Int))) = W at *
  have d0 := cell_of hb 0
  have d1 := cell_of hb 1
  have hw3 : IntKind.i64.wrap (((a : Int) + (n : Int)) - (n : Int)) = (a : Int) := by rw [IntKind.wrap_i64]; omega
  clear c0 c1 c2 f1 h
  go_quiet (fail)
  go_wp2_with fail
  go_ret
  exact ⟨by have e : a + n - a = n := (by omega); rw [e]; rfl, hb, hF.drewN _⟩

/-- Behind a fault nothing is read. -/
theorem rdBytesNo (r : Nat) (v : Value) (a b n : Int) (w : World) (h : w.heap[r]? = some (rdV v a b)) (hb : 0 ≤ b) :
    Calls Tryz.prog 36 #[.pointer (some ⟨r, 0, none⟩), .int .i64 n] w fun e w1 => e = .returned (.slice none 0 0) ∧ Fr [] w w1 := by
  have c0 := cell_of h 0
  have c1 := cell_of h 1
  have c2 := cell_of h 2
  have hd1 : decide (0 ≤ b) = true := by simpa using hb
  go_enter Tryz.func36, Tryz.ntmps36
  go_wp2_with fail
  go_quiet (fail)
  go_wp2_with fail
  refine (rdWrong0 r v a b a _ (show (w.drewN nq).heap[r]? = _ from h) hb).mono ?_
  rintro e w1 ⟨rfl, h1⟩
  go_wp2
  go_ret
  exact ⟨rfl, ((Fr.refl [] w).drewN nq).trans0 h1⟩
/-- A field that is not there. -/
theorem rdBytesShort (r : Nat) (q : Option Addr) (N cap : Nat) (a n : Int) (w : World) (h : w.heap[r]? = some (rdV (.slice q N cap) a (-1))) (hn : (N : Int) - a < n) (ha : 0 ≤ a ∧ a ≤ (N : Int)) (hN : N ≤ 4000000) :
    Calls Tryz.prog 36 #[.pointer (some ⟨r, 0, none⟩), .int .i64 n] w fun e w1 => e = .returned (.slice none 0 0) ∧ w1.heap[r]? = some (rdV (.slice q N cap) a a) ∧ Fr [r] w w1 := by
  have c0 := cell_of h 0
  have c1 := cell_of h 1
  have c2 := cell_of h 2
  have hd1 : decide ((0 : Int) ≤ -1) = false := by decide
  have hw1 : IntKind.i64.wrap ((N : Int) - a) = (N : Int) - a := by rw [IntKind.wrap_i64]; omega
  have hd2 : decide ((N : Int) - a < n) = true := by simpa using hn
  go_enter Tryz.func36, Tryz.ntmps36
  go_wp2_with fail
  go_quiet (fail)
  go_wp2_with fail
  refine (rdWrong1 r _ a (-1) a _ (show (w.drewN nq).heap[r]? = _ from h) (by omega)).mono ?_
  rintro e w1 ⟨rfl, hr1, h1⟩
  go_wp2
  go_ret
  exact ⟨rfl, hr1, ((Fr.refl [r] w).drewN nq).transS h1⟩

theorem numI_snoc (z c : Int) (l : List Int) : numI z (l ++ [c]) = numI z l * 256 + c := by simp [numI]
theorem numI_bd' : ∀ (l : List Int) (z : Int), 0 ≤ z → (∀ c ∈ l, 0 ≤ c ∧ c < 256) → 0 ≤ numI z l ∧ numI z l < (z + 1) * 256 ^ l.length
  | [], z, hz, _ => by
    show 0 ≤ z ∧ z < (z + 1) * 1
    omega
  | c :: l, z, hz, h => by
    obtain ⟨h3, h4⟩ := h c (by simp)
    obtain ⟨h1, h2⟩ := numI_bd' l (z * 256 + c) (by omega) (fun x hx => h x (by simp [hx]))
    refine ⟨h1, Int.lt_of_lt_of_le h2 ?_⟩
    rw [List.length_cons, Int.pow_succ, Int.mul_comm (256 ^ l.length) 256, ← Int.mul_assoc]
    exact Int.mul_le_mul_of_nonneg_right (by omega) (Int.pow_nonneg (by decide))
theorem numI_bd (l : List Int) (h : ∀ c ∈ l, 0 ≤ c ∧ c < 256) (hl : l.length ≤ 4) : 0 ≤ numI 0 l ∧ numI 0 l < 4294967296 := by
  obtain ⟨h1, h2⟩ := numI_bd' l 0 (by omega) h
  refine ⟨h1, Int.lt_of_lt_of_le h2 ?_⟩
  have : (256 : Int) ^ l.length ≤ 256 ^ 4 := by
    rcases (by omega : l.length = 0 ∨ l.length = 1 ∨ l.length = 2 ∨ l.length = 3 ∨ l.length = 4) with h | h | h | h | h <;> rw [h] <;> decide
  omega
theorem take_snoc {l : List Int} {k : Nat} (h : k < l.length) : l.take (k + 1) = l.take k ++ [l[k]?.getD 0] := by
  rw [List.take_succ_eq_append_getElem h]
  simp [h]

set_option maxRecDepth 100000 in
set_option maxHeartbeats 1600000 in
/-- A number that is there, and may be. -/
theorem rdNumber (r pb po N cap a n : Nat) (ds : List Int) (lo hi x : Int) (w : World) (h : w.heap[r]? = some (rdV (.slice (some ⟨pb, po, none⟩) N cap) (a : Int) (-1))) (hc : ∀ j c, ds[j]? = some c → w.cell? ⟨pb, po + j, none⟩ = some (.int .u8 c)) (hpb : pb < w.heap.size) (hr : pb ≠ r) (hds : ds.length = N)
    (hby : ∀ c ∈ ds, 0 ≤ c ∧ c < 256) (hn : 0 < n ∧ n ≤ 4) (hN : a + n ≤ N) (hcap : N ≤ cap) (h63 : cap ≤ 9223372036854775807) (hx : numI 0 ((ds.drop a).take n) = x) (hlo : lo ≤ x) (hhi : x ≤ hi) :
    Calls Tryz.prog 38 #[.pointer (some ⟨r, 0, none⟩), .int .i64 (n : Int), .int .u64 lo, .int .u64 hi] w fun e w1 => e = .returned (.int .i64 x) ∧ w1.heap[r]? = some (rdV (.slice (some ⟨pb, po, none⟩) N cap) ((a : Int) + (n : Int)) (-1)) ∧ Fr [r] w w1 := by
  have c1 := cell_of h 1
  have hbytes := Lib.hid (rdBytes r pb po N cap a n w h hn.1 hN hcap h63)
  clear h
  go_enter Tryz.func38, Tryz.ntmps38
  go_wp2_with fail
  refine hbytes.out.mono ?_
  rintro e w1 ⟨rfl, hr1, h1⟩
  obtain ⟨hn1, hn4⟩ := hn
  have hcw : Hid (∀ j c, ds[j]? = some c → w1.cell? ⟨pb, po + j, none⟩ = some (.int .u8 c)) := fun j c hj => (h1.cell (p := ⟨pb, po + j, none⟩) hpb (by simp; exact hr)).trans (hc j c hj)
  have HX := Lib.hid hx
  have HBY := Lib.hid hby
  clear hc hx hby
  go_wp2_with fail
  have hlen : ((ds.drop a).take n).length = n := by simp; omega
  have HL := Lib.hid hlen
  have hmem : Hid (∀ c ∈ (ds.drop a).take n, 0 ≤ c ∧ c < 256) := fun c hc => HBY.out c (List.mem_of_mem_drop (List.mem_of_mem_take hc))
  have hget : Hid (∀ k, k < n → w1.cell? ⟨pb, po + a + k, none⟩ = some (.int .u8 (((ds.drop a).take n)[k]?.getD 0))) := fun k hk => by
    have e : ds[a + k]? = some (((ds.drop a).take n)[k]?.getD 0) := by
      rw [List.getElem?_take_of_lt hk, List.getElem?_drop]
      rw [List.getElem?_eq_getElem (by omega : a + k < ds.length)]
      rfl
    rw [Nat.add_assoc]
    exact hcw.out _ _ e
  generalize (ds.drop a).take n = bl at *
  clear hlen
  go_loop [10, 21] (fun h i => ∃ k : Nat, k ≤ n ∧ i = .int .i64 (k : Int) ∧ h = .int .u64 (numI 0 (bl.take k))) (fun _ i => n - (intOf i).toNat)
  case atStart => exact ⟨0, by omega, rfl, rfl⟩
  case round =>
    obtain ⟨k, hk, rfl, rfl⟩ := hrel
    by_cases hlt : k < n
    · have hcell := hget.out k hlt
      have hs := Lib.hid (take_snoc (l := bl) (k := k) (by rw [HL.out]; exact hlt))
      obtain ⟨y, hy⟩ : ∃ y, bl[k]?.getD 0 = y := ⟨_, rfl⟩
      have hyb : 0 ≤ y ∧ y < 256 := by
        rw [← hy]
        refine hmem.out _ ?_
        rw [List.getElem?_eq_getElem (by rw [HL.out]; exact hlt)]
        exact List.getElem_mem _
      have hzb := numI_bd (bl.take k) (fun c hc => hmem.out c (List.mem_of_mem_take hc)) (by rw [List.length_take]; omega)
      rw [hy] at hcell hs
      have HZ := Lib.hid (show numI 0 (bl.take (k + 1)) = numI 0 (bl.take k) * 256 + y by rw [hs.out, numI_snoc])
      generalize numI 0 (bl.take k) = z at *
      clear hy
      obtain ⟨z, rfl⟩ := Int.eq_ofNat_of_zero_le hzb.1
      obtain ⟨y, rfl⟩ := Int.eq_ofNat_of_zero_le hyb.1
      have hor := Lib.hid (or_byte z y (by omega) (by omega))
      go_wp2_with fail
      go_round
      case rel =>
        refine ⟨k + 1, by omega, by go_num, congrArg (Value.int .u64) ?_⟩
        rw [HZ.out]
        have h := hor.out
        rw [Int.natCast_mul, Int.natCast_add, Int.natCast_mul] at h
        exact h
      case measure => simp [intOf]; omega
    · obtain rfl : k = n := by omega
      have e : bl.take k = bl := List.take_of_length_le (by rw [HL.out]; exact Nat.le_refl _)
      have hzb := numI_bd bl hmem.out (by rw [HL.out]; omega)
      rw [e, HX.out] at *
      have hd1 : decide (x < lo) = false := by simpa using hlo
      have hd2 : decide (hi < x) = false := by simpa using hhi
      go_wp2_with fail
      go_ret
      exact ⟨rfl, hr1, h1⟩

set_option maxRecDepth 100000 in
/-- A number behind a fault. -/
theorem rdNumberNo (r : Nat) (v : Value) (a b n hi : Int) (w : World) (h : w.heap[r]? = some (rdV v a b)) (hb : 0 ≤ b) (hhi : 0 ≤ hi) :
    Calls Tryz.prog 38 #[.pointer (some ⟨r, 0, none⟩), .int .i64 n, .int .u64 0, .int .u64 hi] w fun e w1 => e = .returned (.int .i64 0) ∧ Fr [] w w1 := by
  have c1 := cell_of h 1
  have hbytes := Lib.hid (rdBytesNo r v a b n w h hb)
  have hd1 : decide ((0 : Int) < 0) = false := by decide
  have hd2 : decide (hi < 0) = false := by simpa using hhi
  clear h
  go_enter Tryz.func38, Tryz.ntmps38
  go_wp2_with fail
  refine hbytes.out.mono ?_
  rintro e w1 ⟨rfl, h1⟩
  go_wp2_with fail
  go_loop [10, 21] (fun h i => i = .int .i64 0 ∧ h = .int .u64 0) (fun _ _ => 0)
  case atStart => exact ⟨rfl, rfl⟩
  case round =>
    obtain ⟨rfl, rfl⟩ := hrel
    go_wp2_with fail
    go_ret
    exact ⟨rfl, h1⟩
end
section
open Go.RowKit

theorem drop_head (d : Int) (L : List (Sp × ByteArray)) (i : Nat) (tail : List Int) : (headI d L ++ tail).drop (9 + bytesN (L.take i)) = (L.drop i).flatMap cellI ++ tail := by
  have e0 : L.flatMap cellI = (L.take i).flatMap cellI ++ (L.drop i).flatMap cellI := by
    rw [← List.flatMap_append, List.take_append_drop]
  have e : headI d L ++ tail = (([81, 68, 82, 76, d] ++ beI 4 (L.length : Int)) ++ (L.take i).flatMap cellI) ++ ((L.drop i).flatMap cellI ++ tail) := by
    unfold headI
    rw [e0]
    simp only [List.append_assoc]
  rw [e, List.drop_left' (by simp only [List.length_append, List.length_cons, List.length_nil, beI_len, flat_cellI])]
theorem bytesN_take_succ (L : List (Sp × ByteArray)) (i : Nat) (hi : i < L.length) : bytesN (L.take (i + 1)) = bytesN (L.take i) + (8 + L[i].2.size) := by
  unfold bytesN
  rw [List.take_succ_eq_append_getElem hi, List.map_append, List.sum_append]
  simp
theorem bytesN_all (L : List (Sp × ByteArray)) : bytesN (L.take L.length) = bytesN L := by rw [List.take_length]
theorem bytesN_le (L : List (Sp × ByteArray)) (i : Nat) : bytesN (L.take i) ≤ bytesN L := by
  have : bytesN (L.take i) + bytesN (L.drop i) = bytesN L := by
    unfold bytesN
    rw [← List.sum_append, ← List.map_append, List.take_append_drop]
  omega
/-- What a cell's fields are, at its place. -/
theorem cell_fields (d : Int) (L : List (Sp × ByteArray)) (i : Nat) (hi : i < L.length) (tail : List Int) : ∃ rest, (headI d L ++ tail).drop (9 + bytesN (L.take i)) = beI 2 L[i].1.1 ++ (beI 2 L[i].1.2 ++ (beI 4 (L[i].2.size : Int) ++ (txI L[i].2 ++ rest))) := by
  refine ⟨(L.drop (i + 1)).flatMap cellI ++ tail, ?_⟩
  rw [drop_head, List.drop_eq_getElem_cons hi, List.flatMap_cons]
  simp only [cellI, List.append_assoc]
theorem take_front {α : Type} {l a b : List α} (h : l = a ++ b) {n : Nat} (hn : a.length = n) : l.take n = a ∧ l.drop n = b := by
  subst h
  subst hn
  exact ⟨List.take_left, List.drop_left⟩
theorem headI_front (d : Int) (L : List (Sp × ByteArray)) (tail : List Int) : headI d L ++ tail = [81, 68, 82, 76] ++ ([d] ++ (beI 4 (L.length : Int) ++ (L.flatMap cellI ++ tail))) := by
  unfold headI
  simp only [List.append_assoc, List.cons_append, List.nil_append]
theorem cellI_byte {x : Sp × ByteArray} : ∀ c ∈ cellI x, 0 ≤ c ∧ c < 256 := fun c hc => by
  simp only [cellI, List.mem_append] at hc
  rcases hc with hc | hc | hc | hc
  · exact beI_byte _ _ c hc
  · exact beI_byte _ _ c hc
  · exact beI_byte _ _ c hc
  · obtain ⟨b, _, rfl⟩ := List.mem_map.1 hc
    have := b.toNat_lt
    omega
theorem headI_byte {d : Int} (h0 : 0 ≤ d) (h1 : d < 256) (L : List (Sp × ByteArray)) : ∀ c ∈ headI d L, 0 ≤ c ∧ c < 256 := fun c hc => by
  simp only [headI, List.mem_append, List.mem_cons, List.not_mem_nil, or_false] at hc
  rcases hc with (rfl | rfl | rfl | rfl | rfl) | hc | hc
  · omega
  · omega
  · omega
  · omega
  · omega
  · exact beI_byte _ _ c hc
  · obtain ⟨x, _, hx⟩ := List.mem_flatMap.1 hc
    exact cellI_byte c hx
/-- All that is kept: the head and its sum. -/
theorem take_head {d : Int} {L : List (Sp × ByteArray)} {tail : List Int} : (headI d L ++ tail).take (9 + bytesN L) = headI d L := List.take_left' (headI_len d L)
theorem bytesN_bd {L : List (Sp × ByteArray)} (h : ∀ x ∈ L, x.2.size ≤ 40) : bytesN L ≤ 48 * L.length := by
  induction L with
  | nil => simp [bytesN]
  | cons x L ih =>
    have h1 := h x (by simp)
    have h2 := ih (fun y hy => h y (by simp [hy]))
    unfold bytesN at *
    simp only [List.map_cons, List.sum_cons, List.length_cons]
    omega
end
section
open Go.RowKit Go.Shelf

theorem Gr.fr {W w : World} (h : Gr W w) : Fr [] W w := by
  obtain ⟨q, os, rfl⟩ := h
  refine ⟨rfl, rfl, rfl, by simp, fun k hk _ => ?_⟩
  rw [Sort.heap_grow_old _ _ (by simpa using hk)]
  rfl
/-- An edit that sets a text. -/
def edC (e : Sp × ByteArray) : List Value := [.int .i64 1, .int .i64 e.1.1, .int .i64 e.1.2, .int .i64 0, .int .i64 0, .int .i64 0, .int .i64 0, .int .i64 0, .int .i64 0, .int .i64 0, .string e.2]
theorem news_blk {u : World} {D : Nat} {cs : Array Value} {t : TypeId} {f : Nat × Nat} (hb : u.heap[D]? = some (.cells cs t f)) : ∀ j y, cs.toList[j]? = some y → u.cell? ((⟨D, 0, none⟩ : Addr).add j) = some y := fun j y hj => by
  have e : (⟨D, 0, none⟩ : Addr).add j = ⟨D, j, none⟩ := by
    unfold Addr.add
    split
    · rename_i h0; subst h0; rfl
    · simp
  rw [e, cell_of hb]
  simpa using hj
theorem infoEd : (Tryz.prog.info? 37).map (fun i => (i.zero, i.size, i.bytes)) = some (some (.agg #[.int .i64 0, .int .i64 0, .int .i64 0, .int .i64 0, .int .i64 0, .int .i64 0, .int .i64 0, .int .i64 0, .int .i64 0, .int .i64 0, .string ⟨#[]⟩]), 11, 96) := by kernel_rfl
theorem strOf_txI (t : ByteArray) : strOfNums (txI t) = t := by
  obtain ⟨⟨l⟩⟩ := t
  simp [strOfNums, txI, Function.comp_def]
/-- Who stands ahead of the k-th. -/
def aheadS (L : List (Sp × ByteArray)) (k : Nat) : Sp := if k = 0 then (-1, 0) else (L[k - 1]?.map (·.1)).getD (0, 0)
def sizesN (L : List (Sp × ByteArray)) : Nat := (L.map (·.2.size)).sum

theorem rdV_cast {w : World} {r : Nat} {v : Value} {a n : Nat} {b : Int} (h : w.heap[r]? = some (rdV v ((a : Int) + (n : Int)) b)) : w.heap[r]? = some (rdV v ((a + n : Nat) : Int) b) := by rw [Int.natCast_add]; exact h
theorem drop_len {ds : List Int} {a : Nat} {l : List Int} (h : ds.drop a = l) (hl : 0 < l.length) : a + l.length = ds.length := by
  have := congrArg List.length h
  rw [List.length_drop] at this
  omega
theorem drop_more {ds : List Int} {a n : Nat} {p q : List Int} (h : ds.drop a = p ++ q) (hp : p.length = n) : (ds.drop a).take n = p ∧ ds.drop (a + n) = q := by
  obtain ⟨h1, h2⟩ := take_front h hp
  refine ⟨h1, ?_⟩
  rw [← List.drop_drop]
  exact h2
/-- The fields of the k-th cell. -/
structure CellAt (ds : List Int) (A : Nat) (s : Sp) (t : ByteArray) : Prop where
  row : numI 0 ((ds.drop A).take 2) = s.1
  col : numI 0 ((ds.drop (A + 2)).take 2) = s.2
  len : numI 0 ((ds.drop (A + 2 + 2)).take 4) = (t.size : Int)
  txt : (ds.drop (A + 2 + 2 + 4)).take t.size = txI t
  fit : A + 2 + 2 + 4 + t.size ≤ ds.length
theorem cellAt_of {ds tail : List Int} {a : Nat} {L : List (Sp × ByteArray)} (hfr : ds.drop a = L.flatMap cellI ++ tail) {k : Nat} (hk : k < L.length) (hm : mayS L[k].1.1 L[k].1.2 = true) (hs : L[k].2.size ≤ 40) : CellAt ds (a + bytesN (L.take k)) L[k].1 L[k].2 := by
  have e0 : L.flatMap cellI = (L.take k).flatMap cellI ++ (cellI L[k] ++ (L.drop (k + 1)).flatMap cellI) := by
    rw [← List.flatMap_cons, ← List.drop_eq_getElem_cons hk, ← List.flatMap_append, List.take_append_drop]
  rw [e0, List.append_assoc] at hfr
  have h1 := (drop_more hfr (flat_cellI _)).2
  simp only [cellI, List.append_assoc] at h1
  simp only [mayS, decide_eq_true_eq] at hm
  obtain ⟨t1, h2⟩ := drop_more h1 (beI_len 2 _)
  obtain ⟨t2, h3⟩ := drop_more h2 (beI_len 2 _)
  obtain ⟨t3, h4⟩ := drop_more h3 (beI_len 4 _)
  obtain ⟨t4, h5⟩ := drop_more h4 (txI_len _)
  refine ⟨by rw [t1, numI_beI0 (by omega) (by omega)], by rw [t2, numI_beI0 (by omega) (by omega)], by rw [t3, numI_beI0 (by omega) (by omega)], t4, ?_⟩
  have h6 := drop_len h3 (by simp only [List.length_append, beI_len]; omega)
  simp only [List.length_append, beI_len, txI_len] at h6
  omega

theorem cmpS_lt {s t : Sp} (h : s.1 < t.1 ∨ (s.1 = t.1 ∧ s.2 < t.2)) : cmpS s t = -1 := by
  rcases h with h | ⟨h1, h2⟩
  · simp [cmpS, cmpI, orI, h]
  · simp [cmpS, cmpI, orI, h1, h2]
theorem ahead_lt {L : List (Sp × ByteArray)} (hasc : (L.map (·.1)).Pairwise fun s t => s.1 < t.1 ∨ (s.1 = t.1 ∧ s.2 < t.2)) {k : Nat} (hk : k < L.length) (hm : mayS L[k].1.1 L[k].1.2 = true) : cmpS (aheadS L k) L[k].1 = -1 := by
  refine cmpS_lt ?_
  simp only [mayS, decide_eq_true_eq] at hm
  unfold aheadS
  by_cases h0 : k = 0
  · rw [if_pos h0]
    left
    show (-1 : Int) < _
    omega
  · rw [if_neg h0, List.getElem?_eq_getElem (by omega : k - 1 < L.length)]
    have := List.pairwise_iff_getElem.1 hasc (k - 1) k (by simp; omega) (by simpa using hk) (by omega)
    simpa using this
theorem ahead_next {L : List (Sp × ByteArray)} {k : Nat} (hk : k < L.length) : aheadS L (k + 1) = L[k].1 := by
  unfold aheadS
  rw [if_neg (by omega), Nat.add_sub_cancel, List.getElem?_eq_getElem hk]
  rfl

set_option maxRecDepth 100000 in
set_option maxHeartbeats 3200000 in
theorem rdCells (r pb po N cap a : Nat) (ds tail : List Int) (L : List (Sp × ByteArray)) (w : World) (h : w.heap[r]? = some (rdV (.slice (some ⟨pb, po, none⟩) N cap) (a : Int) (-1))) (hc : ∀ j c, ds[j]? = some c → w.cell? ⟨pb, po + j, none⟩ = some (.int .u8 c)) (hpb : pb < w.heap.size) (hr : pb ≠ r) (hds : ds.length = N)
    (hby : ∀ c ∈ ds, 0 ≤ c ∧ c < 256) (hcap : N ≤ cap) (h63 : cap ≤ 9223372036854775807) (hN : N ≤ 4000000) (hfr : ds.drop a = beI 4 (L.length : Int) ++ (L.flatMap cellI ++ tail)) (hL : L.length ≤ 65536)
    (hasc : (L.map (·.1)).Pairwise fun s t => s.1 < t.1 ∨ (s.1 = t.1 ∧ s.2 < t.2)) (hmay : ∀ x ∈ L, mayS x.1.1 x.1.2 = true) (hsz : ∀ x ∈ L, 0 < x.2.size ∧ x.2.size ≤ 40) :
    Calls Tryz.prog 39 #[.pointer (some ⟨r, 0, none⟩)] w fun e w1 => ∃ v, e = .returned v ∧ w1.ownsRow w.heap.size 37 11 v L.length (L.flatMap edC) ∧
      w1.heap[r]? = some (rdV (.slice (some ⟨pb, po, none⟩) N cap) ((a : Int) + 4 + (bytesN L : Int)) (-1)) ∧ Fr [r] w w1 := by
  obtain ⟨i0, hI, hz0, hz1, hz2⟩ := info_parts infoEd
  have hlr := lt_of h
  obtain ⟨t0, hfr2⟩ := drop_more hfr (beI_len 4 _)
  have hlen := drop_len hfr (by simp only [List.length_append, beI_len]; omega)
  simp only [List.length_append, beI_len, flat_cellI] at hlen
  have hCell : Hid (∀ k (hk : k < L.length), CellAt ds (a + 4 + bytesN (L.take k)) L[k].1 L[k].2) := fun k hk => cellAt_of hfr2 hk (hmay _ (List.getElem_mem _)) (hsz _ (List.getElem_mem _)).2
  have HC := Lib.hid hc
  have HBY := Lib.hid hby
  have HM := Lib.hid hmay
  have HSZ := Lib.hid hsz
  have HASC := Lib.hid hasc
  have h0 : Hid (numI 0 ((ds.drop a).take 4) = (L.length : Int)) := by
    show numI 0 ((ds.drop a).take 4) = (L.length : Int)
    rw [t0, numI_beI0 (by omega) (by omega)]
  have hca : Hid (∀ {u : World}, Fr [r] w u → ∀ j c, ds[j]? = some c → u.cell? ⟨pb, po + j, none⟩ = some (.int .u8 c)) := fun {u} hf j c hj => (hf.cell (p := ⟨pb, po + j, none⟩) hpb (by simp; exact hr)).trans (hc j c hj)
  clear hc hby hmay hsz hasc t0 hfr hfr2
  go_enter Tryz.func39, Tryz.ntmps39
  go_wp2_with fail
  have hA := (Fr.refl [r] w).alloc (.cells #[.int .i64 (-1), .int .i64 0] 33)
  have hab := heap_new w (.cells #[.int .i64 (-1), .int .i64 0] 33)
  refine (rdNumber r pb po N cap a 4 ds 0 65536 (L.length : Int) _ (((Fr.refl [] w).alloc _).heap h (by simp)) (hca.out hA) (Nat.lt_of_lt_of_le hpb hA.size) hr hds HBY.out (by omega) (by omega) hcap h63 h0.out (by omega) (by omega)).mono ?_
  rintro e w1 ⟨rfl, hr1, h1⟩
  have hr1 := rdV_cast hr1
  obtain ⟨AB, hAB⟩ : ∃ AB, w.heap.size = AB := ⟨_, rfl⟩
  have hf1 := hA.transS h1
  have hab1 := h1.heap hab (by simp; omega)
  have z1 := h1.size
  simp only [World.size_alloc] at z1
  simp only [hAB] at hab1 z1 hlr hpb ⊢
  clear hA hab h1 h
  go_wp2_with fail
  go_loopw [3, 4, 6] (fun lv all n wr => ∃ (k : Nat) (al : Int), k ≤ L.length ∧ n = .int .i64 ((L.length : Int) - (k : Int)) ∧ all = .int .i64 al ∧ 0 ≤ al ∧ al ≤ 40 * (k : Int) ∧ wr.ownsRow AB 37 11 lv k ((L.take k).flatMap edC) ∧
      wr.heap[r]? = some (rdV (.slice (some ⟨pb, po, none⟩) N cap) ((a + 4 + bytesN (L.take k) : Nat) : Int) (-1)) ∧ wr.heap[AB]? = some (.cells #[.int .i64 (aheadS L k).1, .int .i64 (aheadS L k).2] 33 (0, 0)) ∧ Fr [r] w wr) (fun _ _ n _ => (intOf n).toNat)
  case atStart => exact ⟨0, 0, by omega, by go_num, rfl, by omega, by omega, World.ownsRow_nil _ _ _ _, by simpa [bytesN] using hr1, hab1, hf1⟩
  case round =>
    obtain ⟨k, al, hk, rfl, rfl, ha0, ha1, hrow, hrr, hah, hfr⟩ := hrel
    by_cases hlt : k < L.length
    · have hC := Lib.hid (hCell.out k hlt)
      have hmk := HM.out _ (List.getElem_mem hlt)
      have hzk := HSZ.out _ (List.getElem_mem hlt)
      have hcmp := Lib.hid (ahead_lt HASC.out hlt hmk)
      have hnext := Lib.hid (ahead_next hlt)
      have HT := Lib.hid (show (L.take (k + 1)).flatMap edC = (L.take k).flatMap edC ++ edC L[k] by
        rw [List.take_succ_eq_append_getElem hlt, List.flatMap_append]; simp)
      have HBN := Lib.hid (bytesN_take_succ L k hlt)
      obtain ⟨s, hs⟩ : ∃ s, L[k].1 = s := ⟨_, rfl⟩
      obtain ⟨t, ht⟩ : ∃ t, L[k].2 = t := ⟨_, rfl⟩
      have hx : L[k] = (s, t) := by rw [← hs, ← ht]
      rw [hs, ht] at hC
      rw [hs] at hmk hcmp hnext
      rw [ht] at hzk HBN
      rw [hx] at HT
      obtain ⟨A, hAe⟩ : ∃ A, a + 4 + bytesN (L.take k) = A := ⟨_, rfl⟩
      rw [hAe] at hC hrr
      have HAe := Lib.hid hAe
      obtain ⟨sa, hsa⟩ : ∃ sa, aheadS L k = sa := ⟨_, rfl⟩
      rw [hsa] at hcmp hah
      have hfit := hC.out.fit
      have hms := hmk
      simp only [mayS, decide_eq_true_eq] at hms
      clear hs ht hx hAe hsa
      have c1 := cell_of hrr 1
      have c2 := cell_of hrr 2
      go_wp2_with fail
      refine (rdNumber r pb po N cap A 2 ds 0 65535 s.1 _ hrr (hca.out hfr) (Nat.lt_of_lt_of_le hpb (Nat.le_trans (by omega) hfr.size)) hr hds HBY.out (by omega) (by omega) hcap h63 hC.out.row (by omega) (by omega)).mono ?_
      rintro e w2 ⟨rfl, hr2, h2⟩
      have hr2 := rdV_cast hr2
      have hf2 := hfr.transS h2
      go_wp2_with fail
      refine (rdNumber r pb po N cap (A + 2) 2 ds 0 65535 s.2 _ hr2 (hca.out hf2) (Nat.lt_of_lt_of_le hpb (Nat.le_trans (by omega) hf2.size)) hr hds HBY.out (by omega) (by omega) hcap h63 hC.out.col (by omega) (by omega)).mono ?_
      rintro e w3 ⟨rfl, hr3, h3⟩
      have hr3 := rdV_cast hr3
      have hf3 := hf2.transS h3
      clear c1 c2 hr2
      go_upto_region 11 with fail
      have hA4 := (Fr.refl [] w3).alloc (.cells #[.int .i64 s.1, .int .i64 s.2] 33)
      have hsb := heap_new w3 (.cells #[.int .i64 s.1, .int .i64 s.2] 33)
      have hr4 := hA4.heap hr3 (by simp)
      have hab3 := h3.heap (h2.heap hah (by simp; omega)) (by simp; omega)
      have lab := lt_of hab3
      have hab4 := hA4.heap hab3 (by simp)
      have hf4 := hf3.trans0 hA4
      have z3 := hf3.size
      generalize w3.alloc (.cells #[.int .i64 s.1, .int .i64 s.2] 33) = w4 at *
      obtain ⟨SB, hSB⟩ : ∃ SB, w3.heap.size = SB := ⟨_, rfl⟩
      simp only [hSB] at hsb z3 lab ⊢
      have c2 := cell_of hr4 2
      have s0 := cell_of hsb 0
      have s1 := cell_of hsb 1
      have b0 := cell_of hab4 0
      have b1 := cell_of hab4 1
      go_wp2_with fail
      refine (spotMay s.1 s.2 _).mono ?_
      rw [hmk]
      rintro e w5 ⟨rfl, h5⟩
      have b0 := ce_call h5 (show w4.cell? ⟨AB, 0, none⟩ = some (.int .i64 sa.1) from b0)
      have b1 := ce_call h5 (show w4.cell? ⟨AB, 1, none⟩ = some (.int .i64 sa.2) from b1)
      have s0 := ce_call h5 (show w4.cell? ⟨SB, 0, none⟩ = some (.int .i64 s.1) from s0)
      have s1 := ce_call h5 (show w4.cell? ⟨SB, 1, none⟩ = some (.int .i64 s.2) from s1)
      go_wp2_with fail
      refine (spotCompare sa s _).mono ?_
      rw [hcmp.out]
      rintro e w6 ⟨rfl, h6'⟩
      have h6 := h6'.fr
      have hf6 := (hf4.trans0 h5).trans0 h6
      have h46 := h5.trans0 h6
      have hsb6 := h46.heap hsb (by simp)
      have hab6 := h46.heap hab4 (by simp)
      have hr6 := h46.heap hr4 (by simp)
      clear b0 b1 s0 s1 c2 h6'
      have s0 := cell_of hsb6 0
      have s1 := cell_of hsb6 1
      have b0 := cell_of hab6 0
      have b1 := cell_of hab6 1
      have f0 := free_of hab6 0
      have f1 := free_of hab6 1
      have hne1 : SB ≠ AB := by omega
      have hne2 : AB ≠ SB := by omega
      have hw1 : IntKind.i64.wrap (67108864 - al) = 67108864 - al := by rw [IntKind.wrap_i64]; omega
      go_wp2_with fail
      have hF7 : Fr [AB] w6 ((w6.setCell ⟨AB, 0, none⟩ (.int .i64 s.1)).setCell ⟨AB, 1, none⟩ (.int .i64 s.2)) := ((Fr.refl _ _).setCell (.inl (by simp)) _).setCell (.inl (by simp)) _
      have hab7 := set_of (set_of hab6 0 (.int .i64 s.1)) 1 (.int .i64 s.2)
      have hrA : r ≠ AB := by omega
      have hr7 := hF7.heap hr6 (by simp; exact hrA)
      have hsb7 := hF7.heap hsb6 (by simp; exact hne1)
      have hf7 : Fr [r] w ((w6.setCell ⟨AB, 0, none⟩ (.int .i64 s.1)).setCell ⟨AB, 1, none⟩ (.int .i64 s.2)) := hf6.trans hF7 (by simp; omega)
      have hrow7 := owns_fr (owns_fr hrow (((((h2.transS h3).trans0 hA4).trans0 h46)) : Fr [r] _ _) (fun g hg hm => by have := (hrow.lt g hg).1; simp at hm; omega)) hF7 (fun g hg hm => by
        have h1 := (hrow.lt g hg).1
        simp at hm
        subst hm
        rcases hrow.2 with ⟨e, _⟩ | ⟨g', cap', cur, e, hg', hh, _⟩
        · rw [e] at hg; cases hg
        · rw [e] at hg; cases hg
          rw [hah] at hh
          cases hh)
      generalize (w6.setCell ⟨AB, 0, none⟩ (.int .i64 s.1)).setCell ⟨AB, 1, none⟩ (.int .i64 s.2) = w7 at *
      refine (rdNumber r pb po N cap (A + 2 + 2) 4 ds 1 16777216 (t.size : Int) _ hr7 (hca.out hf7) (Nat.lt_of_lt_of_le hpb (Nat.le_trans (by omega) hf7.size)) hr hds HBY.out (by omega) (by omega) hcap h63 hC.out.len (by omega) (by omega)).mono ?_
      rintro e W ⟨rfl, hrW, h8⟩
      have hrW := rdV_cast hrW
      have hf8 := hf7.transS h8
      have hsbW := h8.heap hsb7 (by simp; omega)
      have habW := h8.heap hab7 (by simp; exact fun e => hrA e.symm)
      have hrowW := owns_fr hrow7 h8 (fun g hg hm => by have := (hrow7.lt g hg).1; simp at hm; omega)
      obtain ⟨Q, hQ⟩ : ∃ Q, A + 2 + 2 + 4 = Q := ⟨_, rfl⟩
      rw [hQ] at hrW
      have htx := Lib.hid hC.out.txt
      rw [hQ] at htx hfit
      have zAB : AB ≤ W.heap.size := Nat.le_trans (by omega) hf8.size
      have hw3 : IntKind.i64.wrap (al + (t.size : Int)) = al + (t.size : Int) := by rw [IntKind.wrap_i64]; omega
      clear s0 s1 b0 b1 f0 f1 hw1
      go_wp2_with fail
      have hABV : AB ∉ u3.ownBlock.toList := by
        intro hm
        simp only [Option.mem_toList] at hm
        rcases hrowW.2 with ⟨e, _⟩ | ⟨g', cap', cur, e, hg', hh, _⟩
        · rw [e] at hm; cases hm
        · rw [e] at hm; cases hm
          rw [habW] at hh
          cases hh
      have hSBV : SB ∉ u3.ownBlock.toList := by
        intro hm
        simp only [Option.mem_toList] at hm
        rcases hrowW.2 with ⟨e, _⟩ | ⟨g', cap', cur, e, hg', hh, _⟩
        · rw [e] at hm; cases hm
        · rw [e] at hm; cases hm
          rw [hsbW] at hh
          cases hh
      have hVge : ∀ g ∈ u3.ownBlock.toList, AB ≤ g ∧ g < W.heap.size := fun g hg => hrowW.lt g (by simpa using hg)
      have hrV : r ∉ u3.ownBlock.toList := fun hm => by have := (hVge r hm).1; omega
      have hpV : pb ∉ r :: u3.ownBlock.toList := by
        simp only [List.mem_cons, not_or]
        exact ⟨hr, fun hm => by have := (hVge pb hm).1; omega⟩
      have nA : SB ∉ r :: u3.ownBlock.toList := by
        simp only [List.mem_cons, not_or]
        exact ⟨by omega, hSBV⟩
      have lrW := lt_of hrW
      have hno : ∀ (i j : Nat), W.heap.size ≤ j → j ∉ (if i = 4 then [r] else if i = 8 then u3.ownBlock.toList else []) := by
        intro i j hj hm
        split at hm
        · simp at hm; omega
        · split at hm
          · have := (hVge j hm).2; omega
          · simp at hm
      have hby : Hid (∀ u, Fr [] W u → Calls Tryz.prog 36 #[.pointer (some ⟨r, 0, none⟩), .int .i64 (t.size : Int)] u fun e w1 => e = .returned (.slice (some ⟨pb, po + Q, none⟩) t.size (cap - Q)) ∧ w1.heap[r]? = some (rdV (.slice (some ⟨pb, po, none⟩) N cap) ((Q : Int) + (t.size : Int)) (-1)) ∧ Fr [r] u w1) := fun u hu => rdBytes r pb po N cap Q t.size u (hu.heap hrW (by simp)) (by omega) (by omega) hcap h63
      have lpb : pb < W.heap.size := Nat.lt_of_lt_of_le hpb (Nat.le_trans (by omega) hf8.size)
      have hconv : Hid (∀ u, Fr (r :: u3.ownBlock.toList) W u → (convert 22 9 (.slice (some ⟨pb, po + Q, none⟩) t.size (cap - Q))).run Tryz.prog u = .ok (.string t) u) := fun u hu => by
        have hcv := run_convert_bytes_arg (P := Tryz.prog) u 22 5 Tryz.underlying22 Tryz.underlying5 pb (po + Q) t.size (cap - Q) (txI t) (txI_len t) (fun j hj => by
          have e : ds[Q + j]? = some ((txI t).getD j 0) := by
            rw [← htx.out, List.getD_eq_getElem?_getD, List.getElem?_take_of_lt hj, List.getElem?_drop, List.getElem?_eq_getElem (by omega : Q + j < ds.length)]
            rfl
          rw [Nat.add_assoc]
          exact (hu.cell (p := ⟨pb, po + (Q + j), none⟩) lpb hpV).trans (hca.out hf8 _ _ e)) 9 Tryz.underlying9
        rwa [strOf_txI] at hcv
      have hqz : Q + t.size ≤ 4000000 := by omega
      refine wp_facts (fun u => Fr (r :: u3.ownBlock.toList) W u) (fun i u u' => Fr (if i = 4 then [r] else if i = 8 then u3.ownBlock.toList else []) u u') [(0, .pointer (some ⟨r, 0, none⟩)), (10, .pointer (some ⟨SB, 0, none⟩)), (11, .int .i64 (t.size : Int))] [[], [], [], [], [2, 3], [4], [1, 5, 4], [6, 4], [0, 7, 4], [8, 0]]
        (fun i σ u => match i with
          | 0 => σ 66 = u3
          | 1 => σ 67 = spV s
          | 2 => σ 68 = .pointer (some ⟨r, 0, none⟩)
          | 3 => σ 69 = .int .i64 (t.size : Int)
          | 4 => u.heap[r]? = some (rdV (.slice (some ⟨pb, po, none⟩) N cap) ((Q : Int) + (t.size : Int)) (-1)) ∧ σ 70 = .slice (some ⟨pb, po + Q, none⟩) t.size (cap - Q)
          | 5 => σ 71 = .string t
          | 6 => σ 72 = .agg #[.int .i64 1, .int .i64 s.1, .int .i64 s.2, .int .i64 0, .int .i64 0, .int .i64 0, .int .i64 0, .int .i64 0, .int .i64 0, .int .i64 0, .string t]
          | 7 => ∃ D, σ 73 = .slice (some ⟨D, 0, none⟩) 1 1 ∧ u.heap[D]? = some (.cells #[.int .i64 1, .int .i64 s.1, .int .i64 s.2, .int .i64 0, .int .i64 0, .int .i64 0, .int .i64 0, .int .i64 0, .int .i64 0, .int .i64 0, .string t] 37 (0, 0)) ∧ W.heap.size ≤ D
          | 8 => ∃ v2, σ 74 = v2 ∧ u.ownsRow AB 37 11 v2 (k + 1) ((L.take k).flatMap edC ++ edC (s, t))
          | _ => ∃ v2, σ 3 = v2 ∧ u.ownsRow AB 37 11 v2 (k + 1) ((L.take k).flatMap edC ++ edC (s, t))) (fun i u => (i = 4 → Fr [] W u) ∧ (i = 8 → Fr [r] W u))
        (ds := [66, 67, 68, 69, 70, 71, 72, 73, 74, 3]) (fr := ?fr16) (by kernel_rfl) ?hfr16 ⟨rfl, rfl, rfl, trivial⟩ rfl rfl (by kernel_rfl) (by kernel_rfl) (by decide) rfl (Fr.refl _ _).drew (fun _ _ => ⟨fun _ => (Fr.refl _ _).drew, fun _ => (Fr.refl _ _).drew⟩) ⟨fun j hj i u u' hij hc hG hR hN => ⟨fun e => by subst e; have h8 : i ≠ 8 := (by rintro rfl; exact absurd hc (by decide)); rw [if_neg hij, if_neg h8] at hR; exact (hN.1 rfl).trans0 hR, fun e => by subst e; rw [if_neg hij] at hR; split at hR; exact (hN.2 rfl).transS hR; exact (hN.2 rfl).trans0 hR⟩, fun i u u' hG hR => (by split at hR; exact hG.trans hR (fun q hq => .inl (by first | exact hq | exact List.mem_cons_of_mem _ hq | exact List.mem_cons.2 (.inl (List.mem_singleton.1 hq)))); split at hR; exact hG.trans hR (fun q hq => .inl (by first | exact hq | exact List.mem_cons_of_mem _ hq | exact List.mem_cons.2 (.inl (List.mem_singleton.1 hq)))); exact hG.trans0 hR), ?_, ?_⟩ ?_
      case hfr16 =>
        intro σ
        simp only [layA, List.foldl_cons, List.foldl_nil, List.setIfInBounds_toArray, List.set_cons_zero, List.set_cons_succ]
        rfl
      · intro j hj i σ σ' u u' hij hs hd hG hR h
        have hj : j < 10 := hj
        rcases (by omega : j = 4 ∨ j = 7 ∨ j = 8 ∨ j = 9 ∨ j = 0 ∨ j = 1 ∨ j = 2 ∨ j = 3 ∨ j = 5 ∨ j = 6) with rfl | rfl | rfl | rfl | rfl | rfl | rfl | rfl | rfl | rfl
        · rw [if_neg hij] at hR; exact ⟨hR.heap h.1 (by split; exact hrV; simp), hs.trans h.2⟩
        · obtain ⟨D, h1, h2, h3⟩ := h; exact ⟨D, hs.trans h1, hR.heap h2 (hno _ _ h3), h3⟩
        · obtain ⟨v2, h1, h2⟩ := h; exact ⟨v2, hs.trans h1, owns_fr h2 hR (fun g hg hm => by have := (h2.lt g hg).1; split at hm; (simp at hm; omega); (first | (rw [if_neg hij] at hm; simp at hm) | simp at hm))⟩
        · obtain ⟨v2, h1, h2⟩ := h; exact ⟨v2, hs.trans h1, owns_fr h2 hR (fun g hg hm => by have := (h2.lt g hg).1; have h8 : i ≠ 8 := (fun e => (hd 8 rfl).2 e); split at hm; (simp at hm; omega); (first | (rw [if_neg h8] at hm; simp at hm) | simp at hm))⟩
        all_goals exact hs.trans h
      · intro i hi
        have hi : i < 10 := hi
        rcases (by omega : (i = 1 ∨ i = 2 ∨ i = 3 ∨ i = 6) ∨ (i = 0 ∨ i = 4 ∨ i = 5 ∨ i = 7 ∨ i = 8 ∨ i = 9)) with hi | hi
        · rcases hi with rfl | rfl | rfl | rfl
          all_goals
            intro a u K hX hG hD hN hZ hK
            obtain ⟨hx0, hx10, hx11, -⟩ := hX
            try dsimp only [AllF, slotsA, List.getD_cons_zero, List.getD_cons_succ] at hD
            first | obtain ⟨e0, e1, e2, e3, -⟩ := hD | obtain ⟨e0, e1, e2, -⟩ := hD | obtain ⟨e0, e1, -⟩ := hD | obtain ⟨e0, -⟩ := hD | skip
            try replace e0 : _ = _ := e0
            try replace e1 : _ = _ := e1
            try replace e2 : _ = _ := e2
            try replace e3 : _ = _ := e3
            have hA5 := hG.heap hsbW nA
            have m0 := cell_of hA5 0
            have m1 := cell_of hA5 1
            refine wpOp_step rfl (fun K' hK' => ?_)
            go_simp
            exact hK' _ _ (hK _ _ (Fr.refl _ _) rfl)
        · rcases hi with rfl | rfl | rfl | rfl | rfl | rfl
          all_goals
            intro a u K hX hG hD hN hZ hK
            obtain ⟨hx0, hx10, hx11, -⟩ := hX
            try dsimp only [AllF, slotsA, List.getD_cons_zero, List.getD_cons_succ] at hD
            have hA5 := hG.heap hsbW nA
            have m0 := cell_of hA5 0
            have m1 := cell_of hA5 1
          · have e0 : a.tmps[3]?.getD undef = u3 := hZ 9 3 rfl (by decide)
            refine wpOp_step rfl (fun K' hK' => ?_)
            go_simp
            exact hK' _ _ (hK _ _ (Fr.refl _ _) rfl)
          · obtain ⟨d2, d3, -⟩ := hD
            replace d2 : _ = _ := d2
            replace d3 : _ = _ := d3
            refine wpOp_step rfl (fun K' hK' => ?_)
            go_simp
            refine (hby.out u (hN.1 rfl)).mono ?_
            rintro e u2 ⟨rfl, hr5, hF⟩
            exact hK' _ _ (hK _ _ hF ⟨hr5, rfl⟩)
          · obtain ⟨⟨-, d4⟩, -⟩ := hD
            replace d4 : _ = _ := d4
            have hcv := hconv.out u hG
            refine wpOp_step rfl (fun K' hK' => ?_)
            go_simp
            exact hK' _ _ (hK _ _ (Fr.refl _ _) rfl)
          · obtain ⟨d6, -⟩ := hD
            replace d6 : _ = _ := d6
            refine wpOp_step rfl (fun K' hK' => ?_)
            go_simp
            exact hK' _ _ (hK _ _ ((Fr.refl [] u).alloc _) ⟨_, rfl, heap_new u _, hG.size⟩)
          · obtain ⟨d0, ⟨D, d7, hb, hz⟩, -⟩ := hD
            replace d0 : _ = _ := d0
            have hrow2 := owns_fr hrowW (hN.2 rfl) (fun g hg hm => by have := (hrowW.lt g hg).1; simp at hm; omega)
            refine wpOp_plain rfl rfl (wp_append_own u (.tmp 66) (.tmp 73) 39 rfl AB 37 i0 _ 11 96 Tryz.underlying39 hI hz0 hz1 hz2 rfl (by decide) u3 k _ ((eval_tmp a 66).trans d0) hrow2 ⟨D, 0, none⟩ 1 1 (edC (s, t)) ((eval_tmp a 73).trans d7) rfl (news_blk hb) (by simp [Value.oneCell', edC]) (by unfold maxLen; omega) (by omega) (Nat.le_trans zAB hG.size) ?_)
            intro v2 u2 ho hgr _
            exact hK _ _ (fr_grownB hgr) ⟨v2, rfl, ho⟩
          · obtain ⟨⟨v2, d8, ho⟩, -⟩ := hD
            replace d8 : _ = _ := d8
            refine wpOp_step rfl (fun K' hK' => ?_)
            go_simp
            exact hK' _ _ (hK _ _ (Fr.refl _ _) ⟨v2, rfl, ho⟩)
      · intro σ u hG h
        obtain ⟨v2, e3, ho⟩ := h 9 (by decide)
        have hru := (h 4 (by decide)).1
        rw [e3]
        clear h
        have habu := hG.heap habW (by simp only [List.mem_cons, not_or]; exact ⟨fun e => hrA e.symm, hABV⟩)
        have hfu : Fr [r] w u := hf8.trans hG (fun q hq => by
          rcases List.mem_cons.1 hq with h | h
          · exact .inl (by simp [h])
          · exact .inr (by have := (hVge q h).1; omega))
        go_wp2_with fail
        go_roundw
        case rel =>
          refine ⟨k + 1, al + (t.size : Int), by omega, by go_num, rfl, by omega, by omega, by rw [HT.out]; exact ho, ?_, ?_, hfu⟩
          · have e : a + 4 + bytesN (L.take (k + 1)) = Q + t.size := by have h1 := HBN.out; have h2 := HAe.out; omega
            rw [e, Int.natCast_add]
            exact hru
          · rw [hnext.out]
            exact habu
        case measure => simp [intOf]; omega
    · obtain rfl : k = L.length := by omega
      have hz : (L.length : Int) - (L.length : Int) = 0 := by omega
      rw [hz]
      rw [List.take_length] at hrow hrr
      go_wp2_with fail
      go_ret
      rw [Int.natCast_add, Int.natCast_add] at hrr
      exact ⟨u3, rfl, hAB ▸ hrow, hrr, hfr⟩
end
end Go.Proofs.YtnmkhoebijodhaaGreatDoor
