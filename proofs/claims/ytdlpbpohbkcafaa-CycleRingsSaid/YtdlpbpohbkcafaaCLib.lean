/-
  Functions of package slices at numbers and places: ContainsFunc, Compact.
-/
import Derived.Test.YtdlpbpohbkcafaaCLeaf
import Derived.Shelf.SlicesQ.IndexFunc
import Derived.Shelf.SlicesG.CompactI
import Derived.Shelf.SlGeneric
import Derived.Shelf.Lay
import Derived.Ground.SlgfProg
import Derived.Ground.SlgnProg
namespace Go.Proofs.Ytdlpbpohbkcafaa
open Go.RowKit Go.Shelf Go.Sort Go.Proofs

def Try.hasF_ren : Go.Shelf.Ren := ⟨fun | 8 => 41 | 6 => 54 | n => n, fun | 22 => 30 | 23 => 33 | 25 => 63 | 4 => 4 | 3 => 3 | 0 => 0 | n => n, fun | n => n⟩
theorem Try.hasF : Go.Proofs.SlLaysH0.n8 Try.prog Try.hasF_ren where
  mixed := by kernel_rfl
  f6 := ⟨Try.f54.name, by kernel_rfl, Try.func54.trans (congrArg some (by kernel_rfl))⟩
  f8 := ⟨Try.f41.name, by kernel_rfl, Try.func41.trans (congrArg some (by kernel_rfl))⟩
  t0 := Try.underlying0
  a0 := Try.isAgg0
  z0 := Try.sizeOf0
  v0 := Try.zeroValue0
  t3 := Try.underlying3
  a3 := Try.isAgg3
  z3 := Try.sizeOf3
  v3 := Try.zeroValue3
  t4 := Try.underlying4
  a4 := Try.isAgg4
  z4 := Try.sizeOf4
  v4 := Try.zeroValue4
  t22 := Try.underlying30
  a22 := Try.isAgg30
  z22 := Try.sizeOf30
  v22 := Try.zeroValue30
  t25 := Try.underlying63
  a25 := Try.isAgg63
  z25 := Try.sizeOf63
  v25 := Try.zeroValue63
def Try.cmpctI_ren : Go.Shelf.Ren := ⟨fun | 43 => 45 | n => n, fun | 22 => 29 | 23 => 3 | 3 => 3 | 4 => 4 | 0 => 0 | n => n, fun | n => n⟩
theorem Try.cmpctI : Go.Proofs.SlLaysN.n43 Try.prog Try.cmpctI_ren where
  mixed := by kernel_rfl
  f43 := ⟨Try.f45.name, by kernel_rfl, Try.func45.trans (congrArg some (by kernel_rfl))⟩
  t0 := Try.underlying0
  a0 := Try.isAgg0
  z0 := Try.sizeOf0
  v0 := Try.zeroValue0
  t3 := Try.underlying3
  a3 := Try.isAgg3
  z3 := Try.sizeOf3
  v3 := Try.zeroValue3
  t4 := Try.underlying4
  a4 := Try.isAgg4
  z4 := Try.sizeOf4
  v4 := Try.zeroValue4
  t22 := Try.underlying29
  a22 := Try.isAgg29
  z22 := Try.sizeOf29
  v22 := Try.zeroValue29
  t23 := Try.underlying3
  a23 := Try.isAgg3
  z23 := Try.sizeOf3
  v23 := Try.zeroValue3
  i23 := by kernel_rfl

abbrev SpotsAt (w : World) (v : Value) (ds : List Sp) : Prop := SlAt w v 2 ds.length (ds.flatMap spC)

theorem made1 (s : Sp) (w : World) : Calls Try.prog 42 #[spV s] w fun e w1 => e = .returned (.bool (!mayS s.1 s.2)) ∧ Fr [] w w1 := by
  go_enter Try.func42, Try.ntmps42
  go_wp2_with fail
  refine (spotMay _ _ _).mono ?_
  rintro e w1 ⟨rfl, h1⟩
  go_wp2
  go_ret
  exact ⟨rfl, ((Fr.refl [] w).alloc _).trans0 h1⟩

theorem has0 (q : Option Addr) (c : Nat) (w : World) : Calls Try.prog 41 #[.slice q 0 c, .func (.func 42) #[] #[]] w fun e w1 => e = .returned (.bool false) ∧ Fr [] w w1 := by
  go_enter Try.func41, Try.ntmps41
  have h : ∀ W : World, Calls Try.prog 54 #[.slice q 0 c, .func (.func 42) #[] #[]] W fun e w1 => e = .returned (.int .i64 (-1)) ∧ Fr [] W w1 := fun W => by
    go_enter Try.func54, Try.ntmps54
    go_wp2_with fail
    go_loopw [8] (fun i wr => i = .int .i64 0 ∧ Fr [] W wr) (fun _ _ => 0)
    case atStart => exact ⟨rfl, Fr.refl _ _⟩
    case round =>
      obtain ⟨rfl, hf⟩ := hrel
      go_wp2
      go_ret
      exact ⟨rfl, hf⟩
  go_wp2_with fail
  refine (h _).mono ?_
  rintro e w1 ⟨rfl, h1⟩
  go_wp2
  go_ret
  exact ⟨rfl, h1⟩

/-- Is one of them no place of the grid? -/
theorem hasBad (v : Value) (ds : List Sp) (w : World) (hv : SpotsAt w v ds) : Calls Try.prog 41 #[v, .func (.func 42) #[] #[]] w fun e w1 => e = .returned (.bool (ds.any fun s => !mayS s.1 s.2)) ∧ Fr [] w w1 := by
  obtain ⟨q, c, rfl, h1, h2⟩ := hv.form
  by_cases h0 : ds.length = 0
  · obtain rfl := List.eq_nil_of_length_eq_zero h0
    exact has0 q c w
  · obtain ⟨b, off, _, e, hb, hc⟩ := hv.cell (by omega)
    cases e
    have eg : ∀ args w, (callFunc 42 args).run Try.prog w = .ok (.enter 42 args) w := enters_of Try.func42 (by kernel_rfl) rfl
    have hcon := AnyQ.slices_ContainsFunc Try.hasF 2 Try.isAgg33 Try.sizeOf33 spC (fun _ => rfl) (fun s => !mayS s.1 s.2) 42 #[] eg b off ds.length c ds w
      (fun W x hB => (made1 x W).mono fun e w1 ⟨he, hf⟩ => ⟨he, hB.trans (hf.below.mono hB.size)⟩) (Nat.le_refl _) (by omega) hb (fun j hj i v hi => by
        have hi2 : i < 2 := (List.getElem?_eq_some_iff.1 hi).1
        rw [Nat.add_assoc]
        refine hc (j * 2 + i) v ?_
        rw [flat_get spC 2 (fun _ => rfl) ds j i hj hi2]
        rwa [getElem!_pos ds j hj] at hi)
    change Calls Try.prog 41 _ _ _ at hcon
    rw [List.take_length] at hcon
    exact hcon.mono fun e w1 ⟨he, hb⟩ => ⟨he, Fr.of_below hb []⟩

/-- Numbers, as a row has them. -/
abbrev nC (n : Nat) : List Value := [.int .i64 (n : Int)]
abbrev NumsAt (w : World) (v : Value) (l : List Nat) : Prop := SlAt w v 1 l.length (l.flatMap nC)

theorem nums_cell {w : World} {v : Value} {l : List Nat} (h : NumsAt w v l) {k : Nat} (hk : k < l.length) : ∃ b off c, v = .slice (some ⟨b, off, none⟩) l.length c ∧ b < w.heap.size ∧ w.cell? ⟨b, off + k, none⟩ = some (.int .i64 (l[k] : Int)) := by
  obtain ⟨b, off, c, e, hb, hc⟩ := h.cell (by omega)
  refine ⟨b, off, c, e, hb, hc k _ ?_⟩
  have := flat_get nC 1 (fun _ => rfl) l k 0 hk (by omega)
  rw [Nat.mul_one, Nat.add_zero] at this
  rw [this]
  rfl
theorem idx_at {l : List Nat} {x k : Nat} (hk : k < l.length) (h1 : x ∉ l.take k) (h2 : l[k] = x) : l.idxOf x = k := by
  have e : l = l.take k ++ l[k] :: l.drop (k + 1) := by rw [List.getElem_cons_drop, List.take_append_drop]
  rw [e, List.idxOf_append, if_neg h1, h2, List.idxOf_cons_self, List.length_take]
  omega

/-- slices.Index. -/
def idxN (l : List Nat) (x : Nat) : Int := if x ∈ l then (l.idxOf x : Int) else -1
theorem indexN (v : Value) (l : List Nat) (x : Nat) (w : World) (hl : NumsAt w v l) : Calls Try.prog 29 #[v, .int .i64 (x : Int)] w fun e w1 => e = .returned (.int .i64 (idxN l x)) ∧ Fr [] w w1 := by
  have HL := Lib.hid hl
  obtain ⟨q, c, rfl, hc1, hc⟩ := hl.form
  have hll : (l.length : Int) ≤ 9223372036854775807 := by omega
  clear hl
  go_enter Try.func29, Try.ntmps29
  go_wp2_with fail
  go_loopw [5, 8] (fun _ i wr => ∃ k : Nat, i = .int .i64 (k : Int) ∧ k ≤ l.length ∧ x ∉ l.take k ∧ Fr [] w wr) (fun _ i _ => l.length - (intOf i).toNat)
  case atStart => exact ⟨0, rfl, by omega, by simp, Fr.refl _ _⟩
  case round =>
    obtain ⟨k, rfl, hk, hx, hf⟩ := hrel
    have HX := Lib.hid hx
    clear hx
    by_cases hlt : k < l.length
    · obtain ⟨b, off, _, e, hb, c0⟩ := nums_cell (HL.out.fr0 hf) hlt
      cases e
      have hk1 : (k : Int) < (l.length : Int) := by omega
      by_cases he : l[k] = x
      · have HI := Lib.hid (idx_at hlt HX.out he)
        have HM := Lib.hid (List.getElem_mem hlt)
        rw [he] at c0 HM
        have hxx : ((x : Int) == (x : Int)) = true := by simp
        clear he
        go_wp2
        go_ret
        refine ⟨?_, hf⟩
        unfold idxN
        rw [if_pos HM.out, HI.out]
        rfl
      · have hxx : ((x : Int) == (l[k] : Int)) = false := by rw [beq_eq_false_iff_ne]; omega
        have ht := Lib.hid (List.take_succ_eq_append_getElem hlt)
        have HE := Lib.hid he
        clear he
        generalize l[k] = y at *
        go_wp2
        go_roundw
        case rel =>
          refine ⟨k + 1, by go_num, by omega, ?_, hf⟩
          rw [ht.out, List.mem_append, List.mem_singleton]
          exact fun h => h.elim HX.out (fun h => HE.out h.symm)
        case measure => simp [intOf]; omega
    · obtain rfl : k = l.length := by omega
      rw [List.take_length] at HX
      go_wp2
      go_ret
      refine ⟨?_, hf⟩
      unfold idxN
      rw [if_neg HX.out]
      rfl
theorem containsN (v : Value) (l : List Nat) (x : Nat) (w : World) (hl : NumsAt w v l) : Calls Try.prog 30 #[v, .int .i64 (x : Int)] w fun e w1 => e = .returned (.bool (decide (x ∈ l))) ∧ Fr [] w w1 := by
  have HL := Lib.hid hl
  clear hl
  by_cases hx : x ∈ l
  · have hI : Hid (idxN l x = (l.idxOf x : Int)) := by show _ = _; unfold idxN; rw [if_pos hx]
    have HX := Lib.hid hx
    clear hx
    go_enter Try.func30, Try.ntmps30
    go_wp2_with fail
    refine (indexN v l x _ HL.out).mono ?_
    rw [hI.out]
    rintro e w1 ⟨rfl, h1⟩
    go_wp2
    go_ret
    exact ⟨ret_bool (by simp [HX.out]), h1⟩
  · have hI : Hid (idxN l x = -1) := by show _ = _; unfold idxN; rw [if_neg hx]
    have HX := Lib.hid hx
    clear hx
    go_enter Try.func30, Try.ntmps30
    go_wp2_with fail
    refine (indexN v l x _ HL.out).mono ?_
    rw [hI.out]
    rintro e w1 ⟨rfl, h1⟩
    go_wp2
    go_ret
    exact ⟨ret_bool (by simp [HX.out]), h1⟩
end Go.Proofs.Ytdlpbpohbkcafaa
