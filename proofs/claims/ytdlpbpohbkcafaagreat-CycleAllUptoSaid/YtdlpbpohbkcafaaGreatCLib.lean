/-
  Functions of package slices at numbers and places: ContainsFunc, Compact.
-/
import Derived.Test.YtdlpbpohbkcafaaGreatCLeaf
import Derived.Shelf.SlicesQ.IndexFunc
import Derived.Shelf.SlicesG.CompactI
import Derived.Shelf.SlGeneric
import Derived.Shelf.Lay
import Derived.Ground.SlgfProg
import Derived.Ground.SlgnProg
namespace Go.Proofs.YtdlpbpohbkcafaaGreat
open Go.RowKit Go.Shelf Go.Sort Go.Proofs

def Tryz.hasF_ren : Go.Shelf.Ren := ⟨fun | 8 => 40 | 6 => 59 | n => n, fun | 22 => 28 | 23 => 27 | 25 => 92 | 4 => 4 | 3 => 3 | 0 => 0 | n => n, fun | n => n⟩
theorem Tryz.hasF : Go.Proofs.SlLaysH0.n8 Tryz.prog Tryz.hasF_ren where
  mixed := by kernel_rfl
  f6 := ⟨Tryz.f59.name, by kernel_rfl, Tryz.func59.trans (congrArg some (by kernel_rfl))⟩
  f8 := ⟨Tryz.f40.name, by kernel_rfl, Tryz.func40.trans (congrArg some (by kernel_rfl))⟩
  t0 := Tryz.underlying0
  a0 := Tryz.isAgg0
  z0 := Tryz.sizeOf0
  v0 := Tryz.zeroValue0
  t3 := Tryz.underlying3
  a3 := Tryz.isAgg3
  z3 := Tryz.sizeOf3
  v3 := Tryz.zeroValue3
  t4 := Tryz.underlying4
  a4 := Tryz.isAgg4
  z4 := Tryz.sizeOf4
  v4 := Tryz.zeroValue4
  t22 := Tryz.underlying28
  a22 := Tryz.isAgg28
  z22 := Tryz.sizeOf28
  v22 := Tryz.zeroValue28
  t25 := Tryz.underlying92
  a25 := Tryz.isAgg92
  z25 := Tryz.sizeOf92
  v25 := Tryz.zeroValue92
def Tryz.cmpctI_ren : Go.Shelf.Ren := ⟨fun | 43 => 44 | n => n, fun | 22 => 47 | 23 => 3 | 3 => 3 | 4 => 4 | 0 => 0 | n => n, fun | n => n⟩
theorem Tryz.cmpctI : Go.Proofs.SlLaysN.n43 Tryz.prog Tryz.cmpctI_ren where
  mixed := by kernel_rfl
  f43 := ⟨Tryz.f44.name, by kernel_rfl, Tryz.func44.trans (congrArg some (by kernel_rfl))⟩
  t0 := Tryz.underlying0
  a0 := Tryz.isAgg0
  z0 := Tryz.sizeOf0
  v0 := Tryz.zeroValue0
  t3 := Tryz.underlying3
  a3 := Tryz.isAgg3
  z3 := Tryz.sizeOf3
  v3 := Tryz.zeroValue3
  t4 := Tryz.underlying4
  a4 := Tryz.isAgg4
  z4 := Tryz.sizeOf4
  v4 := Tryz.zeroValue4
  t22 := Tryz.underlying47
  a22 := Tryz.isAgg47
  z22 := Tryz.sizeOf47
  v22 := Tryz.zeroValue47
  t23 := Tryz.underlying3
  a23 := Tryz.isAgg3
  z23 := Tryz.sizeOf3
  v23 := Tryz.zeroValue3
  i23 := by kernel_rfl

abbrev SpotsAt (w : World) (v : Value) (ds : List Sp) : Prop := SlAt w v 2 ds.length (ds.flatMap spC)

theorem made1 (s : Sp) (w : World) : Calls Tryz.prog 41 #[spV s] w fun e w1 => e = .returned (.bool (!mayS s.1 s.2)) ∧ Fr [] w w1 := by
  go_enter Tryz.func41, Tryz.ntmps41
  go_wp2_with fail
  refine (spotMay _ _ _).mono ?_
  rintro e w1 ⟨rfl, h1⟩
  go_wp2
  go_ret
  exact ⟨rfl, ((Fr.refl [] w).alloc _).trans0 h1⟩

theorem has0 (q : Option Addr) (c : Nat) (w : World) : Calls Tryz.prog 40 #[.slice q 0 c, .func (.func 41) #[] #[]] w fun e w1 => e = .returned (.bool false) ∧ Fr [] w w1 := by
  go_enter Tryz.func40, Tryz.ntmps40
  have h : ∀ W : World, Calls Tryz.prog 59 #[.slice q 0 c, .func (.func 41) #[] #[]] W fun e w1 => e = .returned (.int .i64 (-1)) ∧ Fr [] W w1 := fun W => by
    go_enter Tryz.func59, Tryz.ntmps59
    go_wp2_with fail
    go_loopw [8] (fun i wr => i = .int .i64 0 ∧ Fr [] W wr) (fun _ _ => 0)
    case atStart => exact ⟨rfl, Fr.refl _ _⟩
    case round =>
      obtain ⟨rfl, hf⟩ := hrel
      go_wp2
      go_ret
      exact ⟨rfl, hf⟩
  go_wp2_with fail
  refine (h _).mono ?_
  rintro e w1 ⟨rfl, h1⟩
  go_wp2
  go_ret
  exact ⟨rfl, h1⟩

/-- Is one of them no place of the grid? -/
theorem hasBad (v : Value) (ds : List Sp) (w : World) (hv : SpotsAt w v ds) : Calls Tryz.prog 40 #[v, .func (.func 41) #[] #[]] w fun e w1 => e = .returned (.bool (ds.any fun s => !mayS s.1 s.2)) ∧ Fr [] w w1 := by
  obtain ⟨q, c, rfl, h1, h2⟩ := hv.form
  by_cases h0 : ds.length = 0
  · obtain rfl := List.eq_nil_of_length_eq_zero h0
    exact has0 q c w
  · obtain ⟨b, off, _, e, hb, hc⟩ := hv.cell (by omega)
    cases e
    have eg : ∀ args w, (callFunc 41 args).run Tryz.prog w = .ok (.enter 41 args) w := enters_of Tryz.func41 (by kernel_rfl) rfl
    have hcon := AnyQ.slices_ContainsFunc Tryz.hasF 2 Tryz.isAgg27 Tryz.sizeOf27 spC (fun _ => rfl) (fun s => !mayS s.1 s.2) 41 #[] eg b off ds.length c ds w
      (fun W x hB => (made1 x W).mono fun e w1 ⟨he, hf⟩ => ⟨he, hB.trans (hf.below.mono hB.size)⟩) (Nat.le_refl _) (by omega) hb (fun j hj i v hi => by
        have hi2 : i < 2 := (List.getElem?_eq_some_iff.1 hi).1
        rw [Nat.add_assoc]
        refine hc (j * 2 + i) v ?_
        rw [flat_get spC 2 (fun _ => rfl) ds j i hj hi2]
        rwa [getElem!_pos ds j hj] at hi)
    change Calls Tryz.prog 40 _ _ _ at hcon
    rw [List.take_length] at hcon
    exact hcon.mono fun e w1 ⟨he, hb⟩ => ⟨he, Fr.of_below hb []⟩

/-- Numbers, as a row has them. -/
abbrev nC (n : Nat) : List Value := [.int .i64 (n : Int)]
abbrev NumsAt (w : World) (v : Value) (l : List Nat) : Prop := SlAt w v 1 l.length (l.flatMap nC)

theorem nums_cell {w : World} {v : Value} {l : List Nat} (h : NumsAt w v l) {k : Nat} (hk : k < l.length) : ∃ b off c, v = .slice (some ⟨b, off, none⟩) l.length c ∧ b < w.heap.size ∧ w.cell? ⟨b, off + k, none⟩ = some (.int .i64 (l[k] : Int)) := by
  obtain ⟨b, off, c, e, hb, hc⟩ := h.cell (by omega)
  refine ⟨b, off, c, e, hb, hc k _ ?_⟩
  have := flat_get nC 1 (fun _ => rfl) l k 0 hk (by omega)
  rw [Nat.mul_one, Nat.add_zero] at this
  rw [this]
  rfl
theorem idx_at {l : List Nat} {x k : Nat} (hk : k < l.length) (h1 : x ∉ l.take k) (h2 : l[k] = x) : l.idxOf x = k := by
  have e : l = l.take k ++ l[k] :: l.drop (k + 1) := by rw [List.getElem_cons_drop, List.take_append_drop]
  rw [e, List.idxOf_append, if_neg h1, h2, List.idxOf_cons_self, List.length_take]
  omega

/-- slices.Index. -/
def idxN (l : List Nat) (x : Nat) : Int := if x ∈ l then (l.idxOf x : Int) else -1
theorem indexN (v : Value) (l : List Nat) (x : Nat) (w : World) (hl : NumsAt w v l) : Calls Tryz.prog 23 #[v, .int .i64 (x : Int)] w fun e w1 => e = .returned (.int .i64 (idxN l x)) ∧ Fr [] w w1 := by
  have HL := Lib.hid hl
  obtain ⟨q, c, rfl, hc1, hc⟩ := hl.form
  have hll : (l.length : Int) ≤ 9223372036854775807 := by omega
  clear hl
  go_enter Tryz.func23, Tryz.ntmps23
  go_wp2_with fail
  go_loopw [5, 8] (fun _ i wr => ∃ k : Nat, i = .int .i64 (k : Int) ∧ k ≤ l.length ∧ x ∉ l.take k ∧ Fr [] w wr) (fun _ i _ => l.length - (intOf i).toNat)
  case atStart => exact ⟨0, rfl, by omega, by simp, Fr.refl _ _⟩
  case round =>
    obtain ⟨k, rfl, hk, hx, hf⟩ := hrel
    have HX := Lib.hid hx
    clear hx
    by_cases hlt : k < l.length
    · obtain ⟨b, off, _, e, hb, c0⟩ := nums_cell (HL.out.fr0 hf) hlt
      cases e
      have hk1 : (k : Int) < (l.length : Int) := by omega
      by_cases he : l[k] = x
      · have HI := Lib.hid (idx_at hlt HX.out he)
        have HM := Lib.hid (List.getElem_mem hlt)
        rw [he] at c0 HM
        have hxx : ((x : Int) == (x : Int)) = true := by simp
        clear he
        go_wp2
        go_ret
        refine ⟨?_, hf⟩
        unfold idxN
        rw [if_pos HM.out, HI.out]
        rfl
      · have hxx : ((x : Int) == (l[k] : Int)) = false := by rw [beq_eq_false_iff_ne]; omega
        have ht := Lib.hid (List.take_succ_eq_append_getElem hlt)
        have HE := Lib.hid he
        clear he
        generalize l[k] = y at *
        go_wp2
        go_roundw
        case rel =>
          refine ⟨k + 1, by go_num, by omega, ?_, hf⟩
          rw [ht.out, List.mem_append, List.mem_singleton]
          exact fun h => h.elim HX.out (fun h => HE.out h.symm)
        case measure => simp [intOf]; omega
    · obtain rfl : k = l.length := by omega
      rw [List.take_length] at HX
      go_wp2
      go_ret
      refine ⟨?_, hf⟩
      unfold idxN
      rw [if_neg HX.out]
      rfl
theorem containsN (v : Value) (l : List Nat) (x : Nat) (w : World) (hl : NumsAt w v l) : Calls Tryz.prog 24 #[v, .int .i64 (x : Int)] w fun e w1 => e = .returned (.bool (decide (x ∈ l))) ∧ Fr [] w w1 := by
  have HL := Lib.hid hl
  clear hl
  by_cases hx : x ∈ l
  · have hI : Hid (idxN l x = (l.idxOf x : Int)) := by show _ = _; unfold idxN; rw [if_pos hx]
    have HX := Lib.hid hx
    clear hx
    go_enter Tryz.func24, Tryz.ntmps24
    go_wp2_with fail
    refine (indexN v l x _ HL.out).mono ?_
    rw [hI.out]
    rintro e w1 ⟨rfl, h1⟩
    go_wp2
    go_ret
    exact ⟨ret_bool (by simp [HX.out]), h1⟩
  · have hI : Hid (idxN l x = -1) := by show _ = _; unfold idxN; rw [if_neg hx]
    have HX := Lib.hid hx
    clear hx
    go_enter Tryz.func24, Tryz.ntmps24
    go_wp2_with fail
    refine (indexN v l x _ HL.out).mono ?_
    rw [hI.out]
    rintro e w1 ⟨rfl, h1⟩
    go_wp2
    go_ret
    exact ⟨ret_bool (by simp [HX.out]), h1⟩
end Go.Proofs.YtdlpbpohbkcafaaGreat
