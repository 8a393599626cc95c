/-
  A region that draws its order, by what holds of the operations that have come: each operation is shown once, not once for each order. No program in sight.
  A drawn region's world, by how far it has come: ahead, laid, grown, stored. No program in sight.
-/
import Derived.Test.YtnmkhoebijodhaaGreatDoorBase
import Derived.Deep.RegionHeld3
import Derived.Stop.RegionWithIn
namespace Go.Proofs.YtnmkhoebijodhaaGreatDoor
section
open Go.RowKit

variable {P : Program} {ops : Array Oper} {Q : Exit → Act → World → Prop} {md : Region.Mode}

/-- Each operation waits for such alone as stand ahead of it. -/
def depsOk (md : Region.Mode) (ops : Array Oper) : Bool := (List.range ops.size).all fun i => ((ops[i]?).map fun o => o.after.all fun e => !Region.binds md e || decide (e.on < i)).getD true

/-- What one operation must do. -/
def StepOk (P : Program) (md : Region.Mode) (ops : Array Oper) (Q : Exit → Act → World → Prop) (Inv : (Nat → Bool) → Act → World → Prop) (i : Nat) : Prop :=
  ∀ (L : Nat → Bool) (a : Act) (w : World), Inv L a w → L i = false → (∀ o, ops[i]? = some o → ∀ e ∈ o.after, Region.binds md e = true → L e.on = true) → wpOp P ops Q i (Inv fun j => L j || j == i) a w

theorem gd_lt {l : Array Bool} {i : Nat} (h : i < l.size) (b : Bool) : l.getD i b = l[i] := by rw [Array.getD_eq_getD_getElem?, Array.getElem?_eq_getElem h]; rfl
theorem getD_set (listed : Array Bool) (i : Nat) (hi : i < listed.size) (j : Nat) : (listed.setIfInBounds i true).getD j false = (listed.getD j false || j == i) := by
  rw [Array.getD_eq_getD_getElem?, Array.getD_eq_getD_getElem?, Array.getElem?_setIfInBounds]
  by_cases e : j = i
  · subst e
    simp [hi]
  · rw [if_neg (fun h => e h.symm)]
    simp [e]

theorem wpAny_inv (Inv : (Nat → Bool) → Act → World → Prop) (hd : depsOk md ops = true) (hstep : ∀ i, i < ops.size → StepOk P md ops Q Inv i)
    (hend : ∀ L a w, (∀ i, i < ops.size → L i = true) → Inv L a w → Q .normal a w) :
    ∀ (fuel : Nat) (listed : Array Bool) (a : Act) (w : World), listed.size = ops.size → listed.toList.count false ≤ fuel → Inv (fun j => listed.getD j false) a w → wpAny P md ops Q fuel listed a w := by
  have hall : ∀ (listed : Array Bool), listed.size = ops.size → Region.ready md ops listed = [] → ∀ i, i < ops.size → listed.getD i false = true := by
    intro listed hsz hr i
    induction i using Nat.strongRecOn with
    | ind i ih =>
      intro hi
      cases hl : listed.getD i false with
      | true => rfl
      | false =>
        exfalso
        have hm : i ∈ Region.ready md ops listed := by
          unfold Region.ready
          rw [List.mem_filter]
          refine ⟨List.mem_range.2 hi, ?_⟩
          have h1 : listed.getD i true = false := by
            rw [gd_lt (by omega)] at hl ⊢
            exact hl
          rw [h1]
          have ho : ops[i]? = some ops[i] := Array.getElem?_eq_getElem hi
          rw [ho]
          simp only [Bool.not_false, Bool.true_and, Option.map_some, Option.getD_some]
          rw [Array.all_eq_true]
          intro k hk
          unfold depsOk at hd
          have h2 := List.all_eq_true.1 hd i (List.mem_range.2 hi)
          rw [ho] at h2
          simp only [Option.map_some, Option.getD_some] at h2
          have h3 := Array.all_eq_true.1 h2 k hk
          cases hb : Region.binds md ops[i].after[k] with
          | false => rfl
          | true =>
            rw [hb] at h3
            have h4 : ops[i].after[k].on < i := by simpa using h3
            rw [ih _ h4 (Nat.lt_trans h4 hi)]
            rfl
        rw [hr] at hm
        cases hm
  intro fuel
  induction fuel with
  | zero =>
    intro listed a w hsz hc hI
    have hno : ∀ i, i < ops.size → listed.getD i false = true := fun i hi => by
      have h0 : listed.toList.count false = 0 := by omega
      have h1 := List.count_eq_zero.1 h0
      cases hl : listed.getD i false with
      | true => rfl
      | false =>
        refine absurd ?_ h1
        have hi' : i < listed.size := by omega
        rw [gd_lt hi'] at hl
        have := Array.getElem_mem hi'
        rw [hl] at this
        exact Array.mem_toList_iff.2 this
    refine ⟨?_, hend _ a w hno hI⟩
    unfold Region.ready
    rw [List.filter_eq_nil_iff]
    intro i hi
    have hi2 := List.mem_range.1 hi
    have h1 := hno i hi2
    have hi' : i < listed.size := by omega
    rw [gd_lt hi'] at h1
    rw [gd_lt hi', h1]
    simp
  | succ fuel ih =>
    intro listed a w hsz hc hI
    refine ⟨fun hr => hend _ a w (hall listed hsz hr) hI, fun i hi => ?_⟩
    unfold Region.ready at hi
    rw [List.mem_filter] at hi
    obtain ⟨hir, hi2⟩ := hi
    have hi' := List.mem_range.1 hir
    have hil : i < listed.size := by omega
    rw [Bool.and_eq_true] at hi2
    obtain ⟨h1, h2⟩ := hi2
    have hl : listed[i] = false := by
      rw [gd_lt hil] at h1
      simpa using h1
    refine wpOp_mono ?_ (hstep i hi' _ a w hI ?_ ?_)
    · intro a' w' hI'
      refine ih _ a' w' (by simpa using hsz) ?_ ?_
      · have hcount : (listed.setIfInBounds i true).toList.count false + 1 = listed.toList.count false := by
          rw [Array.toList_setIfInBounds, List.count_set (by simpa using hil)]
          have hpos : 0 < listed.toList.count false := List.count_pos_iff.2 (by
            have := Array.getElem_mem hil
            rw [hl] at this
            exact Array.mem_toList_iff.2 this)
          have e1 : listed.toList[i]'(by simpa using hil) = false := by simpa using hl
          rw [e1]
          simp only [beq_self_eq_true, if_true]
          rw [show ((true : Bool) == false) = false from rfl]
          simp only [Bool.false_eq_true, if_false]
          omega
        omega
      · have e : (fun j => (listed.setIfInBounds i true).getD j false) = fun j => listed.getD j false || j == i := funext fun j => getD_set listed i hil j
        rw [e]
        exact hI'
    · show listed.getD i false = false
      rw [gd_lt hil]
      exact hl
    · intro o ho e he hb
      rw [ho] at h2
      simp only [Option.map_some, Option.getD_some] at h2
      obtain ⟨k, hk, hke⟩ := Array.getElem_of_mem he
      have h3 := Array.all_eq_true.1 h2 k hk
      rw [hke, hb] at h3
      simpa using h3

/-- THE LAW. -/
theorem wp_region_inv {id : Nat} {a : Act} {w : World} (Inv : (Nat → Bool) → Act → World → Prop) (hm : P.follows .mixedOrders = true) (hd : depsOk .any ops = true) (h0 : Inv (fun _ => false) a w.drew)
    (hstep : ∀ i, i < ops.size → StepOk P .any ops Q Inv i) (hend : ∀ L a w, (∀ i, i < ops.size → L i = true) → Inv L a w → Q .normal a w) : (Code.region id ops true).wp P Q a w := by
  refine wp_region_any hm (wpAny_inv Inv hd hstep hend _ _ _ _ (by simp) ?_ ?_)
  · rw [Array.toList_replicate]
    exact Nat.le_trans List.count_le_length (by simp)
  · have e : (fun j => (Array.replicate ops.size false).getD j false) = fun _ => false := funext fun j => by
      rw [Array.getD_eq_getD_getElem?, Array.getElem?_replicate]
      split <;> rfl
    rw [e]
    exact h0

/-- The same, the frame of the beginning handed to the invariant. -/
theorem wp_region_inv0 {id : Nat} {a : Act} {w : World} (Inv : Act → (Nat → Bool) → Act → World → Prop) (hm : P.follows .mixedOrders = true) (hd : depsOk .any ops = true) (h0 : Inv a (fun _ => false) a w.drew)
    (hstep : ∀ i, i < ops.size → StepOk P .any ops Q (Inv a) i) (hend : ∀ L a' w', (∀ i, i < ops.size → L i = true) → Inv a L a' w' → Q .normal a' w') : (Code.region id ops true).wp P Q a w :=
  wp_region_inv (Inv a) hm hd h0 hstep hend
end
section
open Go.RowKit

variable {P : Program} {ops : Array Oper} {Q : Exit → Act → World → Prop}
def StepOk2 (P : Program) (md : Region.Mode) (ops : Array Oper) (Q : Exit → Act → World → Prop) (Inv : (Nat → Bool) → Act → World → Prop) (i : Nat) : Prop :=
  ∀ (L : Nat → Bool) (a : Act) (w : World), Inv L a w → L i = false → (∀ o, ops[i]? = some o → ∀ e ∈ o.after, Region.binds md e = true → L e.on = true) → wpOp P ops Q i (Inv fun j => j == i || L j) a w
/-- The law, the newest operation ahead. -/
theorem wp_region_inv2 {id : Nat} {a : Act} {w : World} (Inv : (Nat → Bool) → Act → World → Prop) (hm : P.follows .mixedOrders = true) (hd : depsOk .any ops = true) (h0 : Inv (fun _ => false) a w.drew)
    (hstep : ∀ i, i < ops.size → StepOk2 P .any ops Q Inv i) (hend : ∀ L a w, (∀ i, i < ops.size → L i = true) → Inv L a w → Q .normal a w) : (Code.region id ops true).wp P Q a w :=
  wp_region_inv Inv hm hd h0 (fun i hi L a w hI hL hdep => by
    have := hstep i hi L a w hI hL hdep
    have e : (fun j => L j || j == i) = fun j => j == i || L j := funext fun j => Bool.or_comm _ _
    rw [e]
    exact this) hend
/-- How far it has come: A laid, P grown, S stored; x: what the append told. -/
structure RegW (w0 w1 : World) (AP : Nat → Nat → World → Prop) (sl : Nat → Nat → Value) (st : Nat → Nat → World → World) (A G S : Bool) (x : Value) (u : World) : Prop where
  a : A = false → u = w0
  b : A = true → G = false → u = w1
  c : G = true → S = false → ∃ g cap, AP g cap u ∧ x = sl g cap
  d : S = true → ∃ g cap u2, AP g cap u2 ∧ u = st g cap u2
  e : G = true → A = true
  f : S = true → G = true
section
variable {w0 w1 : World} {AP : Nat → Nat → World → Prop} {sl : Nat → Nat → Value} {st : Nat → Nat → World → World} {A G S : Bool} {x : Value} {u : World}
theorem RegW.start (w0 w1 : World) (AP : Nat → Nat → World → Prop) (sl : Nat → Nat → Value) (st : Nat → Nat → World → World) (x : Value) : RegW w0 w1 AP sl st false false false x w0 :=
  ⟨fun _ => rfl, (fun h => by cases h), (fun h => by cases h), (fun h => by cases h), (fun h => by cases h), (fun h => by cases h)⟩
theorem RegW.phase (h : RegW w0 w1 AP sl st A G S x u) {Ph : World → Prop} (h0 : Ph w0) (h1 : Ph w1) (h2 : ∀ g cap u, AP g cap u → Ph u) (hS : S = false) : Ph u := by
  cases A with
  | false => rw [h.a rfl]; exact h0
  | true =>
    cases G with
    | false => rw [h.b rfl rfl]; exact h1
    | true =>
      obtain ⟨g, cap, hap, _⟩ := h.c rfl hS
      exact h2 _ _ _ hap
theorem RegW.before (h : RegW w0 w1 AP sl st A G S x u) (hA : A = false) : w0 = u := (h.a hA).symm
theorem RegW.laid (h : RegW w0 w1 AP sl st A G S x u) (hA : A = true) (hG : G = false) : w1 = u := (h.b hA hG).symm
theorem RegW.grown (h : RegW w0 w1 AP sl st A G S x u) (hG : G = true) (hS : S = false) : ∃ g cap, AP g cap u ∧ x = sl g cap := h.c hG hS
theorem RegW.lay (h : RegW w0 w1 AP sl st A G S x u) (hA : A = false) {u2 : World} (e : u2 = w1) : RegW w0 w1 AP sl st true G S x u2 := by
  have hG : G = false := by
    cases G with
    | false => rfl
    | true => rw [h.e rfl] at hA; cases hA
  have hS : S = false := by
    cases S with
    | false => rfl
    | true => rw [h.f rfl] at hG; cases hG
  subst hG
  subst hS
  exact ⟨(fun h => by cases h), fun _ _ => e, (fun h => by cases h), (fun h => by cases h), fun _ => rfl, (fun h => by cases h)⟩
theorem RegW.grow (h : RegW w0 w1 AP sl st A G S x u) (hA : A = true) (hG : G = false) {g cap : Nat} {u2 : World} (hap : AP g cap u2) {y : Value} (e : y = sl g cap) : RegW w0 w1 AP sl st A true S y u2 := by
  have hS : S = false := by
    cases S with
    | false => rfl
    | true => rw [h.f rfl] at hG; cases hG
  subst hS
  subst hA
  exact ⟨(fun h => by cases h), (fun _ h => by cases h), fun _ _ => ⟨g, cap, hap, e⟩, (fun h => by cases h), fun _ => rfl, (fun h => by cases h)⟩
theorem RegW.store (h : RegW w0 w1 AP sl st A G S x u) (hG : G = true) (_hS : S = false) {g cap : Nat} (hap : AP g cap u) {y : Value} : RegW w0 w1 AP sl st A G true y (st g cap u) := by
  have hA := h.e hG
  subst hA
  subst hG
  exact ⟨(fun h => by cases h), (fun _ h => by cases h), (fun _ h => by cases h), fun _ => ⟨g, cap, u, hap, rfl⟩, fun _ => rfl, fun _ => rfl⟩
theorem RegW.stored (h : RegW w0 w1 AP sl st A G S x u) (hS : S = true) : ∃ g cap u2, AP g cap u2 ∧ u = st g cap u2 := h.d hS
end
end
end Go.Proofs.YtnmkhoebijodhaaGreatDoor
