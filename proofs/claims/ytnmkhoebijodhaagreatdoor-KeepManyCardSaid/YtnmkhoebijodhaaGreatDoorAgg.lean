/-
  Structs and rows of many cells, loaded and stored in one step. No program in sight.
-/
import Derived.Test.YtnmkhoebijodhaaGreatDoorBase
import Derived.Deep.MidRow
import Derived.OwnWalkIn
import Derived.TacticsInMore
namespace Go.Proofs.YtnmkhoebijodhaaGreatDoor
open Go.RowKit

theorem setRow_alloc (w : World) (c : Array Value) (t : TypeId) (cells : Array Value) : (w.alloc (.cells c t)).setRow w.heap.size cells = w.alloc (.cells cells t) := by
  have h : ∀ (H : Array Obj), (H.push (.cells c t)).modify H.size (fun x => match x with | .cells _ e f => .cells cells e f | o => o) = H.push (.cells cells t) := fun H => by
    refine Array.ext_getElem? fun k => ?_
    rw [Array.getElem?_modify, Array.getElem?_push, Array.getElem?_push]
    by_cases e : H.size = k
    · subst e; simp
    · simp [e, Ne.symm e]
  exact congrArg (fun H : Array Obj => ({ w with heap := H } : World)) (h w.heap)
section
variable {F : Fence} {n : Nat} {P : Program} {ops : Array Oper} {rest : List Oper} {op : Oper} {a : Act} {w : World} {Q : Exit → Act → World → Prop}

theorem inOf_value (hnd : ∀ c, op.op ≠ .defer c) (hab : ∀ w ρ, op.about P w ρ = none) {v : Value} {w' : World} (hr : (execOp a.eval op).run P w = .ok (.value v) w') {K : Act → World → Prop} (h : K (a.put op.dst v) w') : op.wpIn F n P a w K Q := by
  unfold Oper.wpIn
  refine ⟨fun f hf => (by rw [hab] at hf; cases hf), ?_⟩
  rw [Oper.semAt_plain F _ _ hnd, hr]
  exact h
theorem exec_load (ty : TypeId) (x : Operand) (ho : op.op = .load ty x) (b o : Nat) (hx : a.eval x = .pointer (some ⟨b, o, none⟩)) (cs : List Value) (d : TypeDesc) (hc : w.rangeAt b o cs)
    (hu : P.underlying ty = some d) (hd : d.isRow = true) (hi : (P.info? ty).map (·.size) = some cs.length) : (execOp a.eval op).run P w = .ok (.value (.agg cs.toArray)) w := by
  unfold execOp
  simp only [ho, hx, Instr.loadAt, Instr.sureAddr, Sem.run_bind, Sem.run_pure, Result.andThen_ok, run_loadVar_mid w b o ty cs d hc hu hd hi]
theorem exec_store (ty : TypeId) (x y : Operand) (ho : op.op = .store ty x y) (g : Nat) (cells : Array Value) (hx : a.eval x = .pointer (some ⟨g, 0, none⟩)) (hy : a.eval y = .agg cells)
    (t : TypeId) (old : Array Value) (hg : w.heap[g]? = some (.cells old t (0, 0))) (hi : (P.info? ty).map (·.size) = some cells.size) (hold : old.size = cells.size) (h1 : cells.all (·.oneCell') = true) :
    ∃ u, (execOp a.eval op).run P w = .ok u (w.setRow g cells) ∧ (u = .skip ∨ u = .value undef) := by
  unfold execOp
  simp only [ho, hx, hy, Instr.storeAt, Instr.sureAddr, Sem.run_bind, Sem.run_pure, Result.andThen_ok, run_storeVar_row w g t ty old cells hg hi hold h1]
  first | exact ⟨_, rfl, .inl rfl⟩ | exact ⟨_, rfl, .inr rfl⟩

theorem wpListIn_load_mid (hgd : op.guard = none) (ty : TypeId) (x : Operand) (ho : op.op = .load ty x) (b o : Nat) (hx : a.eval x = .pointer (some ⟨b, o, none⟩)) (cs : List Value) (d : TypeDesc) (hc : w.rangeAt b o cs)
    (hu : P.underlying ty = some d) (hd : d.isRow = true) (hi : (P.info? ty).map (·.size) = some cs.length)
    (h : wpListIn F n P ops Q rest (a.put op.dst (.agg cs.toArray)) w) : wpListIn F n P ops Q (op :: rest) a w :=
  wpListIn_plain hgd fun _ hK => inOf_value (by rw [ho]; intro c hc; cases hc) (fun w ρ => by simp [Oper.about, ho]) (exec_load ty x ho b o hx cs d hc hu hd hi) (hK _ _ h)

theorem wpListIn_store_row (hgd : op.guard = none) (ty : TypeId) (x y : Operand) (ho : op.op = .store ty x y) (g : Nat) (cells : Array Value) (hx : a.eval x = .pointer (some ⟨g, 0, none⟩)) (hy : a.eval y = .agg cells)
    (t : TypeId) (old : Array Value) (hg : w.heap[g]? = some (.cells old t (0, 0))) (hi : (P.info? ty).map (·.size) = some cells.size) (hold : old.size = cells.size) (h1 : cells.all (·.oneCell') = true)
    (h : wpListIn F n P ops Q rest (a.put op.dst undef) (w.setRow g cells)) : wpListIn F n P ops Q (op :: rest) a w :=
  wpListIn_plain hgd fun _ hK => by
    obtain ⟨u, hr, hu⟩ := exec_store (a := a) ty x y ho g cells hx hy t old hg hi hold h1
    unfold Oper.wpIn
    refine ⟨fun f hf => (by simp [Oper.about, ho] at hf), ?_⟩
    rw [Oper.semAt_plain F _ _ (by rw [ho]; intro c hc; cases hc), hr]
    rcases hu with rfl | rfl <;> exact hK _ _ h

theorem wpListIn_store_new (hgd : op.guard = none) (ty : TypeId) (x y : Operand) (ho : op.op = .store ty x y) (w0 : World) (t : TypeId) (old cells : Array Value) (hw : w = w0.alloc (.cells old t)) (hx : a.eval x = .pointer (some ⟨w0.heap.size, 0, none⟩)) (hy : a.eval y = .agg cells)
    (hi : (P.info? ty).map (·.size) = some cells.size) (hold : old.size = cells.size) (h1 : cells.all (·.oneCell') = true)
    (h : wpListIn F n P ops Q rest (a.put op.dst undef) (w0.alloc (.cells cells t))) : wpListIn F n P ops Q (op :: rest) a w := by
  subst hw
  refine wpListIn_store_row hgd ty x y ho w0.heap.size cells hx hy t old (heap_new w0 _) hi hold h1 ?_
  rw [setRow_alloc]
  exact h
end
section
variable {P : Program} {ops : Array Oper} {rest : List Oper} {op : Oper} {a : Act} {w : World} {Q : Exit → Act → World → Prop}
theorem wpList_store_new (hgd : op.guard = none) (ty : TypeId) (x y : Operand) (ho : op.op = .store ty x y) (w0 : World) (t : TypeId) (old cells : Array Value) (hw : w = w0.alloc (.cells old t)) (hx : a.eval x = .pointer (some ⟨w0.heap.size, 0, none⟩)) (hy : a.eval y = .agg cells)
    (hi : (P.info? ty).map (·.size) = some cells.size) (hold : old.size = cells.size) (h1 : cells.all (·.oneCell') = true)
    (h : wpList P ops Q rest (a.put op.dst undef) (w0.alloc (.cells cells t))) : wpList P ops Q (op :: rest) a w := by
  subst hw
  refine wpList_store_row hgd ty x y ho w0.heap.size cells hx hy t old (heap_new w0 _) hi hold h1 ?_
  rw [setRow_alloc]
  exact h
end
/-- Cells of a block known whole. -/
theorem rangeAt_of {w : World} {b : Nat} {cs : Array Value} {t : TypeId} {f : Nat × Nat} (h : w.heap[b]? = some (.cells cs t f)) (o n : Nat) : w.rangeAt b o ((cs.toList.drop o).take n) := fun j v hv => by
  rw [cell_of h]
  rw [List.getElem?_take] at hv
  split at hv
  · simpa using hv
  · cases hv
end Go.Proofs.YtnmkhoebijodhaaGreatDoor
