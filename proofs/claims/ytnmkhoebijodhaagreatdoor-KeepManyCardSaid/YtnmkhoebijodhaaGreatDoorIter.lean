/-
  (*Table[T]).over$1: the rows come, one behind the other, for every loop body that keeps what lay below n0.
-/
import Derived.Test.YtnmkhoebijodhaaGreatDoorGrid
import Derived.Test.YtnmkhoebijodhaaGreatDoorSlice
import Derived.RangeFuncNested
import Derived.RangeFuncBound
import Derived.RangeFuncCalls
import Derived.RangeFuncLeaves
import Derived.RangeFuncBox
import Derived.Shelf.Abstract
import Derived.WalkKit
import Derived.OwnWalkIn
import Derived.TacticsInMore
import Derived.LoopNIn
import Derived.LoopIn
namespace Go.Proofs.YtnmkhoebijodhaaGreatDoor
open Go.RowKit Go.Shelf

/-- A slice below n0. -/
structure RAt (n0 : Nat) (w : World) (v : Value) (size n : Nat) (cs : List Value) : Prop where
  form : ∃ a c, v = .slice a n c
  cell : 0 < n → ∃ b c, v = .slice (some ⟨b, 0, none⟩) n c ∧ b < n0 ∧ ∀ j x, cs[j]? = some x → w.cell? ⟨b, j, none⟩ = some x
theorem RAt.of_owns {n0 : Nat} {w : World} {B : Nat} {e : TypeId} {size : Nat} {v : Value} {n : Nat} {xs : List Value} (h : w.ownsRow B e size v n xs) (hn : w.heap.size ≤ n0) : RAt n0 w v size n xs := by
  rcases h.2 with ⟨rfl, rfl⟩ | ⟨g, cap, cur, rfl, _, hg, _, _, _, ht⟩
  · exact ⟨⟨_, _, rfl⟩, fun h => by omega⟩
  · exact ⟨⟨_, _, rfl⟩, fun _ => ⟨g, cap, rfl, Nat.lt_of_lt_of_le (lt_of hg) hn, take_cells hg ht⟩⟩
theorem RAt.below {n0 : Nat} {w w' : World} {v : Value} {size n : Nat} {cs : List Value} (h : RAt n0 w v size n cs) (hb : Below n0 w w') : RAt n0 w' v size n cs :=
  ⟨h.form, fun hn => by
    obtain ⟨b, c, e, hlt, hc⟩ := h.cell hn
    exact ⟨b, c, e, hlt, fun j x hx => (hb.cell (p := ⟨b, j, none⟩) hlt).trans (hc j x hx)⟩⟩

/-- A tree's own cells; its kids lie behind a slice. -/
structure Ex where
  k : Int
  o : Int
  n : Int
  s : ByteArray
  r : Int
  c : Int
  pr : Bool
  pc : Bool
  r2 : Int
  c2 : Int
  pr2 : Bool
  pc2 : Bool
  f : Int
  kp : Option Addr
  kn : Nat
  kc : Nat
abbrev Ex.cells (x : Ex) : List Value := [.int .i64 x.k, .int .i64 x.o, .int .i64 x.n, .string x.s, .int .i64 x.r, .int .i64 x.c, .bool x.pr, .bool x.pc, .int .i64 x.r2, .int .i64 x.c2, .bool x.pr2, .bool x.pc2, .int .i64 x.f, .slice x.kp x.kn x.kc]
def ex0 : Ex := ⟨0, 0, 0, ⟨#[]⟩, 0, 0, false, false, 0, 0, false, false, 0, none, 0, 0⟩
/-- What a sheet's table keeps: a text, what it is, and a formula's tree. -/
structure Cel where
  t : ByteArray
  k : Int
  x : Ex
abbrev Cel.val (x : Cel) : Value := .agg #[.string x.t, .int .i64 x.k, .int .i64 x.x.k, .int .i64 x.x.o, .int .i64 x.x.n, .string x.x.s, .int .i64 x.x.r, .int .i64 x.x.c, .bool x.x.pr, .bool x.x.pc, .int .i64 x.x.r2, .int .i64 x.x.c2, .bool x.x.pr2, .bool x.x.pc2, .int .i64 x.x.f, .slice x.x.kp x.x.kn x.x.kc]
def cel0 : Cel := ⟨⟨#[]⟩, 0, ex0⟩
abbrev rowCell (x : Sp × Cel) : List Value := [.int .i64 x.1.1, .int .i64 x.1.2, .string x.2.t, .int .i64 x.2.k, .int .i64 x.2.x.k, .int .i64 x.2.x.o, .int .i64 x.2.x.n, .string x.2.x.s, .int .i64 x.2.x.r, .int .i64 x.2.x.c, .bool x.2.x.pr, .bool x.2.x.pc, .int .i64 x.2.x.r2, .int .i64 x.2.x.c2, .bool x.2.x.pr2, .bool x.2.x.pc2, .int .i64 x.2.x.f, .slice x.2.x.kp x.2.x.kn x.2.x.kc]
abbrev rowSeen (x : Sp × Seen) : List Value := [.int .i64 x.1.1, .int .i64 x.1.2, .int .i64 x.2.v.k, .int .i64 x.2.v.n, .string x.2.v.s, .slice x.2.p x.2.n x.2.c]
end Go.Proofs.YtnmkhoebijodhaaGreatDoor
