/-
  slices.SortFunc at places with spot.Compare.
-/
import Derived.Test.YtdlpbpohbkcafaaCSortP
import Derived.Shelf.SlSortCmp.NoneTotal
import Derived.Shelf.Lay
import Derived.Ground.SlsfProg
namespace Go.Proofs.Ytdlpbpohbkcafaa
open Go.RowKit Go.Shelf Go.Sort Go.Proofs

shelf_lay_g SlLaysF0.n6 Slsf 6 at Try 43 as Try.sortSpots

theorem cmpLaysS (blk off size : Nat) (w : World) : CmpLays Try.prog 35 #[] spC 2 cmpS blk off size w :=
  fun _ _ _ _ x y => spotCompare x y _

theorem sortFuncS (blk cap : Nat) (ss : List Sp) (w : World) (hH : HoldsK spC 2 w blk 0 ss.toArray) (hblk : blk < w.heap.size) (hsz : ss.length < 4611686018427387904) :
    Calls Try.prog 43 #[.slice (some ⟨blk, 0, none⟩) ss.length cap, .func (.func 35) #[] #[]] w fun e w' => e = .returned (.tuple #[]) ∧ ∃ n os, w' = sortWorldK spC 2 w blk 0 n (sortS ss).toArray os := by
  have eg : ∀ args w, (callFunc 35 args).run Try.prog w = .ok (.enter 35 args) w := enters_of Try.func35 (by kernel_rfl) rfl
  have hcon := AnyQ.slices_SortFunc_total Try.sortSpots 2 Try.isAgg33 Try.sizeOf33 spC (fun _ => rfl) (fun x v hv => by simp at hv; rcases hv with rfl | rfl <;> rfl) cmpS swoS 35 #[] blk 0 cap ss.toArray w eg (cmpLaysS blk 0 _ w) hH hblk (by simpa using hsz) (fun x y => by rw [ltOf_cmpS]; exact totS x y)
  change Calls Try.prog 43 _ _ _ at hcon
  rw [ltOf_cmpS] at hcon
  exact hcon

theorem sortNoneS (cap : Nat) (p : Option Addr) (fv : Value) (w : World) :
    Calls Try.prog 43 #[.slice p 0 cap, fv] w fun e w' => e = .returned (.tuple #[]) ∧ w' = w :=
  AnyF.slices_SortFunc_none Try.sortSpots p cap fv w

end Go.Proofs.Ytdlpbpohbkcafaa
