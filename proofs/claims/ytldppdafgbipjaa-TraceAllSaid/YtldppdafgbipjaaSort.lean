/-
  slices.SortFunc, slices.SortedFunc at places with spot.Compare.
-/
import Derived.Test.YtldppdafgbipjaaSortP
import Derived.Test.YtldppdafgbipjaaColl
import Derived.Shelf.SlSortCmp.NoneTotal
import Derived.Shelf.Lay
import Derived.Ground.SlsfProg
namespace Go.Proofs.Ytldppdafgbipjaa
open Go.RowKit Go.Shelf Go.Sort Go.Proofs

shelf_lay_g SlLaysF0.n6 Slsf 6 at Try 127 as Try.sortSpots

theorem cmpLaysS (blk off size : Nat) (w : World) : CmpLays Try.prog 106 #[] spC 2 cmpS blk off size w :=
  fun _ _ _ _ x y => spotCompare x y _

theorem sortFuncS (blk cap : Nat) (ss : List Sp) (w : World) (hH : HoldsK spC 2 w blk 0 ss.toArray) (hblk : blk < w.heap.size) (hsz : ss.length < 4611686018427387904) :
    Calls Try.prog 127 #[.slice (some ⟨blk, 0, none⟩) ss.length cap, .func (.func 106) #[] #[]] w fun e w' => e = .returned (.tuple #[]) ∧ ∃ n os, w' = sortWorldK spC 2 w blk 0 n (sortS ss).toArray os := by
  have eg : ∀ args w, (callFunc 106 args).run Try.prog w = .ok (.enter 106 args) w := enters_of Try.func106 (by kernel_rfl) rfl
  have hcon := AnyQ.slices_SortFunc_total Try.sortSpots 2 Try.isAgg26 Try.sizeOf26 spC (fun _ => rfl) (fun x v hv => by simp at hv; rcases hv with rfl | rfl <;> rfl) cmpS swoS 106 #[] blk 0 cap ss.toArray w eg (cmpLaysS blk 0 _ w) hH hblk (by simpa using hsz) (fun x y => by rw [ltOf_cmpS]; exact totS x y)
  change Calls Try.prog 127 _ _ _ at hcon
  rw [ltOf_cmpS] at hcon
  exact hcon

theorem sortNoneS (cap : Nat) (p : Option Addr) (fv : Value) (w : World) :
    Calls Try.prog 127 #[.slice p 0 cap, fv] w fun e w' => e = .returned (.tuple #[]) ∧ w' = w :=
  AnyF.slices_SortFunc_none Try.sortSpots p cap fv w

set_option maxHeartbeats 1000000 in
theorem sortedS (g : Nat) (lb : Array Value) (eg : ∀ args w, (callFunc g args).run Try.prog w = .ok (.enter g args) w) (S Sq : List Sp → Prop) (hSN : ∀ ss, S ss → ss.length ≤ 70000) (N : Nat) (hN : N ≤ 70000) (w : World)
    (hseq : SeqStops Fence.wide 1 Try.prog g lb spV S Sq N w) :
    Calls Try.prog 104 #[.func (.func g) #[] lb, .func (.func 106) #[] #[]] w fun e w' => ∃ (v : Value) (ss : List Sp), e = .returned v ∧ S ss ∧
      w'.ownsRow w.heap.size 26 2 v ss.length ((sortS ss).flatMap spC) ∧ (v = .slice none 0 0 ↔ ss = []) ∧ Below w.heap.size w w' := by
  have hcol := callsIn_wide.1 (collectS 3 (by omega) g lb eg S Sq N hN w hseq)
  go_enter Try.func104, Try.ntmps104
  go_wp2_with (go_at_call 126; refine hcol.mono ?_; rintro e W ⟨v, ss, rfl, hS, hrow, hnil, hb⟩)
  rcases hrow.2 with ⟨rfl, hz⟩ | ⟨gb, cap, cur, rfl, hbase, hgb, r1, r2, r3, r4⟩
  · have hss : ss = [] := List.eq_nil_of_length_eq_zero hz
    subst hss
    go_wp2_with (go_at_call 127; refine (sortNoneS 0 none _ W).mono ?_; rintro e w' ⟨rfl, hw⟩; rw [hw])
    go_ret
    exact ⟨.slice none 0 0, [], rfl, hS, by simpa [sortS] using hrow, by simp, hb⟩
  · have hH : HoldsK spC 2 W gb 0 ss.toArray := holdsS hgb r4
    have hsz : ss.length < 4611686018427387904 := by have := hSN ss hS; omega
    have hsl : (sortS ss).length = ss.length := (sortS_perm ss).length_eq
    go_wp2_with (go_at_call 127; refine (sortFuncS gb cap ss W hH (lt_of hgb) hsz).mono ?_; rintro e w' ⟨rfl, nn, os, rfl⟩)
    go_ret
    exact ⟨_, ss, rfl, hS, rowSorted hsl hbase hgb r1 r2 r3, hnil, hb.grown (grownSorted _) hb.size (fun j hj => by cases hj; exact hbase)⟩
end Go.Proofs.Ytldppdafgbipjaa
