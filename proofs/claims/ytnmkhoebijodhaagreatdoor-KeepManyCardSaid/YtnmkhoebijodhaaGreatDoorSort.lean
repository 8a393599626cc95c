/-
  slices.SortFunc, slices.SortedFunc at places with spot.Compare.
-/
import Derived.Test.YtnmkhoebijodhaaGreatDoorSortP
import Derived.Test.YtnmkhoebijodhaaGreatDoorColl
import Derived.Shelf.SlSortCmp.NoneTotal
import Derived.Shelf.Lay
import Derived.Ground.SlsfProg
namespace Go.Proofs.YtnmkhoebijodhaaGreatDoor
open Go.RowKit Go.Shelf Go.Sort Go.Proofs

def Tryz.sortSpots_ren : Go.Shelf.Ren := ⟨fun | 6 => 92 | 15 => 129 | 14 => 128 | 28 => 193 | 29 => 194 | 20 => 185 | 21 => 186 | 22 => 187 | 23 => 188 | 24 => 189 | 25 => 190 | 26 => 191 | 27 => 192 | 46 => 240 | 47 => 241 | 48 => 242 | 49 => 243 | 50 => 244 | 57 => 295 | n => n, fun | 22 => 28 | 24 => 33 | 25 => 160 | 3 => 3 | 39 => 159 | 0 => 0 | 53 => 312 | 55 => 84 | 4 => 4 | 46 => 305 | 45 => 304 | 50 => 309 | 5 => 5 | 9 => 9 | 66 => 374 | 70 => 181 | 76 => 427 | 77 => 44 | n => n, fun | n => n⟩
theorem Tryz.sortSpots : Go.Proofs.SlLaysF0.n6 Tryz.prog Tryz.sortSpots_ren where
  mixed := by kernel_rfl
  f6 := ⟨Tryz.f92.name, by kernel_rfl, Tryz.func92.trans (congrArg some (by kernel_rfl))⟩
  f14 := ⟨Tryz.f128.name, by kernel_rfl, Tryz.func128.trans (congrArg some (by kernel_rfl))⟩
  f15 := Tryz.func129.trans (congrArg some (by kernel_rfl))
  f20 := ⟨Tryz.f185.name, by kernel_rfl, Tryz.func185.trans (congrArg some (by kernel_rfl))⟩
  f21 := ⟨Tryz.f186.name, by kernel_rfl, Tryz.func186.trans (congrArg some (by kernel_rfl))⟩
  f22 := ⟨Tryz.f187.name, by kernel_rfl, Tryz.func187.trans (congrArg some (by kernel_rfl))⟩
  f23 := ⟨Tryz.f188.name, by kernel_rfl, Tryz.func188.trans (congrArg some (by kernel_rfl))⟩
  f24 := ⟨Tryz.f189.name, by kernel_rfl, Tryz.func189.trans (congrArg some (by kernel_rfl))⟩
  f25 := ⟨Tryz.f190.name, by kernel_rfl, Tryz.func190.trans (congrArg some (by kernel_rfl))⟩
  f26 := ⟨Tryz.f191.name, by kernel_rfl, Tryz.func191.trans (congrArg some (by kernel_rfl))⟩
  f27 := ⟨Tryz.f192.name, by kernel_rfl, Tryz.func192.trans (congrArg some (by kernel_rfl))⟩
  f28 := Tryz.func193.trans (congrArg some (by kernel_rfl))
  f29 := Tryz.func194.trans (congrArg some (by kernel_rfl))
  f46 := ⟨Tryz.f240.name, by kernel_rfl, Tryz.func240.trans (congrArg some (by kernel_rfl))⟩
  f47 := Tryz.func241.trans (congrArg some (by kernel_rfl))
  f48 := Tryz.func242.trans (congrArg some (by kernel_rfl))
  f49 := ⟨Tryz.f243.name, by kernel_rfl, Tryz.func243.trans (congrArg some (by kernel_rfl))⟩
  f50 := ⟨Tryz.f244.name, by kernel_rfl, Tryz.func244.trans (congrArg some (by kernel_rfl))⟩
  f57 := ⟨Tryz.f295.name, by kernel_rfl, Tryz.func295.trans (congrArg some (by kernel_rfl))⟩
  t0 := Tryz.underlying0
  a0 := Tryz.isAgg0
  z0 := Tryz.sizeOf0
  v0 := Tryz.zeroValue0
  t3 := Tryz.underlying3
  a3 := Tryz.isAgg3
  z3 := Tryz.sizeOf3
  v3 := Tryz.zeroValue3
  t4 := Tryz.underlying4
  a4 := Tryz.isAgg4
  z4 := Tryz.sizeOf4
  v4 := Tryz.zeroValue4
  t5 := Tryz.underlying5
  a5 := Tryz.isAgg5
  z5 := Tryz.sizeOf5
  v5 := Tryz.zeroValue5
  t9 := Tryz.underlying9
  a9 := Tryz.isAgg9
  z9 := Tryz.sizeOf9
  v9 := Tryz.zeroValue9
  t22 := Tryz.underlying28
  a22 := Tryz.isAgg28
  z22 := Tryz.sizeOf28
  v22 := Tryz.zeroValue28
  t25 := Tryz.underlying160
  a25 := Tryz.isAgg160
  z25 := Tryz.sizeOf160
  v25 := Tryz.zeroValue160
  t39 := Tryz.underlying159
  a39 := Tryz.isAgg159
  z39 := Tryz.sizeOf159
  v39 := Tryz.zeroValue159
  t45 := Tryz.underlying304
  a45 := Tryz.isAgg304
  z45 := Tryz.sizeOf304
  v45 := Tryz.zeroValue304
  t46 := Tryz.underlying305
  a46 := Tryz.isAgg305
  z46 := Tryz.sizeOf305
  v46 := Tryz.zeroValue305
  t50 := Tryz.underlying309
  a50 := Tryz.isAgg309
  z50 := Tryz.sizeOf309
  v50 := Tryz.zeroValue309
  t53 := Tryz.underlying312
  a53 := Tryz.isAgg312
  z53 := Tryz.sizeOf312
  v53 := Tryz.zeroValue312
  t55 := Tryz.underlying84
  a55 := Tryz.isAgg84
  z55 := Tryz.sizeOf84
  v55 := Tryz.zeroValue84
  t66 := Tryz.underlying374
  a66 := Tryz.isAgg374
  z66 := Tryz.sizeOf374
  v66 := Tryz.zeroValue374
  t70 := Tryz.underlying181
  a70 := Tryz.isAgg181
  z70 := Tryz.sizeOf181
  v70 := Tryz.zeroValue181
  t76 := Tryz.underlying427
  a76 := Tryz.isAgg427
  z76 := Tryz.sizeOf427
  v76 := Tryz.zeroValue427
  t77 := Tryz.underlying44
  a77 := Tryz.isAgg44
  z77 := Tryz.sizeOf44
  v77 := Tryz.zeroValue44

theorem cmpLaysS (blk off size : Nat) (w : World) : CmpLays Tryz.prog 67 #[] spC 2 cmpS blk off size w :=
  fun _ _ _ _ x y => spotCompare x y _

theorem sortFuncS (blk cap : Nat) (ss : List Sp) (w : World) (hH : HoldsK spC 2 w blk 0 ss.toArray) (hblk : blk < w.heap.size) (hsz : ss.length < 4611686018427387904) :
    Calls Tryz.prog 92 #[.slice (some ⟨blk, 0, none⟩) ss.length cap, .func (.func 67) #[] #[]] w fun e w' => e = .returned (.tuple #[]) ∧ ∃ n os, w' = sortWorldK spC 2 w blk 0 n (sortS ss).toArray os := by
  have eg : ∀ args w, (callFunc 67 args).run Tryz.prog w = .ok (.enter 67 args) w := enters_of Tryz.func67 (by kernel_rfl) rfl
  have hcon := AnyQ.slices_SortFunc_total Tryz.sortSpots 2 Tryz.isAgg33 Tryz.sizeOf33 spC (fun _ => rfl) (fun x v hv => by simp at hv; rcases hv with rfl | rfl <;> rfl) cmpS swoS 67 #[] blk 0 cap ss.toArray w eg (cmpLaysS blk 0 _ w) hH hblk (by simpa using hsz) (fun x y => by rw [ltOf_cmpS]; exact totS x y)
  change Calls Tryz.prog 92 _ _ _ at hcon
  rw [ltOf_cmpS] at hcon
  exact hcon

theorem sortNoneS (cap : Nat) (p : Option Addr) (fv : Value) (w : World) :
    Calls Tryz.prog 92 #[.slice p 0 cap, fv] w fun e w' => e = .returned (.tuple #[]) ∧ w' = w :=
  AnyF.slices_SortFunc_none Tryz.sortSpots p cap fv w

set_option maxHeartbeats 1000000 in
theorem sortedS (g : Nat) (lb : Array Value) (eg : ∀ args w, (callFunc g args).run Tryz.prog w = .ok (.enter g args) w) (S Sq : List Sp → Prop) (hSN : ∀ ss, S ss → ss.length ≤ 70000) (N : Nat) (hN : N ≤ 70000) (w : World)
    (hseq : SeqStops Fence.wide 1 Tryz.prog g lb spV S Sq N w) :
    Calls Tryz.prog 98 #[.func (.func g) #[] lb, .func (.func 67) #[] #[]] w fun e w' => ∃ (v : Value) (ss : List Sp), e = .returned v ∧ S ss ∧
      w'.ownsRow w.heap.size 33 2 v ss.length ((sortS ss).flatMap spC) ∧ (v = .slice none 0 0 ↔ ss = []) ∧ Below w.heap.size w w' := by
  have hcol := callsIn_wide.1 (collectS 3 (by omega) g lb eg S Sq N hN w hseq)
  go_enter Tryz.func98, Tryz.ntmps98
  go_wp2_with (go_at_call 143; refine hcol.mono ?_; rintro e W ⟨v, ss, rfl, hS, hrow, hnil, hb⟩)
  rcases hrow.2 with ⟨rfl, hz⟩ | ⟨gb, cap, cur, rfl, hbase, hgb, r1, r2, r3, r4⟩
  · have hss : ss = [] := List.eq_nil_of_length_eq_zero hz
    subst hss
    go_wp2_with (go_at_call 92; refine (sortNoneS 0 none _ W).mono ?_; rintro e w' ⟨rfl, hw⟩; rw [hw])
    go_ret
    exact ⟨.slice none 0 0, [], rfl, hS, by simpa [sortS] using hrow, by simp, hb⟩
  · have hH : HoldsK spC 2 W gb 0 ss.toArray := holdsS hgb r4
    have hsz : ss.length < 4611686018427387904 := by have := hSN ss hS; omega
    have hsl : (sortS ss).length = ss.length := (sortS_perm ss).length_eq
    go_wp2_with (go_at_call 92; refine (sortFuncS gb cap ss W hH (lt_of hgb) hsz).mono ?_; rintro e w' ⟨rfl, nn, os, rfl⟩)
    go_ret
    exact ⟨_, ss, rfl, hS, rowSorted hsl hbase hgb r1 r2 r3, hnil, hb.grown (grownSorted _) hb.size (fun j hj => by cases hj; exact hbase)⟩
end Go.Proofs.YtnmkhoebijodhaaGreatDoor
