/-
  slices.SortFunc, slices.SortedFunc at places with spot.Compare.
-/
import Derived.Test.YtldppdafgbipjaaSortP
import Derived.Test.YtldppdafgbipjaaColl
import Derived.Shelf.SlSortCmp.NoneTotal
import Derived.Shelf.Lay
import Derived.Ground.SlsfProg
namespace Go.Proofs.Ytldppdafgbipjaa
open Go.RowKit Go.Shelf Go.Sort Go.Proofs

def Try.sortSpots_ren : Go.Shelf.Ren := ⟨fun | 6 => 127 | 15 => 146 | 14 => 145 | 28 => 160 | 29 => 161 | 20 => 152 | 21 => 153 | 22 => 154 | 23 => 155 | 24 => 156 | 25 => 157 | 26 => 158 | 27 => 159 | 46 => 163 | 47 => 164 | 48 => 165 | 49 => 166 | 50 => 167 | 57 => 168 | n => n, fun | 22 => 35 | 24 => 26 | 25 => 204 | 3 => 3 | 39 => 248 | 0 => 0 | 53 => 264 | 55 => 125 | 4 => 4 | 46 => 258 | 45 => 257 | 50 => 66 | 5 => 5 | 9 => 9 | 66 => 266 | 70 => 76 | 76 => 271 | 77 => 272 | n => n, fun | n => n⟩
theorem Try.sortSpots : Go.Proofs.SlLaysF0.n6 Try.prog Try.sortSpots_ren where
  mixed := by kernel_rfl
  f6 := ⟨Try.f127.name, by kernel_rfl, Try.func127.trans (congrArg some (by kernel_rfl))⟩
  f14 := ⟨Try.f145.name, by kernel_rfl, Try.func145.trans (congrArg some (by kernel_rfl))⟩
  f15 := Try.func146.trans (congrArg some (by kernel_rfl))
  f20 := ⟨Try.f152.name, by kernel_rfl, Try.func152.trans (congrArg some (by kernel_rfl))⟩
  f21 := ⟨Try.f153.name, by kernel_rfl, Try.func153.trans (congrArg some (by kernel_rfl))⟩
  f22 := ⟨Try.f154.name, by kernel_rfl, Try.func154.trans (congrArg some (by kernel_rfl))⟩
  f23 := ⟨Try.f155.name, by kernel_rfl, Try.func155.trans (congrArg some (by kernel_rfl))⟩
  f24 := ⟨Try.f156.name, by kernel_rfl, Try.func156.trans (congrArg some (by kernel_rfl))⟩
  f25 := ⟨Try.f157.name, by kernel_rfl, Try.func157.trans (congrArg some (by kernel_rfl))⟩
  f26 := ⟨Try.f158.name, by kernel_rfl, Try.func158.trans (congrArg some (by kernel_rfl))⟩
  f27 := ⟨Try.f159.name, by kernel_rfl, Try.func159.trans (congrArg some (by kernel_rfl))⟩
  f28 := Try.func160.trans (congrArg some (by kernel_rfl))
  f29 := Try.func161.trans (congrArg some (by kernel_rfl))
  f46 := ⟨Try.f163.name, by kernel_rfl, Try.func163.trans (congrArg some (by kernel_rfl))⟩
  f47 := Try.func164.trans (congrArg some (by kernel_rfl))
  f48 := Try.func165.trans (congrArg some (by kernel_rfl))
  f49 := ⟨Try.f166.name, by kernel_rfl, Try.func166.trans (congrArg some (by kernel_rfl))⟩
  f50 := ⟨Try.f167.name, by kernel_rfl, Try.func167.trans (congrArg some (by kernel_rfl))⟩
  f57 := ⟨Try.f168.name, by kernel_rfl, Try.func168.trans (congrArg some (by kernel_rfl))⟩
  t0 := Try.underlying0
  a0 := Try.isAgg0
  z0 := Try.sizeOf0
  v0 := Try.zeroValue0
  t3 := Try.underlying3
  a3 := Try.isAgg3
  z3 := Try.sizeOf3
  v3 := Try.zeroValue3
  t4 := Try.underlying4
  a4 := Try.isAgg4
  z4 := Try.sizeOf4
  v4 := Try.zeroValue4
  t5 := Try.underlying5
  a5 := Try.isAgg5
  z5 := Try.sizeOf5
  v5 := Try.zeroValue5
  t9 := Try.underlying9
  a9 := Try.isAgg9
  z9 := Try.sizeOf9
  v9 := Try.zeroValue9
  t22 := Try.underlying35
  a22 := Try.isAgg35
  z22 := Try.sizeOf35
  v22 := Try.zeroValue35
  t25 := Try.underlying204
  a25 := Try.isAgg204
  z25 := Try.sizeOf204
  v25 := Try.zeroValue204
  t39 := Try.underlying248
  a39 := Try.isAgg248
  z39 := Try.sizeOf248
  v39 := Try.zeroValue248
  t45 := Try.underlying257
  a45 := Try.isAgg257
  z45 := Try.sizeOf257
  v45 := Try.zeroValue257
  t46 := Try.underlying258
  a46 := Try.isAgg258
  z46 := Try.sizeOf258
  v46 := Try.zeroValue258
  t50 := Try.underlying66
  a50 := Try.isAgg66
  z50 := Try.sizeOf66
  v50 := Try.zeroValue66
  t53 := Try.underlying264
  a53 := Try.isAgg264
  z53 := Try.sizeOf264
  v53 := Try.zeroValue264
  t55 := Try.underlying125
  a55 := Try.isAgg125
  z55 := Try.sizeOf125
  v55 := Try.zeroValue125
  t66 := Try.underlying266
  a66 := Try.isAgg266
  z66 := Try.sizeOf266
  v66 := Try.zeroValue266
  t70 := Try.underlying76
  a70 := Try.isAgg76
  z70 := Try.sizeOf76
  v70 := Try.zeroValue76
  t76 := Try.underlying271
  a76 := Try.isAgg271
  z76 := Try.sizeOf271
  v76 := Try.zeroValue271
  t77 := Try.underlying272
  a77 := Try.isAgg272
  z77 := Try.sizeOf272
  v77 := Try.zeroValue272

theorem cmpLaysS (blk off size : Nat) (w : World) : CmpLays Try.prog 106 #[] spC 2 cmpS blk off size w :=
  fun _ _ _ _ x y => spotCompare x y _

theorem sortFuncS (blk cap : Nat) (ss : List Sp) (w : World) (hH : HoldsK spC 2 w blk 0 ss.toArray) (hblk : blk < w.heap.size) (hsz : ss.length < 4611686018427387904) :
    Calls Try.prog 127 #[.slice (some ⟨blk, 0, none⟩) ss.length cap, .func (.func 106) #[] #[]] w fun e w' => e = .returned (.tuple #[]) ∧ ∃ n os, w' = sortWorldK spC 2 w blk 0 n (sortS ss).toArray os := by
  have eg : ∀ args w, (callFunc 106 args).run Try.prog w = .ok (.enter 106 args) w := enters_of Try.func106 (by kernel_rfl) rfl
  have hcon := AnyQ.slices_SortFunc_total Try.sortSpots 2 Try.isAgg26 Try.sizeOf26 spC (fun _ => rfl) (fun x v hv => by simp at hv; rcases hv with rfl | rfl <;> rfl) cmpS swoS 106 #[] blk 0 cap ss.toArray w eg (cmpLaysS blk 0 _ w) hH hblk (by simpa using hsz) (fun x y => by rw [ltOf_cmpS]; exact totS x y)
  change Calls Try.prog 127 _ _ _ at hcon
  rw [ltOf_cmpS] at hcon
  exact hcon

theorem sortNoneS (cap : Nat) (p : Option Addr) (fv : Value) (w : World) :
    Calls Try.prog 127 #[.slice p 0 cap, fv] w fun e w' => e = .returned (.tuple #[]) ∧ w' = w :=
  AnyF.slices_SortFunc_none Try.sortSpots p cap fv w

set_option maxHeartbeats 1000000 in
theorem sortedS (g : Nat) (lb : Array Value) (eg : ∀ args w, (callFunc g args).run Try.prog w = .ok (.enter g args) w) (S Sq : List Sp → Prop) (hSN : ∀ ss, S ss → ss.length ≤ 70000) (N : Nat) (hN : N ≤ 70000) (w : World)
    (hseq : SeqStops Fence.wide 1 Try.prog g lb spV S Sq N w) :
    Calls Try.prog 104 #[.func (.func g) #[] lb, .func (.func 106) #[] #[]] w fun e w' => ∃ (v : Value) (ss : List Sp), e = .returned v ∧ S ss ∧
      w'.ownsRow w.heap.size 26 2 v ss.length ((sortS ss).flatMap spC) ∧ (v = .slice none 0 0 ↔ ss = []) ∧ Below w.heap.size w w' := by
  have hcol := callsIn_wide.1 (collectS 3 (by omega) g lb eg S Sq N hN w hseq)
  go_enter Try.func104, Try.ntmps104
  go_wp2_with (go_at_call 126; refine hcol.mono ?_; rintro e W ⟨v, ss, rfl, hS, hrow, hnil, hb⟩)
  rcases hrow.2 with ⟨rfl, hz⟩ | ⟨gb, cap, cur, rfl, hbase, hgb, r1, r2, r3, r4⟩
  · have hss : ss = [] := List.eq_nil_of_length_eq_zero hz
    subst hss
    go_wp2_with (go_at_call 127; refine (sortNoneS 0 none _ W).mono ?_; rintro e w' ⟨rfl, hw⟩; rw [hw])
    go_ret
    exact ⟨.slice none 0 0, [], rfl, hS, by simpa [sortS] using hrow, by simp, hb⟩
  · have hH : HoldsK spC 2 W gb 0 ss.toArray := holdsS hgb r4
    have hsz : ss.length < 4611686018427387904 := by have := hSN ss hS; omega
    have hsl : (sortS ss).length = ss.length := (sortS_perm ss).length_eq
    go_wp2_with (go_at_call 127; refine (sortFuncS gb cap ss W hH (lt_of hgb) hsz).mono ?_; rintro e w' ⟨rfl, nn, os, rfl⟩)
    go_ret
    exact ⟨_, ss, rfl, hS, rowSorted hsl hbase hgb r1 r2 r3, hnil, hb.grown (grownSorted _) hb.size (fun j hj => by cases hj; exact hbase)⟩
end Go.Proofs.Ytldppdafgbipjaa
