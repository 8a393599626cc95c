/-
  The walk of quadrillelaw22.TraceLong.
-/
import Derived.Test.YtldppdafgbipjaaBegun22
namespace Go.Proofs.Ytldppdafgbipjaa
open Go.RowKit

/-- The lists that TraceLong makes. -/
def dsN (n : Nat) : List Sp := (List.range n).map fun (i : Nat) => (((i : Int) % 1000), ((i : Int) / 1000))
def vsN (n : Nat) : List V := (List.range n).map fun (i : Nat) => ⟨1, (i : Int), ⟨#[]⟩⟩
theorem dsN_len (n : Nat) : (dsN n).length = n := by simp [dsN]
theorem vsN_len (n : Nat) : (vsN n).length = n := by simp [vsN]
theorem dsN_succ (n : Nat) : dsN (n + 1) = dsN n ++ [(((n : Int) % 1000), ((n : Int) / 1000))] := by simp [dsN, List.range_succ]
theorem vsN_succ (n : Nat) : vsN (n + 1) = vsN n ++ [⟨1, (n : Int), ⟨#[]⟩⟩] := by simp [vsN, List.range_succ]
theorem dsN_may (n : Nat) (hn : n ≤ 65537) : ∀ d ∈ dsN n, mayS d.1 d.2 = true := by
  intro d hd
  simp only [dsN, List.mem_map, List.mem_range] at hd
  obtain ⟨i, hi, rfl⟩ := hd
  simp only [mayS, decide_eq_true_eq]
  omega
theorem dsN_nodup (n : Nat) : (dsN n).Nodup := by
  unfold dsN
  rw [List.nodup_iff_pairwise_ne, List.pairwise_map]
  have h : (List.range n).Pairwise (· ≠ ·) := List.nodup_iff_pairwise_ne.1 List.nodup_range
  refine h.imp ?_
  intro a b hab e
  injection e with e1 e2
  omega
theorem vsN_may (n : Nat) : ∀ x ∈ vsN n, mayV x = true := by
  intro x hx
  simp only [vsN, List.mem_map] at hx
  obtain ⟨i, _, rfl⟩ := hx
  exact may_num _

theorem long_mayE (n : Nat) (hn : n ≤ 65537) : mayE (9, 9) ⟨1, 1, ⟨#[]⟩⟩ (dsN n) (vsN n) = if n > 65536 then 2 else 0 := by
  unfold mayE
  rw [if_neg, if_neg, dsN_len]
  · split
    · rfl
    · rw [if_neg]
      rintro (h | ⟨x, hx, h⟩)
      · rw [may_num] at h; cases h
      · rw [vsN_may n x hx] at h; cases h
  · rw [dsN_len, vsN_len]
    simp [dsN_nodup]
  · rintro (h | ⟨d, hd, h⟩)
    · simp [mayS] at h
    · rw [dsN_may n hn d hd] at h; cases h
theorem long_no (n : Nat) (h : n = 65537) : keepE (9, 9) ⟨1, 1, ⟨#[]⟩⟩ (dsN n) (vsN n) [] = 2 := by
  have e : mayE (9, 9) ⟨1, 1, ⟨#[]⟩⟩ (dsN n) (vsN n) = 2 := by rw [long_mayE n (by omega), if_pos (by omega)]
  rw [keepE, e]
  rfl
theorem long_yes (n : Nat) (h : n = 65536) : keepE (9, 9) ⟨1, 1, ⟨#[]⟩⟩ (dsN n) (vsN n) [] = 0 := by
  have e : mayE (9, 9) ⟨1, 1, ⟨#[]⟩⟩ (dsN n) (vsN n) = 0 := by rw [long_mayE n (by omega), if_neg (by omega)]
  rw [keepE, e]
  rfl
theorem long_get (n : Nat) (h : n = 65536) : getS (9, 9) (keepL 64 (9, 9) ⟨1, 1, ⟨#[]⟩⟩ (dsN n) (vsN n) []) = some ⟨⟨1, 1, ⟨#[]⟩⟩, ensOf 64 (dsN n) (vsN n)⟩ := by
  unfold keepL
  rw [long_yes n h, if_pos rfl, getS_put, if_pos rfl]
theorem long_len (n : Nat) : lenO (some ⟨⟨1, 1, ⟨#[]⟩⟩, ensOf 64 (dsN n) (vsN n)⟩) = n := by
  show (ensOf 64 (dsN n) (vsN n)).length = n
  rw [ensOf_len (by rw [dsN_len, vsN_len]), dsN_len]
theorem long_ent (n i : Nat) (h : i < n) : entO (some ⟨⟨1, 1, ⟨#[]⟩⟩, ensOf 64 (dsN n) (vsN n)⟩) (i : Int) = (⟨((i : Int) % 1000, (i : Int) / 1000), ⟨1, (i : Int), ⟨#[]⟩⟩, sumV ⟨1, (i : Int), ⟨#[]⟩⟩ 64⟩, 0) := by
  have hl : (ensOf 64 (dsN n) (vsN n)).length = n := by rw [ensOf_len (by rw [dsN_len, vsN_len]), dsN_len]
  unfold entO
  dsimp only
  rw [if_pos (by omega)]
  have hg := ensOf_get (d := 64) (ds := dsN n) (vs := vsN n) (k := i) (by rw [dsN_len]; exact h) (by rw [vsN_len]; exact h) (by rw [hl]; exact h)
  have e : (ensOf 64 (dsN n) (vsN n)).getD (i : Int).toNat en0 = (ensOf 64 (dsN n) (vsN n))[i]'(by rw [hl]; exact h) := by
    simp [hl, h]
  rw [e, hg]
  simp [dsN, vsN]
theorem long_out (n : Nat) : entO (some ⟨⟨1, 1, ⟨#[]⟩⟩, ensOf 64 (dsN n) (vsN n)⟩) (n : Int) = (en0, 1) := by
  have hl : (ensOf 64 (dsN n) (vsN n)).length = n := by rw [ensOf_len (by rw [dsN_len, vsN_len]), dsN_len]
  unfold entO
  dsimp only
  rw [if_neg (by omega)]
theorem long_same (n i : Nat) (h : i < n) : sameO 64 (some ⟨⟨1, 1, ⟨#[]⟩⟩, ensOf 64 (dsN n) (vsN n)⟩) (i : Int) ⟨1, (i : Int), ⟨#[]⟩⟩ = (true, true, 0) := by
  unfold sameO
  rw [long_ent n i h, may_num]
  simp [sameVB]
theorem long_other (n i : Nat) (h : i < n) : ∃ b, sameO 64 (some ⟨⟨1, 1, ⟨#[]⟩⟩, ensOf 64 (dsN n) (vsN n)⟩) (i : Int) ⟨1, (i : Int) + 1, ⟨#[]⟩⟩ = (false, b, 0) := by
  refine ⟨decide (sumV ⟨1, (i : Int) + 1, ⟨#[]⟩⟩ 64 = sumV ⟨1, (i : Int), ⟨#[]⟩⟩ 64), ?_⟩
  unfold sameO
  rw [long_ent n i h, may_num]
  have hs : sameVB ⟨1, (i : Int), ⟨#[]⟩⟩ ⟨1, (i : Int) + 1, ⟨#[]⟩⟩ = false := by
    simp [sameVB]
    omega
  simp [hs]

theorem infoSp : (Try.prog.info? 26).map (fun i => (i.zero, i.size, i.bytes)) = some (some (.agg #[.int .i64 0, .int .i64 0]), 2, 16) := by kernel_rfl
theorem infoVa : (Try.prog.info? 23).map (fun i => (i.zero, i.size, i.bytes)) = some (some (.agg #[.int .i64 0, .int .i64 0, .string ⟨#[]⟩]), 3, 32) := by kernel_rfl

/-- Two rows of unlike types are unlike. -/
theorem own_ne {w : World} {B B' n n' size size' : Nat} {e e' : TypeId} {v v' : Value} {xs xs' : List Value} (h : w.ownsRow B e size v n xs) (h' : w.ownsRow B' e' size' v' n' xs') (he : e ≠ e') : v.ownBlock = none ∨ v.ownBlock ≠ v'.ownBlock := by
  rcases h.2 with ⟨rfl, _⟩ | ⟨g, cap, cur, rfl, _, hg, _⟩
  · exact .inl rfl
  · rcases h'.2 with ⟨rfl, _⟩ | ⟨g', cap', cur', rfl, _, hg', _⟩
    · exact .inr (by simp [Value.ownBlock])
    · refine .inr (fun e => ?_)
      simp only [Value.ownBlock, Option.some.injEq] at e
      subst e
      rw [hg] at hg'
      injection hg' with h1
      injection h1 with h2 h3
      exact he h3

theorem dsN_take (n m : Nat) (h : m ≤ n) : (dsN n).take m = dsN m := by
  unfold dsN
  rw [← List.map_take, List.take_range, Nat.min_eq_left h]
theorem vsN_take (n m : Nat) (h : m ≤ n) : (vsN n).take m = vsN m := by
  unfold vsN
  rw [← List.map_take, List.take_range, Nat.min_eq_left h]
theorem vsN_size (n : Nat) : ∀ x ∈ vsN n, x.s.size ≤ 9223372036854775807 := by
  intro x hx
  simp only [vsN, List.mem_map] at hx
  obtain ⟨i, _, rfl⟩ := hx
  show (0 : Nat) ≤ _
  omega

/-- The two calls of Keep. -/
theorem long_keep1 (p tb mb n : Nat) (x y : Value) (U : World) (hS : StIs U p tb mb 64 []) (hd : SlAt U x 2 n ((dsN n).flatMap spC)) (hv : SlAt U y 3 n ((vsN n).flatMap vC)) (hn : Hid (n = 65537)) :
    Calls Try.prog 15 #[.pointer (some ⟨p, 0, none⟩), spV (9, 9), (V.mk 1 1 ⟨#[]⟩).val, x, y] U fun e w1 => e = .returned (.int .i64 2) ∧ StIs w1 p tb mb 64 [] ∧ Fr [tb, mb] U w1 := by
  refine (traceKeep p tb mb 64 (9, 9) ⟨1, 1, ⟨#[]⟩⟩ x y (dsN n) (vsN n) [] U hS (by rw [SpotsAt, dsN_len]; exact hd) (by rw [ValsAt, vsN_len]; exact hv) (by decide) (vsN_size n)).mono ?_
  have e := long_no n hn.out
  unfold keepL
  rw [e]
  rintro x w1 ⟨rfl, h1, h2⟩
  exact ⟨rfl, h1, h2⟩
theorem long_keep2 (p tb mb n : Nat) (x y : Value) (U : World) (hS : StIs U p tb mb 64 []) (hd : SlAt U x 2 n ((dsN n).flatMap spC)) (hv : SlAt U y 3 n ((vsN n).flatMap vC)) (hn : Hid (n = 65536)) :
    Calls Try.prog 15 #[.pointer (some ⟨p, 0, none⟩), spV (9, 9), (V.mk 1 1 ⟨#[]⟩).val, x, y] U fun e w1 => e = .returned (.int .i64 0) ∧ StIs w1 p tb mb 64 (keepL 64 (9, 9) ⟨1, 1, ⟨#[]⟩⟩ (dsN n) (vsN n) []) ∧ Fr [tb, mb] U w1 := by
  refine (traceKeep p tb mb 64 (9, 9) ⟨1, 1, ⟨#[]⟩⟩ x y (dsN n) (vsN n) [] U hS (by rw [SpotsAt, dsN_len]; exact hd) (by rw [ValsAt, vsN_len]; exact hv) (by decide) (vsN_size n)).mono ?_
  rw [long_yes n hn.out]
  exact fun _ _ h => h

/-- The first so many of the lists. -/
theorem run_slD' (w : World) (g k c : Nat) (h : Int) (n : Nat) (h0 : 0 ≤ h) (hc : h ≤ (c : Int)) (hn : h.toNat = n) : (Instr.slice 35 (.slice (some ⟨g, 0, none⟩) k c) none (some (.int .i64 h)) none).run Try.prog w = .ok (.slice (some ⟨g, 0, none⟩) n c) w := by
  have ht : Try.prog.underlying 35 = some (.slice (Try.prog.elem 35)) := by kernel_rfl
  rw [run_slice_h w _ _ _ _ ht .i64 h h0 hc, hn]
  have he : Try.prog.elem 35 = 26 := by kernel_rfl
  obtain ⟨i0, hi, _⟩ := info_parts infoSp
  rw [he, run_sizeOf w hi]
  generalize Try.prog.cellsOf 26 = z
  simp [Result.andThen, sliced, Addr.add]
theorem run_slV' (w : World) (g k c : Nat) (h : Int) (n : Nat) (h0 : 0 ≤ h) (hc : h ≤ (c : Int)) (hn : h.toNat = n) : (Instr.slice 36 (.slice (some ⟨g, 0, none⟩) k c) none (some (.int .i64 h)) none).run Try.prog w = .ok (.slice (some ⟨g, 0, none⟩) n c) w := by
  have ht : Try.prog.underlying 36 = some (.slice (Try.prog.elem 36)) := by kernel_rfl
  rw [run_slice_h w _ _ _ _ ht .i64 h h0 hc, hn]
  have he : Try.prog.elem 36 = 23 := by kernel_rfl
  obtain ⟨i0, hi, _⟩ := info_parts infoVa
  rw [he, run_sizeOf w hi]
  generalize Try.prog.cellsOf 23 = z
  simp [Result.andThen, sliced, Addr.add]
theorem run_slD (w : World) (g k c : Nat) (h : (65536 : Int) ≤ (c : Int)) : (Instr.slice 35 (.slice (some ⟨g, 0, none⟩) k c) none (some (.int .i64 65536)) none).run Try.prog w = .ok (.slice (some ⟨g, 0, none⟩) 65536 c) w :=
  run_slD' w g k c 65536 65536 (by omega) h (by kernel_rfl)
theorem run_slV (w : World) (g k c : Nat) (h : (65536 : Int) ≤ (c : Int)) : (Instr.slice 36 (.slice (some ⟨g, 0, none⟩) k c) none (some (.int .i64 65536)) none).run Try.prog w = .ok (.slice (some ⟨g, 0, none⟩) 65536 c) w :=
  run_slV' w g k c 65536 65536 (by omega) h (by kernel_rfl)

set_option maxRecDepth 100000 in
set_option maxHeartbeats 3200000 in
attribute [local go_sem high] run_slD run_slV in
theorem law_long (w : World) : Calls Try.prog 4 #[] w fun e w1 => e = .returned (.bool true) ∧ Fr [] w w1 := by
  obtain ⟨i0, hi, hz0, hz1, hz2⟩ := info_parts infoSp
  obtain ⟨j0, hj, hy0, hy1, hy2⟩ := info_parts infoVa
  go_enter Try.func4, Try.ntmps4
  go_wp2_with fail
  refine (begun22 _).mono ?_
  rintro e w1 ⟨rfl, h1⟩
  go_wp2_with fail
  refine (traceNew 64 _ (by omega) (by omega)).mono ?_
  rintro e w2 ⟨p, tb, mb, rfl, hp, ht, hm, hS, h2⟩
  have hfr2 := h1.trans0 h2
  have hpl := lt_of hS.st
  have HS := Lib.hid hS
  have ht := Nat.le_trans h1.size ht
  have hm := Nat.le_trans h1.size hm
  clear hS h1 h2
  go_wp2_with fail
  go_loopw [3, 4, 5] (fun d v i wr => ∃ k : Nat, i = .int .i64 (k : Int) ∧ (k : Int) ≤ 65537 ∧ Fr [] w2 wr ∧ wr.ownsRow w2.heap.size 26 2 d k ((dsN k).flatMap spC) ∧ wr.ownsRow w2.heap.size 23 3 v k ((vsN k).flatMap vC)) (fun _ _ i _ => (65537 - intOf i).toNat)
  case atStart => exact ⟨0, rfl, by omega, Fr.refl _ _, World.ownsRow_nil _ _ _ _, World.ownsRow_nil _ _ _ _⟩
  case round =>
    obtain ⟨k, rfl, hk, hfr, hod, hov⟩ := hrel
    by_cases hlt : (k : Int) < 65537
    · have tok : True := trivial
      have hds := Lib.hid (dsN_succ k)
      have hvs := Lib.hid (vsN_succ k)
      have hsz := hfr.size
      go_wp2_with (at_builtin; refine wpList_append_own _ rfl _ _ 35 rfl w2.heap.size 26 i0 _ 2 16 Try.underlying35 hi hz0 hz1 hz2 rfl (by decide) _ _ _ rfl (hod.alloc _) ⟨wr.heap.size, 0, none⟩ 1 1 (spC ((k : Int) % 1000, (k : Int) / 1000)) rfl rfl (news_of _ _ _) (by simp [Value.oneCell']) (by unfold maxLen; omega) (by omega) (by simp; omega) ?_; intro v' w3 hod' hgrow _)
      refine (numC _ _).mono ?_
      rintro e w4 ⟨rfl, h4⟩
      have hne := own_ne hov hod (by decide)
      have hov3 : w3.ownsRow w2.heap.size 23 3 _ k ((vsN k).flatMap vC) := (hov.alloc _).kept hgrow hne
      have hfr3 : Fr [] w2 w3 := (hfr.alloc _).grown hgrow (fun g hg => .inr (hod.lt g hg).1)
      have hov4 := owns_fr hov3 h4 (by simp)
      have hod4 := owns_fr hod' h4 (by simp)
      have hfr4 := hfr3.trans0 h4
      have hsz4 := hfr4.size
      clear hov3 hfr3 hgrow hod' hov hod hne h4 hfr
      go_wp2_with (at_builtin; refine wpList_append_own _ rfl _ _ 36 rfl w2.heap.size 23 j0 _ 3 32 Try.underlying36 hj hy0 hy1 hy2 rfl (by decide) _ _ _ rfl (hov4.alloc _) ⟨w4.heap.size, 0, none⟩ 1 1 (vC ⟨1, (k : Int), ⟨#[]⟩⟩) rfl rfl (news_of _ _ _) (by simp [Value.oneCell']) (by unfold maxLen; omega) (by omega) (by simp; omega) ?_; intro v5 w5 hov5 hgrow5 _)
      go_roundw
      case rel =>
        refine ⟨k + 1, by go_num, by omega, (hfr4.alloc _).grown hgrow5 (fun g hg => .inr (hov4.lt g hg).1), ?_, ?_⟩
        · rw [hds.out, List.flatMap_append]
          have := (hod4.alloc (.cells #[.int .i64 1, .int .i64 (k : Int), .string ⟨#[]⟩] 23)).kept hgrow5 (own_ne hod4 hov4 (by decide))
          simpa using this
        · rw [hvs.out, List.flatMap_append]
          simpa using hov5
      case measure => simp [intOf]; omega
    · have HN : Hid (k = 65537) := by show k = 65537; omega
      have hN2 : (65536 : Int) < (k : Int) := by have := HN.out; omega
      obtain ⟨gd, cd, cud, rfl, hgd, hhd, hnd, hcd, _, htd⟩ := owns_open hod (by omega)
      obtain ⟨gv, cv, cuv, rfl, hgv, hhv, hnv, hcv, _, htv⟩ := owns_open hov (by omega)
      have hld : ((dsN k).flatMap spC).length = k * 2 := by rw [flat_len spC 2 (fun _ => rfl), dsN_len]
      have hlv : ((vsN k).flatMap vC).length = k * 3 := by rw [flat_len vC 3 (fun _ => rfl), vsN_len]
      have HM : Hid (∃ M, M = 65536) := ⟨_, rfl⟩
      obtain ⟨M, hM⟩ := HM.out
      have hMk : M ≤ k := by have := HN.out; omega
      have D1 : Hid (SlAt wr (.slice (some ⟨gd, 0, none⟩) k cd) 2 k ((dsN k).flatMap spC)) := by
        have := SlAt.of_row (m := k) hhd htd hld (Nat.le_refl _) hnd hcd
        rwa [List.take_of_length_le (by omega)] at this
      have V1 : Hid (SlAt wr (.slice (some ⟨gv, 0, none⟩) k cv) 3 k ((vsN k).flatMap vC)) := by
        have := SlAt.of_row (m := k) hhv htv hlv (Nat.le_refl _) hnv hcv
        rwa [List.take_of_length_le (by omega)] at this
      have D2 : Hid (SlAt wr (.slice (some ⟨gd, 0, none⟩) M cd) 2 M ((dsN M).flatMap spC)) := by
        have := SlAt.of_row (m := M) hhd htd hld hMk hnd hcd
        rwa [flat_take spC 2 (fun _ => rfl), dsN_take _ _ hMk] at this
      have V2 : Hid (SlAt wr (.slice (some ⟨gv, 0, none⟩) M cv) 3 M ((vsN M).flatMap vC)) := by
        have := SlAt.of_row (m := M) hhv htv hlv hMk hnv hcv
        rwa [flat_take vC 3 (fun _ => rfl), vsN_take _ _ hMk] at this
      rw [hM] at D2 V2
      have HM2 := Lib.hid hM
      unfold maxLen at hcd hcv
      have hSr := HS.out.fr0 hfr
      have ltb := lt_of HS.out.tab.choose_spec.1.tab
      have lmb := HS.out.tab.choose_spec.1.map.lt
      have mgd : gd ∉ [tb, mb] := by simp; omega
      have mgv : gv ∉ [tb, mb] := by simp; omega
      have hgdc := Lib.hid (take_cells hhd htd)
      have lgd := lt_of hhd
      have hszr := hfr.size
      have hbd : (65536 : Int) ≤ (cd : Int) := by have := HN.out; omega
      have hbv : (65536 : Int) ≤ (cv : Int) := by have := HN.out; omega
      clear hod hov hhd hhv htd htv hld hlv hM hMk HM
      go_wp2_with fail
      have hW : Fr [] wr (wr.alloc (.cells #[.int .i64 9, .int .i64 9] 26)) := (Fr.refl [] wr).alloc _
      have hD := heap_new wr (.cells #[.int .i64 9, .int .i64 9] 26)
      have mD : wr.heap.size ∉ [tb, mb] := by simp; omega
      generalize wr.alloc (.cells #[.int .i64 9, .int .i64 9] 26) = W at *
      have lD := lt_of hD
      have hgdc : Hid (∀ j u, ((dsN k).flatMap spC)[j]? = some u → W.cell? ⟨gd, j, none⟩ = some u) := fun j u hu => (hW.cell (p := ⟨gd, j, none⟩) lgd (by simp)).trans (hgdc.out j u hu)
      have c0 : W.cell? ⟨wr.heap.size, 0, none⟩ = some (.int .i64 9) := cell_of hD 0
      have c1 : W.cell? ⟨wr.heap.size, 1, none⟩ = some (.int .i64 9) := cell_of hD 1
      generalize wr.heap.size = D at *
      have hC : Fr [tb, mb] W W := Fr.refl _ _
      have hSt := hSr.fr0 hW
      have D1 := Lib.hid (D1.out.fr0 hW)
      have V1 := Lib.hid (V1.out.fr0 hW)
      have D2 := Lib.hid (D2.out.fr0 hW)
      have V2 := Lib.hid (V2.out.fr0 hW)
      go_cut [71] (fun s71 wx => s71 = .bool false ∧ StIs wx p tb mb 64 (keepL 64 (9, 9) ⟨1, 1, ⟨#[]⟩⟩ (dsN 65536) (vsN 65536) []) ∧ Fr [tb, mb] W wx)
      case first =>
          go_region_held3 (fun u => u.cell? ⟨D, 0, none⟩ = some (.int .i64 9) ∧ u.cell? ⟨D, 1, none⟩ = some (.int .i64 9))
            (first | exact ⟨(hC.cell (p := ⟨D, 0, none⟩) lD mD).trans c0, (hC.cell (p := ⟨D, 1, none⟩) lD mD).trans c1⟩)
            ((first
              | (go_at_call 16; refine (numC 1 _).mono ?_; rintro e wA ⟨rfl, hA⟩; have hSt := (by first | exact StIs.fr0 hSt hA | exact StIs.fr0 (StIs.fr0 hSt ((Fr.refl [] _).drew)) hA : StIs wA p tb mb 64 []); have hC := (by first | exact Fr.trans0 hC hA | exact Fr.trans0 (Fr.drew hC) hA : Fr [tb, mb] W wA))
              | (go_at_call_of 15 (Value.slice (some ⟨gd, 0, none⟩) k cd); refine (long_keep1 p tb mb k _ _ _ hSt (D1.out.fr hC (by rintro _ _ _ ⟨⟩; exact mgd)) (V1.out.fr hC (by rintro _ _ _ ⟨⟩; exact mgv)) HN).mono ?_; rintro e wB ⟨rfl, hSt, hB⟩; have hC := Fr.transS hC hB)
              | (go_at_call 15; refine (long_keep2 p tb mb 65536 _ _ _ hSt (D2.out.fr hC (by rintro _ _ _ ⟨⟩; exact mgd)) (V2.out.fr hC (by rintro _ _ _ ⟨⟩; exact mgv)) (show (65536 : Nat) = 65536 from rfl)).mono ?_; rintro e wB ⟨rfl, hSt, hB⟩; have hC := Fr.transS hC hB)
              | (go_at_call 18; refine (traceLen p tb mb 64 (9, 9) _ _ hSt).mono ?_; rw [long_get 65536 rfl, long_len]; rintro e wB ⟨rfl, hB⟩; have hSt := StIs.fr0 hSt hB; have hC := Fr.trans0 hC hB)))
          all_goals
            go_wp2_with fail
            go_meet
            exact ⟨rfl, hSt, hC⟩
      case rest =>
        obtain ⟨rfl, hS3, h3⟩ := hcut
        have HS3 := Lib.hid hS3
        have hfw3 : Fr [] w wc := ((hfr2.trans0 hfr).trans0 hW).trans h3 (by simp; omega)
        have lDc := Nat.lt_of_lt_of_le lD h3.size
        have d0 : wc.cell? ⟨D, 0, none⟩ = some (.int .i64 9) := (h3.cell (p := ⟨D, 0, none⟩) lD mD).trans c0
        have d1 : wc.cell? ⟨D, 1, none⟩ = some (.int .i64 9) := (h3.cell (p := ⟨D, 1, none⟩) lD mD).trans c1
        have hgc : Hid (∀ j u, ((dsN k).flatMap spC)[j]? = some u → wc.cell? ⟨gd, j, none⟩ = some u) := fun j u hu =>
          (h3.cell (p := ⟨gd, j, none⟩) (Nat.lt_trans lgd lD) mgd).trans (hgdc.out j u hu)
        have lgdc : gd < wc.heap.size := Nat.lt_trans lgd lDc
        clear hS3 hSr hSt hC D1 V1 D2 V2 c0 c1 hD hgdc
        go_wp2_with fail
        go_loopw [7] (fun i wr => ∃ n : Nat, i = .int .i64 (n : Int) ∧ (n : Int) ≤ 65792 ∧ Fr [] wc wr) (fun i _ => (66000 - intOf i).toNat)
        case atStart => exact ⟨0, rfl, by omega, Fr.refl _ _⟩
        case round =>
          obtain ⟨n, rfl, hn, hfr⟩ := hrel
          have d0 : wr.cell? ⟨D, 0, none⟩ = some (.int .i64 9) := (hfr.cell (p := ⟨D, 0, none⟩) lDc (by simp)).trans d0
          have d1 : wr.cell? ⟨D, 1, none⟩ = some (.int .i64 9) := (hfr.cell (p := ⟨D, 1, none⟩) lDc (by simp)).trans d1
          have HSn := Lib.hid (HS3.out.fr0 hfr)
          by_cases hlt : (n : Int) < 65536
          · have hnk : (n : Int) < (k : Int) := by have := HN.out; omega
            have hn0 : (0 : Int) ≤ (n : Int) := by omega
            have Hn : Hid (n < 65536) := by show n < 65536; omega
            have hw : IntKind.i64.wrap ((n : Int) + 1) = (n : Int) + 1 := by rw [IntKind.wrap_i64]; omega
            have hnk' : n < (dsN k).length := by rw [dsN_len]; omega
            have g0 : wr.cell? ⟨gd, n * 2, none⟩ = some (.int .i64 ((n : Int) % 1000)) := (hfr.cell (p := ⟨gd, n * 2, none⟩) lgdc (by simp)).trans (hgc.out (n * 2 + 0) _ (by rw [flat_get spC 2 (fun _ => rfl) _ n 0 hnk' (by omega)]; simp [dsN]))
            have g1 : wr.cell? ⟨gd, n * 2 + 1, none⟩ = some (.int .i64 ((n : Int) / 1000)) := (hfr.cell (p := ⟨gd, n * 2 + 1, none⟩) lgdc (by simp)).trans (hgc.out (n * 2 + 1) _ (by rw [flat_get spC 2 (fun _ => rfl) _ n 1 hnk' (by omega)]; simp [dsN]))
            clear hnk'
            go_wp2_with fail
            refine (traceDep p tb mb 64 (9, 9) _ _ _ HSn.out (by omega) (by omega)).mono ?_
            rw [long_get 65536 rfl, long_ent 65536 n Hn.out]
            rintro e w4 ⟨rfl, h4⟩
            have ob := ob_alloc (w := w4)
            go_wp2_with fail
            have hE := heap_new w4 (.cells #[.int .i64 ((n : Int) % 1000), .int .i64 ((n : Int) / 1000)] 26)
            have h5 : Fr [] wr (w4.alloc (.cells #[.int .i64 ((n : Int) % 1000), .int .i64 ((n : Int) / 1000)] 26)) := h4.alloc _
            generalize w4.alloc (.cells #[.int .i64 ((n : Int) % 1000), .int .i64 ((n : Int) / 1000)] 26) = W5 at *
            have e0 : W5.cell? ⟨w4.heap.size, 0, none⟩ = some (.int .i64 ((n : Int) % 1000)) := cell_of hE 0
            have e1 : W5.cell? ⟨w4.heap.size, 1, none⟩ = some (.int .i64 ((n : Int) / 1000)) := cell_of hE 1
            have d0 := ce_call h5 d0
            have d1 := ce_call h5 d1
            have g0 := ce_call h5 g0
            have g1 := ce_call h5 g1
            generalize w4.heap.size = E at *
            have HS5 := Lib.hid (HSn.out.fr0 h5)
            clear hE h4
            go_region_held3 (fun u => u.cell? ⟨D, 0, none⟩ = some (.int .i64 9) ∧ u.cell? ⟨D, 1, none⟩ = some (.int .i64 9))
              (((try dsimp only); refine ⟨?_, ?_⟩ <;> (repeat first | with_reducible assumption | with_reducible refine ce_drew ?_ | with_reducible refine ce_old ?_ | with_reducible refine ce_call hA ?_ | with_reducible refine ce_call hB ?_)))
              ((first
                | (go_at_call 16; refine (numC _ _).mono ?_; rintro e wA ⟨rfl, hA⟩)
                | (go_at_call 17; refine (traceSame p tb mb 64 (9, 9) _ ⟨1, (n : Int), ⟨#[]⟩⟩ _ _ ((HS5.out.fr0 ((Fr.refl [] _).drew)).fr0 hA) (by omega) (by omega) (by show (0 : Nat) ≤ _; omega)).mono ?_; rw [long_get 65536 rfl, long_same 65536 n Hn.out]; rintro e wB ⟨rfl, hB⟩)))
            have e0 := ce_call hB (ce_call hA (ce_drew e0))
            have e1 := ce_call hB (ce_call hA (ce_drew e1))
            have d0 := ce_call hB (ce_call hA (ce_drew d0))
            have d1 := ce_call hB (ce_call hA (ce_drew d1))
            have g0 := ce_call hB (ce_call hA (ce_drew g0))
            have g1 := ce_call hB (ce_call hA (ce_drew g1))
            have hfB : Fr [] wc wB := (((hfr.trans0 h5).drew).trans0 hA).trans0 hB
            have HSB := Lib.hid (HS3.out.fr0 hfB)
            clear hA HS5 h5
            obtain ⟨bo, hbo⟩ := long_other 65536 n Hn.out
            have HBO := Lib.hid hbo
            clear hbo
            go_wp2_with fail
            go_region_held3 (fun u => u.cell? ⟨D, 0, none⟩ = some (.int .i64 9) ∧ u.cell? ⟨D, 1, none⟩ = some (.int .i64 9))
              (((try dsimp only); refine ⟨?_, ?_⟩ <;> (repeat first | with_reducible assumption | with_reducible refine ce_drew ?_ | with_reducible refine ce_old ?_ | with_reducible refine ce_call hA ?_ | with_reducible refine ce_call hC ?_)))
              ((first
                | (go_at_call 16; refine (numC _ _).mono ?_; rintro e wA ⟨rfl, hA⟩)
                | (go_at_call 17; refine (traceSame p tb mb 64 (9, 9) _ ⟨1, (n : Int) + 1, ⟨#[]⟩⟩ _ _ ((HSB.out.fr0 ((Fr.refl [] _).drew)).fr0 hA) (by omega) (by omega) (by show (0 : Nat) ≤ _; omega)).mono ?_; rw [long_get 65536 rfl, HBO.out]; rintro e wC ⟨rfl, hC⟩)))
            have e0 := ce_call hC (ce_call hA (ce_drew e0))
            have e1 := ce_call hC (ce_call hA (ce_drew e1))
            have g0 := ce_call hC (ce_call hA (ce_drew g0))
            have g1 := ce_call hC (ce_call hA (ce_drew g1))
            have hfC : Fr [] wc wC := ((hfB.drew).trans0 hA).trans0 hC
            clear hA HSB
            go_wp2_with fail
            go_region_held3 (fun u => u.cell? ⟨E, 0, none⟩ = some (.int .i64 ((n : Int) % 1000)) ∧ u.cell? ⟨E, 1, none⟩ = some (.int .i64 ((n : Int) / 1000)) ∧ u.cell? ⟨gd, n * 2, none⟩ = some (.int .i64 ((n : Int) % 1000)) ∧ u.cell? ⟨gd, n * 2 + 1, none⟩ = some (.int .i64 ((n : Int) / 1000)))
              (((try dsimp only); refine ⟨?_, ?_, ?_, ?_⟩ <;> (repeat first | with_reducible assumption | with_reducible refine ce_drew ?_ | with_reducible refine ce_old ?_)))
              (skip)
            go_wp2
            go_roundw
            case rel => exact ⟨n + 257, by go_num, by omega, hfC.drew⟩
            case measure => simp [intOf]; omega
          · go_wp2_with fail
            refine (traceDep p tb mb 64 (9, 9) 65536 _ _ HSn.out (by omega) (by omega)).mono ?_
            rw [long_get 65536 rfl, show entO (some ⟨⟨1, 1, ⟨#[]⟩⟩, ensOf 64 (dsN 65536) (vsN 65536)⟩) 65536 = (en0, 1) from long_out 65536]
            rintro e w4 ⟨rfl, h4⟩
            have ob := ob_alloc (w := w4)
            go_wp2
            go_ret
            exact ⟨rfl, ((hfw3.trans0 hfr).trans0 h4).alloc _⟩
end Go.Proofs.Ytldppdafgbipjaa
