/-
  (*Table[T]).over$1: the rows come, one behind the other, for every loop body that keeps them.
-/
import Derived.Test.YtnmkhoebijodhaaGreatDoorIter
import Derived.Test.YtnmkhoebijodhaaGreatDoorAgg
namespace Go.Proofs.YtnmkhoebijodhaaGreatDoor
open Go.RowKit Go.Shelf

/-- The slice's cells lie there. -/
structure RIs (w : World) (v : Value) (size n : Nat) (cs : List Value) : Prop where
  form : ∃ a c, v = .slice a n c
  cell : 0 < n → ∃ b c, v = .slice (some ⟨b, 0, none⟩) n c ∧ b < w.heap.size ∧ ∀ j x, cs[j]? = some x → w.cell? ⟨b, j, none⟩ = some x
theorem RIs.of_owns {w : World} {B : Nat} {e : TypeId} {size : Nat} {v : Value} {n : Nat} {xs : List Value} (h : w.ownsRow B e size v n xs) : RIs w v size n xs := by
  rcases h.2 with ⟨rfl, rfl⟩ | ⟨g, cap, cur, rfl, _, hg, _, _, _, ht⟩
  · exact ⟨⟨_, _, rfl⟩, fun h => by omega⟩
  · exact ⟨⟨_, _, rfl⟩, fun _ => ⟨g, cap, rfl, lt_of hg, take_cells hg ht⟩⟩
theorem RIs.fr {w w' : World} {v : Value} {size n : Nat} {cs : List Value} (h : RIs w v size n cs) {S : List Nat} (hb : Fr S w w') (hS : ∀ g, v.ownBlock = some g → g ∉ S) : RIs w' v size n cs :=
  ⟨h.form, fun hn => by
    obtain ⟨b, c, e, hlt, hc⟩ := h.cell hn
    exact ⟨b, c, e, Nat.lt_of_lt_of_le hlt hb.size, fun j x hx => (hb.cell (p := ⟨b, j, none⟩) hlt (hS b (by rw [e]; rfl))).trans (hc j x hx)⟩⟩
theorem RIs.below {w w' : World} {v : Value} {size n : Nat} {cs : List Value} (h : RIs w v size n cs) (hb : Below w.heap.size w w') : RIs w' v size n cs :=
  ⟨h.form, fun hn => by
    obtain ⟨b, c, e, hlt, hc⟩ := h.cell hn
    exact ⟨b, c, e, Nat.lt_of_lt_of_le hlt hb.size, fun j x hx => (hb.cell (p := ⟨b, j, none⟩) hlt).trans (hc j x hx)⟩⟩

set_option maxRecDepth 100000 in
set_option maxHeartbeats 2000000 in
theorem over1K_Seen (n : Nat) (hn : 1 ≤ n) (l Bl : Nat) (rv : Value) (R : List (Sp × Seen)) (Kp : World → World → Prop) (hKp : ∀ W W', Kp W W' → RIs W rv 6 R.length (R.flatMap rowSeen) → RIs W' rv 6 R.length (R.flatMap rowSeen)) (J Jx : List (Sp × Seen) → World → Prop)
    (hY : ∀ pre x W, J pre W → pre.length < R.length → x ∈ R → YieldAt Fence.wide (n - 1) Tryz.prog l #[spV x.1, Seen.val x.2] W fun e W' => (e = .returned (.bool true) ∧ J (pre ++ [x]) W' ∧ Kp W W') ∨ (e = .returned (.bool false) ∧ Jx (pre ++ [x]) W'))
    (W : World) (hJ : AbidesFrom W.heap.size J) (hbox : W.cell? ⟨Bl, 0, none⟩ = some rv) (hR : RIs W rv 6 R.length (R.flatMap rowSeen)) (hsz : (R.length : Int) ≤ 70000) (h0 : J [] W) :
    CallsIn Fence.wide n Tryz.prog 239 #[.func (.yield l) #[] #[], .pointer (some ⟨Bl, 0, none⟩)] W fun e W' => (∃ v, e = .returned v) ∧ ((∃ ys, ys = R ∧ J ys W') ∨ (∃ pre, pre <+: R ∧ Jx pre W')) := by
  obtain ⟨qa, qc, rfl⟩ := hR.form
  refine callsIn_of_wp Tryz.func239 rfl trivial ?_ rfl
  simp only [Tryz.ntmps239, List.size_toArray, List.length_cons, List.length_nil, Nat.reduceAdd, Nat.reduceSub, Array.replicate_succ, Array.replicate_zero, List.push_toArray, List.append_toArray, List.nil_append, List.cons_append]
  gi_wp2
  gi_loopw [7] (fun i wr => ∃ k : Nat, i = .int .i64 (k : Int) ∧ k ≤ R.length ∧ RIs wr (.slice qa R.length qc) 6 R.length (R.flatMap rowSeen) ∧ J (R.take k) wr) (fun i _ => R.length - (intOf i).toNat)
  case atStart => exact ⟨0, rfl, by omega, hR, h0⟩
  case round =>
    obtain ⟨k, rfl, hk, hRw, hJk⟩ := hrel
    by_cases hlt : k < R.length
    · obtain ⟨b, c, e, hb, hc⟩ := hRw.cell (by omega)
      cases e
      have hcw : ∀ j x, (rowSeen R[k])[j]? = some x → wr.cell? ⟨b, k * 6 + j, none⟩ = some x := fun j x hx => (hc _ x (by
        rw [flat_get rowSeen 6 (fun _ => rfl) R k j hlt (List.getElem?_eq_some_iff.1 hx).1]
        exact hx))
      have ht : Hid (R.take (k + 1) = R.take k ++ [R[k]]) := List.take_succ_eq_append_getElem hlt
      have hmem : R[k] ∈ R := List.getElem_mem hlt
      obtain ⟨⟨⟨s1, s2⟩, x⟩, hx⟩ : ∃ x, R[k] = x := ⟨_, rfl⟩
      rw [hx] at hcw ht hmem
      clear hx hc
      have c0 : wr.cell? ⟨b, k * 6, none⟩ = some (.int .i64 s1) := hcw 0 _ rfl
      have c1 : wr.cell? ⟨b, k * 6 + 1, none⟩ = some (.int .i64 s2) := hcw 1 _ rfl
      have c2 : wr.cell? ⟨b, k * 6 + 2, none⟩ = some (.int .i64 x.v.k) := hcw 2 _ rfl
      have c3 : wr.cell? ⟨b, k * 6 + 3, none⟩ = some (.int .i64 x.v.n) := hcw 3 _ rfl
      have c4 : wr.cell? ⟨b, k * 6 + 4, none⟩ = some (.string x.v.s) := hcw 4 _ rfl
      have c5 : wr.cell? ⟨b, k * 6 + 5, none⟩ = some (.slice x.p x.n x.c) := hcw 5 _ rfl
      clear hcw
      have hJ2 : J (R.take k) (wr.alloc (.cells #[.int .i64 s1, .int .i64 s2, .int .i64 x.v.k, .int .i64 x.v.n, .string x.v.s, .slice x.p x.n x.c] 372)) := hJ _ wr _ none hJk (World.grownBy_alloc wr _ none) (fun r e => by cases e)
      have hB2 := hRw.fr ((Fr.refl [] wr).alloc (.cells #[.int .i64 s1, .int .i64 s2, .int .i64 x.v.k, .int .i64 x.v.n, .string x.v.s, .slice x.p x.n x.c] 372)) (by simp)
      obtain ⟨fn, tmps, assign, body, hy, hRd⟩ := hY (R.take k) ((s1, s2), x) _ hJ2 (by rw [List.length_take]; omega) hmem
      dsimp only [spV, Seen.val] at hy
      have hklen : (k : Int) < (R.length : Int) := by omega
      gi_wp2
      refine hRd.mono ?_
      rintro e W3 (⟨rfl, hJ3, hk3⟩ | ⟨rfl, hJx3⟩)
      · gi_wp2
        go_roundw
        case rel => exact ⟨k + 1, by go_num, by omega, hKp _ _ hk3 hB2, by rw [ht.out]; exact hJ3⟩
        case measure => simp [intOf]; omega
      · gi_wp2
        refine bodyPost_ret (results_none rfl _ _ _) rfl ?_
        exact ⟨⟨_, rfl⟩, .inr ⟨_, by rw [← ht.out]; exact List.take_prefix _ _, hJx3⟩⟩
    · obtain rfl : k = R.length := by omega
      rw [List.take_length] at hJk
      gi_wp2
      go_end0
      exact ⟨⟨_, rfl⟩, .inl ⟨R, rfl, hJk⟩⟩

theorem overK_Seen (n : Nat) (hn : 1 ≤ n) (Bl : Nat) (rv : Value) (R : List (Sp × Seen)) (Kp : World → World → Prop) (hKp : ∀ W W', Kp W W' → RIs W rv 6 R.length (R.flatMap rowSeen) → RIs W' rv 6 R.length (R.flatMap rowSeen))
    (w : World) (hbox : w.cell? ⟨Bl, 0, none⟩ = some rv) (hBl : Bl < w.heap.size) (hR : RIs w rv 6 R.length (R.flatMap rowSeen)) (hsz : (R.length : Int) ≤ 70000) :
    SeqStopsK Fence.wide n Tryz.prog 239 #[.pointer (some ⟨Bl, 0, none⟩)] (fun x : {x // x ∈ R} => #[spV x.1.1, Seen.val x.1.2]) Kp (fun ys => ys.map (·.1) = R) (fun pre => pre.map (·.1) <+: R) R.length w := fun l J Jx W hW hJ hJx hY h0 => by
  refine (over1K_Seen n hn l Bl rv R Kp hKp (fun pre W => ∃ q : List {x // x ∈ R}, q.map (·.1) = pre ∧ J q W) (fun pre W => ∃ q : List {x // x ∈ R}, q.map (·.1) = pre ∧ Jx q W) ?_ W ?_ ((hW.cell (p := ⟨Bl, 0, none⟩) hBl).trans hbox) (hR.below hW) hsz ⟨[], rfl, h0⟩).mono ?_
  · rintro pre x W1 ⟨q, rfl, hq⟩ hlt hx
    obtain ⟨fn, tmps, assign, body, hy, hr⟩ := hY q ⟨x, hx⟩ W1 hq (by simpa using hlt)
    refine ⟨fn, tmps, assign, body, hy, hr.mono ?_⟩
    rintro e W' (⟨rfl, hj, hk⟩ | ⟨rfl, hj⟩)
    · exact .inl ⟨rfl, ⟨_, by simp, hj⟩, hk⟩
    · exact .inr ⟨rfl, ⟨_, by simp, hj⟩⟩
  · rintro s X Y row ⟨q, rfl, hq⟩ hg hr
    exact ⟨q, rfl, hJ q X Y row hq hg hr⟩
  · rintro e W' ⟨hv, (⟨ys, rfl, q, hq, hj⟩ | ⟨pre, hp, q, rfl, hj⟩)⟩
    · exact ⟨hv, .inl ⟨q, hq, hj⟩⟩
    · exact ⟨hv, .inr ⟨q, hp, hj⟩⟩

set_option maxRecDepth 100000 in
set_option maxHeartbeats 2000000 in
theorem over1K_Cell (n : Nat) (hn : 1 ≤ n) (l Bl : Nat) (rv : Value) (R : List (Sp × Cel)) (Kp : World → World → Prop) (Rd : World → Prop) (hrd : ∀ W, Rd W → RIs W rv 18 R.length (R.flatMap rowCell)) (hfr : ∀ W W', Fr [] W W' → Rd W → Rd W') (hKp : ∀ W W', Kp W W' → Rd W → Rd W') (J Jx : List (Sp × Cel) → World → Prop)
    (hY : ∀ pre x W, J pre W → pre.length < R.length → x ∈ R → YieldAt Fence.wide (n - 1) Tryz.prog l #[spV x.1, Cel.val x.2] W fun e W' => (e = .returned (.bool true) ∧ J (pre ++ [x]) W' ∧ Kp W W') ∨ (e = .returned (.bool false) ∧ Jx (pre ++ [x]) W'))
    (W : World) (hJ : AbidesFrom W.heap.size J) (hbox : W.cell? ⟨Bl, 0, none⟩ = some rv) (hR : Rd W) (hsz : (R.length : Int) ≤ 70000) (h0 : J [] W) :
    CallsIn Fence.wide n Tryz.prog 114 #[.func (.yield l) #[] #[], .pointer (some ⟨Bl, 0, none⟩)] W fun e W' => (∃ v, e = .returned v) ∧ ((∃ ys, ys = R ∧ J ys W') ∨ (∃ pre, pre <+: R ∧ Jx pre W')) := by
  obtain ⟨qa, qc, rfl⟩ := (hrd W hR).form
  refine callsIn_of_wp Tryz.func114 rfl trivial ?_ rfl
  simp only [Tryz.ntmps114, List.size_toArray, List.length_cons, List.length_nil, Nat.reduceAdd, Nat.reduceSub, Array.replicate_succ, Array.replicate_zero, List.push_toArray, List.append_toArray, List.nil_append, List.cons_append]
  gi_wp2
  gi_loopw [7] (fun i wr => ∃ k : Nat, i = .int .i64 (k : Int) ∧ k ≤ R.length ∧ Rd wr ∧ J (R.take k) wr) (fun i _ => R.length - (intOf i).toNat)
  case atStart => exact ⟨0, rfl, by omega, hR, h0⟩
  case round =>
    obtain ⟨k, rfl, hk, hRw, hJk⟩ := hrel
    by_cases hlt : k < R.length
    · obtain ⟨b, c, e, hb, hc⟩ := (hrd wr hRw).cell (by omega)
      cases e
      have hcw : ∀ j x, (rowCell R[k])[j]? = some x → wr.cell? ⟨b, k * 18 + j, none⟩ = some x := fun j x hx => (hc _ x (by
        rw [flat_get rowCell 18 (fun _ => rfl) R k j hlt (List.getElem?_eq_some_iff.1 hx).1]
        exact hx))
      have ht : Hid (R.take (k + 1) = R.take k ++ [R[k]]) := List.take_succ_eq_append_getElem hlt
      have hmem : R[k] ∈ R := List.getElem_mem hlt
      obtain ⟨⟨⟨s1, s2⟩, x⟩, hx⟩ : ∃ x, R[k] = x := ⟨_, rfl⟩
      rw [hx] at hcw ht hmem
      clear hx hc
      have hJ2 : J (R.take k) (wr.alloc (.cells #[.int .i64 s1, .int .i64 s2, .string x.t, .int .i64 x.k, .int .i64 x.x.k, .int .i64 x.x.o, .int .i64 x.x.n, .string x.x.s, .int .i64 x.x.r, .int .i64 x.x.c, .bool x.x.pr, .bool x.x.pc, .int .i64 x.x.r2, .int .i64 x.x.c2, .bool x.x.pr2, .bool x.x.pc2, .int .i64 x.x.f, .slice x.x.kp x.x.kn x.x.kc] 218)) := hJ _ wr _ none hJk (World.grownBy_alloc wr _ none) (fun r e => by cases e)
      have hB2 := hfr _ _ ((Fr.refl [] wr).alloc (.cells #[.int .i64 s1, .int .i64 s2, .string x.t, .int .i64 x.k, .int .i64 x.x.k, .int .i64 x.x.o, .int .i64 x.x.n, .string x.x.s, .int .i64 x.x.r, .int .i64 x.x.c, .bool x.x.pr, .bool x.x.pc, .int .i64 x.x.r2, .int .i64 x.x.c2, .bool x.x.pr2, .bool x.x.pc2, .int .i64 x.x.f, .slice x.x.kp x.x.kn x.x.kc] 218)) hRw
      obtain ⟨fn, tmps, assign, body, hy, hRd⟩ := hY (R.take k) ((s1, s2), x) _ hJ2 (by rw [List.length_take]; omega) hmem
      dsimp only [spV, Cel.val] at hy
      have hklen : (k : Int) < (R.length : Int) := by omega
      gi_wp2_with (first | (refine wpListIn_load_mid rfl 218 _ rfl b (k * 18) rfl (rowCell ((s1, s2), x)) _ hcw Tryz.underlying218 rfl (by kernel_rfl) ?_) | (refine wpListIn_store_new rfl 218 _ _ rfl wr 218 _ #[.int .i64 s1, .int .i64 s2, .string x.t, .int .i64 x.k, .int .i64 x.x.k, .int .i64 x.x.o, .int .i64 x.x.n, .string x.x.s, .int .i64 x.x.r, .int .i64 x.x.c, .bool x.x.pr, .bool x.x.pc, .int .i64 x.x.r2, .int .i64 x.x.c2, .bool x.x.pr2, .bool x.x.pc2, .int .i64 x.x.f, .slice x.x.kp x.x.kn x.x.kc] rfl rfl rfl (by kernel_rfl) rfl rfl ?_) | (refine wpListIn_load_mid rfl 106 _ rfl wr.heap.size 2 rfl (#[.string x.t, .int .i64 x.k, .int .i64 x.x.k, .int .i64 x.x.o, .int .i64 x.x.n, .string x.x.s, .int .i64 x.x.r, .int .i64 x.x.c, .bool x.x.pr, .bool x.x.pc, .int .i64 x.x.r2, .int .i64 x.x.c2, .bool x.x.pr2, .bool x.x.pc2, .int .i64 x.x.f, .slice x.x.kp x.x.kn x.x.kc] : Array Value).toList _ (rangeAt_of (heap_new wr _) 2 16) Tryz.underlying106 rfl (by kernel_rfl) ?_))
      refine hRd.mono ?_
      rintro e W3 (⟨rfl, hJ3, hk3⟩ | ⟨rfl, hJx3⟩)
      · gi_wp2
        go_roundw
        case rel => exact ⟨k + 1, by go_num, by omega, hKp _ _ hk3 hB2, by rw [ht.out]; exact hJ3⟩
        case measure => simp [intOf]; omega
      · gi_wp2
        refine bodyPost_ret (results_none rfl _ _ _) rfl ?_
        exact ⟨⟨_, rfl⟩, .inr ⟨_, by rw [← ht.out]; exact List.take_prefix _ _, hJx3⟩⟩
    · obtain rfl : k = R.length := by omega
      rw [List.take_length] at hJk
      gi_wp2
      go_end0
      exact ⟨⟨_, rfl⟩, .inl ⟨R, rfl, hJk⟩⟩

theorem overK_Cell (n : Nat) (hn : 1 ≤ n) (Bl : Nat) (rv : Value) (R : List (Sp × Cel)) (Kp : World → World → Prop) (Rd : World → Prop) (hrd : ∀ W, Rd W → RIs W rv 18 R.length (R.flatMap rowCell)) (hfr : ∀ W W', Fr [] W W' → Rd W → Rd W') (hKp : ∀ W W', Kp W W' → Rd W → Rd W')
    (w : World) (hbox : w.cell? ⟨Bl, 0, none⟩ = some rv) (hBl : Bl < w.heap.size) (hR : Rd w) (hsz : (R.length : Int) ≤ 70000) :
    SeqStopsK Fence.wide n Tryz.prog 114 #[.pointer (some ⟨Bl, 0, none⟩)] (fun x : {x // x ∈ R} => #[spV x.1.1, Cel.val x.1.2]) Kp (fun ys => ys.map (·.1) = R) (fun pre => pre.map (·.1) <+: R) R.length w := fun l J Jx W hW hJ hJx hY h0 => by
  refine (over1K_Cell n hn l Bl rv R Kp Rd hrd hfr hKp (fun pre W => ∃ q : List {x // x ∈ R}, q.map (·.1) = pre ∧ J q W) (fun pre W => ∃ q : List {x // x ∈ R}, q.map (·.1) = pre ∧ Jx q W) ?_ W ?_ ((hW.cell (p := ⟨Bl, 0, none⟩) hBl).trans hbox) (hfr _ _ (Fr.of_below hW []) hR) hsz ⟨[], rfl, h0⟩).mono ?_
  · rintro pre x W1 ⟨q, rfl, hq⟩ hlt hx
    obtain ⟨fn, tmps, assign, body, hy, hr⟩ := hY q ⟨x, hx⟩ W1 hq (by simpa using hlt)
    refine ⟨fn, tmps, assign, body, hy, hr.mono ?_⟩
    rintro e W' (⟨rfl, hj, hk⟩ | ⟨rfl, hj⟩)
    · exact .inl ⟨rfl, ⟨_, by simp, hj⟩, hk⟩
    · exact .inr ⟨rfl, ⟨_, by simp, hj⟩⟩
  · rintro s X Y row ⟨q, rfl, hq⟩ hg hr
    exact ⟨q, rfl, hJ q X Y row hq hg hr⟩
  · rintro e W' ⟨hv, (⟨ys, rfl, q, hq, hj⟩ | ⟨pre, hp, q, rfl, hj⟩)⟩
    · exact ⟨hv, .inl ⟨q, hq, hj⟩⟩
    · exact ⟨hv, .inr ⟨q, hp, hj⟩⟩
end Go.Proofs.YtnmkhoebijodhaaGreatDoor
