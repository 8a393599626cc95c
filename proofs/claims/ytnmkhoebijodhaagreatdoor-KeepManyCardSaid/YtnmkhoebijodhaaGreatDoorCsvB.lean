/-
  area.May, Size, All at the area of the first two cells; keep.quoted at the texts 5 and none; keep.Csv of a workbook whose first cell holds 5.
  keep.Csv of the first two cells, the first of which holds 5.
-/
import Derived.Test.YtnmkhoebijodhaaGreatDoorReadV
import Derived.Test.YtnmkhoebijodhaaGreatDoorBld
import Derived.Test.YtnmkhoebijodhaaGreatDoorSave
import Derived.Lib.Bytealg
import Derived.Laws.RangeString
namespace Go.Proofs.YtnmkhoebijodhaaGreatDoor
section
open Go.RowKit Go.Shelf
attribute [local go_sem] Oper.semAt_some

abbrev arV (a b c d : Int) : Value := .agg #[.int .i64 a, .int .i64 b, .int .i64 c, .int .i64 d]
abbrev arO : Obj := .cells #[.int .i64 0, .int .i64 0, .int .i64 0, .int .i64 1] 35 (0, 0)

theorem areaMay01 (w : World) : Calls Tryz.prog 71 #[arV 0 0 0 1] w fun e w1 => e = .returned (.int .i64 0) ∧ Fr [] w w1 := by
  have h := areaMay ⟨0, 0, 0, 1⟩ w
  have e : errA ⟨0, 0, 0, 1⟩ = 0 := by decide
  rw [e] at h
  exact h
set_option maxRecDepth 100000 in
set_option maxHeartbeats 3200000 in
theorem areaSize01 (w : World) : Calls Tryz.prog 46 #[arV 0 0 0 1] w fun e w1 => e = .returned (.tuple #[.int .i64 2, .int .i64 0]) ∧ Fr [] w w1 := by
  have hA := (Fr.refl [] w).alloc arO
  have hb := heap_new w arO
  go_enter Tryz.func46, Tryz.ntmps46
  go_wp2_with fail
  refine (areaMay01 _).mono ?_
  rintro e w1 ⟨rfl, h1⟩
  have hb1 := h1.heap hb (by simp)
  have q0 := cell_of hb1 0
  have q1 := cell_of hb1 1
  have q2 := cell_of hb1 2
  have q3 := cell_of hb1 3
  go_wp2_with fail
  go_ret2
  exact ⟨rfl, hA.trans0 h1⟩
theorem areaAll01 (w : World) : Calls Tryz.prog 47 #[arV 0 0 0 1] w fun e w1 => e = .returned (.func (.func 72) #[] #[.pointer (some ⟨w.heap.size, 0, none⟩)]) ∧ w1 = w.alloc arO := by
  go_enter Tryz.func47, Tryz.ntmps47
  go_wp2_with fail
  go_ret
  exact ⟨rfl, rfl⟩

/-- The area's places. -/
abbrev P01 : Type := {s : Sp // s = (0, 0) ∨ s = (0, 1)}
def p0 : P01 := ⟨(0, 0), .inl rfl⟩
def p1 : P01 := ⟨(0, 1), .inr rfl⟩

theorem grown_fr {w w1 : World} (h : Fr [] w w1) (r : Option Nat) : w.grownBy w1 r := ⟨h.os, h.tape, h.output, h.size, fun k hk _ => h.block k hk (by simp)⟩

set_option maxRecDepth 100000 in
set_option maxHeartbeats 3200000 in
theorem all01 (n : Nat) (hn : 1 ≤ n) (l A : Nat) (Kp : World → World → Prop) (hKp : ∀ W W', Kp W W' → W.heap[A]? = some arO → W'.heap[A]? = some arO) (J Jx : List P01 → World → Prop)
    (hY : ∀ pre (x : P01) W, J pre W → pre.length < 2 → YieldAt Fence.wide (n - 1) Tryz.prog l #[spV x.1] W fun e W' => (e = .returned (.bool true) ∧ J (pre ++ [x]) W' ∧ Kp W W') ∨ (e = .returned (.bool false) ∧ Jx (pre ++ [x]) W'))
    (W : World) (hJ : AbidesFrom W.heap.size J) (hbox : W.heap[A]? = some arO) (h0 : J [] W) :
    CallsIn Fence.wide n Tryz.prog 72 #[.func (.yield l) #[] #[], .pointer (some ⟨A, 0, none⟩)] W fun e W' => (∃ v, e = .returned v) ∧ ((∃ ys, ys = [p0, p1] ∧ J ys W') ∨ (∃ pre, pre <+: [p0, p1] ∧ Jx pre W')) := by
  have q0 := cell_of hbox 0
  have q1 := cell_of hbox 1
  have q2 := cell_of hbox 2
  have q3 := cell_of hbox 3
  refine callsIn_of_wp Tryz.func72 rfl trivial ?_ rfl
  simp only [Tryz.ntmps72, List.size_toArray, List.length_cons, List.length_nil, Nat.reduceAdd, Nat.reduceSub, Array.replicate_succ, Array.replicate_zero, List.push_toArray, List.append_toArray, List.nil_append, List.cons_append]
  gi_wp2_with fail
  refine ⟨trivial, ?_⟩
  gi_at_call 71
  refine (callsIn_wide.2 (areaMay01 W)).mono ?_
  rintro e w1 ⟨rfl, h1⟩
  have hb1 := h1.heap hbox (by simp)
  have hJ1 : J [] w1 := hJ _ W _ none h0 (grown_fr h1 none) (fun r e => by cases e)
  clear q0 q1 q2 q3
  have q0 := cell_of hb1 0
  have q1 := cell_of hb1 1
  have q2 := cell_of hb1 2
  have q3 := cell_of hb1 3
  gi_wp2_with fail
  gi_loopw [3] (fun v wr => (v = .int .i64 0 ∧ J [] wr ∨ v = .int .i64 1 ∧ J [p0, p1] wr) ∧ wr.heap[A]? = some arO) (fun v _ => (1 - intOf v).toNat)
  case atStart => exact ⟨.inl ⟨rfl, hJ1⟩, hb1⟩
  case round =>
    obtain ⟨(⟨rfl, hj⟩ | ⟨rfl, hj⟩), hb⟩ := hrel
    · clear q0 q1 q2 q3
      have q0 := cell_of hb 0
      have q1 := cell_of hb 1
      have q2 := cell_of hb 2
      have q3 := cell_of hb 3
      gi_wp2_with fail
      gi_loopw [4] (fun v wx => (v = .int .i64 0 ∧ J [] wx ∨ v = .int .i64 1 ∧ J [p0] wx ∨ v = .int .i64 2 ∧ J [p0, p1] wx) ∧ wx.heap[A]? = some arO) (fun v _ => (2 - intOf v).toNat)
      case atStart => exact ⟨.inl ⟨rfl, hj⟩, hb⟩
      case round =>
        obtain ⟨(⟨rfl, hj2⟩ | ⟨rfl, hj2⟩ | ⟨rfl, hj2⟩), hb2⟩ := hrel
        all_goals
          clear q0 q1 q2 q3
          have q0 := cell_of hb2 0
          have q1 := cell_of hb2 1
          have q2 := cell_of hb2 2
          have q3 := cell_of hb2 3
        · obtain ⟨fn, tmps, assign, body, hy, hR⟩ := hY [] p0 _ hj2 (by simp)
          dsimp only [p0, spV] at hy
          gi_wp2_with fail
          refine hR.mono ?_
          rintro e W3 (⟨rfl, hJ3, hk3⟩ | ⟨rfl, hJx3⟩)
          · gi_wp2
            go_roundw
            case rel => exact ⟨.inr (.inl ⟨rfl, hJ3⟩), hKp _ _ hk3 hb2⟩
            case measure => simp [intOf]
          · gi_wp2
            refine bodyPost_ret (results_none rfl _ _ _) rfl ?_
            exact ⟨⟨_, rfl⟩, .inr ⟨_, ⟨[p1], rfl⟩, hJx3⟩⟩
        · obtain ⟨fn, tmps, assign, body, hy, hR⟩ := hY [p0] p1 _ hj2 (by simp)
          dsimp only [p1, spV] at hy
          gi_wp2_with fail
          refine hR.mono ?_
          rintro e W3 (⟨rfl, hJ3, hk3⟩ | ⟨rfl, hJx3⟩)
          · gi_wp2
            go_roundw
            case rel => exact ⟨.inr (.inr ⟨rfl, hJ3⟩), hKp _ _ hk3 hb2⟩
            case measure => simp [intOf]
          · gi_wp2
            refine bodyPost_ret (results_none rfl _ _ _) rfl ?_
            exact ⟨⟨_, rfl⟩, .inr ⟨_, ⟨[], by simp⟩, hJx3⟩⟩
        · gi_wp2_with fail
          go_roundw
          case rel => exact ⟨.inr ⟨rfl, hj2⟩, hb2⟩
          case measure => simp [intOf]
    · clear q0 q1 q2 q3
      have q0 := cell_of hb 0
      have q1 := cell_of hb 1
      have q2 := cell_of hb 2
      have q3 := cell_of hb 3
      gi_wp2_with fail
      go_end0
      exact ⟨⟨_, rfl⟩, .inl ⟨_, rfl, hj⟩⟩

/-- The area's iterator, for whatever loop. -/
theorem seq01 (B : Nat) (S : List Nat) (T : Option TypeId) (A : Nat) (w : World) (hA : w.heap[A]? = some arO) (hS : A ∉ S) (hT : T ≠ some 35) :
    SeqL Tryz.prog 72 #[.pointer (some ⟨A, 0, none⟩)] (fun x : P01 => #[spV x.1]) B S T (fun ys => ys = [p0, p1]) (fun pre => pre <+: [p0, p1]) 2 w :=
  SeqL.ofK (fun l hl lc J Jx W hW hJ _ hY h0 =>
    all01 4 (by omega) lc A (KeptT B (l :: S) T) (fun X X' hk hx => hk.block _ _ hx (fun hm => by
      rcases List.mem_cons.1 hm with e | hm
      · have := lt_of hA; omega
      · exact hS hm) (.inr (ofT_ne hT))) J Jx hY W hJ ((hW.block _ (lt_of hA)).trans hA) h0)

set_option maxRecDepth 100000 in
set_option maxHeartbeats 1600000 in
theorem ixByte (s : ByteArray) (c : Int) (w : World) : Calls Tryz.prog 281 #[.string s, .int .u8 c] w fun e w1 => e = .returned (.int .i64 (Lib.indexByte s.data.toList c.toNat.toUInt8)) ∧ w1 = w := by
  go_enter Tryz.func281, Tryz.ntmps281
  go_wp2
  rw [run_callFunc_extern Tryz.func325 (by kernel_rfl) (by kernel_rfl) (by kernel_rfl) (e := Extern.BytealgIndexByte.indexByte) (by kernel_rfl), Lib.run_indexByteString]
  simp only [Result.andThen]
  rw [Oper.upon_value]
  go_wp2
  go_ret
  exact ⟨rfl, rfl⟩
theorem sIxByte (s : ByteArray) (c : Int) (w : World) : Calls Tryz.prog 213 #[.string s, .int .u8 c] w fun e w1 => e = .returned (.int .i64 (Lib.indexByte s.data.toList c.toNat.toUInt8)) ∧ w1 = w := by
  go_enter Tryz.func213, Tryz.ntmps213
  go_wp2_with fail
  refine (ixByte s c _).mono ?_
  rintro e w1 ⟨rfl, rfl⟩
  go_wp2
  go_ret
  exact ⟨rfl, rfl⟩
set_option maxRecDepth 100000 in
set_option maxHeartbeats 1600000 in
theorem ixRune5 (s : ByteArray) (w : World) (hs : Lib.indexByte s.data.toList 53 = -1) : Calls Tryz.prog 149 #[.string s, .int .i32 53] w fun e w1 => e = .returned (.int .i64 (-1)) ∧ w1 = w := by
  have hx := Lib.hid (sIxByte s 53 w)
  go_enter Tryz.func149, Tryz.ntmps149
  go_wp2_with fail
  refine hx.out.mono ?_
  rintro e w1 ⟨rfl, rfl⟩
  have e1 : Lib.indexByte s.data.toList (Int.toNat 53).toUInt8 = -1 := hs
  rw [e1]
  go_wp2
  go_ret
  exact ⟨rfl, rfl⟩
theorem sASet (n : Int) (w : World) (hn : n ≤ 8) : Calls Tryz.prog 150 #[.int .i64 n] w fun e w1 => e = .returned (.bool false) ∧ w1 = w := by
  have hd : decide (n > 8) = false := by simp; omega
  go_enter Tryz.func150, Tryz.ntmps150
  go_wp2
  go_ret
  exact ⟨by simp, rfl⟩
/-- What a cell must be quoted for. -/
abbrev qCh : ByteArray := ⟨#[44, 34, 13, 10]⟩
set_option maxRecDepth 100000 in
set_option maxHeartbeats 3200000 in
theorem ixAny5 (s q : ByteArray) (hq : q = qCh) (hs : s = ⟨#[53]⟩ ∨ s = ⟨#[]⟩) (w : World) : Calls Tryz.prog 110 #[.string s, .string q] w fun e w1 => e = .returned (.int .i64 (-1)) ∧ Fr [] w w1 := by
  have hz : q.size = 4 := by rw [hq]; rfl
  have hqe : q.toList.isEmpty = false := by rw [hq, ByteArray.toList_eq]; rfl
  have hr := Lib.hid (fun u : World => ixRune5 q u (by rw [hq]; decide))
  clear hq
  rcases hs with hs | hs
  · have hsz : s.size = 1 := by rw [hs]; rfl
    have hb : (s[0]'(by omega)).toNat = 53 := by subst hs; rfl
    have hnx := fun ty => run_next_ascii (P := Tryz.prog) w s 0 ty (by omega) (by rw [hb]; decide)
    have hne := fun ty => run_next_end (P := Tryz.prog) w s 1 ty (by omega)
    rw [hb] at hnx
    clear hs
    go_enter Tryz.func110, Tryz.ntmps110
    go_wp2_with fail
    refine (sASet 1 _ (by omega)).mono ?_
    rintro e w1 ⟨rfl, rfl⟩
    go_wp2_with fail
    go_loopg [9, 10] 1 (fun g _ _ wx => (g = 1 ∧ wx = w1.iter s 0) ∨ (g = 0 ∧ wx = w1.iter s 1))
    case atStart => exact .inl ⟨rfl, rfl⟩
    case round =>
      rcases hrel with ⟨rfl, rfl⟩ | ⟨rfl, rfl⟩
      · go_wp2_with fail
        refine (hr.out _).mono ?_
        rintro e w2 ⟨rfl, rfl⟩
        go_wp2_with fail
        go_roundg 0
        case measure => omega
        case rel => exact .inr ⟨rfl, rfl⟩
      · go_wp2_with fail
        go_ret
        exact ⟨rfl, (Fr.refl [] w1).alloc _⟩
  · have hsz : s.size = 0 := by rw [hs]; rfl
    have hne := fun ty => run_next_end (P := Tryz.prog) w s 0 ty (by omega)
    clear hs
    go_enter Tryz.func110, Tryz.ntmps110
    go_wp2_with fail
    refine (sASet 0 _ (by omega)).mono ?_
    rintro e w1 ⟨rfl, rfl⟩
    go_wp2_with fail
    go_loopg [9, 10] 0 (fun _ _ _ wx => wx = w1.iter s 0)
    case atStart => rfl
    case round =>
      subst hrel
      go_wp2_with fail
      go_ret
      exact ⟨rfl, (Fr.refl [] w1).alloc _⟩
theorem cAny5 (s q : ByteArray) (hq : q = qCh) (hs : s = ⟨#[53]⟩ ∨ s = ⟨#[]⟩) (w : World) : Calls Tryz.prog 74 #[.string s, .string q] w fun e w1 => e = .returned (.bool false) ∧ Fr [] w w1 := by
  have hx := Lib.hid (ixAny5 s q hq hs w)
  clear hq hs
  go_enter Tryz.func74, Tryz.ntmps74
  go_wp2_with fail
  refine hx.out.mono ?_
  rintro e w1 ⟨rfl, h1⟩
  go_wp2
  go_ret
  exact ⟨rfl, h1⟩
theorem quoted5 (s : ByteArray) (hs : s = ⟨#[53]⟩ ∨ s = ⟨#[]⟩) (w : World) : Calls Tryz.prog 49 #[.string s] w fun e w1 => e = .returned (.string s) ∧ Fr [] w w1 := by
  have hx := Lib.hid (cAny5 s qCh rfl hs w)
  clear hs
  go_enter Tryz.func49, Tryz.ntmps49
  go_wp2_with fail
  refine hx.out.mono ?_
  rintro e w1 ⟨rfl, h1⟩
  go_wp2
  go_ret
  exact ⟨rfl, h1⟩
end
section
open Go.RowKit Go.Shelf
attribute [local go_sem] Oper.semAt_some

theorem bd_own {β : Type} {C B b : Nat} (f : β → List UInt8) : OwnFrom C (fun s W => BdAt W B b (f s)) := by
  rintro s X Y row ⟨hlt, p, v, hb, hp, ho⟩ hg hr
  have keep : ∀ (k : Nat) cs t fz, X.heap[k]? = some (Obj.cells cs t fz) → Y.heap[k]? = some (Obj.cells cs t fz) := fun k cs t fz hk =>
    (hg.block k (lt_of hk) (fun e => by
      obtain ⟨_, o, ho, hc⟩ := hr k e.symm
      rw [hk] at ho
      cases ho
      cases hc)).trans hk
  refine ⟨hlt, p, v, keep _ _ _ _ hb, hp, ho.1, ?_⟩
  rcases ho.2 with h | ⟨g, cap, cur, hv, hg', hh, r⟩
  · exact .inl h
  · exact .inr ⟨g, cap, cur, hv, hg', keep _ _ _ _ hh, r⟩
theorem fr_below2 {S : List Nat} {W W8 u : World} {B0 : Nat} (h : Fr S W W8) (hb : Below B0 W8 u) (hB : W.heap.size ≤ B0) : Fr S W u := ⟨hb.os.trans h.os, hb.tape.trans h.tape, hb.output.trans h.output, Nat.le_trans h.size hb.size, fun k hk hn => (hb.block k (Nat.lt_of_lt_of_le hk hB)).trans (h.block k hk hn)⟩
theorem RdIs.kept {w w1 : World} {B p tb mb k : Nat} {dd b : Int} {l : List (Sp × Cel)} (h : RdIs w B p tb mb k dd b l) {B0 : Nat} {S : List Nat} (hk : KeptT B0 S (some 5) w w1) (n0 : B ∉ S) (n1 : p ∉ S) (n2 : tb ∉ S) (n3 : mb ∉ S) : RdIs w1 B p tb mb k dd b l :=
  ⟨hk.block _ _ h.bk n0 (.inr (ofT_ne (by decide))), h.sh.keptU hk n1 n2 n3⟩
/-- What is written of a place. -/
def enc01 (x : P01) : List UInt8 := if x.1.2 < 1 then [53, 44] else [13, 10]
theorem enc01_len (pre : List P01) : (pre.flatMap enc01).length = 2 * pre.length := by
  induction pre with
  | nil => rfl
  | cons x pre ih =>
    rw [List.flatMap_cons, List.length_append, ih, List.length_cons]
    have : (enc01 x).length = 2 := by unfold enc01; split <;> rfl
    omega

set_option maxRecDepth 100000 in
set_option maxHeartbeats 25600000 in
theorem keepCsv_in (B p tb mb k : Nat) (dd b : Int) (l : List (Sp × Cel)) (w : World) (h : RdIs w B p tb mb k dd b l) (h0 : ((getS (0, 0) l).getD cel0).t = ⟨#[53]⟩) (h1 : ((getS (0, 1) l).getD cel0).t = ⟨#[]⟩) :
    CallsIn Fence.wide 5 Tryz.prog 24 #[.pointer (some ⟨B, 0, none⟩), arV 0 0 0 1] w fun e w1 => e = .returned (.tuple #[.string ⟨#[53, 44, 13, 10]⟩, .int .i64 0]) ∧ Fr [] w w1 := by
  have H := Lib.hid h
  have H0 := Lib.hid h0
  have H1 := Lib.hid h1
  clear h h0 h1
  refine callsIn_of_wp_marks Tryz.func24 rfl trivial ?_ rfl
  simp only [Tryz.ntmps24, List.size_toArray, List.length_cons, List.length_nil, Nat.reduceAdd, Nat.reduceSub, Array.replicate_succ, Array.replicate_zero, List.push_toArray, List.append_toArray, List.nil_append, List.cons_append]
  gi_wp2_with fail
  have hA : Fr [] w ((((w.alloc (.cells #[.pointer (some ⟨B, 0, none⟩)] 47)).alloc arO).alloc (.cells #[.string ⟨#[]⟩] 9)).alloc (.cells #[.int .i64 0] 25)) := ((((Fr.refl [] w).alloc _).alloc _).alloc _).alloc _
  have k0 := (((((Fr.refl [] _).alloc arO).alloc (.cells #[.string ⟨#[]⟩] 9)).alloc (.cells #[.int .i64 0] 25))).heap (heap_new w (.cells #[.pointer (some ⟨B, 0, none⟩)] 47)) (by simp)
  have k1 := ((((Fr.refl [] _).alloc (.cells #[.string ⟨#[]⟩] 9)).alloc (.cells #[.int .i64 0] 25))).heap (heap_new (w.alloc (.cells #[.pointer (some ⟨B, 0, none⟩)] 47)) arO) (by simp)
  have k2 := (((Fr.refl [] _).alloc (.cells #[.int .i64 0] 25))).heap (heap_new ((w.alloc (.cells #[.pointer (some ⟨B, 0, none⟩)] 47)).alloc arO) (.cells #[.string ⟨#[]⟩] 9)) (by simp)
  have k3 := heap_new (((w.alloc (.cells #[.pointer (some ⟨B, 0, none⟩)] 47)).alloc arO).alloc (.cells #[.string ⟨#[]⟩] 9)) (.cells #[.int .i64 0] 25)
  simp only [World.size_alloc] at k1 k2 k3
  obtain ⟨A, hAe⟩ : ∃ A, w.heap.size = A := ⟨_, rfl⟩
  simp only [hAe] at k0 k1 k2 k3 ⊢
  have HAE := Lib.hid hAe
  clear hAe
  generalize (((w.alloc (.cells #[.pointer (some ⟨B, 0, none⟩)] 47)).alloc arO).alloc (.cells #[.string ⟨#[]⟩] 9)).alloc (.cells #[.int .i64 0] 25) = W0 at *
  refine ⟨trivial, ?_⟩
  gi_at_call 46
  refine (callsIn_wide.2 (areaSize01 W0)).mono ?_
  rintro e w1 ⟨rfl, h1⟩
  have hF1 := hA.trans0 h1
  have k0 := h1.heap k0 (by simp)
  have k1 := h1.heap k1 (by simp)
  have k2 := h1.heap k2 (by simp)
  have k3 := h1.heap k3 (by simp)
  have c1 := cell_of k1 0
  have c2 := cell_of k1 1
  have c3 := cell_of k1 2
  have c4 := cell_of k1 3
  have l0 := lt_of k0
  have l1 := lt_of k1
  have l3 := lt_of k3
  gi_wp2_with fail
  refine ⟨trivial, ?_⟩
  gi_at_call 47
  refine (callsIn_wide.2 (areaAll01 _)).mono ?_
  rintro e w2 ⟨rfl, h2⟩
  gi_wp2
  have k0 := ((((Fr.refl [] w1).alloc (.cells #[.pointer none, .slice none 0 0] 117)).alloc arO)).heap k0 (by simp)
  have k1 := ((((Fr.refl [] w1).alloc (.cells #[.pointer none, .slice none 0 0] 117)).alloc arO)).heap k1 (by simp)
  have k2 := ((((Fr.refl [] w1).alloc (.cells #[.pointer none, .slice none 0 0] 117)).alloc arO)).heap k2 (by simp)
  have k3 := ((((Fr.refl [] w1).alloc (.cells #[.pointer none, .slice none 0 0] 117)).alloc arO)).heap k3 (by simp)
  have hbl := ((Fr.refl [] _).alloc arO).heap (heap_new w1 (.cells #[.pointer none, .slice none 0 0] 117)) (by simp)
  have hA2 := heap_new (w1.alloc (.cells #[.pointer none, .slice none 0 0] 117)) arO
  have hF2 : Fr [] w ((w1.alloc (.cells #[.pointer none, .slice none 0 0] 117)).alloc arO) := (hF1.alloc _).alloc _
  rw [← h2] at k0 k1 k2 k3 hbl hA2 hF2 ⊢
  rw [World.size_alloc] at hA2
  have hz2 : w2.heap.size = w1.heap.size + 1 + 1 := by rw [h2]; simp
  have zw := hF1.size
  obtain ⟨bb, hbb⟩ : ∃ bb, w1.heap.size = bb := ⟨_, rfl⟩
  simp only [hbb] at hbl hA2 hz2 l0 l1 l3 zw ⊢
  obtain ⟨B0, hB0⟩ : ∃ B0, w2.heap.size = B0 := ⟨_, rfl⟩
  have hB2 : B0 = bb + 1 + 1 := by omega
  have HR := Lib.hid (H.out.fr0 hF2)
  have hlt : B < bb ∧ p < bb ∧ tb < bb ∧ mb < bb := by
    have h1 := lt_of H.out.bk
    have h2 := H.out.sh.lts
    omega
  have H2 := Lib.hid h2
  have hbd0 : BdAt w2 B0 bb [] := ⟨by omega, _, _, hbl, .inl rfl, World.ownsRow_nil _ _ _ _⟩
  have h01 : A < bb ∧ A + 1 < bb ∧ A + 1 + 1 < bb ∧ A + 1 + 1 + 1 < bb := by omega
  clear c1 c2 c3 c4 l0 l1 l3 h2 hA hF1
  refine range_L (gf := 72) (lb := #[.pointer (some ⟨bb + 1, 0, none⟩)]) rfl (enters_of Tryz.func72 (by kernel_rfl) rfl) B0 [bb] (some 5) ?_
    (seq01 B0 [bb] (some 5) (bb + 1) w2 hA2 (by simp) (by decide)) (fun _ => rfl)
    (fun pre W => BdAt W B0 bb (pre.flatMap enc01)) (fun _ _ _ => False) (bd_own _) (fun _ _ _ _ _ h _ _ => h) hbd0 ?_ ?_ ?_
  · intro k hk
    rw [List.mem_singleton] at hk
    omega
  · intro lp pre x X hl2 hj hk hlen2
    gi_wp2
    refine ⟨(Fr.refl [] X).alloc _, ?_⟩
    intro X2 hcs hsz hr hj2 hk2
    have hat := hcs X.heap.size _ _ _ (heap_new X _)
    have hXz := hk.size
    obtain ⟨D, hDe⟩ : ∃ D, X.heap.size = D := ⟨_, rfl⟩
    simp only [hDe] at hat hXz ⊢
    obtain ⟨t, ht, htq, henc⟩ : ∃ t, ((getS x.1 l).getD cel0).t = t ∧ (t = ⟨#[53]⟩ ∨ t = ⟨#[]⟩) ∧ (x.1.2 < 1 ∧ enc01 x = t.data.toList ++ [44] ∨ ¬ x.1.2 < 1 ∧ enc01 x = t.data.toList ++ [13, 10]) := by
      obtain ⟨s, hs⟩ := x
      rcases hs with rfl | rfl
      · exact ⟨_, H0.out, .inl rfl, .inl ⟨by decide, rfl⟩⟩
      · exact ⟨_, H1.out, .inr rfl, .inr ⟨by decide, rfl⟩⟩
    have hts : t.size ≤ 1 := by rcases htq with rfl | rfl <;> decide
    obtain ⟨lb, hlb⟩ : ∃ lb, pre.flatMap enc01 = lb := ⟨_, rfl⟩
    have hlbl : lb.length = 2 * pre.length := by rw [← hlb, enc01_len]
    rw [hlb] at hj2
    have HLB := Lib.hid hlb
    have nn : B ∉ [bb] ∧ p ∉ [bb] ∧ tb ∉ [bb] ∧ mb ∉ [bb] := by simp; omega
    have HR2 := Lib.hid (HR.out.kept hk2 nn.1 nn.2.1 nn.2.2.1 nn.2.2.2)
    have hbx := hk2.block _ _ k0 (by simp; omega) (.inr (ofT_ne (by decide)))
    have har := hk2.block _ _ k1 (by simp; omega) (.inr (ofT_ne (by decide)))
    have nbx : A ∉ [bb] := by simp; omega
    have nD : D ∉ [bb] := by simp; omega
    have hDb := hat
    have hzX : B0 ≤ X2.heap.size := by have := hk2.size; omega
    obtain ⟨s, hsx⟩ : ∃ s, x.1 = s := ⟨_, rfl⟩
    rw [hsx] at ht henc hDb
    have htext : Hid (∀ u, KeptT B0 [bb] (some 5) X2 u → Calls Tryz.prog 50 #[.pointer (some ⟨B, 0, none⟩), spV s] u fun e w1 => e = .returned (.string t) ∧ Fr [] u w1) := fun u hu => by
      have := rdgText B p tb mb k dd b s l u (HR2.out.kept hu nn.1 nn.2.1 nn.2.2.1 nn.2.2.2)
      rwa [ht] at this
    have hquo : Hid (∀ u, Calls Tryz.prog 49 #[.string t] u fun e w1 => e = .returned (.string t) ∧ Fr [] u w1) := fun u => quoted5 t htq u
    have hws : Hid (∀ u, Fr [] X2 u → Calls Tryz.prog 48 #[.pointer (some ⟨bb, 0, none⟩), .string t] u fun e w1 => e = .returned (.tuple #[.int .i64 (t.size : Int), .nilIface]) ∧ BdAt w1 B0 bb (lb ++ t.data.toList) ∧ KeptT B0 [bb] (some 5) u w1) := fun u hu =>
      bdStr B0 bb lb t u (hj2.kept hu (by simp) (by simp)) (by omega) (Nat.le_trans hzX hu.size)
    gi_wp2_with fail
    refine wp_factsN (fun u => KeptT B0 [bb] (some 5) X2 u) (fun i u u' => if i = 6 then KeptT B0 [bb] (some 5) u u' else Fr [] u u') [(2, .pointer (some ⟨A, 0, none⟩)), (8, .pointer (some ⟨bb, 0, none⟩)), (9, .pointer (some ⟨D, 0, none⟩))] [[], [0], [1], [], [2, 3], [4], [5]]
      (fun i σ u => match i with
        | 0 => σ 22 = .pointer (some ⟨B, 0, none⟩)
        | 1 => σ 23 = .pointer (some ⟨B, 0, none⟩)
        | 2 => σ 24 = .pointer (some ⟨B, 0, none⟩)
        | 3 => σ 25 = spV s
        | 4 => σ 26 = .string t
        | 5 => σ 27 = .string t
        | _ => BdAt u B0 bb (lb ++ t.data.toList) ∧ σ 28 = .tuple #[.int .i64 (t.size : Int), .nilIface]) (fun i u => i = 6 → Fr [] X2 u)
      (ds := [22, 23, 24, 25, 26, 27, 28]) (fr := ?fr9) (by kernel_rfl) ?hfr9 ⟨rfl, rfl, rfl, trivial⟩ rfl rfl (by kernel_rfl) (by kernel_rfl) (by decide) rfl (by kernel_rfl) ?hlets9 ((Fr.refl [bb] _).drew.keptT _ _) (fun _ _ _ => (Fr.refl _ _).drew) ⟨fun j hj i u u' hij _ hG hR hN e => (hN e).trans0 (by subst e; rwa [if_neg hij] at hR), fun i u u' hG hR => (by split at hR; exact hG.trans hR; exact hG.trans hR.kt0), ?_, ?_⟩ ?_
    case hfr9 =>
      intro σ
      simp only [layA, List.foldl_cons, List.foldl_nil, List.setIfInBounds_toArray, List.set_cons_zero, List.set_cons_succ]
      rfl
    case hlets9 => rintro ⟨_, _, h⟩; exact h
    · intro j hj i σ σ' u u' hij hs hd hG hR h
      have hj : j < 7 := hj
      rcases (by omega : j = 6 ∨ j = 0 ∨ j = 1 ∨ j = 2 ∨ j = 3 ∨ j = 4 ∨ j = 5) with rfl | rfl | rfl | rfl | rfl | rfl | rfl
      · rw [if_neg hij] at hR; exact ⟨h.1.kept hR (by simp) (by simp), hs.trans h.2⟩
      all_goals exact hs.trans h
    · intro i hi
      have hi : i < 7 := hi
      rcases (by omega : (i = 0 ∨ i = 1 ∨ i = 2 ∨ i = 3) ∨ (i = 4 ∨ i = 5 ∨ i = 6)) with hi | hi
      · rcases hi with rfl | rfl | rfl | rfl
        all_goals
          intro a u K hX hG hD hN hZ hK
          obtain ⟨hx2, hx8, hx9, -⟩ := hX
          try dsimp only [AllF, slotsA, List.getD_cons_zero, List.getD_cons_succ] at hD
          first | obtain ⟨e0, e1, e2, e3, -⟩ := hD | obtain ⟨e0, e1, e2, -⟩ := hD | obtain ⟨e0, e1, -⟩ := hD | obtain ⟨e0, -⟩ := hD | skip
          try replace e0 : _ = _ := e0
          try replace e1 : _ = _ := e1
          try replace e2 : _ = _ := e2
          try replace e3 : _ = _ := e3
          have m0 := cell_of (hG.block _ _ hbx nbx (.inr (ofT_ne (by decide)))) 0
          have hD5 := hG.block _ _ hDb nD (.inr (ofT_ne (by decide)))
          have m1 := cell_of hD5 0
          have m2 := cell_of hD5 1
          refine wpOp_step rfl (fun K' hK' => ?_)
          go_simp
          exact hK' _ _ (hK _ _ (Fr.refl _ _) rfl)
      · rcases hi with rfl | rfl | rfl
        all_goals
          intro a u K hX hG hD hN hZ hK
          obtain ⟨hx2, hx8, hx9, -⟩ := hX
          try dsimp only [AllF, slotsA, List.getD_cons_zero, List.getD_cons_succ] at hD
          have m0 := cell_of (hG.block _ _ hbx nbx (.inr (ofT_ne (by decide)))) 0
          have hD5 := hG.block _ _ hDb nD (.inr (ofT_ne (by decide)))
          have m1 := cell_of hD5 0
          have m2 := cell_of hD5 1
        · obtain ⟨d2, d3, -⟩ := hD
          replace d2 : _ = _ := d2
          replace d3 : _ = _ := d3
          refine wpOp_step rfl (fun K' hK' => ?_)
          go_simp
          refine (htext.out u hG).mono ?_
          rintro e u2 ⟨rfl, hF⟩
          exact hK' _ _ (hK _ _ hF rfl)
        · obtain ⟨d4, -⟩ := hD
          replace d4 : _ = _ := d4
          refine wpOp_step rfl (fun K' hK' => ?_)
          go_simp
          refine (hquo.out u).mono ?_
          rintro e u2 ⟨rfl, hF⟩
          exact hK' _ _ (hK _ _ hF rfl)
        · obtain ⟨d5, -⟩ := hD
          replace d5 : _ = _ := d5
          refine wpOp_step rfl (fun K' hK' => ?_)
          go_simp
          refine (hws.out u (hN rfl)).mono ?_
          rintro e u2 ⟨rfl, hb5, hF⟩
          exact hK' _ _ (hK _ _ hF ⟨hb5, rfl⟩)
    · intro σ u hG h
      obtain ⟨hb6, -⟩ := h 6 (by decide)
      clear h htext hquo hws
      have hDu := hG.block _ _ hDb nD (.inr (ofT_ne (by decide)))
      have haru := hG.block _ _ har (by simp; omega) (.inr (ofT_ne (by decide)))
      have e1 := cell_of hDu 1
      have e3 := cell_of haru 3
      have zu := Nat.le_trans hzX hG.size
      have htl : t.data.toList.length ≤ 1 := hts
      rcases henc with ⟨hc, he⟩ | ⟨hc, he⟩
      · gi_wp2_with fail
        refine ⟨trivial, ?_⟩
        gi_at_call 51
        refine (CallsIn.inRound lp (callsIn_wide.2 (bdByte B0 bb (lb ++ t.data.toList) 44 u hb6 (by simp; omega) zu))).mono ?_
        rintro e y1 ⟨rfl, hb7, hk7⟩
        obtain ⟨L7, hL7⟩ : ∃ L7, (lb ++ t.data.toList ++ [44]).length = L7 := ⟨_, rfl⟩
        have hlen := bdLen B0 bb _ y1 hb7
        rw [hL7] at hlen
        have hL8 : L7 ≤ 10 := by rw [← hL7]; simp; omega
        have HL7 := Lib.hid hL7
        clear hL7
        gi_wp2_with fail
        refine ⟨trivial, ?_⟩
        gi_at_call 52
        refine (CallsIn.inRound lp (callsIn_wide.2 hlen)).mono ?_
        rintro e y2 ⟨rfl, rfl⟩
        gi_wp2_with fail
        refine ⟨hG.trans hk7, ?_⟩
        show BdAt y2 B0 bb ((pre ++ [x]).flatMap enc01)
        rw [List.flatMap_append, HLB.out]
        simpa [he] using hb7
      · gi_wp2_with fail
        refine ⟨trivial, ?_⟩
        gi_at_call 48
        refine (CallsIn.inRound lp (callsIn_wide.2 (bdStr B0 bb (lb ++ t.data.toList) ⟨#[13, 10]⟩ u hb6 (by have e : (⟨#[13, 10]⟩ : ByteArray).size = 2 := rfl; rw [e]; simp; omega) zu))).mono ?_
        rintro e y1 ⟨rfl, hb7, hk7⟩
        obtain ⟨L7, hL7⟩ : ∃ L7, (lb ++ t.data.toList ++ (⟨#[13, 10]⟩ : ByteArray).data.toList).length = L7 := ⟨_, rfl⟩
        have hlen := bdLen B0 bb _ y1 hb7
        rw [hL7] at hlen
        have hL8 : L7 ≤ 10 := by rw [← hL7]; simp; omega
        have HL7 := Lib.hid hL7
        clear hL7
        gi_wp2_with fail
        refine ⟨trivial, ?_⟩
        gi_at_call 52
        refine (CallsIn.inRound lp (callsIn_wide.2 hlen)).mono ?_
        rintro e y2 ⟨rfl, rfl⟩
        gi_wp2_with fail
        refine ⟨hG.trans hk7, ?_⟩
        show BdAt y2 B0 bb ((pre ++ [x]).flatMap enc01)
        rw [List.flatMap_append, HLB.out]
        simpa [he] using hb7
  · intro D xs W4 hD hS4 hJ hf hK
    subst hS4
    have hJ4 : BdAt W4 B0 bb [53, 44, 13, 10] := hJ
    have k2 := hf.block _ _ k2 (by simp; omega) (.inr (ofT_ne (by decide)))
    have k3 := hf.block _ _ k3 (by simp; omega) (.inr (ofT_ne (by decide)))
    gi_wp2_with fail
    refine ⟨trivial, ?_⟩
    gi_at_call 53
    refine (callsIn_wide.2 (bdString B0 bb _ W4 hJ4 (by simp))).mono ?_
    rintro e w5 ⟨rfl, hB5, hk5⟩
    have k2 := hk5.block _ _ k2 (by simp) (.inr (ofT_ne (by decide)))
    have k3 := hk5.block _ _ k3 (by simp) (.inr (ofT_ne (by decide)))
    have hK5 := hk5.block _ _ hK (by simp) (.inr rfl)
    have f2 := free_of k2 0
    have f3 := free_of k3 0
    have c2 := cell_of k2 0
    have c3 := cell_of k3 0
    gi_wp2_with fail
    have hsA : Fr [A + 1 + 1, A + 1 + 1 + 1] w5 ((w5.setCell ⟨A + 1 + 1, 0, none⟩ (.string ⟨#[53, 44, 13, 10]⟩)).setCell ⟨A + 1 + 1 + 1, 0, none⟩ (.int .i64 0)) := ((Fr.refl _ w5).setCell (.inl (by simp)) _).setCell (.inl (by simp)) _
    have k22 := ((Fr.refl [A + 1 + 1 + 1] _).setCell (p := ⟨A + 1 + 1 + 1, 0, none⟩) (.inl (by simp)) (.int .i64 0)).heap (set_of k2 0 (.string ⟨#[53, 44, 13, 10]⟩)) (by simp)
    have k33 := set_of (((Fr.refl [A + 1 + 1] w5).setCell (p := ⟨A + 1 + 1, 0, none⟩) (.inl (by simp)) (.string ⟨#[53, 44, 13, 10]⟩)).heap k3 (by simp)) 0 (.int .i64 0)
    have hK6 := hsA.heap hK5 (by simp; omega)
    generalize (w5.setCell ⟨A + 1 + 1, 0, none⟩ (.string ⟨#[53, 44, 13, 10]⟩)).setCell ⟨A + 1 + 1 + 1, 0, none⟩ (.int .i64 0) = W6 at *
    have hfD : Fr [D] W6 (W6.putObj D (.deferred none)) :=
      have g := grownBy_putObj' W6 D (.deferred none)
      ⟨g.os, g.tape, g.output, g.size, fun k _ hn => World.putObj_heap_other (by simpa using hn)⟩
    have k22 := hfD.heap k22 (by simp; omega)
    have k33 := hfD.heap k33 (by simp; omega)
    have d2 := cell_of k22 0
    have d3 := cell_of k33 0
    simp at d2 d3
    have hf2 := hf
    rw [← hB0] at hf2
    have hw4 : Fr [bb] w W4 := (hF2.mono (T := [bb]) (by simp)).trans hf2.fr (by simp)
    refine ⟨by simp, .inl ⟨_, _, rfl, run_takeDeferred hK6, ?_⟩⟩
    refine ⟨.tuple #[.string ⟨#[53, 44, 13, 10]⟩, .int .i64 0], by simp [results, Tryz.results24, go_sem, d2, d3], rfl, ?_⟩
    have zA := HAE.out
    have z4 := hf.size
    have hw5 : Fr [bb] w w5 := fr_below2 hw4 hB5 (by omega)
    exact ((hw5.trans hsA (by simp; omega)).trans hfD (by simp; omega)).mono (by simp; omega)
  · intro D c pre W _ _ h _
    exact h.elim
end
end Go.Proofs.YtnmkhoebijodhaaGreatDoor
