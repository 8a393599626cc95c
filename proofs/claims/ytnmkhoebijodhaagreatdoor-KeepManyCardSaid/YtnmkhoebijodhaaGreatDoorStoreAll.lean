/-
  (*Table[T]).All and Over at quadrille/trace.seen: an iterator of the rows as they lie now.
  The trace store, as its blocks are read; contracts of New, Keep, entry, Same, Len, Dep, Value, Drop.
  Contracts of trace.Store.Drop and All.
-/
import Derived.Test.YtnmkhoebijodhaaGreatDoorOverSeen
import Derived.Test.YtnmkhoebijodhaaGreatDoorIterK
import Derived.Test.YtnmkhoebijodhaaGreatDoorArea
import Derived.Test.YtnmkhoebijodhaaGreatDoorKeep
import Derived.Test.YtnmkhoebijodhaaGreatDoorTab
import Derived.Test.YtnmkhoebijodhaaGreatDoorLoopK
import Derived.Test.YtnmkhoebijodhaaGreatDoorColl
namespace Go.Proofs.YtnmkhoebijodhaaGreatDoor
section
open Go.RowKit Go.Shelf

/-- An iterator's value: its box, and the rows that it goes over. -/
structure IterSeen (n0 : Nat) (w : World) (B : Nat) (rv : Value) (R : List (Sp × Seen)) : Prop where
  box : w.cell? ⟨B, 0, none⟩ = some rv
  lt : B < w.heap.size
  le : n0 ≤ B
  own : w.ownsRow n0 372 6 rv R.length (R.flatMap rowSeen)

theorem pAll_Seen (s : Sp) (w : World) : Calls Tryz.prog 184 #[spV s] w fun e w1 => e = .returned (.bool true) ∧ Fr [] w w1 := by
  go_enter Tryz.func184, Tryz.ntmps184
  go_wp2
  go_ret
  refine ⟨rfl, ?_⟩
  repeat' (first | exact Fr.refl _ _ | apply Fr.drew | apply Fr.alloc)

theorem all_Seen (tb mb : Nat) (l : List (Sp × Seen)) (w : World) (h : TabIs 175 (fun x : Seen => Seen.val x) w tb mb l) (hl : l.length ≤ 65536) :
    Calls Tryz.prog 127 #[.pointer (some ⟨tb, 0, none⟩)] w fun e w1 => ∃ (B : Nat) (rv : Value), e = .returned (.func (.func 239) #[] #[.pointer (some ⟨B, 0, none⟩)]) ∧
      IterSeen w.heap.size w1 B rv (rowsS seen0 (fun _ => true) l (sortS (l.map (·.1)))) ∧ Fr [] w w1 := by
  have HL := Lib.hid hl
  clear hl
  go_enter Tryz.func127, Tryz.ntmps127
  go_wp2_with fail
  refine (over_Seen tb mb l 184 #[] (fun _ => true) _ h HL.out (enters_of Tryz.func184 (by kernel_rfl) rfl) (fun s W' _ => pAll_Seen s W')).mono ?_
  rintro e w1 ⟨B, rv, rfl, hb, hB, hown, hf⟩
  have hlt : B < w1.heap.size := World.block_lt_of_cell? w1 ⟨B, 0, none⟩ hb
  have H := Lib.hid (IterSeen.mk hb hlt hB hown)
  clear hb hown
  go_wp2
  go_ret
  exact ⟨B, rv, rfl, H.out, hf⟩
end
section
open Go.RowKit

abbrev tE : TypeId := 316
abbrev tT : TypeId := 175

/-- A trace. -/
structure Tr where
  v : V
  es : List En

structure SeenIs (w : World) (x : Seen) (t : Tr) : Prop where
  v : x.v = t.v
  n : x.n = t.es.length
  row : w.ownsRow 0 tE 6 (.slice x.p x.n x.c) x.n (t.es.flatMap enC)

def Match (w : World) : List (Sp × Seen) → List (Sp × Tr) → Prop
  | [], [] => True
  | a :: l, b :: m => a.1 = b.1 ∧ SeenIs w a.2 b.2 ∧ Match w l m
  | _, _ => False

/-- None of these blocks has entries. -/
def NotE (w : World) (S : List Nat) : Prop := ∀ b ∈ S, ∀ cur, w.heap[b]? ≠ some (.cells cur tE (0, 0))

theorem SeenIs.fr {w w1 : World} {x : Seen} {t : Tr} (h : SeenIs w x t) {S : List Nat} (hf : Fr S w w1) (hS : NotE w S) : SeenIs w1 x t := by
  refine ⟨h.v, h.n, ?_⟩
  obtain ⟨h1, h2⟩ := h.row
  refine ⟨h1, ?_⟩
  rcases h2 with h2 | ⟨g, cap, cur, hv, hg, hh, r⟩
  · exact .inl h2
  · exact .inr ⟨g, cap, cur, hv, hg, hf.heap hh (fun hm => hS g hm cur hh), r⟩

theorem Match.fr {w w1 : World} {S : List Nat} (hf : Fr S w w1) (hS : NotE w S) : ∀ {l : List (Sp × Seen)} {m : List (Sp × Tr)}, Match w l m → Match w1 l m
  | [], [], _ => trivial
  | _ :: _, _ :: _, ⟨h1, h2, h3⟩ => ⟨h1, h2.fr hf hS, Match.fr hf hS h3⟩
  | [], _ :: _, h => h.elim
  | _ :: _, [], h => h.elim

theorem Match.keys {w : World} : ∀ {l : List (Sp × Seen)} {m : List (Sp × Tr)}, Match w l m → l.map (·.1) = m.map (·.1)
  | [], [], _ => rfl
  | _ :: _, _ :: _, ⟨h1, _, h3⟩ => by rw [List.map_cons, List.map_cons, h1, Match.keys h3]
  | [], _ :: _, h => h.elim
  | _ :: _, [], h => h.elim

theorem Match.get {w : World} (s : Sp) : ∀ {l : List (Sp × Seen)} {m : List (Sp × Tr)}, Match w l m → (getS s l = none ∧ getS s m = none) ∨ ∃ x t, getS s l = some x ∧ getS s m = some t ∧ SeenIs w x t
  | [], [], _ => .inl ⟨rfl, rfl⟩
  | a :: l, b :: m, ⟨h1, h2, h3⟩ => by
    simp only [getS, ← h1]
    by_cases hs : s = a.1
    · simp only [if_pos hs]
      exact .inr ⟨_, _, rfl, rfl, h2⟩
    · simp only [if_neg hs]
      exact Match.get s h3
  | [], _ :: _, h => h.elim
  | _ :: _, [], h => h.elim

theorem Match.put {w : World} (s : Sp) {x : Seen} {t : Tr} (hx : SeenIs w x t) : ∀ {l : List (Sp × Seen)} {m : List (Sp × Tr)}, Match w l m → Match w (putS s x l) (putS s t m)
  | [], [], _ => ⟨rfl, hx, trivial⟩
  | a :: l, b :: m, ⟨h1, h2, h3⟩ => by
    simp only [putS, ← h1]
    by_cases hs : s = a.1
    · simp only [if_pos hs]
      exact ⟨rfl, hx, h3⟩
    · simp only [if_neg hs]
      exact ⟨h1, h2, Match.put s hx h3⟩
  | [], _ :: _, h => h.elim
  | _ :: _, [], h => h.elim

theorem Match.del {w : World} (s : Sp) : ∀ {l : List (Sp × Seen)} {m : List (Sp × Tr)}, Match w l m → Match w (delS s l) (delS s m)
  | [], [], _ => trivial
  | a :: l, b :: m, ⟨h1, h2, h3⟩ => by
    simp only [delS, ← h1]
    by_cases hs : s = a.1
    · simp only [if_pos hs]
      exact h3
    · simp only [if_neg hs]
      exact ⟨h1, h2, Match.del s h3⟩
  | [], _ :: _, h => h.elim
  | _ :: _, [], h => h.elim

theorem Match.len {w : World} {l : List (Sp × Seen)} {m : List (Sp × Tr)} (h : Match w l m) : l.length = m.length := by
  have := congrArg List.length h.keys
  simpa using this

/-- The store's block, its table's, its map's. -/
structure StIs (w : World) (p tb mb : Nat) (dd : Int) (m : List (Sp × Tr)) : Prop where
  st : w.heap[p]? = some (.cells #[.int .i64 dd, .pointer (some ⟨tb, 0, none⟩)] 140 (0, 0))
  wd : 0 ≤ dd ∧ dd ≤ 64
  tab : ∃ ls, TabIs tT Seen.val w tb mb ls ∧ Match w ls m

theorem StIs.fr {w w1 : World} {p tb mb : Nat} {dd : Int} {m : List (Sp × Tr)} (h : StIs w p tb mb dd m) {S : List Nat} (hf : Fr S w w1) (hp : p ∉ S) (ht : tb ∉ S) (hm : mb ∉ S) (hS : NotE w S) : StIs w1 p tb mb dd m := by
  obtain ⟨h1, h2, ls, h3, h4⟩ := h
  exact ⟨hf.heap h1 hp, h2, ls, h3.fr hf ht hm, h4.fr hf hS⟩
theorem StIs.fr0 {w w1 : World} {p tb mb : Nat} {dd : Int} {m : List (Sp × Tr)} (h : StIs w p tb mb dd m) (hf : Fr [] w w1) : StIs w1 p tb mb dd m :=
  h.fr hf (by simp) (by simp) (by simp) (fun _ h => by simp at h)
theorem StIs.notE {w : World} {p tb mb : Nat} {dd : Int} {m : List (Sp × Tr)} (h : StIs w p tb mb dd m) : NotE w [tb, mb] := by
  obtain ⟨_, _, ls, ⟨ht, es, clock, hm, _⟩, _⟩ := h
  intro b hb cur
  simp only [List.mem_cons, List.not_mem_nil, or_false] at hb
  rcases hb with rfl | rfl
  · rw [ht]
    intro h
    injection h with h
    injection h with h1 h2 h3
    cases h2
  · rw [hm]
    intro h
    cases h

set_option maxHeartbeats 1600000 in
theorem traceNew (d : Int) (w : World) (h0 : 0 ≤ d) (h1 : d ≤ 64) : Calls Tryz.prog 27 #[.int .i64 d] w fun e w1 => ∃ p tb mb, e = .returned (.tuple #[.pointer (some ⟨p, 0, none⟩), .int .i64 0]) ∧ w.heap.size ≤ p ∧ w.heap.size ≤ tb ∧ w.heap.size ≤ mb ∧ StIs w1 p tb mb d [] ∧ Fr [] w w1 := by
  go_enter Tryz.func27, Tryz.ntmps27
  go_wp2_with (go_at_call 56; refine (newT _).mono ?_; rintro e w1 ⟨tb, mb, rfl, ht, hm, hT, h1⟩)
  go_ret2
  refine ⟨w1.heap.size, tb, mb, rfl, h1.size, ht, hm, ⟨heap_new _ _, ⟨h0, by assumption⟩, [], hT.fr ((Fr.refl [] w1).alloc _) (by simp) (by simp), trivial⟩, h1.alloc _⟩

theorem traceNew_no (d : Int) (w : World) (h : d < 0 ∨ 64 < d) : Calls Tryz.prog 27 #[.int .i64 d] w fun e w1 => e = .returned (.tuple #[.pointer none, .int .i64 27]) ∧ Fr [] w w1 := by
  rcases h with h | h
  · go_enter Tryz.func27, Tryz.ntmps27
    go_wp2_with fail
    go_ret2
    exact ⟨rfl, Fr.refl _ _⟩
  · have h' : ¬ d < 0 := by omega
    go_enter Tryz.func27, Tryz.ntmps27
    go_wp2_with fail
    go_ret2
    exact ⟨rfl, Fr.refl _ _⟩

set_option maxRecDepth 100000 in
theorem keep0 (p : Value) (s : Sp) (v : V) (x y : Value) (ds : List Sp) (vs : List V) (w : World) (hd : SpotsAt w x ds) (hv : ValsAt w y vs)
    (hvs : v.s.size ≤ 9223372036854775807) (hvss : ∀ x ∈ vs, x.s.size ≤ 9223372036854775807) (hm : (mayE s v ds vs == 0) = false) :
    Calls Tryz.prog 141 #[p, spV s, v.val, x, y] w fun e w1 => e = .returned (.int .i64 (mayE s v ds vs)) ∧ Fr [] w w1 := by
  have HD := Lib.hid hd
  have HV := Lib.hid hv
  have HVS := Lib.hid hvss
  have hm2 : (mayE s v ds vs != 0) = true := by simp [bne, hm]
  generalize he : mayE s v ds vs = E at *
  have HE := Lib.hid he
  clear hd hv hvss he
  go_enter Tryz.func141, Tryz.ntmps141
  go_wp2_with fail
  refine (traceMay _ s v _ _ ds vs _ ?hds ?hvs hvs HVS.out).mono ?_
  case hds => exact HD.out.fr0 (((Fr.refl [] w).alloc _).alloc _)
  case hvs => exact HV.out.fr0 (((Fr.refl [] w).alloc _).alloc _)
  rw [HE.out]
  rintro e w1 ⟨rfl, h1⟩
  go_wp2
  go_ret
  exact ⟨rfl, (((Fr.refl [] w).alloc _).alloc _).transS h1⟩

/-- What Keep answers, and what it makes of the traces. -/
def keepE (s : Sp) (v : V) (ds : List Sp) (vs : List V) (m : List (Sp × Tr)) : Int := if mayE s v ds vs = 0 then setE s m else mayE s v ds vs
def keepL (dd : Int) (s : Sp) (v : V) (ds : List Sp) (vs : List V) (m : List (Sp × Tr)) : List (Sp × Tr) := if keepE s v ds vs m = 0 then putS s ⟨v, ensOf dd ds vs⟩ m else m

theorem setE_match {w : World} {l : List (Sp × Seen)} {m : List (Sp × Tr)} (h : Match w l m) (s : Sp) : setE s l = setE s m := by
  unfold setE
  rw [h.len]
  rcases h.get s with ⟨h1, h2⟩ | ⟨x, t, h1, h2, _⟩ <;> rw [h1, h2] <;> rfl

theorem traceKeep (p tb mb : Nat) (dd : Int) (s : Sp) (v : V) (x y : Value) (ds : List Sp) (vs : List V) (m : List (Sp × Tr)) (w : World) (h : StIs w p tb mb dd m) (hd : SpotsAt w x ds) (hv : ValsAt w y vs)
    (hvs : v.s.size ≤ 9223372036854775807) (hvss : ∀ x ∈ vs, x.s.size ≤ 9223372036854775807) :
    Calls Tryz.prog 141 #[.pointer (some ⟨p, 0, none⟩), spV s, v.val, x, y] w fun e w1 => e = .returned (.int .i64 (keepE s v ds vs m)) ∧ StIs w1 p tb mb dd (keepL dd s v ds vs m) ∧ Fr [tb, mb] w w1 := by
  have hnE := h.notE
  have hS := h
  obtain ⟨hst, hwd, ls, hT, hM⟩ := h
  have hpt : p ∉ [tb, mb] := by
    intro hm
    simp only [List.mem_cons, List.not_mem_nil, or_false] at hm
    rcases hm with rfl | rfl
    · rw [hT.tab] at hst
      injection hst with hst
      injection hst with h1 h2 h3
      cases h2
    · obtain ⟨es, clock, hm, _⟩ := hT.map
      rw [hm] at hst
      cases hst
  by_cases hm : mayE s v ds vs = 0
  · obtain ⟨da, c, rfl, _, _⟩ := hd.form
    obtain ⟨va, vc, rfl, _, _⟩ := hv.form
    refine (keep1 p tb mb dd s v da va c vc ds vs ls w hwd.1 hwd.2 hst hd hv hvs hvss hm hT).mono ?_
    rintro e w1 ⟨rfl, q, n, cp, hT1, hown, hfr⟩
    have e1 : keepE s v ds vs m = setE s ls := by rw [keepE, if_pos hm, setE_match hM]
    have hM1 := hM.fr hfr hnE
    refine ⟨by rw [e1], ⟨hfr.heap hst hpt, hwd, _, hT1, ?_⟩, hfr⟩
    unfold setL keepL
    rw [e1]
    split
    · refine hM1.put s ⟨rfl, ?_, ?_⟩
      · rcases hown.2 with ⟨e, h0⟩ | ⟨g, cap, cur, e, _⟩
        · cases e
          rw [ensOf_len (mayE_zero hm).2.1, h0]
        · cases e
          exact (ensOf_len (mayE_zero hm).2.1).symm
      · have e2 : n = ds.length := by
          rcases hown.2 with ⟨e, h0⟩ | ⟨g, cap, cur, e, _⟩
          · cases e
            exact h0.symm
          · cases e
            rfl
        subst e2
        exact owns_mono hown (Nat.zero_le _)
    · exact hM1
  · refine (keep0 _ s v x y ds vs w hd hv hvs hvss (by simpa using hm)).mono ?_
    rintro e w1 ⟨rfl, h1⟩
    have e1 : keepE s v ds vs m = mayE s v ds vs := by rw [keepE, if_neg hm]
    refine ⟨by rw [e1], ?_, h1.mono (by simp)⟩
    unfold keepL
    rw [e1, if_neg hm]
    exact hS.fr0 h1

def en0 : En := ⟨(0, 0), ⟨0, 0, ⟨#[]⟩⟩, 0⟩
/-- What entry gives of a trace, if there is one. -/
def entO (o : Option Tr) (i : Int) : En × Int :=
  match o with
  | none => (en0, 3)
  | some t => if 0 ≤ i ∧ i < (t.es.length : Int) then (t.es.getD i.toNat en0, 0) else (en0, 1)
abbrev En.val (e : En) : Value := .agg #[.int .i64 e.at_.1, .int .i64 e.at_.2, .int .i64 e.v.k, .int .i64 e.v.n, .string e.v.s, .int .u64 e.sum]

set_option maxRecDepth 100000 in
set_option maxHeartbeats 1600000 in
theorem entryT (p tb mb : Nat) (dd : Int) (s : Sp) (i : Int) (ls : List (Sp × Seen)) (o : Option Tr) (w : World) (hst : w.heap[p]? = some (.cells #[.int .i64 dd, .pointer (some ⟨tb, 0, none⟩)] 140 (0, 0))) (hT : TabIs tT Seen.val w tb mb ls) (ho1 : (getS s ls).isSome = o.isSome) (ho2 : ∀ x t, getS s ls = some x → o = some t → SeenIs w x t) (hi1 : -9223372036854775808 ≤ i) (hi2 : i ≤ 9223372036854775807) :
    Calls Tryz.prog 196 #[.pointer (some ⟨p, 0, none⟩), spV s, .int .i64 i] w fun e w1 => e = .returned (.tuple #[(entO o i).1.val, .int .i64 (entO o i).2]) ∧ Fr [] w w1 := by
  have hp1 := cell_of hst 1
  have hpl := lt_of hst
  have hpl1 : ∀ k, p < w.heap.size + k := fun k => by omega
  have HT := Lib.hid hT
  obtain ⟨x, hx⟩ : ∃ x, (getS s ls).getD seen0 = x := ⟨_, rfl⟩
  obtain ⟨ok, ho⟩ : ∃ ok, (getS s ls).isSome = ok := ⟨_, rfl⟩
  have HX := Lib.hid hx
  have HO := Lib.hid ho
  have HSI : Hid (ok = true → ∃ t, o = some t ∧ SeenIs w x t) := by
    intro hk
    rw [← ho] at hk
    obtain ⟨y, hy⟩ := Option.isSome_iff_exists.1 hk
    obtain ⟨t, ht⟩ := Option.isSome_iff_exists.1 (ho1 ▸ hk)
    rw [hy] at hx
    cases hx
    exact ⟨t, ht, ho2 _ t hy ht⟩
  have HNO : Hid (ok = false → o = none) := by
    intro hk
    rw [← ho, ho1] at hk
    simpa using hk
  clear hT hst hx ho ho1 ho2
  go_enter Tryz.func196, Tryz.ntmps196
  go_wp2_with fail
  have hW : Fr [] w ((w.alloc (.cells #[.int .i64 s.1, .int .i64 s.2] 33)).alloc (.cells #[.int .i64 0, .int .i64 0, .int .i64 0, .int .i64 0, .string ⟨#[]⟩, .int .u64 0] tE)) := ((Fr.refl [] w).alloc _).alloc _
  have hb1 := ((Fr.refl [] _).alloc (.cells #[.int .i64 0, .int .i64 0, .int .i64 0, .int .i64 0, .string ⟨#[]⟩, .int .u64 0] tE)).heap (heap_new w (.cells #[.int .i64 s.1, .int .i64 s.2] 33)) (by simp)
  have hb2 := heap_new (w.alloc (.cells #[.int .i64 s.1, .int .i64 s.2] 33)) (.cells #[.int .i64 0, .int .i64 0, .int .i64 0, .int .i64 0, .string ⟨#[]⟩, .int .u64 0] tE)
  rw [World.size_alloc] at hb2
  have hp1 : (_ : World).cell? ⟨p, 1, none⟩ = some (.pointer (some ⟨tb, 0, none⟩)) := (hW.cell (p := ⟨p, 1, none⟩) hpl (by simp)).trans hp1
  have hpW := Nat.lt_of_lt_of_le hpl hW.size
  have hTW := Lib.hid (HT.out.fr hW (by simp) (by simp))
  generalize (w.alloc (.cells #[.int .i64 s.1, .int .i64 s.2] 33)).alloc (.cells #[.int .i64 0, .int .i64 0, .int .i64 0, .int .i64 0, .string ⟨#[]⟩, .int .u64 0] tE) = W at *
  have hB := lt_of hb2
  have hB0 := lt_of hb1
  have hbc0 : W.cell? ⟨w.heap.size, 0, none⟩ = some (.int .i64 s.1) := cell_of hb1 0
  have hbc1 : W.cell? ⟨w.heap.size, 1, none⟩ = some (.int .i64 s.2) := cell_of hb1 1
  have HB1 := Lib.hid hb1
  have HB2 := Lib.hid hb2
  generalize hBe : w.heap.size = B at *
  have HBe := Lib.hid hBe
  clear hBe hpl hpl1 hb1 hb2
  have hnp : W.heap.size ≠ p := by omega
  have hnB : W.heap.size ≠ B := by omega
  go_cut [8, 9] (fun s8 s9 wx => s9 = .bool ok ∧ ∃ D, s8 = .pointer (some ⟨D, 0, none⟩) ∧ wx.heap[D]? = some (.cells #[.int .i64 x.v.k, .int .i64 x.v.n, .string x.v.s, .slice x.p x.n x.c] 138 (0, 0)) ∧ Fr [] W wx)
  case first =>
    go_region_held3 (fun u => u.cell? ⟨p, 1, none⟩ = some (.pointer (some ⟨tb, 0, none⟩)) ∧ u.cell? ⟨B, 0, none⟩ = some (.int .i64 s.1) ∧ u.cell? ⟨B, 1, none⟩ = some (.int .i64 s.2))
      (((try dsimp only); refine ⟨?_, ?_, ?_⟩ <;> ((try rw [World.cell?_drew]); first | with_reducible exact hp1 | with_reducible exact hbc0 | with_reducible exact hbc1 | with_reducible exact (al hpW).trans hp1 | with_reducible exact (al hB0).trans hbc0 | with_reducible exact (al hB0).trans hbc1 | with_reducible exact hS3.1 | with_reducible exact hS3.2.1 | with_reducible exact hS3.2.2 | with_reducible exact (al hpw3).trans hS3.1 | with_reducible exact (al hBw3).trans hS3.2.1 | with_reducible exact (al hBw3).trans hS3.2.2 | with_reducible exact (st1 hnp).trans ((st1 hnp).trans ((st1 hnp).trans ((st1 hnp).trans hS3.1))) | with_reducible exact (st1 hnB).trans ((st1 hnB).trans ((st1 hnB).trans ((st1 hnB).trans hS3.2.1))) | with_reducible exact (st1 hnB).trans ((st1 hnB).trans ((st1 hnB).trans ((st1 hnB).trans hS3.2.2))))))
      ((go_at_call 70; refine (getT tb mb s ls _ (by first | exact hTW.out.fr ((Fr.refl [] W).drew) (by simp) (by simp) | exact hTW.out.fr (((Fr.refl [] W).alloc _).drew) (by simp) (by simp))).mono ?_; rw [HX.out, HO.out]; rintro e w3 ⟨rfl, h3⟩; (try (have hbn := h3.heap (show ((W.alloc (.cells #[.int .i64 0, .int .i64 0, .string ⟨#[]⟩, .slice none 0 0] 138)).drew).heap[W.heap.size]? = _ from heap_new W _) (by simp); have hbnc := cell_of hbn; have hbnf := free_of hbn; have hbnl := lt_of hbn)); have h4 : Fr [] W w3 := (by first | exact ((Fr.refl [] W).drew).transS h3 | exact (((Fr.refl [] W).alloc _).drew).transS h3); have hpw3 : p < w3.heap.size := Nat.lt_of_lt_of_le hpW h4.size; have hBw3 : B < w3.heap.size := Nat.lt_of_lt_of_le hB0 h4.size; have hS3 : w3.cell? ⟨p, 1, none⟩ = some (.pointer (some ⟨tb, 0, none⟩)) ∧ w3.cell? ⟨B, 0, none⟩ = some (.int .i64 s.1) ∧ w3.cell? ⟨B, 1, none⟩ = some (.int .i64 s.2) := ⟨(h4.cell (p := ⟨p, 1, none⟩) hpW (by simp)).trans hp1, (h4.cell (p := ⟨B, 0, none⟩) hB0 (by simp)).trans hbc0, (h4.cell (p := ⟨B, 1, none⟩) hB0 (by simp)).trans hbc1⟩))
    all_goals
      go_wp2_with fail
      go_meet
    · exact ⟨rfl, _, rfl, heap_new _ _, h4.alloc _⟩
    · exact ⟨rfl, _, rfl, set_of (set_of (set_of (set_of hbn 0 _) 1 _) 2 _) 3 _, (((h4.setCell (.inr (Nat.le_refl _)) _).setCell (.inr (Nat.le_refl _)) _).setCell (.inr (Nat.le_refl _)) _).setCell (.inr (Nat.le_refl _)) _⟩
  case rest =>
    obtain ⟨rfl, D, rfl, hD, hWx⟩ := hcut
    have hb2x := hWx.heap HB2.out (by simp)
    have hB2c := cell_of hb2x
    have hB2f := free_of hb2x
    have hDc := cell_of hD 3
    have hfin : Fr [] w wc := hW.trans0 hWx
    cases ok with
    | false =>
      have hno := HNO.out rfl
      subst hno
      go_wp2
      refine bodyPost_ret (v := .tuple #[en0.val, .int .i64 3]) (by simp [results, Tryz.results196, go_sem, hB2c, en0]) rfl ⟨rfl, ?_⟩
      refine ((((((hfin.setCell ?_ _).setCell ?_ _).setCell ?_ _).setCell ?_ _).setCell ?_ _).setCell ?_ _)
      all_goals exact .inr (by rw [HBe.out]; simp)
    | true =>
      obtain ⟨t, rfl, hsi⟩ := HSI.out rfl
      have hn := hsi.n
      by_cases h0 : i < 0
      · have hE : entO (some t) i = (en0, 1) := by
          unfold entO
          dsimp only
          rw [if_neg (by omega)]
        clear hn hsi
        have HE := Lib.hid hE
        clear hE
        go_wp2
        refine bodyPost_ret (v := .tuple #[en0.val, .int .i64 1]) (by simp [results, Tryz.results196, go_sem, hB2c, en0]) rfl ⟨by rw [HE.out], ?_⟩
        refine ((((((hfin.setCell ?_ _).setCell ?_ _).setCell ?_ _).setCell ?_ _).setCell ?_ _).setCell ?_ _)
        all_goals exact .inr (by rw [HBe.out]; simp)
      · by_cases h1 : (x.n : Int) ≤ i
        · have hE : entO (some t) i = (en0, 1) := by
            unfold entO
            dsimp only
            rw [if_neg (by omega)]
          clear hn hsi
          have HE := Lib.hid hE
          clear hE
          go_wp2
          refine bodyPost_ret (v := .tuple #[en0.val, .int .i64 1]) (by simp [results, Tryz.results196, go_sem, hB2c, en0]) rfl ⟨by rw [HE.out], ?_⟩
          refine ((((((hfin.setCell ?_ _).setCell ?_ _).setCell ?_ _).setCell ?_ _).setCell ?_ _).setCell ?_ _)
          all_goals exact .inr (by rw [HBe.out]; simp)
        · obtain ⟨ii, rfl⟩ := Int.eq_ofNat_of_zero_le (by omega : 0 ≤ i)
          have hii : ii < t.es.length := by omega
          have hE : entO (some t) (ii : Int) = (t.es[ii], 0) := by
            unfold entO
            dsimp only
            rw [if_pos (by omega)]
            simp [hii]
          have hs2 := hsi.fr hfin (fun _ h => by simp at h)
          obtain ⟨g, cap, cur, e, _, hg, hnc, hcm, hcs, htk⟩ := owns_open hs2.row (by omega)
          injection e with e1 e2 e3
          have hc : ∀ j u, (enC t.es[ii])[j]? = some u → wc.cell? ⟨g, ii * 6 + j, none⟩ = some u := fun j u hu => take_cells hg htk (ii * 6 + j) u (by
            have hj : j < 6 := (List.getElem?_eq_some_iff.1 hu).1
            rw [flat_get enC 6 (fun _ => rfl) t.es ii j hii hj]
            exact hu)
          have c0 := hc 0 _ rfl
          have c1 := hc 1 _ rfl
          have c2 := hc 2 _ rfl
          have c3 := hc 3 _ rfl
          have c4 := hc 4 _ rfl
          have c5 := hc 5 _ rfl
          rw [Nat.add_zero] at c0
          have hnx : ii < x.n := by omega
          generalize t.es[ii] = en at *
          have HE := Lib.hid hE
          clear hE hc htk hcs hs2 hsi hn e2
          unfold maxLen at hcm
          go_wp2
          refine bodyPost_ret (v := .tuple #[en.val, .int .i64 0]) (by simp [results, Tryz.results196, go_sem, hB2c]) rfl ⟨by rw [HE.out], ?_⟩
          refine ((((((hfin.setCell ?_ _).setCell ?_ _).setCell ?_ _).setCell ?_ _).setCell ?_ _).setCell ?_ _)
          all_goals exact .inr (by rw [HBe.out]; simp)

theorem traceEntry (p tb mb : Nat) (dd : Int) (s : Sp) (i : Int) (m : List (Sp × Tr)) (w : World) (h : StIs w p tb mb dd m) (hi1 : -9223372036854775808 ≤ i) (hi2 : i ≤ 9223372036854775807) :
    Calls Tryz.prog 196 #[.pointer (some ⟨p, 0, none⟩), spV s, .int .i64 i] w fun e w1 => e = .returned (.tuple #[(entO (getS s m) i).1.val, .int .i64 (entO (getS s m) i).2]) ∧ Fr [] w w1 := by
  obtain ⟨hst, hwd, ls, hT, hM⟩ := h
  refine entryT p tb mb dd s i ls (getS s m) w hst hT ?_ ?_ hi1 hi2
  · rcases hM.get s with ⟨h1, h2⟩ | ⟨x, t, h1, h2, _⟩ <;> rw [h1, h2] <;> rfl
  · intro x t hx ht
    rcases hM.get s with ⟨h1, h2⟩ | ⟨x', t', h1, h2, h3⟩
    · rw [h1] at hx; cases hx
    · rw [h1] at hx
      rw [h2] at ht
      cases hx
      cases ht
      exact h3
end
section
open Go.RowKit Go.Shelf
attribute [local go_sem] Oper.semAt_some

theorem storeDrop (p tb mb : Nat) (dd : Int) (s : Sp) (m : List (Sp × Tr)) (w : World) (h : StIs w p tb mb dd m) :
    Calls Tryz.prog 88 #[.pointer (some ⟨p, 0, none⟩), spV s] w fun e w1 => e = .returned (.bool (getS s m).isSome) ∧ StIs w1 p tb mb dd (delS s m) ∧ Fr [tb, mb] w w1 := by
  have HH := Lib.hid h
  obtain ⟨hst, hwd, ls, hT, hM⟩ := h
  have hg : (getS s ls).isSome = (getS s m).isSome := by
    rcases hM.get s with ⟨h1, h2⟩ | ⟨x, t, h1, h2, _⟩ <;> rw [h1, h2] <;> rfl
  have c0 := cell_of hst 0
  have c1 := cell_of hst 1
  have hlt := lt_of hst
  have hlt1 : ∀ k, p < w.heap.size + k := fun k => by omega
  have Hst := Lib.hid hst
  clear hst
  have hpn : p ∉ [tb, mb] := by
    intro hm
    obtain ⟨_, _, ls', ⟨ht, es, clock, hb, _⟩, _⟩ := HH.out
    simp only [List.mem_cons, List.not_mem_nil, or_false] at hm
    have h0 := Hst.out
    rcases hm with rfl | rfl
    · rw [ht] at h0
      injection h0 with h0
      injection h0 with h1 h2 h3
      cases h2
    · rw [hb] at h0
      cases h0
  go_enter Tryz.func88, Tryz.ntmps88
  go_wp2_with fail
  have hW : Fr [] w (w.alloc (.cells #[.int .i64 s.1, .int .i64 s.2] 33)) := (Fr.refl [] w).alloc _
  have hb1 := heap_new w (.cells #[.int .i64 s.1, .int .i64 s.2] 33)
  have hTW := Lib.hid (hT.fr hW (by simp) (by simp))
  have htl := lt_of hT.tab
  have hml := hT.map.lt
  have hp1 : (_ : World).cell? ⟨p, 1, none⟩ = some (.pointer (some ⟨tb, 0, none⟩)) := (hW.cell (p := ⟨p, 1, none⟩) hlt (by simp)).trans c1
  have hpW := Nat.lt_of_lt_of_le hlt hW.size
  clear c0 c1 hlt1
  generalize w.alloc (.cells #[.int .i64 s.1, .int .i64 s.2] 33) = W at *
  have hB0 := lt_of hb1
  have hbc0 : W.cell? ⟨w.heap.size, 0, none⟩ = some (.int .i64 s.1) := cell_of hb1 0
  have hbc1 : W.cell? ⟨w.heap.size, 1, none⟩ = some (.int .i64 s.2) := cell_of hb1 1
  obtain ⟨B, hB⟩ : ∃ B, w.heap.size = B := ⟨_, rfl⟩
  rw [hB] at hbc0 hbc1 hB0 hb1 hlt htl hml ⊢
  go_region_held3 (fun u => u.cell? ⟨p, 1, none⟩ = some (.pointer (some ⟨tb, 0, none⟩)) ∧ u.cell? ⟨B, 0, none⟩ = some (.int .i64 s.1) ∧ u.cell? ⟨B, 1, none⟩ = some (.int .i64 s.2))
    (first | exact ⟨hp1, hbc0, hbc1⟩ | exact hS)
    ((go_at_call 126; refine (drop_Seen tb mb s ls _ (hTW.out.fr ((Fr.refl [] W).drew) (by simp) (by simp))).mono ?_; rintro e w1 ⟨rfl, hT1, h1⟩; have h1 := (((Fr.refl [tb, mb] W).drew)).transS h1; have hS : w1.cell? ⟨p, 1, none⟩ = some (.pointer (some ⟨tb, 0, none⟩)) ∧ w1.cell? ⟨B, 0, none⟩ = some (.int .i64 s.1) ∧ w1.cell? ⟨B, 1, none⟩ = some (.int .i64 s.2) := ⟨(h1.cell (p := ⟨p, 1, none⟩) hpW hpn).trans hp1, (h1.cell (p := ⟨B, 0, none⟩) hB0 (by simp; omega)).trans hbc0, (h1.cell (p := ⟨B, 1, none⟩) hB0 (by simp; omega)).trans hbc1⟩))
  have hF : Fr [tb, mb] w w1 := (hW.mono (by simp)).transS h1
  have hS : StIs w1 p tb mb dd (delS s m) := ⟨hF.heap Hst.out hpn, hwd, _, hT1, (hM.del s).fr hF HH.out.notE⟩
  have HS := Lib.hid hS
  clear hS hT hM hT1
  go_wp2
  go_ret
  exact ⟨rfl, HS.out, hF⟩

/-- What the store's table goes over, as places. -/
theorem rows_keys {α : Type} (z : α) (l : List (Sp × α)) (ss : List Sp) : (rowsS z (fun _ => true) l ss).map (·.1) = ss := by
  unfold rowsS
  rw [List.filter_eq_self.2 (fun _ _ => rfl), List.map_map]
  exact List.map_id _

abbrev keyC {R : List (Sp × Seen)} (x : {x // x ∈ R}) : List Value := spC x.1.1

set_option maxRecDepth 100000 in
set_option maxHeartbeats 3200000 in
theorem storeAll_in (p tb mb : Nat) (dd : Int) (m : List (Sp × Tr)) (w : World) (h : StIs w p tb mb dd m) (hl : m.length ≤ 65536) :
    CallsIn Fence.wide 5 Tryz.prog 89 #[.pointer (some ⟨p, 0, none⟩)] w fun e w1 => ∃ v, e = .returned v ∧
      w1.ownsRow w.heap.size 33 2 v (sortS (m.map (·.1))).length ((sortS (m.map (·.1))).flatMap spC) ∧ Fr [] w w1 := by
  obtain ⟨i0, hi, hz0, hz1, hz2⟩ := info_parts infoSpot
  obtain ⟨hst, hwd, ls, hT, hM⟩ := h
  have hll : ls.length ≤ 65536 := by rw [hM.len]; exact hl
  have hkeys := hM.keys
  have HT := Lib.hid hT
  have HLL := Lib.hid hll
  have HKEYS := Lib.hid hkeys
  have c1 := cell_of hst 1
  have hlt := lt_of hst
  have hlt1 : ∀ k, p < w.heap.size + k := fun k => by omega
  clear hM hT hll hkeys hl hwd hst
  refine callsIn_of_wp_marks Tryz.func89 rfl trivial ?_ rfl
  simp only [Tryz.ntmps89, List.size_toArray, List.length_cons, List.length_nil, Nat.reduceAdd, Nat.reduceSub, Array.replicate_succ, Array.replicate_zero, List.push_toArray, List.append_toArray, List.nil_append, List.cons_append]
  gi_wp2_with fail
  refine ⟨trivial, ?_⟩
  gi_at_call 127
  refine (callsIn_wide.2 (all_Seen tb mb ls _ (HT.out.fr ((Fr.refl [] w).alloc _) (by simp) (by simp)) HLL.out)).mono ?_
  rintro e w1 ⟨B, rv, rfl, hI, h1⟩
  have hlb := h1.heap (heap_new w (.cells #[.slice none 0 0] 28)) (by simp)
  have hf1 : Fr [] w w1 := ((Fr.refl [] w).alloc _).trans0 h1
  have hsz : (w.alloc (.cells #[.slice none 0 0] 28)).heap.size = w.heap.size + 1 := by simp
  rw [hsz] at hI
  have hRk := rows_keys seen0 ls (sortS (ls.map (·.1)))
  have hRl : (rowsS seen0 (fun _ => true) ls (sortS (ls.map (·.1)))).length ≤ 65536 := by
    refine Nat.le_trans (rowsS_le _ _ _ _) ?_
    rw [(sortS_perm _).length_eq, List.length_map]
    exact HLL.out
  generalize rowsS seen0 (fun _ => true) ls (sortS (ls.map (·.1))) = R at *
  rw [HKEYS.out] at hRk
  have HRK := Lib.hid hRk
  have HRL := Lib.hid hRl
  have HI := Lib.hid hI
  have hbl := lt_of hlb
  have hIlt := hI.lt
  have hwz := hf1.size
  clear h1 hI hsz hRk hRl
  gi_wp2
  have hB0 : Boxed w1 w.heap.size 28 (.slice none 0 0) := hlb
  refine range_iterK rfl (by omega) (gf := 239) (lb := #[.pointer (some ⟨B, 0, none⟩)]) rfl trivial (enters_of Tryz.func239 (by kernel_rfl) rfl) [w.heap.size]
    (overK_Seen 4 (by omega) B rv R _ (fun W W' hk hr => RIs.kept HI.out.own (Nat.le_refl _) (by intro g hg; rw [List.mem_singleton] at hg; subst hg; intro e; have := (HI.out.own.lt _ e).1; omega) hk hr) w1 HI.out.box hIlt (RIs.of_owns HI.out.own) (by have := HRL.out; omega)) (fun _ => rfl)
    (fun pre W => ∃ v, Boxed W w.heap.size 28 v ∧ W.ownsRow w1.heap.size 33 2 v pre.length (pre.flatMap keyC) ∧ True) (fun _ _ _ => False)
    (Own.from (holdsRow_own w1.heap.size w.heap.size 28 33 2 (fun pre : List {x // x ∈ R} => pre.length) (fun pre => pre.flatMap keyC) (fun _ _ => True)) _) (fun _ _ _ _ _ h _ _ => h) ⟨_, hB0, World.ownsRow_nil _ _ _ _, trivial⟩ ?_ ?_ ?_
  · intro l pre x W hJ hf
    gi_wp2
    have h0 := (Fr.refl [] W).alloc (.cells #[.int .i64 x.val.1.1, .int .i64 x.val.1.2] 33)
    have hJ2 := hJ
    obtain ⟨v, hv, hrow, _⟩ := hJ2
    refine ⟨h0, ⟨v, hv.alloc _, hrow.alloc _, trivial⟩, ?_⟩
    have hat0 := heap_new W (.cells #[.int .i64 x.1.1.1, .int .i64 x.1.1.2] 33)
    intro l2 pre2 W2 hrel hl2 hr2 hJ2 hf2 hlt2
    have hat := hrel.block hat0
    clear hat0 hrel hJ hv hrow h0
    generalize W.heap.size = A at *
    obtain ⟨v, hv, hrow, _⟩ := hJ2
    have hc := hv.cell
    have x0 : W2.cell? ⟨A, 0, none⟩ = some (.int .i64 x.1.1.1) := cell_of hat 0
    have x1 : W2.cell? ⟨A, 1, none⟩ = some (.int .i64 x.1.1.2) := cell_of hat 1
    have hlN : pre2.length < 70000 := by have := HRL.out; omega
    have hf2z := hf2.size
    have happ := fun (w3 : World) (v' : Value) (h1 : w3.ownsRow w1.heap.size 33 2 v' (pre2.length + 1) (pre2.flatMap keyC ++ keyC x)) (h2 : (W2.alloc (.cells #[.int .i64 x.1.1.1, .int .i64 x.1.1.2] 33)).grownBy w3 v.ownBlock) =>
      Boxed.app (t := 28) (e := 33) hv (by decide) hrow hf2z h1 h2
    gi_wp2_with (gi_at_builtin; refine wpListIn_append_own _ rfl _ _ 28 rfl w1.heap.size 33 i0 _ 2 16 Tryz.underlying28 hi hz0 hz1 hz2 rfl (by decide) _ _ _ rfl (hrow.alloc _) ⟨W2.heap.size, 0, none⟩ 1 1 (keyC x) rfl rfl (news_of _ _ _) (by simp [Value.oneCell', keyC]) (by unfold maxLen; omega) (by omega) (by simp; omega) ?_; intro v' w3 hown' hgrow _; obtain ⟨g', cap', rfl⟩ := ownsRow_succ hown'; obtain ⟨hv1, hv2, hr2, hk2, hb2⟩ := happ _ _ hown' hgrow; have hc1 := hv1.cell; have hf1 := hv1.frozen)
    exact ⟨hk2, hb2, ⟨_, hv2, by simpa using hr2, trivial⟩⟩
  · intro D xs W hD hS ⟨v, hv, hrow, _⟩ hf hK
    have hc := hv.cell
    gi_wp2
    refine ⟨by simp, .inl ⟨_, _, rfl, run_takeDeferred hK, ?_⟩⟩
    have hx : xs.flatMap keyC = (sortS (m.map (·.1))).flatMap spC := by
      rw [← HRK.out]
      have e : R.map (·.1) = xs.map (·.1.1) := by
        have := congrArg (List.map (·.1)) (show xs.map (fun x : {x // x ∈ R} => x.1) = R from hS)
        rw [← this, List.map_map]
        rfl
      rw [e]
      simp [List.flatMap_map]
    have hn : xs.length = (sortS (m.map (·.1))).length := by
      have e : (xs.map (·.1)).length = R.length := by rw [show xs.map (·.1) = R from hS]
      rw [← HRK.out]
      simpa using e
    rw [hx, hn] at hrow
    exact ⟨_, results_tmp rfl _ _ _, v, rfl, owns_mono (ownsRow_putObj hrow _ hK rfl) hwz, (hf1.trans hf (by simp)).putObj (by omega) _⟩
  · intro D c pre W _ _ h _
    exact h.elim

theorem storeAll (p tb mb : Nat) (dd : Int) (m : List (Sp × Tr)) (w : World) (h : StIs w p tb mb dd m) (hl : m.length ≤ 65536) :
    Calls Tryz.prog 89 #[.pointer (some ⟨p, 0, none⟩)] w fun e w1 => ∃ v, e = .returned v ∧
      w1.ownsRow w.heap.size 33 2 v (sortS (m.map (·.1))).length ((sortS (m.map (·.1))).flatMap spC) ∧ Fr [] w w1 := callsIn_wide.1 (storeAll_in p tb mb dd m w h hl)
end
end Go.Proofs.YtnmkhoebijodhaaGreatDoor
