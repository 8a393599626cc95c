/-
  Contract of trace.Store.may.
-/
import Derived.Test.YtnmkhoebijodhaaGreatDoorGrid
import Derived.Test.YtnmkhoebijodhaaGreatDoorSlice
namespace Go.Proofs.YtnmkhoebijodhaaGreatDoor
open Go.RowKit

abbrev vC (v : V) : List Value := [.int .i64 v.k, .int .i64 v.n, .string v.s]
abbrev SpotsAt (w : World) (v : Value) (ds : List Sp) : Prop := SlAt w v 2 ds.length (ds.flatMap spC)
abbrev ValsAt (w : World) (v : Value) (vs : List V) : Prop := SlAt w v 3 vs.length (vs.flatMap vC)

/-- Where the things lie, if there are any. -/
def DepsIn (w : World) (da : Option Addr) (ds : List Sp) : Prop := 0 < ds.length → ∃ b off, da = some ⟨b, off, none⟩ ∧ b < w.heap.size ∧
  ∀ k, (hk : k < ds.length) → w.cell? ⟨b, off + k * 2, none⟩ = some (.int .i64 ds[k].1) ∧ w.cell? ⟨b, off + k * 2 + 1, none⟩ = some (.int .i64 ds[k].2)
def ValsIn (w : World) (va : Option Addr) (vs : List V) : Prop := 0 < vs.length → ∃ b off, va = some ⟨b, off, none⟩ ∧ b < w.heap.size ∧
  ∀ k, (hk : k < vs.length) → w.cell? ⟨b, off + k * 3, none⟩ = some (.int .i64 vs[k].k) ∧ w.cell? ⟨b, off + k * 3 + 1, none⟩ = some (.int .i64 vs[k].n) ∧ w.cell? ⟨b, off + k * 3 + 2, none⟩ = some (.string vs[k].s)

theorem SlAt.deps {w : World} {da : Option Addr} {n c : Nat} {ds : List Sp} (h : SpotsAt w (.slice da n c) ds) : n = ds.length ∧ n ≤ c ∧ c ≤ 9223372036854775807 ∧ DepsIn w da ds := by
  obtain ⟨a, c', e, h1, h2⟩ := h.form
  cases e
  refine ⟨rfl, h1, h2, fun hn => ?_⟩
  obtain ⟨b, off, c, e, hb, hc⟩ := h.cell hn
  cases e
  refine ⟨b, off, rfl, hb, fun k hk => ⟨?_, ?_⟩⟩
  · exact hc (k * 2) _ (by have := flat_get spC 2 (fun _ => rfl) ds k 0 hk (by omega); simpa using this)
  · rw [Nat.add_assoc]
    exact hc (k * 2 + 1) _ (by have := flat_get spC 2 (fun _ => rfl) ds k 1 hk (by omega); simpa using this)
theorem SlAt.vals {w : World} {da : Option Addr} {n c : Nat} {vs : List V} (h : ValsAt w (.slice da n c) vs) : n = vs.length ∧ n ≤ c ∧ c ≤ 9223372036854775807 ∧ ValsIn w da vs := by
  obtain ⟨a, c', e, h1, h2⟩ := h.form
  cases e
  refine ⟨rfl, h1, h2, fun hn => ?_⟩
  obtain ⟨b, off, c, e, hb, hc⟩ := h.cell hn
  cases e
  refine ⟨b, off, rfl, hb, fun k hk => ⟨?_, ?_, ?_⟩⟩
  · exact hc (k * 3) _ (by have := flat_get vC 3 (fun _ => rfl) vs k 0 hk (by omega); simpa using this)
  · rw [Nat.add_assoc]
    exact hc (k * 3 + 1) _ (by have := flat_get vC 3 (fun _ => rfl) vs k 1 hk (by omega); simpa using this)
  · rw [Nat.add_assoc]
    exact hc (k * 3 + 2) _ (by have := flat_get vC 3 (fun _ => rfl) vs k 2 hk (by omega); simpa using this)

theorem take_one {α : Type} (l : List α) (k : Nat) (h : k < l.length) : l.take (k + 1) = l.take k ++ [l[k]] := List.take_succ_eq_append_getElem h
theorem dup_snoc (l : List Sp) (d : Sp) : decide (¬ (l ++ [d]).Nodup) = (decide (¬ l.Nodup) || decide (d ∈ l)) := by
  by_cases h1 : l.Nodup
  · by_cases h2 : d ∈ l
    · simp [List.nodup_append, h1, h2]
      exact ⟨_, _, h2, rfl⟩
    · simp [List.nodup_append, h1, h2]
      intro a b hab e
      exact h2 (e ▸ hab)
  · simp [List.nodup_append, h1]

/-- What is kept of the places that have come. -/
def Known (pre : List Sp) (l : List (Sp × Value)) : Prop := ∀ d, getS d l = if d ∈ pre then some (.bool true) else none
theorem Known.nil : Known [] [] := fun _ => rfl
theorem Known.snoc {pre : List Sp} {l : List (Sp × Value)} (h : Known pre l) (d : Sp) : Known (pre ++ [d]) (putS d (.bool true) l) := by
  intro x
  rw [getS_put, h x]
  by_cases hx : x = d
  · simp [hx]
  · simp [hx]

/-- What may answers. -/
def mayE (s : Sp) (v : V) (ds : List Sp) (vs : List V) : Int :=
  if mayS s.1 s.2 = false ∨ (∃ d ∈ ds, mayS d.1 d.2 = false) then 10
  else if ¬ ds.Nodup ∨ ds.length ≠ vs.length then 1
  else if ds.length > 65536 then 2
  else if mayV v = false ∨ (∃ x ∈ vs, mayV x = false) then 24
  else 0

theorem zeroBool (w : World) : (zeroValue 4).run Tryz.prog w = .ok (.bool false) w := by kernel_rfl

/-- What the first loop has seen to. -/
structure L1 (ds : List Sp) (kb : Nat) (W : World) (k : Nat) (t : Value) (wr : World) : Prop where
  le : k ≤ ds.length
  fr : Fr [kb] W wr
  may : ∀ d ∈ ds.take k, mayS d.1 d.2 = true
  dup : t = .bool (decide (¬ (ds.take k).Nodup))
  map : ∃ l, MapIs wr kb l ∧ Known (ds.take k) l

set_option maxRecDepth 100000 in
set_option maxHeartbeats 3200000 in
theorem may1 (p : Value) (s : Sp) (v : V) (da va : Option Addr) (c vc : Nat) (ds : List Sp) (vs : List V) (w : World) (hc1 : ds.length ≤ c) (hc2 : c ≤ 9223372036854775807) (hc3 : vs.length ≤ vc) (hc4 : vc ≤ 9223372036854775807)
    (hcell : DepsIn w da ds) (hvcell : ValsIn w va vs) (hvs : v.s.size ≤ 9223372036854775807) (hvss : ∀ x ∈ vs, x.s.size ≤ 9223372036854775807) (hs : mayS s.1 s.2 = true) :
    Calls Tryz.prog 205 #[p, spV s, v.val, .slice da ds.length c, .slice va vs.length vc] w fun e w1 => e = .returned (.int .i64 (mayE s v ds vs)) ∧ Fr [] w w1 := by
  have H := Lib.hid hs
  have HC := Lib.hid hcell
  have HV := Lib.hid hvcell
  have HVS := Lib.hid hvss
  clear hs hcell hvcell hvss
  have hmm := @run_makeMap Tryz.prog
  go_enter Tryz.func205, Tryz.ntmps205
  go_wp2_with fail
  refine (spotMay _ _ _).mono ?_
  rw [H.out]
  rintro e w1 ⟨rfl, h1⟩
  obtain ⟨h2, hb1, hb2, hz⟩ := h1.new2 (by simp)
  clear h1
  go_wp2_with fail
  have hW1 : Fr [] w (w1.alloc (.map #[] 0)) := h2.alloc _
  have hbox1 := Lib.hid (((Fr.refl [] w1).alloc (.map #[] 0)).heap hb1 (by simp))
  have hbox2 := Lib.hid (((Fr.refl [] w1).alloc (.map #[] 0)).heap hb2 (by simp))
  have hm0 := MapIs.made w1
  have hkb : w.heap.size + 1 < w1.heap.size := by omega
  generalize w1.alloc (.map #[] 0) = W at *
  generalize w1.heap.size = kb at *
  clear hb1 hb2 hz
  go_loopw [12, 14, 23] (fun t _ i wr => ∃ k : Nat, i = .int .i64 (k : Int) ∧ L1 ds kb W k t wr) (fun _ _ i _ => ds.length - (intOf i).toNat)
  case atStart => exact ⟨0, rfl, by omega, Fr.refl _ _, by simp, by simp, [], hm0, by simpa using Known.nil⟩
  case round =>
    obtain ⟨k, rfl, hk, hfr, hmay, rfl, l, hmap, hkn⟩ := hrel
    by_cases hlt : k < ds.length
    · obtain ⟨b, off, rfl, hb, hcl⟩ := HC.out (by omega)
      obtain ⟨hd1, hd2⟩ := hcl k hlt
      clear hcl
      have hbW : b < W.heap.size := Nat.lt_of_lt_of_le hb hW1.size
      have hne : b ∉ [kb] := by simp; omega
      have hc1 : wr.cell? ⟨b, off + k * 2, none⟩ = some (.int .i64 ds[k].1) := ((hfr.cell (p := ⟨b, off + k * 2, none⟩) hbW hne).trans (hW1.cell (p := ⟨b, off + k * 2, none⟩) hb (by simp))).trans hd1
      have hc2 : wr.cell? ⟨b, off + k * 2 + 1, none⟩ = some (.int .i64 ds[k].2) := ((hfr.cell (p := ⟨b, off + k * 2 + 1, none⟩) hbW hne).trans (hW1.cell (p := ⟨b, off + k * 2 + 1, none⟩) hb (by simp))).trans hd2
      clear hd1 hd2
      have ht := Lib.hid (take_one ds k hlt)
      generalize ds[k] = d at *
      obtain ⟨es, clock, hme, hpe, hst, hnd⟩ := hmap
      have hlook : ∀ W : World, ob W kb = some (.map es clock) → (Instr.lookup 393 (.map (some kb)) (spV d) false).run Tryz.prog W = .ok (.bool (decide (d ∈ ds.take k))) W := by
        intro W hW
        rw [run_look (P := Tryz.prog) spotKey Tryz.underlying393 zeroBool hW hpe d false, hkn d]
        by_cases hx : d ∈ ds.take k <;> simp [hx]
      have hput := fun (W : World) (hW : ob W kb = some (.map es clock)) => run_put (P := Tryz.prog) spotKey Tryz.underlying393 hW hpe d (.bool true)
      have hds := Lib.hid (dup_snoc (ds.take k) d)
      go_wp2_with fail
      refine (spotMay _ _ _).mono ?_
      cases hd : mayS d.1 d.2 with
      | false =>
        have HD := Lib.hid hd
        clear hd hlook hput
        rintro e w2 ⟨rfl, h3⟩
        go_wp2
        go_ret
        have e10 : mayE s v ds vs = 10 := by
          have hm : d ∈ ds.take (k + 1) := by rw [ht.out]; simp
          unfold mayE
          rw [if_pos (.inr ⟨d, List.mem_of_mem_take hm, HD.out⟩)]
        exact ⟨ret_int e10.symm, (hW1.trans hfr (by simp; omega)).trans0 (((Fr.refl [] wr).alloc _).transS h3)⟩
      | true =>
        have HD := Lib.hid hd
        clear hd
        rintro e w2 ⟨rfl, h3⟩
        obtain ⟨h4, hbx, hz4⟩ := h3.new1 (by simp)
        clear h3
        have hcb := cell_of hbx
        have hob : ob w2 kb = some (.map es clock) := h4.heap hme (by simp)
        cases hD : decide (¬ (ds.take k).Nodup) with
        | true =>
          rw [hD] at hds
          have HH := Lib.hid hD
          clear hD hlook
          go_wp2
          go_roundw
          case rel =>
            refine ⟨k + 1, by go_num, by omega, (hfr.trans0 h4).setBlock hob (.inl (by simp)) _, ?_, by rw [ht.out, hds.out]; rfl, putS d (.bool true) l, MapIs.put hob hpe hst hnd d _, by rw [ht.out]; exact hkn.snoc d⟩
            intro x hx
            rw [ht.out, List.mem_append, List.mem_singleton] at hx
            rcases hx with hx | rfl
            · exact hmay x hx
            · exact HD.out
          case measure => simp [intOf]; omega
        | false =>
          rw [hD] at hds
          have HH := Lib.hid hD
          clear hD
          go_wp2
          go_roundw
          case rel =>
            refine ⟨k + 1, by go_num, by omega, (hfr.trans0 h4).setBlock hob (.inl (by simp)) _, ?_, by rw [ht.out, hds.out]; simp, putS d (.bool true) l, MapIs.put hob hpe hst hnd d _, by rw [ht.out]; exact hkn.snoc d⟩
            intro x hx
            rw [ht.out, List.mem_append, List.mem_singleton] at hx
            rcases hx with hx | rfl
            · exact hmay x hx
            · exact HD.out
          case measure => simp [intOf]; omega
    · obtain rfl : k = ds.length := by omega
      rw [List.take_length] at hmay ⊢
      have hfrw : Fr [] w wr := hW1.trans hfr (by simp; omega)
      have hM := Lib.hid hmay
      clear hmay
      cases hD : decide (¬ ds.Nodup) with
      | true =>
        have HD := Lib.hid hD
        clear hD
        go_wp2
        go_ret
        have e1 : mayE s v ds vs = 1 := by
          unfold mayE
          rw [if_neg, if_pos (.inl (of_decide_eq_true HD.out))]
          rintro (h | ⟨d, hd, h⟩)
          · rw [H.out] at h; cases h
          · rw [hM.out d hd] at h; cases h
        exact ⟨ret_int e1.symm, hfrw⟩
      | false =>
        have HD := Lib.hid hD
        clear hD
        have e0 : ¬ (mayS s.1 s.2 = false ∨ (∃ d ∈ ds, mayS d.1 d.2 = false)) := by
          rintro (h | ⟨d, hd, h⟩)
          · rw [H.out] at h; cases h
          · rw [hM.out d hd] at h; cases h
        have hnd : ds.Nodup := by have := HD.out; simpa using this
        by_cases hlen : ds.length = vs.length
        · have hl1 : ((ds.length : Int) != (vs.length : Int)) = false := by rw [hlen]; simp
          by_cases hbig : ds.length > 65536
          · have hbg : (65536 : Int) < (ds.length : Int) := by omega
            go_wp2
            go_ret
            have e1 : mayE s v ds vs = 2 := by
              unfold mayE
              rw [if_neg e0, if_neg (by simp [hnd, hlen]), if_pos hbig]
            exact ⟨ret_int e1.symm, hfrw⟩
          · have hbg : ¬ (65536 : Int) < (ds.length : Int) := by omega
            have e1 : mayE s v ds vs = if mayV v = false ∨ (∃ x ∈ vs, mayV x = false) then 24 else 0 := by
              unfold mayE
              rw [if_neg e0, if_neg (by simp [hnd, hlen]), if_neg hbig]
            have E1 := Lib.hid e1
            have E0 := Lib.hid e0
            have ND := Lib.hid hnd
            clear e0 e1 hnd hlen
            have hbx := hfr.heap hbox2.out (by simp; omega)
            have hcb := cell_of hbx
            go_wp2_with fail
            refine (valueMay v _ hvs).mono ?_
            cases hmv : mayV v with
            | false =>
              have HMV := Lib.hid hmv
              clear hmv
              rintro e w2 ⟨rfl, h3⟩
              go_wp2
              go_ret
              exact ⟨ret_int (by rw [E1.out, if_pos (.inl HMV.out)]), hfrw.trans0 h3⟩
            | true =>
              have HMV := Lib.hid hmv
              clear hmv
              rintro e w2 ⟨rfl, h3⟩
              have hfr2 : Fr [] w w2 := hfrw.trans0 h3
              clear h3 hcb hbx
              clear hmap hkn hfr hfrw hm0 hbox1 hbox2
              go_wp2_with fail
              go_loopw [16, 55] (fun _ i wx => ∃ k : Nat, i = .int .i64 (k : Int) ∧ k ≤ vs.length ∧ Fr [] w wx ∧ ∀ x ∈ vs.take k, mayV x = true) (fun _ i _ => vs.length - (intOf i).toNat)
              case atStart => exact ⟨0, rfl, by omega, hfr2, by simp⟩
              case round =>
                obtain ⟨k, rfl, hk, hfx, hmay⟩ := hrel
                have HM := Lib.hid hmay
                clear hmay
                by_cases hltv : k < vs.length
                · obtain ⟨b, off, rfl, hb, hcl⟩ := HV.out (by omega)
                  obtain ⟨hd1, hd2, hd3⟩ := hcl k hltv
                  clear hcl
                  have hc1 := (hfx.cell (p := ⟨b, off + k * 3, none⟩) hb (by simp)).trans hd1
                  have hc2 := (hfx.cell (p := ⟨b, off + k * 3 + 1, none⟩) hb (by simp)).trans hd2
                  have hc3 := (hfx.cell (p := ⟨b, off + k * 3 + 2, none⟩) hb (by simp)).trans hd3
                  clear hd1 hd2 hd3
                  have ht := Lib.hid (List.take_succ_eq_append_getElem hltv)
                  have hsx := HVS.out vs[k] (List.getElem_mem hltv)
                  have hin := Lib.hid (List.getElem_mem hltv)
                  generalize vs[k] = x at *
                  go_wp2_with fail
                  refine (valueMay x _ hsx).mono ?_
                  cases hmx : mayV x with
                  | false =>
                    have HX := Lib.hid hmx
                    clear hmx
                    rintro e w3 ⟨rfl, h3⟩
                    go_wp2
                    go_ret
                    exact ⟨ret_int (by rw [E1.out, if_pos (.inr ⟨x, hin.out, HX.out⟩)]), hfx.trans0 (((Fr.refl [] _).alloc _).transS h3)⟩
                  | true =>
                    have HX := Lib.hid hmx
                    clear hmx
                    rintro e w3 ⟨rfl, h3⟩
                    go_wp2
                    go_roundw
                    case rel =>
                      refine ⟨k + 1, by go_num, by omega, hfx.trans0 (((Fr.refl [] _).alloc _).transS h3), ?_⟩
                      intro y hy
                      rw [ht.out, List.mem_append, List.mem_singleton] at hy
                      rcases hy with hy | rfl
                      · exact HM.out y hy
                      · exact HX.out
                    case measure => simp [intOf]; omega
                · obtain rfl : k = vs.length := by omega
                  go_wp2
                  go_ret
                  refine ⟨ret_int ?_, hfx⟩
                  rw [E1.out, if_neg]
                  rintro (h | ⟨x, hx, h⟩)
                  · rw [HMV.out] at h; cases h
                  · have := HM.out x (by rw [List.take_length]; exact hx)
                    rw [this] at h; cases h
        · have hl1 : ((ds.length : Int) != (vs.length : Int)) = true := by rw [bne_iff_ne]; omega
          go_wp2
          go_ret
          have e1 : mayE s v ds vs = 1 := by
            unfold mayE
            rw [if_neg e0, if_pos (.inr hlen)]
          exact ⟨ret_int e1.symm, hfrw⟩

set_option maxRecDepth 100000 in
theorem may0 (p : Value) (s : Sp) (v : V) (x y : Value) (w : World) (hs : mayS s.1 s.2 = false) :
    Calls Tryz.prog 205 #[p, spV s, v.val, x, y] w fun e w1 => e = .returned (.int .i64 10) ∧ Fr [] w w1 := by
  have H := Lib.hid hs
  clear hs
  go_enter Tryz.func205, Tryz.ntmps205
  go_wp2_with fail
  refine (spotMay _ _ _).mono ?_
  rw [H.out]
  rintro e w1 ⟨rfl, h1⟩
  go_wp2
  go_ret
  exact ⟨rfl, (((Fr.refl [] w).alloc _).alloc _).transS h1⟩

/-- trace.Store.may answers mayE and writes nothing. -/
theorem traceMay (p : Value) (s : Sp) (v : V) (x y : Value) (ds : List Sp) (vs : List V) (w : World) (hd : SpotsAt w x ds) (hv : ValsAt w y vs)
    (hvs : v.s.size ≤ 9223372036854775807) (hvss : ∀ x ∈ vs, x.s.size ≤ 9223372036854775807) :
    Calls Tryz.prog 205 #[p, spV s, v.val, x, y] w fun e w1 => e = .returned (.int .i64 (mayE s v ds vs)) ∧ Fr [] w w1 := by
  cases hs : mayS s.1 s.2 with
  | false =>
    have e1 : mayE s v ds vs = 10 := by
      unfold mayE
      rw [if_pos (.inl hs)]
    rw [e1]
    exact may0 p s v x y w hs
  | true =>
    obtain ⟨da, c, rfl, _, _⟩ := hd.form
    obtain ⟨va, vc, rfl, _, _⟩ := hv.form
    obtain ⟨_, h1, h2, h3⟩ := hd.deps
    obtain ⟨_, k1, k2, k3⟩ := hv.vals
    exact may1 p s v da va c vc ds vs w h1 h2 k1 k2 h3 k3 hvs hvss hs
end Go.Proofs.YtnmkhoebijodhaaGreatDoor
