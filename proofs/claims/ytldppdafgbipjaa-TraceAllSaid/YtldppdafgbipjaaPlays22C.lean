/-
  quadrillelaw22's (*pair).plays: All.
-/
import Derived.Test.YtldppdafgbipjaaKeep22M
import Derived.Test.YtldppdafgbipjaaRef22C
import Derived.Deep.AppendLies
import Derived.Deep.LoopGhost
namespace Go.Proofs.Ytldppdafgbipjaa
open Go.RowKit

section
variable {ops : Array Oper} {rest : List Oper} {o : Oper} {a : Act} {Q : Exit → Act → World → Prop} {w : World} {v : Value}
/-- One place more, and where the row lies. -/
theorem wpList_app1 (hgd : o.guard = none) (sl x : Operand) (ho : o.op = .call { callee := .builtin .append, args := #[sl, x], argTypes := #[35, 35] }) (n : Nat) (xs : List Value) (B : Nat) (hs : a.eval sl = v) (hown : w.ownsRow B tSp 2 v n xs)
    (b : Nat) (s : Sp) (hx : a.eval x = .slice (some ⟨b, 0, none⟩) 1 1) (hb : w.heap[b]? = some (.cells (spC s).toArray tSp (0, 0))) (hn : n ≤ 4000000000) (hB : B ≤ w.heap.size)
    (h : ∀ g cap w', w'.ownsRow B tSp 2 (.slice (some ⟨g, 0, none⟩) (n + 1) cap) (n + 1) (xs ++ spC s) → w.grownBy w' v.ownBlock → (v.ownBlock = some g ∨ g = w.heap.size) → wpList Try.prog ops Q rest (a.put o.dst (.slice (some ⟨g, 0, none⟩) (n + 1) cap)) w') :
    wpList Try.prog ops Q (o :: rest) a w := wpList_plain hgd fun K hK => by
  obtain ⟨i0, hi, hz0, hz1, hz2⟩ := info_parts infoSpot
  refine wp_append_lies w sl x 35 ho B tSp i0 _ 2 16 Try.underlying35 hi hz0 hz1 hz2 rfl (by decide) v n xs hs hown ⟨b, 0, none⟩ 1 1 (spC s) hx rfl (fun j u hj => ?_) (by simp [Value.oneCell', spC]) (by omega) (by unfold maxLen; omega) (by omega) hB w.heap.size rfl fun g cap w' h1 h2 h3 _ => hK _ _ (h g cap w' h1 h2 h3)
  have e : (⟨b, 0, none⟩ : Addr).add j = ⟨b, j, none⟩ := by
    unfold Addr.add
    split
    · rename_i h0; subst h0; rfl
    · simp
  rw [e, cell_of hb]
  simpa using hj
end

set_option maxRecDepth 100000 in
set_option maxHeartbeats 6400000 in
theorem plays6 (N PB p tb mb rp T : Nat) (dd : Int) (m n : List (Sp × Tr)) (on : Int) (s : Sp) (v : V) (da va : Option Addr) (dn dc vn vc : Nat) (i : Int) (w : World) (hP : w.heap[PB]? = some (.cells #[.pointer (some ⟨p, 0, none⟩), .pointer (some ⟨rp, 0, none⟩)] tPr (0, 0))) (hI : PairIs N w p tb mb rp T dd m n) :
    Calls Try.prog 54 #[.pointer (some ⟨PB, 0, none⟩), .agg #[.int .i64 6, .int .i64 on, .int .i64 s.1, .int .i64 s.2, .int .i64 v.k, .int .i64 v.n, .string v.s, .slice da dn dc, .slice va vn vc, .int .i64 i]] w fun e w1 => e = .returned (.bool true) ∧ Fr [] w w1 := by
  have HI := Lib.hid hI
  have HP := Lib.hid hP
  have hkeys : Hid (sortS (n.map (·.1)) = sortS (m.map (·.1))) := Lib.hid (hI.sm.sort hI.gm.nd hI.rf.nodup).symm
  have hlen : (sortS (m.map (·.1))).length ≤ 65536 := by rw [(sortS_perm _).length_eq, List.length_map]; exact hI.gm.le
  have hGn : Hid (n.length ≤ 65536) := Lib.hid (hI.gm.same hI.sm hI.rf.nodup).le
  have hGm := Lib.hid hI.gm.le
  generalize hL : sortS (m.map (·.1)) = L at *
  have HL := Lib.hid hL
  have hp0 : w.cell? ⟨PB, 0, none⟩ = some (.pointer (some ⟨p, 0, none⟩)) := cell_of hP 0
  have hpl := lt_of hP
  clear hI hP hL
  go_enter Try.func54, Try.ntmps54
  go_wp2_with fail
  have h0 : Fr [] w (w.alloc (.cells #[.int .i64 6, .int .i64 on, .int .i64 s.1, .int .i64 s.2, .int .i64 v.k, .int .i64 v.n, .string v.s, .slice da dn dc, .slice va vn vc, .int .i64 i] tOp)) := (Fr.refl [] w).alloc _
  have hPB := h0.heap HP.out (by simp)
  have hSW := HI.out.st.fr0 h0
  have hRW := HI.out.rf.fr0 h0
  have HF := Lib.hid h0
  have HFW := Lib.hid h0
  have hPc := cell_of hPB
  have HPB := Lib.hid hPB
  have HSW := Lib.hid hSW
  have HRW := Lib.hid hRW
  generalize w.alloc (.cells #[.int .i64 6, .int .i64 on, .int .i64 s.1, .int .i64 s.2, .int .i64 v.k, .int .i64 v.n, .string v.s, .slice da dn dc, .slice va vn vc, .int .i64 i] tOp) = W at *
  clear h0 hPB hSW hRW
  refine (storeAll p tb mb dd m _ HSW.out hGm.out).mono ?_
  rw [HL.out]
  rintro e w1 ⟨v1, rfl, hr1, h1⟩
  have hPc := cell_of (h1.heap HPB.out (by simp))
  go_wp2_with fail
  refine (storeAll p tb mb dd m _ (HSW.out.fr0 h1) hGm.out).mono ?_
  rw [HL.out]
  rintro e w2 ⟨v2, rfl, hr2, h2⟩
  have h12 := h1.trans0 h2
  have hPc := cell_of (h12.heap HPB.out (by simp))
  go_wp2_with fail
  refine (refAll rp T dd n _ (HRW.out.fr0 h12) hGn.out).mono ?_
  rw [hkeys.out]
  rintro e w3 ⟨v3, rfl, hr3, hp3, h3⟩
  have h123 := h12.trans0 h3
  have hr1' := owns_fr hr1 (h2.trans0 h3) (by simp)
  have hr2' := owns_fr hr2 h3 (by simp)
  go_wp2_with fail
  refine (spotsC _ _ L _ (SlAt.of_owns hr1') hr3).mono ?_
  rintro e w4 ⟨rfl, h4⟩
  have hs2 := (SlAt.of_owns hr2').fr0 h4
  have hs3 := hr3.fr0 h4
  have hrow := owns_fr hr1' h4 (by simp)
  have HF4 := Lib.hid (HF.out.trans0 (h123.trans0 h4))
  have HS2 := Lib.hid hs2
  have HS3 := Lib.hid hs3
  have hz2 := h2.size
  have hz3 := h3.size
  have hz4 := h4.size
  have hz1 := h1.size
  -- where the three lie
  have hl1 : ∀ k, v1.ownBlock = some k → W.heap.size ≤ k ∧ k < w1.heap.size := fun k hk => hr1.lt k hk
  have HA2 : Hid (∀ b off c, v2 = .slice (some ⟨b, off, none⟩) L.length c → w1.heap.size ≤ b) := by
    show ∀ b off c, _
    intro b off c e
    rcases hr2.2 with ⟨e2, _⟩ | ⟨g, cap, cur, e2, hg, _⟩
    · rw [e2] at e; cases e
    · rw [e2] at e; cases e; exact hg
  have HA3 : Hid (∀ b off c, v3 = .slice (some ⟨b, off, none⟩) L.length c → w1.heap.size ≤ b) := by
    show ∀ b off c, _
    intro b off c e
    have := hp3 b off L.length c e
    omega
  clear hr1 hr2 hr3 hr1' hr2' hp3 h1 h2 h3 h4 h12 h123 hs2 hs3 hPc
  have hll : (L.length : Int) ≤ 65536 := by omega
  rcases hrow.2 with ⟨rfl, hn0⟩ | ⟨g, cap, cur, rfl, hg, hcur, hc1, hc2, hcs, _⟩
  · have hL0 := List.eq_nil_of_length_eq_zero hn0
    subst hL0
    clear hrow hl1
    go_wp2_with fail
    go_loopw [27] (fun i wr => i = .int .i64 0 ∧ Fr [] w4 wr) (fun _ _ => 0)
    case atStart => exact ⟨rfl, Fr.refl _ _⟩
    case round =>
      obtain ⟨rfl, hf⟩ := hrel
      go_wp2_with fail
      rw [show min (0 : Int) 5000 = 0 by decide]
      go_loopw [23] (fun l wr => l = .slice none 0 0 ∧ Fr [] w4 wr) (fun _ _ => 0)
      case atStart => exact ⟨rfl, hf⟩
      case round =>
        obtain ⟨rfl, hf⟩ := hrel
        go_wp2_with fail
        refine (spotsC _ _ _ _ (HS2.out.fr0 hf) (HS3.out.fr0 hf)).mono ?_
        rintro e w6 ⟨rfl, h6⟩
        go_wp2
        go_ret
        exact ⟨rfl, HF4.out.trans0 (hf.trans0 h6)⟩
  · have hgl := (hl1 g rfl).2
    have HC := Lib.hid hcur
    have HCS := Lib.hid hcs
    unfold maxLen at hc2
    clear hrow hl1 hcur hcs
    go_wp2_with fail
    go_loopw [27] (fun i wr => ∃ k : Nat, i = .int .i64 (k : Int) ∧ k ≤ L.length ∧ Fr [g] w4 wr ∧ ∃ cu : Array Value, wr.heap[g]? = some (.cells cu tSp (0, 0)) ∧ cu.size = cap * 2) (fun i _ => L.length - (intOf i).toNat)
    case atStart => exact ⟨0, rfl, by omega, Fr.refl _ _, cur, HC.out, HCS.out⟩
    case round =>
      obtain ⟨k, rfl, hk, hf, cu, hcu, hcz⟩ := hrel
      by_cases hlt : k < L.length
      · have hk1 : (k : Int) < (L.length : Int) := by omega
        have hk2 : (0 : Int) ≤ (k : Int) := by omega
        have z0 := cell_of hcu
        have zf := free_of hcu
        have z1 : wr.cell? ⟨g, k * 2, none⟩ = some (cu[k * 2]?.getD undef) := by rw [z0, Array.getElem?_eq_getElem (by omega)]; rfl
        have z2 : wr.cell? ⟨g, k * 2 + 1, none⟩ = some (cu[k * 2 + 1]?.getD undef) := by rw [z0, Array.getElem?_eq_getElem (by omega)]; rfl
        have HCU := Lib.hid hcu
        clear z0 hcu
        go_wp2
        go_roundw
        case rel => exact ⟨k + 1, by go_num, by omega, (hf.setCell (.inl (by simp)) _).setCell (.inl (by simp)) _, _, set_of (set_of HCU.out _ _) _ _, by simp [hcz]⟩
        case measure => simp [intOf]; omega
      · obtain rfl : k = L.length := by omega
        have hrow : wr.ownsRow W.heap.size tSp 2 (.slice (some ⟨g, 0, none⟩) L.length cap) L.length (cu.toList.take (L.length * 2)) := ⟨by have hz : cu.toList.length = cu.size := Array.length_toList; rw [List.length_take, hz, hcz]; omega, .inr ⟨g, cap, cu, rfl, hg, hcu, hc1, by unfold maxLen; omega, hcz, rfl⟩⟩
        have HROW := Lib.hid hrow
        have HF := Lib.hid hf
        clear hrow hf hcu hcz
        go_wp2_with fail
        obtain ⟨M, hM⟩ : ∃ M : Int, min (cap : Int) ((L.length : Int) + 5000) = M := ⟨_, rfl⟩
        have hM2 : M ≤ 70536 := by omega
        rw [hM]
        clear hM
        go_loopw [23] (fun l wx => ∃ (gg j cc : Nat) (xs : List Value), l = .slice (some ⟨gg, 0, none⟩) j cc ∧ wx.ownsRow W.heap.size tSp 2 l j xs ∧ (gg = g ∨ w4.heap.size ≤ gg) ∧ Fr [g] w4 wx ∧ j ≤ 70536) (fun l _ => (M - (lenV l : Int)).toNat)
        case atStart => exact ⟨g, L.length, cap, _, rfl, HROW.out, .inl rfl, HF.out, by omega⟩
        case round =>
          obtain ⟨gg, j, cc, xs, rfl, hown, hgg, hfx, hj⟩ := hrel
          have hgr := hfx.size
          by_cases hlt : (j : Int) < M
          · go_wp2_with (at_builtin; refine wpList_app1 rfl _ _ rfl j xs W.heap.size rfl (hown.alloc _) wr.heap.size (-2, 0) rfl (hp_new rfl) (by omega) (by rw [World.size_alloc]; omega) ?_; intro g9 cap9 w5 hown' hgrow hat)
            have h9 : g9 = g ∨ w4.heap.size ≤ g9 := by
              rcases hat with hat | hat
              · have hat2 : some gg = some g9 := hat
                injection hat2 with hat2
                omega
              · rw [World.size_alloc] at hat
                omega
            go_roundw
            case rel =>
              refine ⟨g9, j + 1, cap9, _, rfl, hown', h9, (hfx.alloc _).grown hgrow (fun k hk => ?_), by omega⟩
              have hk2 : some gg = some k := hk
              injection hk2 with hk2
              rw [List.mem_singleton]
              omega
            case measure => simp [lenV]; omega
          · go_wp2_with fail
            refine (spotsC _ _ _ _ (HS2.out.fr hfx (fun b off c e hm => by have := HA2.out b off c e; rw [List.mem_singleton] at hm; omega)) (HS3.out.fr hfx (fun b off c e hm => by have := HA3.out b off c e; rw [List.mem_singleton] at hm; omega))).mono ?_
            rintro e w6 ⟨rfl, h6⟩
            go_wp2
            go_ret
            refine ⟨rfl, HF4.out.trans (hfx.trans0 h6) (fun x hx => ?_)⟩
            rw [List.mem_singleton] at hx
            have := HF.out.size
            have := hgl
            have h0 := HFW.out.size
            omega
end Go.Proofs.Ytldppdafgbipjaa
