/-
  cycle.Leads.
-/
import Derived.Test.YtdlpbpohbkcafaaCLeadB
import Derived.Deep.CutBlock
namespace Go.Proofs.Ytdlpbpohbkcafaa
open Go.RowKit Go.Shelf Go.Sort Go.Proofs

/-- The leads of all, as a row has them. -/
noncomputable def leadsC (l : List Sp) (G : Dg) : List Value := (List.range l.length).flatMap fun v => ldC l v (leadOf G v)
def LeadsPost (E : Int) (l : List Sp) (G : Dg) (w : World) (e : Ending) (w1 : World) : Prop :=
  Fr [] w w1 ∧ ((E ≠ 0 ∧ e = .returned (.tuple #[.slice none 0 0, .int .i64 E])) ∨
    (E = 0 ∧ (∃ x, x < l.length ∧ 1 < (nxs G x).length) ∧ e = .returned (.tuple #[.slice none 0 0, .int .i64 5])) ∨
    (E = 0 ∧ (∀ x, x < l.length → (nxs G x).length ≤ 1 ∧ HasL G x) ∧ ∃ sv, e = .returned (.tuple #[sv, .int .i64 0]) ∧ w1.ownsRow w.heap.size tLd 6 sv l.length (leadsC l G)))
theorem LAt.row {Ou St B : Nat} {spots : List Sp} {g : Dg} {st : Nat → Nat} {w : World} (h : LAt Ou St spots.length spots g st w) (h2 : ∀ x, x < spots.length → st x = 2) (hB : B ≤ Ou) (hn : spots.length ≤ 65536) : w.ownsRow B tLd 6 (.slice (some ⟨Ou, 0, none⟩) spots.length spots.length) spots.length (leadsC spots g) := by
  obtain ⟨c, hc, hs, hf⟩ := h.out
  have hl : (leadsC spots g).length = spots.length * 6 := by
    unfold leadsC
    rw [flat_len _ 6 (fun _ => rfl), List.length_range]
  refine ⟨hl, .inr ⟨Ou, _, c, rfl, hB, hc, Nat.le_refl _, by unfold maxLen; omega, hs, ?_⟩⟩
  apply List.ext_getElem?
  intro i
  by_cases hi : i < spots.length * 6
  · rw [List.getElem?_take_of_lt hi, Array.getElem?_toList, hf i hi]
    have hd : i / 6 < spots.length := by omega
    have hm : i % 6 < 6 := Nat.mod_lt _ (by decide)
    have e : i = i / 6 * 6 + i % 6 := by omega
    unfold leadsC
    conv => rhs; rw [e]
    rw [flat_get _ 6 (fun _ => rfl) _ _ _ (by rw [List.length_range]; exact hd) hm, List.getElem_range]
    unfold outF
    rw [if_pos (h2 _ hd), List.getD_eq_getElem?_getD, List.getElem?_eq_getElem (by simpa using hm)]
    rfl
  · rw [List.getElem?_take_eq_none (by omega), List.getElem?_eq_none (by omega)]

set_option maxRecDepth 100000 in
set_option maxHeartbeats 6400000 in
theorem leadsC' (v : Value) (ns : List Nd) (w : World) (hv : NodesAt w v ns) (hB : ns.length + tot ns ≤ 4194304) : Calls Try.prog 15 #[v] w (LeadsPost (madeE ns) (gSp ns) (gNx ns) w) := by
  have HV := Lib.hid hv
  clear hv
  go_enter Try.func15, Try.ntmps15
  go_wp2_with fail
  refine (madeC v ns w HV.out hB).mono ?_
  rintro e w1 ⟨hf1, ⟨h0, rfl⟩ | ⟨h0, g, rfl, hG⟩⟩
  · have h0' : ¬ madeE ns = 0 := h0
    go_wp2
    go_ret2
    exact ⟨hf1, .inl ⟨h0, rfl⟩⟩
  · obtain ⟨hn1, hn2, hn3⟩ := made_ok h0
    have HOKG := Lib.hid (gNx_ok ns)
    have HGLE : Hid (∀ l ∈ gNx ns, l.length ≤ 65536) := fun l hl => Nat.le_trans (gNx_le ns l hl) hn1
    have hGl : (gNx ns).length = (gSp ns).length := by rw [gNx_len, gSp_len]
    have hsl : (gSp ns).length ≤ 65536 := by rw [gSp_len]; exact hn1
    have HE := Lib.hid h0
    clear h0
    have HW1 := Lib.hid hf1
    clear hf1
    generalize madeE ns = E at *
    generalize gSp ns = spots at *
    generalize gNx ns = G at *
    obtain ⟨sv, nv, rows, hg, hs, hn, hr⟩ := hG
    obtain ⟨q, c, rfl, hc1, hc2⟩ := hs.form
    obtain ⟨qn, cn, rfl, hn4, hn5⟩ := hn.form
    rw [hGl] at hg
    rw [hGl] at hn
    have HG := Lib.hid hg
    have HS := Lib.hid hs
    have HN := Lib.hid hn
    have HR := Lib.hid hr
    have hgl := lt_of hg
    have hg1 := cell_of hg 1
    clear hg hs hn hr hn1 hn2 hn3 HV hB
    have HGRF : Hid (0 < spots.length → ∃ bn on cx, GrAt w1 g spots G (.slice q spots.length c) (.slice qn spots.length cn) spots.length cx bn on) := by
      intro hpos
      obtain ⟨bn, on, cx, e, hb, hcl⟩ := HN.out.cell (by omega)
      cases e
      refine ⟨bn, on, cn, HG.out, HS.out, rfl, rfl, hGl, fun v hv => ?_, hsl, hb⟩
      have hvG : v < G.length := by omega
      obtain ⟨rv, e1, e2⟩ := HR.out v hvG
      have e3 : nxs G v = G[v] := by unfold nxs; rw [List.getD_eq_getElem?_getD, List.getElem?_eq_getElem hvG]; rfl
      rw [e3]
      exact ⟨rv, hcl v rv e1, e2, HGLE.out _ (List.getElem_mem hvG)⟩
    have hmI := mkI spots.length (by omega)
    have hmL := mkLd spots.length (by omega)
    go_upto_block 0 with fail
    clear hg1
    go_cut [34] (fun _ wx => (∀ x, x < spots.length → (nxs G x).length ≤ 1) ∧ Fr [] w1 wx)
    case first =>
      go_wp2_with fail
      go_loopw [34] (fun i wr => ∃ k : Nat, i = .int .i64 (k : Int) ∧ k ≤ spots.length ∧ (∀ x, x < k → (nxs G x).length ≤ 1) ∧ Fr [] w1 wr) (fun i _ => spots.length - (intOf i).toNat)
      case atStart => exact ⟨0, rfl, by omega, fun x hx => by omega, Fr.refl _ _⟩
      case round =>
        obtain ⟨k, rfl, hk, h1, hf⟩ := hrel
        have H1 := Lib.hid h1
        clear h1
        by_cases hlt : k < spots.length
        · have hk1 : (k : Int) < (spots.length : Int) := by omega
          obtain ⟨bn, on, cx, hGR⟩ := HGRF.out (by omega)
          have hnv := hGR.nv
          cases hnv
          obtain ⟨rv, hr1, hr2, hr3⟩ := hGR.row k hlt
          obtain ⟨lq, lc, rfl, hl1, hl2⟩ := hr2.form
          have hcr := ce_call hf hr1
          have hbl := Nat.lt_of_lt_of_le hGR.bl hf.size
          clear hr1 hr2 hGR
          by_cases h2 : 1 < (nxs G k).length
          · have h2i : 1 < ((nxs G k).length : Int) := by omega
            have HX : Hid (∃ x, x < spots.length ∧ 1 < (nxs G x).length) := ⟨k, hlt, h2⟩
            clear h2
            go_wp2
            go_ret2
            exact ⟨HW1.out.trans0 hf, .inr (.inl ⟨HE.out, HX.out, rfl⟩)⟩
          · have h2i : ((nxs G k).length : Int) ≤ 1 := by omega
            have HX : Hid (∀ x, x < k + 1 → (nxs G x).length ≤ 1) := fun x hx => by
              by_cases e : x = k
              · rw [e]; omega
              · exact H1.out x (by omega)
            clear h2
            go_wp2
            go_roundw
            case rel => exact ⟨k + 1, by go_num, by omega, HX.out, hf⟩
            case measure => simp [intOf]; omega
        · obtain rfl : k = spots.length := by omega
          go_wp2
          go_meet
          exact ⟨H1.out, hf⟩
    case rest =>
      obtain ⟨h1, hf3⟩ := hcut
      have H1 := Lib.hid h1
      have hg0 := cell_of (hf3.heap HG.out (by simp)) 0
      have hgl3 := Nat.lt_of_lt_of_le hgl hf3.size
      clear h1
      go_upto_block 2 with fail
      have hf0 : Fr [] wc ((wc.alloc (.cells (madeCells ld0.toArray (spots.length * 6)) tLd)).alloc (.cells (Array.replicate spots.length (.int .i64 0)) tI)) := ((Fr.refl [] wc).alloc _).alloc _
      have hA0 : LAt wc.heap.size (wc.heap.size + 1) spots.length spots G (fun _ => 0) ((wc.alloc (.cells (madeCells ld0.toArray (spots.length * 6)) tLd)).alloc (.cells (Array.replicate spots.length (.int .i64 0)) tI)) :=
        ⟨row_new (hp_new (by simp)), (made_ld wc spots.length spots G).alloc _⟩
      have hS0 : wc.heap.size + 2 ≤ ((wc.alloc (.cells (madeCells ld0.toArray (spots.length * 6)) tLd)).alloc (.cells (Array.replicate spots.length (.int .i64 0)) tI)).heap.size := by simp
      have HA0 := Lib.hid hA0
      have hF0 := hf3.trans0 hf0
      have hw13 := hf3.size
      clear hf0 hA0 hg0 hgl3 hmI hmL hf3
      generalize (wc.alloc (.cells (madeCells ld0.toArray (spots.length * 6)) tLd)).alloc (.cells (Array.replicate spots.length (.int .i64 0)) tI) = W0 at *
      generalize wc.heap.size = Ou at *
      have K : LBlk Ou (Ou + 1) (Ou + 2) := ⟨by omega, by omega, by omega⟩
      have HD0 : Hid (OkD G fun _ => 0) := ⟨fun _ h => absurd (show (0 : Nat) = 2 from h) (by decide), fun _ h => absurd (show (0 : Nat) = 2 from h) (by decide)⟩
      go_wp2_with fail
      go_loopw [52] (fun i wr => ∃ (k : Nat) (st : Nat → Nat), i = .int .i64 (k : Int) ∧ k ≤ spots.length ∧ LAt Ou (Ou + 1) spots.length spots G st wr ∧ OkD G st ∧ (∀ x, x < spots.length → st x = 0 ∨ st x = 2) ∧ (∀ x, x < k → st x = 2) ∧ Fr [] w1 wr ∧ Ou + 2 ≤ wr.heap.size) (fun i _ => spots.length - (intOf i).toNat)
      case atStart => exact ⟨0, _, rfl, by omega, HA0.out, HD0.out, fun _ _ => .inl rfl, fun x hx => by omega, hF0, hS0⟩
      case round =>
        obtain ⟨k, st, rfl, hk, hA, hD, hst, hdn, hF, hS⟩ := hrel
        have HA := Lib.hid hA
        have HD := Lib.hid hD
        have HST := Lib.hid hst
        have HDN := Lib.hid hdn
        clear hA hD hst hdn
        by_cases hlt : k < spots.length
        · have hk1 : (k : Int) < (spots.length : Int) := by omega
          obtain ⟨bn, on, cx, hGR⟩ := HGRF.out (by omega)
          have HGR := Lib.hid hGR
          have hnv := hGR.nv
          cases hnv
          clear hGR
          go_upto_block 4 with fail
          refine leadsWay w1 g Ou (Ou + 1) (Ou + 2) k spots G st _ _ spots.length cn bn on _ K ⟨by omega, by omega, by omega⟩ HGR.out HOKG.out H1.out HST.out hlt HA.out hF hS _ ?_
          intros
          rename_i v' W L st' w' hWI hA' hO' hF' hS'
          obtain ⟨wq, wcp, rfl, hwc1, hwc2⟩ := (own_sl hO').form
          have HWI := Lib.hid hWI
          have HA' := Lib.hid hA'
          have HO' := Lib.hid hO'
          have hvn := hWI.vlt
          have hWl : W.length ≤ spots.length := nodup_lt hWI.w.nd hWI.w.lt
          clear hWI hA' hO' HA hF hS
          by_cases hW0 : W.length = 0
          · have hWn := List.eq_nil_of_length_eq_zero hW0
            have hWi : (W.length : Int) = 0 := by omega
            have HS1 : Hid (st' = st) := by
              show _ = _
              funext x
              exact HWI.out.w.rest x (by rw [hWn]; simp)
            have HDN1 : Hid (∀ x, x < k + 1 → st x = 2) := fun x hx => by
              by_cases e : x = k
              · rw [e]
                rcases HWI.out.from' with h | h
                · rw [hWn] at h; simp at h
                · exact h
              · exact HDN.out x (by omega)
            clear hW0 hWn
            go_wp2
            go_roundw
            case rel => exact ⟨k + 1, st, by go_num, by omega, by rw [← HS1.out]; exact HA'.out, HD.out, HST.out, HDN1.out, hF', hS'⟩
            case measure => simp [intOf]; omega
          · have hWi : ((W.length : Int) == 0) = false := by rw [beq_eq_false_iff_ne]; omega
            obtain ⟨m, hm⟩ : ∃ m, W.length = m + 1 := ⟨W.length - 1, by omega⟩
            have hm1 : (W.length : Int) - 1 = (m : Int) := by omega
            have hml : m < W.length := by omega
            have hml1 : (m : Int) < (W.length : Int) := by omega
            obtain ⟨b, off, _, e, hb, c0⟩ := nums_cell (own_sl HO'.out) hml
            cases e
            have hge : W[m] = W.getD (W.length - 1) 0 := by rw [← getD_at hml]; congr 1; omega
            rw [hge] at c0
            have HWNE : Hid (W ≠ []) := fun e => hW0 (by rw [e]; rfl)
            clear hge hW0 hm
            go_upto_block 6 with fail
            have hfa : Fr [] w' (w'.alloc (.cells #[.int .i64 0, .int .i64 0, .bool false, .int .i64 0, .int .i64 0, .int .i64 0] tLd)) := (Fr.refl [] w').alloc _
            refine leadsEnd w1 g Ou (Ou + 1) (Ou + 2) w'.heap.size k v' spots G st st' W L _ _ _ spots.length cn bn on _ K ⟨by omega, by omega, by omega⟩ HGR.out HOKG.out HST.out HD.out HWI.out HWNE.out (HA'.out.fr hfa (by simp) (by simp)) (owns_fr HO'.out hfa (by simp)) (hp_new rfl) hS' (hF'.trans0 hfa) (Nat.le_trans hS' hfa.size) _ ?_
            intros
            rename_i kk x0 x1 r s f w2 hEO hA2 hO2 hE2 hF2 hS2
            dsimp only
            simp only [Exit.then]
            go_step
            have hstp : ∀ x ∈ W, (leadOf G x).steps ≤ 65536 := fun x hx => by
              have h1 := (leadOf_is (hEO.has x hx)).steps_lt HOKG.out (by rw [hGl]; exact HWI.out.w.lt x hx)
              omega
            have hLL : ∀ u ∈ L, u ∈ W ∨ st u = 2 := fun u hu => by
              rcases HWI.out.fin with ⟨h1, _⟩ | ⟨h1, h2⟩
              · rw [h1] at hu; simp at hu
              · rw [h1, List.mem_singleton] at hu
                rw [hu]
                rcases HWI.out.in_or h1 HST.out with h3 | h3
                · exact .inl h3.2
                · exact .inr h3.2.1
            have HD3 := Lib.hid (HD.out.done HWI.out.way hLL hEO.has)
            have HSE : Hid ((fun x => if x ∈ W then 2 else st' x) = fun x => if x ∈ W then 2 else st x) := by
              show _ = _
              funext x
              by_cases e : x ∈ W
              · rw [if_pos e, if_pos e]
              · rw [if_neg e, if_neg e]
                exact HWI.out.w.rest x e
            have HST3 : Hid (∀ x, x < spots.length → (if x ∈ W then 2 else st x) = 0 ∨ (if x ∈ W then 2 else st x) = 2) := fun x hx => by
              by_cases e : x ∈ W
              · rw [if_pos e]; exact .inr rfl
              · rw [if_neg e]; exact HST.out x hx
            have HDN3 : Hid (∀ x, x < k + 1 → (if x ∈ W then 2 else st x) = 2) := fun x hx => by
              by_cases e : x ∈ W
              · rw [if_pos e]
              · rw [if_neg e]
                by_cases e2 : x = k
                · rcases HWI.out.from' with h | h
                  · rw [← e2] at h; exact absurd h e
                  · rw [e2]; exact h
                · exact HDN.out x (by omega)
            refine leadsBack w1 g Ou (Ou + 1) (Ou + 2) w'.heap.size kk spots G st' W _ _ _ x0 x1 r s f w2 K ⟨by omega, by omega, by omega⟩ HG.out HS.out hsl hA2 hO2 hE2 hS' hEO.le HWI.out.w.lt HWI.out.w.nd hstp hEO.steps hEO.ends hF2 hS2 _ ?_
            intros
            rename_i w3 hA3 hF3 hS3
            rw [HSE.out] at hA3
            have HA3 := Lib.hid hA3
            clear hA3 hEO hA2 hO2 hE2 hF2 hS2 hstp hLL
            dsimp only
            go_wp2
            go_roundw
            case rel => exact ⟨k + 1, _, by go_num, by omega, HA3.out, HD3.out, HST3.out, HDN3.out, hF3, hS3⟩
            case measure => simp [intOf]; omega
        · obtain rfl : k = spots.length := by omega
          have HROW := Lib.hid (HA.out.row HDN.out (Nat.le_refl _) hsl)
          have HHAS : Hid (∀ x, x < spots.length → (nxs G x).length ≤ 1 ∧ HasL G x) := fun x hx => ⟨H1.out x hx, HD.out.has x (HDN.out x hx)⟩
          go_wp2
          go_ret2
          exact ⟨HW1.out.trans0 hF, .inr (.inr ⟨HE.out, HHAS.out, _, rfl, owns_mono HROW.out (by have := HW1.out.size; omega)⟩)⟩
end Go.Proofs.Ytdlpbpohbkcafaa
