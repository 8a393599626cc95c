/-
  keep.Load at what keep.Save laid.
  quadrillelaw29.begun: it says true.
  The cells that KeepMany fills, batch by batch: plain.
  quadrillelaw29.handed: the bytes in memory of their own.
  quadrillelaw29.KeepMany: it says true.
  quadrillelaw29.KeepMany: it says true, whatever it is given.
-/
import Derived.Test.YtnmkhoebijodhaaGreatDoorSave
import Derived.Test.YtnmkhoebijodhaaGreatDoorBld
import Derived.Test.YtnmkhoebijodhaaGreatDoorCsvF
import Derived.Test.YtnmkhoebijodhaaGreatDoorCsvB
import Derived.Test.YtnmkhoebijodhaaGreatDoorReadV
import Derived.Test.YtnmkhoebijodhaaGreatDoorKpP
import Derived.Test.YtnmkhoebijodhaaGreatDoorShP
namespace Go.Proofs.YtnmkhoebijodhaaGreatDoor
section
open Go.RowKit Go.Shelf

def slN : Value → Nat
  | .slice _ n _ => n
  | _ => 0

set_option maxRecDepth 100000 in
set_option maxHeartbeats 25600000 in
theorem keepLoad (pb po N cap : Nat) (d : Int) (L : List (Sp × ByteArray)) (ds : List Int) (w : World) (hdsE : ds = headI d L ++ beI 8 (fnv (headI d L))) (hds : ds.length = N) (hc : ∀ j c, ds[j]? = some c → w.cell? ⟨pb, po + j, none⟩ = some (.int .u8 c)) (hpb : pb < w.heap.size)
    (hcap : N ≤ cap) (h63 : cap ≤ 9223372036854775807) (hd0 : 0 ≤ d) (hd1 : d ≤ 64) (hL : L.length ≤ 65536)
    (hasc : (L.map (·.1)).Pairwise fun s t => s.1 < t.1 ∨ (s.1 = t.1 ∧ s.2 < t.2)) (hg : GoodE L) (hfit : (setsC L []).length ≤ 65536) :
    Calls Tryz.prog 16 #[.slice (some ⟨pb, po, none⟩) N cap] w fun e w1 => ∃ B p tb mb k ktb kmb l2, e = .returned (.tuple #[.pointer (some ⟨B, 0, none⟩), .int .i64 0, .int .i64 0]) ∧
      l2 = sortC (setsC L []) ∧ BookIs w1 B p tb mb k ktb kmb d (bytesC l2) l2 ∧ (w.heap.size ≤ B ∧ w.heap.size ≤ p ∧ w.heap.size ≤ tb ∧ w.heap.size ≤ mb ∧ w.heap.size ≤ k ∧ w.heap.size ≤ ktb ∧ w.heap.size ≤ kmb) ∧ Fr [] w w1 := by
  have hmay : ∀ x ∈ L, mayS x.1.1 x.1.2 = true := fun x hx => (hg x hx).1
  have hsz : ∀ x ∈ L, 0 < x.2.size ∧ x.2.size ≤ 40 := fun x hx => ⟨(hg x hx).2.pos, (hg x hx).2.le⟩
  obtain ⟨hlits, hmays, _⟩ := setsC_lits (l := []) hg (fun _ h => by cases h) (fun _ h => by cases h) (by simp)
  have HLITS := Lib.hid hlits
  have HMAYS := Lib.hid hmays
  have HFIT := Lib.hid hfit
  have HG := Lib.hid hg
  have hby : ∀ c ∈ ds, 0 ≤ c ∧ c < 256 := by
    rw [hdsE]
    intro c hc
    rcases List.mem_append.1 hc with h | h
    · exact headI_byte hd0 (by omega) L c h
    · exact beI_byte 8 _ c h
  have hb9 := bytesN_bd (L := L) (fun x hx => (hsz x hx).2)
  have hlen : N = 9 + bytesN L + 8 := by
    rw [← hds, hdsE, List.length_append, headI_len, beI_len]
  have HBY := Lib.hid hby
  have HC := Lib.hid hc
  have HDS := Lib.hid hds
  have HE := Lib.hid hdsE
  have HASC := Lib.hid hasc
  have HMAY := Lib.hid hmay
  have HSZ := Lib.hid hsz
  have hN : N ≤ 4000000 := by omega
  have hN9 : 9 ≤ N := by omega
  have HLEN := Lib.hid hlen
  have HB9 := Lib.hid hb9
  clear hby hc hds hdsE hasc hmay hsz hlen hb9 hlits hmays hfit hg
  go_enter Tryz.func16, Tryz.ntmps16
  go_wp2_with fail
  have hA := (Fr.refl [] w).alloc (.cells #[.slice (some ⟨pb, po, none⟩) N cap, .int .i64 0, .int .i64 (-1)] 91)
  have hr0 := heap_new w (.cells #[.slice (some ⟨pb, po, none⟩) N cap, .int .i64 0, .int .i64 (-1)] 91)
  obtain ⟨r, hre⟩ : ∃ r, w.heap.size = r := ⟨_, rfl⟩
  simp only [hre] at hr0 hpb ⊢
  generalize w.alloc (.cells #[.slice (some ⟨pb, po, none⟩) N cap, .int .i64 0, .int .i64 (-1)] 91) = W at *
  have hrne : pb ≠ r := by omega
  have hrW := lt_of hr0
  have lpb : pb < W.heap.size := by have := hA.size; omega
  have HCW : Hid (∀ u, Fr [r] W u → ∀ j c, ds[j]? = some c → u.cell? ⟨pb, po + j, none⟩ = some (.int .u8 c)) := fun u hu j c hj => (hu.cell (p := ⟨pb, po + j, none⟩) lpb (by simp; omega)).trans (ce_call hA (HC.out j c hj))
  refine (rdBytes r pb po N cap 0 4 W hr0 (by omega) (by omega) hcap h63).mono ?_
  rintro e w1 ⟨rfl, hr1, hF1⟩
  have hcv : (convert 22 9 (.slice (some ⟨pb, po + 0, none⟩) 4 (cap - 0))).run Tryz.prog w1 = .ok (.string ⟨#[81, 68, 82, 76]⟩) w1 := by
    refine run_convert_bytes_arg (P := Tryz.prog) w1 22 5 Tryz.underlying22 Tryz.underlying5 pb (po + 0) 4 (cap - 0) [81, 68, 82, 76] rfl (fun j hj => ?_) 9 Tryz.underlying9
    have e : ds[j]? = some (([81, 68, 82, 76] : List Int).getD j 0) := by
      rw [HE.out, headI_front]
      rcases (by omega : j = 0 ∨ j = 1 ∨ j = 2 ∨ j = 3) with rfl | rfl | rfl | rfl <;> rfl
    have := HCW.out w1 hF1 j _ e
    simpa using this
  simp only [Nat.add_zero, Nat.sub_zero] at hcv
  go_wp2_with fail
  have hfront : ds = [81, 68, 82, 76] ++ ([d] ++ (beI 4 (L.length : Int) ++ (L.flatMap cellI ++ beI 8 (fnv (headI d L))))) := by rw [HE.out, headI_front]
  have hx4 : numI 0 ((ds.drop (0 + 4)).take 1) = d := by rw [hfront]; simp [numI]
  have hf5 : ds.drop (5 : Nat) = beI 4 (L.length : Int) ++ (L.flatMap cellI ++ beI 8 (fnv (headI d L))) := by rw [hfront]; rfl
  refine (rdNumber r pb po N cap (0 + 4) 1 ds 0 64 d w1 (rdV_cast hr1) (HCW.out w1 hF1) (by have := hF1.size; omega) hrne HDS.out HBY.out (by omega) (by omega) hcap h63 hx4 hd0 hd1).mono ?_
  rintro e w2 ⟨rfl, hr2, hF2⟩
  clear hcv
  have hF2 := hF1.transS hF2
  have hr2 : w2.heap[r]? = some (rdV (.slice (some ⟨pb, po, none⟩) N cap) ((5 : Nat) : Int) (-1)) := rdV_cast hr2
  go_wp2_with fail
  refine (rdCells r pb po N cap 5 ds (beI 8 (fnv (headI d L))) L w2 hr2 (HCW.out w2 hF2) (by have := hF2.size; omega) hrne HDS.out HBY.out hcap h63 hN hf5 hL HASC.out HMAY.out HSZ.out).mono ?_
  rintro e w3 ⟨es, rfl, hes, hr3, hF3⟩
  have hz2 := hF2.size
  have hF3 := hF2.transS hF3
  have e3 : ((5 : Nat) : Int) + 4 + (bytesN L : Int) = ((9 + bytesN L : Nat) : Int) := by omega
  rw [e3] at hr3
  obtain ⟨q9, hq9⟩ : ∃ q9, 9 + bytesN L = q9 := ⟨_, rfl⟩
  rw [hq9] at hr3
  have hq17 : q9 + 8 = N := by rw [HLEN.out]; omega
  have HQ17 := Lib.hid hq17
  have HQ9 := Lib.hid hq9
  have hqN : q9 ≤ N := by omega
  clear hq9 hq17 e3
  have c1 := cell_of hr3 1
  have c2 := cell_of hr3 2
  go_wp2_with fail
  have htk : ds.take q9 = headI d L := by rw [HE.out, ← HQ9.out]; exact take_head
  have hsl : SlAt w3 (.slice (some ⟨pb, po, none⟩) q9 cap) 1 (ds.take q9).length (u8L (ds.take q9)) := by
    have hl : (ds.take q9).length = q9 := by rw [List.length_take, HDS.out]; omega
    rw [hl]
    refine ⟨by simp [HDS.out]; omega, ⟨_, _, rfl, by omega, h63⟩, fun _ => ⟨pb, po, cap, rfl, by have := hF3.size; omega, fun j x hx => ?_⟩⟩
    rw [List.getElem?_map] at hx
    obtain ⟨c, hc, rfl⟩ := Option.map_eq_some_iff.1 hx
    refine HCW.out w3 hF3 j c ?_
    rw [List.getElem?_take] at hc
    split at hc
    · exact hc
    · cases hc
  refine (keepSum _ (ds.take q9) w3 hsl (fun c hc => HBY.out c (List.mem_of_mem_take hc)) (by simp [HDS.out]; omega)).mono ?_
  rintro e w4 ⟨rfl, hF4⟩
  rw [htk]
  obtain ⟨F, hF⟩ : ∃ F, fnv (headI d L) = F := ⟨_, rfl⟩
  have HF := Lib.hid hF
  simp only [hF]
  clear hsl htk hF
  have hr4 := hF4.heap hr3 (by simp)
  have hF4 := hF3.trans0 hF4
  have hes4 := owns_fr hes (show Fr [] w3 w4 from by assumption) (fun _ _ => by simp)
  go_wp2_with fail
  refine (keepNumber w4.heap.size (.slice none 0 0) 0 [] F 8 w4 (World.ownsRow_nil _ _ _ _) (Nat.le_refl _) (by omega) (by omega)).mono ?_
  rintro e w5 ⟨v5, rfl, ho5, hk5⟩
  obtain ⟨g5, cap5, rfl⟩ : ∃ g c, v5 = .slice (some ⟨g, 0, none⟩) 8 c := ownsRow_succ (k := 7) ho5
  have hF5 := hk5.fr
  have hcv5 : (convert 22 9 (.slice (some ⟨g5, 0, none⟩) 8 cap5)).run Tryz.prog w5 = .ok (.string (strOfNums (beI 8 F))) w5 := by
    refine run_convert_bytes_arg (P := Tryz.prog) w5 22 5 Tryz.underlying22 Tryz.underlying5 g5 0 8 cap5 (beI 8 F) (beI_len 8 F) (fun j hj => ?_) 9 Tryz.underlying9
    obtain ⟨b, off, c, e, _, hc⟩ := (own_sl ho5).cell (by omega)
    cases e
    refine hc j _ ?_
    have hj8 : j < (beI 8 F).length := by rw [beI_len]; exact hj
    simp [List.getD_eq_getElem?_getD, List.getElem?_eq_getElem hj8]
  have hr5 := hF5.heap hr4 (by simp)
  have hes5 := owns_fr hes4 hF5 (fun _ _ => by simp)
  have hF5 := hF4.trans0 hF5
  obtain ⟨S8, hS8⟩ : ∃ S8, strOfNums (beI 8 F) = S8 := ⟨_, rfl⟩
  have HS8 := Lib.hid hS8
  rw [hS8] at hcv5
  clear hS8 ho5 hk5
  go_wp2_with fail
  refine (rdBytes r pb po N cap q9 8 w5 hr5 (by omega) (by have := HQ17.out; omega) hcap h63).mono ?_
  rintro e w6 ⟨rfl, hr6, hF6⟩
  have hes6 := owns_fr hes5 hF6 (fun g hg => by have := (hes5.lt g hg).1; simp; omega)
  have hF6 := hF5.transS hF6
  have hcv6 : (convert 22 9 (.slice (some ⟨pb, po + q9, none⟩) 8 (cap - q9))).run Tryz.prog w6 = .ok (.string S8) w6 := by
    rw [← HS8.out]
    refine run_convert_bytes_arg (P := Tryz.prog) w6 22 5 Tryz.underlying22 Tryz.underlying5 pb (po + q9) 8 (cap - q9) (beI 8 F) (beI_len 8 F) (fun j hj => ?_) 9 Tryz.underlying9
    have hj8 : j < (beI 8 F).length := by rw [beI_len]; exact hj
    have e : ds[q9 + j]? = some ((beI 8 F).getD j 0) := by
      rw [HE.out, HF.out, ← HQ9.out, ← headI_len d L, List.getElem?_append_right (by omega), List.getD_eq_getElem?_getD, List.getElem?_eq_getElem hj8]
      simp [List.getElem?_eq_getElem hj8]
    have := HCW.out w6 hF6 _ _ e
    rwa [← Nat.add_assoc] at this
  have hr6 : w6.heap[r]? = some (rdV (.slice (some ⟨pb, po, none⟩) N cap) (N : Int) (-1)) := by have := rdV_cast hr6; rwa [HQ17.out] at this
  have c1 := cell_of hr6 1
  have c2 := cell_of hr6 2
  go_wp2_with fail
  refine (newSh _).mono ?_
  rintro e w7 ⟨p, tb, mb, rfl, lp, lt, lm, hS7, hF7⟩
  have HS7 := Lib.hid hS7
  have hlow6 : ∀ q, es.ownBlock = some q → q < w6.heap.size := fun q hq => (hes6.lt q hq).2
  have hes7 := owns_fr hes6 hF7 (fun _ _ => by simp)
  have hF7 := hF6.trans0 hF7
  have z6 := hF6.size
  clear hS7 hr6 hr5 hr4 hr3 hes6 hes5 hes4 c1 c2 hcv6 hcv5
  go_wp2_with fail
  have hsl7 := own_sl hes7
  have hlow7 : ∀ q, es.ownBlock = some q → q < w6.heap.size := hlow6
  obtain ⟨a0, cp0, e0, _, _⟩ := hsl7.form
  subst e0
  go_loopw [7] (fun v wr => ∃ (k : Nat) (a : Option Addr) (c : Nat), k ≤ L.length ∧ v = .slice a (L.length - k) c ∧ SlAt wr (.slice a (L.length - k) c) 11 (L.length - k) ((L.drop k).flatMap edC) ∧ (∀ b off, a = some ⟨b, off, none⟩ → k < L.length → b < w6.heap.size) ∧
      ShB wr p tb mb (bytesC (setsC (L.take k) [])) (setsC (L.take k) []) ∧ Fr [] w wr) (fun v _ => slN v)
  case atStart => exact ⟨0, a0, cp0, by omega, rfl, by simpa using hsl7, fun b off e _ => hlow7 b (by simp [Value.ownBlock, e]), by simpa [bytesC, setsC] using HS7.out, hA.trans hF7 (fun q hq => .inr (by rw [List.mem_singleton] at hq; omega))⟩
  case round =>
    obtain ⟨k, a, c, hk, rfl, hsl, hlow, hS, hFr⟩ := hrel
    by_cases hlt : k < L.length
    · obtain ⟨b', off, c', ea, hb', hcell⟩ := hsl.cell (by omega)
      cases ea
      have HCELL := Lib.hid hcell
      obtain ⟨n, hn⟩ : ∃ n, L.length - k = n := ⟨_, rfl⟩
      have hn0 : 0 < n := by omega
      have hn9 : n ≤ 65536 := by omega
      have HN := Lib.hid hn
      simp only [hn] at hsl ⊢
      clear hcell hn
      go_wp2_with fail
      go_loop [11, 12] (fun j z => ∃ (i : Nat) (s : Int), i ≤ n ∧ i ≤ 4096 ∧ j = .int .i64 (i : Int) ∧ z = .int .i64 s ∧ 0 ≤ s ∧ s ≤ 40 * (i : Int)) (fun j _ => 4097 - (intOf j).toNat)
      case atStart => exact ⟨0, 0, by omega, by omega, rfl, rfl, by omega, by omega⟩
      case round =>
        obtain ⟨i, s, hi1, hi2, rfl, rfl, hs0, hs1⟩ := hrel
        by_cases hgo : i < n ∧ i < 4096
        · obtain ⟨h1, h2⟩ := hgo
          have hki : k + i < L.length := by have := HN.out; omega
          have hci := HCELL.out (i * 11 + 10) (.string L[k + i].2) (by
            rw [flat_get edC 11 (fun _ => rfl) (L.drop k) i 10 (by simp; omega) (by omega)]
            simp [edC])
          rw [← Nat.add_assoc] at hci
          have hsz := (HG.out L[k + i] (List.getElem_mem _)).2.le
          generalize L[k + i].2 = t at *
          have hw : IntKind.i64.wrap (s + (t.size : Int)) = s + (t.size : Int) := by rw [IntKind.wrap_i64]; omega
          go_wp2_with fail
          go_round
          case rel => exact ⟨i + 1, s + (t.size : Int), by omega, by omega, by go_num, rfl, by omega, by omega⟩
          case measure => simp [intOf]; omega
        · have hi0 : 0 < i := by omega
          have hsnx := hsl.next HN.out hi1
          have hfr := hsl.front i hi1
          rw [flat_take edC 11 (fun _ => rfl)] at hfr
          have hki : k + i ≤ L.length := by have := HN.out; omega
          have hb6 := hlow b' off rfl hlt
          have hlk := List.length_take (i := k) (l := L)
          have hap := shApply p tb mb b' off i c (setsC (L.take k) []) ((L.drop k).take i) wr hS hfr (by rw [List.length_take, List.length_drop, HN.out]; omega) hi0 (by omega) (fun x hx => HG.out x (List.mem_of_mem_drop (List.mem_of_mem_take hx)))
          obtain ⟨a1, a2, a3⟩ := setsC_lits (l := []) (es := L.take k) (fun x hx => HG.out x (List.mem_of_mem_take hx)) (fun _ h => by cases h) (fun _ h => by cases h) (by simp)
          have e2 : setsC ((L.drop k).take i) (setsC (L.take k) []) = setsC (L.take (k + i)) [] := by
            unfold setsC
            rw [← List.foldl_append, ← List.take_add]
          rw [e2] at hap
          have HAP := Lib.hid (hap a1 a2 a3 (Nat.le_trans (setsC_take_le L [] (k + i)) HFIT.out) ⟨by omega, by omega, by omega⟩)
          have HNX := Lib.hid hsnx
          have HFR := Lib.hid hFr
          have HLOW := Lib.hid hlow
          have HHB := Lib.hid hb'
          obtain ⟨hic, hcm, hnc⟩ : i ≤ c ∧ c ≤ 9223372036854775807 ∧ n ≤ c := by
            obtain ⟨_, _, ee, hh1, hh2⟩ := hsl.form
            cases ee
            exact ⟨by omega, hh2, hh1⟩
          clear hap a1 a2 a3 e2 hfr hsnx hFr hlow hlk hsl hS hb'
          rcases (by omega : i = n ∨ (i < n ∧ i = 4096)) with hin | ⟨h1, h2⟩
          · subst hin
            go_wp2_with fail
            refine HAP.out.mono ?_
            rintro e w8 ⟨rfl, hS8, hF8⟩
            go_wp2_with fail
            have e0 : L.length - (k + i) = 0 := by have := HN.out; omega
            refine ⟨⟨k + i, _, _, hki, by rw [e0], ?_, ?_, hS8, HFR.out.trans hF8 (by have := HFR.out.size; simp; omega)⟩, by simp [slN]; omega⟩
            · rw [e0, List.drop_eq_nil_of_le (by omega)]
              exact ⟨by simp, ⟨_, _, rfl, by omega, by omega⟩, fun h => by omega⟩
            · intro _ _ _ h
              omega
          · subst h2
            have hc4 : ¬ (c = 4096) := by omega
            have hnn : ((4096 : Nat) : Int) ≤ (n : Int) := by omega
            go_wp2_with fail
            refine HAP.out.mono ?_
            rintro e w8 ⟨rfl, hS8, hF8⟩
            go_wp2_with fail
            refine ⟨⟨k + 4096, _, _, hki, ?_, HNX.out.fr hF8 ?_, ?_, hS8, HFR.out.trans hF8 (by have := HFR.out.size; simp; omega)⟩, by simp [slN]; omega⟩
            · have := HN.out
              simp
              omega
            · intro b2 o2 c2 e2
              cases e2
              simp
              omega
            · intro b2 o2 e2 _
              cases e2
              exact hb6
    · obtain rfl : k = L.length := by omega
      rw [Nat.sub_self] at *
      rw [List.take_length] at hS
      have HS := Lib.hid hS
      clear hS hsl hlow
      go_wp2_with fail
      refine (bookNew d wr hd0 hd1).mono ?_
      rintro e w8 ⟨B, p0, tb0, mb0, kk, ktb, kmb, rfl, hBK, ⟨y1, y2, y3, y4, y5, y6, y7⟩, hF8⟩
      have HBK := Lib.hid hBK
      clear hBK
      go_wp2_with fail
      refine (bookBecome B p0 tb0 mb0 kk ktb kmb d [] p tb mb (setsC L []) w8 HBK.out (HS.out.fr0 hF8) (by simp) ?_ ?_ ?_).mono ?_
      · exact HLITS.out
      · exact HMAYS.out
      · exact HFIT.out
      · rintro e w9 ⟨rfl, p2, tb2, mb2, hBK9, x1, x2, x3, hF9⟩
        have HBK9 := Lib.hid hBK9
        clear hBK9
        have zw := hFr.size
        have z8 := hF8.size
        go_wp2
        refine bodyPost_ret (v := .tuple #[.pointer (some ⟨B, 0, none⟩), .int .i64 0, .int .i64 0]) (by simp [results, Tryz.results16, go_sem]) rfl ?_
        exact ⟨B, p2, tb2, mb2, kk, ktb, kmb, _, rfl, rfl, HBK9.out, ⟨by omega, by omega, by omega, by omega, by omega, by omega, by omega⟩, (hFr.trans0 hF8).trans hF9 (by simp; omega)⟩
end
section
open Go.RowKit Go.Shelf

/-- The workbook's one cell, and the edit that sets it. -/
def EB1 : List (Sp × ByteArray) := [((0, 0), ⟨#[53]⟩)]
def LB1 : List (Sp × Cel) := [((0, 0), litC ⟨#[53]⟩)]
theorem LB1_asc : (LB1.map (·.1)).Pairwise fun s t => s.1 < t.1 ∨ (s.1 = t.1 ∧ s.2 < t.2) := List.pairwise_singleton _ _
theorem LB1_sort : sortC LB1 = LB1 := sortC_id LB1_asc
theorem sets_nil : setsC EB1 (sortC []) = LB1 := by
  rw [sortC_id (l := []) (by simp)]
  rfl
theorem EB1_good : GoodE EB1 := by
  intro e he
  rcases List.mem_singleton.1 he with rfl
  exact ⟨by decide, ⟨by decide, by decide, fun _ => (by decide : (53 : Nat) ≠ 61)⟩⟩
theorem LB1_lits : Lits LB1 := by
  intro x hx
  rcases List.mem_singleton.1 hx with rfl
  exact ⟨_, rfl, by decide, by decide⟩
theorem LB1_mays : Mays LB1 := by
  intro x hx
  rcases List.mem_singleton.1 hx with rfl
  decide
theorem own_cells {w : World} {B g cap n : Nat} {bs : List Int} (h : w.ownsRow B 5 1 (.slice (some ⟨g, 0, none⟩) n cap) n (u8L bs)) : ∀ j c, bs[j]? = some c → w.cell? ⟨g, 0 + j, none⟩ = some (.int .u8 c) := by
  intro j c hj
  have hn : 0 < n := by
    have h1 := (own_sl h).len
    have h2 := (List.getElem?_eq_some_iff.1 hj).1
    rw [List.length_map] at h1
    omega
  obtain ⟨_, _, _, e, _, hc⟩ := (own_sl h).cell hn
  cases e
  exact hc j _ (by rw [List.getElem?_map, hj]; rfl)

set_option maxRecDepth 100000 in
set_option maxHeartbeats 25600000 in
theorem begun29 (w : World) : Calls Tryz.prog 12 #[] w fun e w1 => e = .returned (.bool true) ∧ Fr [] w w1 := by
  go_enter Tryz.func12, Tryz.ntmps12
  go_wp2_with fail
  refine (bookNew 8 w (by omega) (by omega)).mono ?_
  rintro e w1 ⟨B, p, tb, mb, k, ktb, kmb, rfl, hBK, ⟨y1, y2, y3, y4, y5, y6, y7⟩, h1⟩
  have HB := Lib.hid hBK
  have lB := lt_of hBK.bk
  clear hBK
  go_wp2_with fail
  have hA := (Fr.refl [] w1).alloc (.cells (edC ((0, 0), ⟨#[53]⟩)).toArray 37)
  have hblk := heap_new w1 (.cells (edC ((0, 0), ⟨#[53]⟩)).toArray 37)
  refine (bookApply B p tb mb k ktb kmb w1.heap.size 0 1 1 8 [] EB1 _ (HB.out.fr0 hA) (SlAt.of_block (n := 1) (size := 11) hblk rfl (by omega)) rfl (by omega) (by omega) EB1_good (fun _ h => by cases h) (fun _ h => by cases h) (by simp) (by rw [sets_nil]; decide) (by omega)).mono ?_
  rintro e w2 ⟨rfl, p2, tb2, mb2, hBK2, x1, x2, x3, h2⟩
  rw [sets_nil] at hBK2
  have HB2 := Lib.hid hBK2
  have hF2 : Fr [] w w2 := (h1.trans0 hA).trans h2 (by simp; omega)
  have z1 := h1.size
  have z2 := hF2.size
  clear hBK2 hA hblk h2
  go_wp2_with fail
  refine (callsIn_wide.1 (keepSave_in B p2 tb2 mb2 k ktb kmb 8 _ LB1 w2 HB2.out (by decide) LB1_lits LB1_mays (by omega) (by omega))).mono ?_
  rintro e w3 ⟨v, bs, rfl, hbs, hrow, h3⟩
  rw [LB1_sort, LB1_sort] at hbs
  have hbs2 : bs = headI 8 EB1 ++ beI 8 (fnv (headI 8 EB1)) := hbs
  have hlen : bs.length = 26 := by rw [hbs2, List.length_append, headI_len, beI_len]; rfl
  rw [hlen] at hrow
  obtain ⟨g, cap, rfl⟩ := ownsRow_succ (k := 25) hrow
  have HBS := Lib.hid hbs2
  have hcp := (own_sl hrow).form
  obtain ⟨hcp1, hcp2⟩ : 26 ≤ cap ∧ cap ≤ 9223372036854775807 := by
    obtain ⟨_, _, e, h1, h2⟩ := hcp
    cases e
    exact ⟨h1, h2⟩
  have hgl := (hrow.lt g rfl).2
  have HC := Lib.hid (own_cells hrow)
  have hF3 := hF2.trans0 h3
  have HLEN := Lib.hid hlen
  clear hbs hbs2 hcp hrow hlen
  go_wp2_with fail
  refine (keepLoad g 0 26 cap 8 EB1 bs w3 HBS.out HLEN.out HC.out hgl hcp1 hcp2 (by omega) (by omega) (by decide) LB1_asc EB1_good (by decide)).mono ?_
  rintro e w4 ⟨B4, p4, tb4, mb4, k4, ktb4, kmb4, l2, rfl, hl2, hBK4, -, h4⟩
  have e2 : l2 = LB1 := by rw [hl2]; exact LB1_sort
  subst e2
  have HB4 := Lib.hid hBK4
  have hF4 := hF3.trans0 h4
  have h24 := h3.trans0 h4
  clear hBK4 hl2
  go_wp2_with fail
  refine (loadNil w4).mono ?_
  rintro e w5 ⟨rfl, h5⟩
  have hF5 := hF4.trans0 h5
  have h25 := h24.trans0 h5
  go_wp2_with fail
  refine (callsIn_wide.1 (keepCsv_in B p2 tb2 mb2 k 8 _ LB1 w5 ((HB2.out.fr0 h25).rd) rfl rfl)).mono ?_
  rintro e w6 ⟨rfl, h6⟩
  have hF6 := hF5.trans0 h6
  have h46 := h5.trans0 h6
  go_wp2_with fail
  refine (fromCsv1 tx1 rfl w6).mono ?_
  rintro e w7 ⟨g7, c7, rfl, hs7, h7⟩
  have hF7 := hF6.trans0 h7
  have h47 := h46.trans0 h7
  have HS7 := Lib.hid hs7
  clear hs7
  go_wp2_with fail
  refine (fromCsv2 tx2 rfl w7).mono ?_
  rintro e w8 ⟨rfl, h8⟩
  have hF8 := hF7.trans0 h8
  have HB8 := Lib.hid (HB4.out.fr0 (h47.trans0 h8))
  have HS8 := Lib.hid (HS7.out.fr0 h8)
  go_wp2_with fail
  have hval := rdgValue B4 p4 tb4 mb4 k4 8 _ (0, 0) LB1 w8 HB8.out.rd (by decide) rfl
  refine hval.mono ?_
  rintro e w9 ⟨rfl, h9⟩
  have hF9 := hF8.trans0 h9
  have HB9 := Lib.hid (HB8.out.fr0 h9)
  have HS9 := Lib.hid (HS8.out.fr0 h9)
  have hq5 : ∀ u, (binOp .eql 62 five five).run Tryz.prog u = .ok (.bool true) u := fun u => by kernel_rfl
  clear hval
  go_wp2_with fail
  refine (bookWidth B4 p4 tb4 mb4 k4 ktb4 kmb4 8 _ LB1 w9 HB9.out).mono ?_
  rintro e w10 ⟨rfl, h10⟩
  have hF10 := hF9.trans0 h10
  obtain ⟨b', o', c', ec, lb7, hc⟩ := (HS9.out.fr0 h10).cell (by omega)
  cases ec
  have d11 : w10.cell? ⟨g7, 11, none⟩ = some (.int .i64 1) := by simpa using hc 11 _ rfl
  have d12 : w10.cell? ⟨g7, 12, none⟩ = some (.int .i64 1) := by simpa using hc 12 _ rfl
  have d13 : w10.cell? ⟨g7, 13, none⟩ = some (.int .i64 2) := by simpa using hc 13 _ rfl
  have d14 : w10.cell? ⟨g7, 14, none⟩ = some (.int .i64 0) := by simpa using hc 14 _ rfl
  have d15 : w10.cell? ⟨g7, 15, none⟩ = some (.int .i64 0) := by simpa using hc 15 _ rfl
  have d16 : w10.cell? ⟨g7, 16, none⟩ = some (.int .i64 0) := by simpa using hc 16 _ rfl
  have d17 : w10.cell? ⟨g7, 17, none⟩ = some (.int .i64 0) := by simpa using hc 17 _ rfl
  have d18 : w10.cell? ⟨g7, 18, none⟩ = some (.int .i64 0) := by simpa using hc 18 _ rfl
  have d19 : w10.cell? ⟨g7, 19, none⟩ = some (.int .i64 0) := by simpa using hc 19 _ rfl
  have d20 : w10.cell? ⟨g7, 20, none⟩ = some (.int .i64 0) := by simpa using hc 20 _ rfl
  have d21 : w10.cell? ⟨g7, 21, none⟩ = some (.string ⟨#[98, 34, 99]⟩) := by simpa using hc 21 _ rfl
  have hqE : ∀ u, (binOp .eql 37 (.agg #[.int .i64 1, .int .i64 1, .int .i64 2, .int .i64 0, .int .i64 0, .int .i64 0, .int .i64 0, .int .i64 0, .int .i64 0, .int .i64 0, .string ⟨#[98, 34, 99]⟩]) (.agg #[.int .i64 1, .int .i64 1, .int .i64 2, .int .i64 0, .int .i64 0, .int .i64 0, .int .i64 0, .int .i64 0, .int .i64 0, .int .i64 0, .string ⟨#[98, 34, 99]⟩])).run Tryz.prog u = .ok (.bool true) u := fun u => by kernel_rfl
  clear hc hq5
  go_wp2_with fail
  go_ret
  exact ⟨rfl, hF10⟩
end
section
open Go.RowKit

/-- A batch: k places from the f-th on. -/
def batL (cols f k : Nat) (t : ByteArray) : List (Sp × ByteArray) := (List.range k).map fun i => (spN cols (f + i), t)
theorem batL_len (cols f k : Nat) (t : ByteArray) : (batL cols f k t).length = k := by simp [batL]
theorem batL_succ (cols f k : Nat) (t : ByteArray) : batL cols f (k + 1) t = batL cols f k t ++ [(spN cols (f + k), t)] := by simp [batL, List.range_succ]
theorem batL_all (cols k : Nat) (t : ByteArray) : batL cols 0 k t = manyL cols k t := by simp [batL, manyL]
theorem sets_bat {cols : Nat} (hc : 0 < cols) (f : Nat) (t : ByteArray) : ∀ k : Nat, setsC (batL cols f k t) (manyL cols f (litC t)) = manyL cols (f + k) (litC t)
  | 0 => by simp [batL, setsC]
  | k + 1 => by
    rw [batL_succ, setsC_snoc, sets_bat hc f t k]
    exact (manyL_put hc (f + k) (litC t)).1
theorem many_sort {cols : Nat} (hc : 0 < cols) (n : Nat) (x : Cel) : sortC (manyL cols n x) = manyL cols n x := sortC_id (manyL_asc hc n x)
theorem many_txt (cols n : Nat) (t : ByteArray) : txtC (manyL cols n (litC t)) = manyL cols n t := by simp [manyL, txtC, litC]
theorem bat_good {cols f k : Nat} {t : ByteArray} (hc : 0 < cols) (h7 : cols ≤ 702) (hk : f + k ≤ 65536) (ht : LitT t) : GoodE (batL cols f k t) := by
  intro e he
  simp only [batL, List.mem_map, List.mem_range] at he
  obtain ⟨i, hi, rfl⟩ := he
  obtain ⟨h1, h2, h3, h4⟩ := spN_may hc h7 (show f + i < 65536 by omega)
  exact ⟨by simp [mayS]; omega, ht⟩
theorem many_good {cols n : Nat} {t : ByteArray} (hc : 0 < cols) (h7 : cols ≤ 702) (hk : n ≤ 65536) (ht : LitT t) : GoodE (manyL cols n t) := by
  rw [← batL_all]
  exact bat_good hc h7 (by omega) ht
theorem many_sets {cols : Nat} (hc : 0 < cols) (n : Nat) (t : ByteArray) : setsC (manyL cols n t) [] = manyL cols n (litC t) := by
  have h := sets_bat hc 0 t n
  rw [batL_all, Nat.zero_add] at h
  simpa [manyL] using h
theorem many_lits {cols n : Nat} {t : ByteArray} (ht : LitT t) : Lits (manyL cols n (litC t)) := by
  intro x hx
  simp only [manyL, List.mem_map] at hx
  obtain ⟨i, _, rfl⟩ := hx
  exact ⟨t, rfl, ht.pos, ht.le⟩
theorem many_mays {cols n : Nat} {t : ByteArray} (hc : 0 < cols) (h7 : cols ≤ 702) (hn : n ≤ 65536) : Mays (manyL cols n (litC t)) := by
  intro x hx
  simp only [manyL, List.mem_map, List.mem_range] at hx
  obtain ⟨i, hi, rfl⟩ := hx
  obtain ⟨h1, h2, h3, h4⟩ := spN_may hc h7 (show i < 65536 by omega)
  simp [mayS]
  omega
theorem many_last {cols n : Nat} (hc : 0 < cols) (t : ByteArray) : getS (spN cols n) (manyL cols (n + 1) (litC t)) = some (litC t) := by
  rw [← (manyL_put hc n (litC t)).1]
  rw [getS_put, if_pos rfl]
/-- What Save lays of them, and its length. -/
theorem many_head {cols : Nat} (hc : 0 < cols) (n : Nat) (t : ByteArray) : headI 16 (txtC (sortC (sortC (manyL cols n (litC t))))) = headI 16 (manyL cols n t) := by rw [many_sort hc, many_sort hc, many_txt]
theorem many_size (cols n : Nat) (t : ByteArray) (F : Int) : (headI 16 (manyL cols n t) ++ beI 8 F).length = 17 + n * (8 + t.size) := by
  rw [List.length_append, headI_len, beI_len, manyL_bytes]
  omega
end
section
open Go.RowKit Go.Shelf

theorem own_cap {w : World} {B : Nat} {e : TypeId} {size n n2 cap : Nat} {a : Option Addr} {xs : List Value} (h : w.ownsRow B e size (.slice a n2 cap) n xs) : n ≤ cap := by
  obtain ⟨_, _, e, h1, _⟩ := (own_sl h).form
  cases e
  exact h1

set_option maxRecDepth 100000 in
set_option maxHeartbeats 3200000 in
theorem lawHanded (pb po M cap : Nat) (bs : List Int) (w : World) (h : SlAt w (.slice (some ⟨pb, po, none⟩) (M + 1) cap) 1 (M + 1) (u8L bs)) (hN : bs.length = M + 1) (hl : M ≤ 4000000) :
    Calls Tryz.prog 17 #[.slice (some ⟨pb, po, none⟩) (M + 1) cap] w fun e w1 => ∃ hb c, e = .returned (.slice (some ⟨hb, 0, none⟩) (M + 1) c) ∧ SlAt w1 (.slice (some ⟨hb, 0, none⟩) (M + 1) c) 1 (M + 1) (u8L bs) ∧ w.heap.size ≤ hb ∧ Fr [] w w1 := by
  obtain ⟨i0, hi, hz0, hz1, hz2⟩ := info_parts info5
  obtain ⟨b', off', c', ec, lb, hcell⟩ := h.cell (by omega)
  cases ec
  have hnews : ∀ (j : Nat) (u : Value), (u8L bs)[j]? = some u → w.cell? ((⟨pb, po, none⟩ : Addr).add j) = some u := fun j u hu => by
    have := hcell j u hu
    unfold Addr.add
    split
    · rename_i h0
      subst h0
      exact this
    · exact this
  have HNW := Lib.hid hnews
  clear h hcell hnews
  go_enter Tryz.func17, Tryz.ntmps17
  go_wp2_with (first
    | (at_builtin; refine wpList_append_own _ rfl _ _ 22 rfl w.heap.size 5 i0 (.int .u8 0) 1 1 Tryz.underlying22 hi hz0 hz1 hz2 rfl (by decide) _ _ _ rfl (World.ownsRow_nil _ _ _ _) ⟨pb, po, none⟩ (M + 1) cap (u8L bs) rfl (by simp [hN]) HNW.out (by simp [u8L, Value.oneCell']) (by unfold maxLen; omega) (by omega) (Nat.le_refl _) ?_; intro v' w2 hown' hgrow _; simp only [Nat.zero_add, List.nil_append] at hown'; obtain ⟨g, cap2, rfl⟩ := ownsRow_succ hown'; have hF2 : Fr [] w w2 := (Fr.refl [] w).grown hgrow (fun k hk => by cases hk); have hz2' := hF2.size)
    | (at_builtin; refine wpList_append_own _ rfl _ _ 22 rfl w.heap.size 5 i0 (.int .u8 0) 1 1 Tryz.underlying22 hi hz0 hz1 hz2 rfl (by decide) _ _ _ rfl (hown'.alloc _) ⟨w2.heap.size, 0, none⟩ 2 2 [.int .u8 238, .int .u8 238] rfl rfl (news_of _ _ _) (by simp [Value.oneCell']) (by unfold maxLen; omega) (by omega) (by simp; omega) ?_; intro v3 w3 hown3 hgrow3 _; obtain ⟨g3, cap3, rfl⟩ := ownsRow_succ (k := M + 1 + 1) hown3; have hcp2 : (M : Int) + 1 ≤ (cap3 : Int) := (by have hcp := own_cap hown3; omega)))
  go_ret
  have hfr := (own_sl hown3).front (M + 1) (by omega)
  rw [Nat.mul_one, List.take_left' (by simp [u8L, hN])] at hfr
  exact ⟨g3, cap3, rfl, hfr, (hown3.lt g3 rfl).1, (hF2.trans0 ((Fr.refl [] w2).alloc _)).grown hgrow3 (fun k hk => .inr (hown'.lt k hk).1)⟩
end
section
open Go.RowKit Go.Shelf

/-- What the batches have made of the workbook: f cells are filled. -/
structure ManyIs (w : World) (B k ktb kmb cols f : Nat) (t : ByteArray) : Prop where
  ex : ∃ p tb mb, BookIs w B p tb mb k ktb kmb 16 (bytesC (manyL cols f (litC t))) (manyL cols f (litC t))

theorem bs_get (bs : List Int) (j : Nat) (h : j < bs.length) : bs[j]? = some (bs.getD j 0) := by
  rw [List.getD_eq_getElem?_getD, List.getElem?_eq_getElem h]
  rfl

set_option maxRecDepth 100000 in
set_option maxHeartbeats 3200000 in
/-- Behind the guards: n cells in rows of cols, a text that is no formula. -/
theorem keepMany (n cols : Nat) (t : ByteArray) (w : World) (hn : n ≤ 65536) (hc : 0 < cols) (h7 : cols ≤ 702) (ht : LitT t) :
    Calls Tryz.prog 4 #[.int .i64 (n : Int), .int .i64 (cols : Int), .string t] w fun e w1 => e = .returned (.bool true) ∧ Fr [] w w1 := by
  obtain ⟨i0, hI, hz0, hz1, hz2⟩ := info_parts infoEd
  have HT := Lib.hid ht
  have hs0 := ht.pos
  have hs1 := ht.le
  have hne := bytes_some ht.pos
  have he : (((t[0]'hs0).toNat : Int) == 61) = false := by
    have := ht.ne hs0
    simp only [beq_eq_false_iff_ne, ne_eq]
    omega
  have HC := Lib.hid hc
  have HLOADG := Lib.hid (many_good hc h7 hn ht)
  clear ht
  go_enter Tryz.func4, Tryz.ntmps4
  go_wp2_with fail
  refine (begun29 w).mono ?_
  rintro e w1 ⟨rfl, h1⟩
  go_wp2_with fail
  refine (bookNew 16 w1 (by omega) (by omega)).mono ?_
  rintro e w2 ⟨B, p, tb, mb, k, ktb, kmb, rfl, hBK, ⟨y1, y2, y3, y4, y5, y6, y7⟩, h2⟩
  have HB0 : Hid (ManyIs w2 B k ktb kmb cols 0 t) := ⟨p, tb, mb, by simpa [manyL, bytesC] using hBK⟩
  have lB := lt_of hBK.bk
  have h12 := h1.trans0 h2
  have z1 := h1.size
  clear hBK he hne
  go_wp2_with fail
  go_loopw [9] (fun v wr => ∃ (q : Nat), v = .int .i64 ((q * 4096 : Nat) : Int) ∧ q * 4096 < n + 4096 ∧ ManyIs wr B k ktb kmb cols (min (q * 4096) n) t ∧ Fr [] w wr) (fun v _ => ((n : Int) + 4096 - intOf v).toNat)
  case atStart => exact ⟨0, by go_num, by omega, by simpa using HB0.out, h12⟩
  case round =>
    obtain ⟨q, rfl, hq, hM, hFr⟩ := hrel
    obtain ⟨f, hf⟩ : ∃ f, q * 4096 = f := ⟨_, rfl⟩
    rw [hf] at hq hM
    simp only [hf]
    have HF := Lib.hid hf
    clear hf
    by_cases hlt : f < n
    · rw [Nat.min_eq_left (by omega)] at hM
      have HM := Lib.hid hM
      have hlt2 : (f : Int) < (n : Int) := by omega
      clear hM
      generalize wr = w3 at *
      go_wp2_with fail
      obtain ⟨AB, hAB⟩ : ∃ AB, w3.heap.size = AB := ⟨_, rfl⟩
      have HAB := Lib.hid hAB
      clear hAB
      go_loopw [10, 11] (fun v j wr => ∃ k : Nat, k ≤ 4096 ∧ f + k ≤ n ∧ j = .int .i64 ((f + k : Nat) : Int) ∧ wr.ownsRow AB 37 11 v k ((batL cols f k t).flatMap edC) ∧ Fr [] w3 wr) (fun _ j _ => ((n : Int) - intOf j).toNat)
      case atStart => exact ⟨0, by omega, by omega, by go_num, World.ownsRow_nil _ _ _ _, Fr.refl _ _⟩
      case round =>
        obtain ⟨c, hi1, hi2, rfl, hrow, hFx⟩ := hrel
        have hwf : IntKind.i64.wrap ((f : Int) + 4096) = (f : Int) + 4096 := by rw [IntKind.wrap_i64]; omega
        by_cases hgo : f + c < n ∧ c < 4096
        · obtain ⟨hg1, hg2⟩ := hgo
          obtain ⟨x, hx⟩ : ∃ x, f + c = x := ⟨_, rfl⟩
          have hx6 : x < 65536 := by omega
          have zAB : AB ≤ wr.heap.size := by have := hFx.size; have := HAB.out; omega
          have hcz : ¬ ((cols : Int) = 0) := by have := HC.out; omega
          have hqq : IntKind.i64.wrap ((x : Int).tdiv (cols : Int)) = (spN cols x).1 := by
            have e : (x : Int).tdiv (cols : Int) = ((x / cols : Nat) : Int) := by simp [Int.tdiv]
            have e2 : x / cols ≤ x := Nat.div_le_self _ _
            show _ = ((x / cols : Nat) : Int)
            rw [e]
            generalize x / cols = y at *
            rw [IntKind.wrap_i64]
            omega
          have hcz2 : ¬ (cols = 0) := by have := HC.out; omega
          have hqq2 : IntKind.i64.wrap ((x : Int) / (cols : Int)) = (spN cols x).1 := by
            rw [← hqq]
            simp [Int.tdiv]
          have hrr : (x : Int).tmod (cols : Int) = (spN cols x).2 := by simp [Int.tmod, spN]
          have hfx : (f : Int) + (c : Int) = (x : Int) := by omega
          have hxn : (x : Int) < (n : Int) := by omega
          have hxf : (x : Int) < (f : Int) + 4096 := by omega
          have hcj : ((f + c : Nat) : Int) = (x : Int) := by rw [hx]
          rw [hcj]
          have HX := Lib.hid hx
          have hno : ∀ (i D : Nat), wr.heap.size ≤ D → D ∉ (if i = 11 then u10.ownBlock.toList else []) := by
            intro i D hD
            split
            · cases ho : u10.ownBlock with
              | none => simp
              | some g =>
                have := (hrow.lt g ho).2
                simp
                omega
            · simp
          clear hfx hcj hx
          go_wp2_with fail
          refine wp_facts (fun u => Fr u10.ownBlock.toList wr u) (fun i u u' => Fr (if i = 11 then u10.ownBlock.toList else []) u u') [(1, .int .i64 (cols : Int)), (2, .string t), (11, .int .i64 (x : Int))] [[], [], [], [1, 2], [], [], [4, 5], [3, 6], [], [7, 8], [9], [0, 10], [11, 0]]
            (fun i σ u => match i with
              | 0 => σ 78 = u10
              | 1 => σ 79 = .int .i64 (x : Int)
              | 2 => σ 80 = .int .i64 (cols : Int)
              | 3 => σ 81 = .int .i64 (spN cols x).1
              | 4 => σ 82 = .int .i64 (x : Int)
              | 5 => σ 83 = .int .i64 (cols : Int)
              | 6 => σ 84 = .int .i64 (spN cols x).2
              | 7 => σ 85 = spV (spN cols x)
              | 8 => σ 86 = .string t
              | 9 => σ 87 = .agg #[.int .i64 1, .int .i64 (spN cols x).1, .int .i64 (spN cols x).2, .int .i64 0, .int .i64 0, .int .i64 0, .int .i64 0, .int .i64 0, .int .i64 0, .int .i64 0, .string t]
              | 10 => ∃ D, σ 88 = .slice (some ⟨D, 0, none⟩) 1 1 ∧ u.heap[D]? = some (.cells #[.int .i64 1, .int .i64 (spN cols x).1, .int .i64 (spN cols x).2, .int .i64 0, .int .i64 0, .int .i64 0, .int .i64 0, .int .i64 0, .int .i64 0, .int .i64 0, .string t] 37 (0, 0)) ∧ wr.heap.size ≤ D
              | 11 => ∃ v2, σ 89 = v2 ∧ u.ownsRow AB 37 11 v2 (c + 1) ((batL cols f c t).flatMap edC ++ edC (spN cols x, t))
              | _ => ∃ v2, σ 10 = v2 ∧ u.ownsRow AB 37 11 v2 (c + 1) ((batL cols f c t).flatMap edC ++ edC (spN cols x, t))) (fun i u => i = 11 → Fr [] wr u)
            (ds := [78, 79, 80, 81, 82, 83, 84, 85, 86, 87, 88, 89, 10]) (fr := ?fr15) (by kernel_rfl) ?hfr15 ⟨rfl, rfl, rfl, trivial⟩ rfl rfl (by kernel_rfl) (by kernel_rfl) (by decide) rfl (Fr.refl _ _).drew (fun _ _ _ => (Fr.refl _ _).drew) ⟨fun j hj i u u' hij _ hG hR hN e => (hN e).trans0 (by subst e; rwa [if_neg hij] at hR), fun i u u' hG hR => (by split at hR; exact hG.trans hR (fun q hq => .inl (by first | exact hq | exact List.mem_cons_of_mem _ hq | exact List.mem_cons.2 (.inl (List.mem_singleton.1 hq)))); exact hG.trans0 hR), ?_, ?_⟩ ?_
          case hfr15 =>
            intro σ
            simp only [layA, List.foldl_cons, List.foldl_nil, List.setIfInBounds_toArray, List.set_cons_zero, List.set_cons_succ]
            rfl
          · intro j hj i σ σ' u u' hij hs hd hG hR h
            have hj : j < 13 := hj
            rcases (by omega : j = 10 ∨ j = 11 ∨ j = 12 ∨ j = 0 ∨ j = 1 ∨ j = 2 ∨ j = 3 ∨ j = 4 ∨ j = 5 ∨ j = 6 ∨ j = 7 ∨ j = 8 ∨ j = 9) with rfl | rfl | rfl | rfl | rfl | rfl | rfl | rfl | rfl | rfl | rfl | rfl | rfl
            · obtain ⟨D, h1, h2, h3⟩ := h; exact ⟨D, hs.trans h1, hR.heap h2 (hno _ _ h3), h3⟩
            · obtain ⟨v2, h1, h2⟩ := h; exact ⟨v2, hs.trans h1, owns_fr h2 hR (fun g hg hm => by rw [if_neg hij] at hm; simp at hm)⟩
            · obtain ⟨v2, h1, h2⟩ := h; exact ⟨v2, hs.trans h1, owns_fr h2 hR (fun g hg hm => by have h8 : i ≠ 11 := (fun e => (hd 11 rfl).2 e); rw [if_neg h8] at hm; simp at hm)⟩
            all_goals exact hs.trans h
          · intro i hi
            have hi : i < 13 := hi
            rcases (by omega : (i = 1 ∨ i = 2 ∨ i = 3 ∨ i = 4 ∨ i = 5 ∨ i = 6 ∨ i = 7 ∨ i = 8 ∨ i = 9) ∨ (i = 0 ∨ i = 10 ∨ i = 11 ∨ i = 12)) with hi | hi
            · rcases hi with rfl | rfl | rfl | rfl | rfl | rfl | rfl | rfl | rfl
              all_goals
                intro a u K hX hG hD hN hZ hK
                obtain ⟨hx1, hx2, hx11, -⟩ := hX
                try dsimp only [AllF, slotsA, List.getD_cons_zero, List.getD_cons_succ] at hD
                first | obtain ⟨e0, e1, e2, e3, -⟩ := hD | obtain ⟨e0, e1, e2, -⟩ := hD | obtain ⟨e0, e1, -⟩ := hD | obtain ⟨e0, -⟩ := hD | skip
                try replace e0 : _ = _ := e0
                try replace e1 : _ = _ := e1
                try replace e2 : _ = _ := e2
                try replace e3 : _ = _ := e3
                refine wpOp_step rfl (fun K' hK' => ?_)
                go_simp
                exact hK' _ _ (hK _ _ (Fr.refl _ _) rfl)
            · rcases hi with rfl | rfl | rfl | rfl
              all_goals
                intro a u K hX hG hD hN hZ hK
                obtain ⟨hx1, hx2, hx11, -⟩ := hX
                try dsimp only [AllF, slotsA, List.getD_cons_zero, List.getD_cons_succ] at hD
              · have e0 : a.tmps[10]?.getD undef = u10 := hZ 12 10 rfl (by decide)
                refine wpOp_step rfl (fun K' hK' => ?_)
                go_simp
                exact hK' _ _ (hK _ _ (Fr.refl _ _) rfl)
              · obtain ⟨d9, -⟩ := hD
                replace d9 : _ = _ := d9
                refine wpOp_step rfl (fun K' hK' => ?_)
                go_simp
                exact hK' _ _ (hK _ _ ((Fr.refl [] u).alloc _) ⟨_, rfl, heap_new u _, hG.size⟩)
              · obtain ⟨d0, ⟨D, d10, hb, hz⟩, -⟩ := hD
                replace d0 : _ = _ := d0
                have hrow2 := owns_fr hrow (hN rfl) (fun _ _ => by simp)
                refine wpOp_plain rfl rfl (wp_append_own u (.tmp 78) (.tmp 88) 39 rfl AB 37 i0 _ 11 96 Tryz.underlying39 hI hz0 hz1 hz2 rfl (by decide) u10 c _ ((eval_tmp a 78).trans d0) hrow2 ⟨D, 0, none⟩ 1 1 (edC (spN cols x, t)) ((eval_tmp a 88).trans d10) rfl (news_blk hb) (by simp [Value.oneCell', edC]) (by unfold maxLen; omega) (by omega) (Nat.le_trans zAB hG.size) ?_)
                intro v2 u2 ho hgr _
                exact hK _ _ (fr_grownB hgr) ⟨v2, rfl, ho⟩
              · obtain ⟨⟨v2, d11, ho⟩, -⟩ := hD
                replace d11 : _ = _ := d11
                refine wpOp_step rfl (fun K' hK' => ?_)
                go_simp
                exact hK' _ _ (hK _ _ (Fr.refl _ _) ⟨v2, rfl, ho⟩)
          · intro σ u hG h
            obtain ⟨v2, e2, ho⟩ := h 12 (by decide)
            clear h
            go_wp2_with fail
            have hb1 : batL cols f (c + 1) t = batL cols f c t ++ [(spN cols x, t)] := by rw [batL_succ, HX.out]
            have hXx := HX.out
            refine ⟨⟨c + 1, by omega, by omega, by go_num, ?_, ?_⟩, by simp [intOf]; omega⟩
            · rw [e2, hb1, List.flatMap_append]
              simpa using ho
            · exact hFx.trans hG (fun g hg => by
                cases ho : u10.ownBlock with
                | none => rw [ho] at hg; simp at hg
                | some g2 =>
                  have := (hrow.lt g2 ho).1
                  have := HAB.out
                  rw [ho] at hg
                  simp at hg
                  omega)
        · obtain ⟨d, rfl⟩ : ∃ d, c = d + 1 := ⟨c - 1, by omega⟩
          obtain ⟨x, hx⟩ : ∃ x, f + (d + 1) = x := ⟨_, rfl⟩
          have hcj : ((f + (d + 1) : Nat) : Int) = (x : Int) := by rw [hx]
          have hcase : ¬ ((x : Int) < (n : Int)) ∨ ((x : Int) < (n : Int) ∧ ¬ ((x : Int) < (f : Int) + 4096)) := by omega
          obtain ⟨g, cap, rfl⟩ := ownsRow_succ hrow
          have hgl := (hrow.lt g rfl).1
          have hgl2 := (hrow.lt g rfl).2
          obtain ⟨⟨p3, tb3, mb3, hBK⟩⟩ := HM.out
          have lB2 := lt_of hBK.bk
          have hgB : g ≠ B := by have := HAB.out; omega
          have HB := Lib.hid (hBK.fr0 hFx)
          have lB3 := lt_of (hBK.fr0 hFx).bk
          have hsl := Lib.hid (own_sl hrow)
          have hcp : d + 1 ≤ cap ∧ cap ≤ 9223372036854775807 := by
            obtain ⟨_, _, e, h1, h2⟩ := (own_sl hrow).form
            cases e
            exact ⟨h1, h2⟩
          obtain ⟨hcp1, hcp2⟩ := hcp
          have hse : setsC (batL cols f (d + 1) t) (sortC (manyL cols f (litC t))) = manyL cols x (litC t) := by
            rw [many_sort HC.out, sets_bat HC.out, hx]
          have hmin : min ((q + 1) * 4096) n = x := by
            have := HF.out
            omega
          have HAP := Lib.hid (bookApply B p3 tb3 mb3 k ktb kmb g 0 (d + 1) cap 16 (manyL cols f (litC t)) (batL cols f (d + 1) t) wr HB.out hsl.out (batL_len _ _ _ _) (by omega) (by omega) (bat_good HC.out h7 (by omega) HT.out) (many_lits HT.out) (many_mays HC.out h7 (by omega)) (by rw [manyL_len]; omega) (by rw [hse, manyL_len]; omega) hgB)
          rw [hse] at HAP
          clear hse hrow hsl HB hBK
          rw [hcj]
          rcases hcase with hxn | ⟨hxn, hxf⟩
          all_goals
            go_wp2_with fail
            refine HAP.out.mono ?_
            rintro e w5 ⟨rfl, p5, tb5, mb5, hBK5, -, -, -, hF5⟩
            have HB5 := Lib.hid hBK5
            have hAl := heap_new w5 (.cells #[.int .i64 0, .int .i64 0, .slice none 0 0, .int .i64 0, .int .i64 0, .int .i64 0, .int .i64 0, .slice none 0 0] 30)
            have hFa := (Fr.refl [] w5).alloc (.cells #[.int .i64 0, .int .i64 0, .slice none 0 0, .int .i64 0, .int .i64 0, .int .i64 0, .int .i64 0, .slice none 0 0] 30)
            have a0 := cell_of hAl 0
            have a2 := cell_of hAl 2
            clear hBK5
            go_wp2_with (refine wpList_store_new rfl 30 _ _ rfl w5 30 _ #[.int .i64 0, .int .i64 0, .slice none 0 0, .int .i64 0, .int .i64 0, .int .i64 0, .int .i64 0, .slice none 0 0] rfl rfl rfl (by kernel_rfl) rfl (by simp [Value.oneCell']) ?_)
            refine ⟨⟨q + 1, congrArg (Value.int .i64) (by have := HF.out; omega), by have := HF.out; omega, ⟨p5, tb5, mb5, ?_⟩, ?_⟩, by simp [intOf]; omega⟩
            · rw [hmin]
              exact HB5.out.fr0 hFa
            · exact ((hFr.trans0 hFx).trans hF5 (by simp; omega)).trans0 hFa
    · rw [Nat.min_eq_right (by omega)] at hM
      obtain ⟨⟨p3, tb3, mb3, hBK⟩⟩ := hM
      have HB3 := Lib.hid hBK
      have hlt2 : (n : Int) ≤ (f : Int) := by omega
      have hfn : ¬ ((f : Int) < (n : Int)) := by omega
      have hFr3 := hFr
      clear hBK hFr
      generalize wr = w3 at *
      go_wp2_with fail
      refine (callsIn_wide.1 (keepSave_in B p3 tb3 mb3 k ktb kmb 16 _ (manyL cols n (litC t)) w3 HB3.out (by rw [manyL_len]; exact hn) (many_lits HT.out) (many_mays HC.out h7 hn) (by omega) (by omega))).mono ?_
      rintro e w4 ⟨v4, bs, rfl, hbs, hrow, h4⟩
      rw [many_head HC.out] at hbs
      obtain ⟨Y, hY⟩ : ∃ Y, n * (8 + t.size) = Y := ⟨_, rfl⟩
      have hY0 : Y ≤ 65536 * 48 := by rw [← hY]; exact Nat.mul_le_mul hn (by omega)
      have hlen : bs.length = 17 + Y := by rw [hbs, many_size, hY]
      obtain ⟨M, hM⟩ : ∃ M, bs.length = M + 1 := ⟨16 + Y, by omega⟩
      have HMY := Lib.hid (show M = 16 + Y by omega)
      rw [hM] at hrow
      obtain ⟨g4, cap4, rfl⟩ := ownsRow_succ hrow
      have hgl := (hrow.lt g4 rfl).2
      have HS4 := Lib.hid (own_sl hrow)
      have HC4 := Lib.hid (own_cells hrow)
      have HBS := Lib.hid hbs
      have HM4 := Lib.hid hM
      have hw1 : IntKind.i64.wrap (8 + (t.size : Int)) = 8 + (t.size : Int) := by rw [IntKind.wrap_i64]; omega
      have hyy : (n : Int) * (8 + (t.size : Int)) = (Y : Int) := by rw [← hY]; simp
      have hw2 : IntKind.i64.wrap ((n : Int) * (8 + (t.size : Int))) = (Y : Int) := by rw [hyy, IntKind.wrap_i64]; omega
      have hw3 : IntKind.i64.wrap (17 + (Y : Int)) = (M : Int) + 1 := by have := HMY.out; rw [IntKind.wrap_i64]; omega
      clear hrow hbs hlen hM hyy hY
      go_wp2_with fail
      refine (lawHanded g4 0 M cap4 bs w4 HS4.out HM4.out (by have := HMY.out; omega)).mono ?_
      rintro e w5 ⟨hb, c5, rfl, hsl5, hbw, h5⟩
      obtain ⟨b', o', c', ec, lb5, hc5⟩ := hsl5.cell (by omega)
      cases ec
      have hcp : M + 1 ≤ c5 ∧ c5 ≤ 9223372036854775807 := by
        obtain ⟨_, _, e, h1, h2⟩ := hsl5.form
        cases e
        exact ⟨h1, h2⟩
      obtain ⟨hcp1, hcp2⟩ := hcp
      have HC5 : Hid (∀ j c, bs[j]? = some c → w5.cell? ⟨hb, 0 + j, none⟩ = some (.int .u8 c)) := fun j c hj => hc5 j (.int .u8 c) (by simp [u8L, hj])
      clear hsl5 hc5
      go_wp2_with fail
      have hse : sortC (setsC (manyL cols n t) []) = manyL cols n (litC t) := by rw [many_sets HC.out, many_sort HC.out]
      refine (keepLoad hb 0 (M + 1) c5 16 (manyL cols n t) bs w5 HBS.out HM4.out HC5.out lb5 hcp1 hcp2 (by omega) (by omega) (by rw [manyL_len]; exact hn) (manyL_asc HC.out n t) HLOADG.out (by rw [many_sets HC.out, manyL_len]; exact hn)).mono ?_
      rintro e w6 ⟨B6, p6, tb6, mb6, k6, ktb6, kmb6, l2, rfl, hl2, hBK6, -, h6⟩
      rw [hse] at hl2
      subst hl2
      have HB6 := Lib.hid hBK6
      clear hBK6 hse
      go_wp2_with fail
      refine (callsIn_wide.1 (keepSave_in B6 p6 tb6 mb6 k6 ktb6 kmb6 16 _ (manyL cols n (litC t)) w6 HB6.out (by rw [manyL_len]; exact hn) (many_lits HT.out) (many_mays HC.out h7 hn) (by omega) (by omega))).mono ?_
      rintro e w7 ⟨v7, bs7, rfl, hbs7, hrow7, h7a⟩
      rw [many_head HC.out, ← HBS.out] at hbs7
      obtain rfl := hbs7.symm
      rw [HM4.out] at hrow7
      obtain ⟨g6, cap6, rfl⟩ := ownsRow_succ hrow7
      have hgl7 := (hrow7.lt g6 rfl).2
      have HC7 := Lib.hid (own_cells hrow7)
      clear hrow7
      go_wp2_with fail
      refine (bookSheet B6 p6 tb6 mb6 k6 ktb6 kmb6 16 _ (manyL cols n (litC t)) w7 (HB6.out.fr0 h7a) (by rw [manyL_len]; exact hn) (many_mays HC.out h7 hn)).mono ?_
      rintro e W ⟨p5, tb5, mb5, rfl, -, -, -, hSH, h8⟩
      rw [many_sort HC.out] at hSH
      have hlenF : Hid (∀ u, Fr [] W u → Calls Tryz.prog 19 #[.pointer (some ⟨p5, 0, none⟩)] u fun e w1 => e = .returned (.int .i64 (n : Int)) ∧ Fr [] u w1) := fun u hu => by
        have h := shLen p5 tb5 mb5 _ _ u (hSH.fr0 hu)
        rwa [manyL_len] at h
      have htext : Hid (∀ m, n = m + 1 → ∀ u, Fr [] W u → Calls Tryz.prog 20 #[.pointer (some ⟨p5, 0, none⟩), spV (spN cols m)] u fun e w1 => e = .returned (.string t) ∧ Fr [] u w1) := fun m hm u hu => by
        subst hm
        have h := shText p5 tb5 mb5 _ (spN cols m) _ u (hSH.fr0 hu)
        rw [many_last HC.out] at h
        exact h
      obtain ⟨S, hS⟩ : ∃ S, strOfNums bs = S := ⟨_, rfl⟩
      have hF47 := h5.trans0 (h6.trans0 (h7a.trans0 h8))
      have hcv1 : Hid (∀ u, Fr [] W u → (convert 22 9 (.slice (some ⟨g4, 0, none⟩) (M + 1) cap4)).run Tryz.prog u = .ok (.string S) u) := fun u hu => by
        rw [← hS]
        refine run_convert_bytes_arg (P := Tryz.prog) u 22 5 Tryz.underlying22 Tryz.underlying5 g4 0 (M + 1) cap4 bs HM4.out (fun j hj => ?_) 9 Tryz.underlying9
        exact ((hF47.trans0 hu).cell (p := ⟨g4, 0 + j, none⟩) hgl (by simp)).trans (HC4.out j _ (bs_get bs j (by rw [HM4.out]; exact hj)))
      have hcv2 : Hid (∀ u, Fr [] W u → (convert 22 9 (.slice (some ⟨g6, 0, none⟩) (M + 1) cap6)).run Tryz.prog u = .ok (.string S) u) := fun u hu => by
        rw [← hS]
        refine run_convert_bytes_arg (P := Tryz.prog) u 22 5 Tryz.underlying22 Tryz.underlying5 g6 0 (M + 1) cap6 bs HM4.out (fun j hj => ?_) 9 Tryz.underlying9
        exact ((h8.trans0 hu).cell (p := ⟨g6, 0 + j, none⟩) hgl7 (by simp)).trans (HC7.out j _ (bs_get bs j (by rw [HM4.out]; exact hj)))
      have hFW : Fr [] w W := hFr3.trans0 (h4.trans0 hF47)
      have hcz2 : ¬ (cols = 0) := by have := HC.out; omega
      clear hSH hS hF47 hw1 hw2 hw3 h4 h5 h6 h7a h8 hgl hgl7
      go_wp2_with fail
      obtain hn0 | ⟨m, hnm⟩ : n = 0 ∨ ∃ m, n = m + 1 := by
        cases n with
        | zero => exact .inl rfl
        | succ m => exact .inr ⟨m, rfl⟩
      · clear htext HM4 HBS HC4 HC5 HC7 HB3 HB6 HS4 HMY
        subst hn0
        refine wp_facts (fun u => Fr [] W u) (RelS W.heap.size []) [(0, .int .i64 0), (1, .int .i64 (cols : Int)), (2, .string t), (13, .slice (some ⟨g4, 0, none⟩) (M + 1) cap4), (18, .slice (some ⟨g6, 0, none⟩) (M + 1) cap6), (19, .int .i64 0), (20, .pointer (some ⟨p5, 0, none⟩))] [[], [0], [1], [2], [3, 2], [2], [5, 2], [4, 6, 2], [2, 7], [8], [9], [10, 9], [9, 11], [12], [13], [14, 13], [13], [15, 16, 13], [13, 17], [18], [19], [20, 19], [21, 19], [22], [22], [24, 22], [22], [25, 26, 22], [22], [28, 22], [22], [29, 30, 22], [27, 31, 22], [23, 32, 22], [22], [33, 34, 22], [22, 35, 19], [19, 36], [37]]
          (fun i σ u => match i with
            | 0 => σ 145 = .int .i64 0
            | 1 => σ 146 = .bool true
            | 2 => σ 147 = .bool true
            | 3 => σ 148 = .slice (some ⟨g6, 0, none⟩) (M + 1) cap6
            | 4 => σ 149 = .string S
            | 5 => σ 150 = .slice (some ⟨g4, 0, none⟩) (M + 1) cap4
            | 6 => σ 151 = .string S
            | 7 => σ 152 = .bool true
            | 8 => σ 153 = .bool true
            | 9 => σ 154 = .bool true
            | 10 => σ 155 = .pointer (some ⟨p5, 0, none⟩)
            | 11 => σ 156 = .bool true
            | 12 => σ 157 = .bool true
            | 13 => σ 158 = .bool true
            | 14 => σ 159 = .pointer (some ⟨p5, 0, none⟩)
            | 15 => σ 160 = .int .i64 0
            | 16 => σ 161 = .int .i64 0
            | 17 => σ 162 = .bool true
            | 18 => σ 163 = .bool true
            | 19 => σ 164 = .bool true
            | 20 => σ 165 = .int .i64 0
            | 21 => σ 166 = .bool true
            | 22 => σ 167 = .bool true
            | 23 => True
            | 24 => True
            | 25 => True
            | 26 => True
            | 27 => True
            | 28 => True
            | 29 => True
            | 30 => True
            | 31 => True
            | 32 => True
            | 33 => True
            | 34 => True
            | 35 => True
            | 36 => σ 181 = .bool true
            | 37 => σ 182 = .bool true
            | _ => σ 6 = .bool true) (fun _ _ => True)
          (ds := [145, 146, 147, 148, 149, 150, 151, 152, 153, 154, 155, 156, 157, 158, 159, 160, 161, 162, 163, 164, 165, 166, 167, 168, 169, 170, 171, 172, 173, 174, 175, 176, 177, 178, 179, 180, 181, 182, 6]) (fr := ?fr27z) (by kernel_rfl) ?hfr27z ⟨rfl, rfl, rfl, rfl, rfl, rfl, rfl, trivial⟩ rfl rfl (by kernel_rfl) (by kernel_rfl) (by decide) rfl (Fr.refl _ _).drew (fun _ _ => trivial) ⟨fun _ _ _ _ _ _ _ _ _ _ => trivial, fun i u u' hG hR => hR.fr hG, ?_, ?_⟩ ?_
        case hfr27z =>
          intro σ
          simp only [layA, List.foldl_cons, List.foldl_nil, List.setIfInBounds_toArray, List.set_cons_zero, List.set_cons_succ]
          rfl
        · intro j hj i σ σ' u u' hij hs hd hG hR h
          have hj : j < 39 := hj
          rcases (by omega : j = 23 ∨ j = 24 ∨ j = 25 ∨ j = 26 ∨ j = 27 ∨ j = 28 ∨ j = 29 ∨ j = 30 ∨ j = 31 ∨ j = 32 ∨ j = 33 ∨ j = 34 ∨ j = 35 ∨ j = 0 ∨ j = 1 ∨ j = 2 ∨ j = 3 ∨ j = 4 ∨ j = 5 ∨ j = 6 ∨ j = 7 ∨ j = 8 ∨ j = 9 ∨ j = 10 ∨ j = 11 ∨ j = 12 ∨ j = 13 ∨ j = 14 ∨ j = 15 ∨ j = 16 ∨ j = 17 ∨ j = 18 ∨ j = 19 ∨ j = 20 ∨ j = 21 ∨ j = 22 ∨ j = 36 ∨ j = 37 ∨ j = 38) with rfl | rfl | rfl | rfl | rfl | rfl | rfl | rfl | rfl | rfl | rfl | rfl | rfl | rfl | rfl | rfl | rfl | rfl | rfl | rfl | rfl | rfl | rfl | rfl | rfl | rfl | rfl | rfl | rfl | rfl | rfl | rfl | rfl | rfl | rfl | rfl | rfl | rfl | rfl
          · trivial
          · trivial
          · trivial
          · trivial
          · trivial
          · trivial
          · trivial
          · trivial
          · trivial
          · trivial
          · trivial
          · trivial
          · trivial
          all_goals exact hs.trans h
        · intro i hi
          have hi : i < 39 := hi
          rcases (by omega : (i = 0 ∨ i = 1 ∨ i = 2 ∨ i = 8 ∨ i = 9 ∨ i = 12 ∨ i = 13 ∨ i = 18 ∨ i = 19 ∨ i = 37 ∨ i = 38) ∨ (i = 3 ∨ i = 4 ∨ i = 5 ∨ i = 6 ∨ i = 7 ∨ i = 10 ∨ i = 11 ∨ i = 14 ∨ i = 15 ∨ i = 16 ∨ i = 17 ∨ i = 20 ∨ i = 21 ∨ i = 22 ∨ i = 23 ∨ i = 24 ∨ i = 25 ∨ i = 26 ∨ i = 27 ∨ i = 28 ∨ i = 29 ∨ i = 30 ∨ i = 31 ∨ i = 32 ∨ i = 33 ∨ i = 34 ∨ i = 35 ∨ i = 36)) with hi | hi
          · rcases hi with rfl | rfl | rfl | rfl | rfl | rfl | rfl | rfl | rfl | rfl | rfl
            all_goals
              intro a u K hX hG hD hN hZ hK
              obtain ⟨hx0, hx1, hx2, hx13, hx18, hx19, hx20, -⟩ := hX
              try dsimp only [AllF, slotsA, List.getD_cons_zero, List.getD_cons_succ] at hD
              first | obtain ⟨e0, e1, e2, e3, -⟩ := hD | obtain ⟨e0, e1, e2, -⟩ := hD | obtain ⟨e0, e1, -⟩ := hD | obtain ⟨e0, -⟩ := hD | skip
              try replace e0 : _ = _ := e0
              try replace e1 : _ = _ := e1
              try replace e2 : _ = _ := e2
              try replace e3 : _ = _ := e3
              have hr := hG.rules.1
              refine wpOp_step rfl (fun K' hK' => ?_)
              go_simp
              exact hK' _ _ (hK _ _ (Fr.refl _ _) rfl)
          · rcases hi with rfl | rfl | rfl | rfl | rfl | rfl | rfl | rfl | rfl | rfl | rfl | rfl | rfl | rfl | rfl | rfl | rfl | rfl | rfl | rfl | rfl | rfl | rfl | rfl | rfl | rfl | rfl | rfl
            all_goals
              intro a u K hX hG hD hN hZ hK
              obtain ⟨hx0, hx1, hx2, hx13, hx18, hx19, hx20, -⟩ := hX
              try dsimp only [AllF, slotsA, List.getD_cons_zero, List.getD_cons_succ] at hD
              have hr := hG.rules.1
            · obtain ⟨d2, -⟩ := hD
              replace d2 : _ = _ := d2
              refine wpOp_step rfl (fun K' hK' => ?_)
              rw [if_pos (wanted_on rfl rfl d2)]
              go_simp
              exact hK' _ _ (hK _ _ (Fr.refl _ _) rfl)
            · obtain ⟨d3, d2, -⟩ := hD
              replace d3 : _ = _ := d3
              replace d2 : _ = _ := d2
              refine wpOp_step rfl (fun K' hK' => ?_)
              rw [if_pos (wanted_on rfl rfl d2)]
              have hcv := hcv2.out u hG
              go_simp
              exact hK' _ _ (hK _ _ (Fr.refl _ _) rfl)
            · obtain ⟨d2, -⟩ := hD
              replace d2 : _ = _ := d2
              refine wpOp_step rfl (fun K' hK' => ?_)
              rw [if_pos (wanted_on rfl rfl d2)]
              go_simp
              exact hK' _ _ (hK _ _ (Fr.refl _ _) rfl)
            · obtain ⟨d5, d2, -⟩ := hD
              replace d5 : _ = _ := d5
              replace d2 : _ = _ := d2
              refine wpOp_step rfl (fun K' hK' => ?_)
              rw [if_pos (wanted_on rfl rfl d2)]
              have hcv := hcv1.out u hG
              go_simp
              exact hK' _ _ (hK _ _ (Fr.refl _ _) rfl)
            · obtain ⟨d4, d6, d2, -⟩ := hD
              replace d4 : _ = _ := d4
              replace d6 : _ = _ := d6
              replace d2 : _ = _ := d2
              refine wpOp_step rfl (fun K' hK' => ?_)
              rw [if_pos (wanted_on rfl rfl d2)]
              go_simp
              exact hK' _ _ (hK _ _ (Fr.refl _ _) rfl)
            · obtain ⟨d9, -⟩ := hD
              replace d9 : _ = _ := d9
              refine wpOp_step rfl (fun K' hK' => ?_)
              rw [if_pos (wanted_on rfl rfl d9)]
              go_simp
              exact hK' _ _ (hK _ _ (Fr.refl _ _) rfl)
            · obtain ⟨d10, d9, -⟩ := hD
              replace d10 : _ = _ := d10
              replace d9 : _ = _ := d9
              refine wpOp_step rfl (fun K' hK' => ?_)
              rw [if_pos (wanted_on rfl rfl d9)]
              go_simp
              exact hK' _ _ (hK _ _ (Fr.refl _ _) rfl)
            · obtain ⟨d13, -⟩ := hD
              replace d13 : _ = _ := d13
              refine wpOp_step rfl (fun K' hK' => ?_)
              rw [if_pos (wanted_on rfl rfl d13)]
              go_simp
              exact hK' _ _ (hK _ _ (Fr.refl _ _) rfl)
            · obtain ⟨d14, d13, -⟩ := hD
              replace d14 : _ = _ := d14
              replace d13 : _ = _ := d13
              refine wpOp_step rfl (fun K' hK' => ?_)
              rw [if_pos (wanted_on rfl rfl d13)]
              go_simp
              refine (hlenF.out u hG).mono ?_
              rintro e u2 ⟨rfl, hF⟩
              exact hK' _ _ (hK _ _ hF rfl)
            · obtain ⟨d13, -⟩ := hD
              replace d13 : _ = _ := d13
              refine wpOp_step rfl (fun K' hK' => ?_)
              rw [if_pos (wanted_on rfl rfl d13)]
              go_simp
              exact hK' _ _ (hK _ _ (Fr.refl _ _) rfl)
            · obtain ⟨d15, d16, d13, -⟩ := hD
              replace d15 : _ = _ := d15
              replace d16 : _ = _ := d16
              replace d13 : _ = _ := d13
              refine wpOp_step rfl (fun K' hK' => ?_)
              rw [if_pos (wanted_on rfl rfl d13)]
              go_simp
              exact hK' _ _ (hK _ _ (Fr.refl _ _) rfl)
            · obtain ⟨d19, -⟩ := hD
              replace d19 : _ = _ := d19
              refine wpOp_step rfl (fun K' hK' => ?_)
              rw [if_pos (wanted_on rfl rfl d19)]
              go_simp
              exact hK' _ _ (hK _ _ (Fr.refl _ _) rfl)
            · obtain ⟨d20, d19, -⟩ := hD
              replace d20 : _ = _ := d20
              replace d19 : _ = _ := d19
              refine wpOp_step rfl (fun K' hK' => ?_)
              rw [if_pos (wanted_on rfl rfl d19)]
              go_simp
              exact hK' _ _ (hK _ _ (Fr.refl _ _) rfl)
            · obtain ⟨d21, d19, -⟩ := hD
              replace d21 : _ = _ := d21
              replace d19 : _ = _ := d19
              refine wpOp_step rfl (fun K' hK' => ?_)
              rw [if_pos (wanted_on rfl rfl d19)]
              go_simp
              exact hK' _ _ (hK _ _ (Fr.refl _ _) rfl)
            · obtain ⟨d22, -⟩ := hD
              replace d22 : _ = _ := d22
              refine wpOp_step rfl (fun K' hK' => ?_)
              rw [if_neg (wanted_off rfl rfl d22)]
              exact hK' _ _ (hK undef _ (Fr.refl _ _) trivial)
            · obtain ⟨d22, -⟩ := hD
              replace d22 : _ = _ := d22
              refine wpOp_step rfl (fun K' hK' => ?_)
              rw [if_neg (wanted_off rfl rfl d22)]
              exact hK' _ _ (hK undef _ (Fr.refl _ _) trivial)
            · obtain ⟨d24, d22, -⟩ := hD
              replace d22 : _ = _ := d22
              refine wpOp_step rfl (fun K' hK' => ?_)
              rw [if_neg (wanted_off rfl rfl d22)]
              exact hK' _ _ (hK undef _ (Fr.refl _ _) trivial)
            · obtain ⟨d22, -⟩ := hD
              replace d22 : _ = _ := d22
              refine wpOp_step rfl (fun K' hK' => ?_)
              rw [if_neg (wanted_off rfl rfl d22)]
              exact hK' _ _ (hK undef _ (Fr.refl _ _) trivial)
            · obtain ⟨d25, d26, d22, -⟩ := hD
              replace d22 : _ = _ := d22
              refine wpOp_step rfl (fun K' hK' => ?_)
              rw [if_neg (wanted_off rfl rfl d22)]
              exact hK' _ _ (hK undef _ (Fr.refl _ _) trivial)
            · obtain ⟨d22, -⟩ := hD
              replace d22 : _ = _ := d22
              refine wpOp_step rfl (fun K' hK' => ?_)
              rw [if_neg (wanted_off rfl rfl d22)]
              exact hK' _ _ (hK undef _ (Fr.refl _ _) trivial)
            · obtain ⟨d28, d22, -⟩ := hD
              replace d22 : _ = _ := d22
              refine wpOp_step rfl (fun K' hK' => ?_)
              rw [if_neg (wanted_off rfl rfl d22)]
              exact hK' _ _ (hK undef _ (Fr.refl _ _) trivial)
            · obtain ⟨d22, -⟩ := hD
              replace d22 : _ = _ := d22
              refine wpOp_step rfl (fun K' hK' => ?_)
              rw [if_neg (wanted_off rfl rfl d22)]
              exact hK' _ _ (hK undef _ (Fr.refl _ _) trivial)
            · obtain ⟨d29, d30, d22, -⟩ := hD
              replace d22 : _ = _ := d22
              refine wpOp_step rfl (fun K' hK' => ?_)
              rw [if_neg (wanted_off rfl rfl d22)]
              exact hK' _ _ (hK undef _ (Fr.refl _ _) trivial)
            · obtain ⟨d27, d31, d22, -⟩ := hD
              replace d22 : _ = _ := d22
              refine wpOp_step rfl (fun K' hK' => ?_)
              rw [if_neg (wanted_off rfl rfl d22)]
              exact hK' _ _ (hK undef _ (Fr.refl _ _) trivial)
            · obtain ⟨d23, d32, d22, -⟩ := hD
              replace d22 : _ = _ := d22
              refine wpOp_step rfl (fun K' hK' => ?_)
              rw [if_neg (wanted_off rfl rfl d22)]
              exact hK' _ _ (hK undef _ (Fr.refl _ _) trivial)
            · obtain ⟨d22, -⟩ := hD
              replace d22 : _ = _ := d22
              refine wpOp_step rfl (fun K' hK' => ?_)
              rw [if_neg (wanted_off rfl rfl d22)]
              exact hK' _ _ (hK undef _ (Fr.refl _ _) trivial)
            · obtain ⟨d33, d34, d22, -⟩ := hD
              replace d22 : _ = _ := d22
              refine wpOp_step rfl (fun K' hK' => ?_)
              rw [if_neg (wanted_off rfl rfl d22)]
              exact hK' _ _ (hK undef _ (Fr.refl _ _) trivial)
            · obtain ⟨d22, d35, d19, -⟩ := hD
              replace d22 : _ = _ := d22
              replace d19 : _ = _ := d19
              refine wpOp_step rfl (fun K' hK' => ?_)
              rw [if_pos (wanted_on rfl rfl d19)]
              go_simp
              exact hK' _ _ (hK _ _ (Fr.refl _ _) rfl)
        · intro σ u hG h
          replace h : _ = _ := h 38 (by decide)
          go_wp2_with fail
          go_ret
          exact ⟨by show Ending.returned (σ 6) = _; rw [h], hFW.trans0 hG⟩
      · have hn1 : ¬ ((n : Int) = 0) := by omega
        have hn2 : ¬ (n = 0) := by omega
        have hnb : ((n : Int) == 0) = false := by simp; omega
        have hw9 : IntKind.i64.wrap ((n : Int) - 1) = (m : Int) := by rw [IntKind.wrap_i64]; omega
        have hqm : IntKind.i64.wrap ((m : Int) / (cols : Int)) = (spN cols m).1 := by
          have e : (m : Int) / (cols : Int) = ((m / cols : Nat) : Int) := by simp
          have e2 : m / cols ≤ m := Nat.div_le_self _ _
          show _ = ((m / cols : Nat) : Int)
          rw [e]
          generalize m / cols = y at *
          rw [IntKind.wrap_i64]
          omega
        have hrm : (m : Int).tmod (cols : Int) = (spN cols m).2 := by simp [Int.tmod, spN]
        have HNM := Lib.hid hnm
        clear hnm
        refine wp_facts (fun u => Fr [] W u) (RelS W.heap.size []) [(0, .int .i64 (n : Int)), (1, .int .i64 (cols : Int)), (2, .string t), (13, .slice (some ⟨g4, 0, none⟩) (M + 1) cap4), (18, .slice (some ⟨g6, 0, none⟩) (M + 1) cap6), (19, .int .i64 0), (20, .pointer (some ⟨p5, 0, none⟩))] [[], [0], [1], [2], [3, 2], [2], [5, 2], [4, 6, 2], [2, 7], [8], [9], [10, 9], [9, 11], [12], [13], [14, 13], [13], [15, 16, 13], [13, 17], [18], [19], [20, 19], [21, 19], [22], [22], [24, 22], [22], [25, 26, 22], [22], [28, 22], [22], [29, 30, 22], [27, 31, 22], [23, 32, 22], [22], [33, 34, 22], [22, 35, 19], [19, 36], [37]]
          (fun i σ u => match i with
            | 0 => σ 145 = .int .i64 0
            | 1 => σ 146 = .bool true
            | 2 => σ 147 = .bool true
            | 3 => σ 148 = .slice (some ⟨g6, 0, none⟩) (M + 1) cap6
            | 4 => σ 149 = .string S
            | 5 => σ 150 = .slice (some ⟨g4, 0, none⟩) (M + 1) cap4
            | 6 => σ 151 = .string S
            | 7 => σ 152 = .bool true
            | 8 => σ 153 = .bool true
            | 9 => σ 154 = .bool true
            | 10 => σ 155 = .pointer (some ⟨p5, 0, none⟩)
            | 11 => σ 156 = .bool true
            | 12 => σ 157 = .bool true
            | 13 => σ 158 = .bool true
            | 14 => σ 159 = .pointer (some ⟨p5, 0, none⟩)
            | 15 => σ 160 = .int .i64 (n : Int)
            | 16 => σ 161 = .int .i64 (n : Int)
            | 17 => σ 162 = .bool true
            | 18 => σ 163 = .bool true
            | 19 => σ 164 = .bool true
            | 20 => σ 165 = .int .i64 (n : Int)
            | 21 => σ 166 = .bool false
            | 22 => σ 167 = .bool false
            | 23 => σ 168 = .pointer (some ⟨p5, 0, none⟩)
            | 24 => σ 169 = .int .i64 (n : Int)
            | 25 => σ 170 = .int .i64 (m : Int)
            | 26 => σ 171 = .int .i64 (cols : Int)
            | 27 => σ 172 = .int .i64 (spN cols m).1
            | 28 => σ 173 = .int .i64 (n : Int)
            | 29 => σ 174 = .int .i64 (m : Int)
            | 30 => σ 175 = .int .i64 (cols : Int)
            | 31 => σ 176 = .int .i64 (spN cols m).2
            | 32 => σ 177 = spV (spN cols m)
            | 33 => σ 178 = .string t
            | 34 => σ 179 = .string t
            | 35 => σ 180 = .bool true
            | 36 => σ 181 = .bool true
            | 37 => σ 182 = .bool true
            | _ => σ 6 = .bool true) (fun _ _ => True)
          (ds := [145, 146, 147, 148, 149, 150, 151, 152, 153, 154, 155, 156, 157, 158, 159, 160, 161, 162, 163, 164, 165, 166, 167, 168, 169, 170, 171, 172, 173, 174, 175, 176, 177, 178, 179, 180, 181, 182, 6]) (fr := ?fr27) (by kernel_rfl) ?hfr27 ⟨rfl, rfl, rfl, rfl, rfl, rfl, rfl, trivial⟩ rfl rfl (by kernel_rfl) (by kernel_rfl) (by decide) rfl (Fr.refl _ _).drew (fun _ _ => trivial) ⟨fun _ _ _ _ _ _ _ _ _ _ => trivial, fun i u u' hG hR => hR.fr hG, ?_, ?_⟩ ?_
        case hfr27 =>
          intro σ
          simp only [layA, List.foldl_cons, List.foldl_nil, List.setIfInBounds_toArray, List.set_cons_zero, List.set_cons_succ]
          rfl
        · intro j hj i σ σ' u u' hij hs hd hG hR h
          have hj : j < 39 := hj
          rcases (by omega : j = 0 ∨ j = 1 ∨ j = 2 ∨ j = 3 ∨ j = 4 ∨ j = 5 ∨ j = 6 ∨ j = 7 ∨ j = 8 ∨ j = 9 ∨ j = 10 ∨ j = 11 ∨ j = 12 ∨ j = 13 ∨ j = 14 ∨ j = 15 ∨ j = 16 ∨ j = 17 ∨ j = 18 ∨ j = 19 ∨ j = 20 ∨ j = 21 ∨ j = 22 ∨ j = 23 ∨ j = 24 ∨ j = 25 ∨ j = 26 ∨ j = 27 ∨ j = 28 ∨ j = 29 ∨ j = 30 ∨ j = 31 ∨ j = 32 ∨ j = 33 ∨ j = 34 ∨ j = 35 ∨ j = 36 ∨ j = 37 ∨ j = 38) with rfl | rfl | rfl | rfl | rfl | rfl | rfl | rfl | rfl | rfl | rfl | rfl | rfl | rfl | rfl | rfl | rfl | rfl | rfl | rfl | rfl | rfl | rfl | rfl | rfl | rfl | rfl | rfl | rfl | rfl | rfl | rfl | rfl | rfl | rfl | rfl | rfl | rfl | rfl
          all_goals exact hs.trans h
        · intro i hi
          have hi : i < 39 := hi
          rcases (by omega : (i = 0 ∨ i = 1 ∨ i = 2 ∨ i = 8 ∨ i = 9 ∨ i = 12 ∨ i = 13 ∨ i = 18 ∨ i = 19 ∨ i = 37 ∨ i = 38) ∨ (i = 3 ∨ i = 4 ∨ i = 5 ∨ i = 6 ∨ i = 7 ∨ i = 10 ∨ i = 11 ∨ i = 14 ∨ i = 15 ∨ i = 16 ∨ i = 17 ∨ i = 20 ∨ i = 21 ∨ i = 22 ∨ i = 23 ∨ i = 24 ∨ i = 25 ∨ i = 26 ∨ i = 27 ∨ i = 28 ∨ i = 29 ∨ i = 30 ∨ i = 31 ∨ i = 32 ∨ i = 33 ∨ i = 34 ∨ i = 35 ∨ i = 36)) with hi | hi
          · rcases hi with rfl | rfl | rfl | rfl | rfl | rfl | rfl | rfl | rfl | rfl | rfl
            all_goals
              intro a u K hX hG hD hN hZ hK
              obtain ⟨hx0, hx1, hx2, hx13, hx18, hx19, hx20, -⟩ := hX
              try dsimp only [AllF, slotsA, List.getD_cons_zero, List.getD_cons_succ] at hD
              first | obtain ⟨e0, e1, e2, e3, -⟩ := hD | obtain ⟨e0, e1, e2, -⟩ := hD | obtain ⟨e0, e1, -⟩ := hD | obtain ⟨e0, -⟩ := hD | skip
              try replace e0 : _ = _ := e0
              try replace e1 : _ = _ := e1
              try replace e2 : _ = _ := e2
              try replace e3 : _ = _ := e3
              have hr := hG.rules.1
              refine wpOp_step rfl (fun K' hK' => ?_)
              go_simp
              exact hK' _ _ (hK _ _ (Fr.refl _ _) rfl)
          · rcases hi with rfl | rfl | rfl | rfl | rfl | rfl | rfl | rfl | rfl | rfl | rfl | rfl | rfl | rfl | rfl | rfl | rfl | rfl | rfl | rfl | rfl | rfl | rfl | rfl | rfl | rfl | rfl | rfl
            all_goals
              intro a u K hX hG hD hN hZ hK
              obtain ⟨hx0, hx1, hx2, hx13, hx18, hx19, hx20, -⟩ := hX
              try dsimp only [AllF, slotsA, List.getD_cons_zero, List.getD_cons_succ] at hD
              have hr := hG.rules.1
            · obtain ⟨d2, -⟩ := hD
              replace d2 : _ = _ := d2
              refine wpOp_step rfl (fun K' hK' => ?_)
              rw [if_pos (wanted_on rfl rfl d2)]
              go_simp
              exact hK' _ _ (hK _ _ (Fr.refl _ _) rfl)
            · obtain ⟨d3, d2, -⟩ := hD
              replace d3 : _ = _ := d3
              replace d2 : _ = _ := d2
              refine wpOp_step rfl (fun K' hK' => ?_)
              rw [if_pos (wanted_on rfl rfl d2)]
              have hcv := hcv2.out u hG
              go_simp
              exact hK' _ _ (hK _ _ (Fr.refl _ _) rfl)
            · obtain ⟨d2, -⟩ := hD
              replace d2 : _ = _ := d2
              refine wpOp_step rfl (fun K' hK' => ?_)
              rw [if_pos (wanted_on rfl rfl d2)]
              go_simp
              exact hK' _ _ (hK _ _ (Fr.refl _ _) rfl)
            · obtain ⟨d5, d2, -⟩ := hD
              replace d5 : _ = _ := d5
              replace d2 : _ = _ := d2
              refine wpOp_step rfl (fun K' hK' => ?_)
              rw [if_pos (wanted_on rfl rfl d2)]
              have hcv := hcv1.out u hG
              go_simp
              exact hK' _ _ (hK _ _ (Fr.refl _ _) rfl)
            · obtain ⟨d4, d6, d2, -⟩ := hD
              replace d4 : _ = _ := d4
              replace d6 : _ = _ := d6
              replace d2 : _ = _ := d2
              refine wpOp_step rfl (fun K' hK' => ?_)
              rw [if_pos (wanted_on rfl rfl d2)]
              go_simp
              exact hK' _ _ (hK _ _ (Fr.refl _ _) rfl)
            · obtain ⟨d9, -⟩ := hD
              replace d9 : _ = _ := d9
              refine wpOp_step rfl (fun K' hK' => ?_)
              rw [if_pos (wanted_on rfl rfl d9)]
              go_simp
              exact hK' _ _ (hK _ _ (Fr.refl _ _) rfl)
            · obtain ⟨d10, d9, -⟩ := hD
              replace d10 : _ = _ := d10
              replace d9 : _ = _ := d9
              refine wpOp_step rfl (fun K' hK' => ?_)
              rw [if_pos (wanted_on rfl rfl d9)]
              go_simp
              exact hK' _ _ (hK _ _ (Fr.refl _ _) rfl)
            · obtain ⟨d13, -⟩ := hD
              replace d13 : _ = _ := d13
              refine wpOp_step rfl (fun K' hK' => ?_)
              rw [if_pos (wanted_on rfl rfl d13)]
              go_simp
              exact hK' _ _ (hK _ _ (Fr.refl _ _) rfl)
            · obtain ⟨d14, d13, -⟩ := hD
              replace d14 : _ = _ := d14
              replace d13 : _ = _ := d13
              refine wpOp_step rfl (fun K' hK' => ?_)
              rw [if_pos (wanted_on rfl rfl d13)]
              go_simp
              refine (hlenF.out u hG).mono ?_
              rintro e u2 ⟨rfl, hF⟩
              exact hK' _ _ (hK _ _ hF rfl)
            · obtain ⟨d13, -⟩ := hD
              replace d13 : _ = _ := d13
              refine wpOp_step rfl (fun K' hK' => ?_)
              rw [if_pos (wanted_on rfl rfl d13)]
              go_simp
              exact hK' _ _ (hK _ _ (Fr.refl _ _) rfl)
            · obtain ⟨d15, d16, d13, -⟩ := hD
              replace d15 : _ = _ := d15
              replace d16 : _ = _ := d16
              replace d13 : _ = _ := d13
              refine wpOp_step rfl (fun K' hK' => ?_)
              rw [if_pos (wanted_on rfl rfl d13)]
              go_simp
              exact hK' _ _ (hK _ _ (Fr.refl _ _) rfl)
            · obtain ⟨d19, -⟩ := hD
              replace d19 : _ = _ := d19
              refine wpOp_step rfl (fun K' hK' => ?_)
              rw [if_pos (wanted_on rfl rfl d19)]
              go_simp
              exact hK' _ _ (hK _ _ (Fr.refl _ _) rfl)
            · obtain ⟨d20, d19, -⟩ := hD
              replace d20 : _ = _ := d20
              replace d19 : _ = _ := d19
              refine wpOp_step rfl (fun K' hK' => ?_)
              rw [if_pos (wanted_on rfl rfl d19)]
              go_simp
              exact hK' _ _ (hK _ _ (Fr.refl _ _) rfl)
            · obtain ⟨d21, d19, -⟩ := hD
              replace d21 : _ = _ := d21
              replace d19 : _ = _ := d19
              refine wpOp_step rfl (fun K' hK' => ?_)
              rw [if_pos (wanted_on rfl rfl d19)]
              go_simp
              exact hK' _ _ (hK _ _ (Fr.refl _ _) rfl)
            · obtain ⟨d22, -⟩ := hD
              replace d22 : _ = _ := d22
              refine wpOp_step rfl (fun K' hK' => ?_)
              rw [if_pos (wanted_on rfl rfl d22)]
              go_simp
              exact hK' _ _ (hK _ _ (Fr.refl _ _) rfl)
            · obtain ⟨d22, -⟩ := hD
              replace d22 : _ = _ := d22
              refine wpOp_step rfl (fun K' hK' => ?_)
              rw [if_pos (wanted_on rfl rfl d22)]
              go_simp
              exact hK' _ _ (hK _ _ (Fr.refl _ _) rfl)
            · obtain ⟨d24, d22, -⟩ := hD
              replace d24 : _ = _ := d24
              replace d22 : _ = _ := d22
              refine wpOp_step rfl (fun K' hK' => ?_)
              rw [if_pos (wanted_on rfl rfl d22)]
              go_simp
              exact hK' _ _ (hK _ _ (Fr.refl _ _) rfl)
            · obtain ⟨d22, -⟩ := hD
              replace d22 : _ = _ := d22
              refine wpOp_step rfl (fun K' hK' => ?_)
              rw [if_pos (wanted_on rfl rfl d22)]
              go_simp
              exact hK' _ _ (hK _ _ (Fr.refl _ _) rfl)
            · obtain ⟨d25, d26, d22, -⟩ := hD
              replace d25 : _ = _ := d25
              replace d26 : _ = _ := d26
              replace d22 : _ = _ := d22
              refine wpOp_step rfl (fun K' hK' => ?_)
              rw [if_pos (wanted_on rfl rfl d22)]
              go_simp
              exact hK' _ _ (hK _ _ (Fr.refl _ _) rfl)
            · obtain ⟨d22, -⟩ := hD
              replace d22 : _ = _ := d22
              refine wpOp_step rfl (fun K' hK' => ?_)
              rw [if_pos (wanted_on rfl rfl d22)]
              go_simp
              exact hK' _ _ (hK _ _ (Fr.refl _ _) rfl)
            · obtain ⟨d28, d22, -⟩ := hD
              replace d28 : _ = _ := d28
              replace d22 : _ = _ := d22
              refine wpOp_step rfl (fun K' hK' => ?_)
              rw [if_pos (wanted_on rfl rfl d22)]
              go_simp
              exact hK' _ _ (hK _ _ (Fr.refl _ _) rfl)
            · obtain ⟨d22, -⟩ := hD
              replace d22 : _ = _ := d22
              refine wpOp_step rfl (fun K' hK' => ?_)
              rw [if_pos (wanted_on rfl rfl d22)]
              go_simp
              exact hK' _ _ (hK _ _ (Fr.refl _ _) rfl)
            · obtain ⟨d29, d30, d22, -⟩ := hD
              replace d29 : _ = _ := d29
              replace d30 : _ = _ := d30
              replace d22 : _ = _ := d22
              refine wpOp_step rfl (fun K' hK' => ?_)
              rw [if_pos (wanted_on rfl rfl d22)]
              go_simp
              exact hK' _ _ (hK _ _ (Fr.refl _ _) rfl)
            · obtain ⟨d27, d31, d22, -⟩ := hD
              replace d27 : _ = _ := d27
              replace d31 : _ = _ := d31
              replace d22 : _ = _ := d22
              refine wpOp_step rfl (fun K' hK' => ?_)
              rw [if_pos (wanted_on rfl rfl d22)]
              go_simp
              exact hK' _ _ (hK _ _ (Fr.refl _ _) rfl)
            · obtain ⟨d23, d32, d22, -⟩ := hD
              replace d23 : _ = _ := d23
              replace d32 : _ = _ := d32
              replace d22 : _ = _ := d22
              refine wpOp_step rfl (fun K' hK' => ?_)
              rw [if_pos (wanted_on rfl rfl d22)]
              go_simp
              refine (htext.out m HNM.out u hG).mono ?_
              rintro e u2 ⟨rfl, hF⟩
              exact hK' _ _ (hK _ _ hF rfl)
            · obtain ⟨d22, -⟩ := hD
              replace d22 : _ = _ := d22
              refine wpOp_step rfl (fun K' hK' => ?_)
              rw [if_pos (wanted_on rfl rfl d22)]
              go_simp
              exact hK' _ _ (hK _ _ (Fr.refl _ _) rfl)
            · obtain ⟨d33, d34, d22, -⟩ := hD
              replace d33 : _ = _ := d33
              replace d34 : _ = _ := d34
              replace d22 : _ = _ := d22
              refine wpOp_step rfl (fun K' hK' => ?_)
              rw [if_pos (wanted_on rfl rfl d22)]
              go_simp
              exact hK' _ _ (hK _ _ (Fr.refl _ _) rfl)
            · obtain ⟨d22, d35, d19, -⟩ := hD
              replace d22 : _ = _ := d22
              replace d35 : _ = _ := d35
              replace d19 : _ = _ := d19
              refine wpOp_step rfl (fun K' hK' => ?_)
              rw [if_pos (wanted_on rfl rfl d19)]
              go_simp
              exact hK' _ _ (hK _ _ (Fr.refl _ _) rfl)
        · intro σ u hG h
          replace h : _ = _ := h 38 (by decide)
          go_wp2_with fail
          go_ret
          exact ⟨by show Ending.returned (σ 6) = _; rw [h], hFW.trans0 hG⟩
end
section
open Go.RowKit Go.Shelf

theorem bytes_none {t : ByteArray} (h : t.size = 0) : t = ⟨#[]⟩ := by
  cases t with
  | mk d =>
    have : d.size = 0 := h
    simpa using this

set_option maxRecDepth 100000 in
set_option maxHeartbeats 3200000 in
/-- At what the guards refuse. -/
theorem keepManyNo (x y : Int) (t : ByteArray) (w : World) (h : x < 0 ∨ (0 ≤ x ∧ 65536 < x) ∨ (0 ≤ x ∧ x ≤ 65536 ∧ y < 1) ∨ (0 ≤ x ∧ x ≤ 65536 ∧ 1 ≤ y ∧ 702 < y) ∨ (0 ≤ x ∧ x ≤ 65536 ∧ 1 ≤ y ∧ y ≤ 702 ∧ t = ⟨#[]⟩) ∨
      (0 ≤ x ∧ x ≤ 65536 ∧ 1 ≤ y ∧ y ≤ 702 ∧ t.toList.isEmpty = false ∧ 40 < t.size) ∨ (0 ≤ x ∧ x ≤ 65536 ∧ 1 ≤ y ∧ y ≤ 702 ∧ t.toList.isEmpty = false ∧ t.size ≤ 40 ∧ ∃ h0 : 0 < t.size, (((t[0]'h0).toNat : Int) == 61) = true)) :
    Calls Tryz.prog 4 #[.int .i64 x, .int .i64 y, .string t] w fun e w1 => e = .returned (.bool true) ∧ Fr [] w w1 := by
  rcases h with h1 | ⟨h1, h2⟩ | ⟨h1, h2, h3⟩ | ⟨h1, h2, h3, h4⟩ | ⟨h1, h2, h3, h4, rfl⟩ | ⟨h1, h2, h3, h4, hne, h5⟩ | ⟨h1, h2, h3, h4, hne, h5, hs0, he⟩
  all_goals
    go_enter Tryz.func4, Tryz.ntmps4
    go_wp2_with fail
    refine (begun29 w).mono ?_
    rintro e w1 ⟨rfl, hf1⟩
    go_wp2_with fail
    go_ret
    exact ⟨rfl, hf1⟩

/-- Whatever it is given. -/
theorem keepManyAll (x y : Int) (t : ByteArray) (w : World) :
    Calls Tryz.prog 4 #[.int .i64 x, .int .i64 y, .string t] w fun e w1 => e = .returned (.bool true) ∧ Fr [] w w1 := by
  by_cases h1 : x < 0
  · exact keepManyNo x y t w (.inl h1)
  by_cases h2 : 65536 < x
  · exact keepManyNo x y t w (.inr (.inl ⟨by omega, h2⟩))
  by_cases h3 : y < 1
  · exact keepManyNo x y t w (.inr (.inr (.inl ⟨by omega, by omega, h3⟩)))
  by_cases h4 : 702 < y
  · exact keepManyNo x y t w (.inr (.inr (.inr (.inl ⟨by omega, by omega, by omega, h4⟩))))
  by_cases h5 : t.size = 0
  · exact keepManyNo x y t w (.inr (.inr (.inr (.inr (.inl ⟨by omega, by omega, by omega, by omega, bytes_none h5⟩)))))
  have hp : 0 < t.size := by omega
  by_cases h6 : 40 < t.size
  · exact keepManyNo x y t w (.inr (.inr (.inr (.inr (.inr (.inl ⟨by omega, by omega, by omega, by omega, bytes_some hp, h6⟩))))))
  by_cases h7 : (t[0]'hp).toNat = 61
  · exact keepManyNo x y t w (.inr (.inr (.inr (.inr (.inr (.inr ⟨by omega, by omega, by omega, by omega, bytes_some hp, by omega, hp, by rw [h7]; rfl⟩))))))
  obtain ⟨n, rfl⟩ : ∃ n : Nat, x = (n : Int) := ⟨x.toNat, by omega⟩
  obtain ⟨c, rfl⟩ : ∃ c : Nat, y = (c : Int) := ⟨y.toNat, by omega⟩
  exact keepMany n c t w (by omega) (by omega) (by omega) ⟨hp, by omega, fun _ => h7⟩
end
end Go.Proofs.YtnmkhoebijodhaaGreatDoor
