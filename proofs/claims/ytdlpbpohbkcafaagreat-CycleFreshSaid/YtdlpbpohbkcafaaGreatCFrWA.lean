/-
  CycleFresh: a call's lists are taken and written over; what is kept is read again.
-/
import Derived.Test.YtdlpbpohbkcafaaGreatCFrP
namespace Go.Proofs.YtdlpbpohbkcafaaGreat
open Go.RowKit Go.Shelf Go.Sort Go.Proofs

set_option maxRecDepth 100000 in
set_option maxHeartbeats 3200000 in
theorem freshTakes (w0 wm : World) (X : List Nat) (F : World → Prop) (rv : Value) (vs : List Value) (R : List (List Sp)) (Bk E : Nat) (K : List Nat) (es : List (Value × Nat)) (lv nv : Value) (sz : Int) (w : World) {s0 s1 s2 s4 s5 s6 s7 s8 s9 s11 s12 s13 s14 s15 s16 s17 s18 s19 s20 s21 s23 s24 s25 s26 s27 s28 s29 s30 s31 s32 s33 s34 s35 s36 s37 s38 s39 s40 s41 s42 s43 s44 s45 s46 s47 s48 s49 s50 s51 s52 s53 s54 s55 s56 s57 s58 s59 s60 s61 s62 s63 s64 s65 s66 s67 s68 s69 s70 s71 s72 s73 s74 s75 s76 s77 s78 s79 s80 s81 s82 s83 s84 s85 s86 s87 s88 s89 s90 s91 s92 s93 s94 s95 s96 s97 s98 s99 s100 s101 s102 s103 s104 s105 s106 s107 s108 s109 s110 s111 s112 s113 s114 s115 s116 s117 s118 s119 s120 s121 s122 s123 s124 s125 s126 s127 s128 s129 s130 s131 s132 s133 s134 s135 s136 s137 s138 s139 s140 s141 s142 s143 s144 s145 s146 s147 s148 s149 s150 s151 s152 s153 s154 s155 s156 s157 s158 s159 s160 s161 s162 s163 s164 s165 s166 s167 s168 s169 s170 s171 s172 : Value}
    (hT : TIn w0 wm X F vs R) (hrow : ∀ u, F u → u.ownsRow 0 tS 1 rv vs.length vs) (hI : TI w0 wm X F vs R Bk E 0 K es lv nv sz w) (hE : E + vs.length ≤ 4194304) (Q : Exit → Act → World → Prop)
    (hQ : ∀ (n22 n116 n117 n118 n119 n120 n121 n122 n123 n124 n125 n126 n127 : Value) (K' : List Nat) (es' : List (Value × Nat)) (lv' nv' : Value) (sz' : Int) (w' : World), TI w0 wm X F vs R Bk E vs.length K' es' lv' nv' sz' w' → Q .normal { tmps := #[s0, s1, s2, .pointer (some ⟨Bk, 0, none⟩), s4, s5, s6, s7, s8, s9, rv, s11, s12, s13, s14, s15, s16, s17, s18, s19, s20, s21, n22, s23, s24, s25, s26, s27, s28, s29, s30, s31, s32, s33, s34, s35, s36, s37, s38, s39, s40, s41, s42, s43, s44, s45, s46, s47, s48, s49, s50, s51, s52, s53, s54, s55, s56, s57, s58, s59, s60, s61, s62, s63, s64, s65, s66, s67, s68, s69, s70, s71, s72, s73, s74, s75, s76, s77, s78, s79, s80, s81, s82, s83, s84, s85, s86, s87, s88, s89, s90, s91, s92, s93, s94, s95, s96, s97, s98, s99, s100, s101, s102, s103, s104, s105, s106, s107, s108, s109, s110, s111, s112, s113, s114, s115, n116, n117, n118, n119, n120, n121, n122, n123, n124, n125, n126, n127, s128, s129, s130, s131, s132, s133, s134, s135, s136, s137, s138, s139, s140, s141, s142, s143, s144, s145, s146, s147, s148, s149, s150, s151, s152, s153, s154, s155, s156, s157, s158, s159, s160, s161, s162, s163, s164, s165, s166, s167, s168, s169, s170, s171, s172], defers := [] } w') :
    (subC [1, 1, 1, 1, 0, 1, 0, 0, 1, 0, 0, 1, 1, 1, 0, 1, 0, 0, 1, 0, 0, 1, 1, 1, 1, 1, 1, 1, 1, 0, 1] (Tryz.f4.body.getD .skip)).wp Tryz.prog Q { tmps := #[s0, s1, s2, .pointer (some ⟨Bk, 0, none⟩), s4, s5, s6, s7, s8, s9, rv, s11, s12, s13, s14, s15, s16, s17, s18, s19, s20, s21, .int .i64 0, s23, s24, s25, s26, s27, s28, s29, s30, s31, s32, s33, s34, s35, s36, s37, s38, s39, s40, s41, s42, s43, s44, s45, s46, s47, s48, s49, s50, s51, s52, s53, s54, s55, s56, s57, s58, s59, s60, s61, s62, s63, s64, s65, s66, s67, s68, s69, s70, s71, s72, s73, s74, s75, s76, s77, s78, s79, s80, s81, s82, s83, s84, s85, s86, s87, s88, s89, s90, s91, s92, s93, s94, s95, s96, s97, s98, s99, s100, s101, s102, s103, s104, s105, s106, s107, s108, s109, s110, s111, s112, s113, s114, s115, s116, s117, s118, s119, s120, s121, s122, s123, s124, s125, s126, s127, s128, s129, s130, s131, s132, s133, s134, s135, s136, s137, s138, s139, s140, s141, s142, s143, s144, s145, s146, s147, s148, s149, s150, s151, s152, s153, s154, s155, s156, s157, s158, s159, s160, s161, s162, s163, s164, s165, s166, s167, s168, s169, s170, s171, s172], defers := [] } w := by
  have HQ := Lib.hid hQ
  have HT := Lib.hid hT
  have HI := Lib.hid hI
  have HROW := Lib.hid hrow
  obtain ⟨rq, rc, rfl, hr1, hr2⟩ := (own_sl (hrow _ hI.f)).form
  clear hQ hT hI hrow
  show (Code.block 4 _).wp _ _ _ _
  dsimp only
  go_wp2_with fail
  go_loopw [22] (fun i wr => ∃ (j : Nat) (K : List Nat) (es : List (Value × Nat)) (lv nv : Value) (sz : Int), i = .int .i64 (j : Int) ∧ j ≤ vs.length ∧ TI w0 wm X F vs R Bk E j K es lv nv sz wr) (fun i _ => vs.length - (intOf i).toNat)
  case atStart => exact ⟨0, K, es, lv, nv, sz, rfl, by omega, HI.out⟩
  case round =>
    obtain ⟨j, K2, es2, lv2, nv2, sz2, rfl, hj, hJ⟩ := hrel
    have HJ := Lib.hid hJ
    by_cases hlt : j < vs.length
    · have hj1 : (j : Int) < (vs.length : Int) := by omega
      have hrow := HROW.out _ hJ.f
      obtain ⟨g, _, e, _, hgl⟩ := hrow.form (by omega)
      cases e
      have c0 : wr.cell? ⟨g, j, none⟩ = some vs[j] := by
        rw [hrow.cellAt j (by omega)]
        exact List.getElem?_eq_getElem hlt
      have hR : j < R.length := by have := HT.out.len; omega
      obtain ⟨h1, h2⟩ := hJ.el j hlt hR (Nat.le_refl _)
      have hlen : es2.length ≤ 4194304 := by have := hJ.len; omega
      have HTK : Hid (Calls Tryz.prog 18 #[.pointer (some ⟨Bk, 0, none⟩), vs[j]] wr (TakePost Bk K2 es2 vs[j] R[j].length wr)) := takeC Bk K2 es2 lv2 nv2 vs[j] sz2 R[j] wr hJ.book h1 h2 (HT.out.sm _ (List.getElem_mem hR)) hlen
      obtain ⟨xq, xc, e, _, _⟩ := (own_sl h1).form
      have HST : Hid (∀ e w1, TakePost Bk K2 es2 vs[j] R[j].length wr e w1 → e = .returned (.tuple #[]) ∧ ∃ K' es' lv' nv' sz', TI w0 wm X F vs R Bk E (j + 1) K' es' lv' nv' sz' w1) := fun e w1 hp => hJ.step HT.out hlt hp
      clear hrow h1 h2 hJ
      generalize vs[j] = x at *
      subst e
      generalize R[j].length = n at *
      go_wp2_with fail
      refine HTK.out.mono ?_
      intro e w1 hp
      obtain ⟨rfl, K3, es3, lv3, nv3, sz3, hN⟩ := HST.out e w1 hp
      have HN := Lib.hid hN
      clear hp hN c0
      go_wp2
      go_roundw
      case rel => exact ⟨j + 1, K3, es3, lv3, nv3, sz3, by go_num, by omega, HN.out⟩
      case measure => simp [intOf]; omega
    · obtain rfl : j = vs.length := by omega
      go_wp2
      apply HQ.out
      exact HJ.out
set_option maxRecDepth 100000 in
set_option maxHeartbeats 3200000 in
theorem freshNil (Bk : Nat) (rv : Value) (us0 : List Value) (w : World) {s0 s1 s2 s4 s5 s6 s7 s8 s9 s11 s12 s13 s14 s15 s16 s17 s18 s19 s20 s21 s22 s24 s25 s26 s27 s28 s29 s30 s31 s32 s33 s34 s35 s36 s37 s38 s39 s40 s41 s42 s43 s44 s45 s46 s47 s48 s49 s50 s51 s52 s53 s54 s55 s56 s57 s58 s59 s60 s61 s62 s63 s64 s65 s66 s67 s68 s69 s70 s71 s72 s73 s74 s75 s76 s77 s78 s79 s80 s81 s82 s83 s84 s85 s86 s87 s88 s89 s90 s91 s92 s93 s94 s95 s96 s97 s98 s99 s100 s101 s102 s103 s104 s105 s106 s107 s108 s109 s110 s111 s112 s113 s114 s115 s116 s117 s118 s119 s120 s121 s122 s123 s124 s125 s126 s127 s128 s129 s130 s131 s132 s133 s134 s135 s136 s137 s138 s139 s140 s141 s142 s143 s144 s145 s146 s147 s148 s149 s150 s151 s152 s153 s154 s155 s156 s157 s158 s159 s160 s161 s162 s163 s164 s165 s166 s167 s168 s169 s170 s171 s172 : Value} (hrow : w.ownsRow 0 tS 1 rv us0.length us0) (Q : Exit → Act → World → Prop)
    (hQ : ∀ (n23 n128 n129 n130 n131 n132 n133 n134 n135 n136 : Value) (w' : World), Fr rv.ownBlock.toList w w' → Q .normal { tmps := #[s0, s1, s2, .pointer (some ⟨Bk, 0, none⟩), s4, s5, s6, s7, s8, s9, rv, s11, s12, s13, s14, s15, s16, s17, s18, s19, s20, s21, s22, n23, s24, s25, s26, s27, s28, s29, s30, s31, s32, s33, s34, s35, s36, s37, s38, s39, s40, s41, s42, s43, s44, s45, s46, s47, s48, s49, s50, s51, s52, s53, s54, s55, s56, s57, s58, s59, s60, s61, s62, s63, s64, s65, s66, s67, s68, s69, s70, s71, s72, s73, s74, s75, s76, s77, s78, s79, s80, s81, s82, s83, s84, s85, s86, s87, s88, s89, s90, s91, s92, s93, s94, s95, s96, s97, s98, s99, s100, s101, s102, s103, s104, s105, s106, s107, s108, s109, s110, s111, s112, s113, s114, s115, s116, s117, s118, s119, s120, s121, s122, s123, s124, s125, s126, s127, n128, n129, n130, n131, n132, n133, n134, n135, n136, s137, s138, s139, s140, s141, s142, s143, s144, s145, s146, s147, s148, s149, s150, s151, s152, s153, s154, s155, s156, s157, s158, s159, s160, s161, s162, s163, s164, s165, s166, s167, s168, s169, s170, s171, s172], defers := [] } w') :
    (subC [1, 1, 1, 1, 0, 1, 0, 0, 1, 0, 0, 1, 1, 1, 0, 1, 0, 0, 1, 0, 0, 1, 1, 1, 1, 1, 1, 1, 1, 1, 0, 1] (Tryz.f4.body.getD .skip)).wp Tryz.prog Q { tmps := #[s0, s1, s2, .pointer (some ⟨Bk, 0, none⟩), s4, s5, s6, s7, s8, s9, rv, s11, s12, s13, s14, s15, s16, s17, s18, s19, s20, s21, s22, .int .i64 0, s24, s25, s26, s27, s28, s29, s30, s31, s32, s33, s34, s35, s36, s37, s38, s39, s40, s41, s42, s43, s44, s45, s46, s47, s48, s49, s50, s51, s52, s53, s54, s55, s56, s57, s58, s59, s60, s61, s62, s63, s64, s65, s66, s67, s68, s69, s70, s71, s72, s73, s74, s75, s76, s77, s78, s79, s80, s81, s82, s83, s84, s85, s86, s87, s88, s89, s90, s91, s92, s93, s94, s95, s96, s97, s98, s99, s100, s101, s102, s103, s104, s105, s106, s107, s108, s109, s110, s111, s112, s113, s114, s115, s116, s117, s118, s119, s120, s121, s122, s123, s124, s125, s126, s127, s128, s129, s130, s131, s132, s133, s134, s135, s136, s137, s138, s139, s140, s141, s142, s143, s144, s145, s146, s147, s148, s149, s150, s151, s152, s153, s154, s155, s156, s157, s158, s159, s160, s161, s162, s163, s164, s165, s166, s167, s168, s169, s170, s171, s172], defers := [] } w := by
  have HQ := Lib.hid hQ
  have HG := Lib.hid hrow
  obtain ⟨rq, rc, rfl, hr1, hr2⟩ := (own_sl hrow).form
  clear hQ hrow
  generalize hn : us0.length = n at *
  have HN := Lib.hid hn
  clear hn
  show (Code.block 6 _).wp _ _ _ _
  dsimp only
  go_wp2_with fail
  go_loopw [23] (fun i wr => ∃ (j : Nat) (us : List Value), i = .int .i64 (j : Int) ∧ j ≤ n ∧ us.length = n ∧ wr.ownsRow 0 tS 1 (.slice rq n rc) us.length us ∧ Fr (Value.slice rq n rc).ownBlock.toList w wr) (fun i _ => n - (intOf i).toNat)
  case atStart => exact ⟨0, us0, rfl, by omega, HN.out, by rw [HN.out]; exact HG.out, Fr.refl _ _⟩
  case round =>
    obtain ⟨j, us, rfl, hj, hul, hrow, hfr⟩ := hrel
    subst hul
    have HFR := Lib.hid hfr
    clear hfr
    by_cases hlt : j < us.length
    · have hj1 : (j : Int) < (us.length : Int) := by omega
      obtain ⟨g, _, e, _, hgl⟩ := hrow.form (by omega)
      cases e
      have c0 : wr.cell? ⟨g, j, none⟩ = some us[j] := by
        rw [hrow.cellAt j (by omega)]
        exact List.getElem?_eq_getElem hlt
      have f0 := hrow.frozenAt j
      have HP := Lib.hid (hrow.stored j (.slice none 0 0)).1
      clear hrow
      generalize us[j] = x at *
      go_wp2
      go_roundw
      case rel => exact ⟨j + 1, _, by go_num, by omega, List.length_set .., by rw [List.length_set]; exact HP.out, HFR.out.trans (fr_cell _ _ _ _) (fun y hy => .inl hy)⟩
      case measure => simp [intOf]; omega
    · obtain rfl : j = us.length := by omega
      clear hrow
      go_wp2
      apply HQ.out
      exact HFR.out
theorem DG.begin {w : World} {kk : Int} {v : Value} {ls : List Lx} (h : w.ownsRow 0 tLd 6 v ls.length (ls.flatMap lxC)) : DG w v.ownBlock.toList kk 0 v ls w := ⟨h, fun _ _ h => absurd h (Nat.not_lt_zero _), fun g hg => .inl (by rw [hg]; simp), Fr.refl _ _⟩
set_option maxRecDepth 100000 in
set_option maxHeartbeats 3200000 in
theorem freshLead (Bk : Nat) (rv : Value) (us0 : List Lx) (w : World) {s0 s1 s2 s4 s5 s6 s7 s8 s9 s10 s11 s12 s13 s14 s15 s16 s17 s19 s20 s21 s22 s23 s25 s26 s27 s28 s29 s30 s31 s32 s33 s34 s35 s36 s37 s38 s39 s40 s41 s42 s43 s44 s45 s46 s47 s48 s49 s50 s51 s52 s53 s54 s55 s56 s57 s58 s59 s60 s61 s62 s63 s64 s65 s66 s67 s68 s69 s70 s71 s72 s73 s74 s75 s76 s77 s78 s79 s80 s81 s82 s83 s84 s85 s86 s87 s88 s89 s90 s91 s92 s93 s94 s95 s96 s97 s98 s99 s100 s101 s102 s103 s104 s105 s106 s107 s108 s109 s110 s111 s112 s113 s114 s115 s116 s117 s118 s119 s120 s121 s122 s123 s124 s125 s126 s127 s128 s129 s130 s131 s132 s133 s134 s135 s136 s137 s138 s139 s140 s141 s142 s143 s144 s145 s146 s147 s148 s149 s150 s151 s152 s153 s154 s155 s156 s157 s158 s159 s160 s161 s162 s163 s164 s165 s166 s167 s168 s169 s170 s171 s172 : Value} (hrow : w.ownsRow 0 tLd 6 rv us0.length (us0.flatMap lxC)) (Q : Exit → Act → World → Prop)
    (hQ : ∀ (n24 n140 n141 n142 n143 n144 n145 n146 n147 n148 n149 : Value) (w' : World), Fr rv.ownBlock.toList w w' → Q .normal { tmps := #[s0, s1, s2, .pointer (some ⟨Bk, 0, none⟩), s4, s5, s6, s7, s8, s9, s10, s11, s12, s13, s14, s15, s16, s17, rv, s19, s20, s21, s22, s23, n24, s25, s26, s27, s28, s29, s30, s31, s32, s33, s34, s35, s36, s37, s38, s39, s40, s41, s42, s43, s44, s45, s46, s47, s48, s49, s50, s51, s52, s53, s54, s55, s56, s57, s58, s59, s60, s61, s62, s63, s64, s65, s66, s67, s68, s69, s70, s71, s72, s73, s74, s75, s76, s77, s78, s79, s80, s81, s82, s83, s84, s85, s86, s87, s88, s89, s90, s91, s92, s93, s94, s95, s96, s97, s98, s99, s100, s101, s102, s103, s104, s105, s106, s107, s108, s109, s110, s111, s112, s113, s114, s115, s116, s117, s118, s119, s120, s121, s122, s123, s124, s125, s126, s127, s128, s129, s130, s131, s132, s133, s134, s135, s136, s137, s138, s139, n140, n141, n142, n143, n144, n145, n146, n147, n148, n149, s150, s151, s152, s153, s154, s155, s156, s157, s158, s159, s160, s161, s162, s163, s164, s165, s166, s167, s168, s169, s170, s171, s172], defers := [] } w') :
    (subC [1, 1, 1, 1, 0, 1, 0, 0, 1, 0, 0, 1, 1, 1, 0, 1, 0, 0, 1, 0, 0, 1, 1, 1, 1, 1, 1, 1, 1, 1, 1, 1, 1] (Tryz.f4.body.getD .skip)).wp Tryz.prog Q { tmps := #[s0, s1, s2, .pointer (some ⟨Bk, 0, none⟩), s4, s5, s6, s7, s8, s9, s10, s11, s12, s13, s14, s15, s16, s17, rv, s19, s20, s21, s22, s23, .int .i64 0, s25, s26, s27, s28, s29, s30, s31, s32, s33, s34, s35, s36, s37, s38, s39, s40, s41, s42, s43, s44, s45, s46, s47, s48, s49, s50, s51, s52, s53, s54, s55, s56, s57, s58, s59, s60, s61, s62, s63, s64, s65, s66, s67, s68, s69, s70, s71, s72, s73, s74, s75, s76, s77, s78, s79, s80, s81, s82, s83, s84, s85, s86, s87, s88, s89, s90, s91, s92, s93, s94, s95, s96, s97, s98, s99, s100, s101, s102, s103, s104, s105, s106, s107, s108, s109, s110, s111, s112, s113, s114, s115, s116, s117, s118, s119, s120, s121, s122, s123, s124, s125, s126, s127, s128, s129, s130, s131, s132, s133, s134, s135, s136, s137, s138, s139, s140, s141, s142, s143, s144, s145, s146, s147, s148, s149, s150, s151, s152, s153, s154, s155, s156, s157, s158, s159, s160, s161, s162, s163, s164, s165, s166, s167, s168, s169, s170, s171, s172], defers := [] } w := by
  have HQ := Lib.hid hQ
  have HG := Lib.hid (DG.begin (kk := -1) hrow)
  obtain ⟨rq, rc, rfl, hr1, hr2⟩ := (own_sl hrow).form
  clear hQ hrow
  generalize hn : us0.length = n at *
  have HN := Lib.hid hn
  clear hn
  generalize hS : (Value.slice rq n rc).ownBlock.toList = G at *
  clear hS
  show (Code.block 8 _).wp _ _ _ _
  dsimp only
  go_wp2_with fail
  go_loopw [24] (fun i wr => ∃ (j : Nat) (us : List Lx), i = .int .i64 (j : Int) ∧ j ≤ n ∧ us.length = n ∧ DG w G (-1) j (.slice rq n rc) us wr) (fun i _ => n - (intOf i).toNat)
  case atStart => exact ⟨0, us0, rfl, by omega, HN.out, HG.out⟩
  case round =>
    obtain ⟨j, us, rfl, hj, hul, hJ⟩ := hrel
    subst hul
    have HJ := Lib.hid hJ
    by_cases hlt : j < us.length
    · have hj1 : (j : Int) < (us.length : Int) := by omega
      obtain ⟨g, _, e, _, hgl⟩ := hJ.row.form (by omega)
      cases e
      have hfl : (us.flatMap lxC).length = us.length * 6 := flat_len lxC 6 (fun _ => rfl) us
      have key : ∀ o, o < us.length * 6 → ∃ y, wr.cell? ⟨g, o, none⟩ = some y := fun o ho => ⟨_, (hJ.row.cellAt o ho).trans (List.getElem?_eq_getElem (by omega))⟩
      obtain ⟨y0, c0⟩ := key (j * 6) (by omega)
      obtain ⟨y1, c1⟩ := key (j * 6 + 1) (by omega)
      obtain ⟨y2, c2⟩ := key (j * 6 + 2) (by omega)
      obtain ⟨y3, c3⟩ := key (j * 6 + 3) (by omega)
      obtain ⟨y4, c4⟩ := key (j * 6 + 4) (by omega)
      obtain ⟨y5, c5⟩ := key (j * 6 + 5) (by omega)
      have f0 := hJ.row.frozenAt (j * 6)
      have f1 := hJ.row.frozenAt (j * 6 + 1)
      have f2 := hJ.row.frozenAt (j * 6 + 2)
      have f3 := hJ.row.frozenAt (j * 6 + 3)
      have f4 := hJ.row.frozenAt (j * 6 + 4)
      have f5 := hJ.row.frozenAt (j * 6 + 5)
      have HP := Lib.hid (hJ.put hlt)
      clear hJ key hfl
      go_wp2
      go_roundw
      case rel => exact ⟨j + 1, _, by go_num, by omega, List.length_set .., HP.out⟩
      case measure => simp [intOf]; omega
    · obtain rfl : j = us.length := by omega
      clear hJ
      go_wp2
      apply HQ.out
      exact HJ.out.f
theorem eqSF (va vb : Value) (l : List Sp) (w : World) (ha : SpotsAt w va l) (hb : SpotsAt w vb l) : Calls Tryz.prog 13 #[va, vb] w fun e w1 => e = .returned (.bool true) ∧ Fr [] w w1 := by
  have := eqC va vb l l w ha hb
  rwa [decide_eq_true rfl] at this
set_option maxRecDepth 100000 in
set_option maxHeartbeats 3200000 in
theorem freshEqs (Bk : Nat) (MT : List Nat) (T : World → Prop) (M : List Nat) (qv wv : Value) (qs ws : List Value) (L : List (List Sp)) (w : World) {s0 s1 s2 s6 s7 s8 s9 s10 s11 s12 s13 s14 s15 s16 s17 s18 s19 s20 s21 s22 s23 s24 s26 s27 s28 s29 s30 s31 s32 s33 s34 s35 s36 s37 s38 s39 s40 s41 s42 s43 s44 s45 s46 s47 s48 s49 s50 s51 s52 s53 s54 s55 s56 s57 s58 s59 s60 s61 s62 s63 s64 s65 s66 s67 s68 s69 s70 s71 s72 s73 s74 s75 s76 s77 s78 s79 s80 s81 s82 s83 s84 s85 s86 s87 s88 s89 s90 s91 s92 s93 s94 s95 s96 s97 s98 s99 s100 s101 s102 s103 s104 s105 s106 s107 s108 s109 s110 s111 s112 s113 s114 s115 s116 s117 s118 s119 s120 s121 s122 s123 s124 s125 s126 s127 s128 s129 s130 s131 s132 s133 s134 s135 s136 s137 s138 s139 s140 s141 s142 s143 s144 s145 s146 s147 s148 s149 s150 s151 s152 s153 s154 s155 s156 s157 s158 s159 s160 s161 s162 s163 s164 s165 s166 s167 s168 s169 s170 s171 s172 : Value} (hq : QQ MT T M qv wv qs ws L w) (Q : Exit → Act → World → Prop)
    (hQ : ∀ (n2 n25 n157 n158 n159 n160 n161 n162 n163 n164 n165 n166 n167 n168 n169 n170 n171 n172 : Value) (w' : World), Fr [] w w' → Q .normal { tmps := #[s0, s1, n2, .pointer (some ⟨Bk, 0, none⟩), qv, wv, s6, s7, s8, s9, s10, s11, s12, s13, s14, s15, s16, s17, s18, s19, s20, s21, s22, s23, s24, n25, s26, s27, s28, s29, s30, s31, s32, s33, s34, s35, s36, s37, s38, s39, s40, s41, s42, s43, s44, s45, s46, s47, s48, s49, s50, s51, s52, s53, s54, s55, s56, s57, s58, s59, s60, s61, s62, s63, s64, s65, s66, s67, s68, s69, s70, s71, s72, s73, s74, s75, s76, s77, s78, s79, s80, s81, s82, s83, s84, s85, s86, s87, s88, s89, s90, s91, s92, s93, s94, s95, s96, s97, s98, s99, s100, s101, s102, s103, s104, s105, s106, s107, s108, s109, s110, s111, s112, s113, s114, s115, s116, s117, s118, s119, s120, s121, s122, s123, s124, s125, s126, s127, s128, s129, s130, s131, s132, s133, s134, s135, s136, s137, s138, s139, s140, s141, s142, s143, s144, s145, s146, s147, s148, s149, s150, s151, s152, s153, s154, s155, s156, n157, n158, n159, n160, n161, n162, n163, n164, n165, n166, n167, n168, n169, n170, n171, n172], defers := [] } w') :
    (subC [1, 1, 1, 1, 1, 1, 0, 1] (Tryz.f4.body.getD .skip)).wp Tryz.prog Q { tmps := #[s0, s1, s2, .pointer (some ⟨Bk, 0, none⟩), qv, wv, s6, s7, s8, s9, s10, s11, s12, s13, s14, s15, s16, s17, s18, s19, s20, s21, s22, s23, s24, .int .i64 0, s26, s27, s28, s29, s30, s31, s32, s33, s34, s35, s36, s37, s38, s39, s40, s41, s42, s43, s44, s45, s46, s47, s48, s49, s50, s51, s52, s53, s54, s55, s56, s57, s58, s59, s60, s61, s62, s63, s64, s65, s66, s67, s68, s69, s70, s71, s72, s73, s74, s75, s76, s77, s78, s79, s80, s81, s82, s83, s84, s85, s86, s87, s88, s89, s90, s91, s92, s93, s94, s95, s96, s97, s98, s99, s100, s101, s102, s103, s104, s105, s106, s107, s108, s109, s110, s111, s112, s113, s114, s115, s116, s117, s118, s119, s120, s121, s122, s123, s124, s125, s126, s127, s128, s129, s130, s131, s132, s133, s134, s135, s136, s137, s138, s139, s140, s141, s142, s143, s144, s145, s146, s147, s148, s149, s150, s151, s152, s153, s154, s155, s156, s157, s158, s159, s160, s161, s162, s163, s164, s165, s166, s167, s168, s169, s170, s171, s172], defers := [] } w := by
  obtain ⟨qq, qc, rfl, hr1, hr2⟩ := (own_sl hq.q).form
  obtain ⟨wq, wc, rfl, hr3, hr4⟩ := (own_sl hq.w').form
  have HG := Lib.hid hq
  have hlw : ws.length = qs.length := hq.we.1.trans hq.qe.1.symm
  have HLQ := Lib.hid hq.qe.1
  rw [hlw] at hQ hr3 ⊢
  have HQ := Lib.hid hQ
  have HLW := Lib.hid hlw
  clear hQ hq hlw
  generalize hn : qs.length = n at *
  have HN := Lib.hid hn
  clear hn
  show (Code.block 10 _).wp _ _ _ _
  dsimp only
  go_wp2_with fail
  go_loopw [25] (fun i wr => ∃ j : Nat, i = .int .i64 (j : Int) ∧ j ≤ n ∧ Fr [] w wr) (fun i _ => n - (intOf i).toNat)
  case atStart => exact ⟨0, rfl, by omega, Fr.refl _ _⟩
  case round =>
    obtain ⟨j, rfl, hj, hf⟩ := hrel
    by_cases hlt : j < n
    · have hj1 : (j : Int) < (n : Int) := by omega
      have hg := HG.out.fr hf (by simp)
      have hjq : j < qs.length := by rw [HN.out]; exact hlt
      have hjw : j < ws.length := by rw [HLW.out]; exact hlt
      have hjl : j < L.length := by rw [← HLQ.out]; exact hlt
      have hq1 := hg.q
      have hw1 := hg.w'
      rw [HN.out] at hq1
      rw [HLW.out] at hw1
      obtain ⟨b1, _, e, _, hbl1⟩ := hq1.form (by omega)
      cases e
      obtain ⟨b2, _, e, _, hbl2⟩ := hw1.form (by omega)
      cases e
      have c0 : wr.cell? ⟨b1, j, none⟩ = some qs[j] := (hq1.cellAt j (by omega)).trans (List.getElem?_eq_getElem hjq)
      have d0 : wr.cell? ⟨b2, j, none⟩ = some ws[j] := (hw1.cellAt j (by omega)).trans (List.getElem?_eq_getElem hjw)
      have HXA := Lib.hid (own_sl (hg.qe.2 j hjq hjl).1)
      have HXB := Lib.hid (own_sl (hg.we.2 j hjw hjl).1)
      clear hg hq1 hw1
      generalize qs[j] = xa at *
      generalize ws[j] = xb at *
      generalize L[j] = l at *
      clear hjq hjw hjl
      go_wp2_with fail
      go_region_held3 (fun u => u.cell? ⟨b1, j, none⟩ = some xa ∧ u.cell? ⟨b2, j, none⟩ = some xb)
        (first | exact ⟨ce_drew c0, ce_drew d0⟩ | exact ⟨ce_call hA (ce_drew c0), ce_call hA (ce_drew d0)⟩)
        ((go_at_call 13; refine (eqSF xa xb l _ (SlAt.fr0 HXA.out ((Fr.refl [] wr).drew)) (SlAt.fr0 HXB.out ((Fr.refl [] wr).drew))).mono ?_; rintro e wA ⟨rfl, hA⟩))
      have hF := (hf.drew).trans0 hA
      go_wp2
      go_roundw
      case rel => exact ⟨j + 1, by go_num, by omega, hF⟩
      case measure => simp [intOf]; omega
    · obtain rfl : j = n := by omega
      go_wp2
      apply HQ.out
      exact hf
end Go.Proofs.YtdlpbpohbkcafaaGreat
