/-
  CycleApart: the rings of a call are taken.
  CycleApart: a call's rings are written over, and grown.
  CycleApart: a call's leads are written over, and grown.
  CycleApart: what was written over is read again.
-/
import Derived.Test.YtdlpbpohbkcafaaCApR
namespace Go.Proofs.Ytdlpbpohbkcafaa
section
open Go.RowKit Go.Shelf Go.Sort Go.Proofs

set_option maxRecDepth 100000 in
set_option maxHeartbeats 3200000 in
theorem lawTakes (w0 wm : World) (X : List Nat) (F : World → Prop) (rv : Value) (vs : List Value) (R : List (List Sp)) (Bk E : Nat) (K : List Nat) (es : List (Value × Nat)) (lv nv : Value) (sz : Int) (w : World) {s0 s1 s2 s3 s4 s5 s6 s7 s8 s9 s10 s11 s12 s14 s15 s16 s18 s19 s20 s21 s22 s24 s25 s26 s27 s28 s29 s30 s31 s32 s33 s34 s35 s36 s37 s38 s39 s40 s41 s42 s43 s44 s45 s46 s47 s48 s49 s50 s51 s52 s53 s54 s55 s56 s57 s58 s59 s60 s61 s62 s63 s64 s65 s66 s67 s68 s69 s70 s71 s72 s73 s74 s75 s76 s77 s78 s79 s80 s81 s82 s83 s84 s85 s86 s87 s88 s89 s90 s91 s92 s93 s94 s95 s96 s97 s98 s99 s100 s101 s102 s103 s104 s105 s106 s107 s108 s109 s110 s111 s112 s113 s114 s115 s116 s117 s118 s119 s120 s121 s122 s123 s124 s125 s126 s127 s128 s129 s130 s131 s132 s133 s134 s135 s136 s137 s138 s139 s140 s141 s142 s143 s144 s145 s146 s147 s148 s149 s150 s151 s152 s153 s154 s155 s156 s157 s158 s159 s160 s161 s162 s163 s164 s165 s166 s167 s168 s169 s170 s171 s172 s173 s174 s175 s176 s177 s178 s179 s180 s181 s182 s183 s184 s185 s186 s187 s188 s189 s190 s191 s192 s193 s194 s195 s196 s197 s198 s199 s200 s201 s202 s203 s204 s205 s206 s207 s208 s209 s210 s211 s212 s213 s214 s215 s216 s217 s218 s219 s220 s221 s222 s223 s224 s225 s226 s227 s228 s229 s230 s231 s232 s233 s234 s235 s236 s237 s238 s239 s240 s241 s242 s243 s244 s245 s246 s247 s248 s249 s250 s251 s252 s253 : Value}
    (hT : TIn w0 wm X F vs R) (hrow : ∀ u, F u → u.ownsRow 0 tS 1 rv vs.length vs) (hI : TI w0 wm X F vs R Bk E 0 K es lv nv sz w) (hE : E + vs.length ≤ 4194304) (Q : Exit → Act → World → Prop)
    (hQ : ∀ (n23 n111 n112 n113 n114 n115 n116 n117 n118 n119 n120 n121 n122 : Value) (K' : List Nat) (es' : List (Value × Nat)) (lv' nv' : Value) (sz' : Int) (w' : World), TI w0 wm X F vs R Bk E vs.length K' es' lv' nv' sz' w' → Q .normal { tmps := #[s0, s1, s2, s3, s4, s5, s6, s7, s8, s9, s10, s11, s12, .pointer (some ⟨Bk, 0, none⟩), s14, s15, s16, rv, s18, s19, s20, s21, s22, n23, s24, s25, s26, s27, s28, s29, s30, s31, s32, s33, s34, s35, s36, s37, s38, s39, s40, s41, s42, s43, s44, s45, s46, s47, s48, s49, s50, s51, s52, s53, s54, s55, s56, s57, s58, s59, s60, s61, s62, s63, s64, s65, s66, s67, s68, s69, s70, s71, s72, s73, s74, s75, s76, s77, s78, s79, s80, s81, s82, s83, s84, s85, s86, s87, s88, s89, s90, s91, s92, s93, s94, s95, s96, s97, s98, s99, s100, s101, s102, s103, s104, s105, s106, s107, s108, s109, s110, n111, n112, n113, n114, n115, n116, n117, n118, n119, n120, n121, n122, s123, s124, s125, s126, s127, s128, s129, s130, s131, s132, s133, s134, s135, s136, s137, s138, s139, s140, s141, s142, s143, s144, s145, s146, s147, s148, s149, s150, s151, s152, s153, s154, s155, s156, s157, s158, s159, s160, s161, s162, s163, s164, s165, s166, s167, s168, s169, s170, s171, s172, s173, s174, s175, s176, s177, s178, s179, s180, s181, s182, s183, s184, s185, s186, s187, s188, s189, s190, s191, s192, s193, s194, s195, s196, s197, s198, s199, s200, s201, s202, s203, s204, s205, s206, s207, s208, s209, s210, s211, s212, s213, s214, s215, s216, s217, s218, s219, s220, s221, s222, s223, s224, s225, s226, s227, s228, s229, s230, s231, s232, s233, s234, s235, s236, s237, s238, s239, s240, s241, s242, s243, s244, s245, s246, s247, s248, s249, s250, s251, s252, s253], defers := [] } w') :
    (subC [1, 1, 1, 1, 1, 1, 1, 1, 1, 1, 1, 1, 1, 0, 1, 0, 0, 1, 0, 0, 1, 1, 1, 1, 0, 1] (Try.f6.body.getD .skip)).wp Try.prog Q { tmps := #[s0, s1, s2, s3, s4, s5, s6, s7, s8, s9, s10, s11, s12, .pointer (some ⟨Bk, 0, none⟩), s14, s15, s16, rv, s18, s19, s20, s21, s22, .int .i64 0, s24, s25, s26, s27, s28, s29, s30, s31, s32, s33, s34, s35, s36, s37, s38, s39, s40, s41, s42, s43, s44, s45, s46, s47, s48, s49, s50, s51, s52, s53, s54, s55, s56, s57, s58, s59, s60, s61, s62, s63, s64, s65, s66, s67, s68, s69, s70, s71, s72, s73, s74, s75, s76, s77, s78, s79, s80, s81, s82, s83, s84, s85, s86, s87, s88, s89, s90, s91, s92, s93, s94, s95, s96, s97, s98, s99, s100, s101, s102, s103, s104, s105, s106, s107, s108, s109, s110, s111, s112, s113, s114, s115, s116, s117, s118, s119, s120, s121, s122, s123, s124, s125, s126, s127, s128, s129, s130, s131, s132, s133, s134, s135, s136, s137, s138, s139, s140, s141, s142, s143, s144, s145, s146, s147, s148, s149, s150, s151, s152, s153, s154, s155, s156, s157, s158, s159, s160, s161, s162, s163, s164, s165, s166, s167, s168, s169, s170, s171, s172, s173, s174, s175, s176, s177, s178, s179, s180, s181, s182, s183, s184, s185, s186, s187, s188, s189, s190, s191, s192, s193, s194, s195, s196, s197, s198, s199, s200, s201, s202, s203, s204, s205, s206, s207, s208, s209, s210, s211, s212, s213, s214, s215, s216, s217, s218, s219, s220, s221, s222, s223, s224, s225, s226, s227, s228, s229, s230, s231, s232, s233, s234, s235, s236, s237, s238, s239, s240, s241, s242, s243, s244, s245, s246, s247, s248, s249, s250, s251, s252, s253], defers := [] } w := by
  have HQ := Lib.hid hQ
  have HT := Lib.hid hT
  have HI := Lib.hid hI
  have HROW := Lib.hid hrow
  obtain ⟨rq, rc, rfl, hr1, hr2⟩ := (own_sl (hrow _ hI.f)).form
  clear hQ hT hI hrow
  show (Code.block 2 _).wp _ _ _ _
  dsimp only
  go_wp2_with fail
  go_loopw [23] (fun i wr => ∃ (j : Nat) (K : List Nat) (es : List (Value × Nat)) (lv nv : Value) (sz : Int), i = .int .i64 (j : Int) ∧ j ≤ vs.length ∧ TI w0 wm X F vs R Bk E j K es lv nv sz wr) (fun i _ => vs.length - (intOf i).toNat)
  case atStart => exact ⟨0, K, es, lv, nv, sz, rfl, by omega, HI.out⟩
  case round =>
    obtain ⟨j, K2, es2, lv2, nv2, sz2, rfl, hj, hJ⟩ := hrel
    have HJ := Lib.hid hJ
    by_cases hlt : j < vs.length
    · have hj1 : (j : Int) < (vs.length : Int) := by omega
      have hrow := HROW.out _ hJ.f
      obtain ⟨g, _, e, _, hgl⟩ := hrow.form (by omega)
      cases e
      have c0 : wr.cell? ⟨g, j, none⟩ = some vs[j] := by
        rw [hrow.cellAt j (by omega)]
        exact List.getElem?_eq_getElem hlt
      have hR : j < R.length := by have := HT.out.len; omega
      obtain ⟨h1, h2⟩ := hJ.el j hlt hR (Nat.le_refl _)
      have hlen : es2.length ≤ 4194304 := by have := hJ.len; omega
      have HTK : Hid (Calls Try.prog 21 #[.pointer (some ⟨Bk, 0, none⟩), vs[j]] wr (TakePost Bk K2 es2 vs[j] R[j].length wr)) := takeC Bk K2 es2 lv2 nv2 vs[j] sz2 R[j] wr hJ.book h1 h2 (HT.out.sm _ (List.getElem_mem hR)) hlen
      obtain ⟨xq, xc, e, _, _⟩ := (own_sl h1).form
      have HST : Hid (∀ e w1, TakePost Bk K2 es2 vs[j] R[j].length wr e w1 → e = .returned (.tuple #[]) ∧ ∃ K' es' lv' nv' sz', TI w0 wm X F vs R Bk E (j + 1) K' es' lv' nv' sz' w1) := fun e w1 hp => hJ.step HT.out hlt hp
      clear hrow h1 h2 hJ
      generalize vs[j] = x at *
      subst e
      generalize R[j].length = n at *
      go_wp2_with fail
      refine HTK.out.mono ?_
      intro e w1 hp
      obtain ⟨rfl, K3, es3, lv3, nv3, sz3, hN⟩ := HST.out e w1 hp
      have HN := Lib.hid hN
      clear hp hN c0
      go_wp2
      go_roundw
      case rel => exact ⟨j + 1, K3, es3, lv3, nv3, sz3, by go_num, by omega, HN.out⟩
      case measure => simp [intOf]; omega
    · obtain rfl : j = vs.length := by omega
      go_wp2
      apply HQ.out
      exact HJ.out
end
section
open Go.RowKit Go.Shelf Go.Sort Go.Proofs

set_option maxRecDepth 100000 in
set_option maxHeartbeats 3200000 in
theorem lawOverR (w7 : World) (rv : Value) (us0 : List Value) (k : Nat) (hk : k < 3) (G : List Nat) {s0 s1 s2 s3 s4 s5 s6 s7 s8 s9 s10 s11 s12 s13 s14 s15 s18 s19 s20 s21 s22 s23 s25 s26 s27 s28 s29 s30 s31 s32 s33 s34 s35 s36 s37 s38 s39 s40 s41 s42 s43 s44 s45 s46 s47 s48 s49 s50 s51 s52 s53 s54 s55 s56 s57 s58 s59 s60 s61 s62 s63 s64 s65 s66 s67 s68 s69 s70 s71 s72 s73 s74 s75 s76 s77 s78 s79 s80 s81 s82 s83 s84 s85 s86 s87 s88 s89 s90 s91 s92 s93 s94 s95 s96 s97 s98 s99 s100 s101 s102 s103 s104 s105 s106 s107 s108 s109 s110 s111 s112 s113 s114 s115 s116 s117 s118 s119 s120 s121 s122 s123 s124 s125 s126 s127 s128 s129 s130 s131 s132 s133 s134 s135 s136 s137 s138 s139 s140 s141 s142 s143 s144 s145 s146 s147 s148 s149 s150 s151 s152 s153 s154 s155 s156 s157 s158 s159 s160 s161 s162 s163 s164 s165 s166 s167 s168 s169 s170 s171 s172 s173 s174 s175 s176 s177 s178 s179 s180 s181 s182 s183 s184 s185 s186 s187 s188 s189 s190 s191 s192 s193 s194 s195 s196 s197 s198 s199 s200 s201 s202 s203 s204 s205 s206 s207 s208 s209 s210 s211 s212 s213 s214 s215 s216 s217 s218 s219 s220 s221 s222 s223 s224 s225 s226 s227 s228 s229 s230 s231 s232 s233 s234 s235 s236 s237 s238 s239 s240 s241 s242 s243 s244 s245 s246 s247 s248 s249 s250 s251 s252 s253 : Value} (hG : RG w7 G (-7 - (k : Int)) 0 rv us0 w7) (Q : Exit → Act → World → Prop)
    (hQ : ∀ (n24 n126 n127 n128 n129 n130 n131 n132 n133 n134 n135 n136 n137 n138 : Value) (us : List Value) (w' : World), us.length = us0.length → RG w7 G (-7 - (k : Int)) us.length rv us w' → Q .normal { tmps := #[s0, s1, s2, s3, s4, s5, s6, s7, s8, s9, s10, s11, s12, s13, s14, s15, .int .i64 (k : Int), rv, s18, s19, s20, s21, s22, s23, n24, s25, s26, s27, s28, s29, s30, s31, s32, s33, s34, s35, s36, s37, s38, s39, s40, s41, s42, s43, s44, s45, s46, s47, s48, s49, s50, s51, s52, s53, s54, s55, s56, s57, s58, s59, s60, s61, s62, s63, s64, s65, s66, s67, s68, s69, s70, s71, s72, s73, s74, s75, s76, s77, s78, s79, s80, s81, s82, s83, s84, s85, s86, s87, s88, s89, s90, s91, s92, s93, s94, s95, s96, s97, s98, s99, s100, s101, s102, s103, s104, s105, s106, s107, s108, s109, s110, s111, s112, s113, s114, s115, s116, s117, s118, s119, s120, s121, s122, s123, s124, s125, n126, n127, n128, n129, n130, n131, n132, n133, n134, n135, n136, n137, n138, s139, s140, s141, s142, s143, s144, s145, s146, s147, s148, s149, s150, s151, s152, s153, s154, s155, s156, s157, s158, s159, s160, s161, s162, s163, s164, s165, s166, s167, s168, s169, s170, s171, s172, s173, s174, s175, s176, s177, s178, s179, s180, s181, s182, s183, s184, s185, s186, s187, s188, s189, s190, s191, s192, s193, s194, s195, s196, s197, s198, s199, s200, s201, s202, s203, s204, s205, s206, s207, s208, s209, s210, s211, s212, s213, s214, s215, s216, s217, s218, s219, s220, s221, s222, s223, s224, s225, s226, s227, s228, s229, s230, s231, s232, s233, s234, s235, s236, s237, s238, s239, s240, s241, s242, s243, s244, s245, s246, s247, s248, s249, s250, s251, s252, s253], defers := [] } w') :
    (subC [1, 1, 1, 1, 1, 1, 1, 1, 1, 1, 1, 1, 1, 0, 1, 0, 0, 1, 0, 0, 1, 1, 1, 1, 1, 1, 0, 1] (Try.f6.body.getD .skip)).wp Try.prog Q { tmps := #[s0, s1, s2, s3, s4, s5, s6, s7, s8, s9, s10, s11, s12, s13, s14, s15, .int .i64 (k : Int), rv, s18, s19, s20, s21, s22, s23, .int .i64 0, s25, s26, s27, s28, s29, s30, s31, s32, s33, s34, s35, s36, s37, s38, s39, s40, s41, s42, s43, s44, s45, s46, s47, s48, s49, s50, s51, s52, s53, s54, s55, s56, s57, s58, s59, s60, s61, s62, s63, s64, s65, s66, s67, s68, s69, s70, s71, s72, s73, s74, s75, s76, s77, s78, s79, s80, s81, s82, s83, s84, s85, s86, s87, s88, s89, s90, s91, s92, s93, s94, s95, s96, s97, s98, s99, s100, s101, s102, s103, s104, s105, s106, s107, s108, s109, s110, s111, s112, s113, s114, s115, s116, s117, s118, s119, s120, s121, s122, s123, s124, s125, s126, s127, s128, s129, s130, s131, s132, s133, s134, s135, s136, s137, s138, s139, s140, s141, s142, s143, s144, s145, s146, s147, s148, s149, s150, s151, s152, s153, s154, s155, s156, s157, s158, s159, s160, s161, s162, s163, s164, s165, s166, s167, s168, s169, s170, s171, s172, s173, s174, s175, s176, s177, s178, s179, s180, s181, s182, s183, s184, s185, s186, s187, s188, s189, s190, s191, s192, s193, s194, s195, s196, s197, s198, s199, s200, s201, s202, s203, s204, s205, s206, s207, s208, s209, s210, s211, s212, s213, s214, s215, s216, s217, s218, s219, s220, s221, s222, s223, s224, s225, s226, s227, s228, s229, s230, s231, s232, s233, s234, s235, s236, s237, s238, s239, s240, s241, s242, s243, s244, s245, s246, s247, s248, s249, s250, s251, s252, s253], defers := [] } w7 := by
  have HQ := Lib.hid hQ
  have HG := Lib.hid hG
  obtain ⟨rq, rc, rfl, hr1, hr2⟩ := (own_sl hG.row).form
  have hwr : IntKind.i64.wrap (-7 - (k : Int)) = -7 - (k : Int) := by rw [IntKind.wrap_i64]; omega
  clear hQ hG
  generalize hn : us0.length = n at *
  have HN := Lib.hid hn
  clear hn
  show (Code.block 4 _).wp _ _ _ _
  dsimp only
  go_wp2_with fail
  go_loopw [24] (fun i wr => ∃ (j : Nat) (us : List Value), i = .int .i64 (j : Int) ∧ j ≤ n ∧ us.length = n ∧ RG w7 G (-7 - (k : Int)) j (.slice rq n rc) us wr) (fun i _ => n - (intOf i).toNat)
  case atStart => exact ⟨0, us0, rfl, by omega, HN.out, HG.out⟩
  case round =>
    obtain ⟨j, us, rfl, hj, hul, hJ⟩ := hrel
    subst hul
    have HJ := Lib.hid hJ
    by_cases hlt : j < us.length
    · have hj1 : (j : Int) < (us.length : Int) := by omega
      obtain ⟨g, _, e, _, hgl⟩ := hJ.row.form (by omega)
      cases e
      have c0 : wr.cell? ⟨g, j, none⟩ = some us[j] := by
        rw [hJ.row.cellAt j (by omega)]
        exact List.getElem?_eq_getElem hlt
      have f0 := hJ.row.frozenAt j
      have HP0 := hJ.put hlt
      rw [World.setCell_alloc_past _ g j _ hgl] at HP0
      have HP := Lib.hid HP0
      clear hJ HP0
      generalize us[j] = x at *
      go_wp2
      go_roundw
      case rel => exact ⟨j + 1, _, by go_num, by omega, List.length_set .., HP.out⟩
      case measure => simp [intOf]; omega
    · obtain rfl : j = us.length := by omega
      clear hJ
      go_wp2
      apply HQ.out
      rotate_left
      · exact HJ.out
      · rfl
/-- How long a slice is. -/
def lenV : Value → Nat
  | .slice _ n _ => n
  | _ => 0
set_option maxRecDepth 100000 in
set_option maxHeartbeats 3200000 in
theorem lawGrowR (w7 w : World) (rv : Value) (us0 : List Value) (k : Nat) (hk : k < 3) (G : List Nat) (R : Nat) {s0 s1 s2 s3 s4 s5 s6 s7 s8 s9 s10 s11 s12 s13 s14 s15 s18 s19 s20 s21 s22 s23 s24 s26 s27 s28 s29 s30 s31 s32 s33 s34 s35 s36 s37 s38 s39 s40 s41 s42 s43 s44 s45 s46 s47 s48 s49 s50 s51 s52 s53 s54 s55 s56 s57 s58 s59 s60 s61 s62 s63 s64 s65 s66 s67 s68 s69 s70 s71 s72 s73 s74 s75 s76 s77 s78 s79 s80 s81 s82 s83 s84 s85 s86 s87 s88 s89 s90 s91 s92 s93 s94 s95 s96 s97 s98 s99 s100 s101 s102 s103 s104 s105 s106 s107 s108 s109 s110 s111 s112 s113 s114 s115 s116 s117 s118 s119 s120 s121 s122 s123 s124 s125 s126 s127 s128 s129 s130 s131 s132 s133 s134 s135 s136 s137 s138 s139 s140 s141 s142 s143 s144 s145 s146 s147 s148 s149 s150 s151 s152 s153 s154 s155 s156 s157 s158 s159 s160 s161 s162 s163 s164 s165 s166 s167 s168 s169 s170 s171 s172 s173 s174 s175 s176 s177 s178 s179 s180 s181 s182 s183 s184 s185 s186 s187 s188 s189 s190 s191 s192 s193 s194 s195 s196 s197 s198 s199 s200 s201 s202 s203 s204 s205 s206 s207 s208 s209 s210 s211 s212 s213 s214 s215 s216 s217 s218 s219 s220 s221 s222 s223 s224 s225 s226 s227 s228 s229 s230 s231 s232 s233 s234 s235 s236 s237 s238 s239 s240 s241 s242 s243 s244 s245 s246 s247 s248 s249 s250 s251 s252 s253 : Value} (hG : RG w7 G (-7 - (k : Int)) us0.length rv us0 w) (hR1 : us0.length ≤ R) (hR3 : R ≤ 4264304) (Q : Exit → Act → World → Prop)
    (hQ : ∀ (n144 n145 n146 n147 n148 n149 n150 n151 n152 n153 n154 : Value) (rv' : Value) (us : List Value) (w' : World), RG w7 G (-7 - (k : Int)) us.length rv' us w' → Q .normal { tmps := #[s0, s1, s2, s3, s4, s5, s6, s7, s8, s9, s10, s11, s12, s13, s14, s15, .int .i64 (k : Int), rv', s18, s19, s20, s21, s22, s23, s24, .int .i64 (R : Int), s26, s27, s28, s29, s30, s31, s32, s33, s34, s35, s36, s37, s38, s39, s40, s41, s42, s43, s44, s45, s46, s47, s48, s49, s50, s51, s52, s53, s54, s55, s56, s57, s58, s59, s60, s61, s62, s63, s64, s65, s66, s67, s68, s69, s70, s71, s72, s73, s74, s75, s76, s77, s78, s79, s80, s81, s82, s83, s84, s85, s86, s87, s88, s89, s90, s91, s92, s93, s94, s95, s96, s97, s98, s99, s100, s101, s102, s103, s104, s105, s106, s107, s108, s109, s110, s111, s112, s113, s114, s115, s116, s117, s118, s119, s120, s121, s122, s123, s124, s125, s126, s127, s128, s129, s130, s131, s132, s133, s134, s135, s136, s137, s138, s139, s140, s141, s142, s143, n144, n145, n146, n147, n148, n149, n150, n151, n152, n153, n154, s155, s156, s157, s158, s159, s160, s161, s162, s163, s164, s165, s166, s167, s168, s169, s170, s171, s172, s173, s174, s175, s176, s177, s178, s179, s180, s181, s182, s183, s184, s185, s186, s187, s188, s189, s190, s191, s192, s193, s194, s195, s196, s197, s198, s199, s200, s201, s202, s203, s204, s205, s206, s207, s208, s209, s210, s211, s212, s213, s214, s215, s216, s217, s218, s219, s220, s221, s222, s223, s224, s225, s226, s227, s228, s229, s230, s231, s232, s233, s234, s235, s236, s237, s238, s239, s240, s241, s242, s243, s244, s245, s246, s247, s248, s249, s250, s251, s252, s253], defers := [] } w') :
    (subC [1, 1, 1, 1, 1, 1, 1, 1, 1, 1, 1, 1, 1, 0, 1, 0, 0, 1, 0, 0, 1, 1, 1, 1, 1, 1, 1, 0, 1] (Try.f6.body.getD .skip)).wp Try.prog Q { tmps := #[s0, s1, s2, s3, s4, s5, s6, s7, s8, s9, s10, s11, s12, s13, s14, s15, .int .i64 (k : Int), rv, s18, s19, s20, s21, s22, s23, s24, .int .i64 (R : Int), s26, s27, s28, s29, s30, s31, s32, s33, s34, s35, s36, s37, s38, s39, s40, s41, s42, s43, s44, s45, s46, s47, s48, s49, s50, s51, s52, s53, s54, s55, s56, s57, s58, s59, s60, s61, s62, s63, s64, s65, s66, s67, s68, s69, s70, s71, s72, s73, s74, s75, s76, s77, s78, s79, s80, s81, s82, s83, s84, s85, s86, s87, s88, s89, s90, s91, s92, s93, s94, s95, s96, s97, s98, s99, s100, s101, s102, s103, s104, s105, s106, s107, s108, s109, s110, s111, s112, s113, s114, s115, s116, s117, s118, s119, s120, s121, s122, s123, s124, s125, s126, s127, s128, s129, s130, s131, s132, s133, s134, s135, s136, s137, s138, s139, s140, s141, s142, s143, s144, s145, s146, s147, s148, s149, s150, s151, s152, s153, s154, s155, s156, s157, s158, s159, s160, s161, s162, s163, s164, s165, s166, s167, s168, s169, s170, s171, s172, s173, s174, s175, s176, s177, s178, s179, s180, s181, s182, s183, s184, s185, s186, s187, s188, s189, s190, s191, s192, s193, s194, s195, s196, s197, s198, s199, s200, s201, s202, s203, s204, s205, s206, s207, s208, s209, s210, s211, s212, s213, s214, s215, s216, s217, s218, s219, s220, s221, s222, s223, s224, s225, s226, s227, s228, s229, s230, s231, s232, s233, s234, s235, s236, s237, s238, s239, s240, s241, s242, s243, s244, s245, s246, s247, s248, s249, s250, s251, s252, s253], defers := [] } w := by
  have HQ := Lib.hid hQ
  have HG := Lib.hid hG
  obtain ⟨rq, rc, rfl, hr1, hr2⟩ := (own_sl hG.row).form
  have hwr : IntKind.i64.wrap (-7 - (k : Int)) = -7 - (k : Int) := by rw [IntKind.wrap_i64]; omega
  obtain ⟨i2, hi2, hy0, hy1, hy2⟩ := info_parts infoTS'
  clear hQ hG
  show (Code.block 6 _).wp _ _ _ _
  dsimp only
  go_wp2_with fail
  go_loopw [17] (fun v wr => ∃ (us : List Value), us.length ≤ R ∧ RG w7 G (-7 - (k : Int)) us.length v us wr) (fun v _ => R - lenV v)
  case atStart => exact ⟨us0, by omega, HG.out⟩
  case round =>
    obtain ⟨us, hul, hJ⟩ := hrel
    have HJ := Lib.hid hJ
    obtain ⟨q, c, rfl, hc1, hc2⟩ := (own_sl hJ.row).form
    by_cases hlt : us.length < R
    · have hj1 : (us.length : Int) < (R : Int) := by omega
      have hown2 := (hJ.row.alloc (.cells #[.int .i64 (-7 - (k : Int)), .int .i64 0] tSp)).alloc (.cells #[.slice (some ⟨wr.heap.size, 0, none⟩) 1 1] tS)
      clear hJ
      go_wp2_with (at_builtin; refine wpList_append_lies _ rfl _ _ 25 rfl 0 tS i2 _ 1 24 Try.underlying25 hi2 hy0 hy1 hy2 rfl (by decide) (.slice q us.length c) _ _ rfl hown2 ⟨wr.heap.size + 1, 0, none⟩ 1 1 [.slice (some ⟨wr.heap.size, 0, none⟩) 1 1] rfl rfl (by have := news_of (wr.alloc (.cells #[.int .i64 (-7 - (k : Int)), .int .i64 0] tSp)) [.slice (some ⟨wr.heap.size, 0, none⟩) 1 1] tS; simpa using this) (one_mem rfl) (by omega) (by unfold maxLen; omega) (by omega) (Nat.zero_le _) (wr.heap.size + 2) (by simp) ?_; intro g9 c9 w9 hown9 hgrow9 hat9 hlt9)
      have HP := Lib.hid (HJ.out.push (x := .slice (some ⟨wr.heap.size, 0, none⟩) 1 1) rfl rfl hown9 hgrow9 hat9 (by omega))
      clear hown9 hgrow9 hat9 hlt9 hown2
      go_wp2
      go_roundw
      case rel => exact ⟨us ++ [.slice (some ⟨wr.heap.size, 0, none⟩) 1 1], by simp; omega, HP.out⟩
      case measure => simp [lenV]; omega
    · clear hJ
      go_wp2
      apply HQ.out
      exact HJ.out
end
section
open Go.RowKit Go.Shelf Go.Sort Go.Proofs

set_option maxRecDepth 100000 in
set_option maxHeartbeats 3200000 in
theorem lawOverD (w7 : World) (rv : Value) (us0 : List Lx) (k : Nat) (hk : k < 3) (G : List Nat) {s0 s1 s2 s3 s4 s5 s6 s7 s8 s9 s10 s11 s12 s13 s14 s15 s17 s18 s19 s20 s22 s23 s24 s25 s27 s28 s29 s30 s31 s32 s33 s34 s35 s36 s37 s38 s39 s40 s41 s42 s43 s44 s45 s46 s47 s48 s49 s50 s51 s52 s53 s54 s55 s56 s57 s58 s59 s60 s61 s62 s63 s64 s65 s66 s67 s68 s69 s70 s71 s72 s73 s74 s75 s76 s77 s78 s79 s80 s81 s82 s83 s84 s85 s86 s87 s88 s89 s90 s91 s92 s93 s94 s95 s96 s97 s98 s99 s100 s101 s102 s103 s104 s105 s106 s107 s108 s109 s110 s111 s112 s113 s114 s115 s116 s117 s118 s119 s120 s121 s122 s123 s124 s125 s126 s127 s128 s129 s130 s131 s132 s133 s134 s135 s136 s137 s138 s139 s140 s141 s142 s143 s144 s145 s146 s147 s148 s149 s150 s151 s152 s153 s154 s155 s156 s157 s158 s159 s160 s161 s162 s163 s164 s165 s166 s167 s168 s169 s170 s171 s172 s173 s174 s175 s176 s177 s178 s179 s180 s181 s182 s183 s184 s185 s186 s187 s188 s189 s190 s191 s192 s193 s194 s195 s196 s197 s198 s199 s200 s201 s202 s203 s204 s205 s206 s207 s208 s209 s210 s211 s212 s213 s214 s215 s216 s217 s218 s219 s220 s221 s222 s223 s224 s225 s226 s227 s228 s229 s230 s231 s232 s233 s234 s235 s236 s237 s238 s239 s240 s241 s242 s243 s244 s245 s246 s247 s248 s249 s250 s251 s252 s253 : Value} (hG : DG w7 G (-7 - (k : Int)) 0 rv us0 w7) (Q : Exit → Act → World → Prop)
    (hQ : ∀ (n26 n155 n156 n157 n158 n159 n160 n161 n162 n163 n164 n165 n166 : Value) (us : List Lx) (w' : World), us.length = us0.length → DG w7 G (-7 - (k : Int)) us.length rv us w' → Q .normal { tmps := #[s0, s1, s2, s3, s4, s5, s6, s7, s8, s9, s10, s11, s12, s13, s14, s15, .int .i64 (k : Int), s17, s18, s19, s20, rv, s22, s23, s24, s25, n26, s27, s28, s29, s30, s31, s32, s33, s34, s35, s36, s37, s38, s39, s40, s41, s42, s43, s44, s45, s46, s47, s48, s49, s50, s51, s52, s53, s54, s55, s56, s57, s58, s59, s60, s61, s62, s63, s64, s65, s66, s67, s68, s69, s70, s71, s72, s73, s74, s75, s76, s77, s78, s79, s80, s81, s82, s83, s84, s85, s86, s87, s88, s89, s90, s91, s92, s93, s94, s95, s96, s97, s98, s99, s100, s101, s102, s103, s104, s105, s106, s107, s108, s109, s110, s111, s112, s113, s114, s115, s116, s117, s118, s119, s120, s121, s122, s123, s124, s125, s126, s127, s128, s129, s130, s131, s132, s133, s134, s135, s136, s137, s138, s139, s140, s141, s142, s143, s144, s145, s146, s147, s148, s149, s150, s151, s152, s153, s154, n155, n156, n157, n158, n159, n160, n161, n162, n163, n164, n165, n166, s167, s168, s169, s170, s171, s172, s173, s174, s175, s176, s177, s178, s179, s180, s181, s182, s183, s184, s185, s186, s187, s188, s189, s190, s191, s192, s193, s194, s195, s196, s197, s198, s199, s200, s201, s202, s203, s204, s205, s206, s207, s208, s209, s210, s211, s212, s213, s214, s215, s216, s217, s218, s219, s220, s221, s222, s223, s224, s225, s226, s227, s228, s229, s230, s231, s232, s233, s234, s235, s236, s237, s238, s239, s240, s241, s242, s243, s244, s245, s246, s247, s248, s249, s250, s251, s252, s253], defers := [] } w') :
    (subC [1, 1, 1, 1, 1, 1, 1, 1, 1, 1, 1, 1, 1, 0, 1, 0, 0, 1, 0, 0, 1, 1, 1, 1, 1, 1, 1, 1, 0, 1] (Try.f6.body.getD .skip)).wp Try.prog Q { tmps := #[s0, s1, s2, s3, s4, s5, s6, s7, s8, s9, s10, s11, s12, s13, s14, s15, .int .i64 (k : Int), s17, s18, s19, s20, rv, s22, s23, s24, s25, .int .i64 0, s27, s28, s29, s30, s31, s32, s33, s34, s35, s36, s37, s38, s39, s40, s41, s42, s43, s44, s45, s46, s47, s48, s49, s50, s51, s52, s53, s54, s55, s56, s57, s58, s59, s60, s61, s62, s63, s64, s65, s66, s67, s68, s69, s70, s71, s72, s73, s74, s75, s76, s77, s78, s79, s80, s81, s82, s83, s84, s85, s86, s87, s88, s89, s90, s91, s92, s93, s94, s95, s96, s97, s98, s99, s100, s101, s102, s103, s104, s105, s106, s107, s108, s109, s110, s111, s112, s113, s114, s115, s116, s117, s118, s119, s120, s121, s122, s123, s124, s125, s126, s127, s128, s129, s130, s131, s132, s133, s134, s135, s136, s137, s138, s139, s140, s141, s142, s143, s144, s145, s146, s147, s148, s149, s150, s151, s152, s153, s154, s155, s156, s157, s158, s159, s160, s161, s162, s163, s164, s165, s166, s167, s168, s169, s170, s171, s172, s173, s174, s175, s176, s177, s178, s179, s180, s181, s182, s183, s184, s185, s186, s187, s188, s189, s190, s191, s192, s193, s194, s195, s196, s197, s198, s199, s200, s201, s202, s203, s204, s205, s206, s207, s208, s209, s210, s211, s212, s213, s214, s215, s216, s217, s218, s219, s220, s221, s222, s223, s224, s225, s226, s227, s228, s229, s230, s231, s232, s233, s234, s235, s236, s237, s238, s239, s240, s241, s242, s243, s244, s245, s246, s247, s248, s249, s250, s251, s252, s253], defers := [] } w7 := by
  have HQ := Lib.hid hQ
  have HG := Lib.hid hG
  obtain ⟨rq, rc, rfl, hr1, hr2⟩ := (own_sl hG.row).form
  have hwr : IntKind.i64.wrap (-7 - (k : Int)) = -7 - (k : Int) := by rw [IntKind.wrap_i64]; omega
  clear hQ hG
  generalize hn : us0.length = n at *
  have HN := Lib.hid hn
  clear hn
  show (Code.block 8 _).wp _ _ _ _
  dsimp only
  go_wp2_with fail
  go_loopw [26] (fun i wr => ∃ (j : Nat) (us : List Lx), i = .int .i64 (j : Int) ∧ j ≤ n ∧ us.length = n ∧ DG w7 G (-7 - (k : Int)) j (.slice rq n rc) us wr) (fun i _ => n - (intOf i).toNat)
  case atStart => exact ⟨0, us0, rfl, by omega, HN.out, HG.out⟩
  case round =>
    obtain ⟨j, us, rfl, hj, hul, hJ⟩ := hrel
    subst hul
    have HJ := Lib.hid hJ
    by_cases hlt : j < us.length
    · have hj1 : (j : Int) < (us.length : Int) := by omega
      obtain ⟨g, _, e, _, hgl⟩ := hJ.row.form (by omega)
      cases e
      have hfl : (us.flatMap lxC).length = us.length * 6 := flat_len lxC 6 (fun _ => rfl) us
      have key : ∀ o, o < us.length * 6 → ∃ y, wr.cell? ⟨g, o, none⟩ = some y := fun o ho => ⟨_, (hJ.row.cellAt o ho).trans (List.getElem?_eq_getElem (by omega))⟩
      obtain ⟨y0, c0⟩ := key (j * 6) (by omega)
      obtain ⟨y1, c1⟩ := key (j * 6 + 1) (by omega)
      obtain ⟨y2, c2⟩ := key (j * 6 + 2) (by omega)
      obtain ⟨y3, c3⟩ := key (j * 6 + 3) (by omega)
      obtain ⟨y4, c4⟩ := key (j * 6 + 4) (by omega)
      obtain ⟨y5, c5⟩ := key (j * 6 + 5) (by omega)
      have f0 := hJ.row.frozenAt (j * 6)
      have f1 := hJ.row.frozenAt (j * 6 + 1)
      have f2 := hJ.row.frozenAt (j * 6 + 2)
      have f3 := hJ.row.frozenAt (j * 6 + 3)
      have f4 := hJ.row.frozenAt (j * 6 + 4)
      have f5 := hJ.row.frozenAt (j * 6 + 5)
      have HP := Lib.hid (hJ.put hlt)
      clear hJ key hfl
      go_wp2
      go_roundw
      case rel => exact ⟨j + 1, _, by go_num, by omega, List.length_set .., HP.out⟩
      case measure => simp [intOf]; omega
    · obtain rfl : j = us.length := by omega
      clear hJ
      go_wp2
      apply HQ.out
      rotate_left
      · exact HJ.out
      · rfl
set_option maxRecDepth 100000 in
set_option maxHeartbeats 3200000 in
theorem lawGrowD (w7 w : World) (rv : Value) (us0 : List Lx) (k : Nat) (hk : k < 3) (G : List Nat) (R : Nat) {s0 s1 s2 s3 s4 s5 s6 s7 s8 s9 s10 s11 s12 s13 s14 s15 s17 s18 s19 s20 s22 s23 s24 s25 s26 s28 s29 s30 s31 s32 s33 s34 s35 s36 s37 s38 s39 s40 s41 s42 s43 s44 s45 s46 s47 s48 s49 s50 s51 s52 s53 s54 s55 s56 s57 s58 s59 s60 s61 s62 s63 s64 s65 s66 s67 s68 s69 s70 s71 s72 s73 s74 s75 s76 s77 s78 s79 s80 s81 s82 s83 s84 s85 s86 s87 s88 s89 s90 s91 s92 s93 s94 s95 s96 s97 s98 s99 s100 s101 s102 s103 s104 s105 s106 s107 s108 s109 s110 s111 s112 s113 s114 s115 s116 s117 s118 s119 s120 s121 s122 s123 s124 s125 s126 s127 s128 s129 s130 s131 s132 s133 s134 s135 s136 s137 s138 s139 s140 s141 s142 s143 s144 s145 s146 s147 s148 s149 s150 s151 s152 s153 s154 s155 s156 s157 s158 s159 s160 s161 s162 s163 s164 s165 s166 s167 s168 s169 s170 s171 s172 s173 s174 s175 s176 s177 s178 s179 s180 s181 s182 s183 s184 s185 s186 s187 s188 s189 s190 s191 s192 s193 s194 s195 s196 s197 s198 s199 s200 s201 s202 s203 s204 s205 s206 s207 s208 s209 s210 s211 s212 s213 s214 s215 s216 s217 s218 s219 s220 s221 s222 s223 s224 s225 s226 s227 s228 s229 s230 s231 s232 s233 s234 s235 s236 s237 s238 s239 s240 s241 s242 s243 s244 s245 s246 s247 s248 s249 s250 s251 s252 s253 : Value} (hG : DG w7 G (-7 - (k : Int)) us0.length rv us0 w) (hR1 : us0.length ≤ R) (hR3 : R ≤ 4264304) (Q : Exit → Act → World → Prop)
    (hQ : ∀ (n172 n173 n174 n175 n176 n177 n178 n179 n180 n181 : Value) (rv' : Value) (us : List Lx) (w' : World), DG w7 G (-7 - (k : Int)) us.length rv' us w' → Q .normal { tmps := #[s0, s1, s2, s3, s4, s5, s6, s7, s8, s9, s10, s11, s12, s13, s14, s15, .int .i64 (k : Int), s17, s18, s19, s20, rv', s22, s23, s24, s25, s26, .int .i64 (R : Int), s28, s29, s30, s31, s32, s33, s34, s35, s36, s37, s38, s39, s40, s41, s42, s43, s44, s45, s46, s47, s48, s49, s50, s51, s52, s53, s54, s55, s56, s57, s58, s59, s60, s61, s62, s63, s64, s65, s66, s67, s68, s69, s70, s71, s72, s73, s74, s75, s76, s77, s78, s79, s80, s81, s82, s83, s84, s85, s86, s87, s88, s89, s90, s91, s92, s93, s94, s95, s96, s97, s98, s99, s100, s101, s102, s103, s104, s105, s106, s107, s108, s109, s110, s111, s112, s113, s114, s115, s116, s117, s118, s119, s120, s121, s122, s123, s124, s125, s126, s127, s128, s129, s130, s131, s132, s133, s134, s135, s136, s137, s138, s139, s140, s141, s142, s143, s144, s145, s146, s147, s148, s149, s150, s151, s152, s153, s154, s155, s156, s157, s158, s159, s160, s161, s162, s163, s164, s165, s166, s167, s168, s169, s170, s171, n172, n173, n174, n175, n176, n177, n178, n179, n180, n181, s182, s183, s184, s185, s186, s187, s188, s189, s190, s191, s192, s193, s194, s195, s196, s197, s198, s199, s200, s201, s202, s203, s204, s205, s206, s207, s208, s209, s210, s211, s212, s213, s214, s215, s216, s217, s218, s219, s220, s221, s222, s223, s224, s225, s226, s227, s228, s229, s230, s231, s232, s233, s234, s235, s236, s237, s238, s239, s240, s241, s242, s243, s244, s245, s246, s247, s248, s249, s250, s251, s252, s253], defers := [] } w') :
    (subC [1, 1, 1, 1, 1, 1, 1, 1, 1, 1, 1, 1, 1, 0, 1, 0, 0, 1, 0, 0, 1, 1, 1, 1, 1, 1, 1, 1, 1, 0, 1] (Try.f6.body.getD .skip)).wp Try.prog Q { tmps := #[s0, s1, s2, s3, s4, s5, s6, s7, s8, s9, s10, s11, s12, s13, s14, s15, .int .i64 (k : Int), s17, s18, s19, s20, rv, s22, s23, s24, s25, s26, .int .i64 (R : Int), s28, s29, s30, s31, s32, s33, s34, s35, s36, s37, s38, s39, s40, s41, s42, s43, s44, s45, s46, s47, s48, s49, s50, s51, s52, s53, s54, s55, s56, s57, s58, s59, s60, s61, s62, s63, s64, s65, s66, s67, s68, s69, s70, s71, s72, s73, s74, s75, s76, s77, s78, s79, s80, s81, s82, s83, s84, s85, s86, s87, s88, s89, s90, s91, s92, s93, s94, s95, s96, s97, s98, s99, s100, s101, s102, s103, s104, s105, s106, s107, s108, s109, s110, s111, s112, s113, s114, s115, s116, s117, s118, s119, s120, s121, s122, s123, s124, s125, s126, s127, s128, s129, s130, s131, s132, s133, s134, s135, s136, s137, s138, s139, s140, s141, s142, s143, s144, s145, s146, s147, s148, s149, s150, s151, s152, s153, s154, s155, s156, s157, s158, s159, s160, s161, s162, s163, s164, s165, s166, s167, s168, s169, s170, s171, s172, s173, s174, s175, s176, s177, s178, s179, s180, s181, s182, s183, s184, s185, s186, s187, s188, s189, s190, s191, s192, s193, s194, s195, s196, s197, s198, s199, s200, s201, s202, s203, s204, s205, s206, s207, s208, s209, s210, s211, s212, s213, s214, s215, s216, s217, s218, s219, s220, s221, s222, s223, s224, s225, s226, s227, s228, s229, s230, s231, s232, s233, s234, s235, s236, s237, s238, s239, s240, s241, s242, s243, s244, s245, s246, s247, s248, s249, s250, s251, s252, s253], defers := [] } w := by
  have HQ := Lib.hid hQ
  have HG := Lib.hid hG
  obtain ⟨rq, rc, rfl, hr1, hr2⟩ := (own_sl hG.row).form
  have hwr : IntKind.i64.wrap (-7 - (k : Int)) = -7 - (k : Int) := by rw [IntKind.wrap_i64]; omega
  obtain ⟨i2, hi2, hy0, hy1, hy2⟩ := info_parts infoLead
  clear hQ hG
  show (Code.block 10 _).wp _ _ _ _
  dsimp only
  go_wp2_with fail
  go_loopw [21] (fun v wr => ∃ (us : List Lx), us.length ≤ R ∧ DG w7 G (-7 - (k : Int)) us.length v us wr) (fun v _ => R - lenV v)
  case atStart => exact ⟨us0, by omega, HG.out⟩
  case round =>
    obtain ⟨us, hul, hJ⟩ := hrel
    have HJ := Lib.hid hJ
    obtain ⟨q, c, rfl, hc1, hc2⟩ := (own_sl hJ.row).form
    by_cases hlt : us.length < R
    · have hj1 : (us.length : Int) < (R : Int) := by omega
      have hfa : Fr [] wr (wr.alloc (.cells (lxC (lx0 (-7 - (k : Int)))).toArray tLd)) := (Fr.refl [] wr).alloc _
      have hown2 := hJ.row.alloc (.cells (lxC (lx0 (-7 - (k : Int)))).toArray tLd)
      have HFA := Lib.hid hfa
      clear hJ hfa
      go_wp2_with (at_builtin; refine wpList_append_lies _ rfl _ _ 43 rfl 0 tLd i2 _ 6 48 Try.underlying43 hi2 hy0 hy1 hy2 rfl (by decide) (.slice q us.length c) _ _ rfl hown2 ⟨wr.heap.size, 0, none⟩ 1 1 (lxC (lx0 (-7 - (k : Int)))) rfl rfl (by have := news_of wr (lxC (lx0 (-7 - (k : Int)))) tLd; simpa using this) (fun x hx => by simp at hx; rcases hx with rfl | rfl | rfl | rfl | rfl | rfl <;> rfl) (by omega) (by unfold maxLen; omega) (by omega) (Nat.zero_le _) (wr.heap.size + 1) (by simp) ?_; intro g9 c9 w9 hown9 hgrow9 hat9 hlt9)
      have HP := Lib.hid (HJ.out.push HFA.out hown9 hgrow9 hat9 (by omega))
      clear hown9 hgrow9 hat9 hlt9 hown2
      go_wp2
      go_roundw
      case rel => exact ⟨us ++ [lx0 (-7 - (k : Int))], by simp; omega, HP.out⟩
      case measure => simp [lenV]; omega
    · clear hJ
      go_wp2
      apply HQ.out
      exact HJ.out
end
section
open Go.RowKit Go.Shelf Go.Sort Go.Proofs

set_option maxRecDepth 100000 in
set_option maxHeartbeats 6400000 in
theorem lawReads (w : World) (M : List Nat) (av tv : Value) (us ts : List Value) {s0 s1 s2 s3 s4 s5 s6 s7 s8 s9 s10 s11 s12 s13 s16 s17 s18 s19 s20 s21 s22 s23 s24 s25 s26 s27 s29 s30 s31 s32 s33 s34 s35 s36 s37 s38 s39 s40 s41 s42 s43 s44 s45 s46 s47 s48 s49 s50 s51 s52 s53 s54 s55 s56 s57 s58 s59 s60 s61 s62 s63 s64 s65 s66 s67 s68 s69 s70 s71 s72 s73 s74 s75 s76 s77 s78 s79 s80 s81 s82 s83 s84 s85 s86 s87 s88 s89 s90 s91 s92 s93 s94 s95 s96 s97 s98 s99 s100 s101 s102 s103 s104 s105 s106 s107 s108 s109 s110 s111 s112 s113 s114 s115 s116 s117 s118 s119 s120 s121 s122 s123 s124 s125 s126 s127 s128 s129 s130 s131 s132 s133 s134 s135 s136 s137 s138 s139 s140 s141 s142 s143 s144 s145 s146 s147 s148 s149 s150 s151 s152 s153 s154 s155 s156 s157 s158 s159 s160 s161 s162 s163 s164 s165 s166 s167 s168 s169 s170 s171 s172 s173 s174 s175 s176 s177 s178 s179 s180 s181 s182 s183 s184 s185 s186 s187 s188 s189 s190 s191 s192 s193 s194 s195 s196 s197 s198 s199 s200 s201 s202 s203 s204 s205 s206 s207 s208 s209 s210 s211 s212 s213 s214 s215 s216 s217 s218 s219 s220 s221 s222 s223 s224 s225 s226 s227 s228 s229 s230 s231 s232 s233 s234 s235 s236 s237 s238 s239 s240 s241 s242 s243 s244 s245 s246 s247 s248 s249 s250 s251 s252 s253 : Value} (hA : AA M av tv us ts w) (hul : us.length = 3) (htl : ts.length = 3) (Q : Exit → Act → World → Prop)
    (hQ : ∀ (n2 n28 n29 n30 n190 n191 n192 n193 n194 n195 n196 n197 n198 n199 n200 n201 n202 n203 n204 n205 n206 n207 n208 n209 n210 n211 n212 n213 n214 n215 n216 n217 n218 n219 n220 n221 n222 n223 n224 n225 n226 n227 n228 n229 n230 n231 n232 n233 n234 n235 n236 n237 n238 n239 n240 n241 n242 n243 n244 n245 n246 : Value), Q .normal { tmps := #[s0, s1, n2, s3, s4, s5, s6, s7, s8, s9, s10, s11, s12, s13, av, tv, s16, s17, s18, s19, s20, s21, s22, s23, s24, s25, s26, s27, n28, n29, n30, s31, s32, s33, s34, s35, s36, s37, s38, s39, s40, s41, s42, s43, s44, s45, s46, s47, s48, s49, s50, s51, s52, s53, s54, s55, s56, s57, s58, s59, s60, s61, s62, s63, s64, s65, s66, s67, s68, s69, s70, s71, s72, s73, s74, s75, s76, s77, s78, s79, s80, s81, s82, s83, s84, s85, s86, s87, s88, s89, s90, s91, s92, s93, s94, s95, s96, s97, s98, s99, s100, s101, s102, s103, s104, s105, s106, s107, s108, s109, s110, s111, s112, s113, s114, s115, s116, s117, s118, s119, s120, s121, s122, s123, s124, s125, s126, s127, s128, s129, s130, s131, s132, s133, s134, s135, s136, s137, s138, s139, s140, s141, s142, s143, s144, s145, s146, s147, s148, s149, s150, s151, s152, s153, s154, s155, s156, s157, s158, s159, s160, s161, s162, s163, s164, s165, s166, s167, s168, s169, s170, s171, s172, s173, s174, s175, s176, s177, s178, s179, s180, s181, s182, s183, s184, s185, s186, s187, s188, s189, n190, n191, n192, n193, n194, n195, n196, n197, n198, n199, n200, n201, n202, n203, n204, n205, n206, n207, n208, n209, n210, n211, n212, n213, n214, n215, n216, n217, n218, n219, n220, n221, n222, n223, n224, n225, n226, n227, n228, n229, n230, n231, n232, n233, n234, n235, n236, n237, n238, n239, n240, n241, n242, n243, n244, n245, n246, s247, s248, s249, s250, s251, s252, s253], defers := [] } w) :
    (subC [1, 1, 1, 1, 1, 1, 1, 1, 1, 1, 1, 1, 1, 1, 0, 1] (Try.f6.body.getD .skip)).wp Try.prog Q { tmps := #[s0, s1, s2, s3, s4, s5, s6, s7, s8, s9, s10, s11, s12, s13, av, tv, s16, s17, s18, s19, s20, s21, s22, s23, s24, s25, s26, s27, .int .i64 0, s29, s30, s31, s32, s33, s34, s35, s36, s37, s38, s39, s40, s41, s42, s43, s44, s45, s46, s47, s48, s49, s50, s51, s52, s53, s54, s55, s56, s57, s58, s59, s60, s61, s62, s63, s64, s65, s66, s67, s68, s69, s70, s71, s72, s73, s74, s75, s76, s77, s78, s79, s80, s81, s82, s83, s84, s85, s86, s87, s88, s89, s90, s91, s92, s93, s94, s95, s96, s97, s98, s99, s100, s101, s102, s103, s104, s105, s106, s107, s108, s109, s110, s111, s112, s113, s114, s115, s116, s117, s118, s119, s120, s121, s122, s123, s124, s125, s126, s127, s128, s129, s130, s131, s132, s133, s134, s135, s136, s137, s138, s139, s140, s141, s142, s143, s144, s145, s146, s147, s148, s149, s150, s151, s152, s153, s154, s155, s156, s157, s158, s159, s160, s161, s162, s163, s164, s165, s166, s167, s168, s169, s170, s171, s172, s173, s174, s175, s176, s177, s178, s179, s180, s181, s182, s183, s184, s185, s186, s187, s188, s189, s190, s191, s192, s193, s194, s195, s196, s197, s198, s199, s200, s201, s202, s203, s204, s205, s206, s207, s208, s209, s210, s211, s212, s213, s214, s215, s216, s217, s218, s219, s220, s221, s222, s223, s224, s225, s226, s227, s228, s229, s230, s231, s232, s233, s234, s235, s236, s237, s238, s239, s240, s241, s242, s243, s244, s245, s246, s247, s248, s249, s250, s251, s252, s253], defers := [] } w := by
  have HA := Lib.hid hA
  obtain ⟨aq, ac, rfl, ha1, ha2⟩ := (own_sl hA.a).form
  obtain ⟨tq, tc, rfl, ht1, ht2⟩ := (own_sl hA.t).form
  have hra := hA.a
  have hrt := hA.t
  rw [hul] at hra ha1 ⊢
  rw [htl] at hrt ht1 ⊢
  obtain ⟨ab, _, e, _, hal⟩ := hra.form (by omega)
  cases e
  obtain ⟨tb, _, e, _, htl'⟩ := hrt.form (by omega)
  cases e
  have HUL := Lib.hid hul
  have HTL := Lib.hid htl
  have HRA := Lib.hid hra
  have HRT := Lib.hid hrt
  rw [hul, htl] at hQ
  have HQ2 := Lib.hid hQ
  clear hQ hA hra hrt hul htl
  show (Code.block 12 _).wp _ _ _ _
  dsimp only
  go_wp2_with fail
  go_loop [28] (fun i => ∃ k : Nat, i = .int .i64 (k : Int) ∧ k ≤ 3) (fun i => 3 - (intOf i).toNat)
  case atStart => exact ⟨0, rfl, by omega⟩
  case round =>
    obtain ⟨k, rfl, hk⟩ := hrel
    by_cases hlt : k < 3
    · have hk1 : (k : Int) < 3 := by omega
      have hwr : IntKind.i64.wrap (-7 - (k : Int)) = -7 - (k : Int) := by rw [IntKind.wrap_i64]; omega
      have hku : k < us.length := by rw [HUL.out]; exact hlt
      have hkt : k < ts.length := by rw [HTL.out]; exact hlt
      obtain ⟨vs, hv1, _, hv3⟩ := HA.out.el k hku
      obtain ⟨ls, hl1, hl2, _⟩ := HA.out.tl k hkt
      have c0 : w.cell? ⟨ab, k, none⟩ = some us[k] := (HRA.out.cellAt k (by omega)).trans (List.getElem?_eq_getElem hku)
      have d0 : w.cell? ⟨tb, k, none⟩ = some ts[k] := (HRT.out.cellAt k (by omega)).trans (List.getElem?_eq_getElem hkt)
      generalize us[k] = x at *
      generalize ts[k] = y at *
      obtain ⟨xq, xc, rfl, hx1, hx2⟩ := (own_sl hv1).form
      obtain ⟨yq, yc, rfl, hy1, hy2⟩ := (own_sl hl1).form
      have HV1 := Lib.hid hv1
      have HV3 := Lib.hid hv3
      have HL1 := Lib.hid hl1
      have HL2 := Lib.hid hl2
      clear hv1 hv3 hl1 hl2
      go_wp2_with fail
      go_loop [29] (fun i => ∃ j : Nat, i = .int .i64 (j : Int) ∧ j ≤ vs.length) (fun i => vs.length - (intOf i).toNat)
      case atStart => exact ⟨0, rfl, by omega⟩
      case round =>
        obtain ⟨j, rfl, hj⟩ := hrel
        by_cases hjl : j < vs.length
        · have hj1 : (j : Int) < (vs.length : Int) := by omega
          obtain ⟨g, _, e, _, hgl⟩ := HV1.out.form (by omega)
          cases e
          obtain ⟨h3, _⟩ := HV3.out j hjl
          obtain ⟨g2, c2, e2, _, hg2⟩ := h3.form (by omega)
          have e0 : w.cell? ⟨g, j, none⟩ = some (.slice (some ⟨g2, 0, none⟩) 1 c2) := by
            rw [← e2]
            exact (HV1.out.cellAt j (by omega)).trans (List.getElem?_eq_getElem hjl)
          rw [e2] at h3
          have f0 : w.cell? ⟨g2, 0, none⟩ = some (.int .i64 (-7 - (k : Int))) := h3.cellAt 0 (by omega)
          obtain ⟨_, _, e, h4, h5⟩ := (own_sl h3).form
          cases e
          have hn1 : ((-7 - (k : Int)) != (-7 - (k : Int))) = false := by simp
          clear h3 e2
          go_wp2
          go_round
          case rel => exact ⟨j + 1, by go_num, by omega⟩
          case measure => simp [intOf]; omega
        · obtain rfl : j = vs.length := by omega
          go_wp2_with fail
          go_loop [30] (fun i => ∃ j : Nat, i = .int .i64 (j : Int) ∧ j ≤ ls.length) (fun i => ls.length - (intOf i).toNat)
          case atStart => exact ⟨0, rfl, by omega⟩
          case round =>
            obtain ⟨j, rfl, hj⟩ := hrel
            by_cases hjl : j < ls.length
            · have hj1 : (j : Int) < (ls.length : Int) := by omega
              obtain ⟨g, off, _, e, hgl, _, _, _, f3, _⟩ := leads_cell (own_sl HL1.out) hjl
              cases e
              rw [HL2.out _ (List.getElem_mem hjl)] at f3
              have hn1 : ((-7 - (k : Int)) != (-7 - (k : Int))) = false := by simp
              go_wp2
              go_round
              case rel => exact ⟨j + 1, by go_num, by omega⟩
              case measure => simp [intOf]; omega
            · obtain rfl : j = ls.length := by omega
              go_wp2
              go_round
              case rel => exact ⟨k + 1, by go_num, by omega⟩
              case measure => simp [intOf]; omega
    · obtain rfl : k = 3 := by omega
      go_wp2
      apply HQ2.out
end
end Go.Proofs.Ytdlpbpohbkcafaa
