/-
  cycle.Rings: a place is come to for the first time.
  cycle.Rings: one entry ahead.
-/
import Derived.Test.YtdlpbpohbkcafaaGreatCRingF
import Derived.Deep.RegionLaw
import Derived.Deep.AppendLies
import Derived.Deep.CutBlock
import Derived.Deep.RegionHeld3
import Derived.Deep.RegionWith
namespace Go.Proofs.YtdlpbpohbkcafaaGreat
section
open Go.RowKit Go.Shelf Go.Sort Go.Proofs

/-- Part of a code: 0 the first, 1 the second, or what lies within; of a branch 2 and 3. -/
def subC : List Nat → Code → Code
  | [], c => c
  | 0 :: p, .seq a _ => subC p a
  | 1 :: p, .seq _ b => subC p b
  | 0 :: p, .block _ c => subC p c
  | 0 :: p, .loop c => subC p c
  | 2 :: p, .cond _ c _ => subC p c
  | 3 :: p, .cond _ _ c => subC p c
  | _, c => c

set_option maxRecDepth 100000 in
set_option maxHeartbeats 3200000 in
theorem ringsVisit (w1 : World) (g I L O B v : Nat) (spots : List Sp) (s : TS) (p r t : Value) (vs : List Value) (w : World) {s0 s1 s2 s3 s5 s12 s13 s14 s15 s17 s18 s19 s20 s21 s22 s23 s24 s25 s26 s27 s28 s29 s30 s31 s32 s33 s34 s35 s36 s37 s38 s39 s40 s41 s42 s43 s44 s45 s46 s47 s48 s49 s50 s51 s52 s53 s54 s55 s56 s57 s58 s59 s60 s61 s62 s63 s64 s65 s66 s67 s68 s69 s70 s71 s72 s73 s74 s75 s76 s77 s78 s79 s80 s81 s82 s83 s84 s85 s86 s87 s88 s89 s90 s91 s92 s93 s94 s95 s96 s97 s98 s99 s100 s101 s102 s103 s104 s105 s106 s107 s108 s109 s110 s111 s112 s113 s114 s115 s116 s117 s118 s119 s120 s121 s122 s123 s124 s125 s126 s127 s128 s129 s130 s131 s132 s133 s134 s135 s136 s137 s138 s139 s140 s141 s142 s143 s144 s145 s146 s147 s148 s149 s150 s151 s152 s153 s154 s155 s156 s157 s158 s159 s160 s161 s162 s163 s164 s165 s166 s167 s168 s169 s170 s171 s172 s173 s174 s175 s176 s177 s178 s179 s180 s181 s182 s183 s184 s185 s186 s187 s188 s189 s190 s191 s192 s193 s194 s195 s196 s197 s198 s199 s200 s201 s202 s203 s204 s205 s206 s207 s208 s209 s210 s211 s212 s213 s214 s215 s216 s217 s218 s219 s220 s221 s222 s223 s224 s225 s226 s227 s228 s229 s230 s231 s232 s233 s234 s235 s236 s237 s238 s239 s240 s241 s242 s243 s244 s245 s246 s247 s248 s249 s250 s251 s252 : Value} (K : Blk I L O B) (hI : w1.heap.size ≤ I ∧ w1.heap.size ≤ L ∧ w1.heap.size ≤ O ∧ w1.heap.size ≤ B)
    (hA : TSAt I L O B spots.length spots s p r t vs w) (hF : Fr [] w1 w) (hS : B ≤ w.heap.size) (hv : v < spots.length) (h0 : s.index v = 0) (hpl : s.pile.length ≤ 65536) (hcnt : s.count ≤ 4295032832) (Q : Exit → Act → World → Prop)
    (hQ : ∀ (n75 n76 n77 n78 n79 n80 n81 n82 n83 n84 n85 n86 n87 n88 n89 n90 n91 c' p' : Value) (w' : World), RRel w1 I L O B spots (visit s v) c' p' r t vs w' → Q .normal { tmps := #[s0, s1, s2, s3, .pointer (some ⟨g, 0, none⟩), s5, .int .i64 (spots.length : Int), .slice (some ⟨I, 0, none⟩) spots.length spots.length, .slice (some ⟨L, 0, none⟩) spots.length spots.length, .slice (some ⟨O, 0, none⟩) spots.length spots.length, c', p', s12, s13, s14, s15, .int .i64 (v : Int), s17, s18, s19, s20, s21, s22, s23, s24, s25, s26, s27, s28, s29, s30, s31, s32, s33, s34, s35, s36, s37, s38, s39, s40, s41, s42, s43, s44, s45, s46, s47, s48, s49, s50, s51, s52, s53, s54, s55, s56, s57, s58, s59, s60, s61, s62, s63, s64, s65, s66, s67, s68, s69, s70, s71, s72, s73, s74, n75, n76, n77, n78, n79, n80, n81, n82, n83, n84, n85, n86, n87, n88, n89, n90, n91, s92, s93, s94, s95, s96, s97, s98, s99, s100, s101, s102, s103, s104, s105, s106, s107, s108, s109, s110, s111, s112, s113, s114, s115, s116, s117, s118, s119, s120, s121, s122, s123, s124, s125, s126, s127, s128, s129, s130, s131, s132, s133, s134, s135, s136, s137, s138, s139, s140, s141, s142, s143, s144, s145, s146, s147, s148, s149, s150, s151, s152, s153, s154, s155, s156, s157, s158, s159, s160, s161, s162, s163, s164, s165, s166, s167, s168, s169, s170, s171, s172, s173, s174, s175, s176, s177, s178, s179, s180, s181, s182, s183, s184, s185, s186, s187, s188, s189, s190, s191, s192, s193, s194, s195, s196, s197, s198, s199, s200, s201, s202, s203, s204, s205, s206, s207, s208, s209, s210, s211, s212, s213, s214, s215, s216, s217, s218, s219, s220, s221, s222, s223, s224, s225, s226, s227, s228, s229, s230, s231, s232, s233, s234, s235, s236, s237, s238, s239, s240, s241, s242, s243, s244, s245, s246, s247, s248, s249, s250, s251, s252], defers := [] } w') :
    (subC [1, 1, 1, 1, 1, 1, 1, 1, 0, 1, 0, 0, 1, 1, 0, 0, 1, 1, 1, 0, 0, 1, 0, 1, 1, 0, 1, 2] (Tryz.f8.body.getD .skip)).wp Tryz.prog Q { tmps := #[s0, s1, s2, s3, .pointer (some ⟨g, 0, none⟩), s5, .int .i64 (spots.length : Int), .slice (some ⟨I, 0, none⟩) spots.length spots.length, .slice (some ⟨L, 0, none⟩) spots.length spots.length, .slice (some ⟨O, 0, none⟩) spots.length spots.length, .int .i64 (s.count : Int), p, s12, s13, s14, s15, .int .i64 (v : Int), s17, s18, s19, s20, s21, s22, s23, s24, s25, s26, s27, s28, s29, s30, s31, s32, s33, s34, s35, s36, s37, s38, s39, s40, s41, s42, s43, s44, s45, s46, s47, s48, s49, s50, s51, s52, s53, s54, s55, s56, s57, s58, s59, s60, s61, s62, s63, s64, s65, s66, s67, s68, s69, s70, s71, s72, s73, s74, s75, s76, s77, s78, s79, s80, s81, s82, s83, s84, s85, s86, s87, s88, s89, s90, s91, s92, s93, s94, s95, s96, s97, s98, s99, s100, s101, s102, s103, s104, s105, s106, s107, s108, s109, s110, s111, s112, s113, s114, s115, s116, s117, s118, s119, s120, s121, s122, s123, s124, s125, s126, s127, s128, s129, s130, s131, s132, s133, s134, s135, s136, s137, s138, s139, s140, s141, s142, s143, s144, s145, s146, s147, s148, s149, s150, s151, s152, s153, s154, s155, s156, s157, s158, s159, s160, s161, s162, s163, s164, s165, s166, s167, s168, s169, s170, s171, s172, s173, s174, s175, s176, s177, s178, s179, s180, s181, s182, s183, s184, s185, s186, s187, s188, s189, s190, s191, s192, s193, s194, s195, s196, s197, s198, s199, s200, s201, s202, s203, s204, s205, s206, s207, s208, s209, s210, s211, s212, s213, s214, s215, s216, s217, s218, s219, s220, s221, s222, s223, s224, s225, s226, s227, s228, s229, s230, s231, s232, s233, s234, s235, s236, s237, s238, s239, s240, s241, s242, s243, s244, s245, s246, s247, s248, s249, s250, s251, s252], defers := [] } w := by
  have HQ := Lib.hid hQ
  clear hQ
  have hv1 : (v : Int) < (spots.length : Int) := by omega
  have iI := hA.ix.cell hv
  have iL := hA.lo.cell hv
  have iO := hA.on.cell hv
  have fI := hA.ix.frozen v
  have fL := hA.lo.frozen v
  have fO := hA.on.frozen v
  have lI := hA.ix.lt
  have lL := hA.lo.lt
  have lO := hA.on.lt
  have eIL := K.il
  have eIO := K.io
  have eLO := K.lo
  have eLI : L ≠ I := fun e => eIL e.symm
  have eOI : O ≠ I := fun e => eIO e.symm
  have eOL : O ≠ L := fun e => eLO e.symm
  have HA := Lib.hid hA
  clear hA
  obtain ⟨i1, hi1, hy0, hy1, hy2⟩ := info_parts infoInt
  have hwr : IntKind.i64.wrap ((s.count : Int) + 1) = (s.count : Int) + 1 := by rw [IntKind.wrap_i64]; omega
  have hA4 := (((HA.out.putIx K v (s.count + 1)).putLo K v (s.count + 1)).putOn K v true).count (s.count + 1)
  have ec : ((s.count + 1 : Nat) : Int) = (s.count : Int) + 1 := by omega
  rw [ec] at hA4
  have hown : ((((w.setCell ⟨I, v, none⟩ (.int .i64 ((s.count : Int) + 1))).setCell ⟨L, v, none⟩ (.int .i64 ((s.count : Int) + 1))).setCell ⟨O, v, none⟩ (.bool true)).alloc (.cells #[.int .i64 (v : Int)] tI)).ownsRow B tI 1 p s.pile.length (s.pile.flatMap nC) := hA4.pile.alloc _
  have HA4 := Lib.hid hA4
  clear hA4
  show ((Code.region 18 _ _).seq ((Code.region 19 _ _).seq (Code.region 20 _ _))).wp _ _ _ _
  go_wp2_with (at_builtin; (refine wpList_append_own _ rfl _ _ 47 rfl B tI i1 _ 1 8 Tryz.underlying47 hi1 hy0 hy1 hy2 rfl (by decide) _ _ _ rfl hown ⟨w.heap.size, 0, none⟩ 1 1 [.int .i64 (v : Int)] rfl rfl (by have := news_of (((w.setCell ⟨I, v, none⟩ (.int .i64 ((s.count : Int) + 1))).setCell ⟨L, v, none⟩ (.int .i64 ((s.count : Int) + 1))).setCell ⟨O, v, none⟩ (.bool true)) [.int .i64 (v : Int)] tI; simpa using this) (one_mem rfl) (by unfold maxLen; omega) (by omega) (by simp; omega) ?_); intro v9 w9 hown9 hgrow _)
  have e : visit s v = { s with count := s.count + 1, index := upd s.index v (s.count + 1), low := upd s.low v (s.count + 1), on := upd s.on v true, pile := s.pile ++ [v] } := by unfold visit; rw [if_pos h0]
  apply HQ.out
  rw [e]
  have h5 := (HA4.out.fr0 ((Fr.refl [] _).alloc (.cells #[.int .i64 (v : Int)] tI))).putPile K hgrow (p := s.pile ++ [v]) (by simpa using hown9)
  refine ⟨by simp, h5, ?_, ?_⟩
  · exact ((((hF.setCell (.inr hI.1) _).setCell (.inr hI.2.1) _).setCell (.inr hI.2.2.1) _).alloc _).grown hgrow (fun k hk => .inr (by have := (hown.lt k hk).1; omega))
  · have := hgrow.size
    simp at this
    omega
end
section
open Go.RowKit Go.Shelf Go.Sort Go.Proofs

theorem infoWalk : (Tryz.prog.info? tW).map (fun i => (i.zero, i.size, i.bytes)) = some (some (.agg #[.int .i64 0, .int .i64 0]), 2, 16) := by kernel_rfl
theorem ahead1_count (v u k : Nat) (rest : List (Nat × Nat)) (s : TS) : (ahead1 v u k rest s).count = s.count := by
  unfold ahead1
  split
  · rfl
  · split <;> rfl

set_option maxRecDepth 100000 in
set_option maxHeartbeats 3200000 in
theorem ringsAhead (w1 : World) (g I L O B v j u m gw cw bn on br ob rc : Nat) (spots : List Sp) (rest : List (Nat × Nat)) (s : TS) (p r : Value) (vs : List Value) (w : World) (nv : Value) {s0 s1 s2 s3 s5 s13 s17 s18 s19 s20 s21 s22 s23 s24 s25 s26 s27 s28 s29 s30 s31 s32 s33 s34 s35 s36 s37 s38 s39 s40 s41 s42 s43 s44 s45 s46 s47 s48 s49 s50 s51 s52 s53 s54 s55 s56 s57 s58 s59 s60 s61 s62 s63 s64 s65 s66 s67 s68 s69 s70 s71 s72 s73 s74 s75 s76 s77 s78 s79 s80 s81 s82 s83 s84 s85 s86 s87 s88 s89 s90 s91 s92 s93 s94 s95 s96 s97 s98 s99 s100 s101 s102 s103 s104 s105 s106 s107 s108 s109 s110 s111 s112 s113 s114 s115 s116 s117 s118 s119 s120 s121 s122 s123 s124 s125 s126 s127 s128 s129 s130 s131 s132 s133 s134 s135 s136 s137 s138 s139 s140 s141 s142 s143 s144 s145 s146 s147 s148 s149 s150 s151 s152 s153 s154 s155 s156 s157 s158 s159 s160 s161 s162 s163 s164 s165 s166 s167 s168 s169 s170 s171 s172 s173 s174 s175 s176 s177 s178 s179 s180 s181 s182 s183 s184 s185 s186 s187 s188 s189 s190 s191 s192 s193 s194 s195 s196 s197 s198 s199 s200 s201 s202 s203 s204 s205 s206 s207 s208 s209 s210 s211 s212 s213 s214 s215 s216 s217 s218 s219 s220 s221 s222 s223 s224 s225 s226 s227 s228 s229 s230 s231 s232 s233 s234 s235 s236 s237 s238 s239 s240 s241 s242 s243 s244 s245 s246 s247 s248 s249 s250 s251 s252 : Value} (K : Blk I L O B) (hI : w1.heap.size ≤ I ∧ w1.heap.size ≤ L ∧ w1.heap.size ≤ O ∧ w1.heap.size ≤ B)
    (hA : TSAt I L O B spots.length spots s p r (.slice (some ⟨gw, 0, none⟩) (rest.length + 1) cw) vs w) (hF : Fr [] w1 w) (hS : B ≤ w.heap.size) (hw : s.way = (v, j) :: rest) (hv : v < spots.length) (hu : u < spots.length) (hj : j < m) (hrl : rest.length ≤ 65536) (hml : m ≤ 65536)
    (hnv : ∃ k c, nv = .slice (some ⟨bn, on, none⟩) k c ∧ v < k) (c1 : w.cell? ⟨g, 1, none⟩ = some nv) (c2 : w.cell? ⟨bn, on + v, none⟩ = some (.slice (some ⟨br, ob, none⟩) m rc)) (c3 : w.cell? ⟨br, ob + j, none⟩ = some (.int .i64 (u : Int)))
    (Q : Exit → Act → World → Prop)
    (hQ : ∀ (n14 n17 n105 n106 n107 n108 n109 n110 n111 n112 n113 n114 n115 n116 n117 n118 n119 n120 n121 n122 n123 n124 n125 n126 n127 n128 n129 n130 n131 n132 n133 n134 n135 n136 n137 n138 n139 n140 n141 n142 n143 n144 n145 n146 n147 n148 n149 n150 n151 n152 : Value) (w' : World), RRel w1 I L O B spots (ahead1 v u j rest s) (.int .i64 (s.count : Int)) p r n14 vs w' → Q (.exit 3) { tmps := #[s0, s1, s2, s3, .pointer (some ⟨g, 0, none⟩), s5, .int .i64 (spots.length : Int), .slice (some ⟨I, 0, none⟩) spots.length spots.length, .slice (some ⟨L, 0, none⟩) spots.length spots.length, .slice (some ⟨O, 0, none⟩) spots.length spots.length, .int .i64 (s.count : Int), p, r, s13, n14, .pointer (some ⟨gw, rest.length * 2, none⟩), .int .i64 (v : Int), n17, s18, s19, s20, s21, s22, s23, s24, s25, s26, s27, s28, s29, s30, s31, s32, s33, s34, s35, s36, s37, s38, s39, s40, s41, s42, s43, s44, s45, s46, s47, s48, s49, s50, s51, s52, s53, s54, s55, s56, s57, s58, s59, s60, s61, s62, s63, s64, s65, s66, s67, s68, s69, s70, s71, s72, s73, s74, s75, s76, s77, s78, s79, s80, s81, s82, s83, s84, s85, s86, s87, s88, s89, s90, s91, s92, s93, s94, s95, s96, s97, s98, s99, s100, s101, s102, s103, s104, n105, n106, n107, n108, n109, n110, n111, n112, n113, n114, n115, n116, n117, n118, n119, n120, n121, n122, n123, n124, n125, n126, n127, n128, n129, n130, n131, n132, n133, n134, n135, n136, n137, n138, n139, n140, n141, n142, n143, n144, n145, n146, n147, n148, n149, n150, n151, n152, s153, s154, s155, s156, s157, s158, s159, s160, s161, s162, s163, s164, s165, s166, s167, s168, s169, s170, s171, s172, s173, s174, s175, s176, s177, s178, s179, s180, s181, s182, s183, s184, s185, s186, s187, s188, s189, s190, s191, s192, s193, s194, s195, s196, s197, s198, s199, s200, s201, s202, s203, s204, s205, s206, s207, s208, s209, s210, s211, s212, s213, s214, s215, s216, s217, s218, s219, s220, s221, s222, s223, s224, s225, s226, s227, s228, s229, s230, s231, s232, s233, s234, s235, s236, s237, s238, s239, s240, s241, s242, s243, s244, s245, s246, s247, s248, s249, s250, s251, s252], defers := [] } w') :
    (subC [1, 1, 1, 1, 1, 1, 1, 1, 0, 1, 0, 0, 1, 1, 0, 0, 1, 1, 1, 0, 0, 1, 0, 1, 1, 1, 0, 1, 2] (Tryz.f8.body.getD .skip)).wp Tryz.prog Q { tmps := #[s0, s1, s2, s3, .pointer (some ⟨g, 0, none⟩), s5, .int .i64 (spots.length : Int), .slice (some ⟨I, 0, none⟩) spots.length spots.length, .slice (some ⟨L, 0, none⟩) spots.length spots.length, .slice (some ⟨O, 0, none⟩) spots.length spots.length, .int .i64 (s.count : Int), p, r, s13, .slice (some ⟨gw, 0, none⟩) (rest.length + 1) cw, .pointer (some ⟨gw, rest.length * 2, none⟩), .int .i64 (v : Int), s17, s18, s19, s20, s21, s22, s23, s24, s25, s26, s27, s28, s29, s30, s31, s32, s33, s34, s35, s36, s37, s38, s39, s40, s41, s42, s43, s44, s45, s46, s47, s48, s49, s50, s51, s52, s53, s54, s55, s56, s57, s58, s59, s60, s61, s62, s63, s64, s65, s66, s67, s68, s69, s70, s71, s72, s73, s74, s75, s76, s77, s78, s79, s80, s81, s82, s83, s84, s85, s86, s87, s88, s89, s90, s91, s92, s93, s94, s95, s96, s97, s98, s99, s100, s101, s102, s103, s104, s105, s106, s107, s108, s109, s110, s111, s112, s113, s114, s115, s116, s117, s118, s119, s120, s121, s122, s123, s124, s125, s126, s127, s128, s129, s130, s131, s132, s133, s134, s135, s136, s137, s138, s139, s140, s141, s142, s143, s144, s145, s146, s147, s148, s149, s150, s151, s152, s153, s154, s155, s156, s157, s158, s159, s160, s161, s162, s163, s164, s165, s166, s167, s168, s169, s170, s171, s172, s173, s174, s175, s176, s177, s178, s179, s180, s181, s182, s183, s184, s185, s186, s187, s188, s189, s190, s191, s192, s193, s194, s195, s196, s197, s198, s199, s200, s201, s202, s203, s204, s205, s206, s207, s208, s209, s210, s211, s212, s213, s214, s215, s216, s217, s218, s219, s220, s221, s222, s223, s224, s225, s226, s227, s228, s229, s230, s231, s232, s233, s234, s235, s236, s237, s238, s239, s240, s241, s242, s243, s244, s245, s246, s247, s248, s249, s250, s251, s252], defers := [] } w := by
  have HQ := Lib.hid hQ
  clear hQ
  obtain ⟨nl, nc, rfl, hnl⟩ := hnv
  have hv1 : (v : Int) < (nl : Int) := by omega
  have hj1 : (j : Int) < (m : Int) := by omega
  obtain ⟨gw', cw', e0, hgB, hgl, w0, wj, fw, hcw, hcm⟩ := hA.top hw
  cases e0
  have HA := Lib.hid hA
  clear hA
  show ((Code.region 22 _ _).seq _).wp _ _ _ _
  dsimp only
  go_upto_region 22 with fail
  go_cut [17] from 105 to 117 (fun x wx => x = .int .i64 (u : Int) ∧ wx = w.drew)
  case first =>
    go_region
    all_goals
      go_wp2
      go_meet
      exact ⟨rfl, rfl⟩
  case rest =>
    obtain ⟨rfl, rfl⟩ := hcut
    have hA2 := HA.out.fr0 ((Fr.refl [] w).drew)
    have hF2 : Fr [] w1 w.drew := hF.drew
    have hS2 : B ≤ w.drew.heap.size := hS
    have wj2 : w.drew.cell? ⟨gw, rest.length * 2 + 1, none⟩ = some (.int .i64 (j : Int)) := wj
    have fw2 : w.drew.frozen? ⟨gw, rest.length * 2 + 1, none⟩ = false := fw
    have hgl2 : gw < w.drew.heap.size := hgl
    clear HA hF hS wj fw hgl c1 c2 c3 w0
    generalize w.drew = wd at *
    have hwr : IntKind.i64.wrap ((j : Int) + 1) = (j : Int) + 1 := by rw [IntKind.wrap_i64]; omega
    have hA4 := hA2.next K hw (j + 1)
    have ec : ((j + 1 : Nat) : Int) = (j : Int) + 1 := by omega
    rw [ec] at hA4
    have hF4 : Fr [] w1 (wd.setCell ⟨gw, rest.length * 2 + 1, none⟩ (.int .i64 ((j : Int) + 1))) := hF2.setCell (.inr (by simp; omega)) _
    have hS4 : B ≤ (wd.setCell ⟨gw, rest.length * 2 + 1, none⟩ (.int .i64 ((j : Int) + 1))).heap.size := by simpa using hS2
    have HA4 := Lib.hid hA4
    clear hA2 hA4
    go_upto_region 24 with fail
    clear wj2 fw2 hgl2
    generalize wd.setCell ⟨gw, rest.length * 2 + 1, none⟩ (.int .i64 ((j : Int) + 1)) = w4 at *
    have iu := HA4.out.ix.cell hu
    simp only at iu
    have hu1 : (u : Int) < (spots.length : Int) := by omega
    by_cases h0 : s.index u = 0
    · rw [h0] at iu
      have HE : Hid (ahead1 v u j rest s = { s with way := (u, 0) :: (v, j + 1) :: rest }) := by show _ = _; unfold ahead1; rw [if_pos h0]
      obtain ⟨i1, hi1, hy0, hy1, hy2⟩ := info_parts infoWalk
      have hown : (w4.alloc (.cells #[.int .i64 (u : Int), .int .i64 0] tW)).ownsRow B tW 2 (.slice (some ⟨gw, 0, none⟩) (rest.length + 1) cw) (rest.length + 1) (((v, j + 1) :: rest).reverse.flatMap wC) := HA4.out.way.alloc _
      go_wp2_with (at_builtin; refine wpList_append_own _ rfl _ _ 64 rfl B tW i1 _ 2 16 Tryz.underlying64 hi1 hy0 hy1 hy2 rfl (by decide) _ _ _ rfl hown ⟨w4.heap.size, 0, none⟩ 1 1 [.int .i64 (u : Int), .int .i64 0] rfl rfl (by have := news_of w4 [.int .i64 (u : Int), .int .i64 0] tW; simpa using this) (fun x hx => by simp at hx; rcases hx with rfl | rfl <;> rfl) (by unfold maxLen; omega) (by omega) (by simp; omega) ?_; intro v' w9 hown9 hgrow _)
      have h5 := (HA4.out.fr0 ((Fr.refl [] w4).alloc (.cells #[.int .i64 (u : Int), .int .i64 0] tW))).putWay K hgrow (p := (u, 0) :: (v, j + 1) :: rest) (by
        have e : ((u, 0) :: (v, j + 1) :: rest).reverse.flatMap wC = ((v, j + 1) :: rest).reverse.flatMap wC ++ [.int .i64 (u : Int), .int .i64 0] := by simp [wC]
        rw [e]
        exact hown9)
      have hF9 := (hF4.alloc (.cells #[.int .i64 (u : Int), .int .i64 0] tW)).grown hgrow (fun k hk => .inr (by have := (hown.lt k hk).1; omega))
      have hS9 : B ≤ w9.heap.size := by
        have := hgrow.size
        simp at this
        omega
      apply HQ.out
      exact ⟨by rw [ahead1_count], by rw [HE.out]; exact h5, hF9, hS9⟩
    · have h0' : ¬ (s.index u : Int) = 0 := by omega
      have hbeq : ((s.index u : Int) == 0) = false := by rw [beq_eq_false_iff_ne]; exact h0'
      have ou := HA4.out.on.cell hu
      simp only at ou
      cases hon : s.on u with
      | false =>
        rw [hon] at ou
        have HE : Hid (ahead1 v u j rest s = { s with way := (v, j + 1) :: rest }) := by show _ = _; unfold ahead1; rw [if_neg h0, if_neg (by rw [hon]; decide)]
        go_wp2
        apply HQ.out
        exact ⟨by rw [ahead1_count], by rw [HE.out]; exact HA4.out, hF4, hS4⟩
      | true =>
        rw [hon] at ou
        have HE : Hid (ahead1 v u j rest s = { s with way := (v, j + 1) :: rest, low := upd s.low v (min (s.low v) (s.index u)) }) := by show _ = _; unfold ahead1; rw [if_neg h0, if_pos hon]
        have lv := HA4.out.lo.cell hv
        simp only at lv
        have lf := HA4.out.lo.frozen v
        have ll := HA4.out.lo.lt
        have hv2 : (v : Int) < (spots.length : Int) := by omega
        have hmin : min (s.low v : Int) (s.index u : Int) = ((min (s.low v) (s.index u) : Nat) : Int) := by omega
        go_wp2
        go_region
        have h5 := HA4.out.putLo K v (min (s.low v) (s.index u))
        go_wp2
        apply HQ.out
        exact ⟨by rw [ahead1_count], by rw [HE.out]; exact h5.fr0 ((Fr.refl [] _).drew), (hF4.setCell (.inr hI.2.1) _).drew, by show B ≤ (w4.setCell _ _).heap.size; simpa using hS4⟩
end
end Go.Proofs.YtdlpbpohbkcafaaGreat
