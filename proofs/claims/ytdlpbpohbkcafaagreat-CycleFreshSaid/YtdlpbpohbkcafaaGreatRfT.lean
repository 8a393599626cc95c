/-
  quadrilleref21.Graph in memory: the places, and two tables of rows of numbers, while they are being made.
  quadrilleref21.graph: the numbers of those that one node points to.
  quadrilleref21.graph: no place twice.
-/
import Derived.Test.YtdlpbpohbkcafaaGreatRfF
import Derived.Test.YtdlpbpohbkcafaaGreatRfPE
import Derived.Test.YtdlpbpohbkcafaaGreatCRingB
import Derived.Deep.AppendLies
import Derived.Deep.RegionHeld3
namespace Go.Proofs.YtdlpbpohbkcafaaGreat
section
open Go.RowKit Go.Shelf Go.Sort Go.Proofs

abbrev tSI : TypeId := 47
/-- Two tables of n rows each: L tells the numbers of all rows, one table's behind the other's. -/
structure Tw (w : World) (T F B n : Nat) (rows : List Value) (L : Nat → List Nat) : Prop where
  len : rows.length = n + n
  t : w.heap[T]? = some (.cells (rows.take n).toArray tSI (0, 0))
  f : w.heap[F]? = some (.cells (rows.drop n).toArray tSI (0, 0))
  own : ∀ j (h : j < rows.length), w.ownsRow B tI 1 rows[j] (L j).length ((L j).flatMap nC)
  sep : ∀ i j (hi : i < rows.length) (hj : j < rows.length), i ≠ j → ∀ g, rows[i].ownBlock = some g → rows[j].ownBlock ≠ some g
  ne : T ≠ F
theorem Tw.fr {w w1 : World} {T F B n : Nat} {rows : List Value} {L : Nat → List Nat} (h : Tw w T F B n rows L) {S : List Nat} (hf : Fr S w w1) (hT : T ∉ S) (hF : F ∉ S) (hR : ∀ j (h : j < rows.length), ∀ g, rows[j].ownBlock = some g → g ∉ S) : Tw w1 T F B n rows L :=
  ⟨h.len, hf.heap h.t hT, hf.heap h.f hF, fun j hj => owns_fr (h.own j hj) hf (hR j hj), h.sep, h.ne⟩
theorem Tw.fr0 {w w1 : World} {T F B n : Nat} {rows : List Value} {L : Nat → List Nat} (h : Tw w T F B n rows L) (hf : Fr [] w w1) : Tw w1 T F B n rows L := h.fr hf (by simp) (by simp) (by simp)
theorem Tw.congr {w : World} {T F B n : Nat} {rows : List Value} {L L' : Nat → List Nat} (h : Tw w T F B n rows L) (he : ∀ j, j < n + n → L j = L' j) : Tw w T F B n rows L' :=
  ⟨h.len, h.t, h.f, fun j hj => by rw [← he j (by rw [← h.len]; exact hj)]; exact h.own j hj, h.sep, h.ne⟩
theorem Tw.start {w : World} {T F B n : Nat} (ht : w.heap[T]? = some (.cells (Array.replicate n (.slice none 0 0)) tSI (0, 0))) (hf : w.heap[F]? = some (.cells (Array.replicate n (.slice none 0 0)) tSI (0, 0))) (hne : T ≠ F) : Tw w T F B n (List.replicate (n + n) (.slice none 0 0)) fun _ => [] := by
  refine ⟨by simp, by rw [ht]; simp, by rw [hf]; simp, fun j hj => ?_, fun i j hi hj _ g hg => ?_, hne⟩
  · rw [List.getElem_replicate]
    exact World.ownsRow_nil _ _ _ _
  · rw [List.getElem_replicate] at hg
    cases hg
/-- Rows of another kind lie elsewhere. -/
theorem Tw.off {w : World} {T F B n : Nat} {rows : List Value} {L : Nat → List Nat} (h : Tw w T F B n rows L) {R : Nat} {cs : Array Value} {e : TypeId} {fr : Nat × Nat} (hR : w.heap[R]? = some (.cells cs e fr)) (hne : e ≠ tI) : ∀ j (hj : j < rows.length), ∀ g, rows[j].ownBlock = some g → g ≠ R :=
  fun j hj => own_box (h.own j hj) hR hne
/-- One row is grown: its table's cell is to be written. -/
theorem Tw.put {w w1 : World} {T F B n : Nat} {rows : List Value} {L : Nat → List Nat} (h : Tw w T F B n rows L) {j : Nat} (hj : j < n + n) {v' : Value} {l' : List Nat} (hown : w1.ownsRow B tI 1 v' l'.length (l'.flatMap nC)) (hg : w.grownBy w1 (rows[j]'(by rw [h.len]; exact hj)).ownBlock) (hat : ∀ g, v'.ownBlock = some g → (rows[j]'(by rw [h.len]; exact hj)).ownBlock = some g ∨ w.heap.size ≤ g) :
    (j < n → Tw (w1.setCell ⟨T, j, none⟩ v') T F B n (rows.set j v') (upd L j l')) ∧ (∀ i, j = n + i → Tw (w1.setCell ⟨F, i, none⟩ v') T F B n (rows.set j v') (upd L j l')) := by
  have hjl : j < rows.length := by rw [h.len]; exact hj
  have hf : Fr rows[j].ownBlock.toList w w1 := fr_grown hg
  have hTt := h.off h.t (by decide)
  have hFf := h.off h.f (by decide)
  have ht1 : w1.heap[T]? = some (.cells (rows.take n).toArray tSI (0, 0)) := hf.heap h.t fun hm => hTt j hjl T (by simpa using hm) rfl
  have hf1 : w1.heap[F]? = some (.cells (rows.drop n).toArray tSI (0, 0)) := hf.heap h.f fun hm => hFf j hjl F (by simpa using hm) rfl
  have hw1 : ∀ i (hi : i < (rows.set j v').length), w1.ownsRow B tI 1 (rows.set j v')[i] (upd L j l' i).length ((upd L j l' i).flatMap nC) := fun i hi => by
    rw [List.getElem_set]
    by_cases e : j = i
    · subst e
      rw [if_pos rfl, upd_same]
      exact hown
    · rw [if_neg e, upd_other (fun h => e h.symm)]
      have hil : i < rows.length := by simpa using hi
      exact owns_fr (h.own i hil) hf fun k hk hm => h.sep i j hil hjl (fun h => e h.symm) k hk (by simpa using hm)
  have hsep : ∀ i k (hi : i < (rows.set j v').length) (hk : k < (rows.set j v').length), i ≠ k → ∀ g, (rows.set j v')[i].ownBlock = some g → (rows.set j v')[k].ownBlock ≠ some g := fun i k hi hk hik g h1 h2 => by
    rw [List.getElem_set] at h1 h2
    have hil : i < rows.length := by simpa using hi
    have hkl : k < rows.length := by simpa using hk
    have key : ∀ m (hm : m < rows.length), m ≠ j → rows[m].ownBlock = some g → v'.ownBlock ≠ some g := fun m hm hmj h3 h4 => by
      rcases hat g h4 with h5 | h5
      · exact h.sep m j hm hjl hmj g h3 h5
      · have := ((h.own m hm).lt g h3).2
        omega
    by_cases e1 : j = i
    · rw [if_pos e1] at h1
      rw [if_neg (by omega)] at h2
      exact key k hkl (by omega) h2 h1
    · rw [if_neg e1] at h1
      by_cases e2 : j = k
      · rw [if_pos e2] at h2
        exact key i hil (fun h => e1 h.symm) h1 h2
      · rw [if_neg e2] at h2
        exact h.sep i k hil hkl hik g h1 h2
  have hno : ∀ R cs, w1.heap[R]? = some (.cells cs tSI (0, 0)) → ∀ i (hi : i < (rows.set j v').length), ∀ g, (rows.set j v')[i].ownBlock = some g → g ∉ [R] := fun R cs hR i hi g hg hm => by
    rw [List.mem_singleton] at hm
    exact own_box (hw1 i hi) hR (by decide) g hg hm
  refine ⟨fun hjn => ?_, fun i hi => ?_⟩
  · have hF2 : Fr [T] w1 (w1.setCell ⟨T, j, none⟩ v') := fr_cell _ _ _ _
    refine ⟨by simp [h.len], ?_, ?_, fun i hi => owns_fr (hw1 i hi) hF2 fun k hk => hno T _ ht1 i hi k hk, hsep, h.ne⟩
    · rw [set_of ht1]
      simp [List.take_set]
    · rw [hF2.heap hf1 (by simp; exact fun e => h.ne e.symm)]
      rw [List.drop_set]
      simp [hjn]
  · have hF2 : Fr [F] w1 (w1.setCell ⟨F, i, none⟩ v') := fr_cell _ _ _ _
    refine ⟨by simp [h.len], ?_, ?_, fun k hk => owns_fr (hw1 k hk) hF2 fun g hg => hno F _ hf1 k hk g hg, hsep, h.ne⟩
    · rw [hF2.heap ht1 (by simp; exact h.ne)]
      rw [hi, List.take_set_of_le (by omega)]
    · rw [set_of hf1, hi, List.drop_set, if_neg (by omega), Nat.add_sub_cancel_left]
      simp
/-- The document's graph while its tables are being filled. -/
structure GB (w0 : World) (G T F B : Nat) (av : Value) (l : List Sp) (rows : List Value) (L : Nat → List Nat) (w : World) : Prop where
  box : w.heap[G]? = some (.cells #[av, .slice (some ⟨T, 0, none⟩) l.length l.length, .slice (some ⟨F, 0, none⟩) l.length l.length] tGr (0, 0))
  row : w.ownsRow 0 tSp 2 av l.length (l.flatMap spC)
  tw : Tw w T F B l.length rows L
  fr : Fr [] w0 w
  g0 : w0.heap.size ≤ T ∧ w0.heap.size ≤ F ∧ w0.heap.size ≤ B
theorem GB.fr0 {w0 : World} {G T F B : Nat} {av : Value} {l : List Sp} {rows : List Value} {L : Nat → List Nat} {w w1 : World} (h : GB w0 G T F B av l rows L w) (hf : Fr [] w w1) : GB w0 G T F B av l rows L w1 :=
  ⟨hf.heap h.box (by simp), owns_fr h.row hf (by simp), h.tw.fr0 hf, h.fr.trans0 hf, h.g0⟩
theorem GB.congr {w0 : World} {G T F B : Nat} {av : Value} {l : List Sp} {rows : List Value} {L L' : Nat → List Nat} {w : World} (h : GB w0 G T F B av l rows L w) (he : ∀ j, j < l.length + l.length → L j = L' j) : GB w0 G T F B av l rows L' w :=
  ⟨h.box, h.row, h.tw.congr he, h.fr, h.g0⟩
theorem GB.put {w0 : World} {G T F B : Nat} {av : Value} {l : List Sp} {rows : List Value} {L : Nat → List Nat} {w w1 : World} (h : GB w0 G T F B av l rows L w) {j : Nat} (hj : j < rows.length) {v' : Value} {l' : List Nat} (hown : w1.ownsRow B tI 1 v' l'.length (l'.flatMap nC)) (hg : w.grownBy w1 rows[j].ownBlock) (hat : ∀ g, v'.ownBlock = some g → rows[j].ownBlock = some g ∨ w.heap.size ≤ g) :
    (j < l.length → GB w0 G T F B av l (rows.set j v') (upd L j l') (w1.setCell ⟨T, j, none⟩ v')) ∧ (∀ i, j = l.length + i → GB w0 G T F B av l (rows.set j v') (upd L j l') (w1.setCell ⟨F, i, none⟩ v')) := by
  have hj2 : j < l.length + l.length := by rw [← h.tw.len]; exact hj
  obtain ⟨p1, p2⟩ := h.tw.put hj2 hown hg hat
  have hf : Fr rows[j].ownBlock.toList w w1 := fr_grown hg
  have hb1 := hf.heap h.box fun hm => h.tw.off h.box (by decide) j hj G (by simpa using hm) rfl
  have hr1 := owns_fr h.row hf (own_not h.row (h.tw.own j hj) (by decide))
  have ht1 := hf.heap h.tw.t fun hm => h.tw.off h.tw.t (by decide) j hj T (by simpa using hm) rfl
  have hf1 := hf.heap h.tw.f fun hm => h.tw.off h.tw.f (by decide) j hj F (by simpa using hm) rfl
  have hfr : Fr [] w0 w1 := h.fr.trans hf fun x hx => .inr (by
    have := ((h.tw.own j hj).lt x (by simpa using hx)).1
    have := h.g0.2.2
    omega)
  have hGT : ∀ {R : Nat} {cs : Array Value}, w1.heap[R]? = some (.cells cs tSI (0, 0)) → G ≠ R := fun {R} {cs} hR e => by
    subst e
    rw [hb1] at hR
    have : (tGr : TypeId) = tSI := by injection hR with e1; injection e1
    exact absurd this (by decide)
  refine ⟨fun hjn => ⟨?_, ?_, p1 hjn, hfr.setCell (.inr h.g0.1) _, h.g0⟩, fun i hi => ⟨?_, ?_, p2 i hi, hfr.setCell (.inr h.g0.2.1) _, h.g0⟩⟩
  · exact (fr_cell w1 T j v').heap hb1 (by simp; exact hGT ht1)
  · exact owns_fr hr1 (fr_cell w1 T j v') fun k hk hm => by rw [List.mem_singleton] at hm; exact own_box hr1 ht1 (by decide) k hk hm
  · exact (fr_cell w1 F i v').heap hb1 (by simp; exact hGT hf1)
  · exact owns_fr hr1 (fr_cell w1 F i v') fun k hk hm => by rw [List.mem_singleton] at hm; exact own_box hr1 hf1 (by decide) k hk hm
end
section
open Go.RowKit Go.Shelf Go.Sort Go.Proofs

theorem posI_yes {l : List Sp} {s : Sp} (h : s ∈ l) : posI l s = (l.idxOf s : Int) := by unfold posI; rw [if_pos h]
theorem posI_neg {l : List Sp} {s : Sp} (h : s ∉ l) : posI l s = -1 := by unfold posI; rw [if_neg h]
theorem numL_yes {l : List Sp} {s : Sp} (h : s ∈ l) : numL l s = some (l.idxOf s) := by unfold numL; rw [if_pos h]
theorem numL_neg {l : List Sp} {s : Sp} (h : s ∉ l) : numL l s = none := by unfold numL; rw [if_neg h]
set_option maxRecDepth 100000 in
set_option maxHeartbeats 3200000 in
theorem graphHits (w0 : World) (G : Nat) (k : Nat) (v0 av tv fv : Value) (l : List Sp) (ns : List Nd) (w : World) {s1 s2 s3 s4 s5 s7 s8 s9 s11 s14 s15 s16 s17 s18 s19 s20 s21 s22 s23 s24 s25 s26 s27 s28 s29 s30 s31 s32 s33 s34 s35 s36 s37 s38 s39 s40 s41 s42 s43 s44 s45 s46 s47 s48 s49 s50 s51 s52 s53 s54 s55 s56 s57 s58 s59 s60 s61 s62 s63 s64 s65 s66 s67 s68 s69 s70 s71 s72 s73 s74 s75 s76 s77 s78 s79 s80 s81 s82 s83 s84 s85 s86 s87 s88 s89 s90 s91 s92 s93 s94 s95 s96 s97 s98 s99 s100 s101 s102 s103 s104 s105 s106 s107 s108 s109 s110 s111 s112 s113 s114 s115 s116 s117 s118 s119 s120 s121 s122 s123 s124 s125 s126 s127 s128 s129 s130 s131 s132 s133 s134 s135 s136 s137 s138 s139 s140 s141 s142 s143 s144 s145 s146 s147 s148 s149 s150 s151 s152 s153 s154 s155 s156 s157 s158 s159 s160 s161 s162 s163 s164 s165 s166 s167 s168 s169 s170 s171 s172 s173 s174 s175 s176 s177 s178 s179 s180 s181 s182 s183 s184 s185 s186 s187 s188 s189 s190 s191 s192 s193 s194 s195 s196 s197 s198 s199 s200 s201 s202 s203 s204 s205 s206 s207 s208 s209 s210 s211 s212 s213 s214 s215 s216 s217 s218 s219 s220 s221 s222 s223 s224 s225 s226 s227 s228 s229 s230 s231 s232 s233 s234 : Value}
    (hN : NodesAt w0 v0 ns) (hfr : Fr [] w0 w) (hbx : w.heap[G]? = some (.cells #[av, tv, fv] tGr (0, 0))) (hrow : w.ownsRow 0 tSp 2 av l.length (l.flatMap spC)) (hl : l.length ≤ 65536) (hso : l.Pairwise fun x y => ltS x y = true) (hk : k < ns.length) (hnl : ns[k].next.length ≤ 4000000) (Q : Exit → Act → World → Prop)
    (hQ : ∀ (n12 n13 n14 n145 n146 n147 n148 n149 n150 n151 n152 n153 n154 n155 n156 n157 n158 n159 n160 n161 n162 n163 n164 n165 n166 n167 n168 n169 n170 : Value) (w' : World), Fr [] w w' → w'.ownsRow w.heap.size tI 1 n12 (hits l ns[k].next).length ((hits l ns[k].next).flatMap nC) → Q .normal { tmps := #[v0, s1, s2, s3, s4, s5, .pointer (some ⟨G, 0, none⟩), s7, s8, s9, .int .i64 (k : Int), s11, n12, n13, n14, s15, s16, s17, s18, s19, s20, s21, s22, s23, s24, s25, s26, s27, s28, s29, s30, s31, s32, s33, s34, s35, s36, s37, s38, s39, s40, s41, s42, s43, s44, s45, s46, s47, s48, s49, s50, s51, s52, s53, s54, s55, s56, s57, s58, s59, s60, s61, s62, s63, s64, s65, s66, s67, s68, s69, s70, s71, s72, s73, s74, s75, s76, s77, s78, s79, s80, s81, s82, s83, s84, s85, s86, s87, s88, s89, s90, s91, s92, s93, s94, s95, s96, s97, s98, s99, s100, s101, s102, s103, s104, s105, s106, s107, s108, s109, s110, s111, s112, s113, s114, s115, s116, s117, s118, s119, s120, s121, s122, s123, s124, s125, s126, s127, s128, s129, s130, s131, s132, s133, s134, s135, s136, s137, s138, s139, s140, s141, s142, s143, s144, n145, n146, n147, n148, n149, n150, n151, n152, n153, n154, n155, n156, n157, n158, n159, n160, n161, n162, n163, n164, n165, n166, n167, n168, n169, n170, s171, s172, s173, s174, s175, s176, s177, s178, s179, s180, s181, s182, s183, s184, s185, s186, s187, s188, s189, s190, s191, s192, s193, s194, s195, s196, s197, s198, s199, s200, s201, s202, s203, s204, s205, s206, s207, s208, s209, s210, s211, s212, s213, s214, s215, s216, s217, s218, s219, s220, s221, s222, s223, s224, s225, s226, s227, s228, s229, s230, s231, s232, s233, s234], defers := [] } w') :
    (subC [1, 1, 1, 1, 1, 1, 1, 1, 1, 1, 0, 1, 0, 0, 1, 0, 0, 1, 1, 0, 1] (Tryz.f30.body.getD .skip)).wp Tryz.prog Q { tmps := #[v0, s1, s2, s3, s4, s5, .pointer (some ⟨G, 0, none⟩), s7, s8, s9, .int .i64 (k : Int), s11, .slice none 0 0, .int .i64 0, s14, s15, s16, s17, s18, s19, s20, s21, s22, s23, s24, s25, s26, s27, s28, s29, s30, s31, s32, s33, s34, s35, s36, s37, s38, s39, s40, s41, s42, s43, s44, s45, s46, s47, s48, s49, s50, s51, s52, s53, s54, s55, s56, s57, s58, s59, s60, s61, s62, s63, s64, s65, s66, s67, s68, s69, s70, s71, s72, s73, s74, s75, s76, s77, s78, s79, s80, s81, s82, s83, s84, s85, s86, s87, s88, s89, s90, s91, s92, s93, s94, s95, s96, s97, s98, s99, s100, s101, s102, s103, s104, s105, s106, s107, s108, s109, s110, s111, s112, s113, s114, s115, s116, s117, s118, s119, s120, s121, s122, s123, s124, s125, s126, s127, s128, s129, s130, s131, s132, s133, s134, s135, s136, s137, s138, s139, s140, s141, s142, s143, s144, s145, s146, s147, s148, s149, s150, s151, s152, s153, s154, s155, s156, s157, s158, s159, s160, s161, s162, s163, s164, s165, s166, s167, s168, s169, s170, s171, s172, s173, s174, s175, s176, s177, s178, s179, s180, s181, s182, s183, s184, s185, s186, s187, s188, s189, s190, s191, s192, s193, s194, s195, s196, s197, s198, s199, s200, s201, s202, s203, s204, s205, s206, s207, s208, s209, s210, s211, s212, s213, s214, s215, s216, s217, s218, s219, s220, s221, s222, s223, s224, s225, s226, s227, s228, s229, s230, s231, s232, s233, s234], defers := [] } w := by
  have HQ := Lib.hid hQ
  have HN := Lib.hid hN
  have HFR := Lib.hid hfr
  have HBX := Lib.hid hbx
  have HROW := Lib.hid hrow
  have HSO := Lib.hid hso
  obtain ⟨vq, vc, rfl, hv1, hv2⟩ := hN.row.form
  obtain ⟨i1, hi1, hy0, hy1, hy2⟩ := info_parts infoInt
  have HIN := Lib.hid (List.getElem_mem hk)
  clear hQ hN hfr hbx hrow hso
  have hk1 : (k : Int) < (ns.length : Int) := by omega
  show (Code.block 10 _).wp _ _ _ _
  dsimp only
  go_wp2_with fail
  go_loopw [12, 13] (fun sv i wr => ∃ j : Nat, i = .int .i64 (j : Int) ∧ j ≤ ns[k].next.length ∧ Fr [] w wr ∧ wr.ownsRow w.heap.size tI 1 sv (hits l (ns[k].next.take j)).length ((hits l (ns[k].next.take j)).flatMap nC)) (fun _ i _ => ns[k].next.length - (intOf i).toNat)
  case atStart => exact ⟨0, rfl, by omega, Fr.refl _ _, by simpa [hits] using World.ownsRow_nil _ _ _ _⟩
  case round =>
    obtain ⟨j, rfl, hj, hf, hown⟩ := hrel
    have hf0 : Fr [] w0 wr := HFR.out.trans0 hf
    obtain ⟨b, off, _, e, hbl, _, _, c2⟩ := (HN.out.fr0 hf0).cell hk
    cases e
    have hnx := (HN.out.fr0 hf0).nx ns[k] HIN.out
    obtain ⟨nq', nc', en, hn1, hn2⟩ := hnx.form
    have HNX := Lib.hid hnx
    clear hnx
    by_cases hlt : j < ns[k].next.length
    · obtain ⟨b2, o2, _, e2, hb2, d0, d1⟩ := spots_cell HNX.out hlt
      have e21 : ns[k].na = some ⟨b2, o2, none⟩ := by injection e2
      have HTK : Hid (hits l (ns[k].next.take (j + 1)) = hits l (ns[k].next.take j) ++ (numL l ns[k].next[j]).toList) := by
        show _ = _
        rw [List.take_succ_eq_append_getElem hlt, hits_snoc]
      have hhl : (hits l (ns[k].next.take j)).length ≤ j := by
        have := hits_len l (ns[k].next.take j)
        rw [List.length_take] at this
        omega
      have hj1 : (j : Int) < (ns[k].next.length : Int) := by omega
      rw [e21] at c2
      have hs := own_sl (owns_fr HROW.out hf (by simp))
      have HS := Lib.hid hs
      have HB := Lib.hid (hf.heap HBX.out (by simp))
      have HOWN := Lib.hid hown
      have HTK2 := HTK
      clear e2 e21 en hn1 hn2 HNX hs hown HTK
      generalize ns[k].next[j] = s at *
      generalize ns[k].nc = xc at *
      generalize hits l (ns[k].next.take j) = zs at *
      obtain ⟨oq, on, oc, rfl⟩ := own_form HOWN.out
      go_wp2_with fail
      refine (rfFind G av tv fv l s _ HB.out HS.out HSO.out hl).mono ?_
      rintro e w1 ⟨rfl, h1⟩
      have HF1 := Lib.hid (hf.trans0 h1)
      have HOWN1 := Lib.hid (owns_fr HOWN.out h1 (by simp))
      have hsz := (hf.trans0 h1).size
      clear h1 HOWN
      by_cases hm : s ∈ l
      · have hge : ((l.idxOf s : Nat) : Int) ≥ 0 := by omega
        have hge2 : (0 : Int) ≤ ((l.idxOf s : Nat) : Int) := by omega
        rw [posI_yes hm]
        rw [numL_yes hm] at HTK2
        have hown2 := HOWN1.out.alloc (.cells #[.int .i64 ((l.idxOf s : Nat) : Int)] tI)
        have HT := HTK2
        clear hm HTK2
        generalize l.idxOf s = ix at *
        go_wp2_with (at_builtin; refine wpList_append_own _ rfl _ _ 47 rfl w.heap.size tI i1 _ 1 8 Tryz.underlying47 hi1 hy0 hy1 hy2 rfl (by decide) _ _ _ rfl hown2 ⟨w1.heap.size, 0, none⟩ 1 1 [.int .i64 (ix : Int)] rfl rfl (by have := news_of w1 [.int .i64 (ix : Int)] tI; simpa using this) (one_mem rfl) (by unfold maxLen; omega) (by omega) (by simp; omega) ?_; intro v' w9 hown9 hgrow _)
        go_roundw
        case rel => exact ⟨j + 1, by go_num, by omega, (HF1.out.alloc _).grown hgrow (fun g hg => .inr (hown2.lt g hg).1), by rw [HT.out]; simpa using hown9⟩
        case measure => simp [intOf]; omega
      · rw [posI_neg hm]
        rw [numL_neg hm] at HTK2
        clear hm
        go_wp2
        go_roundw
        case rel => exact ⟨j + 1, by go_num, by omega, HF1.out, by rw [HTK2.out]; simpa using HOWN1.out⟩
        case measure => simp [intOf]; omega
    · obtain rfl : j = ns[k].next.length := by omega
      rw [List.take_length] at hown
      have HOWN := Lib.hid hown
      clear hown en hn1 hn2
      go_wp2
      apply HQ.out
      · exact hf
      · exact HOWN.out
end
section
open Go.RowKit Go.Shelf Go.Sort Go.Proofs

theorem twice_adj {l : List Sp} (hs : l.Pairwise fun x y => ltS y x = false) {i : Nat} (hi : i < l.length) (h : l[i] ∈ l.take i) : l[i] = l[i - 1]'(by omega) := by
  obtain ⟨j, hj, e⟩ := List.mem_take_iff_getElem.1 h
  have hji : j < i := by omega
  have h1 := List.pairwise_iff_getElem.1 hs
  by_cases e1 : j = i - 1
  · subst e1; exact e.symm
  · have h2 := h1 j (i - 1) (by omega) (by omega) (by omega)
    have h3 := h1 (i - 1) i (by omega) hi (by omega)
    rw [e] at h2
    exact totS _ _ h2 h3 |>.symm ▸ rfl
set_option maxRecDepth 100000 in
set_option maxHeartbeats 3200000 in
theorem graphTwice (G : Nat) (av tv fv : Value) (l : List Sp) (w : World) {s0 s1 s2 s3 s4 s5 s7 s8 s10 s11 s12 s13 s14 s15 s16 s17 s18 s19 s20 s21 s22 s23 s24 s25 s26 s27 s28 s29 s30 s31 s32 s33 s34 s35 s36 s37 s38 s39 s40 s41 s42 s43 s44 s45 s46 s47 s48 s49 s50 s51 s52 s53 s54 s55 s56 s57 s58 s59 s60 s61 s62 s63 s64 s65 s66 s67 s68 s69 s70 s71 s72 s73 s74 s75 s76 s77 s78 s79 s80 s81 s82 s83 s84 s85 s86 s87 s88 s89 s90 s91 s92 s93 s94 s95 s96 s97 s98 s99 s100 s101 s102 s103 s104 s105 s106 s107 s108 s109 s110 s111 s112 s113 s114 s115 s116 s117 s118 s119 s120 s121 s122 s123 s124 s125 s126 s127 s128 s129 s130 s131 s132 s133 s134 s135 s136 s137 s138 s139 s140 s141 s142 s143 s144 s145 s146 s147 s148 s149 s150 s151 s152 s153 s154 s155 s156 s157 s158 s159 s160 s161 s162 s163 s164 s165 s166 s167 s168 s169 s170 s171 s172 s173 s174 s175 s176 s177 s178 s179 s180 s181 s182 s183 s184 s185 s186 s187 s188 s189 s190 s191 s192 s193 s194 s195 s196 s197 s198 s199 s200 s201 s202 s203 s204 s205 s206 s207 s208 s209 s210 s211 s212 s213 s214 s215 s216 s217 s218 s219 s220 s221 s222 s223 s224 s225 s226 s227 s228 s229 s230 s231 s232 s233 s234 : Value} (hbx : w.heap[G]? = some (.cells #[av, tv, fv] tGr (0, 0))) (hrow : SpotsAt w av l) (hso : l.Pairwise fun x y => ltS y x = false) (hl : l.length ≤ 65536) (Q : Exit → Act → World → Prop)
    (hQ : ∀ (n2 n3 n9 n89 n90 n91 n92 n93 n94 n95 n96 n97 n98 n99 n100 n101 n102 n103 n104 n105 n106 n107 n108 n109 n110 n111 n112 n113 : Value) (w' : World), l.Nodup → Fr [] w w' → Q .normal { tmps := #[s0, s1, n2, n3, s4, s5, .pointer (some ⟨G, 0, none⟩), s7, s8, n9, s10, s11, s12, s13, s14, s15, s16, s17, s18, s19, s20, s21, s22, s23, s24, s25, s26, s27, s28, s29, s30, s31, s32, s33, s34, s35, s36, s37, s38, s39, s40, s41, s42, s43, s44, s45, s46, s47, s48, s49, s50, s51, s52, s53, s54, s55, s56, s57, s58, s59, s60, s61, s62, s63, s64, s65, s66, s67, s68, s69, s70, s71, s72, s73, s74, s75, s76, s77, s78, s79, s80, s81, s82, s83, s84, s85, s86, s87, s88, n89, n90, n91, n92, n93, n94, n95, n96, n97, n98, n99, n100, n101, n102, n103, n104, n105, n106, n107, n108, n109, n110, n111, n112, n113, s114, s115, s116, s117, s118, s119, s120, s121, s122, s123, s124, s125, s126, s127, s128, s129, s130, s131, s132, s133, s134, s135, s136, s137, s138, s139, s140, s141, s142, s143, s144, s145, s146, s147, s148, s149, s150, s151, s152, s153, s154, s155, s156, s157, s158, s159, s160, s161, s162, s163, s164, s165, s166, s167, s168, s169, s170, s171, s172, s173, s174, s175, s176, s177, s178, s179, s180, s181, s182, s183, s184, s185, s186, s187, s188, s189, s190, s191, s192, s193, s194, s195, s196, s197, s198, s199, s200, s201, s202, s203, s204, s205, s206, s207, s208, s209, s210, s211, s212, s213, s214, s215, s216, s217, s218, s219, s220, s221, s222, s223, s224, s225, s226, s227, s228, s229, s230, s231, s232, s233, s234], defers := [] } w')
    (hR : ∀ (n9 n89 n90 n91 n92 n93 n94 n95 n96 n97 n98 n99 n100 n101 n102 n103 n104 n105 n106 n107 n108 n109 n110 n111 n112 n113 : Value) (w' : World), ¬ l.Nodup → Fr [] w w' → Q .ret { tmps := #[s0, s1, .pointer none, .int .i64 1, s4, s5, .pointer (some ⟨G, 0, none⟩), s7, s8, n9, s10, s11, s12, s13, s14, s15, s16, s17, s18, s19, s20, s21, s22, s23, s24, s25, s26, s27, s28, s29, s30, s31, s32, s33, s34, s35, s36, s37, s38, s39, s40, s41, s42, s43, s44, s45, s46, s47, s48, s49, s50, s51, s52, s53, s54, s55, s56, s57, s58, s59, s60, s61, s62, s63, s64, s65, s66, s67, s68, s69, s70, s71, s72, s73, s74, s75, s76, s77, s78, s79, s80, s81, s82, s83, s84, s85, s86, s87, s88, n89, n90, n91, n92, n93, n94, n95, n96, n97, n98, n99, n100, n101, n102, n103, n104, n105, n106, n107, n108, n109, n110, n111, n112, n113, s114, s115, s116, s117, s118, s119, s120, s121, s122, s123, s124, s125, s126, s127, s128, s129, s130, s131, s132, s133, s134, s135, s136, s137, s138, s139, s140, s141, s142, s143, s144, s145, s146, s147, s148, s149, s150, s151, s152, s153, s154, s155, s156, s157, s158, s159, s160, s161, s162, s163, s164, s165, s166, s167, s168, s169, s170, s171, s172, s173, s174, s175, s176, s177, s178, s179, s180, s181, s182, s183, s184, s185, s186, s187, s188, s189, s190, s191, s192, s193, s194, s195, s196, s197, s198, s199, s200, s201, s202, s203, s204, s205, s206, s207, s208, s209, s210, s211, s212, s213, s214, s215, s216, s217, s218, s219, s220, s221, s222, s223, s224, s225, s226, s227, s228, s229, s230, s231, s232, s233, s234], defers := [] } w') :
    (subC [1, 1, 1, 1, 1, 1, 1, 0, 1] (Tryz.f30.body.getD .skip)).wp Tryz.prog Q { tmps := #[s0, s1, s2, s3, s4, s5, .pointer (some ⟨G, 0, none⟩), s7, s8, .int .i64 1, s10, s11, s12, s13, s14, s15, s16, s17, s18, s19, s20, s21, s22, s23, s24, s25, s26, s27, s28, s29, s30, s31, s32, s33, s34, s35, s36, s37, s38, s39, s40, s41, s42, s43, s44, s45, s46, s47, s48, s49, s50, s51, s52, s53, s54, s55, s56, s57, s58, s59, s60, s61, s62, s63, s64, s65, s66, s67, s68, s69, s70, s71, s72, s73, s74, s75, s76, s77, s78, s79, s80, s81, s82, s83, s84, s85, s86, s87, s88, s89, s90, s91, s92, s93, s94, s95, s96, s97, s98, s99, s100, s101, s102, s103, s104, s105, s106, s107, s108, s109, s110, s111, s112, s113, s114, s115, s116, s117, s118, s119, s120, s121, s122, s123, s124, s125, s126, s127, s128, s129, s130, s131, s132, s133, s134, s135, s136, s137, s138, s139, s140, s141, s142, s143, s144, s145, s146, s147, s148, s149, s150, s151, s152, s153, s154, s155, s156, s157, s158, s159, s160, s161, s162, s163, s164, s165, s166, s167, s168, s169, s170, s171, s172, s173, s174, s175, s176, s177, s178, s179, s180, s181, s182, s183, s184, s185, s186, s187, s188, s189, s190, s191, s192, s193, s194, s195, s196, s197, s198, s199, s200, s201, s202, s203, s204, s205, s206, s207, s208, s209, s210, s211, s212, s213, s214, s215, s216, s217, s218, s219, s220, s221, s222, s223, s224, s225, s226, s227, s228, s229, s230, s231, s232, s233, s234], defers := [] } w := by
  have HQ := Lib.hid hQ
  have HR := Lib.hid hR
  have HBX := Lib.hid hbx
  have HROW := Lib.hid hrow
  have HSO := Lib.hid hso
  obtain ⟨vq, vc, rfl, hv1, hv2⟩ := hrow.form
  clear hQ hR hbx hrow hso
  show (Code.block 6 _).wp _ _ _ _
  dsimp only
  go_wp2_with fail
  go_loopw [9] (fun i wr => ∃ k : Nat, i = .int .i64 ((k + 1 : Nat) : Int) ∧ (k + 1 ≤ l.length ∨ k = 0) ∧ (l.take (k + 1)).Nodup ∧ Fr [] w wr) (fun i _ => l.length - (intOf i).toNat)
  case atStart => exact ⟨0, rfl, .inr rfl, by cases l <;> simp, Fr.refl _ _⟩
  case round =>
    obtain ⟨k, rfl, hk, hnd, hf⟩ := hrel
    have HND := Lib.hid hnd
    have hbr := hf.heap HBX.out (by simp)
    have b0 := cell_of hbr 0
    have ek : ((k + 1 : Nat) : Int) = (k : Int) + 1 := by omega
    rw [ek]
    clear hnd ek hbr
    by_cases hlt : k + 1 < l.length
    · have hk1 : (k : Int) + 1 < (l.length : Int) := by omega
      have hk0 : k < l.length := by omega
      have hk01 : (k : Int) < (l.length : Int) := by omega
      obtain ⟨b, off, _, e, hb, c0, c1⟩ := spots_cell (HROW.out.fr0 hf) hlt
      cases e
      obtain ⟨_, _, _, e, _, d0, d1⟩ := spots_cell (HROW.out.fr0 hf) hk0
      cases e
      have hwr : IntKind.i64.wrap ((k : Int) + 1 - 1) = (k : Int) := by rw [IntKind.wrap_i64]; omega
      have hn1 : (0 : Int) ≤ (k : Int) + 1 := by omega
      have hn2 : ((k : Int) + 1).toNat = k + 1 := by omega
      have heq := eqlS l[k + 1] l[k]
      by_cases he : l[k + 1] = l[k]
      · have HNO : Hid (¬ l.Nodup) := fun h => by
          have := (List.getElem_inj h).1 he
          omega
        have hne2 : ∀ w : World, (binOp .eql 27 (.agg #[.int .i64 l[k + 1].1, .int .i64 l[k + 1].2]) (.agg #[.int .i64 l[k].1, .int .i64 l[k].2])).run Tryz.prog w = .ok (.bool true) w := fun w => by rw [heq]; simp [he]
        clear heq he
        generalize l[k + 1] = s at *
        generalize l[k] = t at *
        go_wp2_with fail
        go_quiet (fail)
        go_wp2
        apply HR.out
        · exact HNO.out
        · exact hf.drewN _
      · have HN2 : Hid ((l.take (k + 1 + 1)).Nodup) := nodup_snoc hlt HND.out fun hm => he (twice_adj HSO.out hlt hm)
        have hne2 : ∀ w : World, (binOp .eql 27 (.agg #[.int .i64 l[k + 1].1, .int .i64 l[k + 1].2]) (.agg #[.int .i64 l[k].1, .int .i64 l[k].2])).run Tryz.prog w = .ok (.bool false) w := fun w => by rw [heq]; simp [he]
        clear heq he
        generalize l[k + 1] = s at *
        generalize l[k] = t at *
        go_wp2_with fail
        go_quiet (fail)
        go_wp2
        go_roundw
        case rel => exact ⟨k + 1, by go_num, by omega, HN2.out, hf.drewN _⟩
        case measure => simp [intOf]; omega
    · have hk1 : ¬ (k : Int) + 1 < (l.length : Int) := by omega
      have HN : Hid (l.Nodup) := by
        have := HND.out
        rw [List.take_of_length_le (by omega)] at this
        exact this
      go_wp2
      apply HQ.out
      · exact HN.out
      · exact hf
end
end Go.Proofs.YtdlpbpohbkcafaaGreat
