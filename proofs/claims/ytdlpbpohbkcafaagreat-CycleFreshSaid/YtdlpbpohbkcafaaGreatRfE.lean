/-
  quadrilleref21.ends: the walk.
-/
import Derived.Test.YtdlpbpohbkcafaaGreatRfPE
import Derived.Test.YtdlpbpohbkcafaaGreatCRingB
import Derived.Test.YtdlpbpohbkcafaaGreatCRingM
import Derived.Deep.AppendLies
import Derived.Deep.RegionHeld3
namespace Go.Proofs.YtdlpbpohbkcafaaGreat
open Go.RowKit Go.Shelf Go.Sort Go.Proofs

abbrev tWy : TypeId := 135
theorem infoWy : (Tryz.prog.info? tWy).map (fun i => (i.zero, i.size, i.bytes)) = some (some (.agg #[.int .i64 0, .int .i64 0]), 2, 16) := by kernel_rfl
/-- Rows of numbers, as they are read. -/
def ToAt (w : World) (v : Value) (g : Dg) : Prop := ∃ rows : List Value, SlAt w v 1 g.length rows ∧ ∀ k (hk : k < g.length), ∃ u, rows[k]? = some u ∧ NumsAt w u g[k]
theorem ToAt.fr0 {w w1 : World} {v : Value} {g : Dg} (h : ToAt w v g) (hf : Fr [] w w1) : ToAt w1 v g := by
  obtain ⟨rows, h1, h2⟩ := h
  exact ⟨rows, h1.fr0 hf, fun k hk => by obtain ⟨u, e, hu⟩ := h2 k hk; exact ⟨u, e, hu.fr0 hf⟩⟩
theorem ToAt.form {w : World} {v : Value} {g : Dg} (h : ToAt w v g) : ∃ q c, v = .slice q g.length c ∧ g.length ≤ c ∧ c ≤ 9223372036854775807 := by
  obtain ⟨rows, h1, h2⟩ := h
  exact h1.form
theorem ToAt.cell {w : World} {v : Value} {g : Dg} (h : ToAt w v g) {k : Nat} (hk : k < g.length) : ∃ b off c u, v = .slice (some ⟨b, off, none⟩) g.length c ∧ b < w.heap.size ∧ w.cell? ⟨b, off + k, none⟩ = some u ∧ NumsAt w u g[k] := by
  obtain ⟨rows, h1, h2⟩ := h
  obtain ⟨u, e, hu⟩ := h2 k hk
  obtain ⟨b, off, c, e2, hb, hc⟩ := h1.cell (by omega)
  exact ⟨b, off, c, u, e2, hb, hc k u e, hu⟩
theorem nxs_get {g : Dg} {v : Nat} (hv : v < g.length) : nxs g v = g[v] := by
  unfold nxs
  rw [List.getD_eq_getElem?_getD, List.getElem?_eq_getElem hv]
  rfl
structure EAt (Sn B n : Nat) (sn : Nat → Bool) (out : List Nat) (way : List (Nat × Nat)) (ov tw : Value) (w : World) : Prop where
  sn : w.rowIs Sn tB n fun i => .bool (sn i)
  out : w.ownsRow B tI 1 ov out.length (out.flatMap nC)
  way : w.ownsRow B tWy 2 tw way.length (way.reverse.flatMap wC)
  lo : Sn < B
section
variable {Sn B n : Nat} {sn : Nat → Bool} {out : List Nat} {way : List (Nat × Nat)} {ov tw : Value} {w w1 : World}
theorem EAt.fr0 (h : EAt Sn B n sn out way ov tw w) (hf : Fr [] w w1) : EAt Sn B n sn out way ov tw w1 :=
  ⟨row_fr h.sn hf (by simp), owns_fr h.out hf (by simp), owns_fr h.way hf (by simp), h.lo⟩
theorem EAt.putSn (h : EAt Sn B n sn out way ov tw w) (v : Nat) (c : Bool) : EAt Sn B n (upd sn v c) out way ov tw (w.setCell ⟨Sn, v, none⟩ (.bool c)) :=
  ⟨(h.sn.set v _).congr fun i _ => by simp only [upd]; split <;> rfl, owns_fr h.out (fr_cell w Sn v _) (own_low h.out h.lo), owns_fr h.way (fr_cell w Sn v _) (own_low h.way h.lo), h.lo⟩
theorem EAt.putOut (h : EAt Sn B n sn out way ov tw w) {ov2 : Value} {o : List Nat} (hg : w.grownBy w1 ov.ownBlock) (ho : w1.ownsRow B tI 1 ov2 o.length (o.flatMap nC)) : EAt Sn B n sn o way ov2 tw w1 :=
  ⟨row_fr h.sn (fr_grown hg) (low_not h.out h.lo), ho, owns_fr h.way (fr_grown hg) (own_not h.way h.out (by decide)), h.lo⟩
theorem EAt.putWay (h : EAt Sn B n sn out way ov tw w) {tw2 : Value} {p : List (Nat × Nat)} (hg : w.grownBy w1 tw.ownBlock) (ho : w1.ownsRow B tWy 2 tw2 p.length (p.reverse.flatMap wC)) : EAt Sn B n sn out p ov tw2 w1 :=
  ⟨row_fr h.sn (fr_grown hg) (low_not h.way h.lo), owns_fr h.out (fr_grown hg) (own_not h.out h.way (by decide)), ho, h.lo⟩
theorem EAt.top {v k : Nat} {rest : List (Nat × Nat)} (h : EAt Sn B n sn out ((v, k) :: rest) ov tw w) : ∃ gw c, tw = .slice (some ⟨gw, 0, none⟩) (rest.length + 1) c ∧ gw < w.heap.size ∧
    w.cell? ⟨gw, rest.length * 2, none⟩ = some (.int .i64 (v : Int)) ∧ w.cell? ⟨gw, rest.length * 2 + 1, none⟩ = some (.int .i64 (k : Int)) ∧ w.frozen? ⟨gw, rest.length * 2 + 1, none⟩ = false ∧ rest.length + 1 ≤ c ∧ c ≤ 9223372036854775807 := by
  have h1 := h.way
  obtain ⟨gw, c, cur, rfl, hb, hh, hc, hcm, _⟩ := owns_open h1 (by simp)
  simp only [List.length_cons] at h1
  have hlen := wC_len rest.reverse
  rw [List.length_reverse] at hlen
  have e : ((v, k) :: rest).reverse.flatMap wC = rest.reverse.flatMap wC ++ wC (v, k) := by simp
  refine ⟨gw, c, rfl, lt_of hh, ?_, ?_, h1.frozenAt _, by simpa using hc, by unfold maxLen at hcm; omega⟩
  · rw [h1.cellAt _ (by omega), e, List.getElem?_append_right (by omega), hlen, show rest.length * 2 - rest.length * 2 = 0 by omega]
    rfl
  · rw [h1.cellAt _ (by omega), e, List.getElem?_append_right (by omega), hlen, show rest.length * 2 + 1 - rest.length * 2 = 1 by omega]
    rfl
theorem EAt.next {v k gw c : Nat} {rest : List (Nat × Nat)} (h : EAt Sn B n sn out ((v, k) :: rest) ov (.slice (some ⟨gw, 0, none⟩) (rest.length + 1) c) w) (x : Nat) :
    EAt Sn B n sn out ((v, x) :: rest) ov (.slice (some ⟨gw, 0, none⟩) (rest.length + 1) c) (w.setCell ⟨gw, rest.length * 2 + 1, none⟩ (.int .i64 (x : Int))) := by
  have h1 := h.way
  obtain ⟨h2, h3⟩ := h1.stored (rest.length * 2 + 1) (.int .i64 (x : Int))
  refine h.putWay h3 ?_
  have e : ((v, k) :: rest).reverse.flatMap wC = rest.reverse.flatMap wC ++ wC (v, k) := by simp
  have e2 : ((v, x) :: rest).reverse.flatMap wC = rest.reverse.flatMap wC ++ wC (v, x) := by simp
  have hlen := wC_len rest.reverse
  rw [List.length_reverse] at hlen
  rw [e] at h2
  rw [e2]
  rw [List.set_append_right _ _ (by omega), hlen, show rest.length * 2 + 1 - rest.length * 2 = 1 by omega] at h2
  exact h2
theorem EAt.pop {v k gw c : Nat} {rest : List (Nat × Nat)} (h : EAt Sn B n sn out ((v, k) :: rest) ov (.slice (some ⟨gw, 0, none⟩) (rest.length + 1) c) w) :
    EAt Sn B n sn out rest ov (.slice (some ⟨gw, 0, none⟩) rest.length c) w := by
  refine h.putWay (grown_refl _ _) ?_
  have h1 := h.way
  have hlen := wC_len rest.reverse
  rw [List.length_reverse] at hlen
  refine own_take (n := rest.length + 1) h1 (by omega) ?_
  have e : ((v, k) :: rest).reverse.flatMap wC = rest.reverse.flatMap wC ++ wC (v, k) := by simp
  rw [e, List.take_append, List.take_of_length_le (by omega), hlen, Nat.sub_self, List.take_zero, List.append_nil]
end
def EndsPost (g : Dg) (w : World) (e : Ending) (w1 : World) : Prop := ∃ ov out, e = .returned ov ∧ EndsOk g out ∧ w1.ownsRow w.heap.size tI 1 ov out.length (out.flatMap nC) ∧ Fr [] w w1
/-- The state of the walk. -/
def EIn (g : Dg) (w0 : World) (Sn B f : Nat) (sn : Nat → Bool) (out : List Nat) (way : List (Nat × Nat)) (ov tw : Value) (w : World) : Prop :=
  EAt Sn B g.length sn out way ov tw w ∧ EOk g ⟨sn, out, way⟩ ∧ leftE g ⟨sn, out, way⟩ ≤ f ∧ Fr [] w0 w ∧ B ≤ w.heap.size

set_option maxRecDepth 100000 in
set_option maxHeartbeats 6400000 in
theorem rfEnds (v : Value) (g : Dg) (w : World) (hT : ToAt w v g) (hg : OkG g) (hl : g.length ≤ 65536) : Calls Tryz.prog 55 #[v] w (EndsPost g w) := by
  obtain ⟨vq, vc, rfl, hc1, hc2⟩ := hT.form
  have HT := Lib.hid hT
  have HG := Lib.hid hg
  clear hT hg
  obtain ⟨i1, hi1, hy0, hy1, hy2⟩ := info_parts infoInt
  obtain ⟨i2, hi2, hx0, hx1, hx2⟩ := info_parts infoWy
  have hmk := mkB g.length (by omega)
  go_enter Tryz.func55, Tryz.ntmps55
  go_upto_block 0 with fail
  clear hmk
  have hrow := heap_new w (.cells (Array.replicate g.length (.bool false)) tB)
  have hF1 : Fr [] w (w.alloc (.cells (Array.replicate g.length (.bool false)) tB)) := (Fr.refl [] w).alloc _
  have hsz : (w.alloc (.cells (Array.replicate g.length (.bool false)) tB)).heap.size = w.heap.size + 1 := by simp
  generalize w.alloc (.cells (Array.replicate g.length (.bool false)) tB) = W at *
  generalize hSn : w.heap.size = Sn at *
  have HSN := Lib.hid hSn
  have HF1 := Lib.hid hF1
  have hA0 : EAt Sn (Sn + 1) g.length (fun _ => false) [] [] (.slice none 0 0) (.slice none 0 0) W := ⟨row_new hrow, World.ownsRow_nil _ _ _ _, World.ownsRow_nil _ _ _ _, by omega⟩
  clear hSn hF1 hrow
  go_wp2_with fail
  go_loopw [4, 5, 6] (fun ov tw i wr => ∃ (k : Nat) (sn : Nat → Bool) (out : List Nat), i = .int .i64 (k : Int) ∧ k ≤ g.length ∧ (∃ f, EIn g w Sn (Sn + 1) f sn out [] ov tw wr) ∧ ∀ v, v < k → sn v = true) (fun _ _ i _ => g.length - (intOf i).toNat)
  case atStart => exact ⟨0, fun _ => false, [], rfl, by omega, ⟨_, hA0, EOk.start g, Nat.le_refl _, HF1.out, by omega⟩, by omega⟩
  case round =>
    obtain ⟨k, sn, out, rfl, hk, ⟨f0, hA, hE, _, hf, hB⟩, hall⟩ := hrel
    clear hA0
    by_cases hlt : k < g.length
    · have hk1 : (k : Int) < (g.length : Int) := by omega
      have c0 := hA.sn.cell hlt
      have fz := hA.sn.frozen k
      have hSl := hA.sn.lt
      cases hs : sn k with
      | true =>
        rw [hs] at c0
        have HA := Lib.hid hA
        have HE := Lib.hid hE
        have HALL : Hid (∀ v, v < k + 1 → sn v = true) := fun v hv => by
          rcases Nat.lt_or_eq_of_le (Nat.le_of_lt_succ hv) with h | h
          · exact hall v h
          · rw [h]; exact hs
        clear hA hE hall hs
        go_wp2
        go_roundw
        case rel => exact ⟨k + 1, sn, out, by go_num, by omega, ⟨_, HA.out, HE.out, Nat.le_refl _, hf, hB⟩, HALL.out⟩
        case measure => simp [intOf]; omega
      | false =>
        rw [hs] at c0
        have HE := Lib.hid (hE.begin hlt hs)
        have hA1 := hA.putSn k true
        have hf1 : Fr [] w (wr.setCell ⟨Sn, k, none⟩ (.bool true)) := hf.setCell (.inr (by have := HSN.out; show w.heap.size ≤ Sn; omega)) _
        have hB1 : Sn + 1 ≤ (wr.setCell ⟨Sn, k, none⟩ (.bool true)).heap.size := by simpa using hB
        have HALL : Hid (∀ v, v < k + 1 → upd sn k true v = true) := fun v hv => by
          unfold upd
          split
          · rfl
          · exact hall v (by omega)
        have hown := hA1.way
        obtain ⟨tq, tn, tc, rfl⟩ := own_form hown
        have HA1 := Lib.hid hA1
        have HF1' := Lib.hid hf1
        clear hA hE hall hs hf hA1 hf1 hown
        go_upto_region 9 with fail
        clear c0 fz hSl
        generalize wr.setCell ⟨Sn, k, none⟩ (.bool true) = W1 at *
        have hown2 : (W1.alloc (.cells #[.int .i64 (k : Int), .int .i64 0] tWy)).ownsRow (Sn + 1) tWy 2 (.slice tq tn tc) 0 [] := HA1.out.way.alloc (.cells #[.int .i64 (k : Int), .int .i64 0] tWy)
        go_upto_block 2 with (at_builtin; refine wpList_append_own _ rfl _ _ 133 rfl (Sn + 1) tWy i2 _ 2 16 Tryz.underlying133 hi2 hx0 hx1 hx2 rfl (by decide) _ _ _ rfl hown2 ⟨W1.heap.size, 0, none⟩ 1 1 [.int .i64 (k : Int), .int .i64 0] rfl rfl (by have := news_of W1 [.int .i64 (k : Int), .int .i64 0] tWy; simpa using this) (fun x hx => by simp at hx; rcases hx with rfl | rfl <;> rfl) (by decide) (by omega) (by simp; omega) ?_; intro tw9 w9 hown9 hgrow _)
        have HA9 := Lib.hid ((HA1.out.fr0 ((Fr.refl [] W1).alloc (.cells #[.int .i64 (k : Int), .int .i64 0] tWy))).putWay hgrow (p := [(k, 0)]) (by simpa [wC] using hown9))
        have HF9 := Lib.hid ((HF1'.out.alloc (.cells #[.int .i64 (k : Int), .int .i64 0] tWy)).grown hgrow (fun x hx => .inr (by have := (hown2.lt x hx).1; have := HSN.out; omega)))
        have hB9 : Sn + 1 ≤ w9.heap.size := by
          have := hgrow.size
          simp at this
          omega
        clear hown2 hgrow hown9 HA1 HF1'
        go_wp2_with fail
        go_loopg [4, 5] (leftE g ⟨upd sn k true, out, [(k, 0)]⟩) (fun f ov tw wr => ∃ (sn2 : Nat → Bool) (out2 : List Nat) (way : List (Nat × Nat)), EIn g w Sn (Sn + 1) f sn2 out2 way ov tw wr ∧ ∀ v, v < k + 1 → sn2 v = true)
        case atStart => exact ⟨upd sn k true, out, [(k, 0)], ⟨HA9.out, HE.out, Nat.le_refl _, HF9.out, hB9⟩, HALL.out⟩
        case round =>
          clear HA9 HE HF9 hB9 HALL hB hB1 hk
          obtain ⟨sn2, out2, way, ⟨hA, hE, hfu, hf, hB⟩, hall⟩ := hrel
          cases way with
          | nil =>
            have hown := hA.way
            obtain ⟨tq, tc, rfl, ht1, ht2⟩ := (own_sl hown).form
            have HA := Lib.hid hA
            have HE := Lib.hid hE
            have HALL := Lib.hid hall
            clear hA hE hall hown hfu
            go_wp2
            go_roundw
            case rel => exact ⟨k + 1, sn2, out2, by go_num, by omega, ⟨_, HA.out, HE.out, Nat.le_refl _, hf, hB⟩, HALL.out⟩
            case measure => simp [intOf]; omega
          | cons p rest =>
            obtain ⟨x, j⟩ := p
            obtain ⟨gw, cw, rfl, hgl, c0, c1, fz, hcw1, hcw2⟩ := hA.top
            have hxl : x < g.length := hE.lt x (by simp [wN])
            have hjk : j ≤ (nxs g x).length := hE.kb (x, j) (by simp)
            have hwl := hE.way_le
            obtain ⟨b, off, _, u, e, hb, d0, hu⟩ := (HT.out.fr0 hf).cell hxl
            cases e
            rw [← nxs_get hxl] at hu
            obtain ⟨uq, uc, rfl, hu1, hu2⟩ := hu.form
            have hx1' : (x : Int) < (g.length : Int) := by omega
            have hrl : rest.length ≤ 65536 := by simp only [List.length_cons] at hwl; omega
            have hol : out2.length ≤ 65536 := by omega
            have hsub : IntKind.i64.wrap ((rest.length : Int) + 1 - 1) = (rest.length : Int) := by rw [IntKind.wrap_i64]; omega
            have hr1 : (rest.length : Int) < (rest.length : Int) + 1 := by omega
            have hr2 : (0 : Int) < (rest.length : Int) + 1 := by omega
            have hr3 : (rest.length : Int) ≤ (cw : Int) := by omega
            have HA := Lib.hid hA
            have HE := Lib.hid hE
            have HALL := Lib.hid hall
            have HU := Lib.hid hu
            clear hA hE hall hu hwl
            by_cases hend : j = (nxs g x).length
            · subst hend
              have HE2 := Lib.hid HE.out.pop
              have HA2 := Lib.hid HA.out.pop
              have HFU : Hid (leftE g ⟨sn2, out2 ++ [x], rest⟩ + 1 ≤ gk) := by
                rw [leftE_pop g sn2 out2 (out2 ++ [x]) x rest]
                exact hfu
              have heq : (((nxs g x).length : Int) == ((nxs g x).length : Int)) = true := by simp
              obtain ⟨f, rfl⟩ : ∃ f, gk = f + 1 := ⟨gk - 1, by have := HFU.out; omega⟩
              clear hfu HA HE hjk
              generalize (nxs g x).length = m at *
              go_wp2_with fail
              go_quiet (fail)
              have c0' : (wr.drewN nq).cell? ⟨gw, rest.length * 2, none⟩ = some (.int .i64 (x : Int)) := c0
              have hgl' : gw < (wr.drewN nq).heap.size := hgl
              have hB' : Sn + 1 ≤ (wr.drewN nq).heap.size := hB
              have HA3 := Lib.hid (HA2.out.fr0 ((Fr.refl [] wr).drewN nq))
              have hf' : Fr [] w (wr.drewN nq) := hf.drewN nq
              clear c0 c1 fz hgl hB HA2 hf d0 hb
              generalize wr.drewN nq = W2 at *
              have hown := HA3.out.out.alloc (.cells #[.int .i64 (x : Int)] tI)
              obtain ⟨oq, on, oc, rfl⟩ := own_form hown
              go_wp2_with (at_builtin; refine wpList_append_own _ rfl _ _ 47 rfl (Sn + 1) tI i1 _ 1 8 Tryz.underlying47 hi1 hy0 hy1 hy2 rfl (by decide) _ _ _ rfl hown ⟨W2.heap.size, 0, none⟩ 1 1 [.int .i64 (x : Int)] rfl rfl (by have := news_of W2 [.int .i64 (x : Int)] tI; simpa using this) (one_mem rfl) (by unfold maxLen; omega) (by omega) (by simp; omega) ?_; intro ov9 w9 hown9 hgrow _)
              go_roundg f
              case rel =>
                refine ⟨sn2, out2 ++ [x], rest, ⟨(HA3.out.fr0 ((Fr.refl [] W2).alloc _)).putOut hgrow (o := out2 ++ [x]) (by simpa using hown9), HE2.out, by have := HFU.out; omega, (hf'.alloc _).grown hgrow (fun y hy => .inr (by have := (hown.lt y hy).1; have := HSN.out; omega)), by have := hgrow.size; simp at this; omega⟩, HALL.out⟩
              case measure => have := HFU.out; omega
            · have hjl : j < (nxs g x).length := by omega
              obtain ⟨ub, uo, _, e2, hub, dc⟩ := HU.out.cell (by omega)
              cases e2
              have d1 := dc j (.int .i64 ((nxs g x)[j] : Int)) (by
                have := flat_get nC 1 (fun _ => rfl) (nxs g x) j 0 hjl (by omega)
                simpa using this)
              have hyl : (nxs g x)[j] < g.length := HG.out.nx (List.getElem_mem hjl)
              have HFUN : Hid (leftE g ⟨sn2, out2, (x, j + 1) :: rest⟩ + 1 ≤ gk) := by
                rw [leftE_next g sn2 out2 hjl rest]
                exact hfu
              have HFUP : Hid (sn2 (nxs g x)[j] = false → leftE g ⟨upd sn2 (nxs g x)[j] true, out2, ((nxs g x)[j], 0) :: (x, j + 1) :: rest⟩ + 1 ≤ gk) := fun h => Nat.le_trans (leftE_push g sn2 out2 hjl hyl h rest) hfu
              have HEN := Lib.hid (fun (h : sn2 (nxs g x)[j] = true) => HE.out.next hjl h)
              have HEP := Lib.hid (fun (h : sn2 (nxs g x)[j] = false) => HE.out.push HG.out hjl (j := (nxs g x)[j]) rfl h)
              obtain ⟨f, rfl⟩ : ∃ f, gk = f + 1 := ⟨gk - 1, by have := HFUN.out; omega⟩
              have hjm : (j : Int) < ((nxs g x).length : Int) := by omega
              have hne : ((j : Int) == ((nxs g x).length : Int)) = false := by rw [beq_eq_false_iff_ne]; omega
              have hne2 : ¬ j = (nxs g x).length := hend
              have hA1 := HA.out.next (j + 1)
              clear hfu HE hjk dc hend
              generalize hyy : (nxs g x)[j] = y at *
              clear hyy
              generalize (nxs g x).length = m at *
              go_wp2_with fail
              go_quiet (fail)
              have k0 : (wr.drewN nq).cell? ⟨gw, rest.length * 2, none⟩ = some (.int .i64 (x : Int)) := c0
              have k1 : (wr.drewN nq).cell? ⟨gw, rest.length * 2 + 1, none⟩ = some (.int .i64 (j : Int)) := c1
              have k2 : (wr.drewN nq).cell? ⟨b, off + x, none⟩ = some (.slice (some ⟨ub, uo, none⟩) m uc) := d0
              have k3 : (wr.drewN nq).cell? ⟨ub, uo + j, none⟩ = some (.int .i64 (y : Int)) := d1
              have hgl' : gw < (wr.drewN nq).heap.size := hgl
              have hB' : Sn + 1 ≤ (wr.drewN nq).heap.size := hB
              have fz' : (wr.drewN nq).frozen? ⟨gw, rest.length * 2 + 1, none⟩ = false := fz
              have HA2 := Lib.hid (HA.out.fr0 ((Fr.refl [] wr).drewN nq))
              have hf' : Fr [] w (wr.drewN nq) := hf.drewN nq
              clear c0 c1 fz hgl hB HA hA1 hf d0 d1 hb hub
              generalize wr.drewN nq = W2 at *
              go_wp2_with fail
              go_quiet (fail)
              have k1 : (W2.drewN nq).cell? ⟨gw, rest.length * 2 + 1, none⟩ = some (.int .i64 (j : Int)) := k1
              have hgl' : gw < (W2.drewN nq).heap.size := hgl'
              have hB' : Sn + 1 ≤ (W2.drewN nq).heap.size := hB'
              have fz' : (W2.drewN nq).frozen? ⟨gw, rest.length * 2 + 1, none⟩ = false := fz'
              have hA3 := (HA2.out.fr0 ((Fr.refl [] W2).drewN nq)).next (j + 1)
              have hwn := (HA2.out.fr0 ((Fr.refl [] W2).drewN nq)).way.lt gw rfl
              have hf' : Fr [] w (W2.drewN nq) := hf'.drewN nq
              clear HA2 k0 k2 k3
              generalize W2.drewN nq = W3 at *
              have ej : ((j + 1 : Nat) : Int) = (j : Int) + 1 := by omega
              rw [ej] at hA3
              have hwr : IntKind.i64.wrap ((j : Int) + 1) = (j : Int) + 1 := by rw [IntKind.wrap_i64]; omega
              have hf4 : Fr [] w (W3.setCell ⟨gw, rest.length * 2 + 1, none⟩ (.int .i64 ((j : Int) + 1))) := hf'.setCell (.inr (by have := HSN.out; show w.heap.size ≤ gw; omega)) _
              have hB4 : Sn + 1 ≤ (W3.setCell ⟨gw, rest.length * 2 + 1, none⟩ (.int .i64 ((j : Int) + 1))).heap.size := by simpa using hB'
              have HA4 := Lib.hid hA3
              clear hA3 ej hf' hB' hwn
              go_upto_region 17 with fail
              clear k1 fz' hgl' hwr
              generalize W3.setCell ⟨gw, rest.length * 2 + 1, none⟩ (.int .i64 ((j : Int) + 1)) = W4 at *
              have s0 := HA4.out.sn.cell hyl
              have sf := HA4.out.sn.frozen y
              have sl := HA4.out.sn.lt
              have hy1' : (y : Int) < (g.length : Int) := by omega
              cases hs : sn2 y with
              | true =>
                rw [hs] at s0
                have HEN2 := Lib.hid (HEN.out hs)
                clear HEN HEP HFUP hs
                go_wp2
                go_roundg f
                case rel => exact ⟨sn2, out2, (x, j + 1) :: rest, ⟨HA4.out, HEN2.out, by have := HFUN.out; omega, hf4, hB4⟩, HALL.out⟩
                case measure => omega
              | false =>
                rw [hs] at s0
                have HEP2 := Lib.hid (HEP.out hs)
                have HFUP2 := Lib.hid (HFUP.out hs)
                clear HEN HEP HFUP HFUN hs
                have hA5 := HA4.out.putSn y true
                have hf5 : Fr [] w (W4.setCell ⟨Sn, y, none⟩ (.bool true)) := hf4.setCell (.inr (by have := HSN.out; show w.heap.size ≤ Sn; omega)) _
                have hB5 : Sn + 1 ≤ (W4.setCell ⟨Sn, y, none⟩ (.bool true)).heap.size := by simpa using hB4
                have HALL2 : Hid (∀ v, v < k + 1 → upd sn2 y true v = true) := fun v hv => by
                  unfold upd
                  split
                  · rfl
                  · exact HALL.out v hv
                have HA5 := Lib.hid hA5
                clear hA5 HALL HA4
                go_upto_region 19 with fail
                clear s0 sf sl hB4 hf4
                generalize W4.setCell ⟨Sn, y, none⟩ (.bool true) = W5 at *
                have hown := HA5.out.way.alloc (.cells #[.int .i64 (y : Int), .int .i64 0] tWy)
                simp only [List.length_cons] at hown
                go_wp2_with (at_builtin; refine wpList_append_own _ rfl _ _ 133 rfl (Sn + 1) tWy i2 _ 2 16 Tryz.underlying133 hi2 hx0 hx1 hx2 rfl (by decide) _ _ _ rfl hown ⟨W5.heap.size, 0, none⟩ 1 1 [.int .i64 (y : Int), .int .i64 0] rfl rfl (by have := news_of W5 [.int .i64 (y : Int), .int .i64 0] tWy; simpa using this) (fun x hx => by simp at hx; rcases hx with rfl | rfl <;> rfl) (by unfold maxLen; omega) (by omega) (by simp; omega) ?_; intro tw9 w9 hown9 hgrow _)
                go_roundg f
                case rel =>
                  refine ⟨upd sn2 y true, out2, (y, 0) :: (x, j + 1) :: rest, ⟨(HA5.out.fr0 ((Fr.refl [] W5).alloc _)).putWay hgrow (p := (y, 0) :: (x, j + 1) :: rest) ?_, HEP2.out, by have := HFUP2.out; omega, (hf5.alloc _).grown hgrow (fun z hz => .inr (by have := (hown.lt z hz).1; have := HSN.out; omega)), by have := hgrow.size; simp at this; omega⟩, HALL2.out⟩
                  have e : ((y, 0) :: (x, j + 1) :: rest).reverse.flatMap wC = ((x, j + 1) :: rest).reverse.flatMap wC ++ [.int .i64 (y : Int), .int .i64 0] := by simp [wC]
                  rw [e]
                  exact hown9
                case measure => have := HFUP2.out; omega
    · obtain rfl : k = g.length := by omega
      have HA := Lib.hid hA
      have HE := Lib.hid (hE.ends hall)
      clear hA hE hall
      go_wp2
      go_ret
      exact ⟨_, out, rfl, HE.out, owns_mono HA.out.out (by have := HSN.out; omega), hf⟩
end Go.Proofs.YtdlpbpohbkcafaaGreat
