/-
  cycle.Rings: what lies in memory on the way.
-/
import Derived.Test.YtdlpbpohbkcafaaGreatRingR
import Derived.Test.YtdlpbpohbkcafaaGreatCMade
import Derived.Deep.OwnRows
namespace Go.Proofs.YtdlpbpohbkcafaaGreat
open Go.RowKit Go.Shelf Go.Sort Go.Proofs

abbrev tI : TypeId := 3
abbrev tB : TypeId := 4
abbrev tW : TypeId := 63
abbrev tS : TypeId := 28
abbrev wC (p : Nat × Nat) : List Value := [.int .i64 (p.1 : Int), .int .i64 (p.2 : Int)]
theorem wC_len (l : List (Nat × Nat)) : (l.flatMap wC).length = l.length * 2 := flat_len wC 2 (fun _ => rfl) l

theorem own_hp {w : World} {B : Nat} {e : TypeId} {size n : Nat} {v : Value} {xs : List Value} (h : w.ownsRow B e size v n xs) {g : Nat} (hg : v.ownBlock = some g) : B ≤ g ∧ ∃ cur, w.heap[g]? = some (.cells cur e (0, 0)) := by
  rcases h.2 with ⟨rfl, _⟩ | ⟨g', cap, cur, rfl, hb, hh, _⟩
  · cases hg
  · cases hg
    exact ⟨hb, cur, hh⟩
/-- Rows of unlike types part. -/
theorem own_ne {w : World} {B B2 : Nat} {e e2 : TypeId} {size n size2 n2 : Nat} {v v2 : Value} {xs xs2 : List Value} (h : w.ownsRow B e size v n xs) (h2 : w.ownsRow B2 e2 size2 v2 n2 xs2) (hne : e ≠ e2) : ∀ g, v.ownBlock = some g → v2.ownBlock ≠ some g := by
  intro g hg hg2
  obtain ⟨_, c, hc⟩ := own_hp h hg
  obtain ⟨_, d, hd⟩ := own_hp h2 hg2
  rw [hc] at hd
  cases hd
  exact hne rfl
/-- A row's first part. -/
theorem own_take {w : World} {B g c n m size : Nat} {e : TypeId} {xs ys : List Value} (h : w.ownsRow B e size (.slice (some ⟨g, 0, none⟩) n c) n xs) (hm : m ≤ n) (hy : xs.take (m * size) = ys) : w.ownsRow B e size (.slice (some ⟨g, 0, none⟩) m c) m ys := by
  subst hy
  rcases h.2 with ⟨h', _⟩ | ⟨g', cap', cur, h', hb, hg, hnc, hcm, hcs, htake⟩
  · simp at h'
  · simp only [Value.slice.injEq, Option.some.injEq, Addr.mk.injEq, and_true, true_and] at h'
    obtain ⟨rfl, rfl⟩ := h'
    have hle : m * size ≤ n * size := Nat.mul_le_mul_right _ hm
    refine ⟨?_, .inr ⟨g, c, cur, rfl, hb, hg, by omega, hcm, hcs, ?_⟩⟩
    · rw [List.length_take, h.1]; omega
    · rw [← htake, List.take_take, Nat.min_eq_left hle]
theorem fr_grown {w w1 : World} {v : Value} (h : w.grownBy w1 v.ownBlock) : Fr v.ownBlock.toList w w1 := (Fr.refl _ w).grown h (fun g hg => .inl (by simp [hg]))
theorem fr_cell (w : World) (b j : Nat) (v : Value) : Fr [b] w (w.setCell ⟨b, j, none⟩ v) := (Fr.refl _ w).setCell (.inl (by simp)) _

/-- What rings are told, each in a row of its own. -/
def RingAt (B : Nat) (spots : List Sp) (w : World) (v : Value) (r : List Nat) : Prop := w.ownsRow B tSp 2 v r.length (r.flatMap fun k => spC (spots.getD k (0, 0)))
structure RingsAt (B : Nat) (spots : List Sp) (w : World) (vs : List Value) (rings : List (List Nat)) : Prop where
  len : vs.length = rings.length
  at' : ∀ i (h : i < vs.length) (h2 : i < rings.length), RingAt B spots w vs[i] rings[i]
  sep : vs.Pairwise fun a b => ∀ g, a.ownBlock = some g → b.ownBlock ≠ some g
theorem RingsAt.mem {B : Nat} {spots : List Sp} {w : World} {vs : List Value} {rings : List (List Nat)} (h : RingsAt B spots w vs rings) {v : Value} (hv : v ∈ vs) : ∃ r ∈ rings, RingAt B spots w v r := by
  obtain ⟨i, hi, rfl⟩ := List.getElem_of_mem hv
  have hi2 : i < rings.length := by rw [← h.len]; exact hi
  exact ⟨rings[i], List.getElem_mem hi2, h.at' i hi hi2⟩
theorem RingsAt.fr {B : Nat} {spots : List Sp} {w w1 : World} {vs : List Value} {rings : List (List Nat)} (h : RingsAt B spots w vs rings) {S : List Nat} (hf : Fr S w w1) (hS : ∀ v ∈ vs, ∀ g, v.ownBlock = some g → g ∉ S) : RingsAt B spots w1 vs rings :=
  ⟨h.len, fun i h1 h2 => owns_fr (h.at' i h1 h2) hf (hS _ (List.getElem_mem h1)), h.sep⟩
theorem RingsAt.push {B : Nat} {spots : List Sp} {w : World} {vs : List Value} {rings : List (List Nat)} (h : RingsAt B spots w vs rings) {v : Value} {r : List Nat} (hr : RingAt B spots w v r) (hv : ∀ a ∈ vs, ∀ g, a.ownBlock = some g → v.ownBlock ≠ some g) : RingsAt B spots w (vs ++ [v]) (rings ++ [r]) := by
  refine ⟨by simp [h.len], fun i h1 h2 => ?_, ?_⟩
  · by_cases hi : i < vs.length
    · have hi2 : i < rings.length := by rw [← h.len]; exact hi
      rw [List.getElem_append_left hi, List.getElem_append_left hi2]
      exact h.at' i hi hi2
    · have e : i = vs.length := by simp at h1; omega
      have e2 : i = rings.length := by rw [← h.len]; exact e
      rw [List.getElem_append_right (by omega), List.getElem_append_right (by omega)]
      simpa using hr
  · rw [List.pairwise_append]
    exact ⟨h.sep, by simp, fun a ha b hb => by simp at hb; subst hb; exact hv a ha⟩

/-- The three rows' blocks. -/
structure Blk (I L O B : Nat) : Prop where
  i : I < B
  l : L < B
  o : O < B
  il : I ≠ L
  io : I ≠ O
  lo : L ≠ O
structure TSAt (I L O B n : Nat) (spots : List Sp) (s : TS) (tp tr tw : Value) (vs : List Value) (w : World) : Prop where
  ix : w.rowIs I tI n fun i => .int .i64 (s.index i : Int)
  lo : w.rowIs L tI n fun i => .int .i64 (s.low i : Int)
  on : w.rowIs O tB n fun i => .bool (s.on i)
  pile : w.ownsRow B tI 1 tp s.pile.length (s.pile.flatMap nC)
  way : w.ownsRow B tW 2 tw s.way.length (s.way.reverse.flatMap wC)
  rg : w.ownsRow B tS 1 tr vs.length vs
  rings : RingsAt B spots w vs s.rings

theorem row_fr {w w1 : World} {b n : Nat} {t : TypeId} {f : Nat → Value} (h : w.rowIs b t n f) {S : List Nat} (hf : Fr S w w1) (hb : b ∉ S) : w1.rowIs b t n f := h.of_block (hf.block b h.lt hb)
theorem own_low {w : World} {B : Nat} {e : TypeId} {size n : Nat} {v : Value} {xs : List Value} (h : w.ownsRow B e size v n xs) {b : Nat} (hb : b < B) : ∀ g, v.ownBlock = some g → g ∉ [b] := by
  intro g hg
  have := (own_hp h hg).1
  simp
  omega
theorem own_not {w : World} {B B2 : Nat} {e e2 : TypeId} {size n size2 n2 : Nat} {v v2 : Value} {xs xs2 : List Value} (h : w.ownsRow B e size v n xs) (h2 : w.ownsRow B2 e2 size2 v2 n2 xs2) (hne : e ≠ e2) : ∀ g, v.ownBlock = some g → g ∉ v2.ownBlock.toList := by
  intro g hg hm
  exact own_ne h h2 hne g hg (by simpa using hm)
theorem low_not {w : World} {B : Nat} {e : TypeId} {size n : Nat} {v : Value} {xs : List Value} (h : w.ownsRow B e size v n xs) {b : Nat} (hb : b < B) : b ∉ v.ownBlock.toList := by
  intro hm
  have := (own_hp h (by simpa using hm)).1
  omega

section
variable {I L O B n : Nat} {spots : List Sp} {s : TS} {tp tr tw : Value} {vs : List Value} {w w1 : World}

theorem TSAt.fr0 (h : TSAt I L O B n spots s tp tr tw vs w) (hf : Fr [] w w1) : TSAt I L O B n spots s tp tr tw vs w1 :=
  ⟨row_fr h.ix hf (by simp), row_fr h.lo hf (by simp), row_fr h.on hf (by simp), owns_fr h.pile hf (by simp), owns_fr h.way hf (by simp), owns_fr h.rg hf (by simp), h.rings.fr hf (by simp)⟩
/-- A store into a row below. -/
theorem TSAt.rows (h : TSAt I L O B n spots s tp tr tw vs w) {b : Nat} (hb : b < B) (hf : Fr [b] w w1) {s2 : TS} (e1 : s2.pile = s.pile) (e2 : s2.way = s.way) (e3 : s2.rings = s.rings)
    (hi : w1.rowIs I tI n fun i => .int .i64 (s2.index i : Int)) (hl : w1.rowIs L tI n fun i => .int .i64 (s2.low i : Int)) (ho : w1.rowIs O tB n fun i => .bool (s2.on i)) : TSAt I L O B n spots s2 tp tr tw vs w1 := by
  refine ⟨hi, hl, ho, ?_, ?_, owns_fr h.rg hf (own_low h.rg hb), ?_⟩
  · rw [e1]; exact owns_fr h.pile hf (own_low h.pile hb)
  · rw [e2]; exact owns_fr h.way hf (own_low h.way hb)
  · rw [e3]
    refine h.rings.fr hf fun v hv g hg => ?_
    obtain ⟨r, _, hr⟩ := h.rings.mem hv
    exact own_low hr hb g hg
theorem TSAt.putIx (K : Blk I L O B) (h : TSAt I L O B n spots s tp tr tw vs w) (v c : Nat) : TSAt I L O B n spots { s with index := upd s.index v c } tp tr tw vs (w.setCell ⟨I, v, none⟩ (.int .i64 (c : Int))) :=
  h.rows K.i (fr_cell w I v _) rfl rfl rfl ((h.ix.set v _).congr fun i _ => by simp only [upd]; split <;> rfl) (h.lo.setOther (fun e => K.il e.symm) _) (h.on.setOther (fun e => K.io e.symm) _)
theorem TSAt.putLo (K : Blk I L O B) (h : TSAt I L O B n spots s tp tr tw vs w) (v c : Nat) : TSAt I L O B n spots { s with low := upd s.low v c } tp tr tw vs (w.setCell ⟨L, v, none⟩ (.int .i64 (c : Int))) :=
  h.rows K.l (fr_cell w L v _) rfl rfl rfl (h.ix.setOther K.il _) ((h.lo.set v _).congr fun i _ => by simp only [upd]; split <;> rfl) (h.on.setOther (fun e => K.lo e.symm) _)
theorem TSAt.putOn (K : Blk I L O B) (h : TSAt I L O B n spots s tp tr tw vs w) (v : Nat) (c : Bool) : TSAt I L O B n spots { s with on := upd s.on v c } tp tr tw vs (w.setCell ⟨O, v, none⟩ (.bool c)) :=
  h.rows K.o (fr_cell w O v _) rfl rfl rfl (h.ix.setOther K.io _) (h.lo.setOther K.lo _) ((h.on.set v _).congr fun i _ => by simp only [upd]; split <;> rfl)
/-- The pile's row anew, or grown. -/
theorem TSAt.putPile (K : Blk I L O B) (h : TSAt I L O B n spots s tp tr tw vs w) {tp2 : Value} {p : List Nat} (hg : w.grownBy w1 tp.ownBlock) (ho : w1.ownsRow B tI 1 tp2 p.length (p.flatMap nC)) : TSAt I L O B n spots { s with pile := p } tp2 tr tw vs w1 := by
  have hf := fr_grown hg
  refine ⟨row_fr h.ix hf (low_not h.pile K.i), row_fr h.lo hf (low_not h.pile K.l), row_fr h.on hf (low_not h.pile K.o), ho, owns_fr h.way hf (own_not h.way h.pile (by decide)), owns_fr h.rg hf (own_not h.rg h.pile (by decide)), ?_⟩
  refine h.rings.fr hf fun v hv => ?_
  obtain ⟨r, _, hr⟩ := h.rings.mem hv
  exact own_not hr h.pile (by decide)
theorem TSAt.putWay (K : Blk I L O B) (h : TSAt I L O B n spots s tp tr tw vs w) {tw2 : Value} {p : List (Nat × Nat)} (hg : w.grownBy w1 tw.ownBlock) (ho : w1.ownsRow B tW 2 tw2 p.length (p.reverse.flatMap wC)) : TSAt I L O B n spots { s with way := p } tp tr tw2 vs w1 := by
  have hf := fr_grown hg
  refine ⟨row_fr h.ix hf (low_not h.way K.i), row_fr h.lo hf (low_not h.way K.l), row_fr h.on hf (low_not h.way K.o), owns_fr h.pile hf (own_not h.pile h.way (by decide)), ho, owns_fr h.rg hf (own_not h.rg h.way (by decide)), ?_⟩
  refine h.rings.fr hf fun v hv => ?_
  obtain ⟨r, _, hr⟩ := h.rings.mem hv
  exact own_not hr h.way (by decide)
theorem TSAt.putRing (K : Blk I L O B) (h : TSAt I L O B n spots s tp tr tw vs w) {tr2 v : Value} {r : List Nat} (hr : RingAt B spots w v r) (hv : ∀ a ∈ vs, ∀ g, a.ownBlock = some g → v.ownBlock ≠ some g) (hg : w.grownBy w1 tr.ownBlock) (ho : w1.ownsRow B tS 1 tr2 (vs.length + 1) (vs ++ [v])) :
    TSAt I L O B n spots { s with rings := s.rings ++ [r] } tp tr2 tw (vs ++ [v]) w1 := by
  have hf := fr_grown hg
  refine ⟨row_fr h.ix hf (low_not h.rg K.i), row_fr h.lo hf (low_not h.rg K.l), row_fr h.on hf (low_not h.rg K.o), owns_fr h.pile hf (own_not h.pile h.rg (by decide)), owns_fr h.way hf (own_not h.way h.rg (by decide)), by simpa using ho, ?_⟩
  refine (h.rings.push hr hv).fr hf fun v2 hv2 => ?_
  rcases List.mem_append.1 hv2 with hv2 | hv2
  · obtain ⟨r2, _, hr2⟩ := h.rings.mem hv2
    exact own_not hr2 h.rg (by decide)
  · simp at hv2
    subst hv2
    exact own_not hr h.rg (by decide)
theorem TSAt.top (h : TSAt I L O B n spots s tp tr tw vs w) {v k : Nat} {rest : List (Nat × Nat)} (hw : s.way = (v, k) :: rest) : ∃ gw c, tw = .slice (some ⟨gw, 0, none⟩) (rest.length + 1) c ∧ B ≤ gw ∧ gw < w.heap.size ∧
    w.cell? ⟨gw, rest.length * 2, none⟩ = some (.int .i64 (v : Int)) ∧ w.cell? ⟨gw, rest.length * 2 + 1, none⟩ = some (.int .i64 (k : Int)) ∧ w.frozen? ⟨gw, rest.length * 2 + 1, none⟩ = false ∧ rest.length + 1 ≤ c ∧ c ≤ 9223372036854775807 := by
  have h1 := h.way
  rw [hw] at h1
  obtain ⟨gw, c, cur, rfl, hb, hh, hc, hcm, _⟩ := owns_open h1 (by simp)
  simp only [List.length_cons] at h1
  have hlen := wC_len rest.reverse
  rw [List.length_reverse] at hlen
  have e : ((v, k) :: rest).reverse.flatMap wC = rest.reverse.flatMap wC ++ wC (v, k) := by simp
  refine ⟨gw, c, rfl, hb, lt_of hh, ?_, ?_, h1.frozenAt _, by simpa using hc, by unfold maxLen at hcm; omega⟩
  · rw [h1.cellAt _ (by omega), e, List.getElem?_append_right (by omega), hlen, show rest.length * 2 - rest.length * 2 = 0 by omega]
    rfl
  · rw [h1.cellAt _ (by omega), e, List.getElem?_append_right (by omega), hlen, show rest.length * 2 + 1 - rest.length * 2 = 1 by omega]
    rfl
theorem TSAt.next (K : Blk I L O B) {v k gw c : Nat} {rest : List (Nat × Nat)} (h : TSAt I L O B n spots s tp tr (.slice (some ⟨gw, 0, none⟩) (rest.length + 1) c) vs w) (hw : s.way = (v, k) :: rest) (x : Nat) :
    TSAt I L O B n spots { s with way := (v, x) :: rest } tp tr (.slice (some ⟨gw, 0, none⟩) (rest.length + 1) c) vs (w.setCell ⟨gw, rest.length * 2 + 1, none⟩ (.int .i64 (x : Int))) := by
  have h1 := h.way
  rw [hw] at h1
  obtain ⟨h2, h3⟩ := h1.stored (rest.length * 2 + 1) (.int .i64 (x : Int))
  refine h.putWay K h3 ?_
  have e : ((v, k) :: rest).reverse.flatMap wC = rest.reverse.flatMap wC ++ wC (v, k) := by simp
  have e2 : ((v, x) :: rest).reverse.flatMap wC = rest.reverse.flatMap wC ++ wC (v, x) := by simp
  have hlen := wC_len rest.reverse
  rw [List.length_reverse] at hlen
  rw [e] at h2
  rw [e2]
  rw [List.set_append_right _ _ (by omega), hlen, show rest.length * 2 + 1 - rest.length * 2 = 1 by omega] at h2
  exact h2
theorem grown_refl (w : World) (r : Option Nat) : w.grownBy w r := ⟨rfl, rfl, rfl, Nat.le_refl _, fun _ _ _ => rfl⟩
theorem TSAt.pop (K : Blk I L O B) {v k gw c : Nat} {rest : List (Nat × Nat)} (h : TSAt I L O B n spots s tp tr (.slice (some ⟨gw, 0, none⟩) (rest.length + 1) c) vs w) (hw : s.way = (v, k) :: rest) :
    TSAt I L O B n spots { s with way := rest } tp tr (.slice (some ⟨gw, 0, none⟩) rest.length c) vs w := by
  refine h.putWay K (grown_refl _ _) ?_
  have h1 := h.way
  rw [hw] at h1
  have hlen := wC_len rest.reverse
  rw [List.length_reverse] at hlen
  refine own_take (n := rest.length + 1) h1 (by omega) ?_
  have e : ((v, k) :: rest).reverse.flatMap wC = rest.reverse.flatMap wC ++ wC (v, k) := by simp
  rw [e, List.take_append, List.take_of_length_le (by omega), hlen, Nat.sub_self, List.take_zero, List.append_nil]
theorem TSAt.cut (K : Blk I L O B) {gp c m : Nat} (h : TSAt I L O B n spots s (.slice (some ⟨gp, 0, none⟩) s.pile.length c) tr tw vs w) (hm : m ≤ s.pile.length) :
    TSAt I L O B n spots { s with pile := s.pile.take m } (.slice (some ⟨gp, 0, none⟩) m c) tr tw vs w := by
  refine h.putPile K (grown_refl _ _) ?_
  have hl : (s.pile.take m).length = m := by rw [List.length_take]; omega
  rw [hl]
  refine own_take h.pile hm ?_
  exact flat_take nC 1 (fun _ => rfl) s.pile m
theorem TSAt.count (h : TSAt I L O B n spots s tp tr tw vs w) (c : Nat) : TSAt I L O B n spots { s with count := c } tp tr tw vs w := ⟨h.ix, h.lo, h.on, h.pile, h.way, h.rg, h.rings⟩
theorem TSAt.noWay (h : TSAt I L O B n spots s tp tr tw vs w) (hw : s.way = []) : TSAt I L O B n spots s tp tr (.slice none 0 0) vs w := ⟨h.ix, h.lo, h.on, h.pile, by rw [hw]; exact World.ownsRow_nil _ _ _ _, h.rg, h.rings⟩
end
/-- What holds of the loops' slots. -/
structure RRel (w1 : World) (I L O B : Nat) (spots : List Sp) (s : TS) (c p r t : Value) (vs : List Value) (w : World) : Prop where
  cnt : c = .int .i64 (s.count : Int)
  at' : TSAt I L O B spots.length spots s p r t vs w
  fr : Fr [] w1 w
  sz : B ≤ w.heap.size
theorem total_le {g : Dg} {m : Nat} (h : ∀ l ∈ g, l.length ≤ m) : total g ≤ g.length * (m + 1) := by
  unfold total
  induction g with
  | nil => simp
  | cons a g ih =>
    have h1 := h a (by simp)
    have h2 := ih fun l hl => h l (by simp [hl])
    simp only [List.map_cons, List.sum_cons, List.length_cons, Nat.add_mul]
    omega
theorem made_ok {ns : List Nd} (h : madeE ns = 0) : ns.length ≤ 65536 ∧ tot ns ≤ 1048576 ∧ (gSp ns).Nodup := by
  unfold madeE at h
  split at h
  · cases h
  · rename_i h1
    split at h
    · cases h
    · split at h
      · cases h
      · rename_i h3
        exact ⟨by omega, by omega, (gSp_nodup ns).2 (Decidable.not_not.1 h3)⟩
theorem gNx_le (ns : List Nd) : ∀ l ∈ gNx ns, l.length ≤ ns.length := by
  intro l hl
  unfold gNx at hl
  obtain ⟨s, _, rfl⟩ := List.mem_map.1 hl
  unfold numsOf
  refine Nat.le_trans (List.length_filter_le _ _) ?_
  rw [List.length_range, gSp_len]
  exact Nat.le_refl _
end Go.Proofs.YtdlpbpohbkcafaaGreat
