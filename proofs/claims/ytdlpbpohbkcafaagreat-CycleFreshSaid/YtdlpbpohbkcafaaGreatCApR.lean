/-
  cycle.Rings, Order, Leads: what each tells, refused or not, in one form.
  CycleApart: what has been told and written over lies apart.
  CycleApart: one round's end, in plain words.
-/
import Derived.Test.YtdlpbpohbkcafaaGreatCBegun
import Derived.Test.YtdlpbpohbkcafaaGreatCTwin
import Derived.Test.YtdlpbpohbkcafaaGreatCycP
import Derived.Test.YtdlpbpohbkcafaaGreatCBookC
namespace Go.Proofs.YtdlpbpohbkcafaaGreat
section
open Go.RowKit Go.Shelf Go.Sort Go.Proofs

noncomputable section
/-- The rings that are told. -/
def ringsL (ns : List Nd) : List (List Sp) := if madeE ns = 0 then ringsOf (gSp ns) (gNx ns) else []
def RingsRes (ns : List Nd) (w : World) (e : Ending) (w1 : World) : Prop := ∃ sv vs, e = .returned (.tuple #[sv, .int .i64 (madeE ns)]) ∧ w1.ownsRow w.heap.size tS 1 sv vs.length vs ∧ Told w.heap.size w1 vs (ringsL ns) ∧ Fr [] w w1
theorem ringsU (v : Value) (ns : List Nd) (w : World) (hv : NodesAt w v ns) (hB : ns.length + tot ns ≤ 4194304) : Calls Tryz.prog 8 #[v] w (RingsRes ns w) := by
  refine (ringsC v ns w hv hB).mono ?_
  rintro e w1 ⟨hf, ⟨h0, rfl⟩ | ⟨h0, sv, vs, rfl, h1, h2⟩⟩
  · refine ⟨.slice none 0 0, [], rfl, World.ownsRow_nil _ _ _ _, ?_, hf⟩
    unfold ringsL
    rw [if_neg h0]
    exact ⟨rfl, fun i h => by simp at h, List.Pairwise.nil⟩
  · refine ⟨sv, vs, by rw [h0], h1, ?_, hf⟩
    unfold ringsL
    rw [if_pos h0]
    exact h2
theorem made_nd {ns : List Nd} (h : madeE ns = 0) : (atsN ns).Nodup := by
  unfold madeE at h
  split at h
  · omega
  · split at h
    · omega
    · split at h
      · omega
      · rename_i h3
        exact Classical.not_not.1 h3
theorem nodup_subS : ∀ {l m : List Sp}, l.Nodup → (∀ x ∈ l, x ∈ m) → l.length ≤ m.length
  | [], _, _, _ => Nat.zero_le _
  | a :: l, m, hn, h => by
    obtain ⟨h1, h2⟩ := List.nodup_cons.1 hn
    have h3 := nodup_subS (m := m.erase a) h2 fun x hx => (List.mem_erase_of_ne (fun e : x = a => h1 (by rw [← e]; exact hx))).2 (h x (by simp [hx]))
    rw [List.length_erase_of_mem (h a (by simp))] at h3
    have := List.length_pos_of_mem (h a (by simp))
    simp only [List.length_cons]
    omega
theorem asc_len {r : List Sp} (h : r.Pairwise fun x y => ltS x y = true) {m : List Sp} (hm : ∀ s ∈ r, s ∈ m) : r.length ≤ m.length := by
  have hn : r.Nodup := h.imp fun {a b} hab e => by
    subst e
    simp [ltS] at hab
  exact nodup_subS hn hm
theorem ringsL_ok (ns : List Nd) : (∀ r ∈ ringsL ns, 0 < r.length ∧ r.length ≤ ns.length) ∧ (ringsL ns).length ≤ ns.length := by
  unfold ringsL
  split
  · rename_i h0
    have hF := rings_facts (made_nd h0)
    have hal : (atsN ns).length = ns.length := by simp [atsN]
    refine ⟨fun r hr => ⟨List.length_pos_iff.2 (hF.ne r hr), ?_⟩, ?_⟩
    · have := asc_len (hF.asc r hr) (hF.mem r hr)
      omega
    · have h1 : ((ringsOf (gSp ns) (gNx ns)).map hdS).Pairwise fun x y => ltS x y = true := List.pairwise_map.2 hF.heads
      have := asc_len h1 (m := atsN ns) (fun s hs => by
        obtain ⟨r, hr, rfl⟩ := List.mem_map.1 hs
        exact hF.mem r hr _ (hdS_mem (hF.ne r hr)))
      rw [List.length_map] at this
      omega
  · simp
/-- Refused, why; and the order that is told. -/
def ordE (ns : List Nd) : Int := if madeE ns = 0 then (if (orderT (gNx ns)).length < (gSp ns).length then 3 else 0) else madeE ns
def ordL (ns : List Nd) : List Sp := if madeE ns = 0 then (if (orderT (gNx ns)).length < (gSp ns).length then [] else spotsOf (gSp ns) (orderT (gNx ns))) else []
def OrderRes (ns : List Nd) (w : World) (e : Ending) (w1 : World) : Prop := ∃ sv, e = .returned (.tuple #[sv, .int .i64 (ordE ns)]) ∧ w1.ownsRow w.heap.size tSp 2 sv (ordL ns).length ((ordL ns).flatMap spC) ∧ Fr [] w w1
theorem orderU (v : Value) (ns : List Nd) (w : World) (hv : NodesAt w v ns) (hB : ns.length + tot ns ≤ 4194304) : Calls Tryz.prog 11 #[v] w (OrderRes ns w) := by
  refine (orderC v ns w hv hB).mono ?_
  rintro e w1 ⟨hf, ⟨h0, rfl⟩ | ⟨h0, h1, rfl⟩ | ⟨h0, h1, sv, rfl, h2⟩⟩
  · refine ⟨.slice none 0 0, ?_, ?_, hf⟩
    · unfold ordE
      rw [if_neg h0]
    · unfold ordL
      rw [if_neg h0]
      exact World.ownsRow_nil _ _ _ _
  · refine ⟨.slice none 0 0, ?_, ?_, hf⟩
    · unfold ordE
      rw [if_pos h0, if_pos h1]
    · unfold ordL
      rw [if_pos h0, if_pos h1]
      exact World.ownsRow_nil _ _ _ _
  · refine ⟨sv, ?_, ?_, hf⟩
    · unfold ordE
      rw [if_pos h0, if_neg h1]
    · unfold ordL
      rw [if_pos h0, if_neg h1]
      have hl : (spotsOf (gSp ns) (orderT (gNx ns))).length = (orderT (gNx ns)).length := by simp [spotsOf]
      rw [hl]
      exact h2
theorem ordL_ok (ns : List Nd) : (ordL ns).length ≤ ns.length := by
  unfold ordL
  split
  · split
    · simp
    · obtain ⟨k1, _⟩ := orderT_ok (gNx_nd ns)
      have := nodup_lt k1.nodup k1.lt
      rw [gNx_len] at this
      simpa [spotsOf] using this
  · simp
/-- Refused, why; and the leads that are told. -/
def lxOf (l : List Sp) (G : Dg) (v : Nat) : Lx := ⟨l.getD v (0, 0), (leadOf G v).ring, ((leadOf G v).steps : Int), l.getD (leadOf G v).first (0, 0)⟩
open Classical in
def ldE (ns : List Nd) : Int := if madeE ns = 0 then (if ∃ x, x < (gSp ns).length ∧ 1 < (nxs (gNx ns) x).length then 5 else 0) else madeE ns
open Classical in
def ldL (ns : List Nd) : List Lx := if madeE ns = 0 then (if ∃ x, x < (gSp ns).length ∧ 1 < (nxs (gNx ns) x).length then [] else (List.range (gSp ns).length).map (lxOf (gSp ns) (gNx ns))) else []
def LeadsRes (ns : List Nd) (w : World) (e : Ending) (w1 : World) : Prop := ∃ sv, e = .returned (.tuple #[sv, .int .i64 (ldE ns)]) ∧ w1.ownsRow w.heap.size tLd 6 sv (ldL ns).length ((ldL ns).flatMap lxC) ∧ Fr [] w w1
theorem leadsU (v : Value) (ns : List Nd) (w : World) (hv : NodesAt w v ns) (hB : ns.length + tot ns ≤ 4194304) : Calls Tryz.prog 14 #[v] w (LeadsRes ns w) := by
  refine (leadsC' v ns w hv hB).mono ?_
  rintro e w1 ⟨hf, ⟨h0, rfl⟩ | ⟨h0, h1, rfl⟩ | ⟨h0, h1, sv, rfl, h2⟩⟩
  · refine ⟨.slice none 0 0, ?_, ?_, hf⟩
    · unfold ldE
      rw [if_neg h0]
    · unfold ldL
      rw [if_neg h0]
      exact World.ownsRow_nil _ _ _ _
  · refine ⟨.slice none 0 0, ?_, ?_, hf⟩
    · unfold ldE
      rw [if_pos h0, if_pos h1]
    · unfold ldL
      rw [if_pos h0, if_pos h1]
      exact World.ownsRow_nil _ _ _ _
  · have h3 : ¬ ∃ x, x < (gSp ns).length ∧ 1 < (nxs (gNx ns) x).length := fun ⟨x, hx, h⟩ => by have := (h1 x hx).1; omega
    refine ⟨sv, ?_, ?_, hf⟩
    · unfold ldE
      rw [if_pos h0, if_neg h3]
    · unfold ldL
      rw [if_pos h0, if_neg h3]
      have e1 : ((List.range (gSp ns).length).map (lxOf (gSp ns) (gNx ns))).flatMap lxC = leadsC (gSp ns) (gNx ns) := by
        rw [List.flatMap_map]
        rfl
      rw [e1, List.length_map, List.length_range]
      exact h2
theorem ldL_ok (ns : List Nd) : (ldL ns).length ≤ ns.length := by
  unfold ldL
  split
  · split
    · simp
    · rw [List.length_map, List.length_range, gSp_len]
      exact Nat.le_refl _
  · simp
end
/-- Two twins of one list of nodes are told the same. -/
theorem era_E {a b : List Nd} (h : era a = era b) : madeE a = madeE b ∧ ringsL a = ringsL b ∧ ordE a = ordE b ∧ ordL a = ordL b ∧ ldE a = ldE b ∧ ldL a = ldL b := by
  have h1 : madeE a = madeE b := by rw [madeE_era, madeE_era, h]
  have h2 := era_gSp h
  have h3 := era_gNx h
  refine ⟨h1, ?_, ?_, ?_, ?_, ?_⟩
  · unfold ringsL; rw [h1, h2, h3]
  · unfold ordE; rw [h1, h2, h3]
  · unfold ordL; rw [h1, h2, h3]
  · unfold ldE; rw [h1, h2, h3]
  · unfold ldL; rw [h1, h2, h3]
end
section
open Go.RowKit Go.Shelf Go.Sort Go.Proofs

abbrev tRR : TypeId := 32
abbrev tLL : TypeId := 40
theorem infoRR : (Tryz.prog.info? tRR).map (fun i => (i.zero, i.size, i.bytes)) = some (some (.slice none 0 0), 1, 24) := by kernel_rfl
theorem infoLL : (Tryz.prog.info? tLL).map (fun i => (i.zero, i.size, i.bytes)) = some (some (.slice none 0 0), 1, 24) := by kernel_rfl
/-- One call's rings, each written over. -/
def AR (M : List Nat) (kk : Int) (v : Value) (w : World) : Prop := ∃ vs : List Value, w.ownsRow 0 tS 1 v vs.length vs ∧ (∀ g, v.ownBlock = some g → g ∈ M) ∧ ∀ i (h : i < vs.length), w.ownsRow 0 tSp 2 vs[i] 1 [.int .i64 kk, .int .i64 0] ∧ ∀ g, vs[i].ownBlock = some g → g ∈ M
/-- One call's leads, each written over. -/
def AL (M : List Nat) (kk : Int) (v : Value) (w : World) : Prop := ∃ ls : List Lx, w.ownsRow 0 tLd 6 v ls.length (ls.flatMap lxC) ∧ (∀ x ∈ ls, x.steps = kk) ∧ ∀ g, v.ownBlock = some g → g ∈ M
theorem AR.fr {M M' : List Nat} {kk : Int} {v : Value} {w w1 : World} (h : AR M kk v w) {S : List Nat} (hf : Fr S w w1) (hS : ∀ b ∈ S, b ∉ M) (hM : ∀ b ∈ M, b ∈ M') : AR M' kk v w1 := by
  obtain ⟨vs, h1, h2, h3⟩ := h
  exact ⟨vs, owns_fr h1 hf (fun k hk hm => hS k hm (h2 k hk)), fun g hg => hM g (h2 g hg), fun i hi => ⟨owns_fr (h3 i hi).1 hf (fun k hk hm => hS k hm ((h3 i hi).2 k hk)), fun g hg => hM g ((h3 i hi).2 g hg)⟩⟩
theorem AL.fr {M M' : List Nat} {kk : Int} {v : Value} {w w1 : World} (h : AL M kk v w) {S : List Nat} (hf : Fr S w w1) (hS : ∀ b ∈ S, b ∉ M) (hM : ∀ b ∈ M, b ∈ M') : AL M' kk v w1 := by
  obtain ⟨ls, h1, h2, h3⟩ := h
  exact ⟨ls, owns_fr h1 hf (fun k hk hm => hS k hm (h3 k hk)), h2, fun g hg => hM g (h3 g hg)⟩
/-- All that was told ahead; M: its blocks. -/
structure AA (M : List Nat) (av tv : Value) (us ts : List Value) (w : World) : Prop where
  a : w.ownsRow 0 tRR 1 av us.length us
  t : w.ownsRow 0 tLL 1 tv ts.length ts
  aM : ∀ g, av.ownBlock = some g → g ∈ M
  tM : ∀ g, tv.ownBlock = some g → g ∈ M
  el : ∀ i (h : i < us.length), AR M (-7 - (i : Int)) us[i] w
  tl : ∀ i (h : i < ts.length), AL M (-7 - (i : Int)) ts[i] w
  lt : ∀ b ∈ M, b < w.heap.size
theorem AA.fr {M : List Nat} {av tv : Value} {us ts : List Value} {w w1 : World} (h : AA M av tv us ts w) {S : List Nat} (hf : Fr S w w1) (hS : ∀ b ∈ S, b ∉ M) : AA M av tv us ts w1 :=
  ⟨owns_fr h.a hf (fun k hk hm => hS k hm (h.aM k hk)), owns_fr h.t hf (fun k hk hm => hS k hm (h.tM k hk)), h.aM, h.tM, fun i hi => (h.el i hi).fr hf hS (fun _ hb => hb), fun i hi => (h.tl i hi).fr hf hS (fun _ hb => hb), fun b hb => Nat.lt_of_lt_of_le (h.lt b hb) hf.size⟩
/-- What stays as long as no block of X is turned. -/
def Stb (X : List Nat) (F : World → Prop) : Prop := ∀ (w w1 : World) (S : List Nat), Fr S w w1 → (∀ b ∈ S, b ∉ X) → F w → F w1
/-- What is known ahead of the rings' taking. -/
structure TIn (w0 wm : World) (X : List Nat) (F : World → Prop) (vs : List Value) (R : List (List Sp)) : Prop where
  st : Stb X F
  xlt : ∀ b ∈ X, b < wm.heap.size
  len : vs.length = R.length
  vX : ∀ i (h : i < vs.length), ∀ g, vs[i].ownBlock = some g → g ∉ X ∧ w0.heap.size ≤ g
  sep : vs.Pairwise fun a b => ∀ g, a.ownBlock = some g → b.ownBlock ≠ some g
  sm : ∀ r ∈ R, r.length ≤ 4194304
/-- The first j rings are taken. -/
structure TI (w0 wm : World) (X : List Nat) (F : World → Prop) (vs : List Value) (R : List (List Sp)) (Bk E j : Nat) (K : List Nat) (es : List (Value × Nat)) (lv nv : Value) (sz : Int) (w : World) : Prop where
  book : BookIn Bk K es lv nv sz w
  f : F w
  xk : ∀ b ∈ X, b ∉ K
  len : es.length ≤ E + j
  k0 : ∀ b ∈ K, w0.heap.size ≤ b
  fr : Fr [] w0 w
  sz' : wm.heap.size ≤ w.heap.size
  el : ∀ i (h : i < vs.length) (h2 : i < R.length), j ≤ i → w.ownsRow 0 tSp 2 vs[i] R[i].length (R[i].flatMap spC) ∧ ∀ g, vs[i].ownBlock = some g → g ∉ K
theorem TI.fr0 {w0 wm : World} {X : List Nat} {F : World → Prop} {vs : List Value} {R : List (List Sp)} {Bk E j : Nat} {K : List Nat} {es : List (Value × Nat)} {lv nv : Value} {sz : Int} {w w1 : World} (hT : TIn w0 wm X F vs R) (h : TI w0 wm X F vs R Bk E j K es lv nv sz w) (hf : Fr [] w w1) : TI w0 wm X F vs R Bk E j K es lv nv sz w1 :=
  ⟨h.book.fr hf (by simp), hT.st w w1 [] hf (by simp) h.f, h.xk, h.len, h.k0, h.fr.trans0 hf, Nat.le_trans h.sz' hf.size, fun i h1 h2 hij => ⟨owns_fr (h.el i h1 h2 hij).1 hf (by simp), (h.el i h1 h2 hij).2⟩⟩
theorem TI.step {w0 wm : World} {X : List Nat} {F : World → Prop} {vs : List Value} {R : List (List Sp)} {Bk E j : Nat} {K : List Nat} {es : List (Value × Nat)} {lv nv : Value} {sz : Int} {w w1 : World} {e : Ending} (hT : TIn w0 wm X F vs R) (h : TI w0 wm X F vs R Bk E j K es lv nv sz w) (hj : j < vs.length) {r : List Sp} (hp : TakePost Bk K es vs[j] r.length w e w1) :
    e = .returned (.tuple #[]) ∧ ∃ K' es' lv' nv' sz', TI w0 wm X F vs R Bk E (j + 1) K' es' lv' nv' sz' w1 := by
  obtain ⟨he, hf, K', es', lv', nv', sz', hB, hes, hK⟩ := hp
  have hS : ∀ b ∈ K ++ vs[j].ownBlock.toList, b ∉ X := fun b hb hx => by
    rcases List.mem_append.1 hb with hb | hb
    · exact h.xk b hx hb
    · exact (hT.vX j hj b (by simpa using hb)).1 hx
  have hsep : ∀ i (hi : i < vs.length), j < i → ∀ g, vs[i].ownBlock = some g → vs[j].ownBlock ≠ some g := fun i hi hij g hg hg2 => List.pairwise_iff_getElem.1 hT.sep j i hj hi hij g hg2 hg
  refine ⟨he, K', es', lv', nv', sz', hB, hT.st _ _ _ hf hS h.f, fun b hb hk => ?_, ?_, fun b hb => ?_, h.fr.trans hf fun x hx => .inr ?_, Nat.le_trans h.sz' hf.size, fun i h1 h2 hij => ?_⟩
  · rcases hK b hk with hk | hk | hk
    · exact h.xk b hb hk
    · exact (hT.vX j hj b hk).1 hb
    · have := hT.xlt b hb
      have := h.sz'
      omega
  · have := h.len
    rcases hes with rfl | rfl
    · omega
    · simp
      omega
  · rcases hK b hb with hk | hk | hk
    · exact h.k0 b hk
    · exact (hT.vX j hj b hk).2
    · exact Nat.le_trans h.fr.size hk
  · rcases List.mem_append.1 hx with hx | hx
    · exact h.k0 x hx
    · exact (hT.vX j hj x (by simpa using hx)).2
  · obtain ⟨h3, h4⟩ := h.el i h1 h2 (by omega)
    refine ⟨owns_fr h3 hf fun k hk hm => ?_, fun g hg hk => ?_⟩
    · rcases List.mem_append.1 hm with hm | hm
      · exact h4 k hk hm
      · exact hsep i h1 (by omega) k hk (by simpa using hm)
    · rcases hK g hk with hk | hk | hk
      · exact h4 g hg hk
      · exact hsep i h1 (by omega) g hg hk
      · have := (h3.lt g hg).2
        omega
/-- A row of rings while it is written over; G: where it lay. -/
structure RG (w7 : World) (G : List Nat) (kk : Int) (i : Nat) (v : Value) (us : List Value) (w : World) : Prop where
  row : w.ownsRow 0 tS 1 v us.length us
  el : ∀ j (h : j < us.length), j < i → w.ownsRow 0 tSp 2 us[j] 1 [.int .i64 kk, .int .i64 0] ∧ ∀ g, us[j].ownBlock = some g → w7.heap.size ≤ g
  blk : ∀ g, v.ownBlock = some g → g ∈ G ∨ w7.heap.size ≤ g
  f : Fr G w7 w
theorem RG.put {w7 w : World} {G : List Nat} {kk : Int} {i g c : Nat} {us : List Value} (h : RG w7 G kk i (.slice (some ⟨g, 0, none⟩) us.length c) us w) (_hi : i < us.length) :
    RG w7 G kk (i + 1) (.slice (some ⟨g, 0, none⟩) us.length c) (us.set i (.slice (some ⟨w.heap.size, 0, none⟩) 1 1)) ((w.alloc (.cells #[.int .i64 kk, .int .i64 0] tSp)).setCell ⟨g, i, none⟩ (.slice (some ⟨w.heap.size, 0, none⟩) 1 1)) := by
  have hr := h.row.alloc (.cells #[.int .i64 kk, .int .i64 0] tSp)
  have hfa : Fr [] w (w.alloc (.cells #[.int .i64 kk, .int .i64 0] tSp)) := (Fr.refl [] w).alloc _
  have hS : Fr [g] (w.alloc (.cells #[.int .i64 kk, .int .i64 0] tSp)) ((w.alloc (.cells #[.int .i64 kk, .int .i64 0] tSp)).setCell ⟨g, i, none⟩ (.slice (some ⟨w.heap.size, 0, none⟩) 1 1)) := fr_cell _ _ _ _
  have hgl := (h.row.lt g rfl).2
  refine ⟨by have := (hr.stored i (.slice (some ⟨w.heap.size, 0, none⟩) 1 1)).1; rw [List.length_set]; exact this, fun j hj hji => ?_, h.blk, (h.f.trans0 hfa).trans hS fun x hx => ?_⟩
  · rw [List.length_set] at hj
    by_cases hij : i = j
    · subst hij
      rw [List.getElem_set_self]
      refine ⟨⟨rfl, .inr ⟨w.heap.size, 1, #[.int .i64 kk, .int .i64 0], rfl, Nat.zero_le _, ?_, Nat.le_refl _, by decide, rfl, rfl⟩⟩, fun g' hg' => ?_⟩
      · exact hS.heap (heap_new w _) (by simp; omega)
      · cases hg'
        exact h.f.size
    · rw [List.getElem_set_ne hij]
      obtain ⟨h1, h2⟩ := h.el j hj (by omega)
      exact ⟨owns_fr (owns_fr h1 hfa (by simp)) hS (fun k hk hm => own_not (owns_fr h1 hfa (by simp)) hr (by decide) k hk (by simpa [Value.ownBlock] using hm)), h2⟩
  · rw [List.mem_singleton] at hx
    rw [hx]
    exact h.blk g rfl
theorem RG.push {w7 w wa w9 : World} {G : List Nat} {kk : Int} {v x : Value} {us : List Value} {g c H : Nat} (h : RG w7 G kk us.length v us w) (hx : x = .slice (some ⟨w.heap.size, 0, none⟩) 1 1)
    (hwa : wa = (w.alloc (.cells #[.int .i64 kk, .int .i64 0] tSp)).alloc (.cells #[x] tS)) (ho : w9.ownsRow 0 tS 1 (.slice (some ⟨g, 0, none⟩) (us.length + 1) c) (us.length + 1) (us ++ [x])) (hg : wa.grownBy w9 v.ownBlock) (hat : v.ownBlock = some g ∨ g = H) (hH : w.heap.size ≤ H) :
    RG w7 G kk (us ++ [x]).length (.slice (some ⟨g, 0, none⟩) (us.length + 1) c) (us ++ [x]) w9 := by
  have hfa : Fr [] w wa := by
    rw [hwa]
    exact ((Fr.refl [] w).alloc _).alloc _
  have hr := owns_fr h.row hfa (by simp)
  have hnew : wa.heap[w.heap.size]? = some (.cells #[.int .i64 kk, .int .i64 0] tSp (0, 0)) := by
    rw [hwa]
    exact ((Fr.refl [] _).alloc _).heap (heap_new w _) (by simp)
  have hG : Fr v.ownBlock.toList wa w9 := fr_grown hg
  refine ⟨by simpa using ho, fun j hj hji => ?_, fun g' hg' => ?_, (h.f.trans0 hfa).trans hG fun y hy => ?_⟩
  · by_cases hjl : j < us.length
    · rw [List.getElem_append_left hjl]
      obtain ⟨h1, h2⟩ := h.el j hjl hjl
      exact ⟨owns_fr (owns_fr h1 hfa (by simp)) hG (own_not (owns_fr h1 hfa (by simp)) hr (by decide)), h2⟩
    · have e1 : j = us.length := by simp at hj; omega
      subst e1
      rw [List.getElem_concat_length rfl, hx]
      refine ⟨⟨rfl, .inr ⟨w.heap.size, 1, #[.int .i64 kk, .int .i64 0], rfl, Nat.zero_le _, hG.heap hnew (fun hm => ?_), Nat.le_refl _, by decide, rfl, rfl⟩⟩, fun g' hg' => ?_⟩
      · have := (h.row.lt _ (by simpa using hm)).2
        omega
      · cases hg'
        exact h.f.size
  · cases hg'
    rcases hat with h1 | h1
    · exact h.blk g h1
    · exact .inr (show w7.heap.size ≤ g by have := h.f.size; omega)
  · exact h.blk y (by simpa using hy)
/-- A row of leads while it is written over. -/
structure DG (w7 : World) (G : List Nat) (kk : Int) (i : Nat) (v : Value) (ls : List Lx) (w : World) : Prop where
  row : w.ownsRow 0 tLd 6 v ls.length (ls.flatMap lxC)
  el : ∀ j (h : j < ls.length), j < i → ls[j].steps = kk
  blk : ∀ g, v.ownBlock = some g → g ∈ G ∨ w7.heap.size ≤ g
  f : Fr G w7 w
abbrev lx0 (kk : Int) : Lx := ⟨(0, 0), false, kk, (0, 0)⟩
theorem lx_set : ∀ (l : List Lx) (k : Nat) (_ : k < l.length) (y : Lx), ((((((l.flatMap lxC).set (k * 6) (.int .i64 y.at_.1)).set (k * 6 + 1) (.int .i64 y.at_.2)).set (k * 6 + 2) (.bool y.ring)).set (k * 6 + 3) (.int .i64 y.steps)).set (k * 6 + 4) (.int .i64 y.first.1)).set (k * 6 + 5) (.int .i64 y.first.2) = (l.set k y).flatMap lxC
  | [], k, hk, _ => by simp at hk
  | x :: l, 0, _, y => rfl
  | x :: l, k + 1, hk, y => by
    have ih := lx_set l k (by simpa using hk) y
    rw [show (k + 1) * 6 + 1 = k * 6 + 1 + 6 by omega, show (k + 1) * 6 + 2 = k * 6 + 2 + 6 by omega, show (k + 1) * 6 + 3 = k * 6 + 3 + 6 by omega, show (k + 1) * 6 + 4 = k * 6 + 4 + 6 by omega, show (k + 1) * 6 + 5 = k * 6 + 5 + 6 by omega, show (k + 1) * 6 = k * 6 + 6 by omega]
    show _ :: _ :: _ :: _ :: _ :: _ :: (((((((l.flatMap lxC).set (k * 6) (.int .i64 y.at_.1)).set (k * 6 + 1) (.int .i64 y.at_.2)).set (k * 6 + 2) (.bool y.ring)).set (k * 6 + 3) (.int .i64 y.steps)).set (k * 6 + 4) (.int .i64 y.first.1)).set (k * 6 + 5) (.int .i64 y.first.2)) = _ :: _ :: _ :: _ :: _ :: _ :: ((l.set k y).flatMap lxC)
    rw [ih]
abbrev sixC (w : World) (g o : Nat) (kk : Int) : World := (((((w.setCell ⟨g, o, none⟩ (.int .i64 0)).setCell ⟨g, o + 1, none⟩ (.int .i64 0)).setCell ⟨g, o + 2, none⟩ (.bool false)).setCell ⟨g, o + 3, none⟩ (.int .i64 kk)).setCell ⟨g, o + 4, none⟩ (.int .i64 0)).setCell ⟨g, o + 5, none⟩ (.int .i64 0)
theorem DG.put {w7 w : World} {G : List Nat} {kk : Int} {i g c : Nat} {ls : List Lx} (h : DG w7 G kk i (.slice (some ⟨g, 0, none⟩) ls.length c) ls w) (hi : i < ls.length) : DG w7 G kk (i + 1) (.slice (some ⟨g, 0, none⟩) ls.length c) (ls.set i (lx0 kk)) (sixC w g (i * 6) kk) := by
  obtain ⟨s1, _⟩ := h.row.stored (i * 6) (.int .i64 0)
  obtain ⟨s2, _⟩ := s1.stored (i * 6 + 1) (.int .i64 0)
  obtain ⟨s3, _⟩ := s2.stored (i * 6 + 2) (.bool false)
  obtain ⟨s4, _⟩ := s3.stored (i * 6 + 3) (.int .i64 kk)
  obtain ⟨s5, _⟩ := s4.stored (i * 6 + 4) (.int .i64 0)
  obtain ⟨s6, _⟩ := s5.stored (i * 6 + 5) (.int .i64 0)
  have hset := lx_set ls i hi (lx0 kk)
  rw [hset] at s6
  have hg : ∀ b, b = g → b ∈ G ∨ w7.heap.size ≤ b := fun b e => by rw [e]; exact h.blk g rfl
  refine ⟨by rw [List.length_set]; exact s6, fun j hj hji => ?_, h.blk, (((((h.f.setCell (hg g rfl) _).setCell (hg g rfl) _).setCell (hg g rfl) _).setCell (hg g rfl) _).setCell (hg g rfl) _).setCell (hg g rfl) _⟩
  rw [List.length_set] at hj
  by_cases hij : i = j
  · subst hij
    rw [List.getElem_set_self]
  · rw [List.getElem_set_ne hij]
    exact h.el j hj (by omega)
theorem DG.push {w7 w wa w9 : World} {G : List Nat} {kk : Int} {v : Value} {ls : List Lx} {g c H : Nat} (h : DG w7 G kk ls.length v ls w) (hfa : Fr [] w wa)
    (ho : w9.ownsRow 0 tLd 6 (.slice (some ⟨g, 0, none⟩) (ls.length + 1) c) (ls.length + 1) (ls.flatMap lxC ++ lxC (lx0 kk))) (hg : wa.grownBy w9 v.ownBlock) (hat : v.ownBlock = some g ∨ g = H) (hH : w.heap.size ≤ H) :
    DG w7 G kk (ls ++ [lx0 kk]).length (.slice (some ⟨g, 0, none⟩) (ls.length + 1) c) (ls ++ [lx0 kk]) w9 := by
  refine ⟨by simpa using ho, fun j hj _ => ?_, fun g' hg' => ?_, (h.f.trans0 hfa).trans (fr_grown hg) fun y hy => h.blk y (by simpa using hy)⟩
  · by_cases hjl : j < ls.length
    · rw [List.getElem_append_left hjl]
      exact h.el j hjl hjl
    · have e1 : j = ls.length := by simp at hj; omega
      subst e1
      rw [List.getElem_concat_length rfl]
  · cases hg'
    rcases hat with h1 | h1
    · exact h.blk g h1
    · exact .inr (show w7.heap.size ≤ g by have := h.f.size; omega)
/-- append(nil, row..): a copy of it. -/
theorem wpList_copyNil {P : Program} {w : World} {ops : Array Oper} {rest : List Oper} {o : Oper} {a : Act} {Q : Exit → Act → World → Prop} (hgd : o.guard = none) (x : Operand) (t : TypeId)
    (ho : o.op = .call { callee := .builtin .append, args := #[.const (.slice none 0 0), x], argTypes := #[t, t] })
    (e : TypeId) (i : TypeInfo) (z : Value) (size bytes : Nat) (ht : P.underlying t = some (.slice e)) (hi : P.info? e = some i) (hz : i.zero = some z) (hsize : i.size = size) (hby : i.bytes = bytes) (hzs : z.cells.size = size) (hsz : 0 < size)
    {v : Value} {n : Nat} {xs : List Value} (hx : a.eval x = v) (hv : SlAt w v size n xs) (hnil : ∀ q c, (Builtin.append_ #[t, t] o.type #[.slice none 0 0, .slice q 0 c]).run P w = .ok (.slice none 0 0) w)
    (h1 : ∀ u ∈ xs, u.oneCell' = true) (hn : n ≤ 4194304) (hby2 : bytes ≤ 4096)
    (h : ∀ v' w', w'.ownsRow w.heap.size e size v' n xs → Fr [] w w' → wpList P ops Q rest (a.put o.dst v') w') : wpList P ops Q (o :: rest) a w := by
  obtain ⟨q, c, rfl, _, _⟩ := hv.form
  rcases Nat.eq_zero_or_pos n with h0 | h0
  · subst h0
    have hxs : xs = [] := List.eq_nil_of_length_eq_zero (by simpa using hv.1)
    subst hxs
    refine wpList_plain hgd fun K hK => ?_
    have hc : a.eval (.const (.slice none 0 0)) = .slice none 0 0 := rfl
    unfold Oper.wp execOp
    simp only [ho, resolve, invoke, builtin, Sem.run_bind, Sem.run_pure, Result.andThen_ok, List.map_toArray, List.map_cons, List.map_nil, hc, hx, hnil]
    exact hK _ _ (h _ _ (World.ownsRow_nil _ _ _ _) (Fr.refl _ _))
  · obtain ⟨b, off, _, e1, hb, hc⟩ := hv.cell h0
    cases e1
    have hbb : n * bytes ≤ 4194304 * 4096 := Nat.mul_le_mul hn hby2
    refine wpList_append_lies w hgd (.const (.slice none 0 0)) x t ho w.heap.size e i z size bytes ht hi hz hsize hby hzs hsz (.slice none 0 0) 0 [] rfl (World.ownsRow_nil _ _ _ _) ⟨b, off, none⟩ n c xs hx hv.1 ?_ h1 h0 (by unfold maxLen; omega) (by rw [Nat.zero_add]; omega) (Nat.le_refl _) w.heap.size rfl ?_
    · intro j u hj
      have ea : (⟨b, off, none⟩ : Addr).add j = ⟨b, off + j, none⟩ := by
        unfold Addr.add
        split
        · rename_i h0; subst h0; rfl
        · rfl
      rw [ea]
      exact hc j u hj
    · intro g cap w' hown hg _ _
      have := h (.slice (some ⟨g, 0, none⟩) (0 + n) cap) w' (by simpa using hown) ((Fr.refl [] w).grown hg (fun k hk => by cases hk))
      exact this
end
section
open Go.RowKit Go.Shelf Go.Sort Go.Proofs

theorem AR.frO {M : List Nat} {kk : Int} {v : Value} {w w1 : World} (h : AR M kk v w) {B : Nat} {e : TypeId} {size n : Nat} {u : Value} {xs : List Value} (ho : w.ownsRow B e size u n xs) (h1 : tS ≠ e) (h2 : tSp ≠ e) (hf : Fr u.ownBlock.toList w w1) : AR M kk v w1 := by
  obtain ⟨vs, g1, g2, g3⟩ := h
  exact ⟨vs, owns_fr g1 hf (own_not g1 ho h1), g2, fun i hi => ⟨owns_fr (g3 i hi).1 hf (own_not (g3 i hi).1 ho h2), (g3 i hi).2⟩⟩
theorem AL.frO {M : List Nat} {kk : Int} {v : Value} {w w1 : World} (h : AL M kk v w) {B : Nat} {e : TypeId} {size n : Nat} {u : Value} {xs : List Value} (ho : w.ownsRow B e size u n xs) (h1 : tLd ≠ e) (hf : Fr u.ownBlock.toList w w1) : AL M kk v w1 := by
  obtain ⟨ls, g1, g2, g3⟩ := h
  exact ⟨ls, owns_fr g1 hf (own_not g1 ho h1), g2, g3⟩
theorem AR.mono {M M' : List Nat} {kk : Int} {v : Value} {w : World} (h : AR M kk v w) (hM : ∀ b ∈ M, b ∈ M') : AR M' kk v w := h.fr (Fr.refl [] w) (by simp) hM
theorem AL.mono {M M' : List Nat} {kk : Int} {v : Value} {w : World} (h : AL M kk v w) (hM : ∀ b ∈ M, b ∈ M') : AL M' kk v w := h.fr (Fr.refl [] w) (by simp) hM
theorem AA.pushA {M M2 : List Nat} {av tv x : Value} {us ts : List Value} {w wa w9 : World} {g c : Nat} (h : AA M av tv us ts w) (hx : AR M2 (-7 - (us.length : Int)) x w) (hM2 : ∀ b ∈ M2, b < w.heap.size) (hfa : Fr [] w wa)
    (ho : w9.ownsRow 0 tRR 1 (.slice (some ⟨g, 0, none⟩) (us.length + 1) c) (us.length + 1) (us ++ [x])) (hg : wa.grownBy w9 av.ownBlock) :
    AA (M ++ (M2 ++ [g])) (.slice (some ⟨g, 0, none⟩) (us.length + 1) c) tv (us ++ [x]) ts w9 := by
  have ha := owns_fr h.a hfa (by simp)
  have hG : Fr av.ownBlock.toList wa w9 := fr_grown hg
  have hsz : w.heap.size ≤ w9.heap.size := Nat.le_trans hfa.size hG.size
  refine ⟨by simpa using ho, owns_fr (owns_fr h.t hfa (by simp)) hG (own_not (owns_fr h.t hfa (by simp)) ha (by decide)), fun g' hg' => ?_, fun g' hg' => List.mem_append_left _ (h.tM g' hg'), fun i hi => ?_, fun i hi => ?_, fun b hb => ?_⟩
  · cases hg'
    simp
  · by_cases hil : i < us.length
    · rw [List.getElem_append_left hil]
      exact (((h.el i hil).fr hfa (by simp) (fun _ hb => hb)).frO ha (by decide) (by decide) hG).mono fun b hb => List.mem_append_left _ hb
    · have e1 : i = us.length := by simp at hi; omega
      subst e1
      rw [List.getElem_concat_length rfl]
      exact ((hx.fr hfa (by simp) (fun _ hb => hb)).frO ha (by decide) (by decide) hG).mono fun b hb => List.mem_append_right _ (List.mem_append_left _ hb)
  · exact (((h.tl i hi).fr hfa (by simp) (fun _ hb => hb)).frO ha (by decide) hG).mono fun b hb => List.mem_append_left _ hb
  · rcases List.mem_append.1 hb with hb | hb
    · have := h.lt b hb
      omega
    · rcases List.mem_append.1 hb with hb | hb
      · have := hM2 b hb
        omega
      · rw [List.mem_singleton] at hb
        rw [hb]
        exact (ho.lt g rfl).2
theorem AA.pushT {M M2 : List Nat} {av tv x : Value} {us ts : List Value} {w wa w9 : World} {g c : Nat} (h : AA M av tv us ts w) (hx : AL M2 (-7 - (ts.length : Int)) x w) (hM2 : ∀ b ∈ M2, b < w.heap.size) (hfa : Fr [] w wa)
    (ho : w9.ownsRow 0 tLL 1 (.slice (some ⟨g, 0, none⟩) (ts.length + 1) c) (ts.length + 1) (ts ++ [x])) (hg : wa.grownBy w9 tv.ownBlock) :
    AA (M ++ (M2 ++ [g])) av (.slice (some ⟨g, 0, none⟩) (ts.length + 1) c) us (ts ++ [x]) w9 := by
  have ha := owns_fr h.t hfa (by simp)
  have hG : Fr tv.ownBlock.toList wa w9 := fr_grown hg
  have hsz : w.heap.size ≤ w9.heap.size := Nat.le_trans hfa.size hG.size
  refine ⟨owns_fr (owns_fr h.a hfa (by simp)) hG (own_not (owns_fr h.a hfa (by simp)) ha (by decide)), by simpa using ho, fun g' hg' => List.mem_append_left _ (h.aM g' hg'), fun g' hg' => ?_, fun i hi => ?_, fun i hi => ?_, fun b hb => ?_⟩
  · cases hg'
    simp
  · exact (((h.el i hi).fr hfa (by simp) (fun _ hb => hb)).frO ha (by decide) (by decide) hG).mono fun b hb => List.mem_append_left _ hb
  · by_cases hil : i < ts.length
    · rw [List.getElem_append_left hil]
      exact (((h.tl i hil).fr hfa (by simp) (fun _ hb => hb)).frO ha (by decide) hG).mono fun b hb => List.mem_append_left _ hb
    · have e1 : i = ts.length := by simp at hi; omega
      subst e1
      rw [List.getElem_concat_length rfl]
      exact ((hx.fr hfa (by simp) (fun _ hb => hb)).frO ha (by decide) hG).mono fun b hb => List.mem_append_right _ (List.mem_append_left _ hb)
  · rcases List.mem_append.1 hb with hb | hb
    · have := h.lt b hb
      omega
    · rcases List.mem_append.1 hb with hb | hb
      · have := hM2 b hb
        omega
      · rw [List.mem_singleton] at hb
        rw [hb]
        exact (ho.lt g rfl).2
/-- What holds between two rounds. -/
structure LJ (w0 : World) (Bk k : Nat) (K : List Nat) (es : List (Value × Nat)) (lv nv : Value) (sz : Int) (M : List Nat) (av tv : Value) (us ts : List Value) (w : World) : Prop where
  book : BookIn Bk K es lv nv sz w
  aa : AA M av tv us ts w
  ul : us.length = k
  tl : ts.length = k
  k0 : ∀ b ∈ K, w0.heap.size ≤ b
  m0 : ∀ b ∈ M, w0.heap.size ≤ b
  apart : ∀ b ∈ M, b ∉ K
  len : es.length ≤ 3001 * k
  fr : Fr [] w0 w
def LI (w0 : World) (Bk k : Nat) (av tv : Value) (w : World) : Prop := ∃ K es lv nv sz M us ts, LJ w0 Bk k K es lv nv sz M av tv us ts w
theorem LJ.fr0 {w0 : World} {Bk k : Nat} {K : List Nat} {es : List (Value × Nat)} {lv nv : Value} {sz : Int} {M : List Nat} {av tv : Value} {us ts : List Value} {w w1 : World} (h : LJ w0 Bk k K es lv nv sz M av tv us ts w) (hf : Fr [] w w1) : LJ w0 Bk k K es lv nv sz M av tv us ts w1 :=
  ⟨h.book.fr hf (by simp), h.aa.fr hf (by simp), h.ul, h.tl, h.k0, h.m0, h.apart, h.len, h.fr.trans0 hf⟩
/-- Behind the comparing: what the takings must leave. -/
def F2 (M : List Nat) (av tv : Value) (us ts : List Value) (rv dv : Value) (vs : List Value) (D : List Lx) (w : World) : Prop := AA M av tv us ts w ∧ w.ownsRow 0 tS 1 rv vs.length vs ∧ w.ownsRow 0 tLd 6 dv D.length (D.flatMap lxC)
abbrev X2 (M : List Nat) (rv dv : Value) : List Nat := M ++ (rv.ownBlock.toList ++ dv.ownBlock.toList)
theorem F2_stb (M : List Nat) (av tv : Value) (us ts : List Value) (rv dv : Value) (vs : List Value) (D : List Lx) : Stb (X2 M rv dv) (F2 M av tv us ts rv dv vs D) := fun w w1 S hf hS ⟨h1, h2, h3⟩ =>
  ⟨h1.fr hf (fun b hb hm => hS b hb (List.mem_append_left _ hm)), owns_fr h2 hf (fun k hk hm => hS k hm (List.mem_append_right _ (List.mem_append_left _ (by simpa using hk)))), owns_fr h3 hf (fun k hk hm => hS k hm (List.mem_append_right _ (List.mem_append_right _ (by simpa using hk))))⟩
def F1 (M : List Nat) (av tv : Value) (us ts : List Value) (rv dv : Value) (vs : List Value) (D : List Lx) (ov : Value) (O : List Sp) (w : World) : Prop := F2 M av tv us ts rv dv vs D w ∧ w.ownsRow 0 tSp 2 ov O.length (O.flatMap spC)
abbrev X1 (M : List Nat) (rv dv ov : Value) : List Nat := X2 M rv dv ++ ov.ownBlock.toList
theorem F1_stb (M : List Nat) (av tv : Value) (us ts : List Value) (rv dv : Value) (vs : List Value) (D : List Lx) (ov : Value) (O : List Sp) : Stb (X1 M rv dv ov) (F1 M av tv us ts rv dv vs D ov O) := fun w w1 S hf hS ⟨h1, h2⟩ =>
  ⟨F2_stb M av tv us ts rv dv vs D w w1 S hf (fun b hb hm => hS b hb (List.mem_append_left _ hm)) h1, owns_fr h2 hf (fun k hk hm => hS k hm (List.mem_append_right _ (by simpa using hk)))⟩
/-- Ahead of the rings' taking. -/
theorem take_begin {w0 wr w w2 w3 w4 wm : World} {Bk k : Nat} {K : List Nat} {es : List (Value × Nat)} {lv nv : Value} {sz : Int} {M : List Nat} {av tv : Value} {us ts : List Value} {rv dv ov : Value} {vs : List Value} {R : List (List Sp)} {D : List Lx} {O : List Sp}
    (h : LJ w0 Bk k K es lv nv sz M av tv us ts wr) (hw : Fr [] wr w) (hr : w2.ownsRow w.heap.size tS 1 rv vs.length vs) (ht : Told w.heap.size w2 vs R) (hw2 : Fr [] w w2) (h23 : Fr [] w2 w3) (ho : w3.ownsRow w2.heap.size tSp 2 ov O.length (O.flatMap spC)) (h34 : Fr [] w3 w4) (hd : w4.ownsRow w3.heap.size tLd 6 dv D.length (D.flatMap lxC)) (h4 : Fr [] w4 wm) (hf : Fr [] wr wm) (hR : ∀ r ∈ R, r.length ≤ 4194304) :
    TIn w0 wm (X1 M rv dv ov) (F1 M av tv us ts rv dv vs D ov O) vs R ∧ TI w0 wm (X1 M rv dv ov) (F1 M av tv us ts rv dv vs D ov O) vs R Bk (3001 * k) 0 K es lv nv sz wm ∧ (∀ g, ov.ownBlock = some g → g ∉ X2 M rv dv ∧ w0.heap.size ≤ g) ∧ ∀ b ∈ X2 M rv dv, w0.heap.size ≤ b := by
  have hrw := owns_fr hr (h23.trans0 (h34.trans0 h4)) (by simp)
  have how := owns_fr ho (h34.trans0 h4) (by simp)
  have hdw := owns_fr hd h4 (by simp)
  have hs1 := hw.size
  have hs2 := h.fr.size
  have rB : ∀ g, rv.ownBlock = some g → w.heap.size ≤ g ∧ g < wm.heap.size := fun g hg => hrw.lt g hg
  have oB : ∀ g, ov.ownBlock = some g → w2.heap.size ≤ g ∧ g < wm.heap.size := fun g hg => how.lt g hg
  have dB : ∀ g, dv.ownBlock = some g → w3.heap.size ≤ g ∧ g < wm.heap.size := fun g hg => hdw.lt g hg
  have vB : ∀ i (hi : i < vs.length), ∀ g, vs[i].ownBlock = some g → w.heap.size ≤ g ∧ g < w2.heap.size := fun i hi g hg => (ht.at' i hi (by rw [← ht.len]; exact hi)).lt g hg
  have hs23 := h23.size
  have hs12 := hw2.size
  have hlw : ∀ b ∈ K, b < wr.heap.size := h.book.lt
  have hlm : ∀ b ∈ M, b < wr.heap.size := h.aa.lt
  refine ⟨⟨F1_stb _ _ _ _ _ _ _ _ _ _ _, fun b hb => ?_, ht.len, fun i hi g hg => ⟨fun hx => ?_, ?_⟩, ht.sep, hR⟩, ⟨h.book.fr hf (by simp), ⟨⟨h.aa.fr hf (by simp), owns_mono hrw (Nat.zero_le _), owns_mono hdw (Nat.zero_le _)⟩, owns_mono how (Nat.zero_le _)⟩, fun b hb hk => ?_, by have := h.len; omega, h.k0, h.fr.trans0 hf, Nat.le_refl _, fun i h1 h2 _ => ⟨owns_mono (owns_fr (ht.at' i h1 h2) (h23.trans0 (h34.trans0 h4)) (by simp)) (Nat.zero_le _), fun g hg hk => ?_⟩⟩, fun g hg => ⟨fun hx => ?_, ?_⟩, fun b hb => ?_⟩
  · rcases List.mem_append.1 hb with hb | hb
    · rcases List.mem_append.1 hb with hb | hb
      · have := hlm b hb
        have := hf.size
        omega
      · rcases List.mem_append.1 hb with hb | hb
        · exact (rB b (by simpa using hb)).2
        · exact (dB b (by simpa using hb)).2
    · exact (oB b (by simpa using hb)).2
  · have h1 := vB i hi g hg
    rcases List.mem_append.1 hx with hb | hb
    · rcases List.mem_append.1 hb with hb | hb
      · have := hlm g hb
        omega
      · rcases List.mem_append.1 hb with hb | hb
        · exact own_not (ht.at' i hi (by rw [← ht.len]; exact hi)) hr (by decide) g hg hb
        · have := (dB g (by simpa using hb)).1
          omega
    · have := (oB g (by simpa using hb)).1
      omega
  · have := (vB i hi g hg).1
    omega
  · have h1 := hlw b hk
    rcases List.mem_append.1 hb with hb | hb
    · rcases List.mem_append.1 hb with hb | hb
      · exact h.apart b hb hk
      · rcases List.mem_append.1 hb with hb | hb
        · have := (rB b (by simpa using hb)).1
          omega
        · have := (dB b (by simpa using hb)).1
          omega
    · have := (oB b (by simpa using hb)).1
      omega
  · have h3 := hlw g hk
    have := (vB i h1 g hg).1
    omega
  · have h1 := (oB g hg).1
    rcases List.mem_append.1 hx with hb | hb
    · have := hlm g hb
      omega
    · rcases List.mem_append.1 hb with hb | hb
      · exact own_not how hrw (by decide) g hg hb
      · exact own_not how hdw (by decide) g hg hb
  · have := (oB g hg).1
    omega
  · rcases List.mem_append.1 hb with hb | hb
    · exact h.m0 b hb
    · rcases List.mem_append.1 hb with hb | hb
      · have := (rB b (by simpa using hb)).1
        omega
      · have := (dB b (by simpa using hb)).1
        omega
/-- Ahead of the order's taking. -/
theorem take_last {w0 wm w : World} {Bk E j : Nat} {K : List Nat} {es : List (Value × Nat)} {lv nv : Value} {sz : Int} {M : List Nat} {av tv : Value} {us ts : List Value} {rv dv ov : Value} {vs : List Value} {R : List (List Sp)} {D : List Lx} {O : List Sp}
    (hT : TIn w0 wm (X1 M rv dv ov) (F1 M av tv us ts rv dv vs D ov O) vs R) (h : TI w0 wm (X1 M rv dv ov) (F1 M av tv us ts rv dv vs D ov O) vs R Bk E j K es lv nv sz w) (hov : ∀ g, ov.ownBlock = some g → g ∉ X2 M rv dv ∧ w0.heap.size ≤ g) (hO : O.length ≤ 4194304) :
    TIn w0 wm (X2 M rv dv) (F2 M av tv us ts rv dv vs D) [ov] [O] ∧ TI w0 wm (X2 M rv dv) (F2 M av tv us ts rv dv vs D) [ov] [O] Bk (E + j) 0 K es lv nv sz w := by
  refine ⟨⟨F2_stb _ _ _ _ _ _ _ _ _, fun b hb => hT.xlt b (List.mem_append_left _ hb), rfl, fun i hi g hg => ?_, by simp, by simpa using hO⟩, ⟨h.book, h.f.1, fun b hb => h.xk b (List.mem_append_left _ hb), by have := h.len; omega, h.k0, h.fr, h.sz', fun i h1 h2 _ => ?_⟩⟩
  · have e1 : i = 0 := by simpa using hi
    subst e1
    exact hov g hg
  · have e1 : i = 0 := by simpa using h1
    subst e1
    exact ⟨h.f.2, fun g hg => h.xk g (List.mem_append_right _ (by simpa using hg))⟩
/-- Behind the writing over, ahead of the laying up. -/
structure MJ (w0 : World) (Bk k : Nat) (K : List Nat) (es : List (Value × Nat)) (lv nv : Value) (sz : Int) (M M2 M3 : List Nat) (av tv : Value) (us ts : List Value) (rv dv : Value) (w : World) : Prop where
  book : BookIn Bk K es lv nv sz w
  aa : AA M av tv us ts w
  ul : us.length = k
  tl : ts.length = k
  k0 : ∀ b ∈ K, w0.heap.size ≤ b
  m0 : ∀ b ∈ M, w0.heap.size ≤ b
  apart : ∀ b ∈ M, b ∉ K
  len : es.length ≤ 3001 * (k + 1)
  fr : Fr [] w0 w
  ar : AR M2 (-7 - (k : Int)) rv w
  al : AL M3 (-7 - (k : Int)) dv w
  m2 : ∀ b ∈ M2, b < w.heap.size ∧ w0.heap.size ≤ b ∧ b ∉ K
  m3 : ∀ b ∈ M3, b < w.heap.size ∧ w0.heap.size ≤ b ∧ b ∉ K
theorem mid_of {w0 wm w6 w9 w11 : World} {Bk k E : Nat} {K : List Nat} {es : List (Value × Nat)} {lv nv : Value} {sz : Int} {M : List Nat} {av tv : Value} {us ts : List Value} {rv dv ov rv' dv' : Value} {vs us' : List Value} {D ds : List Lx} {O : List Sp}
    (h : TI w0 wm (X2 M rv dv) (F2 M av tv us ts rv dv vs D) [ov] [O] Bk E 1 K es lv nv sz w6) (hX0 : ∀ b ∈ X2 M rv dv, w0.heap.size ≤ b) (hul : us.length = k) (htl : ts.length = k) (hE : E + 1 ≤ 3001 * (k + 1))
    (hMr : ∀ b ∈ M, b ∉ rv.ownBlock.toList) (hMd : ∀ b ∈ M, b ∉ dv.ownBlock.toList)
    (hr : RG w6 rv.ownBlock.toList (-7 - (k : Int)) us'.length rv' us' w9) (hd : DG w9 dv.ownBlock.toList (-7 - (k : Int)) ds.length dv' ds w11) :
    ∃ M2 M3, MJ w0 Bk k K es lv nv sz M M2 M3 av tv us ts rv' dv' w11 := by
  obtain ⟨hA, hrow, hdrow⟩ := h.f
  have hK6 := h.book.lt
  have hM6 := hA.lt
  have s69 := hr.f.size
  have s911 := hd.f.size
  have s06 := h.fr.size
  have xr : ∀ b ∈ rv.ownBlock.toList, b ∈ X2 M rv dv := fun b hb => List.mem_append_right _ (List.mem_append_left _ hb)
  have xd : ∀ b ∈ dv.ownBlock.toList, b ∈ X2 M rv dv := fun b hb => List.mem_append_right _ (List.mem_append_right _ hb)
  have hdv9 := owns_fr hdrow hr.f (own_not hdrow hrow (by decide))
  have bk9 := h.book.fr hr.f fun b hb hk => h.xk b (xr b hb) hk
  have bk11 := bk9.fr hd.f fun b hb hk => h.xk b (xd b hb) hk
  have aa9 := hA.fr hr.f fun b hb hm => hMr b hm hb
  have aa11 := aa9.fr hd.f fun b hb hm => hMd b hm hb
  have gR : ∀ g, g ∈ rv.ownBlock.toList ∨ w6.heap.size ≤ g → w0.heap.size ≤ g ∧ g ∉ K := fun g hg => by
    rcases hg with hg | hg
    · exact ⟨hX0 g (xr g hg), h.xk g (xr g hg)⟩
    · exact ⟨by omega, fun hk => by have := hK6 g hk; omega⟩
  have gD : ∀ g, g ∈ dv.ownBlock.toList ∨ w9.heap.size ≤ g → w0.heap.size ≤ g ∧ g ∉ K := fun g hg => by
    rcases hg with hg | hg
    · exact ⟨hX0 g (xd g hg), h.xk g (xd g hg)⟩
    · exact ⟨by omega, fun hk => by have := hK6 g hk; omega⟩
  have hrow11 := owns_fr hr.row hd.f (own_not hr.row hdv9 (by decide))
  have hel11 : ∀ i (hi : i < us'.length), w11.ownsRow 0 tSp 2 us'[i] 1 [.int .i64 (-7 - (k : Int)), .int .i64 0] ∧ ∀ g, us'[i].ownBlock = some g → w6.heap.size ≤ g := fun i hi => ⟨owns_fr (hr.el i hi hi).1 hd.f (own_not (hr.el i hi hi).1 hdv9 (by decide)), (hr.el i hi hi).2⟩
  refine ⟨rv'.ownBlock.toList ++ us'.flatMap fun u => u.ownBlock.toList, dv'.ownBlock.toList, ⟨bk11, aa11, hul, htl, h.k0, fun b hb => hX0 b (List.mem_append_left _ hb), fun b hb => h.xk b (List.mem_append_left _ hb), by have := h.len; omega, (h.fr.trans hr.f fun x hx => .inr (hX0 x (xr x hx))).trans hd.f fun x hx => .inr (hX0 x (xd x hx)), ?_, ?_, ?_, ?_⟩⟩
  · exact ⟨us', hrow11, fun g hg => List.mem_append_left _ (by rw [hg]; simp), fun i hi => ⟨(hel11 i hi).1, fun g hg => List.mem_append_right _ (List.mem_flatMap.2 ⟨_, List.getElem_mem hi, by rw [hg]; simp⟩)⟩⟩
  · exact ⟨ds, hd.row, fun x hx => by
      obtain ⟨i, hi, rfl⟩ := List.getElem_of_mem hx
      exact hd.el i hi hi, fun g hg => by rw [hg]; simp⟩
  · intro b hb
    rcases List.mem_append.1 hb with hb | hb
    · have hb' : rv'.ownBlock = some b := by simpa using hb
      exact ⟨(hrow11.lt b hb').2, gR b (hr.blk b hb')⟩
    · obtain ⟨u, hu, hb⟩ := List.mem_flatMap.1 hb
      obtain ⟨i, hi, rfl⟩ := List.getElem_of_mem hu
      have hb' : us'[i].ownBlock = some b := by simpa using hb
      exact ⟨((hel11 i hi).1.lt b hb').2, gR b (.inr ((hel11 i hi).2 b hb'))⟩
  · intro b hb
    have hb' : dv'.ownBlock = some b := by simpa using hb
    exact ⟨(hd.row.lt b hb').2, gD b (hd.blk b hb')⟩
theorem MJ.fin {w0 w11 wa w12 wb w13 : World} {Bk k : Nat} {K : List Nat} {es : List (Value × Nat)} {lv nv : Value} {sz : Int} {M M2 M3 : List Nat} {av tv : Value} {us ts : List Value} {rv dv : Value} {g c H g2 c2 H2 : Nat} (h : MJ w0 Bk k K es lv nv sz M M2 M3 av tv us ts rv dv w11)
    (hfa : Fr [] w11 wa) (ho : w12.ownsRow 0 tRR 1 (.slice (some ⟨g, 0, none⟩) (k + 1) c) (k + 1) (us ++ [rv])) (hg : wa.grownBy w12 av.ownBlock) (hat : av.ownBlock = some g ∨ g = H) (hH : w11.heap.size ≤ H)
    (hfb : Fr [] w12 wb) (ho2 : w13.ownsRow 0 tLL 1 (.slice (some ⟨g2, 0, none⟩) (k + 1) c2) (k + 1) (ts ++ [dv])) (hg2 : wb.grownBy w13 tv.ownBlock) (hat2 : tv.ownBlock = some g2 ∨ g2 = H2) (hH2 : w12.heap.size ≤ H2) :
    LI w0 Bk (k + 1) (.slice (some ⟨g, 0, none⟩) (k + 1) c) (.slice (some ⟨g2, 0, none⟩) (k + 1) c2) w13 := by
  obtain ⟨hB, hA, rfl, htl, hk0, hm0, hap, hlen, hfr, har, hal, hm2, hm3⟩ := h
  have hav := owns_fr hA.a hfa (by simp)
  have hA1 := hA.pushA har (fun b hb => (hm2 b hb).1) hfa ho hg
  have hal1 := (hal.fr hfa (by simp) (fun _ hb => hb)).frO hav (by decide) (fr_grown hg)
  have s1 := hfa.size
  have s2 := hg.size
  have s3 := hfb.size
  have s0 := hfr.size
  rw [← htl] at hal1 ho2
  have hA2 := hA1.pushT hal1 (fun b hb => by have := (hm3 b hb).1; omega) hfb ho2 hg2
  have bk12 := (hB.fr hfa (by simp)).fr (fr_grown hg) fun b hb hk => hap b (hA.aM b (by simpa using hb)) hk
  have bk13 := (bk12.fr hfb (by simp)).fr (fr_grown hg2) fun b hb hk => hap b (hA.tM b (by simpa using hb)) hk
  have gA : w0.heap.size ≤ g ∧ g ∉ K := by
    rcases hat with h1 | h1
    · exact ⟨hm0 g (hA.aM g h1), hap g (hA.aM g h1)⟩
    · exact ⟨by omega, fun hk => by have := hB.lt g hk; omega⟩
  have gT : w0.heap.size ≤ g2 ∧ g2 ∉ K := by
    rcases hat2 with h1 | h1
    · exact ⟨hm0 g2 (hA.tM g2 h1), hap g2 (hA.tM g2 h1)⟩
    · exact ⟨by omega, fun hk => by have := bk12.lt g2 hk; omega⟩
  have hall : ∀ b ∈ M ++ (M2 ++ [g]) ++ (M3 ++ [g2]), w0.heap.size ≤ b ∧ b ∉ K := fun b hb => by
    simp only [List.mem_append, List.mem_singleton] at hb
    rcases hb with (hb | hb | rfl) | hb | rfl
    · exact ⟨hm0 b hb, hap b hb⟩
    · exact (hm2 b hb).2
    · exact gA
    · exact (hm3 b hb).2
    · exact gT
  rw [htl] at hA2
  refine ⟨K, es, lv, nv, sz, _, _, _, ⟨bk13, hA2, by simp, by simp [htl], hk0, fun b hb => (hall b hb).1, fun b hb => (hall b hb).2, hlen, ?_⟩⟩
  exact ((((hfr.trans0 hfa).trans (fr_grown hg) fun x hx => .inr (hm0 x (hA.aM x (by simpa using hx)))).trans0 hfb).trans (fr_grown hg2) fun x hx => .inr (hm0 x (hA.tM x (by simpa using hx))))
end
end Go.Proofs.YtdlpbpohbkcafaaGreat
