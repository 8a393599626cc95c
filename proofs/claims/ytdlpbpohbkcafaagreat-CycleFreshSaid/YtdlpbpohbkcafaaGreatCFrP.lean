/-
  CycleFresh: what is kept and what is wanted, in plain words.
-/
import Derived.Test.YtdlpbpohbkcafaaGreatCApR
import Derived.Laws.AppendOwnNone
import Derived.Maps.AppendAt
namespace Go.Proofs.YtdlpbpohbkcafaaGreat
open Go.RowKit Go.Shelf Go.Sort Go.Proofs

variable {MT : List Nat} {T : World → Prop}
theorem infoTSf : (Tryz.prog.info? tS).map (fun i => (i.zero, i.size, i.bytes)) = some (some (.slice none 0 0), 1, 24) := by kernel_rfl
/-- A row appended to a row that is the call's own; it may be none. -/
theorem wpList_appendRow {P : Program} {w : World} {ops : Array Oper} {rest : List Oper} {o : Oper} {a : Act} {Q : Exit → Act → World → Prop} (hgd : o.guard = none) (s x : Operand) (t : TypeId)
    (ho : o.op = .call { callee := .builtin .append, args := #[s, x], argTypes := #[t, t] })
    (e : TypeId) (i : TypeInfo) (z : Value) (size bytes : Nat) (ht : P.underlying t = some (.slice e)) (hi : P.info? e = some i) (hz : i.zero = some z) (hsize : i.size = size) (hby : i.bytes = bytes) (hzs : z.cells.size = size) (hsz : 0 < size)
    {v : Value} {n : Nat} {xs : List Value} (hs : a.eval s = v) (hown : w.ownsRow 0 e size v n xs)
    {xv : Value} {m : Nat} {news : List Value} {B2 : Nat} {e2 : TypeId} (hx : a.eval x = xv) (hsrc : w.ownsRow B2 e2 size xv m news) (h1 : ∀ u ∈ news, u.oneCell' = true)
    (h63 : n + m ≤ maxLen) (hbytes : (n + m) * bytes ≤ 140737488355328)
    (h : ∀ v' w', w'.ownsRow 0 e size v' (n + m) (xs ++ news) → Fr v.ownBlock.toList w w' → (v'.ownBlock = v.ownBlock ∨ v'.ownBlock = some w.heap.size) → wpList P ops Q rest (a.put o.dst v') w') : wpList P ops Q (o :: rest) a w := by
  have hsrc0 := hsrc
  rcases hsrc.2 with ⟨e1, h0⟩ | ⟨g, cap, cur, e1, _⟩
  · subst e1
    subst h0
    have hn : news = [] := List.eq_nil_of_length_eq_zero (by have := hsrc.1; omega)
    subst hn
    exact wpList_append_own_none hgd s x t ho 0 e i size ht hi v n xs hs hown hx (h v w (by simpa using hown) (Fr.refl _ _) (.inl rfl))
  · subst e1
    refine wpList_plain hgd fun K hK => ?_
    have hnews : ∀ j u, news[j]? = some u → w.cell? ((⟨g, 0, none⟩ : Addr).add j) = some u := fun j u hj => by
      rw [Addr.add_lit, Nat.zero_add, hsrc0.cellAt j (by have := hsrc0.1; have := (List.getElem?_eq_some_iff.1 hj).1; omega)]
      exact hj
    obtain ⟨v', w', hr, h2, h3, _, h5⟩ := run_append_own_at (P := P) w 0 t o.type e i z size bytes ht hi hz hsize hby hzs hsz v n xs hown ⟨g, 0, none⟩ m cap news hsrc.1 hnews h1 h63 hbytes (Nat.zero_le _)
    unfold Oper.wp execOp
    simp only [ho, resolve, invoke, builtin, Sem.run_bind, Sem.run_pure, Result.andThen_ok, List.map_toArray, List.map_cons, List.map_nil, hs, hx, hr]
    exact hK _ _ (h v' w' h2 (fr_grown h3) h5)
theorem own_new1 (w : World) (x : Value) : (w.alloc (.cells #[x] tS)).ownsRow 0 tS 1 (.slice (some ⟨w.heap.size, 0, none⟩) 1 1) 1 [x] := by
  refine ⟨rfl, .inr ⟨w.heap.size, 1, #[x], rfl, Nat.zero_le _, heap_new w _, ?_, ?_, ?_, ?_⟩⟩ <;> simp [maxLen]
/-- Lists, each in a row of its own; M: their blocks. -/
def Els (M : List Nat) (w : World) (qs : List Value) (L : List (List Sp)) : Prop :=
  qs.length = L.length ∧ ∀ i (h : i < qs.length) (h2 : i < L.length), w.ownsRow 0 tSp 2 qs[i] L[i].length (L[i].flatMap spC) ∧ ∀ g, qs[i].ownBlock = some g → g ∈ M
theorem Els.nil (M : List Nat) (w : World) : Els M w [] [] := ⟨rfl, fun _ h => absurd h (Nat.not_lt_zero _)⟩
theorem Els.fr {M M' : List Nat} {w w1 : World} {qs : List Value} {L : List (List Sp)} (h : Els M w qs L) {S : List Nat} (hf : Fr S w w1) (hS : ∀ b ∈ S, b ∉ M) (hM : ∀ b ∈ M, b ∈ M') : Els M' w1 qs L :=
  ⟨h.1, fun i h1 h2 => ⟨owns_fr (h.2 i h1 h2).1 hf (fun k hk hm => hS k hm ((h.2 i h1 h2).2 k hk)), fun g hg => hM g ((h.2 i h1 h2).2 g hg)⟩⟩
theorem Els.frO {M M' : List Nat} {w w1 : World} {qs : List Value} {L : List (List Sp)} (h : Els M w qs L) {B n : Nat} {u : Value} {xs : List Value} (ho : w.ownsRow B tS 1 u n xs) (hf : Fr u.ownBlock.toList w w1) (hM : ∀ b ∈ M, b ∈ M') : Els M' w1 qs L :=
  ⟨h.1, fun i h1 h2 => ⟨owns_fr (h.2 i h1 h2).1 hf (own_not (h.2 i h1 h2).1 ho (by decide)), fun g hg => hM g ((h.2 i h1 h2).2 g hg)⟩⟩
theorem Els.append {M : List Nat} {w : World} {a b : List Value} {L R : List (List Sp)} (h : Els M w a L) (k : Els M w b R) : Els M w (a ++ b) (L ++ R) := by
  refine ⟨by rw [List.length_append, List.length_append, h.1, k.1], fun i h1 h2 => ?_⟩
  by_cases hi : i < a.length
  · have hi2 : i < L.length := by rw [← h.1]; exact hi
    rw [List.getElem_append_left hi, List.getElem_append_left hi2]
    exact h.2 i hi hi2
  · have hi2 : ¬ i < L.length := by rw [← h.1]; exact hi
    have hj : i - a.length < b.length := by rw [List.length_append] at h1; omega
    have he : i - L.length = i - a.length := by rw [h.1]
    rw [List.getElem_append_right (Nat.le_of_not_lt hi), List.getElem_append_right (Nat.le_of_not_lt hi2)]
    have hj2 : i - a.length < R.length := by rw [← k.1]; exact hj
    have := k.2 (i - a.length) hj hj2
    simp only [he]
    exact this
theorem Els.one {M : List Nat} {w : World} {v : Value} {l : List Sp} (h : w.ownsRow 0 tSp 2 v l.length (l.flatMap spC)) (hM : ∀ g, v.ownBlock = some g → g ∈ M) : Els M w [v] [l] :=
  ⟨rfl, fun i h1 h2 => by
    have e1 : i = 0 := by simpa using h1
    subst e1
    exact ⟨h, hM⟩⟩
/-- The rows that are kept: what was told, and what is wanted; M: their blocks. -/
structure QQ (MT : List Nat) (T : World → Prop) (M : List Nat) (qv wv : Value) (qs ws : List Value) (L : List (List Sp)) (w : World) : Prop where
  q : w.ownsRow 0 tS 1 qv qs.length qs
  w' : w.ownsRow 0 tS 1 wv ws.length ws
  qM : ∀ g, qv.ownBlock = some g → g ∈ M
  wM : ∀ g, wv.ownBlock = some g → g ∈ M
  sep : ∀ g, qv.ownBlock = some g → wv.ownBlock ≠ some g
  qe : Els M w qs L
  we : Els M w ws L
  lt : ∀ b ∈ M, b < w.heap.size
  t : T w
  st : Stb MT T
  tM : ∀ b ∈ MT, b ∈ M
  tq : ∀ g, qv.ownBlock = some g → g ∉ MT
  tw : ∀ g, wv.ownBlock = some g → g ∉ MT
theorem QQ.fr {M : List Nat} {qv wv : Value} {qs ws : List Value} {L : List (List Sp)} {w w1 : World} (h : QQ MT T M qv wv qs ws L w) {S : List Nat} (hf : Fr S w w1) (hS : ∀ b ∈ S, b ∉ M) : QQ MT T M qv wv qs ws L w1 :=
  ⟨owns_fr h.q hf (fun k hk hm => hS k hm (h.qM k hk)), owns_fr h.w' hf (fun k hk hm => hS k hm (h.wM k hk)), h.qM, h.wM, h.sep, h.qe.fr hf hS (fun _ hb => hb), h.we.fr hf hS (fun _ hb => hb), fun b hb => Nat.lt_of_lt_of_le (h.lt b hb) hf.size, h.st w w1 S hf (fun b hb hm => hS b hb (h.tM b hm)) h.t, h.st, h.tM, h.tq, h.tw⟩
/-- What holds between two calls' rounds. -/
structure FJ (MT : List Nat) (T : World → Prop) (w0 : World) (Bk E N : Nat) (K : List Nat) (es : List (Value × Nat)) (lv nv : Value) (sz : Int) (M : List Nat) (qv wv : Value) (qs ws : List Value) (L : List (List Sp)) (w : World) : Prop where
  book : BookIn Bk K es lv nv sz w
  qq : QQ MT T M qv wv qs ws L w
  k0 : ∀ b ∈ K, w0.heap.size ≤ b
  m0 : ∀ b ∈ M, w0.heap.size ≤ b
  apart : ∀ b ∈ M, b ∉ K
  len : es.length ≤ E
  ll : L.length ≤ N
  fr : Fr [] w0 w
def FI (MT : List Nat) (T : World → Prop) (w0 : World) (Bk E N : Nat) (qv wv : Value) (w : World) : Prop := ∃ K es lv nv sz M qs ws L, FJ MT T w0 Bk E N K es lv nv sz M qv wv qs ws L w
theorem FJ.fr0 {w0 : World} {Bk E N : Nat} {K : List Nat} {es : List (Value × Nat)} {lv nv : Value} {sz : Int} {M : List Nat} {qv wv : Value} {qs ws : List Value} {L : List (List Sp)} {w w1 : World} (h : FJ MT T w0 Bk E N K es lv nv sz M qv wv qs ws L w) (hf : Fr [] w w1) : FJ MT T w0 Bk E N K es lv nv sz M qv wv qs ws L w1 :=
  ⟨h.book.fr hf (by simp), h.qq.fr hf (by simp), h.k0, h.m0, h.apart, h.len, h.ll, h.fr.trans0 hf⟩
theorem FI.fr0 {w0 : World} {Bk E N : Nat} {qv wv : Value} {w w1 : World} (h : FI MT T w0 Bk E N qv wv w) (hf : Fr [] w w1) : FI MT T w0 Bk E N qv wv w1 := by
  obtain ⟨K, es, lv, nv, sz, M, qs, ws, L, h⟩ := h
  exact ⟨K, es, lv, nv, sz, M, qs, ws, L, h.fr0 hf⟩
theorem FI.le {w0 : World} {Bk E N E' N' : Nat} {qv wv : Value} {w : World} (h : FI MT T w0 Bk E N qv wv w) (hE : E ≤ E') (hN : N ≤ N') : FI MT T w0 Bk E' N' qv wv w := by
  obtain ⟨K, es, lv, nv, sz, M, qs, ws, L, h⟩ := h
  exact ⟨K, es, lv, nv, sz, M, qs, ws, L, h.book, h.qq, h.k0, h.m0, h.apart, Nat.le_trans h.len hE, Nat.le_trans h.ll hN, h.fr⟩
theorem FI.fr' {w0 : World} {Bk E N : Nat} {qv wv : Value} {w : World} (h : FI MT T w0 Bk E N qv wv w) : Fr [] w0 w := by
  obtain ⟨K, es, lv, nv, sz, M, qs, ws, L, h⟩ := h
  exact h.fr
theorem FI.start (w : World) : FI [] (fun _ => True) w w.heap.size 0 0 (.slice none 0 0) (.slice none 0 0) (w.alloc (.cells #[.slice none 0 0, .slice none 0 0, .int .i64 0] tBk)) :=
  ⟨[w.heap.size], [], .slice none 0 0, .slice none 0 0, 0, [], [], [], [], ⟨heap_new w _, World.ownsRow_nil _ _ _ _, World.ownsRow_nil _ _ _ _, (fun g h => by cases h), (fun g h => by cases h), by simp, fun i h => absurd h (Nat.not_lt_zero _), by simp, List.Pairwise.nil, by simp, by simp⟩,
    ⟨World.ownsRow_nil _ _ _ _, World.ownsRow_nil _ _ _ _, (fun g h => by cases h), (fun g h => by cases h), (fun g h => by cases h), Els.nil _ _, Els.nil _ _, by simp, trivial, fun _ _ _ _ _ _ => trivial, by simp, by simp, by simp⟩, by simp, by simp, by simp, by simp, by simp, (Fr.refl [] w).alloc _⟩
/-- New memory is watched. -/
theorem FI.watch {w0 : World} {Bk E N : Nat} {qv wv : Value} {w w1 : World} (h : FI [] (fun _ => True) w0 Bk E N qv wv w) (hf : Fr [] w w1) (hMT : ∀ b ∈ MT, w.heap.size ≤ b ∧ b < w1.heap.size) (st : Stb MT T) (ht : T w1) : FI MT T w0 Bk E N qv wv w1 := by
  obtain ⟨K, es, lv, nv, sz, M, qs, ws, L, h⟩ := h
  have h1 := h.fr0 hf
  have hq := h1.qq
  have h0 := h.fr.size
  have mM : ∀ b ∈ M, b ∈ M ++ MT := fun b hb => List.mem_append_left _ hb
  refine ⟨K, es, lv, nv, sz, M ++ MT, qs, ws, L, h1.book, ⟨hq.q, hq.w', fun g hg => mM g (hq.qM g hg), fun g hg => mM g (hq.wM g hg), hq.sep, hq.qe.fr (Fr.refl [] _) (by simp) mM, hq.we.fr (Fr.refl [] _) (by simp) mM, fun b hb => ?_, ht, st, fun b hb => List.mem_append_right _ hb, fun g hg hm => ?_, fun g hg hm => ?_⟩, h1.k0, fun b hb => ?_, fun b hb hk => ?_, h1.len, h1.ll, h1.fr⟩
  · rcases List.mem_append.1 hb with hb | hb
    · exact hq.lt b hb
    · exact (hMT b hb).2
  · have := h.qq.lt g (hq.qM g hg)
    have := (hMT g hm).1
    omega
  · have := h.qq.lt g (hq.wM g hg)
    have := (hMT g hm).1
    omega
  · rcases List.mem_append.1 hb with hb | hb
    · exact h1.m0 b hb
    · have := (hMT b hb).1
      omega
  · rcases List.mem_append.1 hb with hb | hb
    · exact h1.apart b hb hk
    · have := (hMT b hb).1
      have := h.book.lt b hk
      omega
theorem FI.drop {w0 : World} {Bk E N : Nat} {qv wv : Value} {w : World} (h : FI MT T w0 Bk E N qv wv w) : FI [] (fun _ => True) w0 Bk E N qv wv w ∧ T w := by
  obtain ⟨K, es, lv, nv, sz, M, qs, ws, L, h⟩ := h
  have hq := h.qq
  exact ⟨⟨K, es, lv, nv, sz, M, qs, ws, L, h.book, ⟨hq.q, hq.w', hq.qM, hq.wM, hq.sep, hq.qe, hq.we, hq.lt, trivial, fun _ _ _ _ _ _ => trivial, by simp, by simp, by simp⟩, h.k0, h.m0, h.apart, h.len, h.ll, h.fr⟩, hq.t⟩
theorem twin_stb {B : Nat} {w : World} {v : Value} {ls : List Nd} (h : TwinAt B w v ls) : ∃ MT, (∀ b ∈ MT, B ≤ b ∧ b < w.heap.size) ∧ Stb MT fun u => TwinAt B u v ls := by
  obtain ⟨g, cap, rfl, h1⟩ := h.row
  refine ⟨g :: ls.filterMap fun n => n.na.map (·.block), fun b hb => ?_, fun u u1 S hf hS hu => ?_⟩
  · rcases List.mem_cons.1 hb with rfl | hb
    · exact h1.lt b rfl
    · obtain ⟨n, hn, hg⟩ := List.mem_filterMap.1 hb
      rcases (h.nx n hn).1 with h2 | ⟨c, h2, h3⟩
      · rw [h2.1] at hg
        cases hg
      · rw [h2] at hg
        have : c = b := by simpa using hg
        rw [← this]
        exact h3.lt c rfl
  · obtain ⟨g', cap', e, h2⟩ := hu.row
    cases e
    refine ⟨⟨g, cap, rfl, owns_fr h2 hf fun k hk hm => hS k hm ?_⟩, fun n hn => ⟨(hu.nx n hn).1.fr hf ?_, (hu.nx n hn).2⟩⟩
    · have : g = k := by simpa [Value.ownBlock] using hk
      simp [this]
    · intro b hb hm
      exact hS b hm (List.mem_cons_of_mem _ (List.mem_filterMap.2 ⟨n, hn, by rw [hb]; rfl⟩))
/-- Behind the comparing: what the takings must leave. -/
def G2 (MT : List Nat) (T : World → Prop) (M : List Nat) (qv wv : Value) (qs ws : List Value) (L : List (List Sp)) (rv dv : Value) (vs : List Value) (D : List Lx) (w : World) : Prop := QQ MT T M qv wv qs ws L w ∧ w.ownsRow 0 tS 1 rv vs.length vs ∧ w.ownsRow 0 tLd 6 dv D.length (D.flatMap lxC)
theorem G2_stb (M : List Nat) (qv wv : Value) (qs ws : List Value) (L : List (List Sp)) (rv dv : Value) (vs : List Value) (D : List Lx) : Stb (X2 M rv dv) (G2 MT T M qv wv qs ws L rv dv vs D) := fun w w1 S hf hS ⟨h1, h2, h3⟩ =>
  ⟨h1.fr hf (fun b hb hm => hS b hb (List.mem_append_left _ hm)), owns_fr h2 hf (fun k hk hm => hS k hm (List.mem_append_right _ (List.mem_append_left _ (by simpa using hk)))), owns_fr h3 hf (fun k hk hm => hS k hm (List.mem_append_right _ (List.mem_append_right _ (by simpa using hk))))⟩
def G1 (MT : List Nat) (T : World → Prop) (M : List Nat) (qv wv : Value) (qs ws : List Value) (L : List (List Sp)) (rv dv : Value) (vs : List Value) (D : List Lx) (ov : Value) (O : List Sp) (w : World) : Prop := G2 MT T M qv wv qs ws L rv dv vs D w ∧ w.ownsRow 0 tSp 2 ov O.length (O.flatMap spC)
theorem G1_stb (M : List Nat) (qv wv : Value) (qs ws : List Value) (L : List (List Sp)) (rv dv : Value) (vs : List Value) (D : List Lx) (ov : Value) (O : List Sp) : Stb (X1 M rv dv ov) (G1 MT T M qv wv qs ws L rv dv vs D ov O) := fun w w1 S hf hS ⟨h1, h2⟩ =>
  ⟨G2_stb M qv wv qs ws L rv dv vs D w w1 S hf (fun b hb hm => hS b hb (List.mem_append_left _ hm)) h1, owns_fr h2 hf (fun k hk hm => hS k hm (List.mem_append_right _ (by simpa using hk)))⟩
/-- Only the leads' row, behind the nils. -/
def G3 (MT : List Nat) (T : World → Prop) (M : List Nat) (qv wv : Value) (qs ws : List Value) (L : List (List Sp)) (dv : Value) (D : List Lx) (w : World) : Prop := QQ MT T M qv wv qs ws L w ∧ w.ownsRow 0 tLd 6 dv D.length (D.flatMap lxC)
abbrev X3 (M : List Nat) (dv : Value) : List Nat := M ++ dv.ownBlock.toList
theorem G3_stb (M : List Nat) (qv wv : Value) (qs ws : List Value) (L : List (List Sp)) (dv : Value) (D : List Lx) : Stb (X3 M dv) (G3 MT T M qv wv qs ws L dv D) := fun w w1 S hf hS ⟨h1, h3⟩ =>
  ⟨h1.fr hf (fun b hb hm => hS b hb (List.mem_append_left _ hm)), owns_fr h3 hf (fun k hk hm => hS k hm (List.mem_append_right _ (by simpa using hk)))⟩
/-- Ahead of the rings' taking. -/
theorem fresh_begin {w0 wr w w2 w3 w4 wm : World} {Bk E N : Nat} {K : List Nat} {es : List (Value × Nat)} {lv nv : Value} {sz : Int} {M : List Nat} {qv wv : Value} {qs ws : List Value} {L : List (List Sp)} {rv dv ov : Value} {vs : List Value} {R : List (List Sp)} {D : List Lx} {O : List Sp}
    (h : FJ MT T w0 Bk E N K es lv nv sz M qv wv qs ws L wr) (hw : Fr [] wr w) (hr : w2.ownsRow w.heap.size tS 1 rv vs.length vs) (ht : Told w.heap.size w2 vs R) (hw2 : Fr [] w w2) (h23 : Fr [] w2 w3) (ho : w3.ownsRow w2.heap.size tSp 2 ov O.length (O.flatMap spC)) (h34 : Fr [] w3 w4) (hd : w4.ownsRow w3.heap.size tLd 6 dv D.length (D.flatMap lxC)) (h4 : Fr [] w4 wm) (hf : Fr [] wr wm) (hR : ∀ r ∈ R, r.length ≤ 4194304) :
    TIn w0 wm (X1 M rv dv ov) (G1 MT T M qv wv qs ws L rv dv vs D ov O) vs R ∧ TI w0 wm (X1 M rv dv ov) (G1 MT T M qv wv qs ws L rv dv vs D ov O) vs R Bk E 0 K es lv nv sz wm ∧ (∀ g, ov.ownBlock = some g → g ∉ X2 M rv dv ∧ w0.heap.size ≤ g) ∧ ∀ b ∈ X2 M rv dv, w0.heap.size ≤ b := by
  have hrw := owns_fr hr (h23.trans0 (h34.trans0 h4)) (by simp)
  have how := owns_fr ho (h34.trans0 h4) (by simp)
  have hdw := owns_fr hd h4 (by simp)
  have hs1 := hw.size
  have hs2 := h.fr.size
  have rB : ∀ g, rv.ownBlock = some g → w.heap.size ≤ g ∧ g < wm.heap.size := fun g hg => hrw.lt g hg
  have oB : ∀ g, ov.ownBlock = some g → w2.heap.size ≤ g ∧ g < wm.heap.size := fun g hg => how.lt g hg
  have dB : ∀ g, dv.ownBlock = some g → w3.heap.size ≤ g ∧ g < wm.heap.size := fun g hg => hdw.lt g hg
  have vB : ∀ i (hi : i < vs.length), ∀ g, vs[i].ownBlock = some g → w.heap.size ≤ g ∧ g < w2.heap.size := fun i hi g hg => (ht.at' i hi (by rw [← ht.len]; exact hi)).lt g hg
  have hs23 := h23.size
  have hs12 := hw2.size
  have hlw : ∀ b ∈ K, b < wr.heap.size := h.book.lt
  have hlm : ∀ b ∈ M, b < wr.heap.size := h.qq.lt
  refine ⟨⟨G1_stb _ _ _ _ _ _ _ _ _ _ _ _, fun b hb => ?_, ht.len, fun i hi g hg => ⟨fun hx => ?_, ?_⟩, ht.sep, hR⟩, ⟨h.book.fr hf (by simp), ⟨⟨h.qq.fr hf (by simp), owns_mono hrw (Nat.zero_le _), owns_mono hdw (Nat.zero_le _)⟩, owns_mono how (Nat.zero_le _)⟩, fun b hb hk => ?_, by have := h.len; omega, h.k0, h.fr.trans0 hf, Nat.le_refl _, fun i h1 h2 _ => ⟨owns_mono (owns_fr (ht.at' i h1 h2) (h23.trans0 (h34.trans0 h4)) (by simp)) (Nat.zero_le _), fun g hg hk => ?_⟩⟩, fun g hg => ⟨fun hx => ?_, ?_⟩, fun b hb => ?_⟩
  · rcases List.mem_append.1 hb with hb | hb
    · rcases List.mem_append.1 hb with hb | hb
      · have := hlm b hb
        have := hf.size
        omega
      · rcases List.mem_append.1 hb with hb | hb
        · exact (rB b (by simpa using hb)).2
        · exact (dB b (by simpa using hb)).2
    · exact (oB b (by simpa using hb)).2
  · have h1 := vB i hi g hg
    rcases List.mem_append.1 hx with hb | hb
    · rcases List.mem_append.1 hb with hb | hb
      · have := hlm g hb
        omega
      · rcases List.mem_append.1 hb with hb | hb
        · exact own_not (ht.at' i hi (by rw [← ht.len]; exact hi)) hr (by decide) g hg hb
        · have := (dB g (by simpa using hb)).1
          omega
    · have := (oB g (by simpa using hb)).1
      omega
  · have := (vB i hi g hg).1
    omega
  · have h1 := hlw b hk
    rcases List.mem_append.1 hb with hb | hb
    · rcases List.mem_append.1 hb with hb | hb
      · exact h.apart b hb hk
      · rcases List.mem_append.1 hb with hb | hb
        · have := (rB b (by simpa using hb)).1
          omega
        · have := (dB b (by simpa using hb)).1
          omega
    · have := (oB b (by simpa using hb)).1
      omega
  · have h3 := hlw g hk
    have := (vB i h1 g hg).1
    omega
  · have h1 := (oB g hg).1
    rcases List.mem_append.1 hx with hb | hb
    · have := hlm g hb
      omega
    · rcases List.mem_append.1 hb with hb | hb
      · exact own_not how hrw (by decide) g hg hb
      · exact own_not how hdw (by decide) g hg hb
  · have := (oB g hg).1
    omega
  · rcases List.mem_append.1 hb with hb | hb
    · exact h.m0 b hb
    · rcases List.mem_append.1 hb with hb | hb
      · have := (rB b (by simpa using hb)).1
        omega
      · have := (dB b (by simpa using hb)).1
        omega
/-- Ahead of the order's taking. -/
theorem fresh_last {w0 wm w : World} {Bk E j : Nat} {K : List Nat} {es : List (Value × Nat)} {lv nv : Value} {sz : Int} {M : List Nat} {qv wv : Value} {qs ws : List Value} {L : List (List Sp)} {rv dv ov : Value} {vs : List Value} {R : List (List Sp)} {D : List Lx} {O : List Sp}
    (hT : TIn w0 wm (X1 M rv dv ov) (G1 MT T M qv wv qs ws L rv dv vs D ov O) vs R) (h : TI w0 wm (X1 M rv dv ov) (G1 MT T M qv wv qs ws L rv dv vs D ov O) vs R Bk E j K es lv nv sz w) (hov : ∀ g, ov.ownBlock = some g → g ∉ X2 M rv dv ∧ w0.heap.size ≤ g) (hO : O.length ≤ 4194304) :
    TIn w0 wm (X2 M rv dv) (G2 MT T M qv wv qs ws L rv dv vs D) [ov] [O] ∧ TI w0 wm (X2 M rv dv) (G2 MT T M qv wv qs ws L rv dv vs D) [ov] [O] Bk (E + j) 0 K es lv nv sz w := by
  refine ⟨⟨G2_stb _ _ _ _ _ _ _ _ _ _, fun b hb => hT.xlt b (List.mem_append_left _ hb), rfl, fun i hi g hg => ?_, by simp, by simpa using hO⟩, ⟨h.book, h.f.1, fun b hb => h.xk b (List.mem_append_left _ hb), by have := h.len; omega, h.k0, h.fr, h.sz', fun i h1 h2 _ => ?_⟩⟩
  · have e1 : i = 0 := by simpa using hi
    subst e1
    exact hov g hg
  · have e1 : i = 0 := by simpa using h1
    subst e1
    exact ⟨h.f.2, fun g hg => h.xk g (List.mem_append_right _ (by simpa using hg))⟩
/-- The rings' row is turned to nils. -/
theorem fresh_nil {w0 wm w w1 : World} {Bk E : Nat} {K : List Nat} {es : List (Value × Nat)} {lv nv : Value} {sz : Int} {M : List Nat} {qv wv : Value} {qs ws : List Value} {L : List (List Sp)} {rv dv ov : Value} {vs : List Value} {D : List Lx} {O : List Sp}
    (hT : TIn w0 wm (X2 M rv dv) (G2 MT T M qv wv qs ws L rv dv vs D) [ov] [O]) (h : TI w0 wm (X2 M rv dv) (G2 MT T M qv wv qs ws L rv dv vs D) [ov] [O] Bk E 0 K es lv nv sz w) (hf : Fr rv.ownBlock.toList w w1) (hr : ∀ g, rv.ownBlock = some g → g ∉ M ∧ w0.heap.size ≤ g) :
    TIn w0 wm (X3 M dv) (G3 MT T M qv wv qs ws L dv D) [ov] [O] ∧ TI w0 wm (X3 M dv) (G3 MT T M qv wv qs ws L dv D) [ov] [O] Bk E 0 K es lv nv sz w1 := by
  have hsub : ∀ b ∈ X3 M dv, b ∈ X2 M rv dv := fun b hb => by
    rcases List.mem_append.1 hb with hb | hb
    · exact List.mem_append_left _ hb
    · exact List.mem_append_right _ (List.mem_append_right _ hb)
  refine ⟨⟨G3_stb _ _ _ _ _ _ _ _, fun b hb => hT.xlt b (hsub b hb), hT.len, fun i hi g hg => ⟨fun hx => (hT.vX i hi g hg).1 (hsub g hx), (hT.vX i hi g hg).2⟩, hT.sep, hT.sm⟩,
    ⟨h.book.fr hf (fun b hb => h.xk b (List.mem_append_right _ (List.mem_append_left _ hb))), ⟨h.f.1.fr hf (fun b hb => (hr b (by simpa using hb)).1), owns_fr h.f.2.2 hf (own_not h.f.2.2 h.f.2.1 (by decide))⟩, fun b hb => h.xk b (hsub b hb), h.len, h.k0, h.fr.trans hf fun x hx => .inr (hr x (by simpa using hx)).2, Nat.le_trans h.sz' hf.size, fun i h1 h2 hij => ⟨owns_fr (h.el i h1 h2 hij).1 hf (own_not (h.el i h1 h2 hij).1 h.f.2.1 (by decide)), (h.el i h1 h2 hij).2⟩⟩⟩
/-- The leads' row is written over. -/
theorem fresh_end {w0 wm w w1 : World} {Bk E N : Nat} {K : List Nat} {es : List (Value × Nat)} {lv nv : Value} {sz : Int} {M : List Nat} {qv wv : Value} {qs ws : List Value} {L : List (List Sp)} {dv ov : Value} {D : List Lx} {O : List Sp}
    (h : TI w0 wm (X3 M dv) (G3 MT T M qv wv qs ws L dv D) [ov] [O] Bk E 1 K es lv nv sz w) (hf : Fr dv.ownBlock.toList w w1) (hd : ∀ g, dv.ownBlock = some g → g ∉ M ∧ w0.heap.size ≤ g) (hm : ∀ b ∈ M, w0.heap.size ≤ b) (hl : L.length ≤ N) :
    FJ MT T w0 Bk (E + 1) N K es lv nv sz M qv wv qs ws L w1 :=
  ⟨h.book.fr hf (fun b hb => h.xk b (List.mem_append_right _ hb)), h.f.1.fr hf (fun b hb => (hd b (by simpa using hb)).1), h.k0, hm, fun b hb => h.xk b (List.mem_append_left _ hb), h.len, hl, h.fr.trans hf fun x hx => .inr (hd x (by simpa using hx)).2⟩
/-- A row appended to. -/
def AP (v v' : Value) (n : Nat) (xs : List Value) (w w1 : World) : Prop := w1.ownsRow 0 tS 1 v' n xs ∧ Fr v.ownBlock.toList w w1 ∧ ∀ g, v'.ownBlock = some g → v.ownBlock = some g ∨ w.heap.size ≤ g
theorem AP.two {v v1 v2 x : Value} {n m : Nat} {xs : List Value} {w wa wb : World} (hfa : Fr v.ownBlock.toList w wa) (h1 : v1.ownBlock = v.ownBlock ∨ v1.ownBlock = some w.heap.size) (hb : wb.ownsRow 0 tS 1 v2 n xs) (hfb : Fr v1.ownBlock.toList (wa.alloc (.cells #[x] tS)) wb) (h2 : v2.ownBlock = v1.ownBlock ∨ v2.ownBlock = some (wa.alloc (.cells #[x] tS)).heap.size) (hn : n = m) : AP v v2 m xs w wb := by
  subst hn
  have hal : Fr [] wa (wa.alloc (.cells #[x] tS)) := (Fr.refl [] wa).alloc _
  have hsz := hfa.size
  have hsz2 := hal.size
  refine ⟨hb, (hfa.trans0 hal).trans hfb fun y hy => ?_, fun g hg => ?_⟩
  · have hy : v1.ownBlock = some y := by simpa using hy
    rcases h1 with h1 | h1
    · rw [h1] at hy
      exact .inl (by simp [hy])
    · rw [h1] at hy
      exact .inr (by have : w.heap.size = y := by simpa using hy
                     omega)
  · rcases h2 with h2 | h2
    · rw [h2] at hg
      rcases h1 with h1 | h1
      · exact .inl (by rw [← h1]; exact hg)
      · rw [h1] at hg
        exact .inr (by have : w.heap.size = g := by simpa using hg
                       omega)
    · rw [h2] at hg
      have : (wa.alloc (.cells #[x] tS)).heap.size = g := by simpa using hg
      exact .inr (by omega)
/-- What was told and what is wanted is laid up. -/
theorem FJ.push {w0 wm wA wB : World} {Bk E N B : Nat} {K : List Nat} {es : List (Value × Nat)} {lv nv : Value} {sz : Int} {M : List Nat} {qv wv qn wn ov pv : Value} {qs ws vs ss : List Value} {L R : List (List Sp)} {O : List Sp}
    (h : FJ MT T w0 Bk E N K es lv nv sz M qv wv qs ws L wm) (hMB : ∀ b ∈ M, b < B) (hKB : ∀ b ∈ K, b < B) (h0B : w0.heap.size ≤ B) (hBm : B ≤ wm.heap.size)
    (hv : Told B wm vs R) (hs : Told B wm ss R) (ho : wm.ownsRow B tSp 2 ov O.length (O.flatMap spC)) (hp : wm.ownsRow B tSp 2 pv O.length (O.flatMap spC))
    (hA : AP qv qn (qs.length + vs.length + 1) (qs ++ vs ++ [ov]) wm wA) (hW : AP wv wn (ws.length + ss.length + 1) (ws ++ ss ++ [pv]) wA wB) :
    FI MT T w0 Bk E (N + R.length + 1) qn wn wB := by
  obtain ⟨a1, a2, a3⟩ := hA
  obtain ⟨b1, b2, b3⟩ := hW
  have hq := h.qq
  have hsA := a2.size
  have hsB := b2.size
  have hwA : wA.ownsRow 0 tS 1 wv ws.length ws := owns_fr hq.w' a2 fun k hk hm => hq.sep k (by simpa using hm) hk
  have qK : ∀ b ∈ qv.ownBlock.toList, b ∈ M := fun b hb => hq.qM b (by simpa using hb)
  have wK : ∀ b ∈ wv.ownBlock.toList, b ∈ M := fun b hb => hq.wM b (by simpa using hb)
  let nE : List Value := vs ++ ov :: (ss ++ [pv])
  let M' : List Nat := M ++ (qn.ownBlock.toList ++ (wn.ownBlock.toList ++ nE.filterMap Value.ownBlock))
  have mM : ∀ b ∈ M, b ∈ M' := fun b hb => List.mem_append_left _ hb
  have mq : ∀ g, qn.ownBlock = some g → g ∈ M' := fun g hg => List.mem_append_right _ (List.mem_append_left _ (by simp [hg]))
  have mw : ∀ g, wn.ownBlock = some g → g ∈ M' := fun g hg => List.mem_append_right _ (List.mem_append_right _ (List.mem_append_left _ (by simp [hg])))
  have mE : ∀ v ∈ nE, ∀ g, v.ownBlock = some g → g ∈ M' := fun v hv g hg => List.mem_append_right _ (List.mem_append_right _ (List.mem_append_right _ (List.mem_filterMap.2 ⟨v, hv, hg⟩)))
  have nB : ∀ v ∈ nE, ∀ g, v.ownBlock = some g → B ≤ g ∧ g < wm.heap.size := fun v hvm g hg => by
    rcases List.mem_append.1 hvm with hx | hx
    · obtain ⟨i, hi, rfl⟩ := List.mem_iff_getElem.1 hx
      exact (hv.at' i hi (by rw [← hv.len]; exact hi)).lt g hg
    · rcases List.mem_cons.1 hx with rfl | hx
      · exact ho.lt g hg
      · rcases List.mem_append.1 hx with hx | hx
        · obtain ⟨i, hi, rfl⟩ := List.mem_iff_getElem.1 hx
          exact (hs.at' i hi (by rw [← hs.len]; exact hi)).lt g hg
        · obtain rfl := List.mem_singleton.1 hx
          exact hp.lt g hg
  have key : ∀ b ∈ M', b ∈ M ∨ (B ≤ b ∧ b < wB.heap.size) := fun b hb => by
    rcases List.mem_append.1 hb with hb | hb
    · exact .inl hb
    · rcases List.mem_append.1 hb with hb | hb
      · have hg : qn.ownBlock = some b := by simpa using hb
        rcases a3 b hg with h1 | h1
        · exact .inl (hq.qM b h1)
        · have := (a1.lt b hg).2
          exact .inr ⟨by omega, by omega⟩
      · rcases List.mem_append.1 hb with hb | hb
        · have hg : wn.ownBlock = some b := by simpa using hb
          rcases b3 b hg with h1 | h1
          · exact .inl (hq.wM b h1)
          · have := (b1.lt b hg).2
            exact .inr ⟨by omega, by omega⟩
        · obtain ⟨v, hvm, hg⟩ := List.mem_filterMap.1 hb
          have := nB v hvm b hg
          exact .inr ⟨by omega, by omega⟩
  have told : ∀ {us : List Value}, Told B wm us R → (∀ v ∈ us, v ∈ nE) → Els M' wm us R := fun ht hsub => ⟨ht.len, fun i h1 h2 => ⟨owns_mono (ht.at' i h1 h2) (Nat.zero_le _), mE _ (hsub _ (List.getElem_mem h1))⟩⟩
  have eq1 : Els M' wm (qs ++ vs ++ [ov]) (L ++ R ++ [O]) := ((hq.qe.fr (Fr.refl [] _) (by simp) mM).append (told hv fun v hv => List.mem_append_left _ hv)).append (Els.one (owns_mono ho (Nat.zero_le _)) (mE _ (by simp [nE])))
  have eq2 : Els M' wm (ws ++ ss ++ [pv]) (L ++ R ++ [O]) := ((hq.we.fr (Fr.refl [] _) (by simp) mM).append (told hs fun v hv => by simp [nE, hv])).append (Els.one (owns_mono hp (Nat.zero_le _)) (mE _ (by simp [nE])))
  refine ⟨K, es, lv, nv, sz, M', _, _, _, (h.book.fr a2 fun b hb => h.apart b (qK b hb)).fr b2 fun b hb => h.apart b (wK b hb), ⟨?_, ?_, mq, mw, fun g h1 h2 => ?_, (eq1.frO hq.q a2 fun _ hb => hb).frO hwA b2 fun _ hb => hb, (eq2.frO hq.q a2 fun _ hb => hb).frO hwA b2 fun _ hb => hb, fun b hb => ?_, ?_, hq.st, fun b hb => mM b (hq.tM b hb), fun g hg hm => ?_, fun g hg hm => ?_⟩, h.k0, fun b hb => ?_, fun b hb hk => ?_, h.len, ?_, (h.fr.trans a2 fun x hx => .inr (h.m0 x (qK x hx))).trans b2 fun x hx => .inr (h.m0 x (wK x hx))⟩
  · have := owns_fr a1 b2 fun k hk hm => by
      rcases a3 k hk with h1 | h1
      · exact hq.sep k h1 (by simpa using hm)
      · have := hMB k (wK k hm)
        omega
    simpa [Nat.add_assoc] using this
  · simpa [Nat.add_assoc] using b1
  · have hlt := (a1.lt g h1).2
    rcases b3 g h2 with h3 | h3
    · rcases a3 g h1 with h4 | h4
      · exact hq.sep g h4 h3
      · have := hMB g (hq.wM g h3)
        omega
    · omega
  · rcases key b hb with h1 | h1
    · have := hq.lt b h1
      omega
    · exact h1.2
  · exact hq.st _ _ _ b2 (fun b hb => hq.tw b (by simpa using hb)) (hq.st _ _ _ a2 (fun b hb => hq.tq b (by simpa using hb)) hq.t)
  · rcases a3 g hg with h1 | h1
    · exact hq.tq g h1 hm
    · have := hq.lt g (hq.tM g hm)
      omega
  · rcases b3 g hg with h1 | h1
    · exact hq.tw g h1 hm
    · have := hq.lt g (hq.tM g hm)
      omega
  · rcases key b hb with h1 | h1
    · exact h.m0 b h1
    · omega
  · rcases key b hb with h1 | h1
    · exact h.apart b h1 hk
    · have := hKB b hk
      omega
  · have := h.ll
    simp only [List.length_append, List.length_singleton]
    omega
end Go.Proofs.YtdlpbpohbkcafaaGreat
