/-
  Iterators that themselves go over an iterator: SeqL, a contract whose rounds keep all but the caller's own boxes and rows; the loop over one. No program in sight.
-/
import Derived.Test.YtnmkhoebijodhaaGreatDoorLoopK
namespace Go.Proofs.YtnmkhoebijodhaaGreatDoor
open Go.RowKit Go.Shelf

/-- A block of cells of the type T. -/
def ofT (T : Option TypeId) : Obj → Bool
  | .cells _ t _ => decide (T = some t)
  | _ => false
theorem ofT_not {T : Option TypeId} {o : Obj} (h : o.isCells = false) : ofT T o = false := by cases o <;> first | rfl | (cases h)
theorem ofT_none (o : Obj) : ofT none o = false := by cases o <;> simp [ofT]
theorem ofT_ne {T : Option TypeId} {cs : Array Value} {t : TypeId} {f : Nat × Nat} (h : T ≠ some t) : ofT T (.cells cs t f) = false := by simp [ofT, h]

/-- What lay there outside S lies there still: what lay below B, and all that is no row of the type T. -/
structure KeptT (B : Nat) (S : List Nat) (T : Option TypeId) (w w1 : World) : Prop where
  os : w1.os = w.os
  tape : w1.tape = w.tape
  output : w1.output = w.output
  size : w.heap.size ≤ w1.heap.size
  block : ∀ k o, w.heap[k]? = some o → k ∉ S → (k < B ∨ ofT T o = false) → w1.heap[k]? = some o
theorem KeptT.refl (B : Nat) (S : List Nat) (T : Option TypeId) (w : World) : KeptT B S T w w := ⟨rfl, rfl, rfl, Nat.le_refl _, fun _ _ h _ _ => h⟩
theorem KeptT.trans {B : Nat} {S : List Nat} {T : Option TypeId} {a b c : World} (h : KeptT B S T a b) (k : KeptT B S T b c) : KeptT B S T a c :=
  ⟨k.os.trans h.os, k.tape.trans h.tape, k.output.trans h.output, Nat.le_trans h.size k.size, fun i o hi hn hb => k.block i o (h.block i o hi hn hb) hn hb⟩
theorem KeptT.mono {B B' : Nat} {S S' : List Nat} {T : Option TypeId} {a b : World} (h : KeptT B S T a b) (hB : B' ≤ B) (hS : ∀ k ∈ S, k ∈ S') : KeptT B' S' T a b :=
  ⟨h.os, h.tape, h.output, h.size, fun i o hi hn hb => h.block i o hi (fun hm => hn (hS _ hm)) (hb.imp (fun h => by omega) id)⟩
theorem KeptT.fr {S : List Nat} {T : Option TypeId} {w w1 : World} (h : KeptT w.heap.size S T w w1) : Fr S w w1 :=
  ⟨h.os, h.tape, h.output, h.size, fun k hk hn => by
    obtain ⟨o, ho⟩ : ∃ o, w.heap[k]? = some o := ⟨_, Array.getElem?_eq_getElem hk⟩
    rw [ho]
    exact h.block k o ho hn (.inl hk)⟩
theorem KeptT.fr_none {B : Nat} {S : List Nat} {w w1 : World} (h : KeptT B S none w w1) : Fr S w w1 :=
  ⟨h.os, h.tape, h.output, h.size, fun k hk hn => by
    obtain ⟨o, ho⟩ : ∃ o, w.heap[k]? = some o := ⟨_, Array.getElem?_eq_getElem hk⟩
    rw [ho]
    exact h.block k o ho hn (.inr (ofT_none o))⟩
theorem Fr.keptT {S : List Nat} {w w1 : World} (h : Fr S w w1) (B : Nat) (T : Option TypeId) : KeptT B S T w w1 := ⟨h.os, h.tape, h.output, h.size, fun _ _ ho hn _ => h.heap ho hn⟩
theorem KeptT.putObj {B : Nat} {S : List Nat} {T : Option TypeId} {w W : World} (h : KeptT B S T w W) {l : Nat} (hl : l ∈ S) (o : Obj) : KeptT B S T w (W.putObj l o) :=
  have g := grownBy_putObj' W l o
  ⟨g.os.trans h.os, g.tape.trans h.tape, g.output.trans h.output, Nat.le_trans h.size g.size, fun k o' hk hn hb => (World.putObj_heap_other (by rintro rfl; exact hn hl)).trans (h.block k o' hk hn hb)⟩
theorem KeptT.putNew {B : Nat} {S : List Nat} {T : Option TypeId} {w W : World} (h : KeptT B S T w W) {l : Nat} (hl : w.heap.size ≤ l) (o : Obj) : KeptT B S T w (W.putObj l o) :=
  have g := grownBy_putObj' W l o
  ⟨g.os.trans h.os, g.tape.trans h.tape, g.output.trans h.output, Nat.le_trans h.size g.size, fun k o' hk hn hb => (World.putObj_heap_other (by have := lt_of hk; omega)).trans (h.block k o' hk hn hb)⟩
/-- A row of the caller's own has grown. -/
theorem KeptT.grown {B : Nat} {S : List Nat} {t : TypeId} {w w1 : World} {row : Option Nat} (hg : w.grownBy w1 row) (hr : ∀ k, row = some k → B ≤ k ∧ ∃ cs f, w.heap[k]? = some (.cells cs t f)) : KeptT B S (some t) w w1 :=
  ⟨hg.os, hg.tape, hg.output, hg.size, fun k o hk hn hb => (hg.block k (lt_of hk) (fun e => by
    obtain ⟨h1, cs, f, h2⟩ := hr k e.symm
    rw [hk] at h2
    cases h2
    rcases hb with hb | hb
    · omega
    · simp [ofT] at hb)).trans hk⟩
theorem ownFrom_keptT {β : Type} {B C : Nat} {S : List Nat} {T : Option TypeId} {w : World} (hC : w.heap.size ≤ C) : OwnFrom C (fun (_ : β) W => KeptT B S T w W) := fun _ X Y row hs hg hr =>
  ⟨hg.os.trans hs.os, hg.tape.trans hs.tape, hg.output.trans hs.output, Nat.le_trans hs.size hg.size, fun k o hk hn hb => (hg.block k (lt_of (hs.block k o hk hn hb)) (fun e => by have := (hr k e.symm).1; have := lt_of hk; omega)).trans (hs.block k o hk hn hb)⟩
theorem ownFrom_mono {β : Type} {B C : Nat} {J : β → World → Prop} (h : OwnFrom B J) (hC : B ≤ C) : OwnFrom C J := fun s X Y row hs hg hr => h s X Y row hs hg (fun r e => ⟨by have := (hr r e).1; omega, (hr r e).2⟩)
theorem ownFrom_at {β : Type} {B : Nat} (k : Nat) (o : β → Obj) (hk : k < B) : OwnFrom B (fun s W => W.heap[k]? = some (o s)) := fun s X Y row hs hg hr =>
  (hg.block k (lt_of hs) (fun e => by have := (hr k e.symm).1; omega)).trans hs

/-- An iterator's contract: B: where the caller's own rows begin; S: the boxes that it turns; T: the type of its rows. -/
def SeqL {α : Type} (P : Program) (g : Nat) (lb : Array Value) (encs : α → Array Value) (B : Nat) (S : List Nat) (T : Option TypeId) (Tt Tp : List α → Prop) (N : Nat) (w : World) : Prop :=
  ∀ (n l : Nat) (J Jx : List α → World → Prop) (W : World), Below w.heap.size w W → w.heap.size ≤ l → l < W.heap.size → OwnFrom W.heap.size J → OwnFrom W.heap.size Jx →
    (∀ m pre x W1, J pre W1 → pre.length < N → YieldAt Fence.wide m P l (encs x) W1 fun e W' =>
      KeptT B (l :: S) T W1 W' ∧ ((e = .returned (.bool true) ∧ J (pre ++ [x]) W') ∨ (e = .returned (.bool false) ∧ Jx (pre ++ [x]) W'))) →
    J [] W →
    CallsIn Fence.wide n P g (#[.func (.yield l) #[] #[]] ++ lb) W fun e W' => (∃ v, e = .returned v) ∧ ((∃ xs, Tt xs ∧ J xs W') ∨ (∃ pre, Tp pre ∧ Jx pre W'))

theorem own_abides {β : Type} {B : Nat} {J : β → World → Prop} (h : OwnFrom B J) : AbidesFrom B J := fun s W W' row hs hg hr =>
  h s W W' row hs hg (fun r e => ⟨(hr r e).1, by obtain ⟨_, o, ho, hw⟩ := hr r e; exact ⟨o, ho, Obj.not_cells_of_walk hw⟩⟩)
theorem room_none (k : Nat) : Fence.wide.room k := fun d h => by cases h
theorem RoundIn.deep {m m' : Nat} {P : Program} {l : Nat} {f : FuncId} {tmps : Array Value} {assign body : Code} {w : World} {R : Ending → World → Prop}
    (h : RoundIn Fence.wide m P l f tmps assign body w R) : RoundIn Fence.wide m' P l f tmps assign body w R := ⟨h.1, fun c cs _ => h.2 c cs (room_none _)⟩
/-- An iterator that ranges over none itself. -/
theorem SeqL.ofK {α : Type} {P : Program} {g : Nat} {lb : Array Value} {encs : α → Array Value} {B : Nat} {S : List Nat} {T : Option TypeId} {Tt Tp : List α → Prop} {N : Nat} {w : World}
    (h : ∀ l, w.heap.size ≤ l → SeqStopsK Fence.wide 4 P g lb encs (KeptT B (l :: S) T) Tt Tp N w) : SeqL P g lb encs B S T Tt Tp N w := fun n l J Jx W hW hl _ hJ hJx hY h0 =>
  callsIn_wide.2 (callsIn_wide.1 (h l hl l J Jx W hW (own_abides hJ) (own_abides hJx) (fun pre x W1 hj hlt => by
    obtain ⟨fn, tmps, assign, body, hy, hR⟩ := hY 3 pre x W1 hj hlt
    exact ⟨fn, tmps, assign, body, hy, hR.mono (fun e W' h => h.2.imp (fun h2 => ⟨h2.1, h2.2, h.1⟩) id)⟩) h0))

/-- How the body of a round may be left. -/
def iterPostL {α : Type} (B : Nat) (S : List Nat) (T : Option TypeId) (J : List α → World → Prop) (Jx : Code → List α → World → Prop) (xs : List α) (W : World) : Exit → Act → World → Prop
  | .normal, _, W' => KeptT B S T W W' ∧ J xs W'
  | .ret, _, W' => KeptT B S T W W' ∧ Jx .ret xs W'
  | .exit id, _, W' => KeptT B S T W W' ∧ Jx (.exit id) xs W'
  | .goto t, _, W' => KeptT B S T W W' ∧ Jx (.goto t) xs W'
  | .panic _, _, _ => False
  | .outgrown, _, _ => False

section
variable {n : Nat} {P : Program}

/-- What a round owes: its two halves in one. -/
def RoundL {α : Type} (n : Nat) (P : Program) (w : World) (B : Nat) (S : List Nat) (T : Option TypeId) (N : Nat) (J : List α → World → Prop) (Jx : Code → List α → World → Prop) (encs : α → Array Value) (ps : Array Tmp) (assign body : Code) (tmps : Array Value) : Prop :=
  ∀ (l : Nat) (pre : List α) (x : α) (W : World), w.heap.size ≤ l → J pre W → KeptT B S T w W → pre.length < N →
      assign.wpIn (Fence.wide.inRound l) n P (Exit.then (fun a' W' => Fr [] W W' ∧ ∀ W2 : World, (∀ (b : Nat) cs t f, W'.heap[b]? = some (Obj.cells cs t f) → W2.heap[b]? = some (Obj.cells cs t f)) → W2.heap.size = W'.heap.size → (∃ r, W2.heap[l]? = some (.loop r)) → J pre W2 → KeptT B S T w W2 →
        body.wpIn (Fence.wide.inRound l) n P (iterPostL B S T J Jx (pre ++ [x]) W2) a' W2) (fun _ _ _ => False)) { tmps := (ps.zip (encs x)).foldl (fun t (p, v) => t.setIfInBounds p v) tmps, defers := [] } W

/-- One call of yield. -/
theorem yield_round {α : Type} {ps : Array Tmp} {assign body : Code} {tmps : Array Value} {w W : World} {encs : α → Array Value} {B : Nat} {S : List Nat} {T : Option TypeId} {N : Nat} (hps : ∀ x, (encs x).size = ps.size)
    {J : List α → World → Prop} {Jx : Code → List α → World → Prop} (hJ : OwnFrom w.heap.size J) (hJx : ∀ c, OwnFrom w.heap.size (Jx c))
    (hround : RoundL n P w B S T N J Jx encs ps assign body tmps) (fn : FuncId) (dfs L : Nat) (hL : w.heap.size ≤ L) (hLS : L ∉ S) (m : Nat) (pre : List α) (x : α) (hlen : pre.length < N) (hj : J pre W) (hf : KeptT B S T w W)
    (hl : W.heap[L]? = some (.loop { state := .ready, pending := none, fn, tmps, params := ps, assign, body, defers := dfs })) :
    YieldAt Fence.wide m P L (encs x) W fun e W' => KeptT B (L :: S) T W W' ∧
      ((e = .returned (.bool true) ∧ J (pre ++ [x]) W' ∧ KeptT B S T w W' ∧ W'.heap[L]? = some (.loop { state := .ready, pending := none, fn, tmps, params := ps, assign, body, defers := dfs })) ∨
      (e = .returned (.bool false) ∧ ∃ c, Jx c (pre ++ [x]) W' ∧ W'.heap[L]? = some (.loop { state := .done, pending := some c, fn, tmps, params := ps, assign, body, defers := dfs }))) := by
  have hy := run_yield (P := P) (args := encs x) hl (hps x)
  refine ⟨fn, _, assign, body, hy, RoundIn.deep (m := n) (roundIn_of_wpIn trivial (wpIn_mono (hround L pre x W hL hj hf hlen) ?_))⟩
  clear hy
  intro e a' W' h
  cases e with
  | normal =>
    obtain ⟨h1, hb⟩ := h
    have hl1 := h1.heap hl (by simp)
    have hlt := lt_of hl1
    obtain ⟨W2, hW2⟩ : ∃ W2, W'.putObj L (.loop { state := .busy, pending := none, fn, tmps, params := ps, assign, body, defers := dfs }) = W2 := ⟨_, rfl⟩
    have hl2 : W2.heap[L]? = some (.loop { state := .busy, pending := none, fn, tmps, params := ps, assign, body, defers := dfs }) := by rw [← hW2]; exact World.putObj_heap_same hlt
    have hk2 : KeptT B (L :: S) T W W2 := by rw [← hW2]; exact ((h1.keptT B T).mono (Nat.le_refl _) (by simp)).putObj (by simp) _
    have hkw : KeptT B S T w W2 := by rw [← hW2]; exact (hf.trans ((h1.keptT B T).mono (Nat.le_refl _) (by simp))).putNew hL _
    refine ⟨W2, by rw [← hW2]; exact run_beginRound hl1 rfl, ?_⟩
    have hj2 : J pre W2 := by
      have hjW' : J pre W' := hJ pre W W' none hj ⟨h1.os, h1.tape, h1.output, h1.size, fun k hk _ => h1.block k hk (by simp)⟩ (fun r e => by cases e)
      rw [← hW2]; exact hJ.putObj _ hjW' hL hl1 rfl
    refine wpIn_mono (hb W2 (fun b cs t f hc => by
      rw [← hW2]
      refine (World.putObj_heap_other ?_).trans hc
      rintro rfl
      rw [hl1] at hc
      cases hc) (by rw [← hW2]; simp) ⟨_, hl2⟩ hj2 hkw) ?_
    have stop : ∀ (c : Code) (W3 : World), KeptT B S T W2 W3 → Jx c (pre ++ [x]) W3 →
        ∃ b W4, (Instr.endRound L (some c)).run P W3 = .ok b W4 ∧ KeptT B (L :: S) T W W4 ∧ ((Ending.returned b = .returned (.bool true) ∧ J (pre ++ [x]) W4 ∧ KeptT B S T w W4 ∧ W4.heap[L]? = some (.loop { state := .ready, pending := none, fn, tmps, params := ps, assign, body, defers := dfs })) ∨
          (Ending.returned b = .returned (.bool false) ∧ ∃ c, Jx c (pre ++ [x]) W4 ∧ W4.heap[L]? = some (.loop { state := .done, pending := some c, fn, tmps, params := ps, assign, body, defers := dfs }))) := by
      intro c W3 hk3 hx
      have hl3 := hk3.block _ _ hl2 hLS (.inr rfl)
      exact ⟨_, _, run_endRound (P := P) (some c) hl3, (hk2.trans (hk3.mono (Nat.le_refl _) (fun k hk => by simp [hk]))).putObj (by simp) _, .inr ⟨rfl, c, (hJx c).putObj _ hx hL hl3 rfl, World.putObj_heap_same (lt_of hl3)⟩⟩
    rintro e a3 W3 hp
    cases e with
    | normal =>
      obtain ⟨hk3, hi3⟩ := hp
      have hl3 := hk3.block _ _ hl2 hLS (.inr rfl)
      exact ⟨_, _, run_endRound (P := P) none hl3, (hk2.trans (hk3.mono (Nat.le_refl _) (fun k hk => by simp [hk]))).putObj (by simp) _, .inl ⟨rfl, hJ.putObj _ hi3 hL hl3 rfl, (hkw.trans hk3).putNew hL _, World.putObj_heap_same (lt_of hl3)⟩⟩
    | ret => exact stop _ W3 hp.1 hp.2
    | exit id => exact stop _ W3 hp.1 hp.2
    | goto t => exact stop _ W3 hp.1 hp.2
    | panic ch => exact hp.elim
    | outgrown => exact hp.elim
  | _ => exact h

/-- The loop, in a function's own body. -/
theorem range_L {α : Type} {g : Operand} {ps : Array Tmp} {assign body : Code} {Q : Exit → Act → World → Prop} {a : Act} {w : World}
    {gf : Nat} {lb : Array Value} (hg : a.eval g = .func (.func gf) #[] lb) (eg : ∀ args w, (callFunc gf args).run P w = .ok (.enter gf args) w)
    {encs : α → Array Value} (B : Nat) (S : List Nat) (T : Option TypeId) (hS : ∀ k ∈ S, k < w.heap.size) {Tt Tp : List α → Prop} {N : Nat} (hseq : SeqL P gf lb encs B S T Tt Tp N w) (hps : ∀ x, (encs x).size = ps.size)
    (J : List α → World → Prop) (Jx : Code → List α → World → Prop) (hJ : OwnFrom w.heap.size J) (hJx : ∀ c, OwnFrom w.heap.size (Jx c)) (h0 : J [] w)
    (hround : RoundL n P w B S T N J Jx encs ps assign body a.tmps)
    (hdone : ∀ (D : Nat) (xs : List α) (W : World), w.heap.size ≤ D → Tt xs → J xs W → KeptT B S T w W → W.heap[D]? = some (.deferred (some [])) → Q .normal { a with defers := { target := .collected D, args := #[] } :: a.defers } W)
    (hstop : ∀ (D : Nat) (c : Code) (pre : List α) (W : World), w.heap.size ≤ D → Tp pre → Jx c pre W → W.heap[D]? = some (.deferred (some [])) → c.wpIn Fence.wide n P Q { a with defers := { target := .collected D, args := #[] } :: a.defers } W) :
    (Code.rangeFunc g ps assign body).wpIn Fence.wide n P Q a w := by
  refine wpIn_rangeFunc ?_
  intro fn hfn
  obtain ⟨W1, hW1⟩ : ∃ W1, (w.alloc (.deferred (some []))).alloc (.loop { state := .ready, pending := none, fn, tmps := a.tmps, params := ps, assign, body, defers := w.heap.size }) = W1 := ⟨_, rfl⟩
  have hL1 : W1.heap[w.heap.size + 1]? = some (.loop { state := .ready, pending := none, fn, tmps := a.tmps, params := ps, assign, body, defers := w.heap.size }) := by
    rw [← hW1]; have := World.alloc_heap_new (w.alloc (.deferred (some []))) (.loop { state := .ready, pending := none, fn, tmps := a.tmps, params := ps, assign, body, defers := w.heap.size }); rwa [World.size_alloc] at this
  have hK1 : W1.heap[w.heap.size]? = some (.deferred (some [])) := by
    rw [← hW1]; exact (Below.heap_alloc _ _ _ (by simp)).trans (World.alloc_heap_new w _)
  have hz1 : W1.heap.size = w.heap.size + 2 := by rw [← hW1]; simp
  have hF1 : Fr S w W1 := by rw [← hW1]; exact ((Fr.refl S w).alloc _).alloc _
  have hB1 : Below w.heap.size w W1 := by rw [← hW1]; exact ((((Fr.refl [] w).alloc _).alloc _)).below
  have hLS : w.heap.size + 1 ∉ S := fun h => by have := hS _ h; omega
  have hDS : w.heap.size ∉ S := fun h => by have := hS _ h; omega
  refine ⟨w.heap.size + 1, [{ target := .collected w.heap.size, args := #[] }], W1, { target := .fn (.func gf) lb, args := #[.func (.yield (w.heap.size + 1)) #[] #[]] }, W1, gf,
    #[.func (.yield (w.heap.size + 1)) #[] #[]] ++ lb, W1, ?_, ?_, ?_, ?_, (fun h => by cases h), ?_⟩
  · rw [← hW1]; exact run_enterLoop_outer _ _ _ _ _
  · simp only [resolve, hg]
    simp [go_sem]
  · intro f' _; trivial
  · simp [invoke, go_sem, eg]
  · refine (hseq (n - 1) (w.heap.size + 1)
      (fun pre W => (J pre W ∧ KeptT B S T w W) ∧ W.heap[w.heap.size + 1]? = some (.loop { state := .ready, pending := none, fn, tmps := a.tmps, params := ps, assign, body, defers := w.heap.size }) ∧ W.heap[w.heap.size]? = some (.deferred (some [])))
      (fun pre W => ∃ c, Jx c pre W ∧ W.heap[w.heap.size + 1]? = some (.loop { state := .done, pending := some c, fn, tmps := a.tmps, params := ps, assign, body, defers := w.heap.size }) ∧ W.heap[w.heap.size]? = some (.deferred (some [])))
      W1 hB1 (by omega) (by omega) ?_ ?_ ?_ ⟨⟨by rw [← hW1]; exact hJ.alloc _ (hJ.alloc _ h0), hF1.keptT B T⟩, hL1, hK1⟩).mono ?_
    · exact ((ownFrom_mono hJ (by omega)).and (ownFrom_keptT (by omega))).and ((ownFrom_at _ (fun _ => _) (by omega)).and (ownFrom_at _ (fun _ => _) (by omega)))
    · intro s X Y row hs hg' hr
      obtain ⟨c, hc, hl, hk⟩ := hs
      exact ⟨c, ownFrom_mono (hJx c) (by omega) s X Y row hc hg' hr, ownFrom_at (B := W1.heap.size) (β := Unit) _ (fun _ => _) (by omega) () X Y row hl hg' hr, ownFrom_at (B := W1.heap.size) (β := Unit) _ (fun _ => _) (by omega) () X Y row hk hg' hr⟩
    · rintro m pre x W ⟨⟨hj, hf⟩, hl, hk⟩ hlen
      obtain ⟨fn2, tm, asg, bo, hy, hR⟩ := yield_round hps hJ hJx hround fn w.heap.size (w.heap.size + 1) (by omega) hLS m pre x hlen hj hf hl
      refine ⟨fn2, tm, asg, bo, hy, RoundIn.mono hR ?_⟩
      rintro e W' ⟨h5, (⟨rfl, h1, h2, h3⟩ | ⟨rfl, c, h1, h2⟩)⟩
      · exact ⟨h5, .inl ⟨rfl, ⟨h1, h2⟩, h3, h5.block _ _ hk (by simp [hDS]) (.inr rfl)⟩⟩
      · exact ⟨h5, .inr ⟨rfl, c, h1, h2, h5.block _ _ hk (by simp [hDS]) (.inr rfl)⟩⟩
    · rintro e W2 ⟨⟨v, rfl⟩, (⟨xs, hT, ⟨hj, hf⟩, hl, hk⟩ | ⟨pre, hTp, c, hj, hl, hk⟩)⟩
      · exact ⟨none, _, run_endLoop (P := P) hl (by simp), hdone _ xs _ (Nat.le_refl _) hT (hJ.putObj _ hj (by omega) hl rfl) (hf.putNew (by omega) _) ((World.putObj_heap_other (by omega)).trans hk)⟩
      · exact ⟨some c, _, run_endLoop (P := P) hl (by simp), hstop _ c pre _ (Nat.le_refl _) hTp ((hJx c).putObj _ hj (by omega) hl rfl) ((World.putObj_heap_other (by omega)).trans hk)⟩

/-- The loop within a round of loop l₀. -/
theorem range_LN {α : Type} {g : Operand} {ps : Array Tmp} {assign body : Code} {Q : Exit → Act → World → Prop} {a : Act} {w : World}
    {l₀ : Nat} {r₀ : Loop} (hl₀ : w.heap[l₀]? = some (.loop r₀)) {gf : Nat} {lb : Array Value} (hg : a.eval g = .func (.func gf) #[] lb) (eg : ∀ args w, (callFunc gf args).run P w = .ok (.enter gf args) w)
    {encs : α → Array Value} (B : Nat) (S : List Nat) (T : Option TypeId) (hS : ∀ k ∈ S, k < w.heap.size) {Tt Tp : List α → Prop} {N : Nat} (hseq : SeqL P gf lb encs B S T Tt Tp N w) (hps : ∀ x, (encs x).size = ps.size)
    (J : List α → World → Prop) (Jx : Code → List α → World → Prop) (hJ : OwnFrom w.heap.size J) (hJx : ∀ c, OwnFrom w.heap.size (Jx c)) (h0 : J [] w)
    (hround : RoundL n P w B S T N J Jx encs ps assign body a.tmps)
    (hdone : ∀ (xs : List α) (W : World), Tt xs → J xs W → KeptT B S T w W → Q .normal a W)
    (hstop : ∀ (c : Code) (pre : List α) (W : World), Tp pre → Jx c pre W → c.wpIn (Fence.wide.inRound l₀) n P Q a W) :
    (Code.rangeFunc g ps assign body).wpIn (Fence.wide.inRound l₀) n P Q a w := by
  refine wpIn_rangeFunc ?_
  intro fn hfn
  obtain ⟨W1, hW1⟩ : ∃ W1, w.alloc (.loop { state := .ready, pending := none, fn, tmps := a.tmps, params := ps, assign, body, defers := r₀.defers }) = W1 := ⟨_, rfl⟩
  have hL1 : W1.heap[w.heap.size]? = some (.loop { state := .ready, pending := none, fn, tmps := a.tmps, params := ps, assign, body, defers := r₀.defers }) := by
    rw [← hW1]; exact World.alloc_heap_new w _
  have hz1 : W1.heap.size = w.heap.size + 1 := by rw [← hW1]; simp
  have hF1 : Fr S w W1 := by rw [← hW1]; exact (Fr.refl S w).alloc _
  have hB1 : Below w.heap.size w W1 := by rw [← hW1]; exact ((Fr.refl [] w).alloc _).below
  have hLS : w.heap.size ∉ S := fun h => by have := hS _ h; omega
  refine ⟨w.heap.size, [], W1, { target := .fn (.func gf) lb, args := #[.func (.yield w.heap.size) #[] #[]] }, W1, gf,
    #[.func (.yield w.heap.size) #[] #[]] ++ lb, W1, ?_, ?_, ?_, ?_, (fun h => by cases h), ?_⟩
  · rw [← hW1]; exact run_enterLoop_inner hl₀ _ _ _ _ _
  · simp only [resolve, hg]
    simp [go_sem]
  · intro f' _; trivial
  · simp [invoke, go_sem, eg]
  · refine CallsIn.inRound l₀ ((hseq (n - 1) w.heap.size
      (fun pre W => (J pre W ∧ KeptT B S T w W) ∧ W.heap[w.heap.size]? = some (.loop { state := .ready, pending := none, fn, tmps := a.tmps, params := ps, assign, body, defers := r₀.defers }))
      (fun pre W => ∃ c, Jx c pre W ∧ W.heap[w.heap.size]? = some (.loop { state := .done, pending := some c, fn, tmps := a.tmps, params := ps, assign, body, defers := r₀.defers }))
      W1 hB1 (Nat.le_refl _) (by omega) ?_ ?_ ?_ ⟨⟨by rw [← hW1]; exact hJ.alloc _ h0, hF1.keptT B T⟩, hL1⟩).mono ?_)
    · exact ((ownFrom_mono hJ (by omega)).and (ownFrom_keptT (by omega))).and (ownFrom_at _ (fun _ => _) (by omega))
    · intro s X Y row hs hg' hr
      obtain ⟨c, hc, hl⟩ := hs
      exact ⟨c, ownFrom_mono (hJx c) (by omega) s X Y row hc hg' hr, ownFrom_at (B := W1.heap.size) (β := Unit) _ (fun _ => _) (by omega) () X Y row hl hg' hr⟩
    · rintro m pre x W ⟨⟨hj, hf⟩, hl⟩ hlen
      obtain ⟨fn2, tm, asg, bo, hy, hR⟩ := yield_round hps hJ hJx hround fn r₀.defers w.heap.size (Nat.le_refl _) hLS m pre x hlen hj hf hl
      refine ⟨fn2, tm, asg, bo, hy, RoundIn.mono hR ?_⟩
      rintro e W' ⟨h5, (⟨rfl, h1, h2, h3⟩ | ⟨rfl, c, h1, h2⟩)⟩
      · exact ⟨h5, .inl ⟨rfl, ⟨h1, h2⟩, h3⟩⟩
      · exact ⟨h5, .inr ⟨rfl, c, h1, h2⟩⟩
    · rintro e W2 ⟨⟨v, rfl⟩, (⟨xs, hT, ⟨hj, hf⟩, hl⟩ | ⟨pre, hTp, c, hj, hl⟩)⟩
      · exact ⟨none, _, run_endLoop (P := P) hl (by simp), hdone xs _ hT (hJ.putObj _ hj (Nat.le_refl _) hl rfl) (hf.putNew (Nat.le_refl _) _)⟩
      · exact ⟨some c, _, run_endLoop (P := P) hl (by simp), hstop c pre _ hTp ((hJx c).putObj _ hj (Nat.le_refl _) hl rfl)⟩
end
end Go.Proofs.YtnmkhoebijodhaaGreatDoor
