/-
  A loop over an iterator, for a caller that turns the boxes S alone: the round's two halves (assign, body) in one. No program in sight.
-/
import Derived.Test.YtnmkhoebijodhaaGreatDoorIterK
namespace Go.Proofs.YtnmkhoebijodhaaGreatDoor
open Go.RowKit Go.Shelf

/-- What lay below n0 outside S lies there still. -/
structure Kept (n0 : Nat) (S : List Nat) (w w1 : World) : Prop where
  os : w1.os = w.os
  tape : w1.tape = w.tape
  output : w1.output = w.output
  size : w.heap.size ≤ w1.heap.size
  block : ∀ k, k < n0 → k ∉ S → w1.heap[k]? = w.heap[k]?
theorem Kept.trans {n0 : Nat} {S : List Nat} {a b c : World} (h : Kept n0 S a b) (k : Kept n0 S b c) : Kept n0 S a c :=
  ⟨k.os.trans h.os, k.tape.trans h.tape, k.output.trans h.output, Nat.le_trans h.size k.size, fun i hi hn => (k.block i hi hn).trans (h.block i hi hn)⟩
theorem Kept.fr {S : List Nat} {w w1 : World} (h : Kept w.heap.size S w w1) : Fr S w w1 := ⟨h.os, h.tape, h.output, h.size, h.block⟩
theorem Fr.kept {n0 : Nat} {S : List Nat} {w w1 : World} (h : Fr S w w1) (hn : n0 ≤ w.heap.size) : Kept n0 S w w1 := ⟨h.os, h.tape, h.output, h.size, fun k hk => h.block k (by omega)⟩
theorem kept_b {n0 : Nat} {S : List Nat} (W : World) (l : Nat) (o' : Obj) (hl : n0 ≤ l) : Kept n0 S W (W.putObj l o') :=
  have h := grownBy_putObj' W l o'
  ⟨h.os, h.tape, h.output, h.size, fun k hk _ => World.putObj_heap_other (by omega)⟩
theorem Fr.putObj {S : List Nat} {w X : World} (h : Fr S w X) {l : Nat} (hl : w.heap.size ≤ l) (o : Obj) : Fr S w (X.putObj l o) :=
  have g := grownBy_putObj' X l o
  ⟨g.os.trans h.os, g.tape.trans h.tape, g.output.trans h.output, Nat.le_trans h.size g.size, fun k hk hn => (World.putObj_heap_other (by omega)).trans (h.block k hk hn)⟩
theorem ownFrom_fr {β : Type} (S : List Nat) (w : World) : OwnFrom w.heap.size (fun (_ : β) W => Fr S w W) := fun _ X Y row hs hg hr =>
  ⟨hg.os.trans hs.os, hg.tape.trans hs.tape, hg.output.trans hs.output, Nat.le_trans hs.size hg.size, fun k hk hn => (hg.block k (Nat.lt_of_lt_of_le hk hs.size) (fun e => by have := (hr k e.symm).1; omega)).trans (hs.block k hk hn)⟩
theorem ownFrom_block {β : Type} (B b : Nat) (f : β → Obj) (h : b < B) : OwnFrom B (fun s W => W.heap[b]? = some (f s)) := fun s X Y row hs hg hr =>
  (hg.block b (lt_of hs) (fun e => by have := (hr b e.symm).1; omega)).trans hs
theorem Fr.keepsFrom {B : Nat} {S : List Nat} {w w1 : World} (h : Fr S w w1) (hS : ∀ k ∈ S, k < B) : KeepsFrom B w w1 :=
  ⟨h.size, fun k o hk ho _ => h.heap ho (fun hm => by have := hS k hm; omega)⟩

/-- Whatever abides the loop's own book-keeping and holds of W holds of W2. -/
def Rel (B : Nat) (W W2 : World) : Prop := ∀ φ : World → Prop, OwnFrom B (fun (_ : Unit) X => φ X) → φ W → φ W2
theorem Rel.block {B : Nat} {W W2 : World} (h : Rel B W W2) {b : Nat} {cs : Array Value} {t : TypeId} {f : Nat × Nat} (hb : W.heap[b]? = some (.cells cs t f)) : W2.heap[b]? = some (.cells cs t f) :=
  h (fun X => X.heap[b]? = some (.cells cs t f)) (fun _ X Y row hs hg hr => (hg.block b (lt_of hs) (fun e => by
    obtain ⟨_, o, ho, hc⟩ := hr b e.symm
    rw [hs] at ho
    cases ho
    cases hc)).trans hs) hb

/-- How the body of a round may be left. -/
def iterPost {α : Type} (S : List Nat) (J : List α → World → Prop) (Jx : Code → List α → World → Prop) (xs : List α) (W : World) : Exit → Act → World → Prop
  | .normal, _, W' => Fr S W W' ∧ J xs W'
  | .ret, _, W' => Fr S W W' ∧ Jx .ret xs W'
  | .exit id, _, W' => Fr S W W' ∧ Jx (.exit id) xs W'
  | .goto t, _, W' => Fr S W W' ∧ Jx (.goto t) xs W'
  | .panic _, _, _ => False
  | .outgrown, _, _ => False

/-- The same, for a body that turns rows of its own too. -/
def iterPostK {α : Type} (B : Nat) (S : List Nat) (J : List α → World → Prop) (Jx : Code → List α → World → Prop) (xs : List α) (W : World) : Exit → Act → World → Prop
  | .normal, _, W' => KeepsFrom B W W' ∧ Kept B S W W' ∧ J xs W'
  | .ret, _, W' => KeepsFrom B W W' ∧ Jx .ret xs W'
  | .exit id, _, W' => KeepsFrom B W W' ∧ Jx (.exit id) xs W'
  | .goto t, _, W' => KeepsFrom B W W' ∧ Jx (.goto t) xs W'
  | .panic _, _, _ => False
  | .outgrown, _, _ => False

variable {F : Fence} {n : Nat} {P : Program}

theorem iterPost_own {α : Type} {S : List Nat} {w W : World} {J : List α → World → Prop} {Jx : Code → List α → World → Prop} {xs : List α} (hW : Fr S w W) :
    ∀ (e : Exit) (a : Act) (W' : World), iterPostK w.heap.size S J Jx xs W e a W' → ownPostG w.heap.size (Kept w.heap.size S) (fun xs W => J xs W ∧ Fr S w W) Jx xs W e a W' := by
  intro e a W' h
  cases e with
  | normal => exact ⟨h.1, h.2.1, h.2.2, ((hW.kept (Nat.le_refl _)).trans h.2.1).fr⟩
  | _ => exact h
theorem iterPost_K {α : Type} {S : List Nat} {w W : World} {J : List α → World → Prop} {Jx : Code → List α → World → Prop} {xs : List α} (hS : ∀ k ∈ S, k < w.heap.size) (hW : Fr S w W) :
    ∀ (e : Exit) (a : Act) (W' : World), iterPost S J Jx xs W e a W' → iterPostK w.heap.size S J Jx xs W e a W' := by
  intro e a W' h
  cases e with
  | normal => exact ⟨h.1.keepsFrom hS, h.1.kept hW.size, h.2⟩
  | ret => exact ⟨h.1.keepsFrom hS, h.2⟩
  | exit => exact ⟨h.1.keepsFrom hS, h.2⟩
  | goto => exact ⟨h.1.keepsFrom hS, h.2⟩
  | panic => exact h
  | outgrown => exact h

/-- The loop, in a function's own body. -/
theorem range_iterK {α : Type} {g : Operand} {ps : Array Tmp} {assign body : Code} {Q : Exit → Act → World → Prop} {a : Act} {w : World}
    (hro : F.round = none) (h1 : 1 ≤ n) {gf : Nat} {lb : Array Value} (hg : a.eval g = .func (.func gf) #[] lb) (hFg : F.fn gf) (eg : ∀ args w, (callFunc gf args).run P w = .ok (.enter gf args) w)
    {encs : α → Array Value} (S : List Nat) {T Tp : List α → Prop} {N : Nat} (hseq : SeqStopsK F (n - 1) P gf lb encs (Kept w.heap.size S) T Tp N w) (hps : ∀ x, (encs x).size = ps.size)
    (J : List α → World → Prop) (Jx : Code → List α → World → Prop) (hJ : OwnFrom w.heap.size J) (hJx : ∀ c, OwnFrom w.heap.size (Jx c)) (h0 : J [] w)
    (hround : ∀ (l : Nat) (pre : List α) (x : α) (W : World), J pre W → Fr S w W →
      assign.wpIn (F.inRound l) (n - 1 - 1) P (Exit.then (fun a' W' => Fr [] W W' ∧ J pre W' ∧ ∀ (l2 : Nat) (pre2 : List α) (W2 : World), Rel w.heap.size W' W2 → w.heap.size ≤ l2 → (∃ r, W2.heap[l2]? = some (.loop r)) → J pre2 W2 → Fr S w W2 → pre2.length < N →
        body.wpIn (F.inRound l2) (n - 1 - 1) P (iterPostK w.heap.size S J Jx (pre2 ++ [x]) W2) a' W2) (fun _ _ _ => False)) { tmps := (ps.zip (encs x)).foldl (fun t (p, v) => t.setIfInBounds p v) a.tmps, defers := [] } W)
    (hdone : ∀ (D : Nat) (xs : List α) (W : World), w.heap.size ≤ D → T xs → J xs W → Fr S w W → W.heap[D]? = some (.deferred (some [])) → Q .normal { a with defers := { target := .collected D, args := #[] } :: a.defers } W)
    (hstop : ∀ (D : Nat) (c : Code) (pre : List α) (W : World), w.heap.size ≤ D → Tp pre → Jx c pre W → W.heap[D]? = some (.deferred (some [])) → c.wpIn F n P Q { a with defers := { target := .collected D, args := #[] } :: a.defers } W) :
    (Code.rangeFunc g ps assign body).wpIn F n P Q a w := by
  refine wpIn_rangeFunc_ownH hro h1 hg hFg eg hseq (fun h k => h.trans k) (fun W l _ o' hl _ _ _ => kept_b W l o' hl) (Below.refl _ _) hps
    (fun xs W => J xs W ∧ Fr S w W) Jx (hJ.and (ownFrom_fr S w)) hJx ⟨h0, Fr.refl _ _⟩
    (fun x a' W => ∀ (l2 : Nat) (pre2 : List α) (W2 : World), Rel w.heap.size W W2 → w.heap.size ≤ l2 → (∃ r, W2.heap[l2]? = some (.loop r)) → J pre2 W2 → Fr S w W2 → pre2.length < N →
        body.wpIn (F.inRound l2) (n - 1 - 1) P (iterPostK w.heap.size S J Jx (pre2 ++ [x]) W2) a' W2)
    ?_ ?_ ?_ ?_ hstop
  · intro x a' _ X Y row hs hg hr l2 pre2 W2 hrel
    exact hs l2 pre2 W2 (fun φ hφ h => hrel φ hφ (hφ () X Y row h hg hr))
  · rintro l pre x W K ⟨hj, hf⟩ hK
    refine wpIn_mono (hround l pre x W hj hf) ?_
    intro e a' W' h
    cases e with
    | normal =>
      obtain ⟨h1, h2, h3⟩ := h
      exact hK a' W' (h1.keepsFrom (by simp)) ((h1.mono (by simp)).kept hf.size) ⟨h2, hf.trans0 h1⟩ h3
    | _ => exact h
  · rintro l pre x a' W hl hr ⟨hj, hf⟩ hax hlt
    exact wpIn_mono (hax l pre W (fun _ _ h => h) hl hr hj hf hlt) (iterPost_own hf)
  · rintro D xs W hD hT ⟨hj, hf⟩ hK
    exact hdone D xs W hD hT hj hf hK

theorem range_iter {α : Type} {g : Operand} {ps : Array Tmp} {assign body : Code} {Q : Exit → Act → World → Prop} {a : Act} {w : World}
    (hro : F.round = none) (h1 : 1 ≤ n) {gf : Nat} {lb : Array Value} (hg : a.eval g = .func (.func gf) #[] lb) (hFg : F.fn gf) (eg : ∀ args w, (callFunc gf args).run P w = .ok (.enter gf args) w)
    {encs : α → Array Value} (S : List Nat) (hS : ∀ k ∈ S, k < w.heap.size) {T Tp : List α → Prop} {N : Nat} (hseq : SeqStopsK F (n - 1) P gf lb encs (Kept w.heap.size S) T Tp N w) (hps : ∀ x, (encs x).size = ps.size)
    (J : List α → World → Prop) (Jx : Code → List α → World → Prop) (hJ : OwnFrom w.heap.size J) (hJx : ∀ c, OwnFrom w.heap.size (Jx c)) (h0 : J [] w)
    (hround : ∀ (l : Nat) (pre : List α) (x : α) (W : World), J pre W → Fr S w W →
      assign.wpIn (F.inRound l) (n - 1 - 1) P (Exit.then (fun a' W' => Fr [] W W' ∧ J pre W' ∧ ∀ (l2 : Nat) (pre2 : List α) (W2 : World), Rel w.heap.size W' W2 → w.heap.size ≤ l2 → (∃ r, W2.heap[l2]? = some (.loop r)) → J pre2 W2 → Fr S w W2 → pre2.length < N →
        body.wpIn (F.inRound l2) (n - 1 - 1) P (iterPost S J Jx (pre2 ++ [x]) W2) a' W2) (fun _ _ _ => False)) { tmps := (ps.zip (encs x)).foldl (fun t (p, v) => t.setIfInBounds p v) a.tmps, defers := [] } W)
    (hdone : ∀ (D : Nat) (xs : List α) (W : World), w.heap.size ≤ D → T xs → J xs W → Fr S w W → W.heap[D]? = some (.deferred (some [])) → Q .normal { a with defers := { target := .collected D, args := #[] } :: a.defers } W)
    (hstop : ∀ (D : Nat) (c : Code) (pre : List α) (W : World), w.heap.size ≤ D → Tp pre → Jx c pre W → W.heap[D]? = some (.deferred (some [])) → c.wpIn F n P Q { a with defers := { target := .collected D, args := #[] } :: a.defers } W) :
    (Code.rangeFunc g ps assign body).wpIn F n P Q a w := by
  refine range_iterK hro h1 hg hFg eg S hseq hps J Jx hJ hJx h0 ?_ hdone hstop
  intro l pre x W hj hf
  refine wpIn_mono (hround l pre x W hj hf) ?_
  intro e a' W' h
  cases e with
  | normal =>
    obtain ⟨h1, h2, h3⟩ := h
    exact ⟨h1, h2, fun l2 pre2 W2 hrel hl hr hj2 hf2 hlt => wpIn_mono (h3 l2 pre2 W2 hrel hl hr hj2 hf2 hlt) (iterPost_K hS hf2)⟩
  | _ => exact h

/-- The loop within a round of loop l₀. -/
theorem range_iterKN {α : Type} {g : Operand} {ps : Array Tmp} {assign body : Code} {Q : Exit → Act → World → Prop} {a : Act} {w : World}
    {l₀ : Nat} {r₀ : Loop} (hro : F.round = some l₀) (hl₀ : w.heap[l₀]? = some (.loop r₀)) (h1 : 1 ≤ n) {gf : Nat} {lb : Array Value} (hg : a.eval g = .func (.func gf) #[] lb) (hFg : F.fn gf) (eg : ∀ args w, (callFunc gf args).run P w = .ok (.enter gf args) w)
    {encs : α → Array Value} (S : List Nat) {T Tp : List α → Prop} {N : Nat} (hseq : SeqStopsK F (n - 1) P gf lb encs (Kept w.heap.size S) T Tp N w) (hps : ∀ x, (encs x).size = ps.size)
    (J : List α → World → Prop) (Jx : Code → List α → World → Prop) (hJ : OwnFrom w.heap.size J) (hJx : ∀ c, OwnFrom w.heap.size (Jx c)) (h0 : J [] w)
    (hround : ∀ (l : Nat) (pre : List α) (x : α) (W : World), J pre W → Fr S w W →
      assign.wpIn (F.inRound l) (n - 1 - 1) P (Exit.then (fun a' W' => Fr [] W W' ∧ J pre W' ∧ ∀ (l2 : Nat) (pre2 : List α) (W2 : World), Rel w.heap.size W' W2 → w.heap.size ≤ l2 → (∃ r, W2.heap[l2]? = some (.loop r)) → J pre2 W2 → Fr S w W2 → pre2.length < N →
        body.wpIn (F.inRound l2) (n - 1 - 1) P (iterPostK w.heap.size S J Jx (pre2 ++ [x]) W2) a' W2) (fun _ _ _ => False)) { tmps := (ps.zip (encs x)).foldl (fun t (p, v) => t.setIfInBounds p v) a.tmps, defers := [] } W)
    (hdone : ∀ (xs : List α) (W : World), T xs → J xs W → Fr S w W → Q .normal a W)
    (hstop : ∀ (c : Code) (pre : List α) (W : World), Tp pre → Jx c pre W → c.wpIn F n P Q a W) :
    (Code.rangeFunc g ps assign body).wpIn F n P Q a w := by
  refine wpIn_rangeFunc_ownN hro hl₀ h1 hg hFg eg hseq (fun h k => h.trans k) (fun W l _ o' hl _ _ _ => kept_b W l o' hl) (Below.refl _ _) hps
    (fun xs W => J xs W ∧ Fr S w W) Jx (hJ.and (ownFrom_fr S w)) hJx ⟨h0, Fr.refl _ _⟩
    (fun x a' W => ∀ (l2 : Nat) (pre2 : List α) (W2 : World), Rel w.heap.size W W2 → w.heap.size ≤ l2 → (∃ r, W2.heap[l2]? = some (.loop r)) → J pre2 W2 → Fr S w W2 → pre2.length < N →
        body.wpIn (F.inRound l2) (n - 1 - 1) P (iterPostK w.heap.size S J Jx (pre2 ++ [x]) W2) a' W2)
    ?_ ?_ ?_ ?_ hstop
  · intro x a' _ X Y row hs hg hr l2 pre2 W2 hrel
    exact hs l2 pre2 W2 (fun φ hφ h => hrel φ hφ (hφ () X Y row h hg hr))
  · rintro l pre x W K ⟨hj, hf⟩ hK
    refine wpIn_mono (hround l pre x W hj hf) ?_
    intro e a' W' h
    cases e with
    | normal =>
      obtain ⟨h1, h2, h3⟩ := h
      exact hK a' W' (h1.keepsFrom (by simp)) ((h1.mono (by simp)).kept hf.size) ⟨h2, hf.trans0 h1⟩ h3
    | _ => exact h
  · rintro l pre x a' W hl hr ⟨hj, hf⟩ hax hlt
    exact wpIn_mono (hax l pre W (fun _ _ h => h) hl hr hj hf hlt) (iterPost_own hf)
  · rintro xs W hT ⟨hj, hf⟩
    exact hdone xs W hT hj hf

theorem range_iterN {α : Type} {g : Operand} {ps : Array Tmp} {assign body : Code} {Q : Exit → Act → World → Prop} {a : Act} {w : World}
    {l₀ : Nat} {r₀ : Loop} (hro : F.round = some l₀) (hl₀ : w.heap[l₀]? = some (.loop r₀)) (h1 : 1 ≤ n) {gf : Nat} {lb : Array Value} (hg : a.eval g = .func (.func gf) #[] lb) (hFg : F.fn gf) (eg : ∀ args w, (callFunc gf args).run P w = .ok (.enter gf args) w)
    {encs : α → Array Value} (S : List Nat) (hS : ∀ k ∈ S, k < w.heap.size) {T Tp : List α → Prop} {N : Nat} (hseq : SeqStopsK F (n - 1) P gf lb encs (Kept w.heap.size S) T Tp N w) (hps : ∀ x, (encs x).size = ps.size)
    (J : List α → World → Prop) (Jx : Code → List α → World → Prop) (hJ : OwnFrom w.heap.size J) (hJx : ∀ c, OwnFrom w.heap.size (Jx c)) (h0 : J [] w)
    (hround : ∀ (l : Nat) (pre : List α) (x : α) (W : World), J pre W → Fr S w W →
      assign.wpIn (F.inRound l) (n - 1 - 1) P (Exit.then (fun a' W' => Fr [] W W' ∧ J pre W' ∧ ∀ (l2 : Nat) (pre2 : List α) (W2 : World), Rel w.heap.size W' W2 → w.heap.size ≤ l2 → (∃ r, W2.heap[l2]? = some (.loop r)) → J pre2 W2 → Fr S w W2 → pre2.length < N →
        body.wpIn (F.inRound l2) (n - 1 - 1) P (iterPost S J Jx (pre2 ++ [x]) W2) a' W2) (fun _ _ _ => False)) { tmps := (ps.zip (encs x)).foldl (fun t (p, v) => t.setIfInBounds p v) a.tmps, defers := [] } W)
    (hdone : ∀ (xs : List α) (W : World), T xs → J xs W → Fr S w W → Q .normal a W)
    (hstop : ∀ (c : Code) (pre : List α) (W : World), Tp pre → Jx c pre W → c.wpIn F n P Q a W) :
    (Code.rangeFunc g ps assign body).wpIn F n P Q a w := by
  refine range_iterKN hro hl₀ h1 hg hFg eg S hseq hps J Jx hJ hJx h0 ?_ hdone hstop
  intro l pre x W hj hf
  refine wpIn_mono (hround l pre x W hj hf) ?_
  intro e a' W' h
  cases e with
  | normal =>
    obtain ⟨h1, h2, h3⟩ := h
    exact ⟨h1, h2, fun l2 pre2 W2 hrel hl hr hj2 hf2 hlt => wpIn_mono (h3 l2 pre2 W2 hrel hl hr hj2 hf2 hlt) (iterPost_K hS hf2)⟩
  | _ => exact h

/-- 'out = append(out, ..)' in the body of a round, out in the box B: all that the round owes. -/
theorem Boxed.app {W w1 : World} {n0 B : Nat} {t e : TypeId} {size : Nat} {v v' : Value} {k m : Nat} {xs ys : List Value} {tmp : Obj}
    (hv : Boxed W B t v) (hte : t ≠ e) (hrow : W.ownsRow n0 e size v k xs) (hn0 : n0 ≤ W.heap.size) (hown' : w1.ownsRow n0 e size v' m ys) (hgrow : (W.alloc tmp).grownBy w1 v.ownBlock) :
    Boxed w1 B t v ∧ Boxed (w1.setCell ⟨B, 0, none⟩ v') B t v' ∧ (w1.setCell ⟨B, 0, none⟩ v').ownsRow n0 e size v' m ys ∧ KeepsFrom n0 W (w1.setCell ⟨B, 0, none⟩ v') ∧ Kept n0 [B] W (w1.setCell ⟨B, 0, none⟩ v') := by
  obtain ⟨h1, h2, _, h4, _⟩ := hv.appended (n₀ := 0) hte (owns_mono hrow (Nat.zero_le _)) (Nat.zero_le _) (Nat.zero_le _) (owns_mono hown' (Nat.zero_le _)) hgrow
  refine ⟨h1, h2, hown'.kept (grownBy_setCell' w1 B v') (.inr (h1.not_row hte hown').symm), h4.from _, ?_⟩
  have hz : (W.alloc tmp).heap.size = W.heap.size + 1 := by simp
  have hs : (w1.setCell ⟨B, 0, none⟩ v').heap.size = w1.heap.size := by simp
  refine ⟨hgrow.os, hgrow.tape, hgrow.output, by have := hgrow.size; omega, fun j hj hn => ?_⟩
  refine (Below.heap_setCell w1 ⟨B, 0, none⟩ v' j (by simpa using hn)).trans ?_
  refine (hgrow.block j (by omega) (fun e => ?_)).trans (Below.heap_alloc W tmp j (by omega))
  have := (hrow.lt j e.symm).1
  omega

/-- The rows that an iterator goes over lie there behind whatever turned other blocks alone. -/
theorem RIs.kept {n0 n1 : Nat} {S : List Nat} {w W W' : World} {e : TypeId} {size n : Nat} {v : Value} {cs : List Value} (h : w.ownsRow n0 e size v n cs) (hw : w.heap.size ≤ n1) (hS : ∀ k ∈ S, v.ownBlock ≠ some k) (hk : Kept n1 S W W') (hr : RIs W v size n cs) : RIs W' v size n cs := by
  refine ⟨hr.form, fun hn => ?_⟩
  obtain ⟨b, c, e, hlt, hc⟩ := hr.cell hn
  have hb : b < w.heap.size := (h.lt b (by rw [e]; rfl)).2
  exact ⟨b, c, e, Nat.lt_of_lt_of_le hlt hk.size, fun j x hx => (World.cell?_of_block (a := ⟨b, j, none⟩) (hk.block b (by omega) (fun hm => hS b hm (by rw [e]; rfl)))).trans (hc j x hx)⟩
end Go.Proofs.YtnmkhoebijodhaaGreatDoor
