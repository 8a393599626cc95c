/-
  quadrillelaw22: two pairs, apart.
-/
import Derived.Test.YtldppdafgbipjaaAll22
import Derived.Test.YtldppdafgbipjaaStoreCopy
namespace Go.Proofs.Ytldppdafgbipjaa
open Go.RowKit

abbrev prC (p rp : Nat) : Array Value := #[.pointer (some ⟨p, 0, none⟩), .pointer (some ⟨rp, 0, none⟩)]
theorem NotE.app {w : World} {S T : List Nat} (h : NotE w S) (k : NotE w T) : NotE w (S ++ T) := fun b hb => by
  rcases List.mem_append.1 hb with hb | hb
  · exact h b hb
  · exact k b hb
theorem NotD.app {w : World} {S T : List Nat} (h : NotD w S) (k : NotD w T) : NotD w (S ++ T) := fun b hb => by
  rcases List.mem_append.1 hb with hb | hb
  · exact h b hb
  · exact k b hb
/-- A pair in the heap. -/
structure Half (N : Nat) (w : World) (P p tb mb rp T : Nat) (dd : Int) (m n : List (Sp × Tr)) : Prop where
  pr : w.heap[P]? = some (.cells (prC p rp) tPr (0, 0))
  pi : PairIs N w p tb mb rp T dd m n
theorem StIs.ltb {w : World} {p tb mb : Nat} {dd : Int} {m : List (Sp × Tr)} (h : StIs w p tb mb dd m) : ∃ cs, w.heap[tb]? = some (.cells cs tT (0, 0)) := by
  obtain ⟨_, _, ls, ⟨ht, _⟩, _⟩ := h
  exact ⟨_, ht⟩
theorem StIs.lmb {w : World} {p tb mb : Nat} {dd : Int} {m : List (Sp × Tr)} (h : StIs w p tb mb dd m) : ∃ es c, w.heap[mb]? = some (.map es c) := by
  obtain ⟨_, _, ls, ⟨_, es, clock, hm, _⟩, _⟩ := h
  exact ⟨_, _, hm⟩
theorem RefIs.lT {w : World} {p T : Nat} {dd : Int} {m : List (Sp × Tr)} (h : RefIs w p T dd m) : ∃ es c, w.heap[T]? = some (.map es c) := by
  obtain ⟨_, _, ls, ⟨es, clock, hm, _⟩, _⟩ := h
  exact ⟨_, _, hm⟩

/-- What a turn of one pair's blocks leaves of the other one. -/
theorem half_other {N : Nat} {w w1 : World} {p tb mb rp T Q q ub nb rq U : Nat} {dd d2 : Int} {m n m2 n2 : List (Sp × Tr)} (hA : PairIs N w p tb mb rp T dd m n) (hB : Half N w Q q ub nb rq U d2 m2 n2)
    (hd : ∀ g ∈ [tb, mb, T], g ∉ [ub, nb, U]) (hf : Fr [tb, mb, T] w w1) : Half N w1 Q q ub nb rq U d2 m2 n2 := by
  obtain ⟨c1, h1⟩ := hA.st.ltb
  obtain ⟨e2, k2, h2⟩ := hA.st.lmb
  obtain ⟨e3, k3, h3⟩ := hA.rf.lT
  have off : ∀ {b : Nat} {cs : Array Value} {V : TypeId} {f : Nat × Nat}, w.heap[b]? = some (.cells cs V f) → V ≠ tT → b ∉ [tb, mb, T] := fun hb hV hm => by
    simp only [List.mem_cons, List.not_mem_nil, or_false] at hm
    rcases hm with rfl | rfl | rfl
    · exact cells_ne hb h1 hV rfl
    · exact map_ne hb h2 rfl
    · exact map_ne hb h3 rfl
  have hE : NotE w [tb, mb, T] := hA.st.notE.app hA.rf.notE
  have hD : NotD w [tb, mb, T] := hA.st.notD.app hA.rf.notD
  have oth : ∀ x ∈ [ub, nb, U], x ∉ [tb, mb, T] := fun x hx hm => hd x hm hx
  refine ⟨hf.heap hB.pr (off hB.pr (by decide)), ⟨hB.pi.st.fr hf (off hB.pi.st.st (by decide)) (oth ub (by simp)) (oth nb (by simp)) hE, hB.pi.rf.fr hf (off hB.pi.rf.st (by decide)) (oth U (by simp)) hD, hB.pi.sm, hB.pi.gm, hB.pi.ne, hB.pi.n1, hB.pi.n2, hB.pi.n3⟩⟩

/-- Behind a turn of a pair's own block. -/
theorem StIs.frP {w w1 : World} {p tb mb P : Nat} {dd : Int} {m : List (Sp × Tr)} {cs : Array Value} (h : StIs w p tb mb dd m) (hP : w.heap[P]? = some (.cells cs tPr (0, 0))) (hf : Fr [P] w w1) : StIs w1 p tb mb dd m := by
  obtain ⟨c1, h1⟩ := h.ltb
  obtain ⟨e2, k2, h2⟩ := h.lmb
  refine h.fr hf (by simpa using cells_ne h.st hP (by decide)) (by simpa using cells_ne h1 hP (by decide)) (by simpa using fun e => map_ne hP h2 e.symm) (fun b hb cur hc => ?_)
  rw [List.mem_singleton] at hb
  subst hb
  exact cells_ne hP hc (by decide) rfl
theorem RefIs.frP {w w1 : World} {p T P : Nat} {dd : Int} {m : List (Sp × Tr)} {cs : Array Value} (h : RefIs w p T dd m) (hP : w.heap[P]? = some (.cells cs tPr (0, 0))) (hf : Fr [P] w w1) : RefIs w1 p T dd m := by
  obtain ⟨e3, k3, h3⟩ := h.lT
  refine h.fr hf (by simpa using cells_ne h.st hP (by decide)) (by simpa using fun e => map_ne hP h3 e.symm) (fun b hb cur => ?_)
  rw [List.mem_singleton] at hb
  subst hb
  exact ⟨fun hc => cells_ne hP hc (by decide) rfl, fun hc => cells_ne hP hc (by decide) rfl⟩
theorem PairIs.frP {N : Nat} {w w1 : World} {p tb mb rp T P : Nat} {dd : Int} {m n : List (Sp × Tr)} {cs : Array Value} (h : PairIs N w p tb mb rp T dd m n) (hP : w.heap[P]? = some (.cells cs tPr (0, 0))) (hf : Fr [P] w w1) : PairIs N w1 p tb mb rp T dd m n :=
  ⟨h.st.frP hP hf, h.rf.frP hP hf, h.sm, h.gm, h.ne, h.n1, h.n2, h.n3⟩

/-- Two pairs, apart. -/
structure Two22 (N : Nat) (w : World) (P Q : Nat) : Prop where
  ex : ∃ p tb mb rp T dd m n q ub nb rq U d2 m2 n2, Half N w P p tb mb rp T dd m n ∧ Half N w Q q ub nb rq U d2 m2 n2 ∧ ∀ g ∈ [tb, mb, T], g ∉ [ub, nb, U]
  ne : P ≠ Q
  nP : N ≤ P
  nQ : N ≤ Q
theorem Two22.symm {N : Nat} {w : World} {P Q : Nat} (h : Two22 N w P Q) : Two22 N w Q P := by
  obtain ⟨⟨p, tb, mb, rp, T, dd, m, n, q, ub, nb, rq, U, d2, m2, n2, hA, hB, hd⟩, h1, h2, h3⟩ := h
  exact ⟨⟨q, ub, nb, rq, U, d2, m2, n2, p, tb, mb, rp, T, dd, m, n, hB, hA, fun g hg hm => hd g hm hg⟩, h1.symm, h3, h2⟩
theorem Half.fr0 {N : Nat} {w w1 : World} {P p tb mb rp T : Nat} {dd : Int} {m n : List (Sp × Tr)} (h : Half N w P p tb mb rp T dd m n) (hf : Fr [] w w1) : Half N w1 P p tb mb rp T dd m n := ⟨hf.heap h.pr (by simp), h.pi.fr0 hf⟩
theorem Two22.fr0 {N : Nat} {w w1 : World} {P Q : Nat} (h : Two22 N w P Q) (hf : Fr [] w w1) : Two22 N w1 P Q := by
  obtain ⟨⟨p, tb, mb, rp, T, dd, m, n, q, ub, nb, rq, U, d2, m2, n2, hA, hB, hd⟩, h1, h2, h3⟩ := h
  exact ⟨⟨p, tb, mb, rp, T, dd, m, n, q, ub, nb, rq, U, d2, m2, n2, hA.fr0 hf, hB.fr0 hf, hd⟩, h1, h2, h3⟩
theorem Two22.plays {N : Nat} {w : World} {P Q : Nat} (h : Two22 N w P Q) (hN : N ≤ w.heap.size) (o : Op22) (hO : OpOk N w o) :
    Calls Try.prog 54 #[.pointer (some ⟨P, 0, none⟩), o.val] w fun e w1 => e = .returned (.bool true) ∧ Two22 N w1 P Q ∧ ∃ S, Fr S w w1 ∧ ∀ g ∈ S, N ≤ g := by
  obtain ⟨⟨p, tb, mb, rp, T, dd, m, n, q, ub, nb, rq, U, d2, m2, n2, hA, hB, hd⟩, h1, h2, h3⟩ := h
  refine (plays22 N P p tb mb rp T dd m n o w hA.pr hN hA.pi hO).mono ?_
  rintro e w1 ⟨rfl, m', n', hI, hf⟩
  have hP1 : w1.heap[P]? = some (.cells (prC p rp) tPr (0, 0)) := by
    refine hf.heap hA.pr (fun hm => ?_)
    obtain ⟨c1, k1⟩ := hA.pi.st.ltb
    obtain ⟨e2, c2, k2⟩ := hA.pi.st.lmb
    obtain ⟨e3, c3, k3⟩ := hA.pi.rf.lT
    simp only [List.mem_cons, List.not_mem_nil, or_false] at hm
    rcases hm with rfl | rfl | rfl
    · exact cells_ne hA.pr k1 (by decide) rfl
    · exact map_ne hA.pr k2 rfl
    · exact map_ne hA.pr k3 rfl
  refine ⟨rfl, ⟨⟨p, tb, mb, rp, T, dd, m', n', q, ub, nb, rq, U, d2, m2, n2, ⟨hP1, hI⟩, half_other hA.pi hB hd hf, hd⟩, h1, h2, h3⟩, _, hf, fun g hg => ?_⟩
  simp only [List.mem_cons, List.not_mem_nil, or_false] at hg
  rcases hg with rfl | rfl | rfl
  · exact hA.pi.n1
  · exact hA.pi.n2
  · exact hA.pi.n3
/-- The second pair made anew. -/
theorem Two22.copied {N : Nat} {w w1 : World} {P Q p tb mb rp T p2 tb2 mb2 rp2 T2 : Nat} {dd : Int} {m n n2 : List (Sp × Tr)} {cs : Array Value} (hA : Half N w P p tb mb rp T dd m n) (hQ : w.heap[Q]? = some (.cells cs tPr (0, 0))) (hf : Fr [Q] w w1)
    (hQ1 : w1.heap[Q]? = some (.cells (prC p2 rp2) tPr (0, 0))) (hS : StIs w1 p2 tb2 mb2 dd (sortT m)) (hR : RefIs w1 rp2 T2 dd n2) (hs : SameT n n2)
    (b1 : w.heap.size ≤ tb2) (b2 : w.heap.size ≤ mb2) (b3 : w.heap.size ≤ T2) (hne2 : mb2 ≠ T2) (hN : N ≤ w.heap.size) (hne : P ≠ Q) (nP : N ≤ P) (nQ : N ≤ Q) : Two22 N w1 P Q := by
  refine ⟨⟨p, tb, mb, rp, T, dd, m, n, p2, tb2, mb2, rp2, T2, dd, sortT m, n2, ⟨hf.heap hA.pr (by simpa using hne), hA.pi.frP hQ hf⟩,
    ⟨hQ1, hS, hR, fun s => ((sortT_same m s).symm.trans (hA.pi.sm s)).trans (hs s), hA.pi.gm.sortT, hne2, by omega, by omega, by omega⟩, fun g hg hm => ?_⟩, hne, nP, nQ⟩
  obtain ⟨c1, k1⟩ := hA.pi.st.ltb
  obtain ⟨e2, c2, k2⟩ := hA.pi.st.lmb
  obtain ⟨e3, c3, k3⟩ := hA.pi.rf.lT
  have l1 := lt_of k1
  have l2 := lt_of k2
  have l3 := lt_of k3
  simp only [List.mem_cons, List.not_mem_nil, or_false] at hg hm
  omega
theorem SlAt.lowA {w : World} {a : Option Addr} {size n c : Nat} {cs : List Value} (h : SlAt w (.slice a n c) size n cs) : LowA w.heap.size n a := fun h0 b off e => by
  obtain ⟨b', off', c', e', hb, _⟩ := h.cell h0
  cases e'
  cases e
  exact hb
end Go.Proofs.Ytldppdafgbipjaa
