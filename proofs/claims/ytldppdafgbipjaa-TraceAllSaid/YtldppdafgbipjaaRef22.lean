/-
  The document's trace store (quadrilleref22), as its blocks are read; contracts of New, Value, Len, entry, Dep, Drop.
-/
import Derived.Test.YtldppdafgbipjaaRef46
import Derived.Test.YtldppdafgbipjaaReads
import Derived.Test.YtldppdafgbipjaaSame
namespace Go.Proofs.Ytldppdafgbipjaa
open Go.RowKit

abbrev tSp : TypeId := 26
abbrev tVa : TypeId := 23

/-- A trace of the document's. -/
def DocIs (w : World) (u : Value) (t : Tr) : Prop :=
  ∃ d x, u = .agg #[.int .i64 t.v.k, .int .i64 t.v.n, .string t.v.s, d, x] ∧ w.ownsRow 0 tSp 2 d t.es.length ((t.es.map (·.at_)).flatMap spC) ∧ w.ownsRow 0 tVa 3 x t.es.length ((t.es.map (·.v)).flatMap vC)

def DMatch (w : World) : List (Sp × Value) → List (Sp × Tr) → Prop
  | [], [] => True
  | a :: l, b :: m => a.1 = b.1 ∧ DocIs w a.2 b.2 ∧ DMatch w l m
  | _, _ => False

/-- None of these blocks has places or values. -/
def NotD (w : World) (S : List Nat) : Prop := ∀ b ∈ S, ∀ cur, w.heap[b]? ≠ some (.cells cur tSp (0, 0)) ∧ w.heap[b]? ≠ some (.cells cur tVa (0, 0))
theorem NotD.nil (w : World) : NotD w [] := fun b h => by simp at h

theorem owns_frT {w w1 : World} {B : Nat} {e : TypeId} {size : Nat} {v : Value} {n : Nat} {xs : List Value} (h : w.ownsRow B e size v n xs) {S : List Nat} (hf : Fr S w w1) (hS : ∀ b ∈ S, ∀ cur, w.heap[b]? ≠ some (.cells cur e (0, 0))) : w1.ownsRow B e size v n xs := by
  obtain ⟨h1, h2⟩ := h
  refine ⟨h1, ?_⟩
  rcases h2 with h2 | ⟨g, cap, cur, hv, hg, hh, r⟩
  · exact .inl h2
  · exact .inr ⟨g, cap, cur, hv, hg, hf.heap hh (fun hm => hS g hm cur hh), r⟩

theorem DocIs.fr {w w1 : World} {u : Value} {t : Tr} (h : DocIs w u t) {S : List Nat} (hf : Fr S w w1) (hS : NotD w S) : DocIs w1 u t := by
  obtain ⟨d, x, e, h1, h2⟩ := h
  exact ⟨d, x, e, owns_frT h1 hf (fun b hb cur => (hS b hb cur).1), owns_frT h2 hf (fun b hb cur => (hS b hb cur).2)⟩

theorem DMatch.fr {w w1 : World} {S : List Nat} (hf : Fr S w w1) (hS : NotD w S) : ∀ {l : List (Sp × Value)} {m : List (Sp × Tr)}, DMatch w l m → DMatch w1 l m
  | [], [], _ => trivial
  | _ :: _, _ :: _, ⟨h1, h2, h3⟩ => ⟨h1, h2.fr hf hS, DMatch.fr hf hS h3⟩
  | [], _ :: _, h => h.elim
  | _ :: _, [], h => h.elim

theorem DMatch.keys {w : World} : ∀ {l : List (Sp × Value)} {m : List (Sp × Tr)}, DMatch w l m → l.map (·.1) = m.map (·.1)
  | [], [], _ => rfl
  | _ :: _, _ :: _, ⟨h1, _, h3⟩ => by rw [List.map_cons, List.map_cons, h1, DMatch.keys h3]
  | [], _ :: _, h => h.elim
  | _ :: _, [], h => h.elim

theorem DMatch.get {w : World} (s : Sp) : ∀ {l : List (Sp × Value)} {m : List (Sp × Tr)}, DMatch w l m → (getS s l = none ∧ getS s m = none) ∨ ∃ x t, getS s l = some x ∧ getS s m = some t ∧ DocIs w x t
  | [], [], _ => .inl ⟨rfl, rfl⟩
  | a :: l, b :: m, ⟨h1, h2, h3⟩ => by
    simp only [getS, ← h1]
    by_cases hs : s = a.1
    · simp only [if_pos hs]
      exact .inr ⟨_, _, rfl, rfl, h2⟩
    · simp only [if_neg hs]
      exact DMatch.get s h3
  | [], _ :: _, h => h.elim
  | _ :: _, [], h => h.elim

theorem DMatch.put {w : World} (s : Sp) {x : Value} {t : Tr} (hx : DocIs w x t) : ∀ {l : List (Sp × Value)} {m : List (Sp × Tr)}, DMatch w l m → DMatch w (putS s x l) (putS s t m)
  | [], [], _ => ⟨rfl, hx, trivial⟩
  | a :: l, b :: m, ⟨h1, h2, h3⟩ => by
    simp only [putS, ← h1]
    by_cases hs : s = a.1
    · simp only [if_pos hs]
      exact ⟨rfl, hx, h3⟩
    · simp only [if_neg hs]
      exact ⟨h1, h2, DMatch.put s hx h3⟩
  | [], _ :: _, h => h.elim
  | _ :: _, [], h => h.elim

theorem DMatch.del {w : World} (s : Sp) : ∀ {l : List (Sp × Value)} {m : List (Sp × Tr)}, DMatch w l m → DMatch w (delS s l) (delS s m)
  | [], [], _ => trivial
  | a :: l, b :: m, ⟨h1, h2, h3⟩ => by
    simp only [delS, ← h1]
    by_cases hs : s = a.1
    · simp only [if_pos hs]
      exact h3
    · simp only [if_neg hs]
      exact ⟨h1, h2, DMatch.del s h3⟩
  | [], _ :: _, h => h.elim
  | _ :: _, [], h => h.elim

theorem DMatch.len {w : World} {l : List (Sp × Value)} {m : List (Sp × Tr)} (h : DMatch w l m) : l.length = m.length := by
  have := congrArg List.length h.keys
  simpa using this

abbrev tR : TypeId := 186
/-- The document's store's block, its map's. -/
structure RefIs (w : World) (p T : Nat) (dd : Int) (m : List (Sp × Tr)) : Prop where
  st : w.heap[p]? = some (.cells #[.int .i64 dd, .map (some T)] tR (0, 0))
  wd : 0 ≤ dd ∧ dd ≤ 64
  map : ∃ ls, MapIs w T ls ∧ DMatch w ls m

theorem RefIs.fr {w w1 : World} {p T : Nat} {dd : Int} {m : List (Sp × Tr)} (h : RefIs w p T dd m) {S : List Nat} (hf : Fr S w w1) (hp : p ∉ S) (hT : T ∉ S) (hS : NotD w S) : RefIs w1 p T dd m := by
  obtain ⟨h1, h2, ls, h3, h4⟩ := h
  exact ⟨hf.heap h1 hp, h2, ls, h3.fr hf hT, h4.fr hf hS⟩
theorem RefIs.fr0 {w w1 : World} {p T : Nat} {dd : Int} {m : List (Sp × Tr)} (h : RefIs w p T dd m) (hf : Fr [] w w1) : RefIs w1 p T dd m :=
  h.fr hf (by simp) (by simp) (NotD.nil w)
theorem RefIs.notD {w : World} {p T : Nat} {dd : Int} {m : List (Sp × Tr)} (h : RefIs w p T dd m) : NotD w [T] := by
  obtain ⟨_, _, ls, ⟨es, clock, hm, _⟩, _⟩ := h
  intro b hb cur
  rw [List.mem_singleton] at hb
  subst hb
  rw [hm]
  exact ⟨(fun h => by cases h), (fun h => by cases h)⟩
theorem RefIs.nodup {w : World} {p T : Nat} {dd : Int} {m : List (Sp × Tr)} (h : RefIs w p T dd m) : (m.map (·.1)).Nodup := by
  obtain ⟨_, _, ls, ⟨es, clock, hm, _, _, hn⟩, hM⟩ := h
  rw [← hM.keys]
  exact hn
end Go.Proofs.Ytldppdafgbipjaa
