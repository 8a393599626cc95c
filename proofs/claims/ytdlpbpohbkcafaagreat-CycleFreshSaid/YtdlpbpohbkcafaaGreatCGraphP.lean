/-
  Nodes, and the graph that cycle.made makes of them. No program in sight.
-/
import Derived.Test.YtdlpbpohbkcafaaGreatCLeaf
import Derived.Test.YtdlpbpohbkcafaaGreatRingR
namespace Go.Proofs.YtdlpbpohbkcafaaGreat
open Go.RowKit

/-- A node, as a row has it. -/
structure Nd where
  at_ : Sp
  na : Option Addr
  nc : Nat
  next : List Sp
abbrev ndC (n : Nd) : List Value := [.int .i64 n.at_.1, .int .i64 n.at_.2, .slice n.na n.next.length n.nc]

def tot (ns : List Nd) : Nat := (ns.map fun n => n.next.length).sum
theorem tot_snoc (ns : List Nd) (n : Nd) : tot (ns ++ [n]) = tot ns + n.next.length := by simp [tot]
theorem tot_take (ns : List Nd) (k : Nat) : tot (ns.take k) ≤ tot ns := by
  have : ns.take k ++ ns.drop k = ns := List.take_append_drop k ns
  have h : tot ns = tot (ns.take k) + tot (ns.drop k) := by
    unfold tot
    rw [← List.sum_append, ← List.map_append, this]
  omega
/-- A node that may not be. -/
def badN (n : Nd) : Bool := !mayS n.at_.1 n.at_.2 || n.next.any fun s => !mayS s.1 s.2
/-- What made answers. -/
def madeE (ns : List Nd) : Int := if 65536 < ns.length ∨ 1048576 < tot ns then 2 else if ns.any badN then 10 else if ¬ (ns.map (·.at_)).Nodup then 1 else 0
def atsN (ns : List Nd) : List Sp := ns.map (·.at_)
/-- The places in row order. -/
def gSp (ns : List Nd) : List Sp := sortS (atsN ns)
/-- The numbers of those places that are nodes, the least one first. -/
def numsOf (l : List Sp) (next : List Sp) : List Nat := (List.range l.length).filter fun k => decide (l.getD k (0, 0) ∈ next)
/-- What a place points to. -/
def nextAt (ns : List Nd) (s : Sp) : List Sp := match ns.find? fun n => decide (n.at_ = s) with
  | none => []
  | some n => n.next
def gNx (ns : List Nd) : Dg := (gSp ns).map fun s => numsOf (gSp ns) (nextAt ns s)
theorem gSp_len (ns : List Nd) : (gSp ns).length = ns.length := by unfold gSp atsN; rw [(sortS_perm _).length_eq, List.length_map]
theorem gNx_len (ns : List Nd) : (gNx ns).length = ns.length := by unfold gNx; rw [List.length_map, gSp_len]
theorem gNx_ok (ns : List Nd) : OkG (gNx ns) := by
  intro l hl u hu
  unfold gNx at hl
  obtain ⟨s, _, rfl⟩ := List.mem_map.1 hl
  unfold numsOf at hu
  have := (List.mem_filter.1 hu).1
  rw [List.mem_range] at this
  rw [gNx_len, ← gSp_len]
  exact this
theorem nextAt_eq {ns : List Nd} (h : (atsN ns).Nodup) {n : Nd} (hn : n ∈ ns) : nextAt ns n.at_ = n.next := by
  unfold nextAt
  induction ns with
  | nil => simp at hn
  | cons a ns ih =>
    have h' := List.nodup_cons.1 (show (a.at_ :: atsN ns).Nodup from h)
    rcases List.mem_cons.1 hn with rfl | hn
    · simp
    · have hne : ¬ a.at_ = n.at_ := fun e => h'.1 (by rw [e]; exact List.mem_map.2 ⟨n, hn, rfl⟩)
      rw [List.find?_cons_of_neg (by simpa using hne)]
      exact ih h'.2 hn
/-- Sorted numbers without one twice, by what is in. -/
theorem nums_of_sorted {l : List Sp} {next : List Sp} {m : List Nat} (hs : m.Pairwise (· < ·)) (hm : ∀ k, k ∈ m ↔ k < l.length ∧ l.getD k (0, 0) ∈ next) : m = numsOf l next := by
  have h1 : (numsOf l next).Pairwise (· < ·) := List.Pairwise.filter _ List.pairwise_lt_range
  have h2 : ∀ k, k ∈ numsOf l next ↔ k < l.length ∧ l.getD k (0, 0) ∈ next := fun k => by simp [numsOf, List.mem_filter]
  have n1 : m.Nodup := hs.imp fun h e => by omega
  have n2 : (numsOf l next).Nodup := h1.imp fun h e => by omega
  refine List.Perm.eq_of_pairwise (le := (· < ·)) ?_ hs h1 ((List.perm_ext_iff_of_nodup n1 n2).2 fun k => by rw [hm, h2])
  intro a b _ _ h3 h4
  omega
end Go.Proofs.YtdlpbpohbkcafaaGreat
