/-
  append(nil, row..) as one step of a drawn region: a copy of the row.
-/
import Derived.Test.YtldppdafgbipjaaWithin7
import Derived.Deep.AppendLies
namespace Go.Proofs.Ytldppdafgbipjaa
open Go.RowKit

theorem run_nil0A (ty : TypeId) (q : Option Addr) (c : Nat) (u : World) : (Builtin.append_ #[35, 35] ty #[.slice none 0 0, .slice q 0 c]).run Try.prog u = .ok (.slice none 0 0) u := by
  cases q <;> kernel_rfl
theorem run_nil0X (ty : TypeId) (q : Option Addr) (c : Nat) (u : World) : (Builtin.append_ #[48, 48] ty #[.slice none 0 0, .slice q 0 c]).run Try.prog u = .ok (.slice none 0 0) u := by
  cases q <;> kernel_rfl

section
variable {ops : Array Oper} {o : Oper} {a : Act} {K : Act → World → Prop} {Q : Exit → Act → World → Prop} {E : Prop} {u : World} {R : List (Sp × Int)} {v : Value}
theorem step_copyA (hgd : o.guard = none) (x : Operand) (ho : o.op = .call { callee := .builtin .append, args := #[.const (.slice none 0 0), x], argTypes := #[35, 35] }) (hx : a.eval x = v)
    (hown : u.ownsRow 0 26 2 v R.length (R.flatMap encA)) (hl : R.length ≤ 65536)
    (h : ∀ v' u', u'.ownsRow u.heap.size 26 2 v' R.length (R.flatMap encA) → Fr [] u u' → K (a.put o.dst v') u') :
    if Region.wanted o (yielded ops a.tmps) = true then Oper.wp Try.prog o a u K Q else E := by
  obtain ⟨i0, hi0, hz0, hz1, hz2⟩ := info_parts infoSpot
  rcases Nat.eq_zero_or_pos R.length with h0 | h0
  · have hR : R = [] := List.eq_nil_of_length_eq_zero h0
    subst hR
    obtain ⟨q, c, rfl⟩ := (RIs.of_owns hown).form
    have hw : Region.wanted o (yielded ops a.tmps) = true := by simp [Region.wanted, hgd]
    rw [if_pos hw]
    have hc : a.eval (.const (.slice none 0 0)) = .slice none 0 0 := rfl
    unfold Oper.wp execOp
    simp only [ho, resolve, invoke, builtin, Sem.run_bind, Sem.run_pure, Result.andThen_ok, List.map_toArray, List.map_cons, List.map_nil, hc, hx, List.length_nil, run_nil0A]
    exact h _ _ (World.ownsRow_nil _ _ _ _) (Fr.refl _ _)
  · obtain ⟨b, c, hv, hb, hc⟩ := (RIs.of_owns hown).cell h0
    refine step_append_lies u hgd (.const (.slice none 0 0)) x 35 ho u.heap.size 26 i0 _ 2 16 Try.underlying35 hi0 hz0 hz1 hz2 rfl (by omega) (.slice none 0 0) 0 [] rfl (World.ownsRow_nil _ _ _ _) ⟨b, 0, none⟩ R.length c (R.flatMap encA) (hx.trans hv) (flat_len encA 2 (fun _ => rfl) R) ?_ ?_ h0 (by unfold maxLen; omega) (by omega) (Nat.le_refl _) _ rfl ?_
    · intro j x hj
      have e : (⟨b, 0, none⟩ : Addr).add j = ⟨b, j, none⟩ := by
        unfold Addr.add
        split
        · rename_i h0; subst h0; rfl
        · simp
      rw [e]
      exact hc j x hj
    · intro z hz
      obtain ⟨y, _, hy⟩ := List.mem_flatMap.1 hz
      simp [encA, spC] at hy
      rcases hy with rfl | rfl <;> rfl
    · intro g cap u' hown' hg _ _
      have := h (.slice (some ⟨g, 0, none⟩) (0 + R.length) cap) u' (by simpa using hown') ((Fr.refl [] u).grown hg (fun k hk => by cases hk))
      exact this
theorem step_copyX (hgd : o.guard = none) (x : Operand) (ho : o.op = .call { callee := .builtin .append, args := #[.const (.slice none 0 0), x], argTypes := #[48, 48] }) (hx : a.eval x = v)
    (hown : u.ownsRow 0 3 1 v R.length (R.flatMap encX)) (hl : R.length ≤ 65536)
    (h : ∀ v' u', u'.ownsRow u.heap.size 3 1 v' R.length (R.flatMap encX) → Fr [] u u' → K (a.put o.dst v') u') :
    if Region.wanted o (yielded ops a.tmps) = true then Oper.wp Try.prog o a u K Q else E := by
  obtain ⟨i0, hi0, hz0, hz1, hz2⟩ := info_parts infoInt
  rcases Nat.eq_zero_or_pos R.length with h0 | h0
  · have hR : R = [] := List.eq_nil_of_length_eq_zero h0
    subst hR
    obtain ⟨q, c, rfl⟩ := (RIs.of_owns hown).form
    have hw : Region.wanted o (yielded ops a.tmps) = true := by simp [Region.wanted, hgd]
    rw [if_pos hw]
    have hc : a.eval (.const (.slice none 0 0)) = .slice none 0 0 := rfl
    unfold Oper.wp execOp
    simp only [ho, resolve, invoke, builtin, Sem.run_bind, Sem.run_pure, Result.andThen_ok, List.map_toArray, List.map_cons, List.map_nil, hc, hx, List.length_nil, run_nil0X]
    exact h _ _ (World.ownsRow_nil _ _ _ _) (Fr.refl _ _)
  · obtain ⟨b, c, hv, hb, hc⟩ := (RIs.of_owns hown).cell h0
    refine step_append_lies u hgd (.const (.slice none 0 0)) x 48 ho u.heap.size 3 i0 _ 1 8 Try.underlying48 hi0 hz0 hz1 hz2 rfl (by omega) (.slice none 0 0) 0 [] rfl (World.ownsRow_nil _ _ _ _) ⟨b, 0, none⟩ R.length c (R.flatMap encX) (hx.trans hv) (flat_len encX 1 (fun _ => rfl) R) ?_ ?_ h0 (by unfold maxLen; omega) (by omega) (Nat.le_refl _) _ rfl ?_
    · intro j x hj
      have e : (⟨b, 0, none⟩ : Addr).add j = ⟨b, j, none⟩ := by
        unfold Addr.add
        split
        · rename_i h0; subst h0; rfl
        · simp
      rw [e]
      exact hc j x hj
    · intro z hz
      obtain ⟨y, _, hy⟩ := List.mem_flatMap.1 hz
      simp [encX] at hy
      rcases hy with rfl
      rfl
    · intro g cap u' hown' hg _ _
      have := h (.slice (some ⟨g, 0, none⟩) (0 + R.length) cap) u' (by simpa using hown') ((Fr.refl [] u).grown hg (fun k hk => by cases hk))
      exact this
end
end Go.Proofs.Ytldppdafgbipjaa
