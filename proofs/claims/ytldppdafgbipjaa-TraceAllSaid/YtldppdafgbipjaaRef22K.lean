/-
  The document's trace store: Keep; append(nil, list..) as a step of a drawn region.
-/
import Derived.Test.YtldppdafgbipjaaRef22R
import Derived.Test.YtldppdafgbipjaaRegionInv
import Derived.Test.YtldppdafgbipjaaStoreAll
namespace Go.Proofs.Ytldppdafgbipjaa
open Go.RowKit
attribute [local go_sem] ob_alloc ob_alloc2 ob_alloc3 ob_alloc4 ob_drew ob_drewN ob_setCell

/-- Part of a code: 0 the first, 1 the second, or what lies within; of a branch 2 and 3; 2 a loop's body. -/
def subC : List Nat → Code → Code
  | [], c => c
  | 0 :: p, .seq a _ => subC p a
  | 1 :: p, .seq _ b => subC p b
  | 0 :: p, .block _ c => subC p c
  | 0 :: p, .loop c => subC p c
  | 2 :: p, .cond _ c _ => subC p c
  | 3 :: p, .cond _ _ c => subC p c
  | _, c => c

theorem infoVal : (Try.prog.info? tVa).map (fun i => (i.zero, i.size, i.bytes)) = some (some (.agg #[.int .i64 0, .int .i64 0, .string ⟨#[]⟩]), 3, 32) := by kernel_rfl
theorem own_form {w : World} {B : Nat} {e : TypeId} {size n : Nat} {v : Value} {xs : List Value} (h : w.ownsRow B e size v n xs) : ∃ q k c, v = .slice q k c := by
  obtain ⟨a, c, e, _, _⟩ := (SlAt.of_owns h).form
  exact ⟨_, _, _, e⟩
theorem ceT {w w1 : World} {T b i : Nat} {x : Value} (hf : Fr [T] w w1) (h : w.cell? ⟨b, i, none⟩ = some x) (hb : b ≠ T) : w1.cell? ⟨b, i, none⟩ = some x := (hf.cell (World.block_lt_of_cell? w _ h) (by simpa using hb)).trans h
theorem slT {w w1 : World} {T : Nat} {v : Value} {size n : Nat} {cs : List Value} {es : Array MapEntry} {clock : Nat} (hf : Fr [T] w w1) (h : SlAt w v size n cs) (hT : w.heap[T]? = some (.map es clock)) : SlAt w1 v size n cs := by
  refine ⟨h.len, h.form, fun hn => ?_⟩
  obtain ⟨b, off, c, e, hb, hc⟩ := h.cell hn
  refine ⟨b, off, c, e, Nat.lt_of_lt_of_le hb hf.size, fun j x hx => ?_⟩
  have h0 := hc j x hx
  refine ceT hf h0 ?_
  rintro rfl
  simp [World.cell?, hT] at h0

theorem run_nil0S (ty : TypeId) (q : Option Addr) (c : Nat) (u : World) : (Builtin.append_ #[35, 35] ty #[.slice none 0 0, .slice q 0 c]).run Try.prog u = .ok (.slice none 0 0) u := by
  cases q <;> kernel_rfl
theorem run_nil0V (ty : TypeId) (q : Option Addr) (c : Nat) (u : World) : (Builtin.append_ #[36, 36] ty #[.slice none 0 0, .slice q 0 c]).run Try.prog u = .ok (.slice none 0 0) u := by
  cases q <;> kernel_rfl

section
variable {ops : Array Oper} {o : Oper} {a : Act} {K : Act → World → Prop} {Q : Exit → Act → World → Prop} {E : Prop} {u : World} {v : Value}
theorem step_copyS {R : List Sp} (hgd : o.guard = none) (x : Operand) (ho : o.op = .call { callee := .builtin .append, args := #[.const (.slice none 0 0), x], argTypes := #[35, 35] }) (hx : a.eval x = v)
    (hown : SpotsAt u v R) (hl : R.length ≤ 65536)
    (h : ∀ v' u', u'.ownsRow u.heap.size tSp 2 v' R.length (R.flatMap spC) → Fr [] u u' → K (a.put o.dst v') u') :
    if Region.wanted o (yielded ops a.tmps) = true then Oper.wp Try.prog o a u K Q else E := by
  obtain ⟨i0, hi0, hz0, hz1, hz2⟩ := info_parts infoSpot
  rcases Nat.eq_zero_or_pos R.length with h0 | h0
  · have hR : R = [] := List.eq_nil_of_length_eq_zero h0
    subst hR
    obtain ⟨q, c, rfl, _, _⟩ := hown.form
    have hw : Region.wanted o (yielded ops a.tmps) = true := by simp [Region.wanted, hgd]
    rw [if_pos hw]
    have hc : a.eval (.const (.slice none 0 0)) = .slice none 0 0 := rfl
    unfold Oper.wp execOp
    simp only [ho, resolve, invoke, builtin, Sem.run_bind, Sem.run_pure, Result.andThen_ok, List.map_toArray, List.map_cons, List.map_nil, hc, hx, List.length_nil, run_nil0S]
    exact h _ _ (World.ownsRow_nil _ _ _ _) (Fr.refl _ _)
  · obtain ⟨b, off, c, hv, hb, hc⟩ := hown.cell h0
    refine step_append_lies u hgd (.const (.slice none 0 0)) x 35 ho u.heap.size tSp i0 _ 2 16 Try.underlying35 hi0 hz0 hz1 hz2 rfl (by omega) (.slice none 0 0) 0 [] rfl (World.ownsRow_nil _ _ _ _) ⟨b, off, none⟩ R.length c (R.flatMap spC) (hx.trans hv) (flat_len spC 2 (fun _ => rfl) R) ?_ ?_ h0 (by unfold maxLen; omega) (by omega) (Nat.le_refl _) _ rfl ?_
    · intro j x hj
      have e : (⟨b, off, none⟩ : Addr).add j = ⟨b, off + j, none⟩ := by
        unfold Addr.add
        split
        · rename_i h0; subst h0; rfl
        · simp
      rw [e]
      exact hc j x hj
    · intro z hz
      obtain ⟨y, _, hy⟩ := List.mem_flatMap.1 hz
      simp [spC] at hy
      rcases hy with rfl | rfl <;> rfl
    · intro g cap u' hown' hg _ _
      have := h (.slice (some ⟨g, 0, none⟩) (0 + R.length) cap) u' (by simpa using hown') ((Fr.refl [] u).grown hg (fun k hk => by cases hk))
      exact this
theorem step_copyV {R : List V} (hgd : o.guard = none) (x : Operand) (ho : o.op = .call { callee := .builtin .append, args := #[.const (.slice none 0 0), x], argTypes := #[36, 36] }) (hx : a.eval x = v)
    (hown : ValsAt u v R) (hl : R.length ≤ 65536)
    (h : ∀ v' u', u'.ownsRow u.heap.size tVa 3 v' R.length (R.flatMap vC) → Fr [] u u' → K (a.put o.dst v') u') :
    if Region.wanted o (yielded ops a.tmps) = true then Oper.wp Try.prog o a u K Q else E := by
  obtain ⟨i0, hi0, hz0, hz1, hz2⟩ := info_parts infoVal
  rcases Nat.eq_zero_or_pos R.length with h0 | h0
  · have hR : R = [] := List.eq_nil_of_length_eq_zero h0
    subst hR
    obtain ⟨q, c, rfl, _, _⟩ := hown.form
    have hw : Region.wanted o (yielded ops a.tmps) = true := by simp [Region.wanted, hgd]
    rw [if_pos hw]
    have hc : a.eval (.const (.slice none 0 0)) = .slice none 0 0 := rfl
    unfold Oper.wp execOp
    simp only [ho, resolve, invoke, builtin, Sem.run_bind, Sem.run_pure, Result.andThen_ok, List.map_toArray, List.map_cons, List.map_nil, hc, hx, List.length_nil, run_nil0V]
    exact h _ _ (World.ownsRow_nil _ _ _ _) (Fr.refl _ _)
  · obtain ⟨b, off, c, hv, hb, hc⟩ := hown.cell h0
    refine step_append_lies u hgd (.const (.slice none 0 0)) x 36 ho u.heap.size tVa i0 _ 3 32 Try.underlying36 hi0 hz0 hz1 hz2 rfl (by omega) (.slice none 0 0) 0 [] rfl (World.ownsRow_nil _ _ _ _) ⟨b, off, none⟩ R.length c (R.flatMap vC) (hx.trans hv) (flat_len vC 3 (fun _ => rfl) R) ?_ ?_ h0 (by unfold maxLen; omega) (by omega) (Nat.le_refl _) _ rfl ?_
    · intro j x hj
      have e : (⟨b, off, none⟩ : Addr).add j = ⟨b, off + j, none⟩ := by
        unfold Addr.add
        split
        · rename_i h0; subst h0; rfl
        · simp
      rw [e]
      exact hc j x hj
    · intro z hz
      obtain ⟨y, _, hy⟩ := List.mem_flatMap.1 hz
      simp [vC] at hy
      rcases hy with rfl | rfl | rfl <;> rfl
    · intro g cap u' hown' hg _ _
      have := h (.slice (some ⟨g, 0, none⟩) (0 + R.length) cap) u' (by simpa using hown') ((Fr.refl [] u).grown hg (fun k hk => by cases hk))
      exact this
end

set_option maxRecDepth 100000 in
set_option maxHeartbeats 6400000 in
theorem keepR (p T B0 B1 : Nat) (s : Sp) (v : V) (da va : Option Addr) (c vc : Nat) (ds : List Sp) (vs : List V) (ls : List (Sp × Value)) (es : Array MapEntry) (clock : Nat) (W0 : World) {x2 x5 x8 x9 x10 x11 x12 x13 x14 x15 x16 x17 x18 x19 x20 x21 x22 x23 x24 x25 x26 x27 x28 x29 x30 x31 x32 x33 x34 x35 x36 x37 x38 x39 x40 x41 x42 x43 x44 x45 x46 x47 x48 x49 x50 x51 x52 x53 x54 x55 x56 x57 x58 x59 x60 x61 x62 x63 x64 x65 x66 x67 x68 x69 x70 x71 x72 x73 x74 x75 x76 x77 x78 x79 x80 x81 x82 x83 x84 x85 x86 x87 x88 x89 x90 x91 : Value}
    (HT0 : Hid (W0.heap[T]? = some (.map es clock))) (HP : Hid (es.toList.map prE = ls.map encS)) (HD : Hid (SpotsAt W0 (.slice da ds.length c) ds)) (HV : Hid (ValsAt W0 (.slice va vs.length vc) vs)) (HL : Hid (ds.length ≤ 65536)) (HLV : Hid (vs.length ≤ 65536))
    (hp0 : W0.cell? ⟨p, 1, none⟩ = some (.map (some T))) (hpT : p ≠ T) (ha0 : W0.cell? ⟨B0, 0, none⟩ = some (.int .i64 s.1)) (ha1 : W0.cell? ⟨B0, 1, none⟩ = some (.int .i64 s.2)) (h0T : B0 ≠ T)
    (hv0 : W0.cell? ⟨B1, 0, none⟩ = some (.int .i64 v.k)) (hv1 : W0.cell? ⟨B1, 1, none⟩ = some (.int .i64 v.n)) (hv2 : W0.cell? ⟨B1, 2, none⟩ = some (.string v.s)) (h1T : B1 ≠ T) (Q : Exit → Act → World → Prop)
    (hend : ∀ (d x : Value) (u : World) (s92 s93 s94 s95 s96 s97 s98 s100 : Value), Fr [T] W0 u → u.ownsRow W0.heap.size tSp 2 d ds.length (ds.flatMap spC) → u.ownsRow W0.heap.size tVa 3 x vs.length (vs.flatMap vC) →
      u.heap[T]? = some (.map (putE s (.agg #[.int .i64 v.k, .int .i64 v.n, .string v.s, d, x]) ls es clock) (putC s ls clock)) → Q .normal { tmps := #[.pointer (some ⟨p, 0, none⟩), spV s, x2, .slice da ds.length c, .slice va vs.length vc, x5, .pointer (some ⟨B0, 0, none⟩), .pointer (some ⟨B1, 0, none⟩), x8, x9, x10, x11, x12, x13, x14, x15, x16, x17, x18, x19, x20, x21, x22, x23, x24, x25, x26, x27, x28, x29, x30, x31, x32, x33, x34, x35, x36, x37, x38, x39, x40, x41, x42, x43, x44, x45, x46, x47, x48, x49, x50, x51, x52, x53, x54, x55, x56, x57, x58, x59, x60, x61, x62, x63, x64, x65, x66, x67, x68, x69, x70, x71, x72, x73, x74, x75, x76, x77, x78, x79, x80, x81, x82, x83, x84, x85, x86, x87, x88, x89, x90, x91, s92, s93, s94, s95, s96, s97, s98, d, s100, x, .agg #[.int .i64 v.k, .int .i64 v.n, .string v.s, d, x]], defers := [] } u) :
    (subC [1, 1, 1, 1, 1, 1, 1, 1, 1, 1, 1, 0] (Try.f117.body.getD .skip)).wp Try.prog Q { tmps := #[.pointer (some ⟨p, 0, none⟩), spV s, x2, .slice da ds.length c, .slice va vs.length vc, x5, .pointer (some ⟨B0, 0, none⟩), .pointer (some ⟨B1, 0, none⟩), x8, x9, x10, x11, x12, x13, x14, x15, x16, x17, x18, x19, x20, x21, x22, x23, x24, x25, x26, x27, x28, x29, x30, x31, x32, x33, x34, x35, x36, x37, x38, x39, x40, x41, x42, x43, x44, x45, x46, x47, x48, x49, x50, x51, x52, x53, x54, x55, x56, x57, x58, x59, x60, x61, x62, x63, x64, x65, x66, x67, x68, x69, x70, x71, x72, x73, x74, x75, x76, x77, x78, x79, x80, x81, x82, x83, x84, x85, x86, x87, x88, x89, x90, x91, undef, undef, undef, undef, undef, undef, undef, undef, undef, undef, undef], defers := [] } W0 := by
  refine wp_region_inv (fun L a u => (Fr [T] W0 u ∧ (L 11 = false → u.heap[T]? = some (.map es clock))) ∧ ∃ s92 s93 s94 s95 s96 s97 s98 s99 s100 s101 s102 : Value, a = ({ tmps := #[.pointer (some ⟨p, 0, none⟩), spV s, x2, .slice da ds.length c, .slice va vs.length vc, x5, .pointer (some ⟨B0, 0, none⟩), .pointer (some ⟨B1, 0, none⟩), x8, x9, x10, x11, x12, x13, x14, x15, x16, x17, x18, x19, x20, x21, x22, x23, x24, x25, x26, x27, x28, x29, x30, x31, x32, x33, x34, x35, x36, x37, x38, x39, x40, x41, x42, x43, x44, x45, x46, x47, x48, x49, x50, x51, x52, x53, x54, x55, x56, x57, x58, x59, x60, x61, x62, x63, x64, x65, x66, x67, x68, x69, x70, x71, x72, x73, x74, x75, x76, x77, x78, x79, x80, x81, x82, x83, x84, x85, x86, x87, x88, x89, x90, x91, s92, s93, s94, s95, s96, s97, s98, s99, s100, s101, s102], defers := [] } : Act) ∧ (L 0 = true → s92 = .pointer (some ⟨p, 0, none⟩)) ∧ (L 1 = true → s93 = .pointer (some ⟨p, 0, none⟩)) ∧ (L 2 = true → s94 = .pointer (some ⟨p, 1, none⟩)) ∧ (L 3 = true → s95 = .map (some T)) ∧ (L 4 = true → s96 = spV s) ∧ (L 5 = true → s97 = v.val) ∧ (L 6 = true → s98 = .slice da ds.length c) ∧ (L 7 = true → u.ownsRow W0.heap.size tSp 2 s99 ds.length (ds.flatMap spC)) ∧ (L 8 = true → s100 = .slice va vs.length vc) ∧ (L 9 = true → u.ownsRow W0.heap.size tVa 3 s101 vs.length (vs.flatMap vC)) ∧ (L 10 = true → (s102 = .agg #[.int .i64 v.k, .int .i64 v.n, .string v.s, s99, s101] ∧ L 7 = true ∧ L 9 = true)) ∧ (L 11 = true → (L 10 = true ∧ u.heap[T]? = some (.map (putE s s102 ls es clock) (putC s ls clock))))) rfl (by kernel_rfl) ?_ ?_ ?_
  · exact ⟨⟨(Fr.refl _ _).drew, fun _ => HT0.out⟩, undef, undef, undef, undef, undef, undef, undef, undef, undef, undef, undef, rfl, by simp, by simp, by simp, by simp, by simp, by simp, by simp, by simp, by simp, by simp, by simp, by simp⟩
  · intro i hi
    have hi : i < 12 := hi
    rcases (by omega : i = 0 ∨ i = 1 ∨ i = 2 ∨ i = 3 ∨ i = 4 ∨ i = 5 ∨ i = 6 ∨ i = 7 ∨ i = 8 ∨ i = 9 ∨ i = 10 ∨ i = 11) with rfl | rfl | rfl | rfl | rfl | rfl | rfl | rfl | rfl | rfl | rfl | rfl
    · rintro L a u ⟨hF, s92, s93, s94, s95, s96, s97, s98, s99, s100, s101, s102, rfl, h0, h1, h2, h3, h4, h5, h6, h7, h8, h9, h10, h11⟩ hL hdep
      refine wpOp_step rfl (fun K hK => ?_)
      go_simp
      have hU := Fr.refl [] u
      exact hK _ _ ⟨⟨hF.1.trans0 hU, fun h => hU.heap (hF.2 (by simpa using h)) (by simp)⟩, _, _, _, _, _, _, _, _, _, _, _, rfl, fun _ => rfl, fun h => h1 (by simpa using h), fun h => h2 (by simpa using h), fun h => h3 (by simpa using h), fun h => h4 (by simpa using h), fun h => h5 (by simpa using h), fun h => h6 (by simpa using h), fun h => owns_fr (h7 (by simpa using h)) hU (by simp), fun h => h8 (by simpa using h), fun h => owns_fr (h9 (by simpa using h)) hU (by simp), fun h => by obtain ⟨e1, e2, e3⟩ := h10 (by simpa using h); exact ⟨e1, by simp [e2], by simp [e3]⟩, fun h => by obtain ⟨e1, e2⟩ := h11 (by simpa using h); exact ⟨by simp [e1], hU.heap e2 (by simp)⟩⟩
    · rintro L a u ⟨hF, s92, s93, s94, s95, s96, s97, s98, s99, s100, s101, s102, rfl, h0, h1, h2, h3, h4, h5, h6, h7, h8, h9, h10, h11⟩ hL hdep
      have d0 := h0 (hdep _ rfl ⟨0, .data⟩ (by simp) rfl)
      subst d0
      refine wpOp_step rfl (fun K hK => ?_)
      go_simp
      have hU := Fr.refl [] u
      exact hK _ _ ⟨⟨hF.1.trans0 hU, fun h => hU.heap (hF.2 (by simpa using h)) (by simp)⟩, _, _, _, _, _, _, _, _, _, _, _, rfl, fun h => h0 (by simpa using h), fun _ => rfl, fun h => h2 (by simpa using h), fun h => h3 (by simpa using h), fun h => h4 (by simpa using h), fun h => h5 (by simpa using h), fun h => h6 (by simpa using h), fun h => owns_fr (h7 (by simpa using h)) hU (by simp), fun h => h8 (by simpa using h), fun h => owns_fr (h9 (by simpa using h)) hU (by simp), fun h => by obtain ⟨e1, e2, e3⟩ := h10 (by simpa using h); exact ⟨e1, by simp [e2], by simp [e3]⟩, fun h => by obtain ⟨e1, e2⟩ := h11 (by simpa using h); exact ⟨by simp [e1], hU.heap e2 (by simp)⟩⟩
    · rintro L a u ⟨hF, s92, s93, s94, s95, s96, s97, s98, s99, s100, s101, s102, rfl, h0, h1, h2, h3, h4, h5, h6, h7, h8, h9, h10, h11⟩ hL hdep
      have d1 := h1 (hdep _ rfl ⟨1, .data⟩ (by simp) rfl)
      subst d1
      refine wpOp_step rfl (fun K hK => ?_)
      go_simp
      have hU := Fr.refl [] u
      exact hK _ _ ⟨⟨hF.1.trans0 hU, fun h => hU.heap (hF.2 (by simpa using h)) (by simp)⟩, _, _, _, _, _, _, _, _, _, _, _, rfl, fun h => h0 (by simpa using h), fun h => h1 (by simpa using h), fun _ => rfl, fun h => h3 (by simpa using h), fun h => h4 (by simpa using h), fun h => h5 (by simpa using h), fun h => h6 (by simpa using h), fun h => owns_fr (h7 (by simpa using h)) hU (by simp), fun h => h8 (by simpa using h), fun h => owns_fr (h9 (by simpa using h)) hU (by simp), fun h => by obtain ⟨e1, e2, e3⟩ := h10 (by simpa using h); exact ⟨e1, by simp [e2], by simp [e3]⟩, fun h => by obtain ⟨e1, e2⟩ := h11 (by simpa using h); exact ⟨by simp [e1], hU.heap e2 (by simp)⟩⟩
    · rintro L a u ⟨hF, s92, s93, s94, s95, s96, s97, s98, s99, s100, s101, s102, rfl, h0, h1, h2, h3, h4, h5, h6, h7, h8, h9, h10, h11⟩ hL hdep
      have d2 := h2 (hdep _ rfl ⟨2, .data⟩ (by simp) rfl)
      subst d2
      have c0 : u.cell? ⟨p, 1, none⟩ = some (.map (some T)) := ceT hF.1 hp0 hpT
      refine wpOp_step rfl (fun K hK => ?_)
      go_simp
      have hU := Fr.refl [] u
      exact hK _ _ ⟨⟨hF.1.trans0 hU, fun h => hU.heap (hF.2 (by simpa using h)) (by simp)⟩, _, _, _, _, _, _, _, _, _, _, _, rfl, fun h => h0 (by simpa using h), fun h => h1 (by simpa using h), fun h => h2 (by simpa using h), fun _ => rfl, fun h => h4 (by simpa using h), fun h => h5 (by simpa using h), fun h => h6 (by simpa using h), fun h => owns_fr (h7 (by simpa using h)) hU (by simp), fun h => h8 (by simpa using h), fun h => owns_fr (h9 (by simpa using h)) hU (by simp), fun h => by obtain ⟨e1, e2, e3⟩ := h10 (by simpa using h); exact ⟨e1, by simp [e2], by simp [e3]⟩, fun h => by obtain ⟨e1, e2⟩ := h11 (by simpa using h); exact ⟨by simp [e1], hU.heap e2 (by simp)⟩⟩
    · rintro L a u ⟨hF, s92, s93, s94, s95, s96, s97, s98, s99, s100, s101, s102, rfl, h0, h1, h2, h3, h4, h5, h6, h7, h8, h9, h10, h11⟩ hL hdep
      have c0 : u.cell? ⟨B0, 0, none⟩ = some (.int .i64 s.1) := ceT hF.1 ha0 h0T
      have c1 : u.cell? ⟨B0, 1, none⟩ = some (.int .i64 s.2) := ceT hF.1 ha1 h0T
      refine wpOp_step rfl (fun K hK => ?_)
      go_simp
      have hU := Fr.refl [] u
      exact hK _ _ ⟨⟨hF.1.trans0 hU, fun h => hU.heap (hF.2 (by simpa using h)) (by simp)⟩, _, _, _, _, _, _, _, _, _, _, _, rfl, fun h => h0 (by simpa using h), fun h => h1 (by simpa using h), fun h => h2 (by simpa using h), fun h => h3 (by simpa using h), fun _ => rfl, fun h => h5 (by simpa using h), fun h => h6 (by simpa using h), fun h => owns_fr (h7 (by simpa using h)) hU (by simp), fun h => h8 (by simpa using h), fun h => owns_fr (h9 (by simpa using h)) hU (by simp), fun h => by obtain ⟨e1, e2, e3⟩ := h10 (by simpa using h); exact ⟨e1, by simp [e2], by simp [e3]⟩, fun h => by obtain ⟨e1, e2⟩ := h11 (by simpa using h); exact ⟨by simp [e1], hU.heap e2 (by simp)⟩⟩
    · rintro L a u ⟨hF, s92, s93, s94, s95, s96, s97, s98, s99, s100, s101, s102, rfl, h0, h1, h2, h3, h4, h5, h6, h7, h8, h9, h10, h11⟩ hL hdep
      have c0 : u.cell? ⟨B1, 0, none⟩ = some (.int .i64 v.k) := ceT hF.1 hv0 h1T
      have c1 : u.cell? ⟨B1, 1, none⟩ = some (.int .i64 v.n) := ceT hF.1 hv1 h1T
      have c2 : u.cell? ⟨B1, 2, none⟩ = some (.string v.s) := ceT hF.1 hv2 h1T
      refine wpOp_step rfl (fun K hK => ?_)
      go_simp
      have hU := Fr.refl [] u
      exact hK _ _ ⟨⟨hF.1.trans0 hU, fun h => hU.heap (hF.2 (by simpa using h)) (by simp)⟩, _, _, _, _, _, _, _, _, _, _, _, rfl, fun h => h0 (by simpa using h), fun h => h1 (by simpa using h), fun h => h2 (by simpa using h), fun h => h3 (by simpa using h), fun h => h4 (by simpa using h), fun _ => rfl, fun h => h6 (by simpa using h), fun h => owns_fr (h7 (by simpa using h)) hU (by simp), fun h => h8 (by simpa using h), fun h => owns_fr (h9 (by simpa using h)) hU (by simp), fun h => by obtain ⟨e1, e2, e3⟩ := h10 (by simpa using h); exact ⟨e1, by simp [e2], by simp [e3]⟩, fun h => by obtain ⟨e1, e2⟩ := h11 (by simpa using h); exact ⟨by simp [e1], hU.heap e2 (by simp)⟩⟩
    · rintro L a u ⟨hF, s92, s93, s94, s95, s96, s97, s98, s99, s100, s101, s102, rfl, h0, h1, h2, h3, h4, h5, h6, h7, h8, h9, h10, h11⟩ hL hdep
      refine wpOp_step rfl (fun K hK => ?_)
      go_simp
      have hU := Fr.refl [] u
      exact hK _ _ ⟨⟨hF.1.trans0 hU, fun h => hU.heap (hF.2 (by simpa using h)) (by simp)⟩, _, _, _, _, _, _, _, _, _, _, _, rfl, fun h => h0 (by simpa using h), fun h => h1 (by simpa using h), fun h => h2 (by simpa using h), fun h => h3 (by simpa using h), fun h => h4 (by simpa using h), fun h => h5 (by simpa using h), fun _ => rfl, fun h => owns_fr (h7 (by simpa using h)) hU (by simp), fun h => h8 (by simpa using h), fun h => owns_fr (h9 (by simpa using h)) hU (by simp), fun h => by obtain ⟨e1, e2, e3⟩ := h10 (by simpa using h); exact ⟨e1, by simp [e2], by simp [e3]⟩, fun h => by obtain ⟨e1, e2⟩ := h11 (by simpa using h); exact ⟨by simp [e1], hU.heap e2 (by simp)⟩⟩
    · rintro L a u ⟨hF, s92, s93, s94, s95, s96, s97, s98, s99, s100, s101, s102, rfl, h0, h1, h2, h3, h4, h5, h6, h7, h8, h9, h10, h11⟩ hL hdep
      have d6 := h6 (hdep _ rfl ⟨6, .data⟩ (by simp) rfl)
      subst d6
      refine wpOp_step rfl (fun K hK => ?_)
      refine step_copyS (R := ds) (u := u) rfl _ rfl rfl (slT hF.1 HD.out HT0.out) HL.out ?_
      intro v2 u2 hv2 hU
      exact hK _ _ ⟨⟨hF.1.trans0 hU, fun h => hU.heap (hF.2 (by simpa using h)) (by simp)⟩, _, _, _, _, _, _, _, _, _, _, _, rfl, fun h => h0 (by simpa using h), fun h => h1 (by simpa using h), fun h => h2 (by simpa using h), fun h => h3 (by simpa using h), fun h => h4 (by simpa using h), fun h => h5 (by simpa using h), fun h => h6 (by simpa using h), fun _ => owns_mono hv2 hF.1.size, fun h => h8 (by simpa using h), fun h => owns_fr (h9 (by simpa using h)) hU (by simp), fun h => by obtain ⟨e1, e2, e3⟩ := h10 (by simpa using h); first | (rw [hL] at e2; cases e2) | (rw [hL] at e3; cases e3), fun h => by obtain ⟨e1, e2⟩ := h11 (by simpa using h); exact ⟨by simp [e1], hU.heap e2 (by simp)⟩⟩
    · rintro L a u ⟨hF, s92, s93, s94, s95, s96, s97, s98, s99, s100, s101, s102, rfl, h0, h1, h2, h3, h4, h5, h6, h7, h8, h9, h10, h11⟩ hL hdep
      refine wpOp_step rfl (fun K hK => ?_)
      go_simp
      have hU := Fr.refl [] u
      exact hK _ _ ⟨⟨hF.1.trans0 hU, fun h => hU.heap (hF.2 (by simpa using h)) (by simp)⟩, _, _, _, _, _, _, _, _, _, _, _, rfl, fun h => h0 (by simpa using h), fun h => h1 (by simpa using h), fun h => h2 (by simpa using h), fun h => h3 (by simpa using h), fun h => h4 (by simpa using h), fun h => h5 (by simpa using h), fun h => h6 (by simpa using h), fun h => owns_fr (h7 (by simpa using h)) hU (by simp), fun _ => rfl, fun h => owns_fr (h9 (by simpa using h)) hU (by simp), fun h => by obtain ⟨e1, e2, e3⟩ := h10 (by simpa using h); exact ⟨e1, by simp [e2], by simp [e3]⟩, fun h => by obtain ⟨e1, e2⟩ := h11 (by simpa using h); exact ⟨by simp [e1], hU.heap e2 (by simp)⟩⟩
    · rintro L a u ⟨hF, s92, s93, s94, s95, s96, s97, s98, s99, s100, s101, s102, rfl, h0, h1, h2, h3, h4, h5, h6, h7, h8, h9, h10, h11⟩ hL hdep
      have d8 := h8 (hdep _ rfl ⟨8, .data⟩ (by simp) rfl)
      subst d8
      refine wpOp_step rfl (fun K hK => ?_)
      refine step_copyV (R := vs) (u := u) rfl _ rfl rfl (slT hF.1 HV.out HT0.out) HLV.out ?_
      intro v2 u2 hv2 hU
      exact hK _ _ ⟨⟨hF.1.trans0 hU, fun h => hU.heap (hF.2 (by simpa using h)) (by simp)⟩, _, _, _, _, _, _, _, _, _, _, _, rfl, fun h => h0 (by simpa using h), fun h => h1 (by simpa using h), fun h => h2 (by simpa using h), fun h => h3 (by simpa using h), fun h => h4 (by simpa using h), fun h => h5 (by simpa using h), fun h => h6 (by simpa using h), fun h => owns_fr (h7 (by simpa using h)) hU (by simp), fun h => h8 (by simpa using h), fun _ => owns_mono hv2 hF.1.size, fun h => by obtain ⟨e1, e2, e3⟩ := h10 (by simpa using h); first | (rw [hL] at e2; cases e2) | (rw [hL] at e3; cases e3), fun h => by obtain ⟨e1, e2⟩ := h11 (by simpa using h); exact ⟨by simp [e1], hU.heap e2 (by simp)⟩⟩
    · rintro L a u ⟨hF, s92, s93, s94, s95, s96, s97, s98, s99, s100, s101, s102, rfl, h0, h1, h2, h3, h4, h5, h6, h7, h8, h9, h10, h11⟩ hL hdep
      have d5 := h5 (hdep _ rfl ⟨5, .data⟩ (by simp) rfl)
      have d7 := h7 (hdep _ rfl ⟨7, .data⟩ (by simp) rfl)
      have d9 := h9 (hdep _ rfl ⟨9, .data⟩ (by simp) rfl)
      subst d5
      obtain ⟨q1, n1, c1, rfl⟩ := own_form d7
      obtain ⟨q2, n2, c2, rfl⟩ := own_form d9
      refine wpOp_step rfl (fun K hK => ?_)
      go_simp
      have hU := Fr.refl [] u
      exact hK _ _ ⟨⟨hF.1.trans0 hU, fun h => hU.heap (hF.2 (by simpa using h)) (by simp)⟩, _, _, _, _, _, _, _, _, _, _, _, rfl, fun h => h0 (by simpa using h), fun h => h1 (by simpa using h), fun h => h2 (by simpa using h), fun h => h3 (by simpa using h), fun h => h4 (by simpa using h), fun h => h5 (by simpa using h), fun h => h6 (by simpa using h), fun h => owns_fr (h7 (by simpa using h)) hU (by simp), fun h => h8 (by simpa using h), fun h => owns_fr (h9 (by simpa using h)) hU (by simp), fun _ => ⟨rfl, by simp [hdep _ rfl ⟨7, .data⟩ (by simp) rfl], by simp [hdep _ rfl ⟨9, .data⟩ (by simp) rfl]⟩, fun h => by obtain ⟨e1, e2⟩ := h11 (by simpa using h); rw [hL] at e1; cases e1⟩
    · rintro L a u ⟨hF, s92, s93, s94, s95, s96, s97, s98, s99, s100, s101, s102, rfl, h0, h1, h2, h3, h4, h5, h6, h7, h8, h9, h10, h11⟩ hL hdep
      have d3 := h3 (hdep _ rfl ⟨3, .data⟩ (by simp) rfl)
      have d4 := h4 (hdep _ rfl ⟨4, .data⟩ (by simp) rfl)
      have hl10 := hdep _ rfl ⟨10, .data⟩ (by simp) rfl
      have d10 := h10 hl10
      subst d3
      subst d4
      obtain ⟨e102, hl7, hl9⟩ := d10
      have d7 := h7 hl7
      have d9 := h9 hl9
      obtain ⟨q1, n1, c1, rfl⟩ := own_form d7
      obtain ⟨q2, n2, c2, rfl⟩ := own_form d9
      subst e102
      have hob := hF.2 hL
      have hNT : ∀ (e : TypeId), ∀ b ∈ [T], ∀ cur, u.heap[b]? ≠ some (.cells cur e (0, 0)) := fun e b hb cur => by rw [List.mem_singleton] at hb; rw [hb, hob]; exact fun h => by cases h
      have hput := run_put (P := Try.prog) spotKey Try.underlying184 hob HP.out s (.agg #[.int .i64 v.k, .int .i64 v.n, .string v.s, .slice q1 n1 c1, .slice q2 n2 c2])
      refine wpOp_step rfl (fun K hK => ?_)
      go_simp
      have hU : Fr [T] u (ChangeMaps.setBlock u T (.map (putE s (.agg #[.int .i64 v.k, .int .i64 v.n, .string v.s, .slice q1 n1 c1, .slice q2 n2 c2]) ls es clock) (putC s ls clock))) := (Fr.refl [T] u).setBlock hob (.inl (by simp)) _
      have hset := ChangeMaps.heap_setBlock_same hob (.map (putE s (.agg #[.int .i64 v.k, .int .i64 v.n, .string v.s, .slice q1 n1 c1, .slice q2 n2 c2]) ls es clock) (putC s ls clock))
      exact hK _ _ ⟨⟨hF.1.transS hU, fun h => by simp at h⟩, _, _, _, _, _, _, _, _, _, _, _, rfl, fun h => h0 (by simpa using h), fun h => h1 (by simpa using h), fun h => h2 (by simpa using h), fun h => h3 (by simpa using h), fun h => h4 (by simpa using h), fun h => h5 (by simpa using h), fun h => h6 (by simpa using h), fun h => owns_frT (h7 (by simpa using h)) hU (hNT _), fun h => h8 (by simpa using h), fun h => owns_frT (h9 (by simpa using h)) hU (hNT _), fun h => by obtain ⟨e1, e2, e3⟩ := h10 (by simpa using h); exact ⟨e1, by simp [e2], by simp [e3]⟩, fun _ => ⟨by simp [hl10], hset⟩⟩
  · rintro L a u hAll ⟨hFend, s92, s93, s94, s95, s96, s97, s98, s99, s100, s101, s102, rfl, h0, h1, h2, h3, h4, h5, h6, h7, h8, h9, h10, h11⟩
    have d7 := h7 (hAll 7 (by decide))
    have d9 := h9 (hAll 9 (by decide))
    obtain ⟨e102, _, _⟩ := h10 (hAll 10 (by decide))
    obtain ⟨_, d11⟩ := h11 (hAll 11 (by decide))
    subst e102
    exact hend _ _ u _ _ _ _ _ _ _ _ hFend.1 d7 d9 d11
end Go.Proofs.Ytldppdafgbipjaa
