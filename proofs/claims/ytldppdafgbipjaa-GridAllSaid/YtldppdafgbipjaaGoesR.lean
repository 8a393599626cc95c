/-
  quadrillelaw7's (*pair).goes: the copies at its beginning.
-/
import Derived.Test.YtldppdafgbipjaaCopy
import Derived.Test.YtldppdafgbipjaaAllint
import Derived.Test.YtldppdafgbipjaaRegionInv
import Derived.Stop.RegionWithIn
import Derived.Sort.CutIn
namespace Go.Proofs.Ytldppdafgbipjaa
open Go.RowKit Go.Shelf
attribute [local go_sem] Oper.semAt_some

/-- A call of the script. -/
structure Op7 where
  k : Int
  s : Sp
  x : Int
  a : Ar
  on : Bool
abbrev Op7.val (o : Op7) : Value := .agg #[.int .i64 o.k, .int .i64 o.s.1, .int .i64 o.s.2, .int .i64 o.x, .int .i64 o.a.t, .int .i64 o.a.l, .int .i64 o.a.b, .int .i64 o.a.r, .bool o.on]

theorem own_form {w : World} {B : Nat} {e : TypeId} {size n : Nat} {v : Value} {xs : List Value} (h : w.ownsRow B e size v n xs) : ∃ q k c, v = .slice q k c := by
  obtain ⟨a, c, e⟩ := (RIs.of_owns h).form
  exact ⟨_, _, _, e⟩
theorem own_nbox {w : World} {B x : Nat} {e T : TypeId} {size n : Nat} {v : Value} {xs : List Value} {cs : Array Value} {fr : Nat × Nat} (h : w.ownsRow B e size v n xs) (hx : w.heap[x]? = some (.cells cs T fr)) (hne : T ≠ e) : ∀ k, v.ownBlock = some k → k ∉ [x] := by
  intro k hk hm
  rw [List.mem_singleton] at hm
  subst hm
  obtain ⟨_, hh⟩ := own_heap (owns_mono h (Nat.zero_le _)) hk
  rw [hx] at hh
  injection hh with hh
  injection hh with _ h2 _
  exact hne h2
theorem box_ne {w : World} {x y : Nat} {T U : TypeId} {cs ds : Array Value} {f g : Nat × Nat} (hx : w.heap[x]? = some (.cells cs T f)) (hy : w.heap[y]? = some (.cells ds U g)) (hne : T ≠ U) : x ≠ y := by
  rintro rfl
  rw [hx] at hy
  injection hy with hy
  injection hy with _ h2 _
  exact hne h2

/-- Parts of a code. -/
def fstC : Code → Code
  | .seq a _ => a
  | c => c
def sndC : Code → Code
  | .seq _ b => b
  | c => c

set_option maxRecDepth 100000 in
set_option maxHeartbeats 6400000 in
theorem goesR1 (pb rb PB : Nat) (R : List (Sp × Int)) (o : Op7) (W0 : World) (qa qx : Option Addr) (ca cx : Nat) (HR0 : Hid (RIn W0 rb (.slice qa R.length ca) (.slice qx R.length cx) R R)) (HL0 : Hid (R.length ≤ 65536))
    (hPc : W0.cell? ⟨PB, 0, none⟩ = some (.pointer (some ⟨pb, 0, none⟩))) (hp1 : W0.cell? ⟨pb, 1, none⟩ = some (.pointer (some ⟨rb, 0, none⟩)))
    (ht0 : W0.cell? ⟨rb, 0, none⟩ = some (.slice qa R.length ca)) (ht1 : W0.cell? ⟨rb, 1, none⟩ = some (.slice qx R.length cx)) (Q : Exit → Act → World → Prop)
    (hend : ∀ (LB XB : Nat) (vl vx : Value) (u : World) (s17 s18 s19 s20 s21 s22 s23 s25 s26 s27 s28 s29 s30 s31 : Value), Fr [] W0 u → u.ownsRow W0.heap.size 26 2 vl R.length (R.flatMap encA) → u.ownsRow W0.heap.size 3 1 vx R.length (R.flatMap encX) →
      W0.heap.size ≤ LB → u.heap[LB]? = some (.cells #[vl] 35 (0, 0)) → W0.heap.size ≤ XB → u.heap[XB]? = some (.cells #[vx] 48 (0, 0)) → Q .normal { tmps := #[.pointer (some ⟨pb, 0, none⟩), o.val, .pointer (some ⟨PB, 0, none⟩), .pointer (some ⟨(PB + 1), 0, none⟩), .pointer (some ⟨(PB + 1 + 1), 0, none⟩), .pointer (some ⟨LB, 0, none⟩), .pointer (some ⟨XB, 0, none⟩), undef, undef, undef, undef, undef, undef, undef, undef, undef, undef, s17, s18, s19, s20, s21, s22, s23, vl, s25, s26, s27, s28, s29, s30, s31, vx, undef, undef, undef, undef, undef, undef, undef, undef, undef, undef, undef, undef, undef, undef, undef, undef, undef, undef, undef, undef, undef, undef, undef, undef, undef, undef, undef, undef, undef, undef, undef, undef, undef, undef, undef, undef, undef, undef, undef, undef, undef, undef, undef, undef, undef, undef, undef, undef, undef, undef, undef, undef, undef, undef, undef, undef, undef, undef, undef, undef, undef, undef, undef, undef, undef, undef, undef, undef, undef, undef, undef, undef, undef, undef, undef, undef, undef, undef, undef, undef, undef, undef, undef, undef, undef, undef, undef, undef, undef, undef, undef, undef, undef, undef, undef, undef, undef, undef, undef, undef, undef, undef, undef, undef, undef, undef, undef, undef, undef, undef, undef, undef, undef, undef, undef, undef, undef, undef, undef, undef, undef, undef, undef, undef, undef, undef, undef, undef, undef, undef, undef, undef, undef, undef, undef, undef, undef, undef, undef, undef, undef, undef, undef, undef, undef, undef, undef, undef, undef, undef, undef, undef, undef, undef, undef, undef, undef, undef, undef], defers := [] } u) :
    (fstC (sndC (Try.f23.body.getD .skip))).wp Try.prog Q { tmps := #[.pointer (some ⟨pb, 0, none⟩), o.val, .pointer (some ⟨PB, 0, none⟩), .pointer (some ⟨(PB + 1), 0, none⟩), .pointer (some ⟨(PB + 1 + 1), 0, none⟩), undef, undef, undef, undef, undef, undef, undef, undef, undef, undef, undef, undef, undef, undef, undef, undef, undef, undef, undef, undef, undef, undef, undef, undef, undef, undef, undef, undef, undef, undef, undef, undef, undef, undef, undef, undef, undef, undef, undef, undef, undef, undef, undef, undef, undef, undef, undef, undef, undef, undef, undef, undef, undef, undef, undef, undef, undef, undef, undef, undef, undef, undef, undef, undef, undef, undef, undef, undef, undef, undef, undef, undef, undef, undef, undef, undef, undef, undef, undef, undef, undef, undef, undef, undef, undef, undef, undef, undef, undef, undef, undef, undef, undef, undef, undef, undef, undef, undef, undef, undef, undef, undef, undef, undef, undef, undef, undef, undef, undef, undef, undef, undef, undef, undef, undef, undef, undef, undef, undef, undef, undef, undef, undef, undef, undef, undef, undef, undef, undef, undef, undef, undef, undef, undef, undef, undef, undef, undef, undef, undef, undef, undef, undef, undef, undef, undef, undef, undef, undef, undef, undef, undef, undef, undef, undef, undef, undef, undef, undef, undef, undef, undef, undef, undef, undef, undef, undef, undef, undef, undef, undef, undef, undef, undef, undef, undef, undef, undef, undef, undef, undef, undef, undef, undef, undef, undef, undef], defers := [] } W0 := by
  refine wp_region_inv (fun L a u => Fr [] W0 u ∧ ∃ s5 s6 s17 s18 s19 s20 s21 s22 s23 s24 s25 s26 s27 s28 s29 s30 s31 s32 : Value, a = ({ tmps := #[.pointer (some ⟨pb, 0, none⟩), o.val, .pointer (some ⟨PB, 0, none⟩), .pointer (some ⟨(PB + 1), 0, none⟩), .pointer (some ⟨(PB + 1 + 1), 0, none⟩), s5, s6, undef, undef, undef, undef, undef, undef, undef, undef, undef, undef, s17, s18, s19, s20, s21, s22, s23, s24, s25, s26, s27, s28, s29, s30, s31, s32, undef, undef, undef, undef, undef, undef, undef, undef, undef, undef, undef, undef, undef, undef, undef, undef, undef, undef, undef, undef, undef, undef, undef, undef, undef, undef, undef, undef, undef, undef, undef, undef, undef, undef, undef, undef, undef, undef, undef, undef, undef, undef, undef, undef, undef, undef, undef, undef, undef, undef, undef, undef, undef, undef, undef, undef, undef, undef, undef, undef, undef, undef, undef, undef, undef, undef, undef, undef, undef, undef, undef, undef, undef, undef, undef, undef, undef, undef, undef, undef, undef, undef, undef, undef, undef, undef, undef, undef, undef, undef, undef, undef, undef, undef, undef, undef, undef, undef, undef, undef, undef, undef, undef, undef, undef, undef, undef, undef, undef, undef, undef, undef, undef, undef, undef, undef, undef, undef, undef, undef, undef, undef, undef, undef, undef, undef, undef, undef, undef, undef, undef, undef, undef, undef, undef, undef, undef, undef, undef, undef, undef, undef, undef, undef, undef, undef, undef, undef, undef, undef, undef, undef, undef, undef, undef, undef, undef, undef, undef], defers := [] } : Act) ∧ (L 0 = true → s17 = .pointer (some ⟨pb, 0, none⟩)) ∧ (L 1 = true → s18 = .pointer (some ⟨pb, 0, none⟩)) ∧ (L 2 = true → s19 = .pointer (some ⟨pb, 1, none⟩)) ∧ (L 3 = true → s20 = .pointer (some ⟨rb, 0, none⟩)) ∧ (L 4 = true → s21 = .pointer (some ⟨rb, 0, none⟩)) ∧ (L 5 = true → s22 = .pointer (some ⟨rb, 0, none⟩)) ∧ (L 6 = true → s23 = .slice qa R.length ca) ∧ (L 7 = true → u.ownsRow W0.heap.size 26 2 s24 R.length (R.flatMap encA)) ∧ (L 8 = true → s25 = .pointer (some ⟨pb, 0, none⟩)) ∧ (L 9 = true → s26 = .pointer (some ⟨pb, 0, none⟩)) ∧ (L 10 = true → s27 = .pointer (some ⟨pb, 1, none⟩)) ∧ (L 11 = true → s28 = .pointer (some ⟨rb, 0, none⟩)) ∧ (L 12 = true → s29 = .pointer (some ⟨rb, 0, none⟩)) ∧ (L 13 = true → s30 = .pointer (some ⟨rb, 1, none⟩)) ∧ (L 14 = true → s31 = .slice qx R.length cx) ∧ (L 15 = true → u.ownsRow W0.heap.size 3 1 s32 R.length (R.flatMap encX)) ∧ (L 16 = true → ∃ x v, s5 = .pointer (some ⟨x, 0, none⟩) ∧ W0.heap.size ≤ x ∧ u.heap[x]? = some (.cells #[v] 35 (0, 0)) ∧ (L 18 = true → v = s24)) ∧ (L 17 = true → ∃ x v, s6 = .pointer (some ⟨x, 0, none⟩) ∧ W0.heap.size ≤ x ∧ u.heap[x]? = some (.cells #[v] 48 (0, 0)) ∧ (L 19 = true → v = s32)) ∧ (L 18 = true → L 16 = true ∧ L 7 = true) ∧ (L 19 = true → L 17 = true ∧ L 15 = true)) rfl (by kernel_rfl) ?_ ?_ ?_
  · exact ⟨(Fr.refl _ _).drew, undef, undef, undef, undef, undef, undef, undef, undef, undef, undef, undef, undef, undef, undef, undef, undef, undef, undef, rfl, by simp, by simp, by simp, by simp, by simp, by simp, by simp, by simp, by simp, by simp, by simp, by simp, by simp, by simp, by simp, by simp, by simp, by simp, by simp, by simp⟩
  · intro i hi
    have hi : i < 20 := hi
    rcases (by omega : i = 0 ∨ i = 1 ∨ i = 2 ∨ i = 3 ∨ i = 4 ∨ i = 5 ∨ i = 6 ∨ i = 7 ∨ i = 8 ∨ i = 9 ∨ i = 10 ∨ i = 11 ∨ i = 12 ∨ i = 13 ∨ i = 14 ∨ i = 15 ∨ i = 16 ∨ i = 17 ∨ i = 18 ∨ i = 19) with rfl | rfl | rfl | rfl | rfl | rfl | rfl | rfl | rfl | rfl | rfl | rfl | rfl | rfl | rfl | rfl | rfl | rfl | rfl | rfl
    · rintro L a u ⟨hF, s5, s6, s17, s18, s19, s20, s21, s22, s23, s24, s25, s26, s27, s28, s29, s30, s31, s32, rfl, h0, h1, h2, h3, h4, h5, h6, h7, h8, h9, h10, h11, h12, h13, h14, h15, h16, h17, h18, h19⟩ hL hdep
      have c0 : u.cell? ⟨PB, 0, none⟩ = some (.pointer (some ⟨pb, 0, none⟩)) := ce_call hF hPc
      refine wpOp_step rfl (fun K hK => ?_)
      go_simp
      have hU := Fr.refl [] u
      exact hK _ _ ⟨hF.trans0 hU, _, _, _, _, _, _, _, _, _, _, _, _, _, _, _, _, _, _, rfl, fun _ => rfl, fun h => h1 (by simpa using h), fun h => h2 (by simpa using h), fun h => h3 (by simpa using h), fun h => h4 (by simpa using h), fun h => h5 (by simpa using h), fun h => h6 (by simpa using h), fun h => owns_fr (h7 (by simpa using h)) hU (by simp), fun h => h8 (by simpa using h), fun h => h9 (by simpa using h), fun h => h10 (by simpa using h), fun h => h11 (by simpa using h), fun h => h12 (by simpa using h), fun h => h13 (by simpa using h), fun h => h14 (by simpa using h), fun h => owns_fr (h15 (by simpa using h)) hU (by simp), fun h => by obtain ⟨x, v, e1, e2, e3, e4⟩ := h16 (by simpa using h); exact ⟨x, v, e1, e2, hU.heap e3 (by simp), fun h => e4 (by simpa using h)⟩, fun h => by obtain ⟨x, v, e1, e2, e3, e4⟩ := h17 (by simpa using h); exact ⟨x, v, e1, e2, hU.heap e3 (by simp), fun h => e4 (by simpa using h)⟩, fun h => by obtain ⟨e1, e2⟩ := h18 (by simpa using h); exact ⟨by simp [e1], by simp [e2]⟩, fun h => by obtain ⟨e1, e2⟩ := h19 (by simpa using h); exact ⟨by simp [e1], by simp [e2]⟩⟩
    · rintro L a u ⟨hF, s5, s6, s17, s18, s19, s20, s21, s22, s23, s24, s25, s26, s27, s28, s29, s30, s31, s32, rfl, h0, h1, h2, h3, h4, h5, h6, h7, h8, h9, h10, h11, h12, h13, h14, h15, h16, h17, h18, h19⟩ hL hdep
      have d0 := h0 (hdep _ rfl ⟨0, .data⟩ (by simp) rfl)
      subst d0
      refine wpOp_step rfl (fun K hK => ?_)
      go_simp
      have hU := Fr.refl [] u
      exact hK _ _ ⟨hF.trans0 hU, _, _, _, _, _, _, _, _, _, _, _, _, _, _, _, _, _, _, rfl, fun h => h0 (by simpa using h), fun _ => rfl, fun h => h2 (by simpa using h), fun h => h3 (by simpa using h), fun h => h4 (by simpa using h), fun h => h5 (by simpa using h), fun h => h6 (by simpa using h), fun h => owns_fr (h7 (by simpa using h)) hU (by simp), fun h => h8 (by simpa using h), fun h => h9 (by simpa using h), fun h => h10 (by simpa using h), fun h => h11 (by simpa using h), fun h => h12 (by simpa using h), fun h => h13 (by simpa using h), fun h => h14 (by simpa using h), fun h => owns_fr (h15 (by simpa using h)) hU (by simp), fun h => by obtain ⟨x, v, e1, e2, e3, e4⟩ := h16 (by simpa using h); exact ⟨x, v, e1, e2, hU.heap e3 (by simp), fun h => e4 (by simpa using h)⟩, fun h => by obtain ⟨x, v, e1, e2, e3, e4⟩ := h17 (by simpa using h); exact ⟨x, v, e1, e2, hU.heap e3 (by simp), fun h => e4 (by simpa using h)⟩, fun h => by obtain ⟨e1, e2⟩ := h18 (by simpa using h); exact ⟨by simp [e1], by simp [e2]⟩, fun h => by obtain ⟨e1, e2⟩ := h19 (by simpa using h); exact ⟨by simp [e1], by simp [e2]⟩⟩
    · rintro L a u ⟨hF, s5, s6, s17, s18, s19, s20, s21, s22, s23, s24, s25, s26, s27, s28, s29, s30, s31, s32, rfl, h0, h1, h2, h3, h4, h5, h6, h7, h8, h9, h10, h11, h12, h13, h14, h15, h16, h17, h18, h19⟩ hL hdep
      have d1 := h1 (hdep _ rfl ⟨1, .data⟩ (by simp) rfl)
      subst d1
      refine wpOp_step rfl (fun K hK => ?_)
      go_simp
      have hU := Fr.refl [] u
      exact hK _ _ ⟨hF.trans0 hU, _, _, _, _, _, _, _, _, _, _, _, _, _, _, _, _, _, _, rfl, fun h => h0 (by simpa using h), fun h => h1 (by simpa using h), fun _ => rfl, fun h => h3 (by simpa using h), fun h => h4 (by simpa using h), fun h => h5 (by simpa using h), fun h => h6 (by simpa using h), fun h => owns_fr (h7 (by simpa using h)) hU (by simp), fun h => h8 (by simpa using h), fun h => h9 (by simpa using h), fun h => h10 (by simpa using h), fun h => h11 (by simpa using h), fun h => h12 (by simpa using h), fun h => h13 (by simpa using h), fun h => h14 (by simpa using h), fun h => owns_fr (h15 (by simpa using h)) hU (by simp), fun h => by obtain ⟨x, v, e1, e2, e3, e4⟩ := h16 (by simpa using h); exact ⟨x, v, e1, e2, hU.heap e3 (by simp), fun h => e4 (by simpa using h)⟩, fun h => by obtain ⟨x, v, e1, e2, e3, e4⟩ := h17 (by simpa using h); exact ⟨x, v, e1, e2, hU.heap e3 (by simp), fun h => e4 (by simpa using h)⟩, fun h => by obtain ⟨e1, e2⟩ := h18 (by simpa using h); exact ⟨by simp [e1], by simp [e2]⟩, fun h => by obtain ⟨e1, e2⟩ := h19 (by simpa using h); exact ⟨by simp [e1], by simp [e2]⟩⟩
    · rintro L a u ⟨hF, s5, s6, s17, s18, s19, s20, s21, s22, s23, s24, s25, s26, s27, s28, s29, s30, s31, s32, rfl, h0, h1, h2, h3, h4, h5, h6, h7, h8, h9, h10, h11, h12, h13, h14, h15, h16, h17, h18, h19⟩ hL hdep
      have d2 := h2 (hdep _ rfl ⟨2, .data⟩ (by simp) rfl)
      subst d2
      have c0 : u.cell? ⟨pb, 1, none⟩ = some (.pointer (some ⟨rb, 0, none⟩)) := ce_call hF hp1
      refine wpOp_step rfl (fun K hK => ?_)
      go_simp
      have hU := Fr.refl [] u
      exact hK _ _ ⟨hF.trans0 hU, _, _, _, _, _, _, _, _, _, _, _, _, _, _, _, _, _, _, rfl, fun h => h0 (by simpa using h), fun h => h1 (by simpa using h), fun h => h2 (by simpa using h), fun _ => rfl, fun h => h4 (by simpa using h), fun h => h5 (by simpa using h), fun h => h6 (by simpa using h), fun h => owns_fr (h7 (by simpa using h)) hU (by simp), fun h => h8 (by simpa using h), fun h => h9 (by simpa using h), fun h => h10 (by simpa using h), fun h => h11 (by simpa using h), fun h => h12 (by simpa using h), fun h => h13 (by simpa using h), fun h => h14 (by simpa using h), fun h => owns_fr (h15 (by simpa using h)) hU (by simp), fun h => by obtain ⟨x, v, e1, e2, e3, e4⟩ := h16 (by simpa using h); exact ⟨x, v, e1, e2, hU.heap e3 (by simp), fun h => e4 (by simpa using h)⟩, fun h => by obtain ⟨x, v, e1, e2, e3, e4⟩ := h17 (by simpa using h); exact ⟨x, v, e1, e2, hU.heap e3 (by simp), fun h => e4 (by simpa using h)⟩, fun h => by obtain ⟨e1, e2⟩ := h18 (by simpa using h); exact ⟨by simp [e1], by simp [e2]⟩, fun h => by obtain ⟨e1, e2⟩ := h19 (by simpa using h); exact ⟨by simp [e1], by simp [e2]⟩⟩
    · rintro L a u ⟨hF, s5, s6, s17, s18, s19, s20, s21, s22, s23, s24, s25, s26, s27, s28, s29, s30, s31, s32, rfl, h0, h1, h2, h3, h4, h5, h6, h7, h8, h9, h10, h11, h12, h13, h14, h15, h16, h17, h18, h19⟩ hL hdep
      have d3 := h3 (hdep _ rfl ⟨3, .data⟩ (by simp) rfl)
      subst d3
      refine wpOp_step rfl (fun K hK => ?_)
      go_simp
      have hU := Fr.refl [] u
      exact hK _ _ ⟨hF.trans0 hU, _, _, _, _, _, _, _, _, _, _, _, _, _, _, _, _, _, _, rfl, fun h => h0 (by simpa using h), fun h => h1 (by simpa using h), fun h => h2 (by simpa using h), fun h => h3 (by simpa using h), fun _ => rfl, fun h => h5 (by simpa using h), fun h => h6 (by simpa using h), fun h => owns_fr (h7 (by simpa using h)) hU (by simp), fun h => h8 (by simpa using h), fun h => h9 (by simpa using h), fun h => h10 (by simpa using h), fun h => h11 (by simpa using h), fun h => h12 (by simpa using h), fun h => h13 (by simpa using h), fun h => h14 (by simpa using h), fun h => owns_fr (h15 (by simpa using h)) hU (by simp), fun h => by obtain ⟨x, v, e1, e2, e3, e4⟩ := h16 (by simpa using h); exact ⟨x, v, e1, e2, hU.heap e3 (by simp), fun h => e4 (by simpa using h)⟩, fun h => by obtain ⟨x, v, e1, e2, e3, e4⟩ := h17 (by simpa using h); exact ⟨x, v, e1, e2, hU.heap e3 (by simp), fun h => e4 (by simpa using h)⟩, fun h => by obtain ⟨e1, e2⟩ := h18 (by simpa using h); exact ⟨by simp [e1], by simp [e2]⟩, fun h => by obtain ⟨e1, e2⟩ := h19 (by simpa using h); exact ⟨by simp [e1], by simp [e2]⟩⟩
    · rintro L a u ⟨hF, s5, s6, s17, s18, s19, s20, s21, s22, s23, s24, s25, s26, s27, s28, s29, s30, s31, s32, rfl, h0, h1, h2, h3, h4, h5, h6, h7, h8, h9, h10, h11, h12, h13, h14, h15, h16, h17, h18, h19⟩ hL hdep
      have d4 := h4 (hdep _ rfl ⟨4, .data⟩ (by simp) rfl)
      subst d4
      refine wpOp_step rfl (fun K hK => ?_)
      go_simp
      have hU := Fr.refl [] u
      exact hK _ _ ⟨hF.trans0 hU, _, _, _, _, _, _, _, _, _, _, _, _, _, _, _, _, _, _, rfl, fun h => h0 (by simpa using h), fun h => h1 (by simpa using h), fun h => h2 (by simpa using h), fun h => h3 (by simpa using h), fun h => h4 (by simpa using h), fun _ => rfl, fun h => h6 (by simpa using h), fun h => owns_fr (h7 (by simpa using h)) hU (by simp), fun h => h8 (by simpa using h), fun h => h9 (by simpa using h), fun h => h10 (by simpa using h), fun h => h11 (by simpa using h), fun h => h12 (by simpa using h), fun h => h13 (by simpa using h), fun h => h14 (by simpa using h), fun h => owns_fr (h15 (by simpa using h)) hU (by simp), fun h => by obtain ⟨x, v, e1, e2, e3, e4⟩ := h16 (by simpa using h); exact ⟨x, v, e1, e2, hU.heap e3 (by simp), fun h => e4 (by simpa using h)⟩, fun h => by obtain ⟨x, v, e1, e2, e3, e4⟩ := h17 (by simpa using h); exact ⟨x, v, e1, e2, hU.heap e3 (by simp), fun h => e4 (by simpa using h)⟩, fun h => by obtain ⟨e1, e2⟩ := h18 (by simpa using h); exact ⟨by simp [e1], by simp [e2]⟩, fun h => by obtain ⟨e1, e2⟩ := h19 (by simpa using h); exact ⟨by simp [e1], by simp [e2]⟩⟩
    · rintro L a u ⟨hF, s5, s6, s17, s18, s19, s20, s21, s22, s23, s24, s25, s26, s27, s28, s29, s30, s31, s32, rfl, h0, h1, h2, h3, h4, h5, h6, h7, h8, h9, h10, h11, h12, h13, h14, h15, h16, h17, h18, h19⟩ hL hdep
      have d5 := h5 (hdep _ rfl ⟨5, .data⟩ (by simp) rfl)
      subst d5
      have c0 : u.cell? ⟨rb, 0, none⟩ = some (.slice qa R.length ca) := ce_call hF ht0
      refine wpOp_step rfl (fun K hK => ?_)
      go_simp
      have hU := Fr.refl [] u
      exact hK _ _ ⟨hF.trans0 hU, _, _, _, _, _, _, _, _, _, _, _, _, _, _, _, _, _, _, rfl, fun h => h0 (by simpa using h), fun h => h1 (by simpa using h), fun h => h2 (by simpa using h), fun h => h3 (by simpa using h), fun h => h4 (by simpa using h), fun h => h5 (by simpa using h), fun _ => rfl, fun h => owns_fr (h7 (by simpa using h)) hU (by simp), fun h => h8 (by simpa using h), fun h => h9 (by simpa using h), fun h => h10 (by simpa using h), fun h => h11 (by simpa using h), fun h => h12 (by simpa using h), fun h => h13 (by simpa using h), fun h => h14 (by simpa using h), fun h => owns_fr (h15 (by simpa using h)) hU (by simp), fun h => by obtain ⟨x, v, e1, e2, e3, e4⟩ := h16 (by simpa using h); exact ⟨x, v, e1, e2, hU.heap e3 (by simp), fun h => e4 (by simpa using h)⟩, fun h => by obtain ⟨x, v, e1, e2, e3, e4⟩ := h17 (by simpa using h); exact ⟨x, v, e1, e2, hU.heap e3 (by simp), fun h => e4 (by simpa using h)⟩, fun h => by obtain ⟨e1, e2⟩ := h18 (by simpa using h); exact ⟨by simp [e1], by simp [e2]⟩, fun h => by obtain ⟨e1, e2⟩ := h19 (by simpa using h); exact ⟨by simp [e1], by simp [e2]⟩⟩
    · rintro L a u ⟨hF, s5, s6, s17, s18, s19, s20, s21, s22, s23, s24, s25, s26, s27, s28, s29, s30, s31, s32, rfl, h0, h1, h2, h3, h4, h5, h6, h7, h8, h9, h10, h11, h12, h13, h14, h15, h16, h17, h18, h19⟩ hL hdep
      have d6 := h6 (hdep _ rfl ⟨6, .data⟩ (by simp) rfl)
      subst d6
      refine wpOp_step rfl (fun K hK => ?_)
      refine step_copyA (R := R) (u := u) rfl _ rfl rfl (owns_fr HR0.out.at' hF (by simp)) HL0.out ?_
      intro v2 u2 hv2 hC
      have hU := hC
      exact hK _ _ ⟨hF.trans0 hU, _, _, _, _, _, _, _, _, _, _, _, _, _, _, _, _, _, _, rfl, fun h => h0 (by simpa using h), fun h => h1 (by simpa using h), fun h => h2 (by simpa using h), fun h => h3 (by simpa using h), fun h => h4 (by simpa using h), fun h => h5 (by simpa using h), fun h => h6 (by simpa using h), fun _ => owns_mono hv2 hF.size, fun h => h8 (by simpa using h), fun h => h9 (by simpa using h), fun h => h10 (by simpa using h), fun h => h11 (by simpa using h), fun h => h12 (by simpa using h), fun h => h13 (by simpa using h), fun h => h14 (by simpa using h), fun h => owns_fr (h15 (by simpa using h)) hU (by simp), fun h => by obtain ⟨x, v, e1, e2, e3, e4⟩ := h16 (by simpa using h); exact ⟨x, v, e1, e2, hU.heap e3 (by simp), fun h => by have h0 := (h18 (by simpa using h)).2; rw [hL] at h0; cases h0⟩, fun h => by obtain ⟨x, v, e1, e2, e3, e4⟩ := h17 (by simpa using h); exact ⟨x, v, e1, e2, hU.heap e3 (by simp), fun h => e4 (by simpa using h)⟩, fun h => by obtain ⟨e1, e2⟩ := h18 (by simpa using h); exact ⟨by simp [e1], by simp [e2]⟩, fun h => by obtain ⟨e1, e2⟩ := h19 (by simpa using h); exact ⟨by simp [e1], by simp [e2]⟩⟩
    · rintro L a u ⟨hF, s5, s6, s17, s18, s19, s20, s21, s22, s23, s24, s25, s26, s27, s28, s29, s30, s31, s32, rfl, h0, h1, h2, h3, h4, h5, h6, h7, h8, h9, h10, h11, h12, h13, h14, h15, h16, h17, h18, h19⟩ hL hdep
      have c0 : u.cell? ⟨PB, 0, none⟩ = some (.pointer (some ⟨pb, 0, none⟩)) := ce_call hF hPc
      refine wpOp_step rfl (fun K hK => ?_)
      go_simp
      have hU := Fr.refl [] u
      exact hK _ _ ⟨hF.trans0 hU, _, _, _, _, _, _, _, _, _, _, _, _, _, _, _, _, _, _, rfl, fun h => h0 (by simpa using h), fun h => h1 (by simpa using h), fun h => h2 (by simpa using h), fun h => h3 (by simpa using h), fun h => h4 (by simpa using h), fun h => h5 (by simpa using h), fun h => h6 (by simpa using h), fun h => owns_fr (h7 (by simpa using h)) hU (by simp), fun _ => rfl, fun h => h9 (by simpa using h), fun h => h10 (by simpa using h), fun h => h11 (by simpa using h), fun h => h12 (by simpa using h), fun h => h13 (by simpa using h), fun h => h14 (by simpa using h), fun h => owns_fr (h15 (by simpa using h)) hU (by simp), fun h => by obtain ⟨x, v, e1, e2, e3, e4⟩ := h16 (by simpa using h); exact ⟨x, v, e1, e2, hU.heap e3 (by simp), fun h => e4 (by simpa using h)⟩, fun h => by obtain ⟨x, v, e1, e2, e3, e4⟩ := h17 (by simpa using h); exact ⟨x, v, e1, e2, hU.heap e3 (by simp), fun h => e4 (by simpa using h)⟩, fun h => by obtain ⟨e1, e2⟩ := h18 (by simpa using h); exact ⟨by simp [e1], by simp [e2]⟩, fun h => by obtain ⟨e1, e2⟩ := h19 (by simpa using h); exact ⟨by simp [e1], by simp [e2]⟩⟩
    · rintro L a u ⟨hF, s5, s6, s17, s18, s19, s20, s21, s22, s23, s24, s25, s26, s27, s28, s29, s30, s31, s32, rfl, h0, h1, h2, h3, h4, h5, h6, h7, h8, h9, h10, h11, h12, h13, h14, h15, h16, h17, h18, h19⟩ hL hdep
      have d8 := h8 (hdep _ rfl ⟨8, .data⟩ (by simp) rfl)
      subst d8
      refine wpOp_step rfl (fun K hK => ?_)
      go_simp
      have hU := Fr.refl [] u
      exact hK _ _ ⟨hF.trans0 hU, _, _, _, _, _, _, _, _, _, _, _, _, _, _, _, _, _, _, rfl, fun h => h0 (by simpa using h), fun h => h1 (by simpa using h), fun h => h2 (by simpa using h), fun h => h3 (by simpa using h), fun h => h4 (by simpa using h), fun h => h5 (by simpa using h), fun h => h6 (by simpa using h), fun h => owns_fr (h7 (by simpa using h)) hU (by simp), fun h => h8 (by simpa using h), fun _ => rfl, fun h => h10 (by simpa using h), fun h => h11 (by simpa using h), fun h => h12 (by simpa using h), fun h => h13 (by simpa using h), fun h => h14 (by simpa using h), fun h => owns_fr (h15 (by simpa using h)) hU (by simp), fun h => by obtain ⟨x, v, e1, e2, e3, e4⟩ := h16 (by simpa using h); exact ⟨x, v, e1, e2, hU.heap e3 (by simp), fun h => e4 (by simpa using h)⟩, fun h => by obtain ⟨x, v, e1, e2, e3, e4⟩ := h17 (by simpa using h); exact ⟨x, v, e1, e2, hU.heap e3 (by simp), fun h => e4 (by simpa using h)⟩, fun h => by obtain ⟨e1, e2⟩ := h18 (by simpa using h); exact ⟨by simp [e1], by simp [e2]⟩, fun h => by obtain ⟨e1, e2⟩ := h19 (by simpa using h); exact ⟨by simp [e1], by simp [e2]⟩⟩
    · rintro L a u ⟨hF, s5, s6, s17, s18, s19, s20, s21, s22, s23, s24, s25, s26, s27, s28, s29, s30, s31, s32, rfl, h0, h1, h2, h3, h4, h5, h6, h7, h8, h9, h10, h11, h12, h13, h14, h15, h16, h17, h18, h19⟩ hL hdep
      have d9 := h9 (hdep _ rfl ⟨9, .data⟩ (by simp) rfl)
      subst d9
      refine wpOp_step rfl (fun K hK => ?_)
      go_simp
      have hU := Fr.refl [] u
      exact hK _ _ ⟨hF.trans0 hU, _, _, _, _, _, _, _, _, _, _, _, _, _, _, _, _, _, _, rfl, fun h => h0 (by simpa using h), fun h => h1 (by simpa using h), fun h => h2 (by simpa using h), fun h => h3 (by simpa using h), fun h => h4 (by simpa using h), fun h => h5 (by simpa using h), fun h => h6 (by simpa using h), fun h => owns_fr (h7 (by simpa using h)) hU (by simp), fun h => h8 (by simpa using h), fun h => h9 (by simpa using h), fun _ => rfl, fun h => h11 (by simpa using h), fun h => h12 (by simpa using h), fun h => h13 (by simpa using h), fun h => h14 (by simpa using h), fun h => owns_fr (h15 (by simpa using h)) hU (by simp), fun h => by obtain ⟨x, v, e1, e2, e3, e4⟩ := h16 (by simpa using h); exact ⟨x, v, e1, e2, hU.heap e3 (by simp), fun h => e4 (by simpa using h)⟩, fun h => by obtain ⟨x, v, e1, e2, e3, e4⟩ := h17 (by simpa using h); exact ⟨x, v, e1, e2, hU.heap e3 (by simp), fun h => e4 (by simpa using h)⟩, fun h => by obtain ⟨e1, e2⟩ := h18 (by simpa using h); exact ⟨by simp [e1], by simp [e2]⟩, fun h => by obtain ⟨e1, e2⟩ := h19 (by simpa using h); exact ⟨by simp [e1], by simp [e2]⟩⟩
    · rintro L a u ⟨hF, s5, s6, s17, s18, s19, s20, s21, s22, s23, s24, s25, s26, s27, s28, s29, s30, s31, s32, rfl, h0, h1, h2, h3, h4, h5, h6, h7, h8, h9, h10, h11, h12, h13, h14, h15, h16, h17, h18, h19⟩ hL hdep
      have d10 := h10 (hdep _ rfl ⟨10, .data⟩ (by simp) rfl)
      subst d10
      have c0 : u.cell? ⟨pb, 1, none⟩ = some (.pointer (some ⟨rb, 0, none⟩)) := ce_call hF hp1
      refine wpOp_step rfl (fun K hK => ?_)
      go_simp
      have hU := Fr.refl [] u
      exact hK _ _ ⟨hF.trans0 hU, _, _, _, _, _, _, _, _, _, _, _, _, _, _, _, _, _, _, rfl, fun h => h0 (by simpa using h), fun h => h1 (by simpa using h), fun h => h2 (by simpa using h), fun h => h3 (by simpa using h), fun h => h4 (by simpa using h), fun h => h5 (by simpa using h), fun h => h6 (by simpa using h), fun h => owns_fr (h7 (by simpa using h)) hU (by simp), fun h => h8 (by simpa using h), fun h => h9 (by simpa using h), fun h => h10 (by simpa using h), fun _ => rfl, fun h => h12 (by simpa using h), fun h => h13 (by simpa using h), fun h => h14 (by simpa using h), fun h => owns_fr (h15 (by simpa using h)) hU (by simp), fun h => by obtain ⟨x, v, e1, e2, e3, e4⟩ := h16 (by simpa using h); exact ⟨x, v, e1, e2, hU.heap e3 (by simp), fun h => e4 (by simpa using h)⟩, fun h => by obtain ⟨x, v, e1, e2, e3, e4⟩ := h17 (by simpa using h); exact ⟨x, v, e1, e2, hU.heap e3 (by simp), fun h => e4 (by simpa using h)⟩, fun h => by obtain ⟨e1, e2⟩ := h18 (by simpa using h); exact ⟨by simp [e1], by simp [e2]⟩, fun h => by obtain ⟨e1, e2⟩ := h19 (by simpa using h); exact ⟨by simp [e1], by simp [e2]⟩⟩
    · rintro L a u ⟨hF, s5, s6, s17, s18, s19, s20, s21, s22, s23, s24, s25, s26, s27, s28, s29, s30, s31, s32, rfl, h0, h1, h2, h3, h4, h5, h6, h7, h8, h9, h10, h11, h12, h13, h14, h15, h16, h17, h18, h19⟩ hL hdep
      have d11 := h11 (hdep _ rfl ⟨11, .data⟩ (by simp) rfl)
      subst d11
      refine wpOp_step rfl (fun K hK => ?_)
      go_simp
      have hU := Fr.refl [] u
      exact hK _ _ ⟨hF.trans0 hU, _, _, _, _, _, _, _, _, _, _, _, _, _, _, _, _, _, _, rfl, fun h => h0 (by simpa using h), fun h => h1 (by simpa using h), fun h => h2 (by simpa using h), fun h => h3 (by simpa using h), fun h => h4 (by simpa using h), fun h => h5 (by simpa using h), fun h => h6 (by simpa using h), fun h => owns_fr (h7 (by simpa using h)) hU (by simp), fun h => h8 (by simpa using h), fun h => h9 (by simpa using h), fun h => h10 (by simpa using h), fun h => h11 (by simpa using h), fun _ => rfl, fun h => h13 (by simpa using h), fun h => h14 (by simpa using h), fun h => owns_fr (h15 (by simpa using h)) hU (by simp), fun h => by obtain ⟨x, v, e1, e2, e3, e4⟩ := h16 (by simpa using h); exact ⟨x, v, e1, e2, hU.heap e3 (by simp), fun h => e4 (by simpa using h)⟩, fun h => by obtain ⟨x, v, e1, e2, e3, e4⟩ := h17 (by simpa using h); exact ⟨x, v, e1, e2, hU.heap e3 (by simp), fun h => e4 (by simpa using h)⟩, fun h => by obtain ⟨e1, e2⟩ := h18 (by simpa using h); exact ⟨by simp [e1], by simp [e2]⟩, fun h => by obtain ⟨e1, e2⟩ := h19 (by simpa using h); exact ⟨by simp [e1], by simp [e2]⟩⟩
    · rintro L a u ⟨hF, s5, s6, s17, s18, s19, s20, s21, s22, s23, s24, s25, s26, s27, s28, s29, s30, s31, s32, rfl, h0, h1, h2, h3, h4, h5, h6, h7, h8, h9, h10, h11, h12, h13, h14, h15, h16, h17, h18, h19⟩ hL hdep
      have d12 := h12 (hdep _ rfl ⟨12, .data⟩ (by simp) rfl)
      subst d12
      refine wpOp_step rfl (fun K hK => ?_)
      go_simp
      have hU := Fr.refl [] u
      exact hK _ _ ⟨hF.trans0 hU, _, _, _, _, _, _, _, _, _, _, _, _, _, _, _, _, _, _, rfl, fun h => h0 (by simpa using h), fun h => h1 (by simpa using h), fun h => h2 (by simpa using h), fun h => h3 (by simpa using h), fun h => h4 (by simpa using h), fun h => h5 (by simpa using h), fun h => h6 (by simpa using h), fun h => owns_fr (h7 (by simpa using h)) hU (by simp), fun h => h8 (by simpa using h), fun h => h9 (by simpa using h), fun h => h10 (by simpa using h), fun h => h11 (by simpa using h), fun h => h12 (by simpa using h), fun _ => rfl, fun h => h14 (by simpa using h), fun h => owns_fr (h15 (by simpa using h)) hU (by simp), fun h => by obtain ⟨x, v, e1, e2, e3, e4⟩ := h16 (by simpa using h); exact ⟨x, v, e1, e2, hU.heap e3 (by simp), fun h => e4 (by simpa using h)⟩, fun h => by obtain ⟨x, v, e1, e2, e3, e4⟩ := h17 (by simpa using h); exact ⟨x, v, e1, e2, hU.heap e3 (by simp), fun h => e4 (by simpa using h)⟩, fun h => by obtain ⟨e1, e2⟩ := h18 (by simpa using h); exact ⟨by simp [e1], by simp [e2]⟩, fun h => by obtain ⟨e1, e2⟩ := h19 (by simpa using h); exact ⟨by simp [e1], by simp [e2]⟩⟩
    · rintro L a u ⟨hF, s5, s6, s17, s18, s19, s20, s21, s22, s23, s24, s25, s26, s27, s28, s29, s30, s31, s32, rfl, h0, h1, h2, h3, h4, h5, h6, h7, h8, h9, h10, h11, h12, h13, h14, h15, h16, h17, h18, h19⟩ hL hdep
      have d13 := h13 (hdep _ rfl ⟨13, .data⟩ (by simp) rfl)
      subst d13
      have c0 : u.cell? ⟨rb, 1, none⟩ = some (.slice qx R.length cx) := ce_call hF ht1
      refine wpOp_step rfl (fun K hK => ?_)
      go_simp
      have hU := Fr.refl [] u
      exact hK _ _ ⟨hF.trans0 hU, _, _, _, _, _, _, _, _, _, _, _, _, _, _, _, _, _, _, rfl, fun h => h0 (by simpa using h), fun h => h1 (by simpa using h), fun h => h2 (by simpa using h), fun h => h3 (by simpa using h), fun h => h4 (by simpa using h), fun h => h5 (by simpa using h), fun h => h6 (by simpa using h), fun h => owns_fr (h7 (by simpa using h)) hU (by simp), fun h => h8 (by simpa using h), fun h => h9 (by simpa using h), fun h => h10 (by simpa using h), fun h => h11 (by simpa using h), fun h => h12 (by simpa using h), fun h => h13 (by simpa using h), fun _ => rfl, fun h => owns_fr (h15 (by simpa using h)) hU (by simp), fun h => by obtain ⟨x, v, e1, e2, e3, e4⟩ := h16 (by simpa using h); exact ⟨x, v, e1, e2, hU.heap e3 (by simp), fun h => e4 (by simpa using h)⟩, fun h => by obtain ⟨x, v, e1, e2, e3, e4⟩ := h17 (by simpa using h); exact ⟨x, v, e1, e2, hU.heap e3 (by simp), fun h => e4 (by simpa using h)⟩, fun h => by obtain ⟨e1, e2⟩ := h18 (by simpa using h); exact ⟨by simp [e1], by simp [e2]⟩, fun h => by obtain ⟨e1, e2⟩ := h19 (by simpa using h); exact ⟨by simp [e1], by simp [e2]⟩⟩
    · rintro L a u ⟨hF, s5, s6, s17, s18, s19, s20, s21, s22, s23, s24, s25, s26, s27, s28, s29, s30, s31, s32, rfl, h0, h1, h2, h3, h4, h5, h6, h7, h8, h9, h10, h11, h12, h13, h14, h15, h16, h17, h18, h19⟩ hL hdep
      have d14 := h14 (hdep _ rfl ⟨14, .data⟩ (by simp) rfl)
      subst d14
      refine wpOp_step rfl (fun K hK => ?_)
      refine step_copyX (R := R) (u := u) rfl _ rfl rfl (owns_fr HR0.out.xs hF (by simp)) HL0.out ?_
      intro v2 u2 hv2 hC
      have hU := hC
      exact hK _ _ ⟨hF.trans0 hU, _, _, _, _, _, _, _, _, _, _, _, _, _, _, _, _, _, _, rfl, fun h => h0 (by simpa using h), fun h => h1 (by simpa using h), fun h => h2 (by simpa using h), fun h => h3 (by simpa using h), fun h => h4 (by simpa using h), fun h => h5 (by simpa using h), fun h => h6 (by simpa using h), fun h => owns_fr (h7 (by simpa using h)) hU (by simp), fun h => h8 (by simpa using h), fun h => h9 (by simpa using h), fun h => h10 (by simpa using h), fun h => h11 (by simpa using h), fun h => h12 (by simpa using h), fun h => h13 (by simpa using h), fun h => h14 (by simpa using h), fun _ => owns_mono hv2 hF.size, fun h => by obtain ⟨x, v, e1, e2, e3, e4⟩ := h16 (by simpa using h); exact ⟨x, v, e1, e2, hU.heap e3 (by simp), fun h => e4 (by simpa using h)⟩, fun h => by obtain ⟨x, v, e1, e2, e3, e4⟩ := h17 (by simpa using h); exact ⟨x, v, e1, e2, hU.heap e3 (by simp), fun h => by have h0 := (h19 (by simpa using h)).2; rw [hL] at h0; cases h0⟩, fun h => by obtain ⟨e1, e2⟩ := h18 (by simpa using h); exact ⟨by simp [e1], by simp [e2]⟩, fun h => by obtain ⟨e1, e2⟩ := h19 (by simpa using h); exact ⟨by simp [e1], by simp [e2]⟩⟩
    · rintro L a u ⟨hF, s5, s6, s17, s18, s19, s20, s21, s22, s23, s24, s25, s26, s27, s28, s29, s30, s31, s32, rfl, h0, h1, h2, h3, h4, h5, h6, h7, h8, h9, h10, h11, h12, h13, h14, h15, h16, h17, h18, h19⟩ hL hdep
      refine wpOp_step rfl (fun K hK => ?_)
      go_simp
      have hU := (Fr.refl [] u).alloc (.cells #[.slice none 0 0] 35)
      exact hK _ _ ⟨hF.trans0 hU, _, _, _, _, _, _, _, _, _, _, _, _, _, _, _, _, _, _, rfl, fun h => h0 (by simpa using h), fun h => h1 (by simpa using h), fun h => h2 (by simpa using h), fun h => h3 (by simpa using h), fun h => h4 (by simpa using h), fun h => h5 (by simpa using h), fun h => h6 (by simpa using h), fun h => owns_fr (h7 (by simpa using h)) hU (by simp), fun h => h8 (by simpa using h), fun h => h9 (by simpa using h), fun h => h10 (by simpa using h), fun h => h11 (by simpa using h), fun h => h12 (by simpa using h), fun h => h13 (by simpa using h), fun h => h14 (by simpa using h), fun h => owns_fr (h15 (by simpa using h)) hU (by simp), fun _ => ⟨_, _, rfl, hF.size, heap_new u _, fun h => by have h0 := (h18 (by simpa using h)).1; rw [hL] at h0; cases h0⟩, fun h => by obtain ⟨x, v, e1, e2, e3, e4⟩ := h17 (by simpa using h); exact ⟨x, v, e1, e2, hU.heap e3 (by simp), fun h => e4 (by simpa using h)⟩, fun h => by obtain ⟨e1, e2⟩ := h18 (by simpa using h); exact ⟨by simp [e1], by simp [e2]⟩, fun h => by obtain ⟨e1, e2⟩ := h19 (by simpa using h); exact ⟨by simp [e1], by simp [e2]⟩⟩
    · rintro L a u ⟨hF, s5, s6, s17, s18, s19, s20, s21, s22, s23, s24, s25, s26, s27, s28, s29, s30, s31, s32, rfl, h0, h1, h2, h3, h4, h5, h6, h7, h8, h9, h10, h11, h12, h13, h14, h15, h16, h17, h18, h19⟩ hL hdep
      refine wpOp_step rfl (fun K hK => ?_)
      go_simp
      have hU := (Fr.refl [] u).alloc (.cells #[.slice none 0 0] 48)
      exact hK _ _ ⟨hF.trans0 hU, _, _, _, _, _, _, _, _, _, _, _, _, _, _, _, _, _, _, rfl, fun h => h0 (by simpa using h), fun h => h1 (by simpa using h), fun h => h2 (by simpa using h), fun h => h3 (by simpa using h), fun h => h4 (by simpa using h), fun h => h5 (by simpa using h), fun h => h6 (by simpa using h), fun h => owns_fr (h7 (by simpa using h)) hU (by simp), fun h => h8 (by simpa using h), fun h => h9 (by simpa using h), fun h => h10 (by simpa using h), fun h => h11 (by simpa using h), fun h => h12 (by simpa using h), fun h => h13 (by simpa using h), fun h => h14 (by simpa using h), fun h => owns_fr (h15 (by simpa using h)) hU (by simp), fun h => by obtain ⟨x, v, e1, e2, e3, e4⟩ := h16 (by simpa using h); exact ⟨x, v, e1, e2, hU.heap e3 (by simp), fun h => e4 (by simpa using h)⟩, fun _ => ⟨_, _, rfl, hF.size, heap_new u _, fun h => by have h0 := (h19 (by simpa using h)).1; rw [hL] at h0; cases h0⟩, fun h => by obtain ⟨e1, e2⟩ := h18 (by simpa using h); exact ⟨by simp [e1], by simp [e2]⟩, fun h => by obtain ⟨e1, e2⟩ := h19 (by simpa using h); exact ⟨by simp [e1], by simp [e2]⟩⟩
    · rintro L a u ⟨hF, s5, s6, s17, s18, s19, s20, s21, s22, s23, s24, s25, s26, s27, s28, s29, s30, s31, s32, rfl, h0, h1, h2, h3, h4, h5, h6, h7, h8, h9, h10, h11, h12, h13, h14, h15, h16, h17, h18, h19⟩ hL hdep
      have d16 := h16 (hdep _ rfl ⟨16, .data⟩ (by simp) rfl)
      have d7 := h7 (hdep _ rfl ⟨7, .data⟩ (by simp) rfl)
      obtain ⟨x, v, rfl, e2, e3, e4⟩ := d16
      have xl := lt_of e3
      have xc := cell_of e3 0
      have xf := free_of e3 0
      have hvs := d7
      obtain ⟨qv, nv, cv, rfl⟩ := own_form hvs
      refine wpOp_step rfl (fun K hK => ?_)
      go_simp
      have hU : Fr [x] u (u.setCell ⟨x, 0, none⟩ (.slice qv nv cv)) := (Fr.refl _ u).setCell (.inl (by simp)) _
      exact hK _ _ ⟨hF.setCell (.inr e2) _, _, _, _, _, _, _, _, _, _, _, _, _, _, _, _, _, _, _, rfl, fun h => h0 (by simpa using h), fun h => h1 (by simpa using h), fun h => h2 (by simpa using h), fun h => h3 (by simpa using h), fun h => h4 (by simpa using h), fun h => h5 (by simpa using h), fun h => h6 (by simpa using h), fun h => by have h0 := h7 (by simpa using h); exact owns_fr h0 hU (own_nbox h0 e3 (by decide)), fun h => h8 (by simpa using h), fun h => h9 (by simpa using h), fun h => h10 (by simpa using h), fun h => h11 (by simpa using h), fun h => h12 (by simpa using h), fun h => h13 (by simpa using h), fun h => h14 (by simpa using h), fun h => by have h0 := h15 (by simpa using h); exact owns_fr h0 hU (own_nbox h0 e3 (by decide)), fun _ => ⟨x, _, rfl, e2, set_of e3 0 _, fun _ => rfl⟩, fun h => by obtain ⟨x2, v2, f1, f2, f3, f4⟩ := h17 (by simpa using h); exact ⟨x2, v2, f1, f2, hU.heap f3 (by rw [List.mem_singleton]; exact box_ne f3 e3 (by decide)), fun h => f4 (by simpa using h)⟩, fun _ => ⟨by simp [hdep _ rfl ⟨16, .data⟩ (by simp) rfl], by simp [hdep _ rfl ⟨7, .data⟩ (by simp) rfl]⟩, fun h => by obtain ⟨e1, e2⟩ := h19 (by simpa using h); exact ⟨by simp [e1], by simp [e2]⟩⟩
    · rintro L a u ⟨hF, s5, s6, s17, s18, s19, s20, s21, s22, s23, s24, s25, s26, s27, s28, s29, s30, s31, s32, rfl, h0, h1, h2, h3, h4, h5, h6, h7, h8, h9, h10, h11, h12, h13, h14, h15, h16, h17, h18, h19⟩ hL hdep
      have d17 := h17 (hdep _ rfl ⟨17, .data⟩ (by simp) rfl)
      have d15 := h15 (hdep _ rfl ⟨15, .data⟩ (by simp) rfl)
      obtain ⟨x, v, rfl, e2, e3, e4⟩ := d17
      have xl := lt_of e3
      have xc := cell_of e3 0
      have xf := free_of e3 0
      have hvs := d15
      obtain ⟨qv, nv, cv, rfl⟩ := own_form hvs
      refine wpOp_step rfl (fun K hK => ?_)
      go_simp
      have hU : Fr [x] u (u.setCell ⟨x, 0, none⟩ (.slice qv nv cv)) := (Fr.refl _ u).setCell (.inl (by simp)) _
      exact hK _ _ ⟨hF.setCell (.inr e2) _, _, _, _, _, _, _, _, _, _, _, _, _, _, _, _, _, _, _, rfl, fun h => h0 (by simpa using h), fun h => h1 (by simpa using h), fun h => h2 (by simpa using h), fun h => h3 (by simpa using h), fun h => h4 (by simpa using h), fun h => h5 (by simpa using h), fun h => h6 (by simpa using h), fun h => by have h0 := h7 (by simpa using h); exact owns_fr h0 hU (own_nbox h0 e3 (by decide)), fun h => h8 (by simpa using h), fun h => h9 (by simpa using h), fun h => h10 (by simpa using h), fun h => h11 (by simpa using h), fun h => h12 (by simpa using h), fun h => h13 (by simpa using h), fun h => h14 (by simpa using h), fun h => by have h0 := h15 (by simpa using h); exact owns_fr h0 hU (own_nbox h0 e3 (by decide)), fun h => by obtain ⟨x2, v2, f1, f2, f3, f4⟩ := h16 (by simpa using h); exact ⟨x2, v2, f1, f2, hU.heap f3 (by rw [List.mem_singleton]; exact box_ne f3 e3 (by decide)), fun h => f4 (by simpa using h)⟩, fun _ => ⟨x, _, rfl, e2, set_of e3 0 _, fun _ => rfl⟩, fun h => by obtain ⟨e1, e2⟩ := h18 (by simpa using h); exact ⟨by simp [e1], by simp [e2]⟩, fun _ => ⟨by simp [hdep _ rfl ⟨17, .data⟩ (by simp) rfl], by simp [hdep _ rfl ⟨15, .data⟩ (by simp) rfl]⟩⟩
  · rintro L a u hAll ⟨hFend, s5, s6, s17, s18, s19, s20, s21, s22, s23, s24, s25, s26, s27, s28, s29, s30, s31, s32, rfl, h0, h1, h2, h3, h4, h5, h6, h7, h8, h9, h10, h11, h12, h13, h14, h15, h16, h17, h18, h19⟩
    have a7 := h7 (hAll 7 (by decide))
    have a15 := h15 (hAll 15 (by decide))
    obtain ⟨LB, vl, rfl, hLB, hLh, hLv⟩ := h16 (hAll 16 (by decide))
    obtain rfl := hLv (hAll 18 (by decide))
    obtain ⟨XB, vx, rfl, hXB, hXh, hXv⟩ := h17 (hAll 17 (by decide))
    obtain rfl := hXv (hAll 19 (by decide))
    exact hend _ _ _ _ u _ _ _ _ _ _ _ _ _ _ _ _ _ _ hFend a7 a15 hLB hLh hXB hXh
end Go.Proofs.Ytldppdafgbipjaa
