/-
  The document's trace store: contract of Keep.
-/
import Derived.Test.YtldppdafgbipjaaRef22K
import Derived.Test.YtldppdafgbipjaaTAllP
namespace Go.Proofs.Ytldppdafgbipjaa
open Go.RowKit
attribute [local go_sem] ob_alloc ob_alloc2 ob_alloc3 ob_alloc4 ob_drew ob_drewN ob_setCell

/-- What the map of the places that have come tells. -/
structure KnownI (pre : List Sp) (l : List (Sp × Value)) : Prop where
  has : ∀ d, (getS d l).isSome = decide (d ∈ pre)
  le : l.length ≤ pre.length
  eq : l.length = pre.length ↔ pre.Nodup
theorem KnownI.nil : KnownI [] [] := ⟨fun d => by simp [getS], by simp, by simp⟩
theorem KnownI.snoc {pre : List Sp} {l : List (Sp × Value)} (h : KnownI pre l) (d : Sp) (v : Value) : KnownI (pre ++ [d]) (putS d v l) := by
  obtain ⟨h1, h2, h3⟩ := h
  have hd := h1 d
  have hdup := dup_snoc pre d
  refine ⟨fun x => ?_, ?_, ?_⟩
  · rw [getS_put]
    by_cases hx : x = d
    · simp [hx]
    · simp [hx, h1 x]
  · rw [putS_length]
    simp only [List.length_append, List.length_cons, List.length_nil]
    split <;> omega
  · rw [putS_length]
    simp only [List.length_append, List.length_cons, List.length_nil]
    rw [hd]
    by_cases hm : d ∈ pre
    · rw [if_pos (by simp [hm])]
      constructor
      · intro h; omega
      · intro h
        simp [hm] at hdup
        exact absurd h hdup
    · rw [if_neg (by simp [hm])]
      simp only [hm, decide_false, Bool.or_false, decide_eq_decide] at hdup
      have : (pre ++ [d]).Nodup ↔ pre.Nodup := by
        constructor
        · intro h; exact Classical.byContradiction fun hn => hdup.2 hn h
        · intro h; exact Classical.byContradiction fun hn => hdup.1 hn h
      rw [this, ← h3]
      omega

/-- What the first loop has seen to. -/
structure D1 (ds : List Sp) (kb : Nat) (W : World) (k : Nat) (wr : World) : Prop where
  le : k ≤ ds.length
  fr : Fr [kb] W wr
  may : ∀ d ∈ ds.take k, mayS d.1 d.2 = true
  map : ∃ l, MapIs wr kb l ∧ KnownI (ds.take k) l

def mayAll (v : V) (xs : List V) : Bool := mayV v && xs.all mayV
theorem mayAll_snoc (v : V) (xs : List V) (x : V) : mayAll v (xs ++ [x]) = (mayAll v xs && mayV x) := by simp [mayAll, Bool.and_assoc]
theorem mayAll_false {v : V} {xs : List V} (h : mayAll v xs = false) : mayV v = false ∨ ∃ x ∈ xs, mayV x = false := by
  unfold mayAll at h
  rw [Bool.and_eq_false_iff] at h
  rcases h with h | h
  · exact .inl h
  · rw [List.all_eq_false] at h
    obtain ⟨x, hx, h⟩ := h
    exact .inr ⟨x, hx, by simpa using h⟩
theorem mayAll_true {v : V} {xs : List V} (h : mayAll v xs = true) : ¬ (mayV v = false ∨ ∃ x ∈ xs, mayV x = false) := by
  unfold mayAll at h
  rw [Bool.and_eq_true, List.all_eq_true] at h
  rintro (h1 | ⟨x, hx, h1⟩)
  · rw [h.1] at h1; cases h1
  · rw [h.2 x hx] at h1; cases h1

/-- The document's lists lie outside these blocks. -/
def DocOff (X : List Nat) (u : Value) : Prop := ∃ a b c d x, u = .agg #[a, b, c, d, x] ∧ (∀ k, d.ownBlock = some k → k ∉ X) ∧ (∀ k, x.ownBlock = some k → k ∉ X)
def RefX (w : World) (T : Nat) (m : List (Sp × Tr)) (X : List Nat) : Prop := ∃ ls, MapIs w T ls ∧ DMatch w ls m ∧ ∀ q ∈ ls, DocOff X q.2
theorem encS_inj {l l' : List (Sp × Value)} (h : l.map encS = l'.map encS) : l = l' := by
  induction l generalizing l' with
  | nil => cases l' with
    | nil => rfl
    | cons b l' => simp at h
  | cons a l ih => cases l' with
    | nil => simp at h
    | cons b l' =>
      rw [List.map_cons, List.map_cons] at h
      injection h with h1 h2
      have h3 := Prod.mk.inj h1
      have h4 : a.1 = b.1 := by
        obtain ⟨⟨a1, a2⟩, _⟩ := a
        obtain ⟨⟨b1, b2⟩, _⟩ := b
        have := h3.1
        simp [spV] at this
        exact Prod.ext this.1 this.2
      rw [ih h2, Prod.ext h4 h3.2]
theorem mem_putS {s : Sp} {v : Value} {q : Sp × Value} : ∀ {l : List (Sp × Value)}, q ∈ putS s v l → q = (s, v) ∨ q ∈ l
  | [], h => by simp [putS] at h; exact .inl h
  | p :: l, h => by
    simp only [putS] at h
    split at h
    · rcases List.mem_cons.1 h with h | h
      · exact .inl h
      · exact .inr (List.mem_cons_of_mem _ h)
    · rcases List.mem_cons.1 h with h | h
      · exact .inr (by rw [h]; simp)
      · rcases mem_putS h with h | h
        · exact .inl h
        · exact .inr (List.mem_cons_of_mem _ h)
theorem DMatch.docs {w : World} : ∀ {l : List (Sp × Value)} {m : List (Sp × Tr)}, DMatch w l m → ∀ q ∈ l, ∃ t, DocIs w q.2 t
  | [], [], _, q, hq => by simp at hq
  | a :: l, b :: m, ⟨_, h2, h3⟩, q, hq => by
    rcases List.mem_cons.1 hq with rfl | hq
    · exact ⟨_, h2⟩
    · exact DMatch.docs h3 q hq
  | [], _ :: _, h, _, _ => h.elim
  | _ :: _, [], h, _, _ => h.elim
theorem DocIs.off {w : World} {u : Value} {t : Tr} (h : DocIs w u t) {X : List Nat} (hX : ∀ g ∈ X, w.heap.size ≤ g) : DocOff X u := by
  obtain ⟨d, x, rfl, h1, h2⟩ := h
  refine ⟨_, _, _, d, x, rfl, fun k hk hm => ?_, fun k hk hm => ?_⟩
  · have := (h1.lt k hk).2; have := hX k hm; omega
  · have := (h2.lt k hk).2; have := hX k hm; omega
theorem RefX.of {w : World} {p T : Nat} {dd : Int} {m : List (Sp × Tr)} (h : RefIs w p T dd m) {X : List Nat} (hX : ∀ g ∈ X, w.heap.size ≤ g) : RefX w T m X := by
  obtain ⟨_, _, ls, hm, hM⟩ := h
  refine ⟨ls, hm, hM, fun q hq => ?_⟩
  obtain ⟨t, ht⟩ := hM.docs q hq
  exact ht.off hX
theorem RefX.fr {w w1 : World} {T : Nat} {m : List (Sp × Tr)} {X S : List Nat} (h : RefX w T m X) (hf : Fr S w w1) (hT : T ∉ S) (hS : NotD w S) : RefX w1 T m X := by
  obtain ⟨ls, hm, hM, hq⟩ := h
  exact ⟨ls, hm.fr hf hT, hM.fr hf hS, hq⟩
theorem DocIs.frX {w w1 : World} {u : Value} {t : Tr} {X : List Nat} (h : DocIs w u t) (ho : DocOff X u) (hf : Fr X w w1) : DocIs w1 u t := by
  obtain ⟨d, x, rfl, h1, h2⟩ := h
  obtain ⟨_, _, _, d', x', e, h3, h4⟩ := ho
  cases e
  exact ⟨d, x, rfl, owns_fr h1 hf h3, owns_fr h2 hf h4⟩
theorem DMatch.frX {w w1 : World} {X : List Nat} (hf : Fr X w w1) : ∀ {l : List (Sp × Value)} {m : List (Sp × Tr)}, DMatch w l m → (∀ q ∈ l, DocOff X q.2) → DMatch w1 l m
  | [], [], _, _ => trivial
  | a :: _, _ :: _, ⟨h1, h2, h3⟩, h => ⟨h1, h2.frX (h a (by simp)) hf, DMatch.frX hf h3 (fun q hq => h q (by simp [hq]))⟩
  | [], _ :: _, h, _ => h.elim
  | _ :: _, [], h, _ => h.elim
theorem RefX.frX {w w1 : World} {T : Nat} {m : List (Sp × Tr)} {X : List Nat} (h : RefX w T m X) (hf : Fr X w w1) (hT : T ∉ X) : ∃ ls, MapIs w1 T ls ∧ DMatch w1 ls m := by
  obtain ⟨ls, hm, hM, hq⟩ := h
  exact ⟨ls, hm.fr hf hT, hM.frX hf hq⟩

/-- What Keep leaves. -/
def DKeep (p T : Nat) (dd : Int) (s : Sp) (v : V) (ds : List Sp) (vs : List V) (m : List (Sp × Tr)) (w : World) (e : Ending) (w1 : World) : Prop :=
  e = .returned (.int .i64 (keepE s v ds vs m)) ∧ RefIs w1 p T dd (keepL dd s v ds vs m) ∧ Fr [T] w w1 ∧ ∀ X : List Nat, (∀ g ∈ X, g < w.heap.size) → RefX w T m X → RefX w1 T (keepL dd s v ds vs m) X
theorem DKeep.no {p T : Nat} {dd : Int} {s : Sp} {v : V} {ds : List Sp} {vs : List V} {m : List (Sp × Tr)} {w w1 : World} (h : RefIs w p T dd m) (hf : Fr [] w w1) {E : Int} (hE : keepE s v ds vs m = E) (h0 : E ≠ 0) :
    DKeep p T dd s v ds vs m w (.returned (.int .i64 E)) w1 := by
  have e : keepL dd s v ds vs m = m := by
    unfold keepL
    rw [hE, if_neg h0]
  rw [DKeep, e]
  exact ⟨by rw [hE], h.fr0 hf, hf.mono (by simp), fun X _ hx => hx.fr hf (by simp) (NotD.nil w)⟩
theorem keepE_of {s : Sp} {v : V} {ds : List Sp} {vs : List V} {m : List (Sp × Tr)} {E : Int} (h : mayE s v ds vs = E) (h0 : E ≠ 0) : keepE s v ds vs m = E := by
  unfold keepE
  rw [h, if_neg h0]

theorem DKeep.yes {p T : Nat} {dd : Int} {s : Sp} {v : V} {ds : List Sp} {vs : List V} {m : List (Sp × Tr)} {ls : List (Sp × Value)} {es : Array MapEntry} {clock : Nat} {w u : World} (h : RefIs w p T dd m)
    (hp : es.toList.map prE = ls.map encS) (hs : Stamp es.toList clock) (hn : (ls.map (·.1)).Nodup) (hM : DMatch w ls m) (hF : Fr [T] w u) {d x : Value} {A B : Nat} (hb : w.heap[T]? = some (.map es clock)) (hA : w.heap.size ≤ A) (hB : w.heap.size ≤ B)
    (hd : u.ownsRow A tSp 2 d ds.length (ds.flatMap spC)) (hx : u.ownsRow B tVa 3 x vs.length (vs.flatMap vC)) (hT : u.heap[T]? = some (.map (putE s (.agg #[.int .i64 v.k, .int .i64 v.n, .string v.s, d, x]) ls es clock) (putC s ls clock)))
    (h0 : mayE s v ds vs = 0) (hE : setE s m = 0) : DKeep p T dd s v ds vs m w (.returned (.int .i64 0)) u := by
  have e0 : keepE s v ds vs m = 0 := by unfold keepE; rw [if_pos h0, hE]
  obtain ⟨_, hl, _⟩ := mayE_zero h0
  have eL : keepL dd s v ds vs m = putS s ⟨v, ensOf dd ds vs⟩ m := by unfold keepL; rw [if_pos e0]
  have hmap : MapIs u T (putS s (.agg #[.int .i64 v.k, .int .i64 v.n, .string v.s, d, x]) ls) := ⟨_, _, hT, put_prE s _ ls es clock hp, put_stamp s _ ls es clock hs, putS_nodup hn⟩
  have hDM : DMatch u (putS s (.agg #[.int .i64 v.k, .int .i64 v.n, .string v.s, d, x]) ls) (putS s ⟨v, ensOf dd ds vs⟩ m) := by
    refine (hM.fr hF h.notD).put s (t := ⟨v, ensOf dd ds vs⟩) ⟨d, x, rfl, ?_, ?_⟩
    · show u.ownsRow 0 tSp 2 d (ensOf dd ds vs).length _
      rw [ens_at hl, ensOf_len hl]
      exact owns_mono hd (Nat.zero_le _)
    · show u.ownsRow 0 tVa 3 x (ensOf dd ds vs).length _
      rw [ens_v hl, ensOf_len hl, hl]
      exact owns_mono hx (Nat.zero_le _)
  rw [DKeep, eL]
  refine ⟨by rw [e0], ⟨hF.heap h.st (by simpa using h.ne), h.wd, _, hmap, hDM⟩, hF, fun X hX ⟨ls', ⟨es', clock', hb', hp', _⟩, _, hq⟩ => ⟨_, hmap, hDM, fun q hq2 => ?_⟩⟩
  rw [hb] at hb'
  cases hb'
  obtain rfl := encS_inj (hp.symm.trans hp')
  rcases mem_putS hq2 with rfl | hq2
  · refine ⟨_, _, _, d, x, rfl, fun k hk hm => ?_, fun k hk hm => ?_⟩
    · have := (hd.lt k hk).1; have := hX k hm; omega
    · have := (hx.lt k hk).1; have := hX k hm; omega
  · exact hq q hq2

set_option maxRecDepth 100000 in
set_option maxHeartbeats 6400000 in
theorem refKeep (p T : Nat) (dd : Int) (s : Sp) (v : V) (x y : Value) (ds : List Sp) (vs : List V) (m : List (Sp × Tr)) (w : World) (h : RefIs w p T dd m) (hle : m.length ≤ 65536) (hsp : SpotsAt w x ds) (hvp : ValsAt w y vs)
    (hvs : v.s.size ≤ 9223372036854775807) (hvss : ∀ x ∈ vs, x.s.size ≤ 9223372036854775807) :
    Calls Try.prog 117 #[.pointer (some ⟨p, 0, none⟩), spV s, v.val, x, y] w (DKeep p T dd s v ds vs m w) := by
  obtain ⟨da, c, rfl, hc1, hc2⟩ := hsp.form
  obtain ⟨va, vc, rfl, hc3, hc4⟩ := hvp.form
  have HR := Lib.hid h
  have HS := Lib.hid hsp
  have HV := Lib.hid hvp
  have HVS := Lib.hid hvss
  have HLE := Lib.hid hle
  clear h hsp hvp hvss hle
  have hmm := @run_makeMap Try.prog
  go_enter Try.func117, Try.ntmps117
  go_wp2_with fail
  refine (refPlace _ _ _).mono ?_
  cases hs : mayS s.1 s.2 with
  | false =>
    have H := Lib.hid hs
    clear hs
    rintro e w1 ⟨rfl, h1⟩
    go_wp2
    go_ret
    have e10 : mayE s v ds vs = 10 := by
      unfold mayE
      rw [if_pos (.inl H.out)]
    exact DKeep.no HR.out ((((Fr.refl [] w).alloc _).alloc _).trans0 h1) (keepE_of e10 (by decide)) (by decide)
  | true =>
    have H := Lib.hid hs
    clear hs
    rintro e w1 ⟨rfl, h1⟩
    obtain ⟨h2, hb1, hb2, hz⟩ := h1.new2 (by simp)
    clear h1
    go_wp2_with fail
    have hW1 : Fr [] w (w1.alloc (.map #[] 0)) := h2.alloc _
    have hbox1 := Lib.hid (((Fr.refl [] w1).alloc (.map #[] 0)).heap hb1 (by simp))
    have hbox2 := Lib.hid (((Fr.refl [] w1).alloc (.map #[] 0)).heap hb2 (by simp))
    have hm0 := MapIs.made w1
    have hkb : w.heap.size + 1 < w1.heap.size := by omega
    generalize w1.alloc (.map #[] 0) = W at *
    generalize w1.heap.size = kb at *
    clear hb1 hb2 hz
    go_loopw [12] (fun i wr => ∃ k : Nat, i = .int .i64 (k : Int) ∧ D1 ds kb W k wr) (fun i _ => ds.length - (intOf i).toNat)
    case atStart => exact ⟨0, rfl, by omega, Fr.refl _ _, by simp, [], hm0, by simpa using KnownI.nil⟩
    case round =>
      obtain ⟨k, rfl, hk, hfr, hmay, l, hmap, hkn⟩ := hrel
      by_cases hlt : k < ds.length
      · have hfrw : Fr [] w wr := hW1.trans hfr (by simp; omega)
        obtain ⟨_, _, _, hdeps⟩ := (HS.out.fr0 hfrw).deps
        obtain ⟨b, off, rfl, hb, hcl⟩ := hdeps (by omega)
        obtain ⟨hd1, hd2⟩ := hcl k hlt
        clear hdeps hcl
        have ht := Lib.hid (take_one ds k hlt)
        generalize ds[k] = d at *
        obtain ⟨es, clock, hme, hpe, hst, hnd⟩ := hmap
        have hput := fun (W : World) (hW : ob W kb = some (.map es clock)) => run_put (P := Try.prog) spotKey Try.underlying146 hW hpe d (.int .i64 1)
        go_wp2_with fail
        refine (refPlace _ _ _).mono ?_
        cases hd : mayS d.1 d.2 with
        | false =>
          have HD := Lib.hid hd
          clear hd hput
          rintro e w2 ⟨rfl, h3⟩
          go_wp2
          go_ret
          have e10 : mayE s v ds vs = 10 := by
            have hm : d ∈ ds.take (k + 1) := by rw [ht.out]; simp
            unfold mayE
            rw [if_pos (.inr ⟨d, List.mem_of_mem_take hm, HD.out⟩)]
          exact DKeep.no HR.out (hfrw.trans0 h3) (keepE_of e10 (by decide)) (by decide)
        | true =>
          have HD := Lib.hid hd
          clear hd
          rintro e w2 ⟨rfl, h3⟩
          have hob : ob w2 kb = some (.map es clock) := h3.heap hme (by simp)
          have hd1 := ce_call h3 hd1
          have hd2 := ce_call h3 hd2
          go_wp2
          go_roundw
          case rel =>
            refine ⟨k + 1, by go_num, by omega, (hfr.trans0 h3).setBlock hob (.inl (by simp)) _, ?_, putS d (.int .i64 1) l, MapIs.put hob hpe hst hnd d _, by rw [ht.out]; exact hkn.snoc d _⟩
            intro x hx
            rw [ht.out, List.mem_append, List.mem_singleton] at hx
            rcases hx with hx | rfl
            · exact hmay x hx
            · exact HD.out
          case measure => simp [intOf]; omega
      · obtain rfl : k = ds.length := by omega
        rw [List.take_length] at hmay hkn
        have hfrw : Fr [] w wr := hW1.trans hfr (by simp; omega)
        have e0 : ¬ (mayS s.1 s.2 = false ∨ (∃ d ∈ ds, mayS d.1 d.2 = false)) := by
          rintro (h | ⟨d, hd, h⟩)
          · rw [H.out] at h; cases h
          · rw [hmay d hd] at h; cases h
        have E0 := Lib.hid e0
        have hbx1 := hfr.heap hbox1.out (by simp; omega)
        have hbx2 := hfr.heap hbox2.out (by simp; omega)
        obtain ⟨es, clock, hme, hpe, hst, hnd⟩ := hmap
        have hlen : ∀ (ty : TypeId) (W : World), ob W kb = some (.map es clock) → (Builtin.len_ #[146] ty #[.map (some kb)]).run Try.prog W = .ok (.int .i64 (l.length : Int)) W := fun ty W hW => run_lenMap (P := Try.prog) Try.underlying146 ty hW hpe
        have hob : ob wr kb = some (.map es clock) := hme
        have hKE := hkn.eq
        clear hmay e0 hpe hst hnd hkn hfr hme hm0 hbox1 hbox2
        by_cases hln : ds.length = vs.length
        · have hl1 : ((ds.length : Int) != (vs.length : Int)) = false := by rw [hln]; simp
          by_cases hdup : ds.Nodup
          · have hl2 : ((l.length : Int) != (ds.length : Int)) = false := by rw [hKE.2 hdup]; simp
            have HDUP := Lib.hid hdup
            have HLN := Lib.hid hln
            clear hdup hKE hln
            by_cases hbig : ds.length > 65536
            · have hbg : (65536 : Int) < (ds.length : Int) := by omega
              go_wp2
              go_ret
              have e1 : mayE s v ds vs = 2 := by
                unfold mayE
                rw [if_neg E0.out, if_neg (by simp [HDUP.out, HLN.out]), if_pos hbig]
              exact DKeep.no HR.out hfrw (keepE_of e1 (by decide)) (by decide)
            · have hbg : ¬ (65536 : Int) < (ds.length : Int) := by omega
              have E1 : Hid (mayE s v ds vs = if mayV v = false ∨ (∃ x ∈ vs, mayV x = false) then 24 else 0) := by
                show mayE s v ds vs = _
                unfold mayE
                rw [if_neg E0.out, if_neg (by simp [HDUP.out, HLN.out]), if_neg hbig]
              have hcb := cell_of hbx2
              have HBG := Lib.hid hbig
              clear hbig
              go_wp2_with fail
              refine (refMay v _ hvs).mono ?_
              rintro e w2 ⟨rfl, h3⟩
              have hfr2 : Fr [] w w2 := hfrw.trans0 h3
              have HB1 := Lib.hid (h3.heap hbx1 (by simp))
              have HB2 := Lib.hid (h3.heap hbx2 (by simp))
              clear h3 hcb hbx1 hbx2 hlen hob hfrw hl1 hl2 hbg
              go_wp2_with fail
              go_loopw [13, 14, 15] (fun a i _ wx => ∃ k : Nat, i = .int .i64 (k : Int) ∧ k ≤ vs.length ∧ Fr [] w2 wx ∧ a = .bool (mayAll v (vs.take k))) (fun _ i _ _ => vs.length - (intOf i).toNat)
              case atStart => exact ⟨0, rfl, by omega, Fr.refl _ _, by simp [mayAll]⟩
              case round =>
                obtain ⟨k, rfl, hk, hfx, rfl⟩ := hrel
                by_cases hltv : k < vs.length
                · obtain ⟨_, _, _, hvals⟩ := (HV.out.fr0 (hfr2.trans0 hfx)).vals
                  obtain ⟨b, off, rfl, hb, hcl⟩ := hvals (by omega)
                  obtain ⟨hd1, hd2, hd3⟩ := hcl k hltv
                  clear hcl hvals
                  have ht := Lib.hid (List.take_succ_eq_append_getElem hltv)
                  have hsx := HVS.out vs[k] (List.getElem_mem hltv)
                  generalize vs[k] = x at *
                  have hsn : Hid (mayAll v (vs.take (k + 1)) = (mayAll v (vs.take k) && mayV x)) := by show _ = _; rw [ht.out, mayAll_snoc]
                  go_wp2_with fail
                  refine (refMay x _ hsx).mono ?_
                  rintro e w3 ⟨rfl, h3⟩
                  cases hA : mayAll v (vs.take k) with
                  | false =>
                    rw [hA] at hsn
                    go_wp2
                    go_roundw
                    case rel => exact ⟨k + 1, by go_num, by omega, hfx.trans0 h3, by rw [hsn.out]; rfl⟩
                    case measure => simp [intOf]; omega
                  | true =>
                    rw [hA] at hsn
                    go_wp2
                    go_roundw
                    case rel => exact ⟨k + 1, by go_num, by omega, hfx.trans0 h3, by rw [hsn.out]; rfl⟩
                    case measure => simp [intOf]; omega
                · obtain rfl : k = vs.length := by omega
                  rw [List.take_length]
                  have hfin := hfr2.trans0 hfx
                  cases hA : mayAll v vs with
                  | false =>
                    have HA := Lib.hid hA
                    clear hA
                    go_wp2
                    go_ret
                    exact DKeep.no HR.out hfin (keepE_of (by rw [E1.out, if_pos (mayAll_false HA.out)]) (by decide)) (by decide)
                  | true =>
                    have HE0 : Hid (mayE s v ds vs = 0) := by show _ = _; rw [E1.out, if_neg (mayAll_true hA)]
                    clear hA E1
                    obtain ⟨ls, ⟨es, clock, hbw, hpe, hst, hnd⟩, hM⟩ := HR.out.map
                    have HLK := Lib.hid (look1 (T := T) (clock := clock) hpe hM s)
                    have hlenT : ∀ (ty : TypeId) (W : World), ob W T = some (.map es clock) → (Builtin.len_ #[tM] ty #[.map (some T)]).run Try.prog W = .ok (.int .i64 (m.length : Int)) W := fun ty W hW => by
                      have := run_lenMap (P := Try.prog) Try.underlying184 ty hW hpe
                      rwa [hM.len] at this
                    have hPB := Lib.hid (hfin.heap HR.out.st (by simp))
                    have hB1 := Lib.hid (hfx.heap HB1.out (by simp))
                    have hB2 := Lib.hid (hfx.heap HB2.out (by simp))
                    have hBT := Lib.hid (hfin.heap hbw (by simp))
                    have hHP := Lib.hid hpe
                    have hST := Lib.hid hst
                    have hND := Lib.hid hnd
                    have hDM := Lib.hid hM
                    have hTlt := lt_of hbw
                    have hbw := Lib.hid hbw
                    clear hpe hst hnd hM hfx hfr2
                    obtain ⟨a, b, t, dp, n, dc, xp, xc, hlook⟩ := HLK.out
                    clear HLK
                    have HF := Lib.hid hfin
                    have hsz := hfin.size
                    have h0 := cell_of hPB.out 1
                    have hlt := lt_of hPB.out
                    have ha0 := cell_of hB1.out 0
                    have ha1 := cell_of hB1.out 1
                    have hal := lt_of hB1.out
                    have hb : ob wr T = some (.map es clock) := hBT.out
                    have hlm := lt_of hBT.out
                    clear hfin
                    have hlt1 : ∀ k, p < wr.heap.size + k := fun k => by omega
                    have hlm1 : ∀ k, T < wr.heap.size + k := fun k => by omega
                    have hal1 : ∀ k, w.heap.size < wr.heap.size + k := fun k => by omega
                    go_wp2_with fail
                    go_region
                    have hW3 : Fr [] wr ((wr.alloc (.cells #[.int .i64 a, .int .i64 b, .string t, .slice dp n dc, .slice xp n xc] 188)).drew) := ((Fr.refl [] wr).alloc _).drew
                    have HF3 := Lib.hid (HF.out.trans0 hW3)
                    have h0 := ce_call hW3 h0
                    have ha0 := ce_call hW3 ha0
                    have ha1 := ce_call hW3 ha1
                    have hB23 := hW3.heap hB2.out (by simp)
                    have hv0 := cell_of hB23 0
                    have hv1 := cell_of hB23 1
                    have hv2 := cell_of hB23 2
                    have hBT3 := hW3.heap hBT.out (by simp)
                    have hb : ob ((wr.alloc (.cells #[.int .i64 a, .int .i64 b, .string t, .slice dp n dc, .slice xp n xc] 188)).drew) T = some (.map es clock) := hBT3
                    generalize (wr.alloc (.cells #[.int .i64 a, .int .i64 b, .string t, .slice dp n dc, .slice xp n xc] 188)).drew = W3 at *
                    have hpT := HR.out.ne
                    have haT : w.heap.size ≠ T := by omega
                    have hvT : w.heap.size + 1 ≠ T := by omega
                    clear hlook hW3 hB23 hlt hlt1 hlm hlm1 hal hal1
                    have hle := HLE.out
                    cases hg : (getS s m).isSome with
                    | true =>
                      have hE0 : Hid (setE s m = 0) := by show setE s m = 0; unfold setE; rw [if_neg (by rw [H.out]; simp), if_neg (by rintro ⟨h1, _⟩; cases hx : getS s m <;> simp_all)]
                      clear hlenT
                      go_wp2_with fail
                      refine keepR p T w.heap.size (w.heap.size + 1) s v da va c vc ds vs ls es clock W3 (Lib.hid hBT3) hHP (Lib.hid (HS.out.fr0 HF3.out)) (Lib.hid (HV.out.fr0 HF3.out)) (Lib.hid (mayE_zero HE0.out).2.2) (Lib.hid (by have h := mayE_zero HE0.out; omega)) h0 hpT ha0 ha1 haT hv0 hv1 hv2 hvT _ ?_
                      intro d x u s92 s93 s94 s95 s96 s97 s98 s100 hFu a7 a9 hTu
                      go_wp2
                      go_ret
                      exact DKeep.yes HR.out hHP.out hST.out hND.out hDM.out ((HF3.out.mono (by simp)).transS hFu) hbw.out HF3.out.size HF3.out.size a7 a9 hTu HE0.out hE0.out
                    | false =>
                      by_cases hful : m.length = 65536
                      · have hge : (65536 : Int) ≤ (m.length : Int) := by omega
                        have hE4 : Hid (setE s m = 4) := by show setE s m = 4; unfold setE; rw [if_neg (by rw [H.out]; simp), if_pos ⟨by cases hx : getS s m <;> simp_all, hful⟩]
                        clear hful hle
                        go_wp2
                        go_ret
                        exact DKeep.no HR.out HF3.out (E := 4) (by unfold keepE; rw [if_pos HE0.out, hE4.out]) (by decide)
                      · have hge : ¬ (65536 : Int) ≤ (m.length : Int) := by omega
                        have hful := Lib.hid hful
                        have hE0 : Hid (setE s m = 0) := by show setE s m = 0; unfold setE; rw [if_neg (by rw [H.out]; simp), if_neg (fun h => hful.out h.2)]
                        clear hle
                        go_wp2_with fail
                        refine keepR p T w.heap.size (w.heap.size + 1) s v da va c vc ds vs ls es clock W3 (Lib.hid hBT3) hHP (Lib.hid (HS.out.fr0 HF3.out)) (Lib.hid (HV.out.fr0 HF3.out)) (Lib.hid (mayE_zero HE0.out).2.2) (Lib.hid (by have h := mayE_zero HE0.out; omega)) h0 hpT ha0 ha1 haT hv0 hv1 hv2 hvT _ ?_
                        intro d x u s92 s93 s94 s95 s96 s97 s98 s100 hFu a7 a9 hTu
                        go_wp2
                        go_ret
                        exact DKeep.yes HR.out hHP.out hST.out hND.out hDM.out ((HF3.out.mono (by simp)).transS hFu) hbw.out HF3.out.size HF3.out.size a7 a9 hTu HE0.out hE0.out
          · have hl2 : ((l.length : Int) != (ds.length : Int)) = true := by
              rw [bne_iff_ne]
              intro h
              exact hdup (hKE.1 (by omega))
            have HDUP := Lib.hid hdup
            clear hdup hKE
            go_wp2
            go_ret
            have e1 : mayE s v ds vs = 1 := by
              unfold mayE
              rw [if_neg E0.out, if_pos (.inl HDUP.out)]
            exact DKeep.no HR.out hfrw (keepE_of e1 (by decide)) (by decide)
        · have hl1 : ((ds.length : Int) != (vs.length : Int)) = true := by rw [bne_iff_ne]; omega
          have HLN := Lib.hid hln
          clear hln hKE
          go_wp2
          go_ret
          have e1 : mayE s v ds vs = 1 := by
            unfold mayE
            rw [if_neg E0.out, if_pos (.inr HLN.out)]
          exact DKeep.no HR.out hfrw (keepE_of e1 (by decide)) (by decide)
end Go.Proofs.Ytldppdafgbipjaa
