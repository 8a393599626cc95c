/-
  Nodes without their places in memory; their graph by the nodes' own numbers; what cycle.Rings tells of them. No program's step here.
  What cycle.Rings tells of some nodes, in the nodes' own numbers. No program's step here.
-/
import Derived.Test.YtdlpbpohbkcafaaCRingF
import Derived.Test.YtdlpbpohbkcafaaLeadP
namespace Go.Proofs.Ytdlpbpohbkcafaa
section

/-- A node without its place in memory. -/
abbrev Pn := Sp × List Sp
abbrev era (ns : List Nd) : List Pn := ns.map fun n => (n.at_, n.next)
abbrev atsP (ps : List Pn) : List Sp := ps.map (·.1)
theorem atsN_era (ns : List Nd) : atsN ns = atsP (era ns) := by simp [atsN, atsP]
theorem era_len (ns : List Nd) : (era ns).length = ns.length := by simp
theorem era_gSp {a b : List Nd} (h : era a = era b) : gSp a = gSp b := by unfold gSp; rw [atsN_era, atsN_era, h]
def nextP (ps : List Pn) (s : Sp) : List Sp := match ps.find? fun n => decide (n.1 = s) with
  | none => []
  | some n => n.2
theorem nextAt_era (ns : List Nd) (s : Sp) : nextAt ns s = nextP (era ns) s := by
  unfold nextAt nextP
  induction ns with
  | nil => rfl
  | cons n ns ih =>
    by_cases e : n.at_ = s
    · simp [e]
    · rw [List.find?_cons_of_neg (by simpa using e), show era (n :: ns) = (n.at_, n.next) :: era ns from rfl, List.find?_cons_of_neg (by simpa using e)]
      exact ih
theorem era_gNx {a b : List Nd} (h : era a = era b) : gNx a = gNx b := by
  unfold gNx
  rw [era_gSp h]
  refine List.map_congr_left fun s _ => ?_
  rw [nextAt_era, nextAt_era, h]
def totP (ps : List Pn) : Nat := (ps.map fun p => p.2.length).sum
theorem tot_era (ns : List Nd) : tot ns = totP (era ns) := by
  unfold tot totP
  rw [List.map_map]
  rfl
abbrev mayP (s : Sp) : Bool := mayS s.1 s.2
def badP (p : Pn) : Bool := !mayP p.1 || p.2.any fun s => !mayP s
theorem any_era (ns : List Nd) : ns.any badN = (era ns).any badP := by rw [List.any_map]; rfl
def madeP (ps : List Pn) : Int := if 65536 < ps.length ∨ 1048576 < totP ps then 2 else if ps.any badP then 10 else if ¬ (atsP ps).Nodup then 1 else 0
theorem madeE_era (ns : List Nd) : madeE ns = madeP (era ns) := by
  unfold madeE madeP
  rw [tot_era, any_era, era_len]
  have e : ns.map (·.at_) = atsP (era ns) := by simp
  rw [e]

/-- The graph by the nodes' own numbers. -/
def uG (ps : List Pn) : Dg := ps.map fun p => (List.range ps.length).filter fun j => decide ((ps.getD j ((0, 0), [])).1 ∈ p.2)
theorem uG_len (ps : List Pn) : (uG ps).length = ps.length := by simp [uG]
theorem uG_nx {ps : List Pn} {i : Nat} (hi : i < ps.length) {j : Nat} : j ∈ nxs (uG ps) i ↔ ∃ hj : j < ps.length, ps[j].1 ∈ ps[i].2 := by
  unfold nxs uG
  rw [List.getD_eq_getElem?_getD, List.getElem?_map, List.getElem?_eq_getElem hi]
  simp only [Option.map_some, Option.getD_some, List.mem_filter, List.mem_range, decide_eq_true_eq]
  constructor
  · rintro ⟨h1, h2⟩
    rw [List.getD_eq_getElem?_getD, List.getElem?_eq_getElem h1] at h2
    exact ⟨h1, h2⟩
  · rintro ⟨h1, h2⟩
    rw [List.getD_eq_getElem?_getD, List.getElem?_eq_getElem h1]
    exact ⟨h1, h2⟩
theorem uG_none {ps : List Pn} {i : Nat} (hi : ¬ i < ps.length) : nxs (uG ps) i = [] := by
  unfold nxs
  rw [List.getD_eq_getElem?_getD, List.getElem?_eq_none (by rw [uG_len]; omega)]
  rfl
theorem uG_ok (ps : List Pn) : OkG (uG ps) := by
  intro l hl u hu
  unfold uG at hl
  obtain ⟨p, _, rfl⟩ := List.mem_map.1 hl
  have := List.mem_range.1 (List.mem_filter.1 hu).1
  rwa [uG_len]
theorem rch_map {g g' : Dg} {f : Nat → Nat} {a b : Nat} (h : ∀ v u, Rch g a v → u ∈ nxs g v → f u ∈ nxs g' (f v)) (hr : Rch g a b) : Rch g' (f a) (f b) := by
  induction hr with
  | refl => exact Rch.refl _
  | step hw hu ih => exact ih.step (h _ _ hw hu)
theorem rch1_map {g g' : Dg} {f : Nat → Nat} {a b : Nat} (h : ∀ v u, Rch g a v → u ∈ nxs g v → f u ∈ nxs g' (f v)) (hr : Rch1 g a b) : Rch1 g' (f a) (f b) := by
  obtain ⟨c, hc, hr⟩ := hr
  refine ⟨f c, h a c (Rch.refl _) hc, rch_map (fun v u hv hu => h v u ((Rch.one hc).trans hv) hu) hr⟩
theorem atsN_get (ns : List Nd) (m : Nat) (h : m < (atsN ns).length) : (atsN ns)[m] = (ns[m]'(by simpa [atsN] using h)).at_ := by simp [atsN]
section
variable {ns : List Nd}
/-- A node's number among the sorted ones. -/
theorem gSp_nd (hn : (atsN ns).Nodup) : (gSp ns).Nodup := (sortS_perm _).nodup_iff.2 hn
theorem gNx_at (hn : (atsN ns).Nodup) {i : Nat} (hi : i < ns.length) {k : Nat} (hk : k < (gSp ns).length) (e : (gSp ns)[k] = ns[i].at_) : nxs (gNx ns) k = numsOf (gSp ns) ns[i].next := by
  unfold nxs gNx
  rw [List.getD_eq_getElem?_getD, List.getElem?_map, List.getElem?_eq_getElem hk]
  simp only [Option.map_some, Option.getD_some]
  rw [e, nextAt_eq hn (List.getElem_mem hi)]
theorem mem_nums (hn : (atsN ns).Nodup) {l next : List Sp} {k : Nat} : k ∈ numsOf l next ↔ ∃ h : k < l.length, l[k] ∈ next := by
  have _ := hn
  unfold numsOf
  simp only [List.mem_filter, List.mem_range, decide_eq_true_eq]
  constructor
  · rintro ⟨h1, h2⟩
    rw [List.getD_eq_getElem?_getD, List.getElem?_eq_getElem h1] at h2
    exact ⟨h1, h2⟩
  · rintro ⟨h1, h2⟩
    rw [List.getD_eq_getElem?_getD, List.getElem?_eq_getElem h1]
    exact ⟨h1, h2⟩
/-- From the nodes' own numbers to the sorted ones. -/
theorem sig_ex (hn : (atsN ns).Nodup) {i : Nat} (hi : i < ns.length) : ∃ h : (gSp ns).idxOf ns[i].at_ < (gSp ns).length, (gSp ns)[(gSp ns).idxOf ns[i].at_] = ns[i].at_ := by
  have _ := hn
  have hm : ns[i].at_ ∈ gSp ns := (gSp_mem ns _).2 (List.mem_map.2 ⟨_, List.getElem_mem hi, rfl⟩)
  have h := List.idxOf_lt_length_of_mem hm
  exact ⟨h, List.getElem_idxOf h⟩
def sig (ns : List Nd) (i : Nat) : Nat := (gSp ns).idxOf ((ns.map (·.at_)).getD i (0, 0))
theorem sig_at (hn : (atsN ns).Nodup) {i : Nat} (hi : i < ns.length) : ∃ h : sig ns i < (gSp ns).length, (gSp ns)[sig ns i] = ns[i].at_ := by
  have e : sig ns i = (gSp ns).idxOf ns[i].at_ := by
    unfold sig
    rw [List.getD_eq_getElem?_getD, List.getElem?_map, List.getElem?_eq_getElem hi]
    rfl
  obtain ⟨h1, h2⟩ := sig_ex hn hi
  exact ⟨by rw [e]; exact h1, by simp only [e]; exact h2⟩
def tau (ns : List Nd) (k : Nat) : Nat := (atsN ns).idxOf ((gSp ns).getD k (0, 0))
theorem tau_at (hn : (atsN ns).Nodup) {k : Nat} (hk : k < (gSp ns).length) : ∃ h : tau ns k < ns.length, ns[tau ns k].at_ = (gSp ns)[k] := by
  have _ := hn
  have hm : (gSp ns)[k] ∈ atsN ns := (gSp_mem ns _).1 (List.getElem_mem hk)
  have e : tau ns k = (atsN ns).idxOf (gSp ns)[k] := by
    unfold tau
    rw [List.getD_eq_getElem?_getD, List.getElem?_eq_getElem hk]
    rfl
  have h := List.idxOf_lt_length_of_mem hm
  have h2 := List.getElem_idxOf h
  have h' : (atsN ns).idxOf (gSp ns)[k] < ns.length := by simpa [atsN] using h
  refine ⟨by rw [e]; exact h', ?_⟩
  simp only [e]
  exact (atsN_get ns _ h).symm.trans h2
theorem tau_sig (hn : (atsN ns).Nodup) {i : Nat} (hi : i < ns.length) : tau ns (sig ns i) = i := by
  obtain ⟨h1, h2⟩ := sig_at hn hi
  obtain ⟨h3, h4⟩ := tau_at hn h1
  rw [h2] at h4
  have h5 : (atsN ns)[tau ns (sig ns i)]'(by simpa [atsN] using h3) = (atsN ns)[i]'(by simpa [atsN] using hi) := by simpa [atsN] using h4
  exact (List.getElem_inj hn).1 h5
theorem sig_nx (hn : (atsN ns).Nodup) {i j : Nat} (hi : i < ns.length) (h : j ∈ nxs (uG (era ns)) i) : j < ns.length ∧ sig ns j ∈ nxs (gNx ns) (sig ns i) := by
  obtain ⟨hj, h1⟩ := (uG_nx (by simpa using hi)).1 h
  have hj' : j < ns.length := by simpa using hj
  obtain ⟨k1, k2⟩ := sig_at hn hi
  obtain ⟨k3, k4⟩ := sig_at hn hj'
  refine ⟨hj', ?_⟩
  rw [gNx_at hn hi k1 k2, mem_nums hn]
  refine ⟨k3, ?_⟩
  rw [k4]
  simpa using h1
theorem tau_nx (hn : (atsN ns).Nodup) {k u : Nat} (hk : k < (gSp ns).length) (h : u ∈ nxs (gNx ns) k) : u < (gSp ns).length ∧ tau ns u ∈ nxs (uG (era ns)) (tau ns k) := by
  obtain ⟨t1, t2⟩ := tau_at hn hk
  rw [gNx_at hn t1 hk t2.symm, mem_nums hn] at h
  obtain ⟨hu, h⟩ := h
  obtain ⟨t3, t4⟩ := tau_at hn hu
  refine ⟨hu, (uG_nx (by simpa using t1)).2 ⟨by simpa using t3, ?_⟩⟩
  simp only [List.getElem_map]
  rw [t4]
  exact h
/-- A way in the one is a way in the other. -/
theorem rch_sig (hn : (atsN ns).Nodup) {i j : Nat} (hi : i < ns.length) (hj : j < ns.length) : Rch1 (gNx ns) (sig ns i) (sig ns j) ↔ Rch1 (uG (era ns)) i j := by
  constructor
  · intro h
    have h1 := rch1_map (g' := uG (era ns)) (f := tau ns) (fun v u hv hu => by
      have hl : v < (gSp ns).length := by
        have := (gNx_ok ns).rch hv (by rw [gNx_len, ← gSp_len]; exact (sig_at hn hi).1)
        rwa [gNx_len, ← gSp_len] at this
      exact (tau_nx hn hl hu).2) h
    rwa [tau_sig hn hi, tau_sig hn hj] at h1
  · intro h
    exact rch1_map (fun v u hv hu => by
      have hl : v < ns.length := by
        have := (uG_ok (era ns)).rch hv (by rw [uG_len]; simpa using hi)
        rw [uG_len] at this
        simpa using this
      exact (sig_nx hn hl hu).2) h
end
end
section

theorem mem_spotsOf {l : List Sp} (hl : l.Nodup) {q : List Nat} (hq : ∀ a ∈ q, a < l.length) {k : Nat} (hk : k < l.length) : l[k] ∈ spotsOf l q ↔ k ∈ q := by
  unfold spotsOf
  rw [List.mem_map]
  constructor
  · rintro ⟨a, ha, e⟩
    have hal := hq a ha
    rw [List.getD_eq_getElem?_getD, List.getElem?_eq_getElem hal] at e
    have := (List.getElem_inj hl).1 e
    rw [← this]
    exact ha
  · intro h
    exact ⟨k, h, by rw [List.getD_eq_getElem?_getD, List.getElem?_eq_getElem hk]; rfl⟩
theorem sortL_perm (ls : List (List Sp)) : (sortL ls).Perm ls := List.mergeSort_perm _ _
theorem sortN_lt {p : List Nat} (h : p.Nodup) : (sortN p).Pairwise (· < ·) := by
  have h1 := sortN_le p
  have h2 : (sortN p).Pairwise (· ≠ ·) := List.nodup_iff_pairwise_ne.1 ((sortN_perm p).nodup_iff.2 h)
  exact (h1.and h2).imp fun ⟨a, b⟩ => by omega
theorem spotsOf_lt {l : List Sp} (hl : l.Pairwise fun x y => ltS x y = true) {q : List Nat} (hq : ∀ a ∈ q, a < l.length) (h : q.Pairwise (· < ·)) : (spotsOf l q).Pairwise fun x y => ltS x y = true := by
  unfold spotsOf
  rw [List.pairwise_map]
  refine h.imp_of_mem fun {a b} ha hb hab => ?_
  have h1 := hq a ha
  have h2 := hq b hb
  rw [List.getD_eq_getElem?_getD, List.getElem?_eq_getElem h1, List.getD_eq_getElem?_getD, List.getElem?_eq_getElem h2]
  exact List.pairwise_iff_getElem.1 hl a b h1 h2 hab
/-- What is told of rings: R of the places ats, whose ways are C. -/
structure RingFacts (ats : List Sp) (C : Nat → Nat → Prop) (R : List (List Sp)) : Prop where
  ne : ∀ r ∈ R, r ≠ []
  heads : R.Pairwise fun a b => ltS (hdS a) (hdS b) = true
  asc : ∀ r ∈ R, r.Pairwise fun x y => ltS x y = true
  mem : ∀ r ∈ R, ∀ s ∈ r, s ∈ ats
  apart : R.Pairwise fun r q => ∀ s ∈ r, s ∉ q
  both : ∀ i k (hi : i < ats.length) (hk : k < ats.length), (∃ r ∈ R, ats[i] ∈ r ∧ ats[k] ∈ r) ↔ C i k ∧ C k i
theorem hdS_mem {r : List Sp} (h : r ≠ []) : hdS r ∈ r := by
  cases r with
  | nil => exact absurd rfl h
  | cons a l => simp [hdS]
theorem sortL_le (ls : List (List Sp)) : (sortL ls).Pairwise fun a b => ltS (hdS b) (hdS a) = false := by
  have := List.pairwise_mergeSort (le := fun a b => !ltS (hdS b) (hdS a)) (fun a b c h1 h2 => by
    simp only [ltS, Bool.not_eq_true', decide_eq_false_iff_not] at *; omega) (fun a b => by
    simp only [ltS, Bool.or_eq_true, Bool.not_eq_true', decide_eq_false_iff_not]; omega) ls
  exact this.imp fun h => by simpa using h
theorem rings_facts {ns : List Nd} (hn : (atsN ns).Nodup) : RingFacts (atsN ns) (Rch1 (uG (era ns))) (ringsOf (gSp ns) (gNx ns)) := by
  have hR := rings_ok (gNx_ok ns)
  have hlen : (gNx ns).length = (gSp ns).length := by rw [gNx_len, gSp_len]
  have hnd := gSp_nd hn
  have hlt : (gSp ns).Pairwise fun x y => ltS x y = true := sortS_lt hn
  have hmem : ∀ r, r ∈ ringsOf (gSp ns) (gNx ns) ↔ ∃ q ∈ (allT (gNx ns)).rings, spotsOf (gSp ns) q = r := fun r => by
    unfold ringsOf
    rw [(sortL_perm _).mem_iff, List.mem_map]
  have hq : ∀ q ∈ (allT (gNx ns)).rings, q ≠ [] ∧ (∀ a ∈ q, a < (gSp ns).length) ∧ q.Pairwise (· < ·) ∧ ∀ a ∈ q, ∀ b, b ∈ q ↔ Rch1 (gNx ns) a b ∧ Rch1 (gNx ns) b a := fun q h => by
    obtain ⟨p, rfl, h2, h3, h4, h5⟩ := hR.el q h
    refine ⟨fun e => h3 ?_, fun a ha => by rw [← hlen]; exact h4 a (mem_sortN.1 ha), sortN_lt h2, fun a ha b => by rw [mem_sortN]; exact h5 a (mem_sortN.1 ha) b⟩
    have := (sortN_perm p).length_eq
    rw [e] at this
    exact List.eq_nil_of_length_eq_zero this.symm
  have hap : (ringsOf (gSp ns) (gNx ns)).Pairwise fun r q => ∀ s ∈ r, s ∉ q := by
    unfold ringsOf
    refine (List.Perm.pairwise_iff (fun {a b} hab s hs ht => hab s ht hs) (sortL_perm _)).2 ?_
    rw [List.pairwise_map]
    refine hR.apart.imp_of_mem fun {a b} ha hb hab s hs ht => ?_
    obtain ⟨k, hk, rfl⟩ := List.mem_map.1 hs
    have hk2 := (hq a ha).2.1 k hk
    rw [List.getD_eq_getElem?_getD, List.getElem?_eq_getElem hk2] at ht
    exact hab k hk ((mem_spotsOf hnd (hq b hb).2.1 hk2).1 ht)
  have hne : ∀ r ∈ ringsOf (gSp ns) (gNx ns), r ≠ [] := fun r hr => by
    obtain ⟨q, h1, rfl⟩ := (hmem r).1 hr
    simpa [spotsOf] using (hq q h1).1
  refine ⟨hne, ?_, fun r hr => ?_, fun r hr s hs => ?_, hap, fun i k hi hk => ?_⟩
  · have h1 := sortL_le ((allT (gNx ns)).rings.map (spotsOf (gSp ns)))
    refine (h1.and hap).imp_of_mem fun {a b} ha hb hab => ?_
    cases h5 : ltS (hdS a) (hdS b) with
    | true => rfl
    | false =>
      have e := totS _ _ h5 hab.1
      exact absurd (e ▸ hdS_mem (hne b hb)) (hab.2 _ (hdS_mem (hne a ha)))
  · obtain ⟨q, h1, rfl⟩ := (hmem r).1 hr
    exact spotsOf_lt hlt (hq q h1).2.1 (hq q h1).2.2.1
  · obtain ⟨q, h1, rfl⟩ := (hmem r).1 hr
    obtain ⟨k, hk, rfl⟩ := List.mem_map.1 hs
    have hk2 := (hq q h1).2.1 k hk
    rw [List.getD_eq_getElem?_getD, List.getElem?_eq_getElem hk2]
    exact (gSp_mem ns _).1 (List.getElem_mem hk2)
  · have hi' : i < ns.length := by simpa [atsN] using hi
    have hk' : k < ns.length := by simpa [atsN] using hk
    obtain ⟨s1, s2⟩ := sig_at hn hi'
    obtain ⟨t1, t2⟩ := sig_at hn hk'
    rw [atsN_get, atsN_get, ← s2, ← t2, ← rch_sig hn hi' hk', ← rch_sig hn hk' hi']
    constructor
    · rintro ⟨r, hr, h1, h2⟩
      obtain ⟨q, hq1, rfl⟩ := (hmem r).1 hr
      have k1 := (mem_spotsOf hnd (hq q hq1).2.1 s1).1 h1
      have k2 := (mem_spotsOf hnd (hq q hq1).2.1 t1).1 h2
      exact ((hq q hq1).2.2.2 _ k1 _).1 k2
    · rintro ⟨h1, h2⟩
      obtain ⟨q, hq1, hq2⟩ := hR.all (sig ns i) (by rw [hlen]; exact s1) (h1.trans_r h2.rch)
      have hq3 := ((hq q hq1).2.2.2 _ hq2 (sig ns k)).2 ⟨h1, h2⟩
      exact ⟨spotsOf (gSp ns) q, (hmem _).2 ⟨q, hq1, rfl⟩, (mem_spotsOf hnd (hq q hq1).2.1 s1).2 hq2, (mem_spotsOf hnd (hq q hq1).2.1 t1).2 hq3⟩

/-- The number of the ring that a place is on, from 1 on; 0: it is on none. -/
def ringNo : List (List Sp) → Sp → Nat
  | [], _ => 0
  | r :: R, s => if s ∈ r then 1 else if ringNo R s = 0 then 0 else ringNo R s + 1
theorem ringNo_snoc (A : List (List Sp)) (r : List Sp) (s : Sp) : ringNo (A ++ [r]) s = if ringNo A s = 0 then (if s ∈ r then A.length + 1 else 0) else ringNo A s := by
  induction A with
  | nil => simp [ringNo]
  | cons a A ih =>
    rw [List.cons_append, ringNo, ringNo, ih, List.length_cons]
    by_cases h1 : s ∈ a
    · simp [h1]
    · by_cases h2 : ringNo A s = 0
      · by_cases h3 : s ∈ r
        · simp [h1, h2, h3]
        · simp [h1, h2, h3]
      · simp [h1, h2]
theorem ringNo_zero {R : List (List Sp)} {s : Sp} : ringNo R s = 0 ↔ ∀ r ∈ R, s ∉ r := by
  induction R with
  | nil => simp [ringNo]
  | cons r R ih =>
    rw [ringNo]
    by_cases h1 : s ∈ r
    · simp [h1]
    · by_cases h2 : ringNo R s = 0
      · simp [h1, h2]
        exact ih.1 h2
      · rw [if_neg h1, if_neg h2]
        constructor
        · intro h; omega
        · intro h
          exact absurd (ih.2 fun q hq => h q (by simp [hq])) h2
theorem ringNo_le (R : List (List Sp)) (s : Sp) : ringNo R s ≤ R.length := by
  induction R with
  | nil => simp [ringNo]
  | cons r R ih =>
    rw [ringNo, List.length_cons]
    split
    · omega
    · split <;> omega
theorem ringNo_same {R : List (List Sp)} (hap : R.Pairwise fun r q => ∀ s ∈ r, s ∉ q) {s t : Sp} : (ringNo R s ≠ 0 ∧ ringNo R s = ringNo R t) ↔ ∃ r ∈ R, s ∈ r ∧ t ∈ r := by
  induction R with
  | nil => simp [ringNo]
  | cons r R ih =>
    obtain ⟨h1, h2⟩ := List.pairwise_cons.1 hap
    have ih := ih h2
    rw [ringNo, ringNo]
    by_cases hs : s ∈ r
    · by_cases ht : t ∈ r
      · simp [hs, ht]
      · have h3 : ∀ q ∈ R, s ∉ q := fun q hq => h1 q hq s hs
        rw [if_pos hs, if_neg ht]
        constructor
        · rintro ⟨_, h⟩
          split at h <;> omega
        · rintro ⟨q, hq, k1, k2⟩
          rcases List.mem_cons.1 hq with rfl | hq
          · exact absurd k2 ht
          · exact absurd k1 (h3 q hq)
    · by_cases ht : t ∈ r
      · rw [if_neg hs, if_pos ht]
        constructor
        · rintro ⟨k1, k2⟩
          split at k1
          · exact absurd rfl k1
          · split at k2 <;> omega
        · rintro ⟨q, hq, k1, k2⟩
          rcases List.mem_cons.1 hq with rfl | hq
          · exact absurd k1 hs
          · exact absurd k2 (h1 q hq t ht)
      · rw [if_neg hs, if_neg ht]
        have e : (∃ q ∈ r :: R, s ∈ q ∧ t ∈ q) ↔ ∃ q ∈ R, s ∈ q ∧ t ∈ q := by
          constructor
          · rintro ⟨q, hq, k1, k2⟩
            rcases List.mem_cons.1 hq with rfl | hq
            · exact absurd k1 hs
            · exact ⟨q, hq, k1, k2⟩
          · rintro ⟨q, hq, k⟩
            exact ⟨q, by simp [hq], k⟩
        rw [e, ← ih]
        constructor
        · rintro ⟨k1, k2⟩
          split at k1
          · exact absurd rfl k1
          · rename_i k3
            refine ⟨k3, ?_⟩
            rw [if_neg k3] at k2
            split at k2 <;> omega
        · rintro ⟨k1, k2⟩
          rw [if_neg k1, ← k2, if_neg k1]
          exact ⟨by omega, rfl⟩
/-- One more place of ring i is marked. -/
theorem ringNo_put {R : List (List Sp)} (hap : R.Pairwise fun r q => ∀ s ∈ r, s ∉ q) {i : Nat} (hi : i < R.length) (hnd : R[i].Nodup) {k : Nat} (hk : k < R[i].length) : ringNo (R.take i ++ [R[i].take k]) R[i][k] = 0 ∧
    ∀ t, ringNo (R.take i ++ [R[i].take (k + 1)]) t = if t = R[i][k] then i + 1 else ringNo (R.take i ++ [R[i].take k]) t := by
  have h0 : ∀ s ∈ R[i], ringNo (R.take i) s = 0 := fun s hs => ringNo_zero.2 fun r hr hsr => by
    obtain ⟨j, hj, rfl⟩ := List.mem_take_iff_getElem.1 hr
    exact List.pairwise_iff_getElem.1 hap j i (by omega) hi (by omega) s hsr hs
  have hl : (R.take i).length = i := by rw [List.length_take]; omega
  have hnt : R[i][k] ∉ R[i].take k := fun hm => by
    obtain ⟨j, hj, e⟩ := List.mem_take_iff_getElem.1 hm
    have := (List.getElem_inj hnd).1 e
    omega
  refine ⟨?_, fun t => ?_⟩
  · rw [ringNo_snoc, if_pos (h0 _ (List.getElem_mem hk)), if_neg hnt]
  · have hm : t ∈ R[i].take (k + 1) ↔ t ∈ R[i].take k ∨ t = R[i][k] := by rw [List.take_succ_eq_append_getElem hk, List.mem_append, List.mem_singleton]
    rw [ringNo_snoc, ringNo_snoc, hl]
    by_cases e : t = R[i][k]
    · rw [if_pos e, if_pos (by rw [e]; exact h0 _ (List.getElem_mem hk)), if_pos (hm.2 (.inr e))]
    · rw [if_neg e]
      by_cases h1 : t ∈ R[i].take k
      · rw [if_pos (hm.2 (.inl h1)), if_pos h1]
      · rw [if_neg (fun h => (hm.1 h).elim h1 e), if_neg h1]
theorem ringNo_next {R : List (List Sp)} {i : Nat} (hi : i < R.length) (t : Sp) : ringNo (R.take i ++ [R[i].take R[i].length]) t = ringNo (R.take (i + 1)) t := by
  rw [List.take_length, List.take_succ_eq_append_getElem hi]
theorem ringNo_nil (A : List (List Sp)) (t : Sp) : ringNo (A ++ [[]]) t = ringNo A t := by
  rw [ringNo_snoc]
  by_cases h : ringNo A t = 0 <;> simp [h]
end
end Go.Proofs.Ytdlpbpohbkcafaa
