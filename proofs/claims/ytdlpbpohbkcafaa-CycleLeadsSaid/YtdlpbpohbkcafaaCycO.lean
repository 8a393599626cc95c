/-
  What cycle.Order tells of some nodes, by their places. No program's step here.
-/
import Derived.Test.YtdlpbpohbkcafaaCycP
import Derived.Test.YtdlpbpohbkcafaaOrdQ
namespace Go.Proofs.Ytdlpbpohbkcafaa

theorem gNx_nd' (ns : List Nd) : OkN (gNx ns) := by
  intro v
  unfold nxs
  rw [List.getD_eq_getElem?_getD]
  cases h : (gNx ns)[v]? with
  | none => simp
  | some l =>
    have hm := List.mem_of_getElem? h
    unfold gNx at hm
    obtain ⟨s, _, rfl⟩ := List.mem_map.1 hm
    exact List.Pairwise.filter _ List.nodup_range
theorem idx_get {l : List Sp} (hn : l.Nodup) {i : Nat} (hi : i < l.length) : l.idxOf l[i] = i := by
  have h := List.idxOf_lt_length_of_mem (List.getElem_mem hi)
  have h2 := List.getElem_idxOf h
  exact (List.getElem_inj hn).1 h2
/-- There are rings just where the order stops short. -/
theorem rings_none {ns : List Nd} : ringsOf (gSp ns) (gNx ns) = [] ↔ (orderT (gNx ns)).length = ns.length := by
  obtain ⟨h1, h2⟩ := orderT_ok (gNx_nd' ns)
  have hf := h1.full (gNx_ok ns) h2
  rw [gNx_len] at hf
  rw [hf]
  have hR := rings_ok (gNx_ok ns)
  have e : ringsOf (gSp ns) (gNx ns) = [] ↔ (allT (gNx ns)).rings = [] := by
    constructor
    · intro h
      have := (sortL_perm ((allT (gNx ns)).rings.map (spotsOf (gSp ns)))).length_eq
      unfold ringsOf at h
      rw [h] at this
      simp at this
      exact List.eq_nil_of_length_eq_zero this.symm
    · intro h
      unfold ringsOf
      rw [h]
      exact List.mergeSort_nil
  rw [e]
  constructor
  · intro h v hv hr
    obtain ⟨r, hr, _⟩ := hR.all v (by rw [gNx_len]; exact hv) hr
    rw [h] at hr
    simp at hr
  · intro h
    refine Classical.byContradiction fun hne => ?_
    obtain ⟨r, hr⟩ := List.exists_mem_of_ne_nil _ hne
    obtain ⟨p, _, _, h3, h4, h5⟩ := hR.el r hr
    obtain ⟨a, ha⟩ := List.exists_mem_of_ne_nil _ h3
    refine h a ?_ ((h5 a ha a).1 ha).1
    have := h4 a ha
    rwa [gNx_len] at this
theorem mem_of_spots {l : List Sp} {O : List Nat} {s : Sp} : s ∈ spotsOf l O ↔ ∃ k ∈ O, l.getD k (0, 0) = s := by unfold spotsOf; exact List.mem_map
/-- The order by places. -/
structure OrdFacts (ns : List Nd) (L : List Sp) : Prop where
  len : L.length = ns.length
  nd : L.Nodup
  mem : ∀ s, s ∈ L ↔ s ∈ atsN ns
  ahead : ∀ j (hj : j < ns.length), ∀ s ∈ ns[j].next, s ∈ atsN ns → L.idxOf s < L.idxOf ns[j].at_
  least : ∀ j (hj : j < ns.length), ∀ m (hm : m < L.length), m < L.idxOf ns[j].at_ → (∀ s ∈ ns[j].next, s ∈ atsN ns → L.idxOf s < m) → ltS ns[j].at_ L[m] = false
theorem ord_facts {ns : List Nd} (hn : (atsN ns).Nodup) (hl : (orderT (gNx ns)).length = ns.length) : OrdFacts ns (spotsOf (gSp ns) (orderT (gNx ns))) := by
  obtain ⟨h1, h2⟩ := orderT_ok (gNx_nd' ns)
  have hsl := gSp_len ns
  have hsn := gSp_nd hn
  have hlt : (gSp ns).Pairwise fun x y => ltS x y = true := sortS_lt hn
  have hb : ∀ x ∈ orderT (gNx ns), x < (gSp ns).length := fun x hx => by
    have := h1.lt x hx
    rwa [gNx_len, ← hsl] at this
  have hall : ∀ v, v < (gSp ns).length → v ∈ orderT (gNx ns) := fun v hv => mem_of_len h1 (by rw [hl, gNx_len]) (by rw [gNx_len, ← hsl]; exact hv)
  have hnd := h1.nodup
  generalize hO : orderT (gNx ns) = O at *
  have hLl : (spotsOf (gSp ns) O).length = O.length := by simp [spotsOf]
  have hget : ∀ i (hi : i < O.length), (spotsOf (gSp ns) O)[i]'(by rw [hLl]; exact hi) = (gSp ns)[O[i]]'(hb _ (List.getElem_mem hi)) := fun i hi => by
    simp only [spotsOf, List.getElem_map]
    rw [List.getD_eq_getElem?_getD, List.getElem?_eq_getElem (hb _ (List.getElem_mem hi))]
    rfl
  have hLnd : (spotsOf (gSp ns) O).Nodup := by
    rw [List.Nodup, List.pairwise_iff_getElem]
    intro i j hi hj hij e
    rw [hLl] at hi hj
    rw [hget i hi, hget j hj] at e
    have := (List.getElem_inj hsn).1 e
    have := (List.getElem_inj hnd).1 this
    omega
  have hidx : ∀ k (hk : k < (gSp ns).length), ∃ p, ∃ hp : p < O.length, O[p] = k ∧ (spotsOf (gSp ns) O).idxOf (gSp ns)[k] = p := fun k hk => by
    obtain ⟨p, hp, e⟩ := List.getElem_of_mem (hall k hk)
    refine ⟨p, hp, e, ?_⟩
    have h3 := hget p hp
    simp only [e] at h3
    rw [← h3]
    exact idx_get hLnd _
  have hnum : ∀ s ∈ atsN ns, ∃ k, ∃ hk : k < (gSp ns).length, (gSp ns)[k] = s := fun s hs => by
    obtain ⟨k, hk, e⟩ := List.getElem_of_mem ((gSp_mem ns s).2 hs)
    exact ⟨k, hk, e⟩
  refine ⟨by rw [hLl, hl], hLnd, fun s => ?_, fun j hj s hs hsa => ?_, fun j hj m hm hmj hall2 => ?_⟩
  · rw [mem_of_spots]
    constructor
    · rintro ⟨k, hk, e⟩
      have hk2 := hb k hk
      rw [← e, List.getD_eq_getElem?_getD, List.getElem?_eq_getElem hk2]
      exact (gSp_mem ns _).1 (List.getElem_mem hk2)
    · intro hs
      obtain ⟨k, hk, e⟩ := hnum s hs
      refine ⟨k, hall k hk, ?_⟩
      rw [List.getD_eq_getElem?_getD, List.getElem?_eq_getElem hk]
      exact e
  · obtain ⟨k, hk, rfl⟩ := hnum s hsa
    obtain ⟨s1, s2⟩ := sig_at hn hj
    obtain ⟨q, hq, e1, e2⟩ := hidx k hk
    obtain ⟨p, hp, e3, e4⟩ := hidx _ s1
    rw [← s2, e2, e4]
    have hx : k ∈ nxs (gNx ns) O[p] := by
      rw [e3, gNx_at hn hj s1 s2, mem_nums hn]
      exact ⟨hk, hs⟩
    obtain ⟨r, hr, e5⟩ := h1.ahead hp hx
    have := (List.getElem_inj hnd).1 (e5.trans e1.symm)
    omega
  · rw [hLl] at hm
    obtain ⟨s1, s2⟩ := sig_at hn hj
    obtain ⟨p, hp, e3, e4⟩ := hidx _ s1
    rw [← s2, e4] at hmj
    rw [hget m hm, ← s2]
    cases h5 : ltS (gSp ns)[sig ns j] ((gSp ns)[O[m]]'(hb _ (List.getElem_mem hm))) with
    | false => rfl
    | true =>
      have hlt2 : sig ns j < O[m] := by
        rcases Nat.lt_trichotomy (sig ns j) O[m] with h | h | h
        · exact h
        · have e6 : (gSp ns)[sig ns j] = (gSp ns)[O[m]]'(hb _ (List.getElem_mem hm)) := by congr 1
          rw [← e6] at h5
          simp [ltS] at h5
        · have h6 := List.pairwise_iff_getElem.1 hlt _ _ (hb _ (List.getElem_mem hm)) s1 h
          simp only [ltS, decide_eq_true_eq] at h5 h6
          omega
      refine absurd ?_ ((h1 m hm).2 _ hlt2)
      refine ⟨by rw [gNx_len, ← hsl]; exact s1, fun hmem => ?_, fun x hx => ?_⟩
      · obtain ⟨i, hi, e⟩ := List.mem_take_iff_getElem.1 hmem
        have := (List.getElem_inj hnd).1 (e.trans e3.symm)
        omega
      · rw [gNx_at hn hj s1 s2, mem_nums hn] at hx
        obtain ⟨hxl, hx⟩ := hx
        have h7 := hall2 _ hx ((gSp_mem ns _).1 (List.getElem_mem hxl))
        obtain ⟨q, hq, e1, e2⟩ := hidx x hxl
        rw [e2] at h7
        rw [List.mem_take_iff_getElem]
        exact ⟨q, by omega, e1⟩
end Go.Proofs.Ytdlpbpohbkcafaa
