/-
  What quadrillelaw21.CycleLeads asks of cycle.Leads, said about the nodes as they lie. No program's step here.
-/
import Derived.Test.YtdlpbpohbkcafaaCycO
import Derived.Test.YtdlpbpohbkcafaaLeadP
import Derived.Test.YtdlpbpohbkcafaaCUtil2
import Derived.Test.YtdlpbpohbkcafaaCSound
namespace Go.Proofs.Ytdlpbpohbkcafaa
open Go.RowKit Go.Shelf Go.Sort Go.Proofs

theorem IsLead.on_ring {g : Dg} {v : Nat} {x : Ld} (h : IsLead g v x) (h1 : Rch1 g v v) : x.ring = true ∧ x.steps = 0 ∧ Rch g v x.first ∧ ∀ u, Rch g v u → x.first ≤ u := by
  cases h with
  | sink h0 => exact absurd h1 (nil_no1 h0)
  | ring h2 h3 h4 => exact ⟨rfl, rfl, h3, h4⟩
  | step h2 h3 h4 => exact absurd h1 h3
theorem ring_next {g : Dg} {v u : Nat} (hn : nxs g v = [u]) (h1 : Rch1 g v v) (hv : HasL g v) (hu : HasL g u) : leadOf g v = ⟨true, 0, (leadOf g v).first⟩ ∧ leadOf g u = leadOf g v := by
  obtain ⟨c, hc, hr⟩ := h1
  have h1 : Rch1 g v v := ⟨c, hc, hr⟩
  rw [hn, List.mem_singleton] at hc
  subst hc
  have hvc : Rch g v c := Rch.one (by rw [hn]; simp)
  have h2 : Rch1 g c c := by
    rcases hr.one_of with e | h
    · rw [e]
      exact h1
    · obtain ⟨d, hd, hd2⟩ := h
      exact ⟨d, hd, hd2.trans hvc⟩
  obtain ⟨a1, a2, a3, a4⟩ := (leadOf_is hv).on_ring h1
  obtain ⟨b1, b2, b3, b4⟩ := (leadOf_is hu).on_ring h2
  have e1 := a4 _ (hvc.trans b3)
  have e2 := b4 _ (hr.trans a3)
  have e : (leadOf g c).first = (leadOf g v).first := by omega
  cases hx : leadOf g v with
  | mk r s f =>
    cases hy : leadOf g c with
    | mk r' s' f' =>
      rw [hx, hy] at e
      rw [hx] at a1 a2
      rw [hy] at b1 b2
      simp only at a1 a2 b1 b2 e
      subst a1 a2 b1 b2 e
      exact ⟨rfl, rfl⟩
/-- Where each place leads, as it is told. -/
noncomputable def lxOf (l : List Sp) (G : Dg) (k : Nat) : Lx := ⟨l.getD k (0, 0), (leadOf G k).ring, ((leadOf G k).steps : Int), l.getD (leadOf G k).first (0, 0)⟩
noncomputable def lxsOf (l : List Sp) (G : Dg) : List Lx := (List.range l.length).map (lxOf l G)
theorem lxsOf_len (l : List Sp) (G : Dg) : (lxsOf l G).length = l.length := by simp [lxsOf]
theorem lxsOf_get {l : List Sp} {G : Dg} {k : Nat} (h : k < (lxsOf l G).length) : (lxsOf l G)[k] = lxOf l G k := by simp [lxsOf]
structure LeadF (ns : List Nd) (ls : List Lx) : Prop where
  len : ls.length = ns.length
  asc : ∀ i (h : i + 1 < ls.length), ltS ls[i].at_ ls[i + 1].at_ = true
  inj : ∀ i j (hi : i < ls.length) (hj : j < ls.length), ls[i].at_ = ls[j].at_ → i = j
  mem : ∀ i (h : i < ls.length), ∃ j, ∃ hj : j < ns.length, ns[j].at_ = ls[i].at_ ∧ findI (atsN ns) ls[i].at_ = (j : Int)
  steps : ∀ i (h : i < ls.length), 0 ≤ ls[i].steps ∧ ls[i].steps ≤ (ns.length : Int)
  last : ∀ i j (h : i < ls.length) (hj : j < ns.length), ns[j].at_ = ls[i].at_ → (∀ s ∈ ns[j].next, s ∉ atsN ns) → ls[i] = ⟨ls[i].at_, false, 0, ls[i].at_⟩
  next : ∀ i j (h : i < ls.length) (hj : j < ns.length), ns[j].at_ = ls[i].at_ → ∀ s, ns[j].next = [s] → s ∈ atsN ns → ∃ u, ∃ hu : u < ls.length, ls[u].at_ = s ∧ ls[u].ring = ls[i].ring ∧ ls[u].first = ls[i].first ∧
    reachB (uG (era ns)) j j = (ls[i].ring && ls[i].steps == 0) ∧ (reachB (uG (era ns)) j j = false → ls[i].steps = ls[u].steps + 1)
theorem lead_facts {ns : List Nd} (hn : (atsN ns).Nodup) (hL : ∀ x, x < (gSp ns).length → HasL (gNx ns) x) : LeadF ns (lxsOf (gSp ns) (gNx ns)) := by
  have hlen : (lxsOf (gSp ns) (gNx ns)).length = (gSp ns).length := lxsOf_len _ _
  have hsl : (gSp ns).length = ns.length := gSp_len ns
  have hat : ∀ i (h : i < (lxsOf (gSp ns) (gNx ns)).length), (lxsOf (gSp ns) (gNx ns))[i].at_ = (gSp ns)[i]'(by omega) := fun i h => by
    rw [lxsOf_get]
    show (gSp ns).getD i (0, 0) = _
    rw [List.getD_eq_getElem?_getD, List.getElem?_eq_getElem (by omega)]
    rfl
  have hlt : (gSp ns).Pairwise fun x y => ltS x y = true := sortS_lt hn
  have hnd := gSp_nd (ns := ns) hn
  have hsig : ∀ i j (h : i < (gSp ns).length) (hj : j < ns.length), ns[j].at_ = (gSp ns)[i] → sig ns j = i := fun i j h hj e => by
    obtain ⟨h1, h2⟩ := sig_at hn hj
    rw [e] at h2
    exact (List.getElem_inj hnd).1 h2
  refine ⟨by omega, fun i h => ?_, fun i j hi hj e => ?_, fun i h => ?_, fun i h => ?_, fun i j h hj e hno => ?_, fun i j h hj e s hs hin => ?_⟩
  · rw [hat, hat]
    exact List.pairwise_iff_getElem.1 hlt _ _ _ _ (by omega)
  · rw [hat, hat] at e
    exact (List.getElem_inj hnd).1 e
  · rw [hat]
    have hi : i < (gSp ns).length := by omega
    obtain ⟨h1, h2⟩ := tau_at hn hi
    refine ⟨tau ns i, h1, h2, ?_⟩
    have hm : (gSp ns)[i] ∈ atsN ns := by rw [← h2]; simp only [atsN, List.mem_map]; exact ⟨_, List.getElem_mem h1, rfl⟩
    unfold findI
    rw [if_pos hm]
    congr 1
    have : (atsN ns)[tau ns i]'(by simpa [atsN] using h1) = (gSp ns)[i] := by rw [atsN_get, h2]
    rw [← this]
    exact idx_get hn _
  · rw [lxsOf_get]
    show (0 : Int) ≤ ((leadOf (gNx ns) i).steps : Int) ∧ ((leadOf (gNx ns) i).steps : Int) ≤ _
    have := (leadOf_is (hL i (by omega))).steps_lt (gNx_ok ns) (by rw [gNx_len]; omega)
    rw [gNx_len] at this
    omega
  · have hi : i < (gSp ns).length := by omega
    rw [hat] at e
    have hnx := gNx_at hn hj hi e.symm
    have h0 : numsOf (gSp ns) ns[j].next = [] := by
      rw [List.eq_nil_iff_forall_not_mem]
      intro k hk
      obtain ⟨hk1, hk2⟩ := (mem_nums hn).1 hk
      exact hno _ hk2 ((sortS_perm _).mem_iff.1 (List.getElem_mem hk1))
    have hlo := leadOf_eq (IsLead.sink (hnx.trans h0))
    rw [lxsOf_get]
    unfold lxOf
    rw [hlo]
    rfl
  · have hi : i < (gSp ns).length := by omega
    have hsg := hsig i j hi hj (by rw [e, hat])
    rw [hat] at e
    have hnx := gNx_at hn hj hi e.symm
    obtain ⟨u, hu, hus⟩ := List.getElem_of_mem ((sortS_perm (atsN ns)).mem_iff.2 hin)
    have hu : u < (gSp ns).length := hu
    have hus : (gSp ns)[u] = s := hus
    have h0 : numsOf (gSp ns) ns[j].next = [u] := by
      rw [hs]
      have hmem : ∀ k, k ∈ numsOf (gSp ns) [s] ↔ k = u := fun k => by
        rw [mem_nums hn]
        constructor
        · rintro ⟨hk1, hk2⟩
          rw [List.mem_singleton, ← hus] at hk2
          exact (List.getElem_inj hnd).1 hk2
        · rintro rfl
          exact ⟨hu, by rw [hus]; simp⟩
      have hnn : (numsOf (gSp ns) [s]).Nodup := by
        have := gNx_nd' ns i
        rw [hnx, hs] at this
        exact this
      cases hq : numsOf (gSp ns) [s] with
      | nil => rw [hq] at hmem; exact absurd ((hmem u).2 rfl) (by simp)
      | cons a t =>
        rw [hq] at hmem hnn
        have ha := (hmem a).1 (by simp)
        subst ha
        cases t with
        | nil => rfl
        | cons b t =>
          have hb := (hmem b).1 (by simp)
          rw [hb] at hnn
          simp at hnn
    have hnu : nxs (gNx ns) i = [u] := hnx.trans h0
    have hi' : i < (lxsOf (gSp ns) (gNx ns)).length := by omega
    have hu' : u < (lxsOf (gSp ns) (gNx ns)).length := by omega
    have hback : reachB (uG (era ns)) j j = true ↔ Rch1 (gNx ns) i i := by
      rw [reachB_true, ← rch_sig hn hj hj, hsg]
    refine ⟨u, hu', by rw [hat]; exact hus, ?_⟩
    rw [lxsOf_get, lxsOf_get]
    by_cases hb : Rch1 (gNx ns) i i
    · obtain ⟨r1, r2⟩ := ring_next hnu hb (hL i hi) (hL u hu)
      have hbt := hback.2 hb
      refine ⟨?_, ?_, ?_, ?_⟩
      · show (leadOf (gNx ns) u).ring = (leadOf (gNx ns) i).ring
        rw [r2]
      · show (gSp ns).getD (leadOf (gNx ns) u).first _ = (gSp ns).getD (leadOf (gNx ns) i).first _
        rw [r2]
      · rw [hbt]
        show true = ((leadOf (gNx ns) i).ring && ((leadOf (gNx ns) i).steps : Int) == 0)
        rw [r1]
        rfl
      · intro h
        rw [hbt] at h
        cases h
    · have hbf : reachB (uG (era ns)) j j = false := by
        cases hq : reachB (uG (era ns)) j j with
        | false => rfl
        | true => exact absurd (hback.1 hq) hb
      obtain ⟨_, hbm⟩ := lead_bump hnu hb (hL u hu)
      refine ⟨?_, ?_, ?_, fun _ => ?_⟩
      · show (leadOf (gNx ns) u).ring = (leadOf (gNx ns) i).ring
        rw [hbm]; rfl
      · show (gSp ns).getD (leadOf (gNx ns) u).first _ = (gSp ns).getD (leadOf (gNx ns) i).first _
        rw [hbm]; rfl
      · rw [hbf]
        show false = ((leadOf (gNx ns) i).ring && ((leadOf (gNx ns) i).steps : Int) == 0)
        rw [hbm]
        show false = ((leadOf (gNx ns) u).ring && (((leadOf (gNx ns) u).steps + 1 : Nat) : Int) == 0)
        have : ((((leadOf (gNx ns) u).steps + 1 : Nat) : Int) == 0) = false := by rw [beq_eq_false_iff_ne]; omega
        rw [this, Bool.and_false]
      · show ((leadOf (gNx ns) i).steps : Int) = ((leadOf (gNx ns) u).steps : Int) + 1
        rw [hbm]
        show (((leadOf (gNx ns) u).steps + 1 : Nat) : Int) = _
        omega
/-- A node with one pointer at most. -/
def cutN (n : Nd) : Nd := { n with next := n.next.take 1 }
theorem SoundNs.cut {ns : List Nd} (h : SoundNs ns) : SoundNs (ns.map cutN) := by
  have he : era (ns.map cutN) = (era ns).map fun p => (p.1, p.2.take 1) := by
    unfold era
    rw [List.map_map, List.map_map]
    rfl
  refine ⟨?_⟩
  rw [show era (ns.map cutN) = _ from he]
  refine ⟨by rw [List.length_map]; exact h.ok.len, ?_, fun p hp => ?_⟩
  · have := h.ok.nd
    unfold atsP at this ⊢
    rw [List.map_map]
    exact this
  · obtain ⟨q, hq, rfl⟩ := List.mem_map.1 hp
    obtain ⟨a, b, c⟩ := h.ok.may q hq
    exact ⟨a, by rw [List.length_take]; omega, fun s hs => c s (List.mem_of_mem_take hs)⟩
theorem cut_le {ns : List Nd} : ∀ n ∈ ns.map cutN, n.next.length ≤ 1 := fun n hn => by
  obtain ⟨m, _, rfl⟩ := List.mem_map.1 hn
  show (m.next.take 1).length ≤ 1
  rw [List.length_take]
  omega
theorem gNx_le1 {ns : List Nd} (hn : (atsN ns).Nodup) (h : ∀ n ∈ ns, n.next.length ≤ 1) {x : Nat} (hx : x < (gSp ns).length) : (nxs (gNx ns) x).length ≤ 1 := by
  obtain ⟨h1, h2⟩ := tau_at hn hx
  rw [gNx_at hn h1 hx h2.symm]
  have hl := h _ (List.getElem_mem h1)
  have hnn : (numsOf (gSp ns) ns[tau ns x].next).Nodup := by
    have := gNx_nd' ns x
    rw [gNx_at hn h1 hx h2.symm] at this
    exact this
  have hnd := gSp_nd (ns := ns) hn
  cases hq : numsOf (gSp ns) ns[tau ns x].next with
  | nil => simp
  | cons a t =>
    cases t with
    | nil => simp
    | cons b t =>
      exfalso
      rw [hq] at hnn
      have ha0 : a ∈ numsOf (gSp ns) ns[tau ns x].next := by rw [hq]; simp
      have hb0 : b ∈ numsOf (gSp ns) ns[tau ns x].next := by rw [hq]; simp
      obtain ⟨ha1, ha2⟩ := (mem_nums hn).1 ha0
      obtain ⟨hb1, hb2⟩ := (mem_nums hn).1 hb0
      have hab : (gSp ns)[a] = (gSp ns)[b] := by
        cases hz : ns[tau ns x].next with
        | nil => rw [hz] at ha2; simp at ha2
        | cons c r =>
          rw [hz] at hl ha2 hb2
          cases r with
          | nil =>
            rw [List.mem_singleton] at ha2 hb2
            rw [ha2, hb2]
          | cons _ _ => simp at hl
      have := (List.getElem_inj hnd).1 hab
      subst this
      simp at hnn
end Go.Proofs.Ytdlpbpohbkcafaa
