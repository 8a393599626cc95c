/-
  A region that draws its order, within a round of a loop over an iterator: by the held laws of the plain walk. No program in sight.
-/
import Derived.Test.YtnmkhoebijodhaaGreatDoorLoopK
import Derived.Deep.RegionHeld3
import Derived.Stop.RegionWithIn
namespace Go.Proofs.YtnmkhoebijodhaaGreatDoor
open Go.RowKit

variable {P : Program} {ops : Array Oper} {Q : Exit → Act → World → Prop} {l n : Nat} {md : Region.Mode}

/-- No operation is a defer statement. -/
def noDefer (ops : Array Oper) : Bool := ops.all fun o => match o.op with | .defer _ => false | _ => true
theorem noDefer_get (h : noDefer ops = true) {i : Nat} {o : Oper} (hi : ops[i]? = some o) : ∀ c, o.op ≠ .defer c := by
  intro c e
  unfold noDefer at h
  rw [Array.all_eq_true] at h
  obtain ⟨hlt, he⟩ := Array.getElem?_eq_some_iff.1 hi
  have := h i hlt
  rw [he, e] at this
  cases this

theorem uponIn_of_upon {o : Oper} {a : Act} {K K' : Act → World → Prop} (hK : ∀ a w, K a w → K' a w) : ∀ r : Result Next, o.upon P a K Q r → o.uponIn (Fence.wide.inRound l) n P a K' Q r := by
  intro r h
  cases r with
  | ok nx w' =>
    cases nx with
    | value v => exact hK _ _ h
    | skip => exact hK _ _ h
    | defer d => exact hK _ _ h
    | enter f args =>
      refine ⟨fun hd => by simp [Fence.wide] at hd, CallsIn.inRound l (callsIn_wide.2 (Calls.mono h ?_))⟩
      intro e w'' he
      cases e with
      | returned v => exact hK _ _ he
      | panicked c => exact he
      | outgrown => exact he
    | row row args =>
      refine ⟨fun hd => by simp [Fence.wide] at hd, fun c cs _ => ?_⟩
      obtain ⟨v, w'', hv, hs⟩ := h c cs
      exact ⟨v, w'', hK _ _ hv, stepsIn_wide.2 hs⟩
    | _ => exact h.elim
  | halt x w' =>
    cases x with
    | panic v => exact h
    | _ => exact h.elim

theorem anyIn_of_any (hnd : noDefer ops = true) (hL : ¬ LetsOut Q) : ∀ (fuel : Nat) (listed : Array Bool) (a : Act) (w : World), wpAny P md ops Q fuel listed a w → wpAnyIn (Fence.wide.inRound l) n P md ops Q fuel listed a w
  | 0, _, _, _, h => h
  | fuel + 1, listed, a, w, h => by
    refine ⟨h.1, fun i hi => ?_⟩
    have hw := h.2 i hi
    have hK : ∀ a w, wpAny P md ops Q fuel (listed.setIfInBounds i true) a w → wpAnyIn (Fence.wide.inRound l) n P md ops Q fuel (listed.setIfInBounds i true) a w := fun a w h => anyIn_of_any hnd hL fuel _ a w h
    unfold wpOp at hw
    unfold wpOpIn
    cases ho : ops[i]? with
    | none =>
      rw [ho] at hw
      exact hK _ _ hw
    | some o =>
      rw [ho] at hw
      simp only at hw ⊢
      split at hw
      · rename_i hwa
        rw [if_pos hwa]
        rcases hw with hw | ⟨_, hw⟩
        · refine ⟨fun _ _ => trivial, ?_⟩
          rw [show (Fence.wide.inRound l).round = some l from rfl, Oper.semAt_some l _ _ (noDefer_get hnd ho)]
          exact uponIn_of_upon hK _ hw
        · exact absurd hw hL
      · rename_i hwa
        rw [if_neg hwa]
        exact ⟨fun _ _ => trivial, hK _ _ hw⟩

/-- THE LAW: such a region within a round, by the held laws. -/
theorem region_round {id : Nat} {a : Act} {w : World} (N : Nat) (hN : ops.size = N) (S : World → Prop) (hm : P.follows .mixedOrders = true) (hnd : noDefer ops = true) (hL : ¬ LetsOut Q) (hS : S w.drew)
    (h : S w.drew → wpAnyH P .any ops Q S N (Array.replicate N false) a w.drew) : (Code.region id ops true).wpIn (Fence.wide.inRound l) n P Q a w :=
  wpIn_region_any hm (by rw [hN]; exact anyIn_of_any hnd hL _ _ _ _ (wpAny_of_held _ _ _ _ (h hS)))
end Go.Proofs.YtnmkhoebijodhaaGreatDoor
