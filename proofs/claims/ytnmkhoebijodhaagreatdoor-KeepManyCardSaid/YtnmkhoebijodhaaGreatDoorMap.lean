/-
  Maps whose keys are places (structs of two ints), over any program: what a look-up, a store, a delete and len do to a block that is such a map. No program in sight.
-/
import Derived.Test.YtnmkhoebijodhaaGreatDoorBase
import Derived.Laws.StructEq
import Derived.ChangeMaps5
namespace Go.Proofs.YtnmkhoebijodhaaGreatDoor
open Go.RowKit

abbrev Sp := Int × Int
abbrev spV (s : Sp) : Value := .agg #[.int .i64 s.1, .int .i64 s.2]

/-- The type of the keys. -/
structure SpotKey (P : Program) (kt : TypeId) : Prop where
  str : ∃ fs, P.underlying kt = some (.struct fs)
  eq : ∀ (s t : Sp) (w : World), (Op.equal kt (spV s) (spV t)).run P w = .ok (s == t) w
  chk : ∀ (e : Bool) (s : Sp) (w : World), (Instr.checkKey e 10000 kt (spV s)).run P w = .ok () w

/-- What lies at a place. -/
def getS {α : Type} (s : Sp) : List (Sp × α) → Option α
  | [] => none
  | p :: l => if s = p.1 then some p.2 else getS s l
/-- Which entry is the place's. -/
def idxS {α : Type} (s : Sp) : List (Sp × α) → Option Nat
  | [] => none
  | p :: l => if s = p.1 then some 0 else (idxS s l).map (· + 1)
/-- The list with something else there. -/
def putS {α : Type} (s : Sp) (v : α) : List (Sp × α) → List (Sp × α)
  | [] => [(s, v)]
  | p :: l => if s = p.1 then (s, v) :: l else p :: putS s v l
/-- The list without the place. -/
def delS {α : Type} (s : Sp) : List (Sp × α) → List (Sp × α)
  | [] => []
  | p :: l => if s = p.1 then l else p :: delS s l

abbrev encS (p : Sp × Value) : Value × Value := (spV p.1, p.2)
abbrev prE (e : MapEntry) : Value × Value := (e.key, e.val)

/-- The entries' stamps rise, and stand below the clock. -/
def Stamp (es : List MapEntry) (clock : Nat) : Prop := es.Pairwise (fun a b => a.born < b.born) ∧ ∀ e ∈ es, e.born < clock

/-- Block b is a map of such entries. -/
def MapIs (w : World) (b : Nat) (l : List (Sp × Value)) : Prop :=
  ∃ es clock, w.heap[b]? = some (.map es clock) ∧ es.toList.map prE = l.map encS ∧ Stamp es.toList clock ∧ (l.map (·.1)).Nodup

section plain
variable {α : Type}
theorem getS_idx (s : Sp) : ∀ l : List (Sp × α), (getS s l).isSome = (idxS s l).isSome
  | [] => rfl
  | p :: l => by
    simp only [getS, idxS]
    split
    · rfl
    · rw [getS_idx s l]; cases idxS s l <;> rfl
theorem getS_none {s : Sp} : ∀ {l : List (Sp × α)}, getS s l = none ↔ s ∉ l.map (·.1)
  | [] => by simp [getS]
  | p :: l => by
    simp only [getS, List.map_cons, List.mem_cons, not_or]
    split
    · rename_i h; simp [h]
    · rename_i h; rw [getS_none (l := l)]; simp [h]
theorem getS_mem {s : Sp} {v : α} : ∀ {l : List (Sp × α)}, getS s l = some v → (s, v) ∈ l
  | [], h => by simp [getS] at h
  | p :: l, h => by
    simp only [getS] at h
    split at h
    · rename_i e
      cases h
      simp [e]
    · exact List.mem_cons_of_mem _ (getS_mem h)
theorem getS_of_mem {s : Sp} {v : α} : ∀ {l : List (Sp × α)}, (l.map (·.1)).Nodup → (s, v) ∈ l → getS s l = some v
  | [], _, h => by simp at h
  | p :: l, hn, h => by
    simp only [List.map_cons, List.nodup_cons] at hn
    simp only [getS]
    rcases List.mem_cons.1 h with rfl | h
    · simp
    · have hne : s ≠ p.1 := fun e => hn.1 (by rw [← e]; exact List.mem_map_of_mem (f := (·.1)) h)
      rw [if_neg hne]
      exact getS_of_mem hn.2 h
theorem getS_put (s t : Sp) (v : α) : ∀ l : List (Sp × α), getS t (putS s v l) = if t = s then some v else getS t l
  | [] => by simp [putS, getS]
  | p :: l => by
    simp only [putS]
    split
    · rename_i h
      simp only [getS]
      subst h
      split <;> rfl
    · rename_i h
      simp only [getS]
      split
      · rename_i h2
        have : t ≠ s := fun e => h (by rw [← e, h2])
        rw [if_neg this]
      · exact getS_put s t v l
theorem putS_keys (s : Sp) (v : α) : ∀ l : List (Sp × α), (putS s v l).map (·.1) = if s ∈ l.map (·.1) then l.map (·.1) else l.map (·.1) ++ [s]
  | [] => by simp [putS]
  | p :: l => by
    simp only [putS]
    split
    · rename_i h; simp [h]
    · rename_i h
      rw [List.map_cons, putS_keys s v l]
      simp only [List.map_cons, List.mem_cons, h, false_or]
      split <;> rfl
theorem putS_nodup {s : Sp} {v : α} {l : List (Sp × α)} (h : (l.map (·.1)).Nodup) : ((putS s v l).map (·.1)).Nodup := by
  rw [putS_keys]
  split
  · exact h
  · rename_i hn
    rw [List.nodup_append]
    exact ⟨h, by simp, fun a ha b hb => by rw [List.mem_singleton] at hb; subst hb; exact fun e => hn (e ▸ ha)⟩
theorem putS_length (s : Sp) (v : α) (l : List (Sp × α)) : (putS s v l).length = if (getS s l).isSome then l.length else l.length + 1 := by
  have h := congrArg List.length (putS_keys s v l)
  rw [List.length_map] at h
  rw [h]
  cases hg : getS s l with
  | none => rw [if_neg (getS_none.1 hg)]; simp
  | some x =>
    have hm : s ∈ l.map (·.1) := Classical.byContradiction fun hn => by rw [getS_none.2 hn] at hg; cases hg
    rw [if_pos hm]; simp
theorem delS_sub (s : Sp) : ∀ l : List (Sp × α), (delS s l).Sublist l
  | [] => by simp [delS]
  | p :: l => by
    simp only [delS]
    split
    · exact List.sublist_cons_self p l
    · exact (delS_sub s l).cons_cons p
theorem delS_nodup {s : Sp} {l : List (Sp × α)} (h : (l.map (·.1)).Nodup) : ((delS s l).map (·.1)).Nodup := h.sublist ((delS_sub s l).map _)
theorem getS_del {s : Sp} (t : Sp) : ∀ {l : List (Sp × α)}, (l.map (·.1)).Nodup → getS t (delS s l) = if t = s then none else getS t l
  | [], _ => by simp [delS, getS]
  | p :: l, hn => by
    simp only [List.map_cons, List.nodup_cons] at hn
    simp only [delS]
    split
    · rename_i h
      subst h
      simp only [getS]
      split
      · rename_i h2; rw [h2]; exact getS_none.2 hn.1
      · rfl
    · rename_i h
      simp only [getS]
      split
      · rename_i h2
        have : t ≠ s := fun e => h (by rw [← e, h2])
        rw [if_neg this]
      · exact getS_del t hn.2
theorem delS_length (s : Sp) : ∀ l : List (Sp × α), (delS s l).length = if (getS s l).isSome then l.length - 1 else l.length
  | [] => by simp [delS]
  | p :: l => by
    simp only [delS, getS]
    split
    · simp
    · rename_i h
      rw [List.length_cons, delS_length s l]
      cases hg : getS s l with
      | none => simp
      | some x =>
        have : 0 < l.length := by cases l with
          | nil => simp [getS] at hg
          | cons => simp
        simp
        omega

theorem map_idx {s : Sp} : ∀ {l : List (Sp × α)} {j : Nat}, idxS s l = some j → j < l.length ∧ (l.map (·.1))[j]? = some s
  | [], _, h => by simp [idxS] at h
  | p :: l, j, h => by
    simp only [idxS] at h
    split at h
    · rename_i e
      cases h
      simp [e]
    · cases hi : idxS s l with
      | none => simp [hi] at h
      | some i =>
        simp only [hi, Option.map_some, Option.some.injEq] at h
        subst h
        have := map_idx hi
        simpa using this

theorem put_some {s : Sp} {v : Value} : ∀ {l : List (Sp × Value)} {j : Nat}, idxS s l = some j → (putS s v l).map encS = (l.map encS).modify j fun _ => (spV s, v)
  | [], _, h => by simp [idxS] at h
  | p :: l, j, h => by
    simp only [idxS] at h
    simp only [putS]
    split at h
    · rename_i e
      cases h
      simp [e]
    · rename_i e
      cases hi : idxS s l with
      | none => simp [hi] at h
      | some i =>
        simp only [hi, Option.map_some, Option.some.injEq] at h
        subst h
        rw [if_neg e, List.map_cons, put_some hi]
        simp
theorem put_none {s : Sp} {v : α} : ∀ {l : List (Sp × α)}, idxS s l = none → putS s v l = l ++ [(s, v)]
  | [], _ => rfl
  | p :: l, h => by
    simp only [idxS] at h
    simp only [putS]
    split at h
    · cases h
    · rename_i e
      rw [if_neg e, put_none (l := l) (by simpa using h)]
      rfl
theorem del_some {s : Sp} : ∀ {l : List (Sp × α)} {j : Nat}, idxS s l = some j → delS s l = l.eraseIdx j
  | [], _, h => by simp [idxS] at h
  | p :: l, j, h => by
    simp only [idxS] at h
    simp only [delS]
    split at h
    · rename_i e
      cases h
      simp [e]
    · rename_i e
      cases hi : idxS s l with
      | none => simp [hi] at h
      | some i =>
        simp only [hi, Option.map_some, Option.some.injEq] at h
        subst h
        rw [if_neg e, del_some hi]
        simp
theorem del_none {s : Sp} : ∀ {l : List (Sp × α)}, idxS s l = none → delS s l = l
  | [], _ => rfl
  | p :: l, h => by
    simp only [idxS] at h
    simp only [delS]
    split at h
    · cases h
    · rename_i e
      rw [if_neg e, del_none (l := l) (by simpa using h)]

/-- The same list, the things spelt as values. -/
def valsOf (enc : α → Value) (l : List (Sp × α)) : List (Sp × Value) := l.map fun p => (p.1, enc p.2)
theorem getS_vals (enc : α → Value) (s : Sp) : ∀ l : List (Sp × α), getS s (valsOf enc l) = (getS s l).map enc
  | [] => rfl
  | p :: l => by
    simp only [valsOf, List.map_cons, getS]
    split
    · rfl
    · exact getS_vals enc s l
theorem putS_vals (enc : α → Value) (s : Sp) (x : α) : ∀ l : List (Sp × α), putS s (enc x) (valsOf enc l) = valsOf enc (putS s x l)
  | [] => rfl
  | p :: l => by
    simp only [valsOf, List.map_cons, putS]
    split
    · rfl
    · rw [List.map_cons]
      exact congrArg _ (putS_vals enc s x l)
theorem delS_vals (enc : α → Value) (s : Sp) : ∀ l : List (Sp × α), delS s (valsOf enc l) = valsOf enc (delS s l)
  | [] => rfl
  | p :: l => by
    simp only [valsOf, List.map_cons, delS]
    split
    · rfl
    · rw [List.map_cons]
      exact congrArg _ (delS_vals enc s l)
theorem vals_keys (enc : α → Value) (l : List (Sp × α)) : (valsOf enc l).map (·.1) = l.map (·.1) := by simp [valsOf, Function.comp_def]
theorem vals_length (enc : α → Value) (l : List (Sp × α)) : (valsOf enc l).length = l.length := by simp [valsOf]

theorem Stamp.modify {es : List MapEntry} {clock : Nat} (h : Stamp es clock) (j : Nat) (k v : Value) : Stamp (es.modify j fun e => { e with key := k, val := v }) clock := by
  have e : (es.modify j fun e => { e with key := k, val := v }).map (·.born) = es.map (·.born) := by
    apply List.ext_getElem?
    intro i
    simp only [List.getElem?_map, List.getElem?_modify]
    cases es[i]? with
    | none => simp
    | some x => by_cases hi : j = i <;> simp [hi]
  have h1 : (es.map (·.born)).Pairwise (· < ·) := List.pairwise_map.2 h.1
  have h2 : ∀ b ∈ es.map (·.born), b < clock := by
    intro b hb
    obtain ⟨x, hx, rfl⟩ := List.mem_map.1 hb
    exact h.2 x hx
  rw [← e] at h1 h2
  exact ⟨List.pairwise_map.1 h1, fun x hx => h2 _ (List.mem_map_of_mem (f := (·.born)) hx)⟩
theorem Stamp.push {es : List MapEntry} {clock : Nat} (h : Stamp es clock) (k v : Value) : Stamp (es ++ [{ key := k, val := v, born := clock }]) (clock + 1) := by
  refine ⟨List.pairwise_append.2 ⟨h.1, by simp, fun a ha b hb => ?_⟩, fun e he => ?_⟩
  · rw [List.mem_singleton] at hb
    subst hb
    exact h.2 a ha
  · rcases List.mem_append.1 he with he | he
    · exact Nat.lt_succ_of_lt (h.2 e he)
    · rw [List.mem_singleton] at he
      subst he
      exact Nat.lt_succ_self _
theorem Stamp.sub {es fs : List MapEntry} {clock : Nat} (h : Stamp es clock) (hs : fs.Sublist es) : Stamp fs clock := ⟨h.1.sublist hs, fun e he => h.2 e (hs.subset he)⟩
end plain

section runs
variable {P : Program} {kt : TypeId}

theorem run_findAsking (K : SpotKey P kt) (s : Sp) (w : World) : ∀ (es : List MapEntry) (l : List (Sp × Value)) (i : Nat), es.map prE = l.map encS →
    (Instr.findAsking kt (spV s) es i).run P w = .ok ((idxS s l).map fun j => (j + i, (getS s l).getD undef)) w
  | [], [], i, _ => by simp [Instr.findAsking, idxS]
  | [], _ :: _, _, h => by simp at h
  | _ :: _, [], _, h => by simp at h
  | e :: es, p :: l, i, h => by
    simp only [List.map_cons, List.cons.injEq, Prod.mk.injEq] at h
    obtain ⟨⟨h1, h2⟩, h3⟩ := h
    simp only [Instr.findAsking, Sem.run_bind, h1, K.eq, Result.andThen_ok]
    by_cases hs : s = p.1
    · subst hs
      simp [idxS, getS, h2]
    · have hb : (s == p.1) = false := by simpa using hs
      rw [hb]
      simp only [Bool.false_eq_true, if_false]
      rw [run_findAsking K s w es l (i + 1) h3]
      simp only [idxS, getS, if_neg hs, Option.map_map]
      congr 2
      funext j
      simp only [Function.comp, Prod.mk.injEq, and_true]
      omega

theorem run_findKey (K : SpotKey P kt) (s : Sp) (w : World) (es : List MapEntry) (l : List (Sp × Value)) (h : es.map prE = l.map encS) :
    (Instr.findKey kt (spV s) es).run P w = .ok ((idxS s l).map fun j => (j, (getS s l).getD undef)) w := by
  obtain ⟨fs, hfs⟩ := K.str
  have hn : Instr.findNow (.struct fs) (spV s) es 0 = (match es with | [] => some none | _ :: _ => none) := by
    cases es with
    | nil => rfl
    | cons e es => simp [Instr.findNow, Instr.sameNow]
  simp only [Instr.findKey, Sem.run_bind, run_underlying hfs, Result.andThen_ok, hn]
  cases es with
  | nil =>
    cases l with
    | nil => simp [idxS]
    | cons => simp at h
  | cons e es =>
    have := run_findAsking K s w (e :: es) l 0 h
    simpa using this

theorem run_getMap {w : World} {b : Nat} {es : Array MapEntry} {clock : Nat} (hb : w.heap[b]? = some (.map es clock)) : (getObj b).run P w = .ok (.map es clock) w := by
  simp only [getObj, Sem.run, hb]

variable {mt et : TypeId}
theorem run_look (K : SpotKey P kt) (hm : P.underlying mt = some (.map kt et)) {z : Value} (hz : ∀ w, (zeroValue et).run P w = .ok z w) {w : World} {b : Nat} {es : Array MapEntry} {clock : Nat} {l : List (Sp × Value)}
    (hb : w.heap[b]? = some (.map es clock)) (h : es.toList.map prE = l.map encS) (s : Sp) (ok : Bool) :
    (Instr.lookup mt (.map (some b)) (spV s) ok).run P w = .ok (if ok then .tuple #[(getS s l).getD z, .bool (getS s l).isSome] else (getS s l).getD z) w := by
  have hf := run_findKey K s w es.toList l h
  have hi := getS_idx s l
  simp only [Instr.lookup, Sem.run_bind, run_underlying hm, Result.andThen_ok, run_getMap hb, Sem.run_pure, K.chk, hf]
  cases hg : getS s l with
  | none =>
    rw [hg] at hi
    have : idxS s l = none := by simpa using hi.symm
    simp only [this, Option.map_none, Sem.run_bind, hz, Result.andThen_ok, Sem.run_pure]
    cases ok <;> rfl
  | some v =>
    rw [hg] at hi
    obtain ⟨j, hj⟩ := Option.isSome_iff_exists.1 hi.symm
    simp only [hj, Option.map_some]
    cases ok <;> rfl

theorem sameBits_sp (s : Sp) : Instr.sameBits 10000 (spV s) (spV s) = true := by
  simp [Instr.sameBits]

/-- What a store makes of the entries, and of the clock. -/
def putE (s : Sp) (v : Value) (l : List (Sp × Value)) (es : Array MapEntry) (clock : Nat) : Array MapEntry :=
  match idxS s l with
  | some j => es.modify j fun e => { e with key := spV s, val := v }
  | none => es.push { key := spV s, val := v, born := clock }
def putC (s : Sp) (l : List (Sp × Value)) (clock : Nat) : Nat := match idxS s l with
  | some _ => clock
  | none => clock + 1
def delE (s : Sp) (l : List (Sp × Value)) (es : Array MapEntry) : Array MapEntry :=
  match idxS s l with
  | some j => es.eraseIdxIfInBounds j
  | none => es

theorem run_setMap {w : World} {b : Nat} {es : Array MapEntry} {clock : Nat} (hb : w.heap[b]? = some (.map es clock)) (o : Obj) : (setObj b o).run P w = .ok () (ChangeMaps.setBlock w b o) := by
  simp only [setObj, Sem.run, hb]
  rfl

theorem run_put (K : SpotKey P kt) (hm : P.underlying mt = some (.map kt et)) {w : World} {b : Nat} {es : Array MapEntry} {clock : Nat} {l : List (Sp × Value)}
    (hb : w.heap[b]? = some (.map es clock)) (h : es.toList.map prE = l.map encS) (s : Sp) (v : Value) :
    (Instr.mapUpdate mt (.map (some b)) (spV s) v).run P w = .ok () (ChangeMaps.setBlock w b (.map (putE s v l es clock) (putC s l clock))) := by
  have hf := run_findKey K s w es.toList l h
  simp only [Instr.mapUpdate, Sem.run_bind, run_underlying hm, Result.andThen_ok, run_getMap hb, K.chk, hf, putE, putC]
  cases hg : idxS s l with
  | none =>
    simp only [Option.map_none]
    exact run_setMap hb _
  | some j =>
    simp only [Option.map_some, Sem.run_bind]
    have hj := map_idx hg
    have hkey : (((es[j]?).map (·.key)).getD (spV s)) = spV s := by
      have e1 := congrArg (fun x : List (Value × Value) => (x[j]?).map (·.1)) h
      simp only [List.getElem?_map, Option.map_map] at e1
      rw [← Array.getElem?_toList]
      have e2 : ((l[j]?).map ((·.1) ∘ encS)) = some (spV s) := by
        have := hj.2
        rw [List.getElem?_map] at this
        cases hl : l[j]? with
        | none => simp [hl] at this
        | some p =>
          simp only [hl, Option.map_some, Option.some.injEq] at this
          simp [this]
      rw [e2] at e1
      have e3 : (es.toList[j]?).map (·.key) = some (spV s) := e1
      rw [e3]
      rfl
    rw [hkey]
    simp only [Instr.keyThatStays, sameBits_sp, if_true, Sem.run_pure, Result.andThen_ok]
    exact run_setMap hb _

theorem put_prE (s : Sp) (v : Value) (l : List (Sp × Value)) (es : Array MapEntry) (clock : Nat) (h : es.toList.map prE = l.map encS) : (putE s v l es clock).toList.map prE = (putS s v l).map encS := by
  unfold putE
  cases hg : idxS s l with
  | none => simp [put_none hg, h]
  | some j =>
    rw [put_some hg, ← h]
    apply List.ext_getElem?
    intro i
    simp only [Array.toList_modify, List.getElem?_map, List.getElem?_modify]
    cases es.toList[i]? with
    | none => simp
    | some x => by_cases hi : j = i <;> simp [hi]

theorem put_stamp (s : Sp) (v : Value) (l : List (Sp × Value)) (es : Array MapEntry) (clock : Nat) (h : Stamp es.toList clock) : Stamp (putE s v l es clock).toList (putC s l clock) := by
  unfold putE putC
  cases hg : idxS s l with
  | none => simpa using h.push (spV s) v
  | some j => simpa using h.modify j (spV s) v

theorem run_del (K : SpotKey P kt) (hm : P.underlying mt = some (.map kt et)) (ty : TypeId) {w : World} {b : Nat} {es : Array MapEntry} {clock : Nat} {l : List (Sp × Value)}
    (hb : w.heap[b]? = some (.map es clock)) (h : es.toList.map prE = l.map encS) (s : Sp) (x : TypeId) :
    (Builtin.delete_ #[mt, x] ty #[.map (some b), spV s]).run P w = .ok (.tuple #[]) (ChangeMaps.setBlock w b (.map (delE s l es) clock)) := by
  have hf := run_findKey K s w es.toList l h
  simp only [Builtin.delete_, List.getElem?_toArray, List.getElem?_cons_zero, List.getElem?_cons_succ, Sem.run_bind, run_underlying hm, Result.andThen_ok, run_getMap hb, K.chk, hf, delE]
  cases hg : idxS s l with
  | none =>
    simp only [Option.map_none, Sem.run_bind, run_setMap hb, Result.andThen_ok, Sem.run_pure]
  | some j =>
    simp only [Option.map_some, Sem.run_bind, run_setMap hb, Result.andThen_ok, Sem.run_pure]

theorem del_prE (s : Sp) (l : List (Sp × Value)) (es : Array MapEntry) (h : es.toList.map prE = l.map encS) : (delE s l es).toList.map prE = (delS s l).map encS := by
  unfold delE
  cases hg : idxS s l with
  | none => rw [del_none hg]; exact h
  | some j =>
    have hj := (map_idx hg).1
    have hsz : j < es.size := by
      have := congrArg List.length h
      simp at this
      omega
    rw [del_some hg]
    simp only [Array.eraseIdxIfInBounds, hsz, dite_true, Array.toList_eraseIdx]
    rw [ChangeMaps.map_eraseIdx, h, ← ChangeMaps.map_eraseIdx]

theorem del_stamp (s : Sp) (l : List (Sp × Value)) (es : Array MapEntry) (clock : Nat) (h : Stamp es.toList clock) : Stamp (delE s l es).toList clock := by
  unfold delE
  cases hg : idxS s l with
  | none => exact h
  | some j =>
    simp only [Array.eraseIdxIfInBounds]
    split
    · rw [Array.toList_eraseIdx]
      exact h.sub (List.eraseIdx_sublist _ _)
    · exact h

theorem run_lenMap (hm : P.underlying mt = some (.map kt et)) (ty : TypeId) {w : World} {b : Nat} {es : Array MapEntry} {clock : Nat} {l : List (Sp × Value)}
    (hb : w.heap[b]? = some (.map es clock)) (h : es.toList.map prE = l.map encS) :
    (Builtin.len_ #[mt] ty #[.map (some b)]).run P w = .ok (.int .i64 (l.length : Int)) w := by
  have e : es.size = l.length := by
    have := congrArg List.length h
    simpa using this
  simp only [Builtin.len_, List.getElem?_toArray, List.getElem?_cons_zero, Sem.run_bind, run_underlying hm, Result.andThen_ok, run_getMap hb, Sem.run_pure, e]
  rfl
end runs

section blocks
theorem MapIs.put {w : World} {b : Nat} {l : List (Sp × Value)} {es : Array MapEntry} {clock : Nat} (hb : w.heap[b]? = some (.map es clock)) (h : es.toList.map prE = l.map encS) (hs : Stamp es.toList clock) (hn : (l.map (·.1)).Nodup) (s : Sp) (v : Value) :
    MapIs (ChangeMaps.setBlock w b (.map (putE s v l es clock) (putC s l clock))) b (putS s v l) :=
  ⟨_, _, ChangeMaps.heap_setBlock_same hb _, put_prE s v l es clock h, put_stamp s v l es clock hs, putS_nodup hn⟩
theorem MapIs.del {w : World} {b : Nat} {l : List (Sp × Value)} {es : Array MapEntry} {clock : Nat} (hb : w.heap[b]? = some (.map es clock)) (h : es.toList.map prE = l.map encS) (hs : Stamp es.toList clock) (hn : (l.map (·.1)).Nodup) (s : Sp) :
    MapIs (ChangeMaps.setBlock w b (.map (delE s l es) clock)) b (delS s l) :=
  ⟨_, _, ChangeMaps.heap_setBlock_same hb _, del_prE s l es h, del_stamp s l es clock hs, delS_nodup hn⟩
theorem Fr.setBlock {S : List Nat} {a w : World} {b : Nat} {es : Array MapEntry} {clock : Nat} (h : Fr S a w) (hb : w.heap[b]? = some (.map es clock)) (hS : b ∈ S ∨ a.heap.size ≤ b) (o : Obj) : Fr S a (ChangeMaps.setBlock w b o) :=
  ⟨h.os, h.tape, h.output, by simpa [ChangeMaps.setBlock] using h.size, fun k hk hn => (ChangeMaps.heap_setBlock_other hb o (by
    rintro rfl
    rcases hS with hS | hS
    · exact hn hS
    · omega)).trans (h.block k hk hn)⟩
theorem MapIs.fr {S : List Nat} {w w1 : World} {b : Nat} {l : List (Sp × Value)} (h : MapIs w b l) (hf : Fr S w w1) (hn : b ∉ S) : MapIs w1 b l := by
  obtain ⟨es, clock, hb, r⟩ := h
  exact ⟨es, clock, hf.heap hb hn, r⟩
theorem MapIs.made (w : World) : MapIs (w.alloc (.map #[] 0)) w.heap.size [] := ⟨#[], 0, heap_new _ _, rfl, ⟨by simp, by simp⟩, by simp⟩
theorem MapIs.lt {w : World} {b : Nat} {l : List (Sp × Value)} (h : MapIs w b l) : b < w.heap.size := by
  obtain ⟨es, clock, hb, _⟩ := h
  exact lt_of hb
end blocks

/-! ### the block's spelling, for the walk: simp takes '[b]?' apart, so it stands behind a name -/
def ob (w : World) (b : Nat) : Option Obj := w.heap[b]?
theorem ob_alloc {w : World} (o : Obj) (n : Nat) (hn : n < w.heap.size) : ob (w.alloc o) n = ob w n := Below.heap_alloc w o n hn
theorem ob_alloc2 {w : World} (o1 o2 : Obj) (n : Nat) (hn : n < w.heap.size) : ob ((w.alloc o1).alloc o2) n = ob w n := (ob_alloc o2 n (by simp; omega)).trans (ob_alloc o1 n hn)
theorem ob_alloc3 {w : World} (o1 o2 o3 : Obj) (n : Nat) (hn : n < w.heap.size) : ob (((w.alloc o1).alloc o2).alloc o3) n = ob w n := (ob_alloc o3 n (by simp; omega)).trans (ob_alloc2 o1 o2 n hn)
theorem ob_alloc4 {w : World} (o1 o2 o3 o4 : Obj) (n : Nat) (hn : n < w.heap.size) : ob ((((w.alloc o1).alloc o2).alloc o3).alloc o4) n = ob w n := (ob_alloc o4 n (by simp; omega)).trans (ob_alloc3 o1 o2 o3 n hn)
theorem ob_drew (w : World) (n : Nat) : ob w.drew n = ob w n := rfl
theorem ob_drewN (w : World) (k n : Nat) : ob (w.drewN k) n = ob w n := rfl
theorem ob_setCell {w : World} (a : Addr) (v : Value) (n : Nat) (hn : ¬ n = a.block) : ob (w.setCell a v) n = ob w n := Below.heap_setCell w a v n hn

end Go.Proofs.YtnmkhoebijodhaaGreatDoor
