/- The engine's rules for maps: the call's own map in one block; its entries as a list. Proved once, over any program. -/
import Derived.Test.YtfapphlhkfddoaaGreatDoorEqual
import Derived.Maps.RangeRun
import Derived.Laws.Slices
import Derived.Laws.Strings2
import Derived.Laws.OwnMore
import Derived.Scope
import Derived.ChangeArms
import Derived.RowKit
import Derived.OpenShut
import Derived.Test.YtfapphlhkfddoaaGreatDoorChecked
import Derived.WalkKit
import Derived.KernelRfl
set_option linter.unusedVariables false
set_option linter.unusedSectionVars false
set_option linter.unusedSimpArgs false
namespace Go.Eng
open Go.RowKit
set_option linter.unusedSectionVars false
variable [Inhabited Keep] [Inhabited Hard]

/-- A kind of keys, and how the machine compares them. -/
structure MKey (P : Program) (kt : TypeId) {α : Type} [DecidableEq α] (enc : α → Value) : Prop where
  check : ∀ em a w, (Instr.checkKey em 10000 kt (enc a)).run P w = .ok () w
  eq : ∀ a b w, (Op.equal kt (enc a) (enc b)).run P w = .ok (decide (a = b)) w
  desc : ∃ d, P.underlying kt = some d ∧ ((∀ a b, Instr.sameNow d (enc a) (enc b) = some (decide (a = b))) ∨ ∀ a b, Instr.sameNow d (enc a) (enc b) = none)
  stays : ∀ a, Instr.sameBits 10000 (enc a) (enc a) = true

/-! ### What is a key, reckoned -/
def keyFs (P : Program) (ck : TypeId → Value → Bool) (xs : List Value) : List Field → Bool
  | [] => true
  | f :: fs => match (f.name == "_") with
    | true => false
    | false => match partB P f.type xs f.offset with
      | some a => ck f.type a && keyFs P ck xs fs
      | none => false
def keyB (P : Program) : Nat → TypeId → Value → Bool
  | 0, _, _ => false
  | d + 1, t, v => match P.underlying t, v with
    | some .bool, .bool _ => true
    | some (.int _), .int _ _ => true
    | some .string, .string _ => true
    | some (.struct fs), .agg xs => keyFs P (keyB P d) xs.toList fs.toList
    | _, _ => false
theorem run_keyB {P : Program} {w : World} {em : Bool} : ∀ (d D : Nat) (t : TypeId) (v : Value), d ≤ D → keyB P d t v = true → (Instr.checkKey em D t v).run P w = .ok () w := by
  intro d
  induction d with
  | zero => intro D t v _ h; simp [keyB] at h
  | succ d ih =>
    intro D t v hD h
    obtain ⟨D, rfl⟩ : ∃ D', D = D' + 1 := ⟨D - 1, by omega⟩
    unfold keyB at h
    split at h
    · rename_i hu; unfold Instr.checkKey; rw [Sem.run_bind, run_underlying hu]; rfl
    · rename_i hu; unfold Instr.checkKey; rw [Sem.run_bind, run_underlying hu]; rfl
    · rename_i hu; unfold Instr.checkKey; rw [Sem.run_bind, run_underlying hu]; rfl
    · rename_i fs xs hu
      unfold Instr.checkKey
      rw [Sem.run_bind, run_underlying hu]
      simp only [Result.andThen_ok]
      have key : ∀ (l : List Field), keyFs P (keyB P d) xs.toList l = true → (forIn l PUnit.unit (fun f r => do
          if f.name ≠ "_" then do
            Instr.checkKey em D f.type (← part f.type xs f.offset)
            pure (ForInStep.yield PUnit.unit)
          else pure (ForInStep.yield PUnit.unit)) : Sem PUnit).run P w = .ok PUnit.unit w := by
        intro l
        induction l with
        | nil => intro _; rfl
        | cons f l ihl =>
          intro h
          simp only [keyFs] at h
          split at h
          · cases h
          · rename_i hn
            have hn' : f.name ≠ "_" := by simpa using hn
            split at h
            · rename_i a ha
              simp only [Bool.and_eq_true] at h
              have e := ih D _ _ (by omega) h.1
              rw [List.forIn_cons]
              simp only [if_pos hn', Sem.run_bind, run_part ha, e, Result.andThen_ok, Sem.run_pure]
              exact ihl h.2
            · cases h
      have := key fs.toList h
      simp only [← Array.forIn_toList]
      rw [Sem.run_bind, this]; rfl
    · cases h

/-! ### Entries -/
section
variable {α : Type} [DecidableEq α]
def getA {β : Type} (a : α) : List (α × β) → Option β
  | [] => none
  | p :: r => if a = p.1 then some p.2 else getA a r
def putA {β : Type} (a : α) (v : β) : List (α × β) → List (α × β)
  | [] => [(a, v)]
  | p :: r => if a = p.1 then (a, v) :: r else p :: putA a v r
def findAt (a : α) : List (α × Value) → Nat → Option (Nat × Value)
  | [], _ => none
  | p :: r, i => if a = p.1 then some (i, p.2) else findAt a r (i + 1)
def entsL (enc : α → Value) (es : List MapEntry) (l : List (α × Value)) : Prop := es.map (fun e => (e.key, e.val)) = l.map fun p => (enc p.1, p.2)
def mapOk (enc : α → Value) (l : List (α × Value)) (o : Obj) : Prop := ∃ es cl, o = .map es cl ∧ entsL enc es.toList l ∧ (es.toList.map (·.born)).Nodup ∧ ∀ e ∈ es.toList, e.born < cl

theorem find_get {a : α} : ∀ {l : List (α × Value)} {i : Nat}, (findAt a l i).map (·.2) = getA a l := by
  intro l
  induction l with
  | nil => intro i; rfl
  | cons p r ih => intro i; simp only [findAt, getA]; split <;> simp [ih]

theorem run_findKey {P : Program} {kt : TypeId} {enc : α → Value} (K : MKey P kt enc) (a : α) (es : List MapEntry) (l : List (α × Value)) (h : entsL enc es l) (w : World) : (Instr.findKey kt (enc a) es).run P w = .ok (findAt a l 0) w := by
  have key : ∀ (es : List MapEntry) (l : List (α × Value)) (i : Nat), entsL enc es l → (Instr.findAsking kt (enc a) es i).run P w = .ok (findAt a l i) w := by
    intro es
    induction es with
    | nil => intro l i h; cases l with
      | nil => rfl
      | cons p l => simp [entsL] at h
    | cons e es ih =>
      intro l i h
      cases l with
      | nil => simp [entsL] at h
      | cons p l =>
        simp only [entsL, List.map_cons, List.cons.injEq, Prod.mk.injEq] at h
        obtain ⟨⟨h1, h2⟩, h3⟩ := h
        simp only [Instr.findAsking, findAt]
        rw [h1]
        simp only [Sem.run_bind, K.eq, Result.andThen_ok]
        by_cases e' : a = p.1
        · simp [e', h2]
        · simp only [e', decide_false, Bool.false_eq_true, if_false]
          exact ih l (i + 1) h3
  obtain ⟨d, hd, hn⟩ := K.desc
  unfold Instr.findKey
  simp only [Sem.run_bind, run_underlying hd, Result.andThen_ok]
  rcases hn with hn | hn
  · have now : ∀ (es : List MapEntry) (l : List (α × Value)) (i : Nat), entsL enc es l → Instr.findNow d (enc a) es i = some (findAt a l i) := by
      intro es
      induction es with
      | nil => intro l i h; cases l with
        | nil => rfl
        | cons p l => simp [entsL] at h
      | cons e es ih =>
        intro l i h
        cases l with
        | nil => simp [entsL] at h
        | cons p l =>
          simp only [entsL, List.map_cons, List.cons.injEq, Prod.mk.injEq] at h
          obtain ⟨⟨h1, h2⟩, h3⟩ := h
          simp only [Instr.findNow, findAt]
          rw [h1, hn]
          by_cases e' : a = p.1
          · simp [e', h2]
          · simp only [e', decide_false, if_false]
            exact ih l (i + 1) h3
    rw [now es l 0 h]; rfl
  · cases es with
    | nil => cases l with
      | nil => rfl
      | cons p l => simp [entsL] at h
    | cons e es =>
      have : Instr.findNow d (enc a) (e :: es) 0 = none := by
        cases l with
        | nil => simp [entsL] at h
        | cons p l =>
          simp only [entsL, List.map_cons, List.cons.injEq, Prod.mk.injEq] at h
          simp only [Instr.findNow]
          rw [h.1.1, hn]
      rw [this]
      exact key _ _ 0 h

theorem find_some {a : α} {i : Nat} {u v : Value} : ∀ {l : List (α × Value)} {k : Nat}, findAt a l k = some (i, u) → ∃ j, i = k + j ∧ l[j]? = some (a, u) ∧ putA a v l = l.set j (a, v) := by
  intro l
  induction l with
  | nil => intro k h; simp [findAt] at h
  | cons p r ih =>
    intro k h
    simp only [findAt] at h
    split at h
    · rename_i e
      cases h
      refine ⟨0, rfl, ?_, ?_⟩
      · simp [e]
      · simp [putA, e]
    · rename_i e
      obtain ⟨j, h1, h2, h3⟩ := ih h
      exact ⟨j + 1, by omega, by simpa using h2, by simp [putA, e, h3]⟩
theorem find_none {a : α} {v : Value} : ∀ {l : List (α × Value)} {k : Nat}, findAt a l k = none → putA a v l = l ++ [(a, v)] := by
  intro l
  induction l with
  | nil => intro k _; rfl
  | cons p r ih =>
    intro k h
    simp only [findAt] at h
    split at h
    · cases h
    · rename_i e
      simp [putA, e, ih h]
end

def mapB (P : Program) (t : TypeId) : Option (TypeId × TypeId) := match P.underlying t with | some (.map k e) => some (k, e) | _ => none
theorem run_underlying_map {P : Program} {w : World} {t k e : TypeId} (h : mapB P t = some (k, e)) : (underlying t).run P w = .ok (.map k e) w := by
  unfold mapB at h
  split at h
  · rename_i hu; cases h; exact run_underlying hu w
  · cases h

section
variable {P : Program} {w w0 : World} {K : Value → World → Prop} {g : Bool} {ok : Nat → Prop} {L : List Item} {α : Type} [DecidableEq α] {enc : α → Value} {l : List (α × Value)}

theorem run_getObj {b : Nat} {es : Array MapEntry} {cl : Nat} (h : w.heap[b]? = some (.map es cl)) : (getObj b).run P w = .ok (.map es cl) w := by simp [getObj, Sem.run, h]
theorem run_setObj {b : Nat} {es : Array MapEntry} {cl : Nat} {o' : Obj} (h : w.heap[b]? = some (.map es cl)) : (Go.setObj b o').run P w = .ok () (w.putObj b o') := by simp [Go.setObj, Sem.run, h, World.putObj]

theorem makeMap_rule {t : TypeId} (H : Own ok w0 w L) (hk : ∀ b w', Own ok w0 w' (.obj b (mapOk enc []) :: L) → K (.map (some b)) w') : nMakeMap P true t none w K := by
  unfold nMakeMap
  refine nOp_in ⟨fun _ => ?_, fun h => by cases h⟩
  rw [sv_run (v := .map (some w.heap.size)) (w' := w.alloc (.map #[] 0))]
  · exact hk _ _ (H.allocObj _ ⟨#[], 0, rfl, rfl, List.nodup_nil, fun e he => by simp at he⟩)
  · simp [Instr.makeMap, run_newObj_alloc]

theorem lookup_run {t kt et : TypeId} {z : Value} (ht : mapB P t = some (kt, et)) (hz : zeroB P et = some z) (KK : MKey P kt enc) (a : α) (H : Own ok w0 w L) (i : Nat) {b : Nat} (hi : L[i]? = some (.obj b (mapOk enc l))) (two : Bool) :
    (Instr.lookup t (.map (some b)) (enc a) two).run P w = .ok (match two with | true => .tuple #[(getA a l).getD z, .bool (getA a l).isSome] | false => (getA a l).getD z) w := by
  obtain ⟨o, ho, es, cl, rfl, he, _, _⟩ := H.obj i hi
  have hf := run_findKey KK a es.toList l he w
  have hg := find_get (a := a) (l := l) (i := 0)
  unfold Instr.lookup
  simp only [Sem.run_bind, run_underlying_map ht, Result.andThen_ok, run_getObj ho, Sem.run_pure, KK.check, hf]
  cases hr : findAt a l 0 with
  | none =>
    rw [hr] at hg
    simp only [Option.map_none] at hg
    simp only [Sem.run_bind, run_zero hz, Result.andThen_ok, Sem.run_pure, ← hg]
    cases two <;> rfl
  | some p =>
    rw [hr] at hg
    simp only [Option.map_some] at hg
    simp only [Sem.run_pure, Result.andThen_ok, ← hg]
    cases two <;> rfl
theorem lookup_rule {t kt et : TypeId} {z : Value} (ht : mapB P t = some (kt, et)) (hz : zeroB P et = some z) (KK : MKey P kt enc) (a : α) (H : Own ok w0 w L) (i : Nat) {b : Nat} (hi : L[i]? = some (.obj b (mapOk enc l))) (hk : K ((getA a l).getD z) w) : nLookup P g t (.map (some b)) (enc a) false w K := by
  unfold nLookup
  exact nOp_now (fun _ => sv_run (lookup_run ht hz KK a H i hi false)) hk
theorem lookup_rule2 {t kt et : TypeId} {z : Value} (ht : mapB P t = some (kt, et)) (hz : zeroB P et = some z) (KK : MKey P kt enc) (a : α) (H : Own ok w0 w L) (i : Nat) {b : Nat} (hi : L[i]? = some (.obj b (mapOk enc l))) (hk : K (.tuple #[(getA a l).getD z, .bool (getA a l).isSome]) w) : nLookup P g t (.map (some b)) (enc a) true w K := by
  unfold nLookup
  exact nOp_now (fun _ => sv_run (lookup_run ht hz KK a H i hi true)) hk
theorem Own.setObjAt (H : Own ok w0 w L) (i : Nat) {b : Nat} {φ ψ : Obj → Prop} (hi : L[i]? = some (.obj b φ)) (o : Obj) (ho : ψ o) : Own ok w0 (w.putObj b o) (L.set i (.obj b ψ)) := by
  obtain ⟨A, B, e, hs⟩ := list_split hi
  rw [hs]
  rw [e] at H
  exact H.putObj o ho

theorem mapUpdate_run {t kt et : TypeId} (ht : mapB P t = some (kt, et)) (KK : MKey P kt enc) (a : α) (v : Value) (H : Own ok w0 w L) (i : Nat) {b : Nat} (hi : L[i]? = some (.obj b (mapOk enc l))) :
    ∃ w', (Instr.mapUpdate t (.map (some b)) (enc a) v).run P w = .ok () w' ∧ Own ok w0 w' (L.set i (.obj b (mapOk enc (putA a v l)))) := by
  obtain ⟨o, ho, es, cl, rfl, he, hnd, hlt⟩ := H.obj i hi
  have hf := run_findKey KK a es.toList l he w
  have e1 : (Instr.mapUpdate t (.map (some b)) (enc a) v).run P w = ((match findAt a l 0 with
      | some (j, _) => do
        let key ← Instr.keyThatStays (((es[j]?).map (·.key)).getD (enc a)) (enc a)
        Go.setObj b (.map (es.modify j fun e => { e with key, val := v }) cl)
      | none => Go.setObj b (.map (es.push { key := enc a, val := v, born := cl }) (cl + 1))) : Sem Unit).run P w := by
    unfold Instr.mapUpdate
    simp only [Sem.run_bind, run_underlying_map ht, Result.andThen_ok, run_getObj ho, KK.check, hf]
    rfl
  rw [e1]
  cases hr : findAt a l 0 with
  | none =>
    refine ⟨_, run_setObj ho, H.setObjAt i hi _ ⟨_, _, rfl, ?_, ?_, ?_⟩⟩
    · rw [find_none hr]
      simp only [entsL, Array.toList_push, List.map_append, List.map_cons, List.map_nil]
      rw [show es.toList.map (fun e => (e.key, e.val)) = _ from he]
    · simp only [Array.toList_push, List.map_append, List.map_cons, List.map_nil]
      refine List.nodup_append.2 ⟨hnd, by simp, fun x hx y hy => ?_⟩
      obtain ⟨e, hem, rfl⟩ := List.mem_map.1 hx
      have := hlt e hem
      simp at hy
      omega
    · intro e hem
      simp only [Array.toList_push, List.mem_append, List.mem_singleton] at hem
      rcases hem with k | k
      · have := hlt e k; omega
      · subst k; simp
  | some p =>
    obtain ⟨j, u⟩ := p
    obtain ⟨j', hj, hl, hput⟩ := find_some (v := v) hr
    have : j = j' := by omega
    subst this
    have hlen : es.toList.length = l.length := by have := congrArg List.length he; simpa using this
    have hjl : j < l.length := (List.getElem?_eq_some_iff.1 hl).1
    have hje : j < es.size := by rw [← Array.length_toList, hlen]; exact hjl
    have hkey : es[j].key = enc a := by
      have h1 : (es.toList.map (fun e => (e.key, e.val)))[j]? = some (es[j].key, es[j].val) := by simp [hje]
      have h2 : (l.map fun p => (enc p.1, p.2))[j]? = some (enc a, u) := by simp [hl]
      rw [show es.toList.map (fun e => (e.key, e.val)) = _ from he, h2] at h1
      exact (congrArg Prod.fst (Option.some.inj h1)).symm
    have e2 : (((es[j]?).map (·.key)).getD (enc a)) = enc a := by rw [Array.getElem?_eq_getElem hje]; exact hkey
    have hst : (Instr.keyThatStays (enc a) (enc a)).run P w = .ok (enc a) w := by simp [Instr.keyThatStays, KK.stays]
    refine ⟨_, by simp only [e2, Sem.run_bind, hst, Result.andThen_ok]; exact run_setObj ho, H.setObjAt i hi _ ⟨_, _, rfl, ?_, ?_, ?_⟩⟩
    · rw [hput]
      have : (es.modify j fun e => { e with key := enc a, val := v }).toList = es.toList.set j { es[j] with key := enc a, val := v } := by
        rw [Array.toList_modify]
        apply List.ext_getElem?
        intro k
        rw [List.getElem?_modify, List.getElem?_set]
        by_cases hk : j = k
        · subst hk; simp [hje]
        · simp [hk]
      rw [this]
      simp only [entsL, List.map_set]
      rw [show es.toList.map (fun e => (e.key, e.val)) = _ from he]
    · have : (es.modify j fun e => { e with key := enc a, val := v }).toList.map (·.born) = es.toList.map (·.born) := by
        rw [Array.toList_modify]
        apply List.ext_getElem?
        intro k
        rw [List.getElem?_map, List.getElem?_map, List.getElem?_modify]
        by_cases hk : j = k
        · subst hk; simp [hje]
        · simp [hk]
      rw [this]; exact hnd
    · intro e hem
      rw [Array.toList_modify] at hem
      obtain ⟨k, hk⟩ := List.mem_iff_getElem?.1 hem
      rw [List.getElem?_modify] at hk
      by_cases hjk : j = k
      · subst hjk
        simp [hje] at hk
        subst hk
        exact hlt es[j] (by simp)
      · simp only [hjk, if_false, Option.map_id_fun, id_eq] at hk
        exact hlt e (List.mem_of_getElem? (by simpa using hk))
theorem mapUpdate_rule {t kt et : TypeId} (ht : mapB P t = some (kt, et)) (KK : MKey P kt enc) (a : α) (v : Value) (H : Own ok w0 w L) (i : Nat) {b : Nat} (hi : L[i]? = some (.obj b (mapOk enc l))) (hk : ∀ w', Own ok w0 w' (L.set i (.obj b (mapOk enc (putA a v l)))) → K undef w') : nMapUpdate P true t (.map (some b)) (enc a) v w K := by
  unfold nMapUpdate
  refine nOp_in ⟨fun _ => ?_, fun h => by cases h⟩
  obtain ⟨w', hr, H'⟩ := mapUpdate_run ht KK a v H i hi
  rw [su_run hr]
  exact hk _ H'
theorem c_mapUpdate {t kt et : TypeId} {KE : Value → List Item → Prop} (ht : mapB P t = some (kt, et)) (KK : MKey P kt enc) (a : α) (v : Value) (i : Nat) {b : Nat} (hi : L[i]? = some (.obj b (mapOk enc l))) (hk : KE undef (L.set i (.obj b (mapOk enc (putA a v l))))) : cMapUpdate P true t (.map (some b)) (enc a) v ok w0 L KE := by
  unfold cMapUpdate
  refine cEv_in ⟨fun u L' => u = undef ∧ L' = L.set i (.obj b (mapOk enc (putA a v l))), fun h => (by cases h), fun w H => ⟨fun _ => ?_, fun h => by cases h⟩, fun u L' h _ => by rw [h.1, h.2]; exact hk⟩
  obtain ⟨w', hr, H'⟩ := mapUpdate_run ht KK a v H i hi
  rw [su_run hr]
  exact ⟨_, ⟨rfl, rfl⟩, H'⟩
end

/-! ### A range over a map -/
/-- Where a range over a map stands: what is still to come. -/
structure ItOk {α : Type} (enc : α → Value) (es : Array MapEntry) (cl : Nat) (seen : Array Nat) (rest : List (α × Value)) : Prop where
  nd : (es.toList.map (·.born)).Nodup
  lt : ∀ e ∈ es.toList, e.born < cl
  rest : entsL enc (leftOf es seen).toList rest

section
variable {P : Program} {w w0 : World} {K : Value → World → Prop} {g : Bool} {ok : Nat → Prop} {L : List Item} {α : Type} {enc : α → Value} {l : List (α × Value)}

end
end Go.Eng
/- The engine's rules for pieces of lists and texts (x[l:h]), over any program. -/
set_option linter.unusedVariables false
namespace Go.Eng
open Go.RowKit
set_option linter.unusedSectionVars false
variable [Inhabited Keep] [Inhabited Hard]

/-- A bound that is left out, or a number. -/
def atLo : Option Value → Nat → Prop
  | none, l => l = 0
  | some v, l => ∃ k, v = .int k (l : Int)
def atHi : Option Value → Nat → Nat → Prop
  | none, n, h => h = n
  | some v, _, h => ∃ k, v = .int k (h : Int)
/-- The piece of a slice. -/
def piece (A : Option Addr) (c l h sz : Nat) : Value := .slice (if c = l then A else A.map (·.add (l * sz))) (h - l) (c - l)

section
variable {P : Program} {w w0 : World} {K : Value → World → Prop} {KF : Value → Prop} {g : Bool} {ok : Nat → Prop} {L : List Item}

theorem piece_run {t e : TypeId} {sz n c l h : Nat} {A : Option Addr} {lo hi : Option Value} (ht : sliceB P t = some e) (hs : sizeB P e = some sz) (hlo : atLo lo l) (hhi : atHi hi n h) (h1 : l ≤ h) (h2 : h ≤ c) (h3 : hi = none → l ≤ n) :
    (Instr.sliceAt t (.slice A n c) lo hi none).run P w = .ok (piece A c l h sz) w := by
  have hu : P.underlying t = some (.slice e) := by
    unfold sliceB at ht
    split at ht
    · rename_i hu; cases ht; exact hu
    · cases ht
  have he : P.elem t = e := by simp [Program.elem, hu]
  have hu' : P.underlying t = some (.slice (P.elem t)) := by rw [he]; exact hu
  rw [run_sliceAt_slice w t _ _ _ _ hu']
  cases lo with
  | none =>
    have h0 : l = 0 := hlo
    subst h0
    cases hi with
    | none =>
      have hn : h = n := hhi
      subst hn
      rw [run_slice_all w t A h c hu', he]
      simp only [run_sizeOf hs, Result.andThen_ok]; rfl
    | some v =>
      obtain ⟨k, rfl⟩ := hhi
      rw [run_slice_h w t A n c hu' k (h : Int) (by omega) (by omega), he]
      simp only [run_sizeOf hs, Result.andThen_ok, Int.toNat_natCast]; rfl
  | some u =>
    obtain ⟨k, rfl⟩ := hlo
    cases hi with
    | none =>
      have hn : h = n := hhi
      subst hn
      rw [run_slice_l w t A h c hu' k (l : Int) (by omega) (by omega), he]
      simp only [run_sizeOf hs, Result.andThen_ok, Int.toNat_natCast]; rfl
    | some v =>
      obtain ⟨k', rfl⟩ := hhi
      rw [run_slice_lh w t A n c hu' k k' (l : Int) (h : Int) (by omega) (by omega) (by omega), he]
      simp only [run_sizeOf hs, Result.andThen_ok, Int.toNat_natCast]; rfl
theorem piece_rule {t e : TypeId} {n c : Nat} {A : Option Addr} {lo hi : Option Value} (sz l h : Nat) (ht : sliceB P t = some e) (hs : sizeB P e = some sz) (hlo : atLo lo l) (hhi : atHi hi n h) (h1 : g = true → l ≤ h) (h2 : g = true → h ≤ n) (h3 : n ≤ c) (hk : K (piece A c l h sz) w) : nSlice P g t (.slice A n c) lo hi none w K := by
  unfold nSlice
  exact nOp_now (fun hg => sv_run (piece_run ht hs hlo hhi (h1 hg) (by have := h2 hg; omega) (fun _ => by have := h1 hg; have := h2 hg; omega))) hk
theorem c_piece {C : World → Prop} {t e : TypeId} {n c : Nat} {A : Option Addr} {lo hi : Option Value} (sz l h : Nat) (ht : sliceB P t = some e) (hs : sizeB P e = some sz) (hlo : atLo lo l) (hhi : atHi hi n h) (h1 : g = true → l ≤ h) (h2 : g = true → h ≤ n) (h3 : n ≤ c) (hk : KF (piece A c l h sz)) : cSlice P g t (.slice A n c) lo hi none C KF := by
  unfold cSlice
  exact cFloat_in _ (fun hg w _ => sv_run (piece_run ht hs hlo hhi (h1 hg) (by have := h2 hg; omega) (fun _ => by have := h1 hg; have := h2 hg; omega))) hk

/-- A piece of a list that is there. -/
theorem slR_piece {α : Type} {k : Ty α} {A : Option Addr} {c : Nat} {xs : List α} {l h : Nat} (hx : slR k w ok (.slice A xs.length c) xs) (h1 : l ≤ h) (h2 : h ≤ xs.length) : slR k w ok (piece A c l h k.sz) ((xs.drop l).take (h - l)) := by
  obtain ⟨A', c', hv, hc, hr⟩ := hx
  cases hv
  have hlen : ((xs.drop l).take (h - l)).length = h - l := by rw [List.length_take, List.length_drop]; omega
  rcases hr with ⟨h0, hn⟩ | ⟨a, ha, h3, h4, h5⟩
  · subst h0
    have hl0 : l = 0 := by simp at h2; omega
    have hh0 : h = 0 := by simpa using h2
    subst hl0 hh0
    refine ⟨if c = 0 then A else A.map (·.add 0), c, by simp [piece], Nat.zero_le _, .inl ⟨by simp, fun he => ?_⟩⟩
    by_cases hc0 : c = 0
    · exact hc0
    · rw [if_neg hc0] at he
      exact hn (by cases A <;> simp_all)
  · subst ha
    refine ⟨if c = l then some a else some (a.add (l * k.sz)), c - l, by unfold piece; rw [hlen]; rfl, by rw [hlen]; omega, ?_⟩
    by_cases hcl : c = l
    · rw [if_pos hcl]
      left
      refine ⟨List.eq_nil_of_length_eq_zero (by rw [hlen]; omega), fun he => by cases he⟩
    · rw [if_neg hcl]
      refine .inr ⟨_, rfl, by rw [add_block]; exact h3, by rw [add_block]; exact h4, fun j x hj => ?_⟩
      rw [List.getElem?_take] at hj
      split at hj
      · rw [List.getElem?_drop] at hj
        obtain ⟨cs, q1, q2⟩ := h5 _ x hj
        refine ⟨cs, q1, ?_⟩
        rw [add_add, ← Nat.add_mul]
        exact q2
      · cases hj
theorem Own.addPiece {α : Type} {k : Ty α} {A : Option Addr} {c : Nat} {xs : List α} {l h : Nat} (H : Own ok w0 w L) (i : Nat) (hi : L[i]? = some (.dat (dSl k (.slice A xs.length c) xs))) (h1 : l ≤ h) (h2 : h ≤ xs.length) : Own ok w0 w (.dat (dSl k (piece A c l h k.sz) ((xs.drop l).take (h - l))) :: L) :=
  H.addDat _ (slR_piece (H.dat i hi) h1 h2)

/-- A piece of an own row takes its place. -/
theorem qRow_piece {e : TypeId} {sz n c : Nat} {A : Option Addr} {xs : List Value} {l h : Nat} (hx : qRow w e sz (.slice A n c) n xs) (h1 : l ≤ h) (h2 : h ≤ n) : qRow w e sz (piece A c l h sz) (h - l) ((xs.drop (l * sz)).take ((h - l) * sz)) := by
  have hm : h * sz ≤ n * sz := Nat.mul_le_mul_right _ h2
  have hm2 : l * sz ≤ h * sz := Nat.mul_le_mul_right _ h1
  have hsub : (h - l) * sz = h * sz - l * sz := Nat.sub_mul _ _ _
  refine ⟨by rw [List.length_take, List.length_drop, hx.1]; omega, ?_⟩
  rcases hx.2 with ⟨h0, A', hv, hA⟩ | ⟨q, off, cap, cur, hv, hg, hnc, hcm, hcs, ht⟩
  · injection hv with e1 e2 e3
    subst e1 e3
    have hl0 : l = 0 := by omega
    have hh0 : h = 0 := by omega
    subst hl0 hh0
    exact .inl ⟨rfl, A, by simp [piece], hA⟩
  · injection hv with e1 e2 e3
    subst e1 e3
    by_cases hcl : c = l
    · refine .inl ⟨by omega, some ⟨q, off * sz, none⟩, ?_, fun a ha => ?_⟩
      · unfold piece; rw [if_pos hcl, show h - l = 0 by omega, show c - l = 0 by omega]
      · cases ha; exact ⟨rfl, cur, hg⟩
    · refine .inr ⟨q, off + l, c - l, cur, ?_, hg, by omega, by omega, by rw [hcs]; congr 1; omega, ?_⟩
      · unfold piece; rw [if_neg hcl, Option.map_some, add_at, Nat.add_mul]
      · rw [← ht, List.drop_take, List.take_take, List.drop_drop, Nat.add_mul]
        congr 1
        omega
theorem piece_block (A : Option Addr) (c l h sz : Nat) : (piece A c l h sz).ownBlock = (Value.slice A 0 0).ownBlock := by
  unfold piece
  split
  · cases A <;> rfl
  · cases A with
    | none => rfl
    | some a => simp [Value.ownBlock, add_block]
theorem Own.rowPiece {e : TypeId} {sz n c : Nat} {A : Option Addr} {xs : List Value} {l h : Nat} (H : Own ok w0 w L) (i : Nat) (hi : L[i]? = some (.row (.slice A n c) e sz n xs)) (h1 : l ≤ h) (h2 : h ≤ n) : Own ok w0 w (L.set i (.row (piece A c l h sz) e sz (h - l) ((xs.drop (l * sz)).take ((h - l) * sz)))) := by
  have hx := qRow_piece (H.at hi) h1 h2
  obtain ⟨X, Y, hL, hs⟩ := list_split hi
  rw [hs]
  have hm : muts (X ++ .row (piece A c l h sz) e sz (h - l) ((xs.drop (l * sz)).take ((h - l) * sz)) :: Y) = muts L := by
    rw [hL]; simp only [muts, List.flatMap_append, List.flatMap_cons, Item.muts, piece_block]
    cases A <;> rfl
  have hk : okOf ok w0 (X ++ .row (piece A c l h sz) e sz (h - l) ((xs.drop (l * sz)).take ((h - l) * sz)) :: Y) = okOf ok w0 L := by unfold okOf; rw [hm]
  refine ⟨H.below, by rw [hm]; exact H.nd, by rw [hm]; exact H.ge, fun it hit => ?_⟩
  rw [hk]
  rcases List.mem_append.1 hit with h | h
  · exact H.all it (by rw [hL]; exact List.mem_append.2 (.inl h))
  · rcases List.mem_cons.1 h with h | h
    · subst h; exact hx
    · exact H.all it (by rw [hL]; exact List.mem_append.2 (.inr (List.mem_cons_of_mem _ h)))

/-- The cells of an own row. -/
theorem Own.rowCells {e : TypeId} {sz n c : Nat} {A : Option Addr} {xs : List Value} (H : Own ok w0 w L) (i : Nat) (hi : L[i]? = some (.row (.slice A n c) e sz n xs)) (hn : 0 < n) : ∃ a, A = some a ∧ ∀ j u, xs[j]? = some u → w.cell? (a.add j) = some u := by
  have h : qRow w e sz (.slice A n c) n xs := H.at hi
  rcases h.2 with ⟨h0, _⟩ | ⟨q, off, cap, cur, hv, hg, hnc, hcm, hcs, ht⟩
  · omega
  · injection hv with e1 e2 e3
    exact ⟨_, e1, fun j u hu => qRow_cell hg ht j u hu⟩
/-- An own row, read as a list. -/
theorem Own.rowSlR {α : Type} {k : Ty α} {e : TypeId} {v : Value} {xs : List α} {cs : List Value} {okr : Nat → Prop} (H : Own ok w0 w L) (i : Nat) (hi : L[i]? = some (.row v e k.sz xs.length cs)) (hR : rowsR k w okr xs cs) : slR k w (fun _ => True) v xs := by
  have h : qRow w e k.sz v xs.length cs := H.at hi
  have hR := rowsR_mono (ok' := fun _ => True) (fun _ _ => trivial) hR
  rcases h.2 with ⟨h0, A, hv, _⟩ | ⟨q, off, cap, cur, hv, hg, hnc, hcm, hcs, ht⟩
  · have hx : xs = [] := List.eq_nil_of_length_eq_zero h0
    subst hx hv
    exact ⟨A, 0, rfl, Nat.le_refl _, .inl ⟨rfl, fun _ => rfl⟩⟩
  · subst hv
    refine ⟨some _, cap, rfl, hnc, .inr ⟨_, rfl, trivial, (Array.getElem?_eq_some_iff.1 hg).1, fun j x hj => ?_⟩⟩
    obtain ⟨c, g1, g2⟩ := rowsR_get hR j x hj
    refine ⟨c, g1, cellsAt_of fun r u hr => ?_⟩
    rw [add_add]
    have := qRow_cell hg ht (j * k.sz + r) u (g2 r u hr)
    rwa [Nat.zero_add]
/-- .. in blocks that are the call's own, and those of its elements. -/
theorem Own.rowSlRin {α : Type} {k : Ty α} {e : TypeId} {v : Value} {xs : List α} {cs : List Value} {okr okn : Nat → Prop} (H : Own ok w0 w L) (i : Nat) (hi : L[i]? = some (.row v e k.sz xs.length cs)) (hR : rowsR k w okr xs cs) (h1 : ∀ b, okr b → okn b) (h2 : ∀ b, w0.heap.size ≤ b → okn b) : slR k w okn v xs := by
  have h : qRow w e k.sz v xs.length cs := H.at hi
  have hR := rowsR_mono h1 hR
  rcases h.2 with ⟨h0, A, hv, _⟩ | ⟨q, off, cap, cur, hv, hg, hnc, hcm, hcs, ht⟩
  · have hx : xs = [] := List.eq_nil_of_length_eq_zero h0
    subst hx hv
    exact ⟨A, 0, rfl, Nat.le_refl _, .inl ⟨rfl, fun _ => rfl⟩⟩
  · have hq : w0.heap.size ≤ q := H.ge q (mem_muts.2 ⟨_, List.mem_of_getElem? hi, by simp [Item.muts, hv, Value.ownBlock]⟩)
    subst hv
    refine ⟨some _, cap, rfl, hnc, .inr ⟨_, rfl, h2 q hq, (Array.getElem?_eq_some_iff.1 hg).1, fun j x hj => ?_⟩⟩
    obtain ⟨c, g1, g2⟩ := rowsR_get hR j x hj
    refine ⟨c, g1, cellsAt_of fun r u hr => ?_⟩
    rw [add_add]
    have := qRow_cell hg ht (j * k.sz + r) u (g2 r u hr)
    rwa [Nat.zero_add]
/-- A block that was laid whole, as a list. -/
theorem Own.blkSl {α : Type} {k : Ty α} {b : Nat} {cs : List Value} {e : TypeId} (H : Own ok w0 w (.blk b cs e :: L)) (xs : List α) (n : Nat) (hn : xs.length = n) (hl : cs.length = n * k.sz) (hm : n ≤ maxLen) (hR : rowsR k w (okOf ok w0 (.blk b cs e :: L)) xs cs) : Own ok w0 w (.dat (dSl k (.slice (some ⟨b, 0, none⟩) n n) xs) :: L) := by
  subst hn
  have H1 := (H.addDat (dRows k xs cs) hR)
  have H2 : Own ok w0 w (.blk b cs e :: .dat (dRows k xs cs) :: L) := H1.sub (fun it hi => by
    rcases List.mem_cons.1 hi with h | h
    · subst h; simp
    · rcases List.mem_cons.1 h with h | h
      · subst h; simp
      · simp [h]) (by
    have : muts (.blk b cs e :: .dat (dRows k xs cs) :: L) = muts (.dat (dRows k xs cs) :: .blk b cs e :: L) := by simp [muts, Item.muts]
    rw [this]; exact H1.nd)
  have H3 := (H2.blkRow hl hm).freeze (k := k) 0 1 rfl rfl
  exact H3.less (List.Sublist.cons_cons _ (List.Sublist.cons _ (List.Sublist.refl _)))
/-- A call in an open order, that leaves what is owned, and perhaps something more. -/
theorem c_callOwn {KE : Value → List Item → Prop} {f : FuncId} {args : List Value} (G : Value → List Item → Prop) (hg : g = true) (hb : bodyB P f = true) (hs : ∀ v L', G v L' → L.Sublist L') (hc : ∀ w, Own ok w0 w L → Calls P f args.toArray w fun e w' => ∃ u, e = .returned u ∧ ∃ L', G u L' ∧ Own ok w0 w' L') (hk : ∀ v L', G v L' → KE v L') : cCall P g f args ok w0 L KE := by
  subst hg
  unfold cCall
  refine cEv_in ⟨G, fun _ => hs, fun w H => ⟨fun _ => ?_, fun h => by cases h⟩, fun v L' hv _ => hk v L' hv⟩
  rw [run_callFunc hb]
  refine Calls.mono (hc w H) fun e w' ⟨u, he, hu⟩ => ?_
  subst he
  exact hu

/-- A closure's call, in an open order. -/
theorem c_callV {KE : Value → List Item → Prop} {f : FuncId} {first cap : Array Value} {args : List Value} (G : Value → List Item → Prop) (hg : g = true) (hb : bodyB P f = true) (hc : ∀ w, Own ok w0 w L → Calls P f ((first ++ args.toArray) ++ cap) w fun e w' => ∃ u, e = .returned u ∧ ∃ L', G u L' ∧ Own ok w0 w' L') (hk : ∀ v L', G v L' → KE v L') : cCallV P g (.func (.func f) first cap) args ok w0 L KE := by
  subst hg
  unfold cCallV
  refine cEv_in ⟨G, fun h => (by cases h), fun w H => ⟨fun _ => ?_, fun h => by cases h⟩, fun v L' hv _ => hk v L' hv⟩
  show upon P _ ((callFunc f ((first ++ args.toArray) ++ cap)).run P w)
  rw [run_callFunc hb]
  refine Calls.mono (hc w H) fun e w' ⟨u, he, hu⟩ => ?_
  subst he
  exact hu

/-! Texts' pieces. -/
theorem bs_extract (s : List UInt8) (l h : Nat) : (bs s).extract l h = bs ((s.drop l).take (h - l)) := by
  apply ByteArray.ext
  simp [bs, ByteArray.data_extract, List.extract_toArray]
theorem txt_run {t : TypeId} {s : List UInt8} {l h : Nat} {lo hi : Option Value} (ht : strB P t = true) (hlo : atLo lo l) (hhi : atHi hi s.length h) (h1 : l ≤ h) (h2 : h ≤ s.length) :
    (Instr.sliceAt t (.string (bs s)) lo hi none).run P w = .ok (.string (bs ((s.drop l).take (h - l)))) w := by
  have hu : P.underlying t = some .string := by
    unfold strB at ht
    split at ht
    · assumption
    · cases ht
  rw [run_sliceAt_string w t _ _ _ _ hu, ← bs_extract]
  cases lo with
  | none =>
    have h0 : l = 0 := hlo
    subst h0
    cases hi with
    | none =>
      have hn : h = s.length := hhi
      subst hn
      rw [run_slice_string_all w t (bs s) hu, bs_size]
    | some v =>
      obtain ⟨k, rfl⟩ := hhi
      rw [run_slice_string_h w t (bs s) hu k (h : Int) (by omega) (by rw [bs_size]; omega), Int.toNat_natCast]
  | some u =>
    obtain ⟨k, rfl⟩ := hlo
    cases hi with
    | none =>
      have hn : h = s.length := hhi
      subst hn
      rw [run_slice_string_l w t (bs s) hu k (l : Int) (by omega) (by rw [bs_size]; omega), Int.toNat_natCast, bs_size]
    | some v =>
      obtain ⟨k', rfl⟩ := hhi
      rw [run_slice_string w t (bs s) k k' (l : Int) (h : Int) hu (by omega) (by omega) (by rw [bs_size]; omega), Int.toNat_natCast, Int.toNat_natCast]
theorem txt_rule {t : TypeId} {s : List UInt8} {lo hi : Option Value} (l h : Nat) (ht : strB P t = true) (hlo : atLo lo l) (hhi : atHi hi s.length h) (h1 : g = true → l ≤ h) (h2 : g = true → h ≤ s.length) (hk : K (.string (bs ((s.drop l).take (h - l)))) w) : nSlice P g t (.string (bs s)) lo hi none w K := by
  unfold nSlice
  exact nOp_now (fun hg => sv_run (txt_run ht hlo hhi (h1 hg) (h2 hg))) hk
theorem c_txt {C : World → Prop} {t : TypeId} {s : List UInt8} {lo hi : Option Value} (l h : Nat) (ht : strB P t = true) (hlo : atLo lo l) (hhi : atHi hi s.length h) (h1 : g = true → l ≤ h) (h2 : g = true → h ≤ s.length) (hk : KF (.string (bs ((s.drop l).take (h - l))))) : cSlice P g t (.string (bs s)) lo hi none C KF := by
  unfold cSlice
  exact cFloat_in _ (fun hg w _ => sv_run (txt_run ht hlo hhi (h1 hg) (h2 hg))) hk
end
end Go.Eng
/- What printed walks lean on: models in Option, loops without a bound on rounds, and the rules in the printed texts' own words. -/
set_option linter.unusedVariables false
namespace Go.Eng
open Go.RowKit
set_option linter.unusedSectionVars false
variable [Inhabited Keep] [Inhabited Hard]

/-! ### Models -/
theorem bindS {α β : Type} {x : Option α} {f : α → Option β} {r : β} (h : x.bind f = some r) : ∃ y, x = some y ∧ f y = some r := by
  cases x with
  | none => cases h
  | some y => exact ⟨y, rfl, h⟩
theorem condT {α : Type} {c : Bool} {a b x : α} (hc : c = true) (h : cond c a b = x) : a = x := by subst hc; exact h
theorem condF {α : Type} {c : Bool} {a b x : α} (hc : c = false) (h : cond c a b = x) : b = x := by subst hc; exact h
def idxL {α : Type} (xs : List α) : Int → Option α
  | .ofNat n => xs[n]?
  | .negSucc _ => none
theorem idxL_nat {α : Type} (xs : List α) (n : Nat) : idxL xs (n : Int) = xs[n]? := rfl
theorem idxL_some {α : Type} {xs : List α} {x : Int} {y : α} (h : idxL xs x = some y) : 0 ≤ x ∧ x < (xs.length : Int) ∧ xs[x.toNat]? = some y := by
  cases x with
  | ofNat n =>
    have h : xs[n]? = some y := h
    have := (List.getElem?_eq_some_iff.1 h).1
    refine ⟨Int.natCast_nonneg _, ?_, h⟩
    show (n : Int) < _
    omega
  | negSucc n => cases h
def idxS (s : List UInt8) (x : Int) : Option Int := (idxL s x).map fun b => (b.toNat : Int)
theorem idxS_some {s : List UInt8} {x y : Int} (h : idxS s x = some y) : ∃ b, s[x.toNat]? = some b ∧ y = (b.toNat : Int) ∧ 0 ≤ x := by
  unfold idxS at h
  cases hb : idxL s x with
  | none => rw [hb] at h; cases h
  | some b =>
    rw [hb] at h
    cases h
    exact ⟨b, (idxL_some hb).2.2, rfl, (idxL_some hb).1⟩
def roomM {α : Type} (b n : Nat) (x : Option α) : Option α := if n * b ≤ 140737488355328 then x else none
theorem roomS {α : Type} {b n : Nat} {x : Option α} {r : α} (h : roomM b n x = some r) : n * b ≤ 140737488355328 ∧ x = some r := by
  unfold roomM at h
  split at h
  · exact ⟨by assumption, h⟩
  · cases h
def slcM {α : Type} (xs : List α) (lo hi : Int) : Option (List α) := if 0 ≤ lo ∧ lo ≤ hi ∧ hi ≤ (xs.length : Int) then some ((xs.drop lo.toNat).take (hi.toNat - lo.toNat)) else none
theorem slcS {α : Type} {xs y : List α} {lo hi : Int} (h : slcM xs lo hi = some y) : 0 ≤ lo ∧ lo ≤ hi ∧ hi ≤ (xs.length : Int) ∧ y = (xs.drop lo.toNat).take (hi.toNat - lo.toNat) := by
  unfold slcM at h
  split at h
  · rename_i g; cases h; exact ⟨g.1, g.2.1, g.2.2, rfl⟩
  · cases h
def remM (a b : Int) : Option Int := if b = 0 then none else some (a.tmod b)
theorem remS {a b y : Int} (h : remM a b = some y) : b ≠ 0 ∧ y = a.tmod b := by
  unfold remM at h
  split at h
  · cases h
  · cases h; exact ⟨by assumption, rfl⟩
def shrM (k : IntKind) (a b : Int) : Option Int := if 0 ≤ b then some (a.fdiv (2 ^ min b.toNat k.bits)) else none
theorem shrS {k : IntKind} {a b y : Int} (h : shrM k a b = some y) : 0 ≤ b ∧ y = a.fdiv (2 ^ min b.toNat k.bits) := by
  unfold shrM at h
  split at h
  · cases h; exact ⟨by assumption, rfl⟩
  · cases h
def maxI (x y : Int) : Int := if y > x then y else x
def strEq (a b : List UInt8) : Bool := (bs a).toList == (bs b).toList
def strLt (a b : List UInt8) : Bool := Op.bytesLess (bs a).toList (bs b).toList
theorem strEq_eq (a b : List UInt8) : strEq a b = decide (a = b) := by
  unfold strEq; rw [bs_toList, bs_toList, Bool.eq_iff_iff]; simp
theorem strLt_eq (a b : List UInt8) : strLt a b = Op.bytesLess a b := by unfold strLt; rw [bs_toList, bs_toList]

noncomputable def givenM {α : Type} (p : Prop) (x : Option α) : Option α := by
  classical
  exact if p then x else none
theorem givenS {α : Type} {p : Prop} {x : Option α} {r : α} (h : givenM p x = some r) : p ∧ x = some r := by
  unfold givenM at h
  split at h
  · exact ⟨by assumption, h⟩
  · cases h
theorem given_of {α : Type} {p : Prop} (hp : p) (x : Option α) : givenM p x = x := by unfold givenM; rw [if_pos hp]

/-! Loops: rounds of a body, until it is done. -/
def iterM {S O : Type} (body : S → Option (S ⊕ O)) : Nat → S → Option O
  | 0, _ => none
  | n + 1, s => (body s).bind fun | .inl s' => iterM body n s' | .inr o => some o
theorem iterS {S O : Type} {body : S → Option (S ⊕ O)} {n : Nat} {s : S} {o : O} (h : iterM body n s = some o) : ∃ k, n = k + 1 ∧ ∃ q, body s = some q ∧ (match q with | .inl s' => iterM body k s' = some o | .inr o' => o' = o) := by
  cases n with
  | zero => cases h
  | succ k =>
    obtain ⟨q, hq, h⟩ := bindS h
    refine ⟨k, rfl, q, hq, ?_⟩
    cases q with
    | inl s' => exact h
    | inr o' => exact Option.some.inj h
theorem iterM_up {S O : Type} {body : S → Option (S ⊕ O)} : ∀ {n m : Nat} {s : S} {o : O}, n ≤ m → iterM body n s = some o → iterM body m s = some o := by
  intro n
  induction n with
  | zero => intro m s o _ h; cases h
  | succ n ih =>
    intro m s o hm h
    obtain ⟨m, rfl⟩ : ∃ k, m = k + 1 := ⟨m - 1, by omega⟩
    obtain ⟨k, hk, q, hq, h⟩ := iterS h
    cases hk
    simp only [iterM, hq, Option.bind_some]
    cases q with
    | inl s' => exact ih (by omega) h
    | inr o' => exact congrArg some h
noncomputable def loopM {S O : Type} (body : S → Option (S ⊕ O)) (s : S) : Option O := by
  classical
  exact if h : ∃ o n, iterM body n s = some o then some h.choose else none
theorem loopS {S O : Type} {body : S → Option (S ⊕ O)} {s : S} {o : O} (h : loopM body s = some o) : ∃ n, iterM body n s = some o := by
  unfold loopM at h
  split at h
  · rename_i hx
    cases h
    exact hx.choose_spec
  · cases h
theorem loop_of {S O : Type} {body : S → Option (S ⊕ O)} {s : S} {o : O} (n : Nat) (h : iterM body n s = some o) : loopM body s = some o := by
  unfold loopM
  have hx : ∃ o n, iterM body n s = some o := ⟨o, n, h⟩
  rw [dif_pos hx]
  obtain ⟨m, hm⟩ := hx.choose_spec
  have h1 := iterM_up (Nat.le_max_left n m) h
  have h2 := iterM_up (Nat.le_max_right n m) hm
  rw [h1] at h2
  exact h2.symm
theorem loop_step {S O : Type} {body : S → Option (S ⊕ O)} {s s' : S} {o : O} (hb : body s = some (.inl s')) (h : loopM body s' = some o) : loopM body s = some o := by
  obtain ⟨n, hn⟩ := loopS h
  exact loop_of (n + 1) (by simp only [iterM, hb, Option.bind_some]; exact hn)
theorem loop_end {S O : Type} {body : S → Option (S ⊕ O)} {s : S} {o : O} (hb : body s = some (.inr o)) : loopM body s = some o := loop_of 1 (by simp only [iterM, hb, Option.bind_some])
/-- A loop that counts: the state before the i-th round. -/
theorem loop_up {S O : Type} {body : S → Option (S ⊕ O)} (st : Nat → S) (n : Nat) (hs : ∀ i, i < n → body (st i) = some (.inl (st (i + 1)))) {o : O} (he : body (st n) = some (.inr o)) : ∀ k i, i + k = n → loopM body (st i) = some o := by
  intro k
  induction k with
  | zero => intro i hi; obtain rfl : i = n := by omega
            exact loop_end he
  | succ k ih => intro i hi; exact loop_step (hs i (by omega)) (ih (i + 1) (by omega))
theorem loop_count {S O : Type} {body : S → Option (S ⊕ O)} (st : Nat → S) (n : Nat) (hs : ∀ i, i < n → body (st i) = some (.inl (st (i + 1)))) {o : O} (he : body (st n) = some (.inr o)) : loopM body (st 0) = some o := loop_up st n hs he n 0 (by omega)

/-! Functions that call themselves: by how deep. -/
/-! ### Code, a statement at a time -/
section
variable {P : Program} {ro : Option Nat} {n : Nat} {ds : List Nat} {x y : Code} {e : Env} {w : World} {K : EK}
theorem nc_seq (h : nCode P ro n ds x e w (thenK P ro n y K)) : nCode P ro n ds (.seq x y) e w K :=
  nCode_in fun a hf => wpIn_seq (wpIn_mono (nCode_out h a hf) fun ex a' w' hq => by
    obtain ⟨ds', e', hf', hk⟩ := hq
    cases ex with
    | normal => exact nCode_out hk a' hf'
    | _ => exact ⟨ds', e', hf', hk⟩)
theorem nc_block {id : Nat} (h : nCode P ro n ds x e w (blockK id K)) : nCode P ro n ds (.block id x) e w K :=
  nCode_in fun a hf => wpIn_block (wpIn_mono (nCode_out h a hf) fun ex a' w' hq => by
    obtain ⟨ds', e', hf', hk⟩ := hq
    cases ex with
    | exit id' =>
      simp only [blockK] at hk
      simp only [Exit.inBlock]
      split at hk
      · rename_i hb
        have := Nat.eq_of_beq_eq_true hb
        rw [if_pos this]; exact ⟨ds', e', hf', hk⟩
      · rename_i hb
        rw [if_neg (fun he => by subst he; simp at hb)]
        exact ⟨ds', e', hf', hk⟩
    | _ => exact ⟨ds', e', hf', hk⟩)
theorem nc_cond {c : Operand} {b : Bool} (hc : opnd e [] [] c = some (.bool b)) (ht : b = true → nCode P ro n ds x e w K) (hf : b = false → nCode P ro n ds y e w K) : nCode P ro n ds (.cond c x y) e w K :=
  nCode_in fun a hfit => wpIn_cond_split (opnd_at hfit.g (fun _ h => by cases h) hc) (fun h => nCode_out (ht h) a hfit) (fun h => nCode_out (hf h) a hfit)
end

/-! ### What is owned -/
section
variable {ok : Nat → Prop} {w0 w w' : World} {L : List Item}
theorem Own.arg {α : Type} {k : Ty α} {v : Value} {xs : List α} (H : Own ok w w L) (hL : muts L = []) (h : slR k w ok v xs) : ∃ A c, v = .slice A xs.length c ∧ Own ok w w (.dat (dSl k (.slice A xs.length c) xs) :: L) := by
  have H1 := H.addDat (dSl k v xs) ((dSl k v xs).mono (fun b hb => ⟨.inl hb, by rw [hL]; exact List.not_mem_nil⟩) h)
  obtain ⟨A, c, rfl, _⟩ := H1.sl 0 rfl
  exact ⟨A, c, rfl, H1⟩
theorem Own.openD {α : Type} {k : Ty α} {u : Value} {xs : List α} (H : Own ok w0 w L) (hu : slR k w (okOf ok w0 L) u xs) : ∃ A c, u = .slice A xs.length c ∧ Own ok w0 w (.dat (dSl k (.slice A xs.length c) xs) :: L) := by
  have H1 := H.addDat (dSl k u xs) hu
  obtain ⟨A, c, rfl, _⟩ := H1.sl 0 rfl
  exact ⟨A, c, rfl, H1⟩
theorem Own.elemI {α : Type} {k : Ty α} {A : Option Addr} {n c : Nat} {xs : List α} {x : Int} {y : α} (H : Own ok w0 w L) (i : Nat) (hi : L[i]? = some (.dat (dSl k (.slice A n c) xs))) (hx : idxL xs x = some y) :
    ∃ a cs, A = some a ∧ k.R w (okOf ok w0 L) y cs ∧ Own ok w0 w (.dat (dCells (a.add (x.toNat * k.sz)) cs) :: L) := by
  obtain ⟨h0, h1, h2⟩ := idxL_some hx
  have hj : x.toNat < xs.length := by omega
  obtain ⟨a, c', cs, hA, hR, H⟩ := H.elem i hi x.toNat hj
  rw [List.getElem?_eq_getElem hj] at h2
  cases h2
  injection hA with hA
  exact ⟨a, cs, hA, hR, H.less (List.Sublist.cons_cons _ (List.Sublist.cons _ (List.Sublist.refl _)))⟩
theorem Own.slLen {α : Type} {k : Ty α} {A : Option Addr} {n c : Nat} {xs : List α} (H : Own ok w0 w L) (i : Nat) (hi : L[i]? = some (.dat (dSl k (.slice A n c) xs))) : n = xs.length ∧ n ≤ c := by
  obtain ⟨A', c', h, hc⟩ := H.sl i hi
  cases h
  exact ⟨rfl, hc⟩
theorem Own.elemJ {α : Type} {k : Ty α} {a : Addr} {n c : Nat} {xs : List α} {x : Int} {y : α} (H : Own ok w0 w L) (i : Nat) (hi : L[i]? = some (.dat (dSl k (.slice (some a) n c) xs))) (hx : idxL xs x = some y) :
    ∃ cs, k.R w (okOf ok w0 L) y cs ∧ Own ok w0 w (.dat (dCells (a.add (x.toNat * k.sz)) cs) :: L) := by
  obtain ⟨a', cs, h, h1, h2⟩ := H.elemI i hi hx
  cases h
  exact ⟨cs, h1, h2⟩
def pickI (L : List Item) : List Nat → List Item
  | [] => []
  | i :: r => match L[i]? with
    | some it => it :: pickI L r
    | none => pickI L r
theorem pickI_mem {L : List Item} : ∀ {is : List Nat} {it : Item}, it ∈ pickI L is → ∃ i ∈ is, L[i]? = some it
  | [], it, h => by cases h
  | i :: r, it, h => by
    simp only [pickI] at h
    split at h
    · rename_i it' hi
      rcases List.mem_cons.1 h with h | h
      · subst h; exact ⟨i, List.mem_cons_self, hi⟩
      · obtain ⟨j, hj, h⟩ := pickI_mem h; exact ⟨j, List.mem_cons_of_mem _ hj, h⟩
    · obtain ⟨j, hj, h⟩ := pickI_mem h; exact ⟨j, List.mem_cons_of_mem _ hj, h⟩
theorem muts_apart : ∀ {L : List Item}, (muts L).Nodup → ∀ {i j : Nat} {a b : Item}, L[i]? = some a → L[j]? = some b → i ≠ j → ∀ g ∈ a.muts, g ∉ b.muts
  | [], _, i, j, a, b, hi, _, _ => by simp at hi
  | x :: L, h, i, j, a, b, hi, hj, hij => by
    have h' : (x.muts ++ muts L).Nodup := h
    obtain ⟨h1, h2, h3⟩ := List.nodup_append.1 h'
    intro g ga gb
    cases i with
    | zero =>
      cases j with
      | zero => exact hij rfl
      | succ j => cases hi; exact h3 g ga g (mem_muts.2 ⟨b, List.mem_of_getElem? hj, gb⟩) rfl
    | succ i =>
      cases j with
      | zero => cases hj; exact h3 g gb g (mem_muts.2 ⟨a, List.mem_of_getElem? hi, ga⟩) rfl
      | succ j => exact muts_apart h2 hi hj (fun e => hij (by rw [e])) g ga gb
theorem muts_one : ∀ {L : List Item}, (muts L).Nodup → ∀ {it : Item}, it ∈ L → it.muts.Nodup
  | [], _, it, hi => by cases hi
  | x :: L, h, it, hi => by
    have h' : (x.muts ++ muts L).Nodup := h
    obtain ⟨h1, h2, h3⟩ := List.nodup_append.1 h'
    rcases List.mem_cons.1 hi with k | k
    · subst k; exact h1
    · exact muts_one h2 k
def nodupP (L : List Item) : List Nat → Bool
  | [] => true
  | x :: r => (match L[x]? with | some (.dat _) => true | _ => !(r.contains x)) && nodupP L r
theorem Own.pickL (H : Own ok w0 w L) (is : List Nat) (hn : nodupP L is = true) : Own ok w0 w (pickI L is) := by
  refine H.sub (fun it hit => by obtain ⟨i, _, h⟩ := pickI_mem hit; exact List.mem_of_getElem? h) ?_
  have hnd := H.nd
  clear H
  induction is with
  | nil => exact List.nodup_nil
  | cons i r ih =>
    simp only [nodupP, Bool.and_eq_true] at hn
    obtain ⟨hi, hr⟩ := hn
    have ih := ih hr
    simp only [pickI]
    split
    · rename_i it hit
      show (it.muts ++ muts (pickI L r)).Nodup
      rw [hit] at hi
      cases it with
      | dat d => exact ih
      | _ =>
        simp only [Bool.not_eq_true'] at hi
        refine List.nodup_append.2 ⟨muts_one hnd (List.mem_of_getElem? hit), ih, ?_⟩
        intro g hg b hb hgb
        subst hgb
        obtain ⟨it', hm, hg'⟩ := mem_muts.1 hb
        obtain ⟨j, hj, hj'⟩ := pickI_mem hm
        refine muts_apart hnd hit hj' (fun e => ?_) g hg hg'
        subst e
        rw [List.contains_iff_mem.2 hj] at hi
        cases hi
    · exact ih
/-- A call hands back several things. -/
def allD : List Dat → World → (Nat → Prop) → Prop
  | [], _, _ => True
  | d :: ds, w, ok => d.φ w ok ∧ allD ds w ok
theorem Own.callDats (h : Own ok w0 w L) (hb : Bel w.heap.size w w') : ∀ (ds : List Dat), allD ds w' (fun b => okOf ok w0 L b ∨ w.heap.size ≤ b) → Own ok w0 w' (ds.map .dat ++ L)
  | [], _ => h.call hb
  | d :: ds, hd => by
    have h' := Own.callDats h hb ds hd.2
    have hm : ∀ ds : List Dat, muts (ds.map .dat ++ L) = muts L := fun ds => by
      induction ds with
      | nil => rfl
      | cons d ds ih => exact ih
    refine h'.addDat d (d.mono (fun b hb' => ?_) hd.1)
    unfold okOf
    rw [hm]
    rcases hb' with hb' | hb'
    · exact hb'
    · exact ⟨.inr (by have := h.below.size; omega), fun k => by have := h.lt b k; omega⟩
/-- .. an own row, and perhaps data. -/
def rowOut (w w' : World) (ok : Nat → Prop) {α : Type} (k : Ty α) (e : TypeId) (v : Value) (xs : List α) : Prop :=
  ∃ cells, qRow w' e k.sz v xs.length cells ∧ (∀ g, v.ownBlock = some g → w.heap.size ≤ g) ∧ rowsR k w' (fun b => (ok b ∨ w.heap.size ≤ b) ∧ v.ownBlock ≠ some b) xs cells
theorem Own.callRow {α : Type} {k : Ty α} {e : TypeId} {v : Value} {xs : List α} (h : Own ok w0 w L) (hb : Bel w.heap.size w w') (hr : rowOut w w' (okOf ok w0 L) k e v xs) : ∃ cells, Own ok w0 w' (.dat (dRows k xs cells) :: .row v e k.sz xs.length cells :: L) := by
  obtain ⟨cells, hq, hf, hR⟩ := hr
  have h' := h.call hb
  have hfresh : ∀ g, v.ownBlock = some g → g ∉ muts L := fun g hg hm => by have := hf g hg; have := h.lt g hm; omega
  have hO : Own ok w0 w' (.row v e k.sz xs.length cells :: L) := by
    refine h.move (h.below.trans (hb.mono h.below.size)) hb.size ?_ ?_ (fun b _ hlt _ => hb.block b hlt) ?_
    · show (v.ownBlock.toList ++ muts L).Nodup
      cases hv : v.ownBlock with
      | none => exact h'.nd
      | some g => exact List.nodup_cons.2 ⟨hfresh g hv, h'.nd⟩
    · intro g hg
      have hg : g ∈ v.ownBlock.toList ++ muts L := hg
      rcases List.mem_append.1 hg with k | k
      · exact .inr (hf g (Option.mem_toList.1 k))
      · exact .inl k
    · intro it hi
      rcases List.mem_cons.1 hi with k | k
      · subst k; exact .inr hq
      · exact .inl ⟨k, fun g hg => hb.block g (h.lt g (mem_muts.2 ⟨it, k, hg⟩))⟩
  refine ⟨cells, hO.addDat _ (rowsR_mono (fun b hb' => ?_) hR)⟩
  obtain ⟨h1, h2⟩ := hb'
  have hm : b ∉ muts L := by
    rcases h1 with h1 | h1
    · exact h1.2
    · exact fun k => by have := h.lt b k; omega
  refine ⟨?_, fun hk => ?_⟩
  · rcases h1 with h1 | h1
    · exact h1.1
    · exact .inr (by have := h.below.size; omega)
  · have hk : b ∈ v.ownBlock.toList ++ muts L := hk
    rcases List.mem_append.1 hk with k | k
    · exact h2 (Option.mem_toList.1 k)
    · exact hm k
end
/-! ### The rules, by numbers as they stand -/
section
variable {P : Program} {w w0 : World} {K : Value → World → Prop} {KF : Value → Prop} {g : Bool} {ok : Nat → Prop} {L : List Item} {C : World → Prop}
theorem idxA_rule {t e : TypeId} {a : Addr} {n c : Nat} {kk : IntKind} (sz : Nat) (x : Int) (ht : sliceB P t = some e) (hs : sizeB P e = some sz) (h0 : 0 ≤ x) (h1 : x < (n : Int)) (hk : K (.pointer (some (a.add (x.toNat * sz)))) w) : nIndexAddr P g t (.slice (some a) n c) (.int kk x) w K := by
  obtain ⟨i, rfl⟩ := Int.eq_ofNat_of_zero_le h0
  exact indexAddr_rule sz i ht hs (fun _ => by omega) hk
theorem c_idxA {t e : TypeId} {a : Addr} {n c : Nat} {kk : IntKind} (sz : Nat) (x : Int) (ht : sliceB P t = some e) (hs : sizeB P e = some sz) (h0 : 0 ≤ x) (h1 : x < (n : Int)) (hk : KF (.pointer (some (a.add (x.toNat * sz))))) : cIndexAddr P g t (.slice (some a) n c) (.int kk x) C KF := by
  obtain ⟨i, rfl⟩ := Int.eq_ofNat_of_zero_le h0
  exact c_indexAddr sz i ht hs (fun _ => by omega) hk
theorem idxS_rule {t : TypeId} {s : List UInt8} {x y : Int} {kk : IntKind} (ht : strB P t = true) (h : idxS s x = some y) (hk : K (.int .u8 y) w) : nIndex P g t (.string (bs s)) (.int kk x) w K := by
  obtain ⟨b, hb, rfl, h0⟩ := idxS_some h
  obtain ⟨i, rfl⟩ := Int.eq_ofNat_of_zero_le h0
  exact index_rule i b ht (fun _ => hb) hk
theorem c_idxS {t : TypeId} {s : List UInt8} {x y : Int} {kk : IntKind} (ht : strB P t = true) (h : idxS s x = some y) (hk : KF (.int .u8 y)) : cIndex P g t (.string (bs s)) (.int kk x) C KF := by
  obtain ⟨b, hb, rfl, h0⟩ := idxS_some h
  obtain ⟨i, rfl⟩ := Int.eq_ofNat_of_zero_le h0
  exact c_index i b ht (fun _ => hb) hk
def loI : Option Value → Int → Prop
  | none, l => l = 0
  | some v, l => ∃ k, v = .int k l
def hiI : Option Value → Nat → Int → Prop
  | none, n, h => h = (n : Int)
  | some v, _, h => ∃ k, v = .int k h
theorem txtI_rule {t : TypeId} {s y : List UInt8} {lo hi : Option Value} (l h : Int) (ht : strB P t = true) (hlo : loI lo l) (hhi : hiI hi s.length h) (hm : slcM s l h = some y) (hk : K (.string (bs y)) w) : nSlice P g t (.string (bs s)) lo hi none w K := by
  obtain ⟨h0, h1, h2, rfl⟩ := slcS hm
  obtain ⟨i, rfl⟩ := Int.eq_ofNat_of_zero_le h0
  obtain ⟨j, rfl⟩ := Int.eq_ofNat_of_zero_le (Int.le_trans h0 h1)
  refine txt_rule i j ht ?_ ?_ (fun _ => by omega) (fun _ => by omega) hk
  · cases lo with
    | none => exact Int.ofNat.inj hlo
    | some v => exact hlo
  · cases hi with
    | none => exact Int.ofNat.inj hhi
    | some v => exact hhi
theorem c_txtI {t : TypeId} {s y : List UInt8} {lo hi : Option Value} (l h : Int) (ht : strB P t = true) (hlo : loI lo l) (hhi : hiI hi s.length h) (hm : slcM s l h = some y) (hk : KF (.string (bs y))) : cSlice P g t (.string (bs s)) lo hi none C KF := by
  obtain ⟨h0, h1, h2, rfl⟩ := slcS hm
  obtain ⟨i, rfl⟩ := Int.eq_ofNat_of_zero_le h0
  obtain ⟨j, rfl⟩ := Int.eq_ofNat_of_zero_le (Int.le_trans h0 h1)
  refine c_txt i j ht ?_ ?_ (fun _ => by omega) (fun _ => by omega) hk
  · cases lo with
    | none => exact Int.ofNat.inj hlo
    | some v => exact hlo
  · cases hi with
    | none => exact Int.ofNat.inj hhi
    | some v => exact hhi
/-- The piece of a list that is there, made ready. -/
theorem Own.pieceD {α : Type} {k : Ty α} {A : Option Addr} {n c : Nat} {xs y : List α} {l h : Int} (H : Own ok w0 w L) (i : Nat) (hi : L[i]? = some (.dat (dSl k (.slice A n c) xs))) (hm : slcM xs l h = some y) :
    ∃ A' c', piece A c l.toNat h.toNat k.sz = .slice A' y.length c' ∧ Own ok w0 w (.dat (dSl k (.slice A' y.length c') y) :: L) := by
  obtain ⟨h0, h1, h2, rfl⟩ := slcS hm
  obtain ⟨A', c', hv, hc⟩ := H.sl i hi
  cases hv
  have := H.addPiece (l := l.toNat) (h := h.toNat) i hi (by omega) (by omega)
  obtain ⟨A', c', hv, _⟩ := this.sl 0 rfl
  rw [hv] at this
  exact ⟨A', c', hv, this⟩
theorem pieceI_rule {t e : TypeId} {n c : Nat} {A : Option Addr} {lo hi : Option Value} {α : Type} {xs y : List α} {v : Value} (sz : Nat) (l h : Int) (ht : sliceB P t = some e) (hs : sizeB P e = some sz) (hlo : loI lo l) (hhi : hiI hi n h) (hm : slcM xs l h = some y) (hn : n = xs.length ∧ n ≤ c) (hv : piece A c l.toNat h.toNat sz = v) (hk : K v w) : nSlice P g t (.slice A n c) lo hi none w K := by
  obtain ⟨h0, h1, h2, rfl⟩ := slcS hm
  obtain ⟨i, rfl⟩ := Int.eq_ofNat_of_zero_le h0
  obtain ⟨j, rfl⟩ := Int.eq_ofNat_of_zero_le (Int.le_trans h0 h1)
  subst hv
  refine piece_rule sz i j ht hs ?_ ?_ (fun _ => by omega) (fun _ => by omega) hn.2 hk
  · cases lo with
    | none => exact Int.ofNat.inj hlo
    | some v => exact hlo
  · cases hi with
    | none => exact Int.ofNat.inj hhi
    | some v => exact hhi
theorem c_pieceI {t e : TypeId} {n c : Nat} {A : Option Addr} {lo hi : Option Value} {α : Type} {xs y : List α} {v : Value} (sz : Nat) (l h : Int) (ht : sliceB P t = some e) (hs : sizeB P e = some sz) (hlo : loI lo l) (hhi : hiI hi n h) (hm : slcM xs l h = some y) (hn : n = xs.length ∧ n ≤ c) (hv : piece A c l.toNat h.toNat sz = v) (hk : KF v) : cSlice P g t (.slice A n c) lo hi none C KF := by
  obtain ⟨h0, h1, h2, rfl⟩ := slcS hm
  obtain ⟨i, rfl⟩ := Int.eq_ofNat_of_zero_le h0
  obtain ⟨j, rfl⟩ := Int.eq_ofNat_of_zero_le (Int.le_trans h0 h1)
  subst hv
  refine c_piece sz i j ht hs ?_ ?_ (fun _ => by omega) (fun _ => by omega) hn.2 hk
  · cases lo with
    | none => exact Int.ofNat.inj hlo
    | some v => exact hlo
  · cases hi with
    | none => exact Int.ofNat.inj hhi
    | some v => exact hhi
/-! What a guard keeps from being done. -/
theorem skipIA {t : TypeId} {x i : Value} (v : Value) (hg : g = false) (hk : K v w) : nIndexAddr P g t x i w K := by
  unfold nIndexAddr; exact nOp_in ⟨fun h => (by rw [hg] at h; cases h), fun _ => ⟨v, hk⟩⟩
theorem skipIX {t : TypeId} {x i : Value} (v : Value) (hg : g = false) (hk : K v w) : nIndex P g t x i w K := by
  unfold nIndex; exact nOp_in ⟨fun h => (by rw [hg] at h; cases h), fun _ => ⟨v, hk⟩⟩
theorem skipLD {t : TypeId} {x : Value} (v : Value) (hg : g = false) (hk : K v w) : nLoad P g t x w K := by
  unfold nLoad; exact nOp_in ⟨fun h => (by rw [hg] at h; cases h), fun _ => ⟨v, hk⟩⟩
theorem skipSL {t : TypeId} {x : Value} {lo hi mx : Option Value} (v : Value) (hg : g = false) (hk : K v w) : nSlice P g t x lo hi mx w K := by
  unfold nSlice; exact nOp_in ⟨fun h => (by rw [hg] at h; cases h), fun _ => ⟨v, hk⟩⟩
/-! What a guard lets be done. -/
/-! Texts. -/
theorem catM_rule {t : TypeId} {xo yo : Operand} {a b : List UInt8} (h : (a.length + b.length) * 1 ≤ 140737488355328) (hk : K (.string (bs (a ++ b))) w) : nBin P g .add t xo yo (.string (bs a)) (.string (bs b)) w K := cat_rule (fun _ => by omega) hk
theorem c_catM {t : TypeId} {xo yo : Operand} {a b : List UInt8} (h : (a.length + b.length) * 1 ≤ 140737488355328) (hk : KF (.string (bs (a ++ b)))) : cBin P g .add t xo yo (.string (bs a)) (.string (bs b)) C KF := c_cat (fun _ => by omega) hk
/-! Rows that stand for lists. -/
theorem Own.setDat (H : Own ok w0 w L) (j : Nat) {d d' : Dat} (hj : L[j]? = some (.dat d)) (hd : d'.φ w (okOf ok w0 L)) : Own ok w0 w (L.set j (.dat d')) := by
  obtain ⟨A, B, rfl, hs⟩ := list_split hj
  rw [hs]
  refine (H.addDat d' hd).sub (fun it hi => ?_) ?_
  · rcases List.mem_append.1 hi with k | k
    · exact List.mem_cons_of_mem _ (List.mem_append.2 (.inl k))
    · rcases List.mem_cons.1 k with k | k
      · subst k; exact List.mem_cons_self
      · exact List.mem_cons_of_mem _ (List.mem_append.2 (.inr (List.mem_cons_of_mem _ k)))
  · have h1 := H.nd
    rw [muts_split] at h1 ⊢
    exact h1
theorem okOf_blk {g : Nat} {cs : List Value} {t : TypeId} {b : Nat} (h : okOf ok w0 (.blk g cs t :: L) b) : okOf ok w0 L b := ⟨h.1, fun hm => h.2 (List.mem_cons_of_mem _ hm)⟩
theorem own_append1 {α : Type} {k : Ty α} {t ty e e' : TypeId} {n b c : Nat} {z v : Value} {xs : List α} {x : α} {cells news : List Value} {consts : Array Bool} (by_ : Nat) (H : Own ok w0 w (.blk b news e' :: L)) (i j : Nat) (hi : L[i]? = some (.row v e k.sz n cells)) (hj : L[j]? = some (.dat (dRows k xs cells))) (hn : n = xs.length) (hx : k.R w (okOf ok w0 (.blk b news e' :: L)) x news)
    (ht : sliceB P t = some e) (hinfo : infoB P e = some (some z, k.sz, by_)) (hzl : z.cells.toList.length = k.sz) (hpos : Nat.blt 0 k.sz = true) (hb : (xs.length + 1) * by_ ≤ 140737488355328) (hby : Nat.blt 0 by_ = true)
    (hk : ∀ v' cells' w', Own ok w0 w' ((L.set i (.row v' e k.sz (xs ++ [x]).length cells')).set j (.dat (dRows k (xs ++ [x]) cells'))) → K v' w') : nBuiltin P true .append [t, t] ty [v, .slice (some ⟨b, 0, none⟩) 1 c] consts w K := by
  have hby : 0 < by_ := Nat.le_of_ble_eq_true hby
  have hb1 : xs.length + 1 ≤ 140737488355328 := Nat.le_trans (Nat.le_mul_of_pos_right _ hby) hb
  subst hn
  have H0 := H.addDat (dR k x news) hx
  refine own_appendBlk (m := 1) H0 (i + 2) 1 hi rfl ht hinfo hzl hpos (by rw [k.len hx]; omega) (k.one hx) hb1 hb fun v' w' H' => ?_
  have hij : i ≠ j := fun h => by subst h; rw [hi] at hj; cases hj
  have hlen : (xs ++ [x]).length = xs.length + 1 := by simp
  refine hk v' (cells ++ news) w' ?_
  rw [hlen]
  have hx' : k.R w' (okOf ok w0 (.blk b news e' :: L.set i (.row v' e k.sz (xs.length + 1) (cells ++ news)))) x news := Own.dat (d := dR k x news) H' 0 rfl
  have H1 : Own ok w0 w' (L.set i (.row v' e k.sz (xs.length + 1) (cells ++ news))) := Own.tail (Own.tail H')
  have hj' : (L.set i (.row v' e k.sz (xs.length + 1) (cells ++ news)))[j]? = some (.dat (dRows k xs cells)) := by rw [List.getElem?_set_ne hij]; exact hj
  exact H1.setDat j hj' (rowsR_snoc (k.mono (fun b hb => okOf_blk hb) hx') (H1.dat j hj'))
theorem c_append1 {KE : Value → List Item → Prop} {α : Type} {k : Ty α} {t ty e e' : TypeId} {n b c : Nat} {z v : Value} {xs : List α} {x : α} {cells news : List Value} {consts : Array Bool} (by_ : Nat) (i j : Nat) (hi : L[i]? = some (.row v e k.sz n cells)) (hj : L[j]? = some (.dat (dRows k xs cells))) (hn : n = xs.length) (hx : ∀ w, Own ok w0 w (.blk b news e' :: L) → k.R w (okOf ok w0 (.blk b news e' :: L)) x news)
    (ht : sliceB P t = some e) (hinfo : infoB P e = some (some z, k.sz, by_)) (hzl : z.cells.toList.length = k.sz) (hpos : Nat.blt 0 k.sz = true) (hb : (xs.length + 1) * by_ ≤ 140737488355328) (hby : Nat.blt 0 by_ = true)
    (hk : ∀ v' cells', KE v' ((L.set i (.row v' e k.sz (xs ++ [x]).length cells')).set j (.dat (dRows k (xs ++ [x]) cells')))) : cBuiltin P true .append [t, t] ty [v, .slice (some ⟨b, 0, none⟩) 1 c] consts ok w0 (.blk b news e' :: L) KE := by
  unfold cBuiltin
  refine cEv_in ⟨fun u L' => ∃ cells', L' = (L.set i (.row u e k.sz (xs ++ [x]).length cells')).set j (.dat (dRows k (xs ++ [x]) cells')), fun h => (by cases h), fun w H => ?_, fun u L' h _ => by obtain ⟨cells', rfl⟩ := h; exact hk u cells'⟩
  have h := own_append1 (P := P) (K := fun u w' => ∃ L', (∃ cells', L' = (L.set i (.row u e k.sz (xs ++ [x]).length cells')).set j (.dat (dRows k (xs ++ [x]) cells'))) ∧ Own ok w0 w' L') (c := c) (ty := ty) (consts := consts) by_ H i j hi hj hn (hx w H) ht hinfo hzl hpos hb hby (fun v' cells' w' H' => ⟨_, ⟨cells', rfl⟩, H'⟩)
  unfold nBuiltin at h
  exact nOp_out h
theorem own_appendD {α : Type} {k : Ty α} {t ty e : TypeId} {n : Nat} {z v u : Value} {xs ys : List α} {cells : List Value} {consts : Array Bool} (by_ : Nat) (H : Own ok w0 w L) (i j m : Nat) (hi : L[i]? = some (.row v e k.sz n cells)) (hj : L[j]? = some (.dat (dRows k xs cells))) (hm : L[m]? = some (.dat (dSl k u ys))) (hn : n = xs.length)
    (ht : sliceB P t = some e) (hinfo : infoB P e = some (some z, k.sz, by_)) (hzl : z.cells.toList.length = k.sz) (hpos : Nat.blt 0 k.sz = true) (hb : (xs.length + ys.length) * by_ ≤ 140737488355328) (hby : Nat.blt 0 by_ = true)
    (hk : ∀ v' cells' w', Own ok w0 w' ((L.set i (.row v' e k.sz (xs ++ ys).length cells')).set j (.dat (dRows k (xs ++ ys) cells'))) → K v' w') : nBuiltin P true .append [t, t] ty [v, u] consts w K := by
  have hby : 0 < by_ := Nat.le_of_ble_eq_true hby
  have hb1 : xs.length + ys.length ≤ 140737488355328 := Nat.le_trans (Nat.le_mul_of_pos_right _ hby) hb
  subst hn
  have hij : i ≠ j := fun h => by subst h; rw [hi] at hj; cases hj
  obtain ⟨A, c, hv, hc, h⟩ := H.dat m hm
  subst hv
  unfold nBuiltin
  have fin : ∀ a, A = some a → ∀ news, rowsR k w (okOf ok w0 L) ys news → cellsAt w a 0 news → nOp P true (builtin .append #[t, t] ty consts #[v, .slice A ys.length c]) w K := by
    intro a ha news hR hC
    subst ha
    have H0 := H.addDat (dRows k ys news) hR
    obtain ⟨v', w', hr, hO⟩ := own_rowAppend (ty := ty) (consts := consts) (c := c) H0 (i + 1) hi ht hinfo hzl hpos (rowsR_length hR) hC (rowsR_one hR) hb1 hb
    refine nOp_val (fun _ => hr) (fun _ => hk v' (cells ++ news) w' ?_) (fun h => by cases h)
    have hlen : (xs ++ ys).length = xs.length + ys.length := by simp
    rw [hlen]
    have hR' : rowsR k w' (okOf ok w0 (L.set i (.row v' e k.sz (xs.length + ys.length) (cells ++ news)))) ys news := Own.dat (d := dRows k ys news) hO 0 rfl
    have H1 : Own ok w0 w' (L.set i (.row v' e k.sz (xs.length + ys.length) (cells ++ news))) := Own.tail hO
    have hj' : (L.set i (.row v' e k.sz (xs.length + ys.length) (cells ++ news)))[j]? = some (.dat (dRows k xs cells)) := by rw [List.getElem?_set_ne hij]; exact hj
    exact H1.setDat j hj' (rowsR_append hR' (H1.dat j hj'))
  rcases h with ⟨h, hn⟩ | ⟨a, ha, _, _, h4⟩
  · subst h
    cases A with
    | none =>
      have := hn rfl
      subst this
      refine nOp_now (fun _ => append_none_run H i hi ht hinfo) ?_
      refine hk v cells w ?_
      have e1 : (L.set i (.row v e k.sz (xs ++ ([] : List α)).length cells)).set j (.dat (dRows k (xs ++ []) cells)) = L := by
        rw [List.append_nil]
        have s1 : ∀ {q : Nat} {it : Item} {M : List Item}, M[q]? = some it → M.set q it = M := fun {q it M} hq => by
          apply List.ext_getElem?
          intro r
          rw [List.getElem?_set]
          split
          · rename_i e2; subst e2
            split
            · exact hq.symm
            · rename_i hl; rw [List.getElem?_eq_none (by omega)] at hq; cases hq
          · rfl
        rw [s1 hi, s1 hj]
      rw [e1]; exact H
    | some a => exact fin a rfl [] rfl trivial
  · subst ha
    obtain ⟨news, g1, g2⟩ := slR_cells (k := k) (a := a) (ys := ys) (off := 0) (fun j x hx => by rw [Nat.zero_add]; exact h4 j x hx)
    refine fin a rfl news g1 ?_
    have e2 : a.add (0 * k.sz) = a := by rw [Nat.zero_mul]; simp [Addr.add]
    rwa [e2] at g2
/-! What is handed back. -/
theorem Own.outD {α : Type} {k : Ty α} {v : Value} {xs : List α} (H : Own ok w0 w L) (i : Nat) (hi : L[i]? = some (.dat (dSl k v xs))) : slR k w (fun b => ok b ∨ w0.heap.size ≤ b) v xs :=
  (dSl k v xs).mono (ok := okOf ok w0 L) (ok' := fun b => ok b ∨ w0.heap.size ≤ b) (fun b hb => hb.1) (H.dat i hi)
theorem nilR {α : Type} {k : Ty α} {w : World} {ok : Nat → Prop} : slR k w ok (.slice none 0 0) [] := ⟨none, 0, rfl, Nat.le_refl _, .inl ⟨rfl, fun _ => rfl⟩⟩
theorem Own.outR {α : Type} {k : Ty α} {e : TypeId} {v : Value} {n : Nat} {xs : List α} {cells : List Value} (H : Own ok w0 w L) (i j : Nat) (hi : L[i]? = some (.row v e k.sz n cells)) (hj : L[j]? = some (.dat (dRows k xs cells))) (hn : n = xs.length) : rowOut w0 w ok k e v xs := by
  subst hn
  have hq := H.all _ (List.mem_of_getElem? hi)
  refine ⟨cells, hq, fun g hg => H.ge g (mem_muts.2 ⟨_, List.mem_of_getElem? hi, Option.mem_toList.2 hg⟩), rowsR_mono (fun b hb => ⟨hb.1, fun h => hb.2 (mem_muts.2 ⟨_, List.mem_of_getElem? hi, Option.mem_toList.2 h⟩)⟩) (H.dat j hj)⟩
theorem rowNil {α : Type} {k : Ty α} {e : TypeId} {w w' : World} {ok : Nat → Prop} : rowOut w w' ok k e (.slice none 0 0) [] :=
  ⟨[], ⟨(Nat.zero_mul _).symm, .inl ⟨rfl, none, rfl, fun a h => by cases h⟩⟩, fun g h => (by cases h), rfl⟩
theorem Own.nilRowD {α : Type} (k : Ty α) (e : TypeId) (H : Own ok w0 w L) : Own ok w0 w (.dat (dRows k [] []) :: .row (.slice none 0 0) e k.sz 0 [] :: L) := (H.nilRow e k.sz).addDat (dRows k [] []) rfl
end

section
variable {P : Program} {ro : Option Nat} {n : Nat} {ds : List Nat} {e : Env} {w : World} {K : EK}
theorem cut_inA {I : Env → World → Prop} {e' : Env} (h : I e' w) (hs : subE e' e := by repeat first | exact trivial | refine And.intro rfl ?_) : cutAt ds ds I e w := cut_in hs h
theorem again_inA {I : Nat → Env → World → Prop} {k : Nat} {e' : Env} (h : I k e' w) (hs : subE e' e := by repeat first | exact trivial | refine And.intro rfl ?_) : again ds ds I (k + 1) e w := again_in k (Nat.lt_succ_self k) e' hs h
theorem loop_ruleA {body : Code} (I : Nat → Env → World → Prop) {k₀ : Nat} {e₀ : Env} (h₀ : I k₀ e₀ w) (round : ∀ k e w, I k e w → nCode P ro n ds body e w (loopK ds I k K)) (hs : subE e₀ e := by repeat first | exact trivial | refine And.intro rfl ?_) : nLoop P ro n ds body e w K := loop_rule I k₀ e₀ hs h₀ round
theorem ret_inA {rs : List ResultVar} {R : Ending → World → Prop} (vs : List Value) (hR : R (.returned (tupV vs)) w) (h : resAt P e w rs vs := by repeat first | exact trivial | refine And.intro rfl ?_) : nRet P n [] rs e w R := ret_of vs h hR
end
theorem gT1 {b c : Bool} (h : b = true) (hc : c = true) : (b && c) = true := by subst h hc; rfl
theorem gT0 {b c : Bool} (h : b = false) (hc : c = true) : (!b && c) = true := by subst h hc; rfl
theorem gF1 {b c : Bool} (h : b = false) : (b && c) = false := by subst h; rfl
theorem gF0 {b c : Bool} (h : b = true) : (!b && c) = false := by subst h; rfl
theorem gFr {b c : Bool} (h : c = false) : (b && c) = false := by subst h; cases b <;> rfl
theorem pickT {α : Type} {c : Bool} {a b : α} (h : c = true) : cond c a b = a := by subst h; rfl
theorem pickF {α : Type} {c : Bool} {a b : α} (h : c = false) : cond c a b = b := by subst h; rfl
def allOne : List Value → Bool
  | [] => true
  | v :: r => oneV v && allOne r
theorem allOne_ok : ∀ {l : List Value}, allOne l = true → ∀ v ∈ l, oneV v = true
  | [], _, v, h => by cases h
  | x :: r, h, v, hv => by
    simp only [allOne, Bool.and_eq_true] at h
    rcases List.mem_cons.1 hv with k | k
    · subst k; exact h.1
    · exact allOne_ok h.2 v k
section
variable {P : Program} {w w0 : World} {K : Value → World → Prop} {ok : Nat → Prop} {L : List Item}
theorem own_storeB {t t' : TypeId} {b off m : Nat} {cs : List Value} {x : Value} (H : Own ok w0 w L) (i : Nat) (hi : L[i]? = some (.blk b cs t')) (hs : sizeB P t = some m) (vs : List Value) (hx : x.cells = vs.toArray) (hl : vs.length = m) (ho : allOne vs = true) (hr : Nat.ble (off + m) cs.length = true)
    (hk : ∀ w', Own ok w0 w' (L.set i (.blk b (setRange cs off vs) t')) → K undef w') : nStore P true t (.pointer (some ⟨b, off, none⟩)) x w K := own_storeA H i hi hs vs hx hl (allOne_ok ho) (Nat.le_of_ble_eq_true hr) hk
theorem c_storeB {KE : Value → List Item → Prop} {t t' : TypeId} {b off m : Nat} {cs : List Value} {x : Value} (i : Nat) (hi : L[i]? = some (.blk b cs t')) (hs : sizeB P t = some m) (vs : List Value) (hx : x.cells = vs.toArray) (hl : vs.length = m) (ho : allOne vs = true) (hr : Nat.ble (off + m) cs.length = true)
    (hk : KE undef (L.set i (.blk b (setRange cs off vs) t'))) : cStore P true t (.pointer (some ⟨b, off, none⟩)) x ok w0 L KE := c_storeA i hi hs vs hx hl (allOne_ok ho) (Nat.le_of_ble_eq_true hr) hk
end
section
variable {P : Program} {w0 : World} {ok : Nat → Prop} {L : List Item}
/-- A call in an open order, that hands back a list. -/
theorem c_callS {α : Type} {k : Ty α} {xs : List α} {KE : Value → List Item → Prop} {g : Bool} {f : FuncId} {args : List Value} (hg : g = true) (hb : bodyB P f = true) (hc : ∀ w, Own ok w0 w L → Calls P f args.toArray w fun e w' => ∃ v, e = .returned v ∧ (slR k w' (fun b => okOf ok w0 L b ∨ w.heap.size ≤ b) v xs ∧ Bel w.heap.size w w'))
    (hk : ∀ A c, KE (.slice A xs.length c) (.dat (dSl k (.slice A xs.length c) xs) :: L)) : cCall P g f args ok w0 L KE := by
  subst hg
  refine c_callDat (fun v => dSl k v xs) (fun v => ∃ A c, v = .slice A xs.length c) hb (fun w H => (hc w H).mono ?_) ?_
  · rintro e w' ⟨v, rfl, h1, h2⟩
    obtain ⟨A, c, hv, _⟩ := id h1
    exact ⟨v, rfl, ⟨A, c, hv⟩, h1, h2⟩
  · rintro v ⟨A, c, rfl⟩
    exact hk A c
theorem rowOut_sl {α : Type} {k : Ty α} {e : TypeId} {w w' : World} {v : Value} {xs : List α} (h : rowOut w w' ok k e v xs) (hb : Bel w.heap.size w w') : slR k w' (fun b => ok b ∨ w.heap.size ≤ b) v xs := by
  obtain ⟨cells, hq, hf, hR⟩ := h
  have H0 : Own ok w w [] := Own.nil ok w
  obtain ⟨cs, H⟩ := H0.callRow hb (k := k) (e := e) (v := v) (xs := xs) ⟨cells, hq, hf, rowsR_mono (fun b h => ⟨h.1.imp (fun h => ⟨.inl h, List.not_mem_nil⟩) id, h.2⟩) hR⟩
  exact H.rowSlRin (k := k) 1 rfl (H.dat 0 rfl) (fun b h => h.1) (fun b h => .inr h)
theorem slR_any {α : Type} {k : Ty α} {w : World} {B : Nat} {v : Value} {xs : List α} (h : slR k w (fun b => False ∨ B ≤ b) v xs) : slR k w (fun b => ok b ∨ B ≤ b) v xs :=
  (dSl k v xs).mono (ok := fun b => False ∨ B ≤ b) (ok' := fun b => ok b ∨ B ≤ b) (fun b h => h.imp False.elim id) h
theorem rowOut_any {α : Type} {k : Ty α} {e : TypeId} {w w' : World} {v : Value} {xs : List α} (h : rowOut w w' (fun _ => False) k e v xs) : rowOut w w' ok k e v xs := by
  obtain ⟨cells, hq, hf, hR⟩ := h
  exact ⟨cells, hq, hf, rowsR_mono (fun b h => ⟨h.1.imp False.elim id, h.2⟩) hR⟩
theorem c_callS0 {α : Type} {k : Ty α} {xs : List α} {KE : Value → List Item → Prop} {g : Bool} {f : FuncId} {args : List Value} (hg : g = true) (hb : bodyB P f = true) (hc : ∀ w, Own ok w0 w L → Calls P f args.toArray w fun e w' => ∃ v, e = .returned v ∧ (slR k w' (fun b => False ∨ w.heap.size ≤ b) v xs ∧ Bel w.heap.size w w'))
    (hk : ∀ A c, KE (.slice A xs.length c) (.dat (dSl k (.slice A xs.length c) xs) :: L)) : cCall P g f args ok w0 L KE :=
  c_callS hg hb (fun w H => (hc w H).mono fun e w' ⟨v, he, h1, h2⟩ => ⟨v, he, slR_any h1, h2⟩) hk
theorem c_callR0 {α : Type} {k : Ty α} {t : TypeId} {xs : List α} {KE : Value → List Item → Prop} {g : Bool} {f : FuncId} {args : List Value} (hg : g = true) (hb : bodyB P f = true) (hc : ∀ w, Own ok w0 w L → Calls P f args.toArray w fun e w' => ∃ v, e = .returned v ∧ (rowOut w w' (fun _ => False) k t v xs ∧ Bel w.heap.size w w'))
    (hk : ∀ A c, KE (.slice A xs.length c) (.dat (dSl k (.slice A xs.length c) xs) :: L)) : cCall P g f args ok w0 L KE :=
  c_callS hg hb (fun w H => (hc w H).mono fun e w' ⟨v, he, h1, h2⟩ => ⟨v, he, rowOut_sl (rowOut_any h1) h2, h2⟩) hk
end
section
variable {P : Program} {KF : Value → Prop} {g : Bool} {C : World → Prop}
theorem c_skipIA {t : TypeId} {x i : Value} (v : Value) (hg : g = false) (hk : KF v) : cIndexAddr P g t x i C KF := by
  unfold cIndexAddr cFloat; exact ⟨v, fun h => (by rw [hg] at h; cases h), hk⟩
theorem c_skipLD {t : TypeId} {x : Value} (v : Value) (hg : g = false) (hk : KF v) : cLoad P g t x C KF := by
  unfold cLoad cFloat; exact ⟨v, fun h => (by rw [hg] at h; cases h), hk⟩
theorem c_skipBN {op : BinOp} {t : TypeId} {xo yo : Operand} {x y : Value} (v : Value) (hg : g = false) (hk : KF v) : cBin P g op t xo yo x y C KF := by
  unfold cBin cFloat; exact ⟨v, fun h => (by rw [hg] at h; cases h), hk⟩
theorem c_skipCL {w0 : World} {ok : Nat → Prop} {L : List Item} {KE : Value → List Item → Prop} {f : FuncId} {args : List Value} (v : Value) (hg : g = false) (hk : KE v L) : cCall P g f args ok w0 L KE := by
  unfold cCall
  exact cEv_in ⟨fun u L' => u = v ∧ L' = L, fun _ u L' h => by rw [h.2]; exact List.Sublist.refl _, fun w H => ⟨fun h => (by rw [hg] at h; cases h), fun _ => ⟨v, L, ⟨rfl, rfl⟩, H⟩⟩, fun u L' h _ => by rw [h.1, h.2]; exact hk⟩
end
end Go.Eng
/- Elements of a row of the call's own: read, and written. -/
set_option linter.unusedVariables false
namespace Go.Eng
open Go.RowKit
set_option linter.unusedSectionVars false
variable [Inhabited Keep] [Inhabited Hard]

theorem setRange_get : ∀ (vs cs : List Value) (o j : Nat), o + vs.length ≤ cs.length → (setRange cs o vs)[j]? = if o ≤ j ∧ j < o + vs.length then vs[j - o]? else cs[j]? := by
  intro vs cs o j h
  rw [setRange_eq vs cs o h, List.append_assoc, List.getElem?_append]
  have h1 : (cs.take o).length = o := by rw [List.length_take]; omega
  rw [h1]
  by_cases hj : j < o
  · rw [if_pos hj, if_neg (by omega), List.getElem?_take_of_lt hj]
  · rw [if_neg hj, List.getElem?_append]
    by_cases hj2 : j - o < vs.length
    · rw [if_pos hj2, if_pos (by omega)]
    · rw [if_neg hj2, if_neg (by omega), List.getElem?_drop]
      congr 1; omega
theorem setCells_eq {b : Nat} : ∀ (vs : List Value) (w : World) (o k : Nat), setCells w ⟨b, o, none⟩ k vs = World.setCells w b (o + k) vs := by
  intro vs
  induction vs with
  | nil => intro w o k; rfl
  | cons v r ih =>
    intro w o k
    simp only [setCells, World.setCells, add_at]
    rw [ih]; rfl

theorem setCells_drawn {b : Nat} : ∀ (vs : List Value) (o : Nat) (w : World), (World.setCells w b o vs).drawn = w.drawn := by
  intro vs
  induction vs with
  | nil => intro o w; rfl
  | cons v r ih => intro o w; rw [World.setCells, ih]; rfl

/-! An element's cells within the row's. -/
theorem rowsR_at {α : Type} {k : Ty α} {w : World} {ok : Nat → Prop} : ∀ {xs : List α} {cells : List Value}, rowsR k w ok xs cells → ∀ {i : Nat} {y : α}, xs[i]? = some y → ∃ cs, k.R w ok y cs ∧ (cells.drop (i * k.sz)).take k.sz = cs ∧ (i + 1) * k.sz ≤ cells.length ∧
    ∀ y' cs', k.R w ok y' cs' → rowsR k w ok (xs.set i y') (cells.take (i * k.sz) ++ cs' ++ cells.drop ((i + 1) * k.sz)) := by
  intro xs
  induction xs with
  | nil => intro cells _ i y h; simp at h
  | cons x xs ih =>
    intro cells h i y hy
    obtain ⟨c, d, rfl, hx, hr⟩ := h
    have hc := k.len hx
    cases i with
    | zero =>
      cases hy
      refine ⟨c, hx, by simp [hc], by simp [hc], fun y' cs' h' => ⟨cs', d, by simp [hc], h', hr⟩⟩
    | succ i =>
      obtain ⟨cs, h1, h2, h3, h4⟩ := ih hr (by simpa using hy)
      have e1 : (i + 1) * k.sz = k.sz + i * k.sz := by rw [Nat.succ_mul]; omega
      have e2 : (i + 1 + 1) * k.sz = k.sz + (i + 1) * k.sz := by rw [Nat.succ_mul]; omega
      refine ⟨cs, h1, ?_, ?_, fun y' cs' h' => ⟨c, d.take (i * k.sz) ++ cs' ++ d.drop ((i + 1) * k.sz), ?_, hx, h4 y' cs' h'⟩⟩
      · rw [e1, ← List.drop_drop, List.drop_left' hc]; exact h2
      · rw [List.length_append, hc, e2]; omega
      · rw [e1, e2, ← List.drop_drop, List.drop_left' hc, List.take_append, List.take_of_length_le (by omega : c.length ≤ k.sz + i * k.sz), hc]
        have : k.sz + i * k.sz - k.sz = i * k.sz := by omega
        rw [this]; simp [e1]
section
variable {P : Program} {w w0 : World} {K : Value → World → Prop} {g : Bool} {ok : Nat → Prop} {L : List Item}
/-- An element of an own row: its cells, at its place. -/
theorem Own.rowElem {α : Type} {k : Ty α} {e : TypeId} {A : Option Addr} {n c : Nat} {xs : List α} {cells : List Value} {x : Int} {y : α} (H : Own ok w0 w L) (i j : Nat) (hi : L[i]? = some (.row (.slice A n c) e k.sz n cells)) (hj : L[j]? = some (.dat (dRows k xs cells))) (hn : n = xs.length) (hx : idxL xs x = some y) :
    ∃ a cs, A = some a ∧ k.R w (okOf ok w0 L) y cs ∧ cellsAt w (a.add (x.toNat * k.sz)) 0 cs := by
  obtain ⟨h0, h1, h2⟩ := idxL_some hx
  obtain ⟨a, hA, hc⟩ := H.rowCells i hi (by omega)
  obtain ⟨cs, g1, g2, g3, _⟩ := rowsR_at (H.dat j hj) h2
  refine ⟨a, cs, hA, g1, cellsAt_of fun q v hq => ?_⟩
  rw [add_add, Nat.zero_add]
  refine hc _ v ?_
  rw [← g2, List.getElem?_take] at hq
  split at hq
  · rw [List.getElem?_drop] at hq; exact hq
  · cases hq
theorem Own.rowElemJ {α : Type} {k : Ty α} {e : TypeId} {a : Addr} {n c : Nat} {xs : List α} {cells : List Value} {x : Int} {y : α} (H : Own ok w0 w L) (i j : Nat) (hi : L[i]? = some (.row (.slice (some a) n c) e k.sz n cells)) (hj : L[j]? = some (.dat (dRows k xs cells))) (hn : n = xs.length) (hx : idxL xs x = some y) :
    ∃ cs, k.R w (okOf ok w0 L) y cs ∧ cellsAt w (a.add (x.toNat * k.sz)) 0 cs := by
  obtain ⟨a', cs, h, h1, h2⟩ := H.rowElem i j hi hj hn hx
  cases h
  exact ⟨cs, h1, h2⟩
theorem load_at {t : TypeId} {a : Addr} {cs : List Value} {v : Value} (hc : cellsAt w a 0 cs) (j : Nat) (ha : aggB P t = some false) (hj : cs[j]? = some v) (hk : K v w) : nLoad P g t (.pointer (some (a.add j))) w K := by
  have := cellsAt_get hc hj
  rw [Nat.zero_add] at this
  exact load_rule ha (fun _ => this) hk
/-- A store into an element of an own row. -/
theorem own_rowStore {α : Type} {k : Ty α} {t e : TypeId} {m : Nat} {a : Addr} {n c : Nat} {xs : List α} {y : α} {cells : List Value} {x : Value} (y' : α) (H : Own ok w0 w L) (i j : Nat) (hi : L[i]? = some (.row (.slice (some a) n c) e k.sz n cells)) (hj : L[j]? = some (.dat (dRows k xs cells))) (ix : Int) (off : Nat) (hn : n = xs.length) (hx : idxL xs ix = some y)
    (hs : sizeB P t = some m) (vs : List Value) (hxv : x.cells = vs.toArray) (hl : vs.length = m) (ho : allOne vs = true) (hr : Nat.ble (off + m) k.sz = true) (hy : ∀ cs, k.R w (okOf ok w0 L) y cs → k.R w (okOf ok w0 L) y' (setRange cs off vs))
    (hk : ∀ cells' w', Own ok w0 w' ((L.set i (.row (.slice (some a) n c) e k.sz n cells')).set j (.dat (dRows k (xs.set ix.toNat y') cells'))) → K undef w') : nStore P true t (.pointer (some ((a.add (ix.toNat * k.sz)).add off))) x w K := by
  obtain ⟨h0, h1, h2⟩ := idxL_some hx
  have hr := Nat.le_of_ble_eq_true hr
  have hq : qRow w e k.sz (.slice (some a) n c) n cells := H.at hi
  obtain ⟨cs, g1, g2, g3, g4⟩ := rowsR_at (H.dat j hj) h2
  rcases hq.2 with ⟨hz, _⟩ | ⟨b, off0, cap, cur, hv, hg, hnc, hcm, hcs, ht⟩
  · omega
  have hcl := hq.1
  injection hv with e1 e2 e3
  injection e1 with e1
  subst e1 e3
  have hij : i ≠ j := fun h => by subst h; rw [hi] at hj; cases hj
  have hil : ix.toNat < n := by omega
  have hb1 : (ix.toNat + 1) * k.sz ≤ n * k.sz := Nat.mul_le_mul_right _ hil
  have hb2 : (ix.toNat + 1) * k.sz = ix.toNat * k.sz + k.sz := Nat.succ_mul _ _
  have hb3 : n * k.sz ≤ c * k.sz := Nat.mul_le_mul_right _ hnc
  have hb4 : (off0 + c) * k.sz = off0 * k.sz + c * k.sz := Nat.add_mul _ _ _
  have hcl2 : (cells.drop (ix.toNat * k.sz)).length = n * k.sz - ix.toNat * k.sz := by rw [List.length_drop, hcl]
  have hcsl : cs.length = k.sz := k.len g1
  -- the world behind
  let o := off0 * k.sz + (ix.toNat * k.sz + off)
  have hcur : o + vs.length ≤ cur.toList.length := by simp only [Array.length_toList, hcs, hb4, hl]; show off0 * k.sz + (ix.toNat * k.sz + off) + m ≤ _; omega
  have hw : setCells w ((Addr.mk b (off0 * k.sz) none).add (ix.toNat * k.sz) |>.add off) 0 vs = World.setCells w b o vs := by
    rw [add_add, add_at, setCells_eq]; rfl
  have hat : (World.setCells w b o vs).heap[b]? = some (.cells (setRange cur.toList o vs).toArray e (0, 0)) := setCells_at vs o w cur hg
  have hother := fun q (hq : q ≠ b) => setCells_other vs o w q hq
  obtain ⟨z1, z2, z3, z4⟩ := setCells_size (b := b) vs o w
  have hgrown : w.grownBy (World.setCells w b o vs) (some b) := ⟨z1, z2, z3, by rw [z4]; exact Nat.le_refl _, fun q _ hne => hother q (fun h => hne (by rw [h]))⟩
  have hnew : qRow (World.setCells w b o vs) e k.sz (.slice (some ⟨b, off0 * k.sz, none⟩) n c) n (setRange cells (ix.toNat * k.sz + off) vs) := by
    refine ⟨by rw [setRange_len]; exact hcl, .inr ⟨b, off0, c, _, rfl, hat, hnc, hcm, by simp [setRange_len, hcs], ?_⟩⟩
    apply List.ext_getElem?
    intro q
    rw [List.getElem?_take, setRange_get _ _ _ _ (by rw [hcl, hl]; omega)]
    have hcq : cells[q]? = if q < n * k.sz then cur.toList[off0 * k.sz + q]? else none := by
      rw [← ht, List.getElem?_take]
      split
      · rw [List.getElem?_drop]
      · rfl
    split
    · rename_i hqn
      rw [List.getElem?_drop]
      show (setRange cur.toList o vs)[off0 * k.sz + q]? = _
      rw [setRange_get _ _ _ _ hcur]
      by_cases hin : ix.toNat * k.sz + off ≤ q ∧ q < ix.toNat * k.sz + off + vs.length
      · rw [if_pos hin, if_pos (by show off0 * k.sz + (ix.toNat * k.sz + off) ≤ _ ∧ _ < off0 * k.sz + (ix.toNat * k.sz + off) + _; omega)]
        congr 1
        show off0 * k.sz + q - (off0 * k.sz + (ix.toNat * k.sz + off)) = _
        omega
      · rw [if_neg hin, if_neg (by show ¬ (off0 * k.sz + (ix.toNat * k.sz + off) ≤ _ ∧ _ < off0 * k.sz + (ix.toNat * k.sz + off) + _); omega), hcq, if_pos hqn]
    · rename_i hqn
      rw [if_neg (by rw [hl]; omega), hcq, if_neg hqn]
  obtain ⟨A, B, hL, hset⟩ := list_split hi
  have H1 : Own ok w0 (World.setCells w b o vs) (L.set i (.row (.slice (some ⟨b, off0 * k.sz, none⟩) n c) e k.sz n (setRange cells (ix.toNat * k.sz + off) vs))) := by
    rw [hset]
    subst hL
    exact Own.setRow (v := .slice (some ⟨b, off0 * k.sz, none⟩) n c) (v' := .slice (some ⟨b, off0 * k.sz, none⟩) n c) H hgrown (Nat.le_of_eq (setCells_drawn vs o w).symm) hnew (.inl rfl)
  have hj' : (L.set i (.row (.slice (some ⟨b, off0 * k.sz, none⟩) n c) e k.sz n (setRange cells (ix.toNat * k.sz + off) vs)))[j]? = some (.dat (dRows k xs cells)) := by rw [List.getElem?_set_ne hij]; exact hj
  have hokeq : okOf ok w0 (L.set i (.row (.slice (some ⟨b, off0 * k.sz, none⟩) n c) e k.sz n (setRange cells (ix.toNat * k.sz + off) vs))) = okOf ok w0 L := by
    have : muts (L.set i (.row (.slice (some ⟨b, off0 * k.sz, none⟩) n c) e k.sz n (setRange cells (ix.toNat * k.sz + off) vs))) = muts L := by
      rw [hset]; subst hL; rw [muts_split, muts_split]; rfl
    unfold okOf; rw [this]
  -- the element is another one
  have hy2 := hy cs g1
  have hsz : cells.take (ix.toNat * k.sz) ++ setRange cs off vs ++ cells.drop ((ix.toNat + 1) * k.sz) = setRange cells (ix.toNat * k.sz + off) vs := by
    apply List.ext_getElem?
    intro q
    have l1 : (cells.take (ix.toNat * k.sz)).length = ix.toNat * k.sz := by rw [List.length_take, hcl]; omega
    rw [setRange_get _ _ _ _ (by rw [hcl, hl]; omega), List.append_assoc, List.getElem?_append, l1]
    by_cases q1 : q < ix.toNat * k.sz
    · rw [if_pos q1, if_neg (by omega), List.getElem?_take_of_lt q1]
    · rw [if_neg q1, List.getElem?_append, setRange_len, hcsl]
      by_cases q2 : q - ix.toNat * k.sz < k.sz
      · rw [if_pos q2, setRange_get _ _ _ _ (by rw [hcsl, hl]; omega)]
        by_cases hin : off ≤ q - ix.toNat * k.sz ∧ q - ix.toNat * k.sz < off + vs.length
        · rw [if_pos hin, if_pos (by omega)]; congr 1; omega
        · rw [if_neg hin, if_neg (by omega), ← g2, List.getElem?_take_of_lt q2, List.getElem?_drop]; congr 1; omega
      · rw [if_neg q2, if_neg (by rw [hl]; omega), List.getElem?_drop]; congr 1; omega
  have hstep : k.R (World.setCells w b o vs) (okOf ok w0 L) y' (setRange cs off vs) := by
    refine k.step (fun q hq hlt => hother q fun hqb => hq.2 ?_) hy2
    subst hqb
    exact mem_muts.2 ⟨_, List.mem_of_getElem? hi, by show q ∈ (Value.slice (some ⟨q, off0 * k.sz, none⟩) n c).ownBlock.toList; simp [Value.ownBlock]⟩
  have hrows0 : rowsR k (World.setCells w b o vs) (okOf ok w0 L) xs cells := by have := H1.dat j hj'; rw [hokeq] at this; exact this
  obtain ⟨cs2, q1, q2, q3, q4⟩ := rowsR_at hrows0 h2
  have hrows := q4 y' _ hstep
  rw [hsz] at hrows
  have H2 := H1.setDat j (d' := dRows k (xs.set ix.toNat y') (setRange cells (ix.toNat * k.sz + off) vs)) hj' (by rw [hokeq]; exact hrows)
  -- the store itself
  unfold nStore
  refine nOp_in ⟨fun _ => ?_, fun h => by cases h⟩
  rw [su_run (w' := World.setCells w b o vs)]
  · exact hk _ _ H2
  · have hszx : x.cells.size = m := by rw [hxv]; simpa using hl
    simp only [Instr.storeAt, Instr.sureAddr, Sem.run_bind, Sem.run_pure, Result.andThen_ok, storeVar, run_sizeOf hs, hszx]
    simp only [ne_eq, not_true, if_false, hxv]
    rw [← hw]
    refine run_storeCells vs 0 w (allOne_ok ho) fun q v hqv => ?_
    have hql : q < vs.length := (List.getElem?_eq_some_iff.1 hqv).1
    rw [add_add, add_at, Nat.zero_add, add_at]
    have hlt : off0 * k.sz + (ix.toNat * k.sz + off) + q < cur.size := by
      have : o + vs.length ≤ cur.toList.length := hcur
      simp only [Array.length_toList] at this
      show o + q < cur.size
      omega
    refine ⟨⟨cur[off0 * k.sz + (ix.toNat * k.sz + off) + q], ?_⟩, ?_⟩
    · have e9 : off0 * k.sz + ix.toNat * k.sz + (off + q) = off0 * k.sz + (ix.toNat * k.sz + off) + q := by omega
      simp [World.cell?, hg]
      rw [e9]; exact Array.getElem?_eq_getElem hlt
    · simp [World.frozen?, hg]
end
end Go.Eng
/- More that printed walks lean on: scopes, own rows' elements in an open order, own rows cut short, results that lie in memory. -/
set_option linter.unusedVariables false
namespace Go.Eng
open Go.RowKit
set_option linter.unusedSectionVars false
variable [Inhabited Keep] [Inhabited Hard]

section
variable {P : Program} {n : Nat} {ds : List Nat} {x : Code} {e : Env} {w : World} {K : EK}
def noGo (K : EK) : EK
  | .goto _, _, _, _ => False
  | x, ds, e, w => K x ds e w
/-- A scope through which the run goes without a jump. -/
theorem nc_scope (h : nCode P none n ds x e w (noGo K)) : nCode P none n ds (.scope x) e w K :=
  nCode_in fun a hf => (wpIn_wide (n := 0)).2 (wp_scope_straight (wpIn_wide.1 (wpIn_mono (nCode_out h a hf) fun ex a' w' hq => by
    obtain ⟨ds', e', hf', hk⟩ := hq
    cases ex with
    | goto l => exact hk.elim
    | normal => exact ⟨ds', e', hf', hk⟩
    | exit id => exact ⟨ds', e', hf', hk⟩
    | ret => exact ⟨ds', e', hf', hk⟩
    | panic ch => exact ⟨ds', e', hf', hk⟩
    | outgrown => exact ⟨ds', e', hf', hk⟩)))
end
section
variable {P : Program} {w : World} {K : Value → World → Prop} {KF : Value → Prop} {g : Bool} {C : World → Prop}
theorem idxA_ruleJ {t e : TypeId} {a : Addr} {n c : Nat} {kk : IntKind} (sz : Nat) (x J : Int) (hJ : some x = some J) (ht : sliceB P t = some e) (hs : sizeB P e = some sz) (h0 : 0 ≤ J) (h1 : J < (n : Int)) (hk : K (.pointer (some (a.add (J.toNat * sz)))) w) : nIndexAddr P g t (.slice (some a) n c) (.int kk x) w K := by
  cases hJ; exact idxA_rule sz x ht hs h0 h1 hk
end
theorem idxL_set {α : Type} {xs : List α} {ix : Int} {y : α} (h : idxL xs ix = some y) (y' : α) : idxL (xs.set ix.toNat y') ix = some y' := by
  obtain ⟨h0, h1, h2⟩ := idxL_some h
  obtain ⟨i, rfl⟩ := Int.eq_ofNat_of_zero_le h0
  rw [idxL_nat]
  simp only [Int.toNat_natCast]
  rw [List.getElem?_set_self (by omega)]
section
variable {P : Program} {w w0 : World} {K : Value → World → Prop} {KF : Value → Prop} {g : Bool} {ok : Nat → Prop} {L : List Item}
theorem c_rowLoad {α : Type} {k : Ty α} {t e : TypeId} {a : Addr} {n c : Nat} {xs : List α} {cells : List Value} {y : α} {v : Value} (ix : Int) (i j off : Nat) (hi : L[i]? = some (.row (.slice (some a) n c) e k.sz n cells)) (hj : L[j]? = some (.dat (dRows k xs cells))) (hn : n = xs.length) (hx : idxL xs ix = some y) (ha : aggB P t = some false)
    (hv : ∀ w ok cs, k.R w ok y cs → cs[off]? = some v) (hk : KF v) : cLoad P g t (.pointer (some ((a.add (ix.toNat * k.sz)).add off))) (fun w => Own ok w0 w L) KF := by
  unfold cLoad cFloat
  refine ⟨v, fun hg w H => ?_, hk⟩
  obtain ⟨cs, hR, hC⟩ := H.rowElemJ i j hi hj hn hx
  have h := load_at (P := P) (g := true) (K := fun v' w' => v' = v ∧ w' = w) hC off ha (hv _ _ _ hR) ⟨rfl, rfl⟩
  unfold nLoad at h
  have h := (nOp_out h).1 rfl
  unfold sv at h ⊢
  rw [Sem.run_bind] at h ⊢
  have hl : (Instr.loadAt t (.pointer (some ((a.add (ix.toNat * k.sz)).add off)))).run P w = .ok v w := by
    have := cellsAt_get hC (hv _ _ _ hR)
    rw [Nat.zero_add] at this
    show (loadVar t _).run P w = _
    exact load1_run ha this
  rw [hl]; rfl
theorem c_rowStore {KE : Value → List Item → Prop} {α : Type} {k : Ty α} {t e : TypeId} {m : Nat} {a : Addr} {n c : Nat} {xs : List α} {y : α} {cells : List Value} {x : Value} (y' : α) (i j : Nat) (hi : L[i]? = some (.row (.slice (some a) n c) e k.sz n cells)) (hj : L[j]? = some (.dat (dRows k xs cells))) (ix : Int) (off : Nat) (hn : n = xs.length) (hx : idxL xs ix = some y)
    (hs : sizeB P t = some m) (vs : List Value) (hxv : x.cells = vs.toArray) (hl : vs.length = m) (ho : allOne vs = true) (hr : Nat.ble (off + m) k.sz = true) (hy : ∀ w ok cs, k.R w ok y cs → k.R w ok y' (setRange cs off vs))
    (hk : ∀ cells', KE undef ((L.set i (.row (.slice (some a) n c) e k.sz n cells')).set j (.dat (dRows k (xs.set ix.toNat y') cells')))) : cStore P true t (.pointer (some ((a.add (ix.toNat * k.sz)).add off))) x ok w0 L KE := by
  unfold cStore
  refine cEv_in ⟨fun u L' => u = undef ∧ ∃ cells', L' = (L.set i (.row (.slice (some a) n c) e k.sz n cells')).set j (.dat (dRows k (xs.set ix.toNat y') cells')), fun h => (by cases h), fun w H => ?_, fun u L' h _ => by obtain ⟨rfl, cells', rfl⟩ := h; exact hk cells'⟩
  have h := own_rowStore (P := P) (t := t) (K := fun u w' => ∃ L', (u = undef ∧ ∃ cells', L' = (L.set i (.row (.slice (some a) n c) e k.sz n cells')).set j (.dat (dRows k (xs.set ix.toNat y') cells'))) ∧ Own ok w0 w' L') y' H i j hi hj ix off hn hx hs vs hxv hl ho hr (fun cs h => hy _ _ cs h) (fun cells' w' H' => ⟨_, ⟨rfl, cells', rfl⟩, H'⟩)
  unfold nStore at h
  exact nOp_out h
theorem rowsR_take {α : Type} {k : Ty α} {w : World} {ok : Nat → Prop} : ∀ {xs : List α} {cells : List Value} (m : Nat), rowsR k w ok xs cells → m ≤ xs.length → rowsR k w ok (xs.take m) (cells.take (m * k.sz))
  | xs, cells, 0, h, _ => by simp [rowsR]
  | [], cells, m + 1, h, hm => by simp at hm
  | x :: xs, cells, m + 1, h, hm => by
    obtain ⟨c, d, rfl, hx, hr⟩ := h
    have hc := k.len hx
    have := rowsR_take m hr (by simpa using hm)
    refine ⟨c, d.take (m * k.sz), ?_, hx, this⟩
    rw [Nat.succ_mul, List.take_append, hc, List.take_of_length_le (by omega)]
    congr 2; omega
/-- An own row, cut short, takes its own place. -/
theorem own_rowTake {α : Type} {k : Ty α} {t e : TypeId} {A : Option Addr} {n c : Nat} {xs y : List α} {cells : List Value} {hi' : Value} (h : Int) (H : Own ok w0 w L) (i j : Nat) (hi : L[i]? = some (.row (.slice A n c) e k.sz n cells)) (hj : L[j]? = some (.dat (dRows k xs cells))) (hn : n = xs.length) (ht : sliceB P t = some e) (hs : sizeB P e = some k.sz) (hhi : hiI (some hi') n h) (hm : slcM xs 0 h = some y)
    (hk : ∀ A' c' cells', Own ok w0 w ((L.set i (.row (.slice A' y.length c') e k.sz y.length cells')).set j (.dat (dRows k y cells'))) → K (.slice A' y.length c') w) : nSlice P g t (.slice A n c) none (some hi') none w K := by
  obtain ⟨h0, h1, h2, rfl⟩ := slcS hm
  obtain ⟨q, rfl⟩ := Int.eq_ofNat_of_zero_le h1
  subst hn
  have hij : i ≠ j := fun h => by subst h; rw [hi] at hj; cases hj
  have hc : xs.length ≤ c := by obtain ⟨A', c', hv, _, hc⟩ := H.rowSl i hi; cases hv; exact hc
  have hq : q ≤ xs.length := by omega
  refine pieceI_rule (xs := xs) (y := (xs.drop (0 : Int).toNat).take ((q : Int).toNat - (0 : Int).toNat)) k.sz 0 q ht hs rfl hhi hm ⟨rfl, hc⟩ rfl ?_
  have e0 : (xs.drop (0 : Int).toNat).take ((q : Int).toNat - (0 : Int).toNat) = xs.take q := by simp
  have el : (xs.take q).length = q := by simp; omega
  have H1 := H.rowPiece (l := 0) (h := q) i hi (Nat.zero_le _) hq
  have hR := rowsR_take q (H.dat j hj) hq
  have hpv : piece A c (0 : Int).toNat (q : Int).toNat k.sz = .slice (if c = 0 then A else A.map (·.add (0 * k.sz))) q c := by simp [piece]
  rw [hpv]
  have e1 : (cells.drop (0 * k.sz)).take ((q - 0) * k.sz) = cells.take (q * k.sz) := by simp
  rw [e1] at H1
  have hpv2 : piece A c 0 q k.sz = .slice (if c = 0 then A else A.map (·.add (0 * k.sz))) q c := by simp [piece]
  rw [hpv2, Nat.sub_zero] at H1
  have hj' : (L.set i (.row (.slice (if c = 0 then A else A.map (·.add (0 * k.sz))) q c) e k.sz q (cells.take (q * k.sz))))[j]? = some (.dat (dRows k xs cells)) := by rw [List.getElem?_set_ne hij]; exact hj
  have hok : okOf ok w0 (L.set i (.row (.slice (if c = 0 then A else A.map (·.add (0 * k.sz))) q c) e k.sz q (cells.take (q * k.sz)))) = okOf ok w0 L := by
    obtain ⟨X, Y, hL, hset⟩ := list_split hi
    have : muts (L.set i (.row (.slice (if c = 0 then A else A.map (·.add (0 * k.sz))) q c) e k.sz q (cells.take (q * k.sz)))) = muts L := by
      rw [hset]
      conv => rhs; rw [hL]
      rw [muts_split, muts_split]
      have hb : (Value.slice (if c = 0 then A else A.map (·.add (0 * k.sz))) q c).ownBlock = (Value.slice A xs.length c).ownBlock := by
        have := piece_block A c 0 q k.sz
        rw [hpv2] at this
        rw [this]; cases A <;> rfl
      simp only [muts, List.flatMap_cons, Item.muts, hb]
    unfold okOf; rw [this]
  have H2 := H1.setDat j (d' := dRows k (xs.take q) (cells.take (q * k.sz))) hj' (by rw [hok]; exact hR)
  have := hk (if c = 0 then A else A.map (·.add (0 * k.sz))) c (cells.take (q * k.sz)) (by rw [e0, el]; exact H2)
  rw [e0, el] at this
  exact this
/-! Results that lie in memory. -/
theorem Own.resA {t t' : TypeId} {b : Nat} {m : Nat} {cs : List Value} (H : Own ok w0 w L) (i : Nat) (hi : L[i]? = some (.blk b cs t')) (ha : aggB P t = some true) (hs : sizeB P t = some m) (hl : cs.length = m) : (loadVar t ⟨b, 0, none⟩).run P w = .ok (.agg cs.toArray) w :=
  loadA_run ha hs hl (cellsAt_blk (H.blk i hi) 0 cs 0 (fun j v hj => by simpa using hj))
end
section
variable {P : Program} {w0 : World} {ok : Nat → Prop} {L : List Item}
theorem c_buildEmpty {α : Type} {k : Ty α} {KE : Value → List Item → Prop} {t e : TypeId} (ht : sliceB P t = some e) (hs : sizeB P e = some k.sz)
    (hk : ∀ A c, KE (.slice A 0 c) (.dat (dRows k [] []) :: .row (.slice A 0 c) e k.sz 0 [] :: L)) : cBuildSlice P true t 0 [] ok w0 L KE := by
  unfold cBuildSlice
  refine cEv_in ⟨fun v L' => ∃ A c, v = .slice A 0 c ∧ L' = .dat (dRows k [] []) :: .row (.slice A 0 c) e k.sz 0 [] :: L, fun _ v L' ⟨A, c, _, h⟩ => by rw [h]; exact (List.sublist_cons_self _ _).trans (List.sublist_cons_self _ _), fun w H => ?_, fun v L' ⟨A, c, hv, hL⟩ _ => by rw [hv, hL]; exact hk A c⟩
  have h := own_buildEmpty (P := P) (K := fun v w' => ∃ L', (∃ A c, v = .slice A 0 c ∧ L' = .dat (dRows k [] []) :: .row (.slice A 0 c) e k.sz 0 [] :: L) ∧ Own ok w0 w' L') H ht hs (fun v w' H' => by
    obtain ⟨A, c, rfl, _, _⟩ := H'.rowSl 0 rfl
    exact ⟨_, ⟨A, c, rfl, rfl⟩, H'.addDat (dRows k [] []) rfl⟩)
  unfold nBuildSlice at h
  exact nOp_out h
theorem c_appendD {KE : Value → List Item → Prop} {α : Type} {k : Ty α} {t ty e : TypeId} {n : Nat} {z v u : Value} {xs ys : List α} {cells : List Value} {consts : Array Bool} (by_ : Nat) (i j m : Nat) (hi : L[i]? = some (.row v e k.sz n cells)) (hj : L[j]? = some (.dat (dRows k xs cells))) (hm : L[m]? = some (.dat (dSl k u ys))) (hn : n = xs.length)
    (ht : sliceB P t = some e) (hinfo : infoB P e = some (some z, k.sz, by_)) (hzl : z.cells.toList.length = k.sz) (hpos : Nat.blt 0 k.sz = true) (hb : (xs.length + ys.length) * by_ ≤ 140737488355328) (hby : Nat.blt 0 by_ = true)
    (hk : ∀ A c cells', KE (.slice A (xs ++ ys).length c) ((L.set i (.row (.slice A (xs ++ ys).length c) e k.sz (xs ++ ys).length cells')).set j (.dat (dRows k (xs ++ ys) cells')))) : cBuiltin P true .append [t, t] ty [v, u] consts ok w0 L KE := by
  unfold cBuiltin
  refine cEv_in ⟨fun u' L' => ∃ A c cells', u' = .slice A (xs ++ ys).length c ∧ L' = (L.set i (.row (.slice A (xs ++ ys).length c) e k.sz (xs ++ ys).length cells')).set j (.dat (dRows k (xs ++ ys) cells')), fun h => (by cases h), fun w H => ?_, fun u' L' h _ => by obtain ⟨A, c, cells', rfl, rfl⟩ := h; exact hk A c cells'⟩
  have hij : i ≠ j := fun h => by subst h; rw [hi] at hj; cases hj
  have h := own_appendD (P := P) (K := fun u' w' => ∃ L', (∃ A c cells', u' = .slice A (xs ++ ys).length c ∧ L' = (L.set i (.row (.slice A (xs ++ ys).length c) e k.sz (xs ++ ys).length cells')).set j (.dat (dRows k (xs ++ ys) cells'))) ∧ Own ok w0 w' L') (ty := ty) (consts := consts) by_ H i j m hi hj hm hn ht hinfo hzl hpos hb hby (fun v' cells' w' H' => by
    have hi2 : ((L.set i (.row v' e k.sz (xs ++ ys).length cells')).set j (.dat (dRows k (xs ++ ys) cells')))[i]? = some (.row v' e k.sz (xs ++ ys).length cells') := by
      rw [List.getElem?_set_ne (Ne.symm hij)]
      exact List.getElem?_set_self (List.getElem?_eq_some_iff.1 hi).1
    obtain ⟨A, c, rfl, _, _⟩ := H'.rowSl i hi2
    exact ⟨_, ⟨A, c, cells', rfl, rfl⟩, H'⟩)
  unfold nBuiltin at h
  exact nOp_out h
end
/-! ### Bytes as a text -/
def strM (xs : List Int) : Option (List UInt8) := if xs ≠ [] ∧ ∀ x ∈ xs, 0 ≤ x ∧ x ≤ 255 then some (xs.map fun x => UInt8.ofNat x.toNat) else none
theorem strS {xs : List Int} {y : List UInt8} (h : strM xs = some y) : y ≠ [] ∧ xs = y.map fun b => (b.toNat : Int) := by
  unfold strM at h
  split at h
  · rename_i hx
    replace h := Option.some.inj h
    subst h
    refine ⟨by simpa using hx.1, ?_⟩
    rw [List.map_map]
    refine (List.map_id' xs).symm.trans ?_
    refine List.map_congr_left fun x hm => ?_
    have := hx.2 x hm
    simp only [Function.comp]
    rw [UInt8.toNat_ofNat']
    have e : x.toNat % 2 ^ 8 = x.toNat := Nat.mod_eq_of_lt (by omega)
    rw [e]
    omega
  · cases h
section
variable {P : Program} {w w0 : World} {K : Value → World → Prop} {g : Bool} {ok : Nat → Prop} {L : List Item}
/-- Bytes that are data as a text. -/
theorem own_strD {s d e : TypeId} {v : Value} {xs : List Int} {y : List UInt8} (H : Own ok w0 w L) (i : Nat) (hi : L[i]? = some (.dat (dSl (tInt .u8) v xs))) (hm : strM xs = some y) (hs : byteSl P s = some e) (hd : strB P d = true) (hk : K (.string (bs y)) w) : nConvert P g s d v w K := by
  obtain ⟨hy, rfl⟩ := strS hm
  obtain ⟨A, c, rfl, hc, h⟩ := H.dat i hi
  rcases h with ⟨h0, _⟩ | ⟨a, rfl, _, _, hcell⟩
  · exact absurd (List.map_eq_nil_iff.1 h0) hy
  · unfold byteSl at hs
    split at hs
    · rename_i e' he'
      split at hs
      · rename_i hu8
        cases hs
        have hu : P.underlying s = some (.slice e) := by
          unfold sliceB at he'
          split at he'
          · rename_i hu; cases he'; exact hu
          · cases he'
        have hus : P.underlying d = some .string := by
          unfold strB at hd
          split at hd
          · assumption
          · cases hd
        unfold nConvert
        rw [List.length_map]
        refine nOp_now (fun _ => sv_run (run_convert_bytes_back w s d e a c y hu hu8 hus fun j hj => ?_)) hk
        obtain ⟨cs, h1, h2⟩ := hcell j ((y[j].toNat : Nat) : Int) (by rw [List.getElem?_map, List.getElem?_eq_getElem hj]; rfl)
        have h1 : cs = [.int .u8 ((y[j].toNat : Nat) : Int)] := h1
        subst h1
        have h3 := h2.1
        rw [show (tInt .u8).sz = 1 from rfl, Nat.mul_one] at h3
        have e0 : ∀ b : Addr, b.add 0 = b := fun b => by unfold Addr.add; cases b; simp
        rw [e0] at h3
        exact h3
      · cases hs
    · cases hs
end
section
variable {P : Program} {w0 : World} {ok : Nat → Prop} {L : List Item}
end
def andI (k : IntKind) (x y : Int) : Int := k.wrap ((BitVec.ofInt k.bits x &&& BitVec.ofInt k.bits y).toNat : Int)
/-! ### A text as bytes -/
section
variable {P : Program} {w w0 : World} {K : Value → World → Prop} {g : Bool} {ok : Nat → Prop} {L : List Item}
end
end Go.Eng
/- A range over a text whose bytes are all below 128: byte by byte. -/
set_option linter.unusedVariables false
namespace Go.Eng
open Go.RowKit
set_option linter.unusedSectionVars false
variable [Inhabited Keep] [Inhabited Hard]
variable {P : Program} {ok : Nat → Prop} {w0 w : World} {L : List Item} {K : Value → World → Prop}

theorem decode_ascii {s : List UInt8} {i : Nat} {c : UInt8} (h : s[i]? = some c) (hc : c.toNat < 128) : Utf8.decode (bs s) i = (c.toNat, 1) := by
  obtain ⟨hi, he⟩ := List.getElem?_eq_some_iff.1 h
  have hg : ((bs s).get! (i + 0)) = c := by
    rw [Nat.add_zero]
    show (s.toArray)[i]! = c
    rw [getElem!_pos s.toArray i (by simpa using hi)]
    simpa using he
  unfold Utf8.decode
  simp only [hg]
  rw [if_pos (by omega)]
theorem rangeStr_rule {t : TypeId} {s : List UInt8} (ht : strB P t = true) (H : Own ok w0 w L) (hk : ∀ r w', Own ok w0 w' (.obj r (· = .stringIter (bs s) 0) :: L) → K (.pointer (some ⟨r, 0, none⟩)) w') : nRange P true t (.string (bs s)) w K := by
  unfold nRange
  refine nOp_in ⟨fun _ => ?_, fun h => by cases h⟩
  rw [sv_run (v := .pointer (some ⟨w.heap.size, 0, none⟩)) (w' := w.alloc (.stringIter (bs s) 0))]
  · exact hk _ _ (H.allocObj _ rfl)
  · simp [Instr.range, run_underlying_str ht]
theorem nextStr_rule {t : TypeId} {s : List UInt8} {r pos : Nat} (hs : ∀ c ∈ s, c.toNat < 128) (H : Own ok w0 w L) (j : Nat) (hj : L[j]? = some (.obj r (· = .stringIter (bs s) pos)))
    (hend : s.length ≤ pos → K (.tuple #[.bool false]) w) (hk : ∀ c w', s[pos]? = some c → Own ok w0 w' (L.set j (.obj r (· = .stringIter (bs s) (pos + 1)))) → K (.tuple #[.bool true, .int .i64 (pos : Int), .int .i32 (c.toNat : Int)]) w') : nNext P true (.pointer (some ⟨r, 0, none⟩)) true t w K := by
  unfold nNext
  refine nOp_in ⟨fun _ => ?_, fun h => by cases h⟩
  obtain ⟨o, ho, rfl⟩ := H.obj j hj
  have hget : (getObj r).run P w = .ok (.stringIter (bs s) pos) w := by simp [getObj, Sem.run, ho]
  have hsz : (bs s).size = s.length := by simp [bs, ByteArray.size]
  by_cases hp : pos < s.length
  · have hc : s[pos]? = some s[pos] := List.getElem?_eq_getElem hp
    have hdec := decode_ascii hc (hs _ (List.getElem_mem hp))
    rw [sv_run (v := .tuple #[.bool true, .int .i64 (pos : Int), .int .i32 (s[pos].toNat : Int)]) (w' := w.putObj r (.stringIter (bs s) (pos + 1)))]
    · exact hk s[pos] _ hc (H.setObjAt j hj _ rfl)
    · unfold Instr.next
      simp only [Sem.run_bind, hget, Result.andThen_ok]
      rw [if_pos (by rw [hsz]; exact hp), hdec]
      simp [Go.setObj, Sem.run, ho, World.putObj, goInt]
  · rw [sv_run (v := .tuple #[.bool false]) (w' := w)]
    · exact hend (by omega)
    · unfold Instr.next
      simp only [Sem.run_bind, hget, Result.andThen_ok]
      rw [if_neg (by rw [hsz]; exact hp)]
      rfl
end Go.Eng
/- What comes in, opened as the engine's kinds: whole numbers, bools, texts, structs, lists of such. Proved once, over any program. -/
set_option linter.unusedVariables false
namespace Go.Eng
open Go.RowKit Go.ChangeShapes Go.WideShapes
set_option linter.unusedSectionVars false
variable [Inhabited Keep] [Inhabited Hard]

def inKind (k : IntKind) (x : Int) : Prop := k.min ≤ x ∧ x ≤ k.max
section
variable {P : Program} {t : TypeId}
theorem cells_at {w : World} {base : Nat} {a : Addr} {n : Nat} {cs : List Value} (h : w.cells? base a n = some cs) : cs.length = n ∧ cellsAt w a 0 cs := by
  unfold World.cells? at h
  split at h
  · have hl := mapM_some_length h
    refine ⟨by simpa using hl, cellsAt_of fun j v hj => ?_⟩
    have hj' : j < n := by have := (List.getElem?_eq_some_iff.1 hj).1; simp at hl; omega
    have := mapM_some_get h j j (by simp [hj'])
    rw [Nat.zero_add, this]; exact hj
  · cases h

theorem wf_i64 {n : Int} (h : (Lit.int .i64 n).wf = true) : -9223372036854775808 ≤ n ∧ n ≤ 9223372036854775807 := by
  simp only [Lit.wf, Bool.and_eq_true, decide_eq_true_eq] at h
  exact h
theorem in_i64 {n : Int} (h : inKind .i64 n) : -9223372036854775808 ≤ n ∧ n ≤ 9223372036854775807 := h
end
end Go.Eng
/- Numbers and names as terms. -/
namespace Go.Proofs.YtfapphlhkfddoaaGreatDoor.Cut
open Go.RowKit Go.Eng Go.Proofs
set_option linter.unusedVariables false
set_option maxRecDepth 20000

section
variable {P : Program} {ro : Option Nat} {n : Nat} {ds : List Nat} {x y : Code} {e : Env} {w : World} {K : EK}
/-- A sequence, one statement at a time. -/
theorem nc_seq (h : nCode P ro n ds x e w (thenK P ro n y K)) : nCode P ro n ds (.seq x y) e w K :=
  nCode_in fun a hf => wpIn_seq (wpIn_mono (nCode_out h a hf) fun ex a' w' hq => by
    obtain ⟨ds', e', hf', hk⟩ := hq
    cases ex with
    | normal => exact nCode_out hk a' hf'
    | _ => exact ⟨ds', e', hf', hk⟩)
theorem nc_block {id : Nat} (h : nCode P ro n ds x e w (blockK id K)) : nCode P ro n ds (.block id x) e w K :=
  nCode_in fun a hf => wpIn_block (wpIn_mono (nCode_out h a hf) fun ex a' w' hq => by
    obtain ⟨ds', e', hf', hk⟩ := hq
    cases ex with
    | exit id' =>
      simp only [blockK] at hk
      simp only [Exit.inBlock]
      split at hk
      · rename_i hb
        have := Nat.eq_of_beq_eq_true hb
        rw [if_pos this]; exact ⟨ds', e', hf', hk⟩
      · rename_i hb
        rw [if_neg (fun he => by subst he; simp at hb)]
        exact ⟨ds', e', hf', hk⟩
    | _ => exact ⟨ds', e', hf', hk⟩)
end
/-- The byte of n that a shift by i brings down. -/
def byteAt (n i : Int) : UInt8 := b8 (n.fdiv (2 ^ min i.toNat IntKind.u64.bits))
def bytesOf (n : Int) (j : Nat) : List UInt8 := (List.range j).map fun q : Nat => byteAt n (56 - 8 * (q : Int))
theorem bytesOf_succ (n : Int) (j : Nat) : bytesOf n (j + 1) = bytesOf n j ++ [byteAt n (56 - 8 * (j : Int))] := by simp [bytesOf, List.range_succ]
theorem bytesOf_length (n : Int) (j : Nat) : (bytesOf n j).length = j := by simp [bytesOf]
def countedT (c : UInt8) (n : Int) : List UInt8 := c :: bytesOf n 8

theorem counted_calls (cc : UInt8) (n : Int) (w : World) : Calls Tryz.prog 63 #[.int .u8 (cc.toNat : Int), .int .u64 n] w fun e w' => ∃ v, e = .returned v ∧ (v = .string (bs (countedT cc n)) ∧ Bel w.heap.size w w') := by
  have H: Eng.Own (fun _ => False) w w [] := Eng.Own.nil _ w
  refine enter (args := [.int .u8 (cc.toNat : Int), .int .u64 n]) Tryz.func63 rfl Tryz.ntmps63 rfl rfl ?_
  try refine nc ?_
  refine own_buildSlice (e := 5) (sz := 1) (z := .int .u8 0) (cs := [.int .u8 (cc.toNat : Int)]) H (by kernel_rfl) (by kernel_rfl) (by kernel_rfl) rfl rfl rfl rfl ?_
  intro g w1 H
  have H := H.blkRow (n := 1) (sz := 1) rfl (by decide)
  try refine nc ?_
  try refine nc ?_
  refine loop_rule (fun k e w' => ∃ (j : Nat) (z : Value), j + k = 8 ∧ e = [(0, .int .u8 (cc.toNat : Int)), (1, .int .u64 n), (5, z), (6, .int .i64 (56 - 8 * (j : Int)))] ∧ Eng.Own (fun _ => False) w w' [.row z 5 1 (j + 1) (bytesV (cc :: bytesOf n j))]) 8
    [(0, .int .u8 (cc.toNat : Int)), (1, .int .u64 n), (5, .slice (some ⟨g, 0, none⟩) 1 1), (6, .int .i64 (56 - 8 * ((0 : Nat) : Int)))] ⟨rfl, rfl, rfl, rfl, trivial⟩ ⟨0, _, rfl, rfl, H⟩ ?_
  intro k e w' ⟨j, z, hjk, he, H⟩
  subst he
  try refine nc ?_
  try refine nc ?_
  refine cond_of (fun hc => ?_) (fun hc => ?_)
  · have hlt : j < 8 := by have := of_decide_eq_true hc; omega
    try refine nc ?_
    refine shr_rule (fun _ => by omega) ?_
    refine own_buildSlice (e := 5) (sz := 1) (z := .int .u8 0) (cs := [.int .u8 (IntKind.u8.wrap (n.fdiv (2 ^ min (56 - 8 * (j : Int)).toNat IntKind.u64.bits)))]) H (by kernel_rfl) (by kernel_rfl) (by kernel_rfl) rfl rfl rfl rfl ?_
    intro g2 w2 H
    refine own_appendBlk (e := 5) (sz := 1) (z := .int .u8 0) (by_ := 1) (m := 1) H 1 0 rfl rfl (by kernel_rfl) (by kernel_rfl) rfl rfl rfl (by intro u hu; simp at hu; subst hu; rfl) (by omega) (by omega) ?_
    intro z' w3 H
    have ht : bytesV (cc :: bytesOf n j) ++ [.int .u8 (IntKind.u8.wrap (n.fdiv (2 ^ min (56 - 8 * (j : Int)).toNat IntKind.u64.bits)))] = bytesV (cc :: bytesOf n (j + 1)) := by
      rw [b8_wrap, bytesOf_succ, ← List.cons_append, bytesV_append]; rfl
    rw [ht] at H
    try refine nc ?_
    refine again_in (k - 1) (by omega) [(0, .int .u8 (cc.toNat : Int)), (1, .int .u64 n), (5, z'), (6, .int .i64 (56 - 8 * ((j + 1 : Nat) : Int)))] ⟨rfl, rfl, rfl, ?_, trivial⟩ ⟨j + 1, z', by omega, rfl, H.tail⟩
    show some (Value.int .i64 (IntKind.i64.wrap ((56 - 8 * (j : Int)) - 8))) = _
    rw [Eng.i64_id (by omega) (by omega)]
    congr 2
    omega
  · have hge : j = 8 := by have := of_decide_eq_false hc; omega
    subst hge
    obtain ⟨A, c, hz, _, _⟩ := H.rowSl 0 rfl
    subst hz
    try refine nc ?_
    try refine nc ?_
    refine own_toStr (e := 5) (l := cc :: bytesOf n 8) H 0 (by rw [List.length_cons, bytesOf_length]; rfl) (by simp) (by kernel_rfl) (by kernel_rfl) ?_
    try refine nc ?_
    refine ret_of [.string _] ⟨rfl, trivial⟩ ⟨_, rfl, rfl, H.frame⟩

theorem number_calls (n : Int) (w : World) : Calls Tryz.prog 99 #[.int .u64 n] w fun e w' => ∃ v, e = .returned v ∧ (v = .string (bs (countedT 117 n)) ∧ Bel w.heap.size w w') := by
  refine enter (args := [.int .u64 n]) Tryz.func99 rfl Tryz.ntmps99 rfl rfl ?_
  try refine nc ?_
  refine call_rule (by kernel_rfl) (counted_calls 117 n w) fun r w1 ⟨hr, hb⟩ => ?_
  subst hr
  try refine nc ?_
  refine ret_of [.string _] ⟨rfl, trivial⟩ ⟨_, rfl, rfl, hb⟩

theorem name_calls (n : Int) (w : World) : Calls Tryz.prog 26 #[.int .u64 n] w fun e w' => ∃ v, e = .returned v ∧ (v = .string (bs (countedT 110 n)) ∧ Bel w.heap.size w w') := by
  refine enter (args := [.int .u64 n]) Tryz.func26 rfl Tryz.ntmps26 rfl rfl ?_
  try refine nc ?_
  refine call_rule (by kernel_rfl) (counted_calls 110 n w) fun r w1 ⟨hr, hb⟩ => ?_
  subst hr
  try refine nc ?_
  refine ret_of [.string _] ⟨rfl, trivial⟩ ⟨_, rfl, rfl, hb⟩

end Go.Proofs.YtfapphlhkfddoaaGreatDoor.Cut
/- The kinds of data, out of the program's types. -/
namespace Go.Proofs.YtfapphlhkfddoaaGreatDoor.G
open Go.RowKit Go.Eng Go.Proofs
set_option linter.unusedVariables false
set_option maxRecDepth 20000
abbrev D_api_Id := Int × Int
abbrev t_api_Id : Ty D_api_Id := (tPair (tInt .i64) (tInt .i64))
abbrev D_api_View := D_api_Id × (List Int)
abbrev D_list_Message := Int × D_api_Id × D_api_Id × Int × (List Int) × (List (List UInt8))
abbrev t_list_Message : Ty D_list_Message := (tPair (tInt .i64) (tPair t_api_Id (tPair t_api_Id (tPair (tInt .i64) (tPair (tSl (tInt .i64)) (tSl tStr))))))
theorem list_Message_cells {w : World} {ok : Nat → Prop} {x : D_list_Message} {cs : List Value} (h : (t_list_Message).R w ok x cs) : ∃ (u0 : Value) (u1 : Value), cs = [.int .i64 x.1, .int .i64 x.2.1.1, .int .i64 x.2.1.2, .int .i64 x.2.2.1.1, .int .i64 x.2.2.1.2, .int .i64 x.2.2.2.1, u0, u1] ∧ slR (tInt .i64) w ok u0 x.2.2.2.2.1 ∧ slR tStr w ok u1 x.2.2.2.2.2 := by
  obtain ⟨c1, d2, rfl, ha3, hb4⟩ := h
  obtain rfl : c1 = [.int .i64 x.1] := ha3
  obtain ⟨c5, d6, rfl, ha7, hb8⟩ := hb4
  obtain ⟨c9, d10, rfl, ha11, hb12⟩ := ha7
  obtain rfl : c9 = [.int .i64 x.2.1.1] := ha11
  obtain rfl : d10 = [.int .i64 x.2.1.2] := hb12
  obtain ⟨c13, d14, rfl, ha15, hb16⟩ := hb8
  obtain ⟨c17, d18, rfl, ha19, hb20⟩ := ha15
  obtain rfl : c17 = [.int .i64 x.2.2.1.1] := ha19
  obtain rfl : d18 = [.int .i64 x.2.2.1.2] := hb20
  obtain ⟨c21, d22, rfl, ha23, hb24⟩ := hb16
  obtain rfl : c21 = [.int .i64 x.2.2.2.1] := ha23
  obtain ⟨c25, d26, rfl, ha27, hb28⟩ := hb24
  obtain ⟨u29, rfl, hu30⟩ := ha27
  obtain ⟨u31, rfl, hu32⟩ := hb28
  exact ⟨u29, u31, rfl, hu30, hu32⟩
theorem list_Message_in {w : World} {ok : Nat → Prop} {x : D_list_Message} {u0 u1 : Value} (hu0 : slR (tInt .i64) w ok u0 x.2.2.2.2.1) (hu1 : slR tStr w ok u1 x.2.2.2.2.2) : (t_list_Message).R w ok x [.int .i64 x.1, .int .i64 x.2.1.1, .int .i64 x.2.1.2, .int .i64 x.2.2.1.1, .int .i64 x.2.2.1.2, .int .i64 x.2.2.2.1, u0, u1] := ⟨[.int .i64 x.1], [.int .i64 x.2.1.1, .int .i64 x.2.1.2, .int .i64 x.2.2.1.1, .int .i64 x.2.2.1.2, .int .i64 x.2.2.2.1, u0, u1], rfl, rfl, ⟨[.int .i64 x.2.1.1, .int .i64 x.2.1.2], [.int .i64 x.2.2.1.1, .int .i64 x.2.2.1.2, .int .i64 x.2.2.2.1, u0, u1], rfl, ⟨[.int .i64 x.2.1.1], [.int .i64 x.2.1.2], rfl, rfl, rfl⟩, ⟨[.int .i64 x.2.2.1.1, .int .i64 x.2.2.1.2], [.int .i64 x.2.2.2.1, u0, u1], rfl, ⟨[.int .i64 x.2.2.1.1], [.int .i64 x.2.2.1.2], rfl, rfl, rfl⟩, ⟨[.int .i64 x.2.2.2.1], [u0, u1], rfl, rfl, ⟨[u0], [u1], rfl, ⟨u0, rfl, hu0⟩, ⟨u1, rfl, hu1⟩⟩⟩⟩⟩⟩
abbrev D_gemotlaw16_letter := Int × Int × D_list_Message
abbrev t_gemotlaw16_letter : Ty D_gemotlaw16_letter := (tPair (tInt .i64) (tPair (tInt .i64) t_list_Message))
theorem gemotlaw16_letter_cells {w : World} {ok : Nat → Prop} {x : D_gemotlaw16_letter} {cs : List Value} (h : (t_gemotlaw16_letter).R w ok x cs) : ∃ (u0 : Value) (u1 : Value), cs = [.int .i64 x.1, .int .i64 x.2.1, .int .i64 x.2.2.1, .int .i64 x.2.2.2.1.1, .int .i64 x.2.2.2.1.2, .int .i64 x.2.2.2.2.1.1, .int .i64 x.2.2.2.2.1.2, .int .i64 x.2.2.2.2.2.1, u0, u1] ∧ slR (tInt .i64) w ok u0 x.2.2.2.2.2.2.1 ∧ slR tStr w ok u1 x.2.2.2.2.2.2.2 := by
  obtain ⟨c1, d2, rfl, ha3, hb4⟩ := h
  obtain rfl : c1 = [.int .i64 x.1] := ha3
  obtain ⟨c5, d6, rfl, ha7, hb8⟩ := hb4
  obtain rfl : c5 = [.int .i64 x.2.1] := ha7
  obtain ⟨c9, d10, rfl, ha11, hb12⟩ := hb8
  obtain rfl : c9 = [.int .i64 x.2.2.1] := ha11
  obtain ⟨c13, d14, rfl, ha15, hb16⟩ := hb12
  obtain ⟨c17, d18, rfl, ha19, hb20⟩ := ha15
  obtain rfl : c17 = [.int .i64 x.2.2.2.1.1] := ha19
  obtain rfl : d18 = [.int .i64 x.2.2.2.1.2] := hb20
  obtain ⟨c21, d22, rfl, ha23, hb24⟩ := hb16
  obtain ⟨c25, d26, rfl, ha27, hb28⟩ := ha23
  obtain rfl : c25 = [.int .i64 x.2.2.2.2.1.1] := ha27
  obtain rfl : d26 = [.int .i64 x.2.2.2.2.1.2] := hb28
  obtain ⟨c29, d30, rfl, ha31, hb32⟩ := hb24
  obtain rfl : c29 = [.int .i64 x.2.2.2.2.2.1] := ha31
  obtain ⟨c33, d34, rfl, ha35, hb36⟩ := hb32
  obtain ⟨u37, rfl, hu38⟩ := ha35
  obtain ⟨u39, rfl, hu40⟩ := hb36
  exact ⟨u37, u39, rfl, hu38, hu40⟩
theorem gemotlaw16_letter_in {w : World} {ok : Nat → Prop} {x : D_gemotlaw16_letter} {u0 u1 : Value} (hu0 : slR (tInt .i64) w ok u0 x.2.2.2.2.2.2.1) (hu1 : slR tStr w ok u1 x.2.2.2.2.2.2.2) : (t_gemotlaw16_letter).R w ok x [.int .i64 x.1, .int .i64 x.2.1, .int .i64 x.2.2.1, .int .i64 x.2.2.2.1.1, .int .i64 x.2.2.2.1.2, .int .i64 x.2.2.2.2.1.1, .int .i64 x.2.2.2.2.1.2, .int .i64 x.2.2.2.2.2.1, u0, u1] := ⟨[.int .i64 x.1], [.int .i64 x.2.1, .int .i64 x.2.2.1, .int .i64 x.2.2.2.1.1, .int .i64 x.2.2.2.1.2, .int .i64 x.2.2.2.2.1.1, .int .i64 x.2.2.2.2.1.2, .int .i64 x.2.2.2.2.2.1, u0, u1], rfl, rfl, ⟨[.int .i64 x.2.1], [.int .i64 x.2.2.1, .int .i64 x.2.2.2.1.1, .int .i64 x.2.2.2.1.2, .int .i64 x.2.2.2.2.1.1, .int .i64 x.2.2.2.2.1.2, .int .i64 x.2.2.2.2.2.1, u0, u1], rfl, rfl, ⟨[.int .i64 x.2.2.1], [.int .i64 x.2.2.2.1.1, .int .i64 x.2.2.2.1.2, .int .i64 x.2.2.2.2.1.1, .int .i64 x.2.2.2.2.1.2, .int .i64 x.2.2.2.2.2.1, u0, u1], rfl, rfl, ⟨[.int .i64 x.2.2.2.1.1, .int .i64 x.2.2.2.1.2], [.int .i64 x.2.2.2.2.1.1, .int .i64 x.2.2.2.2.1.2, .int .i64 x.2.2.2.2.2.1, u0, u1], rfl, ⟨[.int .i64 x.2.2.2.1.1], [.int .i64 x.2.2.2.1.2], rfl, rfl, rfl⟩, ⟨[.int .i64 x.2.2.2.2.1.1, .int .i64 x.2.2.2.2.1.2], [.int .i64 x.2.2.2.2.2.1, u0, u1], rfl, ⟨[.int .i64 x.2.2.2.2.1.1], [.int .i64 x.2.2.2.2.1.2], rfl, rfl, rfl⟩, ⟨[.int .i64 x.2.2.2.2.2.1], [u0, u1], rfl, rfl, ⟨[u0], [u1], rfl, ⟨u0, rfl, hu0⟩, ⟨u1, rfl, hu1⟩⟩⟩⟩⟩⟩⟩⟩
abbrev D_blind_Blind := (List UInt8) × (List UInt8)
abbrev t_blind_Blind : Ty D_blind_Blind := (tPair tStr tStr)
theorem blind_Blind_cells {w : World} {ok : Nat → Prop} {x : D_blind_Blind} {cs : List Value} (h : (t_blind_Blind).R w ok x cs) : cs = [.string (bs x.1), .string (bs x.2)] := by
  obtain ⟨c1, d2, rfl, ha3, hb4⟩ := h
  obtain rfl : c1 = [.string (bs x.1)] := ha3
  obtain rfl : d2 = [.string (bs x.2)] := hb4
  exact rfl
theorem blind_Blind_in {w : World} {ok : Nat → Prop} {x : D_blind_Blind} : (t_blind_Blind).R w ok x [.string (bs x.1), .string (bs x.2)] := ⟨[.string (bs x.1)], [.string (bs x.2)], rfl, rfl, rfl⟩
abbrev D_term_open := Int × Int × Bool × Int × (List UInt8)
abbrev t_term_open : Ty D_term_open := (tPair (tInt .i64) (tPair (tInt .i64) (tPair tBool (tPair (tInt .i64) tStr))))
theorem term_open_cells {w : World} {ok : Nat → Prop} {x : D_term_open} {cs : List Value} (h : (t_term_open).R w ok x cs) : cs = [.int .i64 x.1, .int .i64 x.2.1, .bool x.2.2.1, .int .i64 x.2.2.2.1, .string (bs x.2.2.2.2)] := by
  obtain ⟨c1, d2, rfl, ha3, hb4⟩ := h
  obtain rfl : c1 = [.int .i64 x.1] := ha3
  obtain ⟨c5, d6, rfl, ha7, hb8⟩ := hb4
  obtain rfl : c5 = [.int .i64 x.2.1] := ha7
  obtain ⟨c9, d10, rfl, ha11, hb12⟩ := hb8
  obtain rfl : c9 = [.bool x.2.2.1] := ha11
  obtain ⟨c13, d14, rfl, ha15, hb16⟩ := hb12
  obtain rfl : c13 = [.int .i64 x.2.2.2.1] := ha15
  obtain rfl : d14 = [.string (bs x.2.2.2.2)] := hb16
  exact rfl
theorem term_open_in {w : World} {ok : Nat → Prop} {x : D_term_open} : (t_term_open).R w ok x [.int .i64 x.1, .int .i64 x.2.1, .bool x.2.2.1, .int .i64 x.2.2.2.1, .string (bs x.2.2.2.2)] := ⟨[.int .i64 x.1], [.int .i64 x.2.1, .bool x.2.2.1, .int .i64 x.2.2.2.1, .string (bs x.2.2.2.2)], rfl, rfl, ⟨[.int .i64 x.2.1], [.bool x.2.2.1, .int .i64 x.2.2.2.1, .string (bs x.2.2.2.2)], rfl, rfl, ⟨[.bool x.2.2.1], [.int .i64 x.2.2.2.1, .string (bs x.2.2.2.2)], rfl, rfl, ⟨[.int .i64 x.2.2.2.1], [.string (bs x.2.2.2.2)], rfl, rfl, rfl⟩⟩⟩⟩
end Go.Proofs.YtfapphlhkfddoaaGreatDoor.G
/- Contracts of term's functions that were walked by hand, in the printed texts' words. -/
namespace Go.Proofs.YtfapphlhkfddoaaGreatDoor.G
open Go.RowKit Go.Eng Go.Proofs Go.Proofs.YtfapphlhkfddoaaGreatDoor.Cut
set_option linter.unusedVariables false
variable {ok : Nat → Prop} {w : World}

def term_Number.f (x0 : Int) : Option (List UInt8) := some (countedT 117 x0)
theorem term_Number_ok {x0 : Int} {r : List UInt8} (h : term_Number.f x0 = some r) : Calls Tryz.prog 99 #[.int .u64 x0] w fun e w' => ∃ v, e = .returned v ∧ (v = .string (bs r) ∧ Bel w.heap.size w w') := by
  cases h
  exact number_calls _ w
def term_Name.f (x0 : Int) : Option (List UInt8) := some (countedT 110 x0)
theorem term_Name_ok {x0 : Int} {r : List UInt8} (h : term_Name.f x0 = some r) : Calls Tryz.prog 26 #[.int .u64 x0] w fun e w' => ∃ v, e = .returned v ∧ (v = .string (bs r) ∧ Bel w.heap.size w w') := by
  cases h
  exact name_calls _ w
end Go.Proofs.YtfapphlhkfddoaaGreatDoor.G
/- (A namespace that other texts open.) -/
namespace Go.Proofs.YtfapphlhkfddoaaGreatDoor.Cut
end Go.Proofs.YtfapphlhkfddoaaGreatDoor.Cut
/- Walks, printed by a program of this proof's own. -/
namespace Go.Proofs.YtfapphlhkfddoaaGreatDoor.G
open Go.RowKit Go.Eng Go.Proofs
set_option linter.unusedVariables false
set_option maxRecDepth 20000
/-! gemot/term.leaf -/
noncomputable def term_leaf.k1 (x0 : List UInt8) (v49 : Int) : Option (Int) := cond (decide (v49 > (x0.length : Int))) (some (0 : Int)) (some v49)
noncomputable def term_leaf.k2 (x0 : List UInt8) (v69 : Bool) : Option (Int) := cond v69 (term_leaf.k1 x0 (2 : Int)) (term_leaf.k1 x0 (0 : Int))
noncomputable def term_leaf.k3 (x0 : List UInt8) (v87 : Bool) : Option (Int) := cond v87 ((idxS x0 (2 : Int)).bind fun y98 => term_leaf.k1 x0 (IntKind.i64.wrap ((3 : Int) + (IntKind.i64.wrap y98)))) (term_leaf.k1 x0 (0 : Int))
noncomputable def term_leaf.k4 (x0 : List UInt8) (y52 : Int) (v56 : Bool) : Option (Int) := cond v56 (term_leaf.k1 x0 (9 : Int)) (cond (y52 == (105 : Int)) (cond (decide ((x0.length : Int) > (1 : Int))) ((idxS x0 (1 : Int)).bind fun y73 => cond (decide (y73 ≥ (1 : Int))) ((idxS x0 (1 : Int)).bind fun y76 => term_leaf.k2 x0 (cond (cond (decide ((x0.length : Int) > (1 : Int))) (decide (y73 ≥ (1 : Int))) false) (decide (y76 ≤ (8 : Int))) false)) (term_leaf.k2 x0 (cond (cond (decide ((x0.length : Int) > (1 : Int))) (decide (y73 ≥ (1 : Int))) false) (decide ((0 : Int) ≤ (8 : Int))) false))) (term_leaf.k2 x0 (cond (cond (decide ((x0.length : Int) > (1 : Int))) (decide ((0 : Int) ≥ (1 : Int))) false) (decide ((0 : Int) ≤ (8 : Int))) false))) (cond (y52 == (116 : Int)) (cond (decide ((x0.length : Int) ≥ (3 : Int))) ((idxS x0 (1 : Int)).bind fun y91 => cond (y91 == (0 : Int)) ((idxS x0 (2 : Int)).bind fun y94 => term_leaf.k3 x0 (cond (cond (decide ((x0.length : Int) ≥ (3 : Int))) (y91 == (0 : Int)) false) (decide (y94 ≤ (100 : Int))) false)) (term_leaf.k3 x0 (cond (cond (decide ((x0.length : Int) ≥ (3 : Int))) (y91 == (0 : Int)) false) (decide ((0 : Int) ≤ (100 : Int))) false))) (term_leaf.k3 x0 (cond (cond (decide ((x0.length : Int) ≥ (3 : Int))) ((0 : Int) == (0 : Int)) false) (decide ((0 : Int) ≤ (100 : Int))) false))) (term_leaf.k1 x0 (0 : Int))))
noncomputable def term_leaf.f (x0 : List UInt8) : Option (Int) := (idxS x0 (0 : Int)).bind fun y52 => cond (y52 == (103 : Int)) (term_leaf.k1 x0 (1 : Int)) (cond (y52 == (110 : Int)) (term_leaf.k4 x0 y52 (y52 == (110 : Int))) (term_leaf.k4 x0 y52 (y52 == (117 : Int))))
set_option maxHeartbeats 4000000 in
theorem term_leaf_ok {ok : Nat → Prop} {w : World} {x0 : List UInt8} {r : Int} (h : term_leaf.f x0 = some r) :
    Calls Tryz.prog 176 #[.string (bs x0)] w fun e w' => ∃ v, e = .returned v ∧ (v = .int .i64 r ∧ Bel w.heap.size w w') := by
  have H : Eng.Own ok w w [] := Eng.Own.nil ok w
  unfold term_leaf.f at h
  refine enterN (args := [.string (bs x0)]) Tryz.func176 rfl Tryz.ntmps176 rfl rfl ?_
  refine nc_seq ?_
  refine nc ?_
  refine nc_seq ?_
  refine nc ?_
  refine nc_cut (fun e w50 => ∃ (v49 : Int), term_leaf.k1 x0 v49 = some r ∧ e = [(0, .string (bs x0)), (3, .int .i64 v49)] ∧ Eng.Own ok w w50 []) ?_ ?_
  · skip
    refine nc_seq ?_
    refine nc ?_
    obtain ⟨y52, hx53, h⟩ := bindS h
    refine idxS_rule (by kernel_rfl) hx53 ?_
    refine nc_block ?_
    refine nc_seq ?_
    refine nc ?_
    refine nc_cond rfl (fun hc54 => ?_) (fun hc54 => ?_)
    · replace h := condT hc54 h
      refine nc ?_
      exact cut_inA ⟨_, h, rfl, H.pickL [] rfl⟩
    · replace h := condF hc54 h
      refine nc_cut (fun e w57 => ∃ (v56 : Bool), term_leaf.k4 x0 y52 v56 = some r ∧ e = [(0, .string (bs x0)), (3, .int .i64 0), (5, .int .u8 y52), (8, .bool v56)] ∧ Eng.Own ok w w57 []) ?_ ?_
      · skip
        refine nc_seq ?_
        refine nc ?_
        refine nc_cond rfl (fun hc59 => ?_) (fun hc59 => ?_)
        · replace h := condT hc59 h
          refine nc ?_
          exact cut_inA ⟨_, h, rfl, H.pickL [] rfl⟩
        · replace h := condF hc59 h
          refine nc ?_
          exact cut_inA ⟨_, h, rfl, H.pickL [] rfl⟩
      · rintro _ w60 ⟨v56, h, rfl, H⟩
        unfold term_leaf.k4 at h
        refine nc_cond rfl (fun hc61 => ?_) (fun hc61 => ?_)
        · replace h := condT hc61 h
          refine nc ?_
          exact cut_inA ⟨_, h, rfl, H.pickL [] rfl⟩
        · replace h := condF hc61 h
          refine nc_seq ?_
          refine nc ?_
          refine nc_cond rfl (fun hc62 => ?_) (fun hc62 => ?_)
          · replace h := condT hc62 h
            refine nc_cut (fun e w70 => ∃ (v69 : Bool), term_leaf.k2 x0 v69 = some r ∧ e = [(0, .string (bs x0)), (3, .int .i64 0), (25, .bool v69)] ∧ Eng.Own ok w w70 []) ?_ ?_
            · skip
              refine nc ?_
              rcases Bool.eq_false_or_eq_true (decide ((x0.length : Int) > (1 : Int))) with hg72 | hg72
              · replace h := condT hg72 h
                obtain ⟨y73, hx74, h⟩ := bindS h
                refine idxS_rule (by kernel_rfl) hx74 ?_
                rcases Bool.eq_false_or_eq_true (decide (y73 ≥ (1 : Int))) with hg75 | hg75
                · replace h := condT hg75 h
                  obtain ⟨y76, hx77, h⟩ := bindS h
                  refine idxS_rule (by kernel_rfl) hx77 ?_
                  exact cut_inA ⟨_, h, rfl, H.pickL [] rfl⟩
                · replace h := condF hg75 h
                  refine skipIX (.int .u8 0) (gF1 ((pickT hg72).trans hg75)) ?_
                  exact cut_inA ⟨_, h, rfl, H.pickL [] rfl⟩
              · replace h := condF hg72 h
                refine skipIX (.int .u8 0) (gF1 hg72) ?_
                refine skipIX (.int .u8 0) (gF1 (pickF hg72)) ?_
                exact cut_inA ⟨_, h, rfl, H.pickL [] rfl⟩
            · rintro _ w78 ⟨v69, h, rfl, H⟩
              unfold term_leaf.k2 at h
              refine nc_cond rfl (fun hc79 => ?_) (fun hc79 => ?_)
              · replace h := condT hc79 h
                refine nc ?_
                exact cut_inA ⟨_, h, rfl, H.pickL [] rfl⟩
              · replace h := condF hc79 h
                refine nc ?_
                exact cut_inA ⟨_, h, rfl, H.pickL [] rfl⟩
          · replace h := condF hc62 h
            refine nc_seq ?_
            refine nc ?_
            refine nc_cond rfl (fun hc80 => ?_) (fun hc80 => ?_)
            · replace h := condT hc80 h
              refine nc_cut (fun e w88 => ∃ (v87 : Bool), term_leaf.k3 x0 v87 = some r ∧ e = [(0, .string (bs x0)), (3, .int .i64 0), (40, .bool v87)] ∧ Eng.Own ok w w88 []) ?_ ?_
              · skip
                refine nc ?_
                rcases Bool.eq_false_or_eq_true (decide ((x0.length : Int) ≥ (3 : Int))) with hg90 | hg90
                · replace h := condT hg90 h
                  obtain ⟨y91, hx92, h⟩ := bindS h
                  refine idxS_rule (by kernel_rfl) hx92 ?_
                  rcases Bool.eq_false_or_eq_true (y91 == (0 : Int)) with hg93 | hg93
                  · replace h := condT hg93 h
                    obtain ⟨y94, hx95, h⟩ := bindS h
                    refine idxS_rule (by kernel_rfl) hx95 ?_
                    exact cut_inA ⟨_, h, rfl, H.pickL [] rfl⟩
                  · replace h := condF hg93 h
                    refine skipIX (.int .u8 0) (gF1 ((pickT hg90).trans hg93)) ?_
                    exact cut_inA ⟨_, h, rfl, H.pickL [] rfl⟩
                · replace h := condF hg90 h
                  refine skipIX (.int .u8 0) (gF1 hg90) ?_
                  refine skipIX (.int .u8 0) (gF1 (pickF hg90)) ?_
                  exact cut_inA ⟨_, h, rfl, H.pickL [] rfl⟩
              · rintro _ w96 ⟨v87, h, rfl, H⟩
                unfold term_leaf.k3 at h
                refine nc_cond rfl (fun hc97 => ?_) (fun hc97 => ?_)
                · replace h := condT hc97 h
                  refine nc ?_
                  obtain ⟨y98, hx99, h⟩ := bindS h
                  refine idxS_rule (by kernel_rfl) hx99 ?_
                  exact cut_inA ⟨_, h, rfl, H.pickL [] rfl⟩
                · replace h := condF hc97 h
                  refine nc ?_
                  exact cut_inA ⟨_, h, rfl, H.pickL [] rfl⟩
            · replace h := condF hc80 h
              refine nc ?_
              exact cut_inA ⟨_, h, rfl, H.pickL [] rfl⟩
  · rintro _ w100 ⟨v49, h, rfl, H⟩
    unfold term_leaf.k1 at h
    refine nc_seq ?_
    refine nc_seq ?_
    refine nc ?_
    refine nc_cond rfl (fun hc101 => ?_) (fun hc101 => ?_)
    · replace h := condT hc101 h
      refine nc_seq ?_
      refine nc ?_
      refine nc ?_
      replace h := Option.some.inj h
      subst h
      exact ret_inA [.int .i64 0] ⟨_, rfl, ⟨rfl, H.frame⟩⟩
    · replace h := condF hc101 h
      refine nc ?_
      refine nc_seq ?_
      refine nc ?_
      refine nc ?_
      replace h := Option.some.inj h
      subst h
      exact ret_inA [.int .i64 v49] ⟨_, rfl, ⟨rfl, H.frame⟩⟩
/-! gemot/term.begin -/
noncomputable def term_begin.k1 (v103 : Int) (v104 : Bool) (v105 : Int) : Option (D_term_open × Int × Bool) := some ((v103, (0 : Int), v104, v105, ([] : List UInt8)), v105, true)
noncomputable def term_begin.k2 (x1 : Int) (v135 : Bool) : Option (D_term_open × Int × Bool) := cond v135 (some (((0 : Int), (0 : Int), false, (IntKind.i64.wrap (x1 + (1 : Int))), ([] : List UInt8)), (0 : Int), false)) (term_begin.k1 (1 : Int) false (IntKind.i64.wrap (x1 + (1 : Int))))
noncomputable def term_begin.k3 (x0 : List UInt8) (x1 : Int) (v185 : Bool) : Option (D_term_open × Int × Bool) := cond v185 (some (((0 : Int), (0 : Int), false, (IntKind.i64.wrap (x1 + (1 : Int))), ([] : List UInt8)), (0 : Int), false)) ((idxS x0 (IntKind.i64.wrap (x1 + (1 : Int)))).bind fun y197 => term_begin.k1 (IntKind.i64.wrap y197) true (IntKind.i64.wrap (x1 + (2 : Int))))
noncomputable def term_begin.k4 (x0 : List UInt8) (x1 : Int) (y108 : Int) (v151 : Bool) : Option (D_term_open × Int × Bool) := cond v151 (term_begin.k1 (2 : Int) false (IntKind.i64.wrap (x1 + (1 : Int)))) (cond (y108 == (115 : Int)) (term_begin.k1 (3 : Int) false (IntKind.i64.wrap (x1 + (1 : Int)))) (cond (y108 == (101 : Int)) (cond (decide ((IntKind.i64.wrap (x1 + (1 : Int))) ≥ (x0.length : Int))) (term_begin.k3 x0 x1 (cond (cond (decide ((IntKind.i64.wrap (x1 + (1 : Int))) ≥ (x0.length : Int))) true (decide ((0 : Int) < (1 : Int)))) true (decide ((0 : Int) > (32 : Int))))) ((idxS x0 (IntKind.i64.wrap (x1 + (1 : Int)))).bind fun y189 => cond (decide (y189 < (1 : Int))) (term_begin.k3 x0 x1 (cond (cond (decide ((IntKind.i64.wrap (x1 + (1 : Int))) ≥ (x0.length : Int))) true (decide (y189 < (1 : Int)))) true (decide ((0 : Int) > (32 : Int))))) ((idxS x0 (IntKind.i64.wrap (x1 + (1 : Int)))).bind fun y192 => term_begin.k3 x0 x1 (cond (cond (decide ((IntKind.i64.wrap (x1 + (1 : Int))) ≥ (x0.length : Int))) true (decide (y189 < (1 : Int)))) true (decide (y192 > (32 : Int))))))) (some (((0 : Int), (0 : Int), false, (IntKind.i64.wrap (x1 + (1 : Int))), ([] : List UInt8)), (0 : Int), false))))
noncomputable def term_begin.f (x0 : List UInt8) (x1 : Int) : Option (D_term_open × Int × Bool) := (idxS x0 x1).bind fun y108 => cond (y108 == (107 : Int)) (cond (decide ((IntKind.i64.wrap (x1 + (1 : Int))) ≥ (x0.length : Int))) (term_begin.k2 x1 (cond (decide ((IntKind.i64.wrap (x1 + (1 : Int))) ≥ (x0.length : Int))) true (cond ((0 : Int) != (103 : Int)) ((0 : Int) != (101 : Int)) false))) ((idxS x0 (IntKind.i64.wrap (x1 + (1 : Int)))).bind fun y139 => cond (y139 != (103 : Int)) ((idxS x0 (IntKind.i64.wrap (x1 + (1 : Int)))).bind fun y142 => term_begin.k2 x1 (cond (decide ((IntKind.i64.wrap (x1 + (1 : Int))) ≥ (x0.length : Int))) true (cond (y139 != (103 : Int)) (y142 != (101 : Int)) false))) (term_begin.k2 x1 (cond (decide ((IntKind.i64.wrap (x1 + (1 : Int))) ≥ (x0.length : Int))) true (cond (y139 != (103 : Int)) ((0 : Int) != (101 : Int)) false))))) (cond (y108 == (104 : Int)) (term_begin.k1 (1 : Int) false (IntKind.i64.wrap (x1 + (1 : Int)))) (cond (y108 == (112 : Int)) (term_begin.k4 x0 x1 y108 (y108 == (112 : Int))) (term_begin.k4 x0 x1 y108 (y108 == (120 : Int)))))
set_option maxHeartbeats 4000000 in
theorem term_begin_ok {ok : Nat → Prop} {w : World} {x0 : List UInt8} {x1 : Int} {r : D_term_open × Int × Bool} (h : term_begin.f x0 x1 = some r) :
    Calls Tryz.prog 177 #[.string (bs x0), .int .i64 x1] w fun e w' => ∃ v, e = .returned v ∧ (v = .tuple #[.agg #[.int .i64 r.1.1, .int .i64 r.1.2.1, .bool r.1.2.2.1, .int .i64 r.1.2.2.2.1, .string (bs r.1.2.2.2.2)], .int .i64 r.2.1, .bool r.2.2] ∧ Bel w.heap.size w w') := by
  have H : Eng.Own ok w w [] := Eng.Own.nil ok w
  unfold term_begin.f at h
  refine enterN (args := [.string (bs x0), .int .i64 x1]) Tryz.func177 rfl Tryz.ntmps177 rfl rfl ?_
  refine nc_seq ?_
  refine nc ?_
  refine own_alloc (z := .agg #[.int .i64 0, .int .i64 0, .bool false, .int .i64 0, .string ⟨#[]⟩]) H (by kernel_rfl) [.int .i64 0, .int .i64 0, .bool false, .int .i64 0, .string ⟨#[]⟩] rfl fun g2 w3 H => ?_
  refine nc_seq ?_
  refine nc ?_
  refine own_alloc (z := .agg #[.int .i64 0, .int .i64 0, .bool false, .int .i64 0, .string ⟨#[]⟩]) H (by kernel_rfl) [.int .i64 0, .int .i64 0, .bool false, .int .i64 0, .string ⟨#[]⟩] rfl fun g5 w6 H => ?_
  refine own_storeB (m := 5) H 0 rfl (by kernel_rfl) [.int .i64 0, .int .i64 0, .bool false, .int .i64 (IntKind.i64.wrap (x1 + (1 : Int))), .string (bs ([] : List UInt8))] rfl rfl rfl rfl fun w7 H => ?_
  refine nc_cut (fun e w106 => ∃ (v103 : Int) (v104 : Bool) (v105 : Int), term_begin.k1 v103 v104 v105 = some r ∧ e = [(4, .pointer (some ⟨g2, 0, none⟩)), (7, .pointer (some ⟨g5, 0, none⟩))] ∧ Eng.Own ok w w106 [.blk g2 [.int .i64 0, .int .i64 0, .bool false, .int .i64 0, .string (bs ([] : List UInt8))] 219, .blk g5 [.int .i64 v103, .int .i64 0, .bool v104, .int .i64 v105, .string (bs ([] : List UInt8))] 219]) ?_ ?_
  · skip
    refine nc_seq ?_
    refine nc ?_
    obtain ⟨y108, hx109, h⟩ := bindS h
    refine idxS_rule (by kernel_rfl) hx109 ?_
    refine nc_block ?_
    refine nc_seq ?_
    refine nc ?_
    refine nc_cond rfl (fun hc110 => ?_) (fun hc110 => ?_)
    · replace h := condT hc110 h
      refine nc_seq ?_
      refine nc_cut (fun e w136 => ∃ (v135 : Bool), term_begin.k2 x1 v135 = some r ∧ e = [(4, .pointer (some ⟨g2, 0, none⟩)), (7, .pointer (some ⟨g5, 0, none⟩)), (35, .bool v135)] ∧ Eng.Own ok w w136 [.blk g2 [.int .i64 0, .int .i64 0, .bool false, .int .i64 0, .string (bs ([] : List UInt8))] 219, .blk g5 [.int .i64 0, .int .i64 0, .bool false, .int .i64 (IntKind.i64.wrap (x1 + (1 : Int))), .string (bs ([] : List UInt8))] 219]) ?_ ?_
      · skip
        refine nc ?_
        rcases Bool.eq_false_or_eq_true (decide ((IntKind.i64.wrap (x1 + (1 : Int))) ≥ (x0.length : Int))) with hg138 | hg138
        · replace h := condT hg138 h
          refine skipIX (.int .u8 0) (gF0 hg138) ?_
          refine skipIX (.int .u8 0) (by first | exact gFr (gF0 hg138) | exact (gF0 hg138) | rfl) ?_
          exact cut_inA ⟨_, h, rfl, H.pickL [1, 0] rfl⟩
        · replace h := condF hg138 h
          obtain ⟨y139, hx140, h⟩ := bindS h
          refine idxS_rule (by kernel_rfl) hx140 ?_
          rcases Bool.eq_false_or_eq_true (y139 != (103 : Int)) with hg141 | hg141
          · replace h := condT hg141 h
            obtain ⟨y142, hx143, h⟩ := bindS h
            refine idxS_rule (by kernel_rfl) hx143 ?_
            exact cut_inA ⟨_, h, rfl, H.pickL [1, 0] rfl⟩
          · replace h := condF hg141 h
            refine skipIX (.int .u8 0) (gF1 hg141) ?_
            exact cut_inA ⟨_, h, rfl, H.pickL [1, 0] rfl⟩
      · rintro _ w144 ⟨v135, h, rfl, H⟩
        unfold term_begin.k2 at h
        refine nc_cond rfl (fun hc145 => ?_) (fun hc145 => ?_)
        · replace h := condT hc145 h
          refine nc_seq ?_
          refine nc ?_
          refine own_loadA (m := 5) H 1 rfl (by kernel_rfl) (by kernel_rfl) [.int .i64 0, .int .i64 0, .bool false, .int .i64 (IntKind.i64.wrap (x1 + (1 : Int))), .string (bs ([] : List UInt8))] rfl rfl ?_
          refine own_storeB (m := 5) H 0 rfl (by kernel_rfl) [.int .i64 0, .int .i64 0, .bool false, .int .i64 (IntKind.i64.wrap (x1 + (1 : Int))), .string (bs ([] : List UInt8))] rfl rfl rfl rfl fun w146 H => ?_
          refine nc ?_
          replace h := Option.some.inj h
          subst h
          exact ret_inA [.agg #[.int .i64 0, .int .i64 0, .bool false, .int .i64 (IntKind.i64.wrap (x1 + (1 : Int))), .string (bs ([] : List UInt8))], .int .i64 0, .bool false] ⟨_, rfl, ⟨rfl, H.frame⟩⟩ (And.intro (Exists.intro _ (And.intro rfl (H.resA (m := 5) 0 rfl (by kernel_rfl) (by kernel_rfl) rfl))) (And.intro rfl (And.intro rfl trivial)))
        · replace h := condF hc145 h
          refine nc ?_
          refine nc ?_
          refine own_storeB (m := 1) H 1 rfl (by kernel_rfl) [.int .i64 1] rfl rfl rfl rfl fun w147 H => ?_
          exact cut_inA ⟨_, _, _, h, rfl, H.pickL [0, 1] rfl⟩
    · replace h := condF hc110 h
      refine nc_seq ?_
      refine nc ?_
      refine nc_cond rfl (fun hc148 => ?_) (fun hc148 => ?_)
      · replace h := condT hc148 h
        refine nc ?_
        refine own_storeB (m := 1) H 0 rfl (by kernel_rfl) [.int .i64 1] rfl rfl rfl rfl fun w149 H => ?_
        exact cut_inA ⟨_, _, _, h, rfl, H.pickL [1, 0] rfl⟩
      · replace h := condF hc148 h
        refine nc_cut (fun e w152 => ∃ (v151 : Bool), term_begin.k4 x0 x1 y108 v151 = some r ∧ e = [(0, .string (bs x0)), (1, .int .i64 x1), (4, .pointer (some ⟨g2, 0, none⟩)), (7, .pointer (some ⟨g5, 0, none⟩)), (13, .int .u8 y108), (41, .bool v151)] ∧ Eng.Own ok w w152 [.blk g2 [.int .i64 0, .int .i64 0, .bool false, .int .i64 0, .string (bs ([] : List UInt8))] 219, .blk g5 [.int .i64 0, .int .i64 0, .bool false, .int .i64 (IntKind.i64.wrap (x1 + (1 : Int))), .string (bs ([] : List UInt8))] 219]) ?_ ?_
        · skip
          refine nc_seq ?_
          refine nc ?_
          refine nc_cond rfl (fun hc154 => ?_) (fun hc154 => ?_)
          · replace h := condT hc154 h
            refine nc ?_
            exact cut_inA ⟨_, h, rfl, H.pickL [1, 0] rfl⟩
          · replace h := condF hc154 h
            refine nc ?_
            exact cut_inA ⟨_, h, rfl, H.pickL [1, 0] rfl⟩
        · rintro _ w155 ⟨v151, h, rfl, H⟩
          unfold term_begin.k4 at h
          refine nc_cond rfl (fun hc156 => ?_) (fun hc156 => ?_)
          · replace h := condT hc156 h
            refine nc ?_
            refine own_storeB (m := 1) H 1 rfl (by kernel_rfl) [.int .i64 2] rfl rfl rfl rfl fun w157 H => ?_
            exact cut_inA ⟨_, _, _, h, rfl, H.pickL [0, 1] rfl⟩
          · replace h := condF hc156 h
            refine nc_seq ?_
            refine nc ?_
            refine nc_cond rfl (fun hc158 => ?_) (fun hc158 => ?_)
            · replace h := condT hc158 h
              refine nc ?_
              refine own_storeB (m := 1) H 1 rfl (by kernel_rfl) [.int .i64 3] rfl rfl rfl rfl fun w159 H => ?_
              exact cut_inA ⟨_, _, _, h, rfl, H.pickL [0, 1] rfl⟩
            · replace h := condF hc158 h
              refine nc_seq ?_
              refine nc ?_
              refine nc_cond rfl (fun hc160 => ?_) (fun hc160 => ?_)
              · replace h := condT hc160 h
                refine nc_seq ?_
                refine nc_cut (fun e w186 => ∃ (v185 : Bool), term_begin.k3 x0 x1 v185 = some r ∧ e = [(0, .string (bs x0)), (1, .int .i64 x1), (4, .pointer (some ⟨g2, 0, none⟩)), (7, .pointer (some ⟨g5, 0, none⟩)), (68, .bool v185)] ∧ Eng.Own ok w w186 [.blk g2 [.int .i64 0, .int .i64 0, .bool false, .int .i64 0, .string (bs ([] : List UInt8))] 219, .blk g5 [.int .i64 0, .int .i64 0, .bool false, .int .i64 (IntKind.i64.wrap (x1 + (1 : Int))), .string (bs ([] : List UInt8))] 219]) ?_ ?_
                · skip
                  refine nc ?_
                  rcases Bool.eq_false_or_eq_true (decide ((IntKind.i64.wrap (x1 + (1 : Int))) ≥ (x0.length : Int))) with hg188 | hg188
                  · replace h := condT hg188 h
                    refine skipIX (.int .u8 0) (gF0 hg188) ?_
                    refine skipIX (.int .u8 0) (gF0 (pickT hg188)) ?_
                    exact cut_inA ⟨_, h, rfl, H.pickL [0, 1] rfl⟩
                  · replace h := condF hg188 h
                    obtain ⟨y189, hx190, h⟩ := bindS h
                    refine idxS_rule (by kernel_rfl) hx190 ?_
                    rcases Bool.eq_false_or_eq_true (decide (y189 < (1 : Int))) with hg191 | hg191
                    · replace h := condT hg191 h
                      refine skipIX (.int .u8 0) (gF0 ((pickF hg188).trans hg191)) ?_
                      exact cut_inA ⟨_, h, rfl, H.pickL [0, 1] rfl⟩
                    · replace h := condF hg191 h
                      obtain ⟨y192, hx193, h⟩ := bindS h
                      refine idxS_rule (by kernel_rfl) hx193 ?_
                      exact cut_inA ⟨_, h, rfl, H.pickL [0, 1] rfl⟩
                · rintro _ w194 ⟨v185, h, rfl, H⟩
                  unfold term_begin.k3 at h
                  refine nc_cond rfl (fun hc195 => ?_) (fun hc195 => ?_)
                  · replace h := condT hc195 h
                    refine nc_seq ?_
                    refine nc ?_
                    refine own_loadA (m := 5) H 1 rfl (by kernel_rfl) (by kernel_rfl) [.int .i64 0, .int .i64 0, .bool false, .int .i64 (IntKind.i64.wrap (x1 + (1 : Int))), .string (bs ([] : List UInt8))] rfl rfl ?_
                    refine own_storeB (m := 5) H 0 rfl (by kernel_rfl) [.int .i64 0, .int .i64 0, .bool false, .int .i64 (IntKind.i64.wrap (x1 + (1 : Int))), .string (bs ([] : List UInt8))] rfl rfl rfl rfl fun w196 H => ?_
                    refine nc ?_
                    replace h := Option.some.inj h
                    subst h
                    exact ret_inA [.agg #[.int .i64 0, .int .i64 0, .bool false, .int .i64 (IntKind.i64.wrap (x1 + (1 : Int))), .string (bs ([] : List UInt8))], .int .i64 0, .bool false] ⟨_, rfl, ⟨rfl, H.frame⟩⟩ (And.intro (Exists.intro _ (And.intro rfl (H.resA (m := 5) 0 rfl (by kernel_rfl) (by kernel_rfl) rfl))) (And.intro rfl (And.intro rfl trivial)))
                  · replace h := condF hc195 h
                    refine nc ?_
                    refine nc ?_
                    obtain ⟨y197, hx198, h⟩ := bindS h
                    refine idxS_rule (by kernel_rfl) hx198 ?_
                    refine own_storeB (m := 1) H 1 rfl (by kernel_rfl) [.int .i64 (IntKind.i64.wrap y197)] rfl rfl rfl rfl fun w199 H => ?_
                    refine own_storeB (m := 1) H 1 rfl (by kernel_rfl) [.bool true] rfl rfl rfl rfl fun w200 H => ?_
                    refine own_storeB (m := 1) H 1 rfl (by kernel_rfl) [.int .i64 (IntKind.i64.wrap (x1 + (2 : Int)))] rfl rfl rfl rfl fun w201 H => ?_
                    exact cut_inA ⟨_, _, _, h, rfl, H.pickL [0, 1] rfl⟩
              · replace h := condF hc160 h
                refine nc_seq ?_
                refine nc ?_
                refine own_loadA (m := 5) H 1 rfl (by kernel_rfl) (by kernel_rfl) [.int .i64 0, .int .i64 0, .bool false, .int .i64 (IntKind.i64.wrap (x1 + (1 : Int))), .string (bs ([] : List UInt8))] rfl rfl ?_
                refine own_storeB (m := 5) H 0 rfl (by kernel_rfl) [.int .i64 0, .int .i64 0, .bool false, .int .i64 (IntKind.i64.wrap (x1 + (1 : Int))), .string (bs ([] : List UInt8))] rfl rfl rfl rfl fun w202 H => ?_
                refine nc ?_
                replace h := Option.some.inj h
                subst h
                exact ret_inA [.agg #[.int .i64 0, .int .i64 0, .bool false, .int .i64 (IntKind.i64.wrap (x1 + (1 : Int))), .string (bs ([] : List UInt8))], .int .i64 0, .bool false] ⟨_, rfl, ⟨rfl, H.frame⟩⟩ (And.intro (Exists.intro _ (And.intro rfl (H.resA (m := 5) 0 rfl (by kernel_rfl) (by kernel_rfl) rfl))) (And.intro rfl (And.intro rfl trivial)))
  · rintro _ w203 ⟨v103, v104, v105, h, rfl, H⟩
    unfold term_begin.k1 at h
    refine nc_seq ?_
    refine nc ?_
    refine draw_ruleB [.blk g5 [.int .i64 v103, .int .i64 0, .bool v104, .int .i64 v105, .string (bs ([] : List UInt8))] 219] [] (fun j => undef) [1000, 1000, 1000, 1000, 1000, 1000] (by kernel_rfl) (by kernel_rfl) H (by repeat first | exact List.nil_sublist _ | apply List.Sublist.cons_cons | apply List.Sublist.cons) ?_
    refine c_loadA (m := 5) 0 rfl (by kernel_rfl) (by kernel_rfl) [.int .i64 v103, .int .i64 0, .bool v104, .int .i64 v105, .string (bs ([] : List UInt8))] rfl rfl ?_
    refine c_load 0 rfl (by kernel_rfl) (j := 3) rfl ?_
    refine c_storeB (m := 5) 0 rfl (by kernel_rfl) [.int .i64 v103, .int .i64 0, .bool v104, .int .i64 v105, .string (bs ([] : List UInt8))] rfl rfl rfl rfl ?_
    refine ⟨(by repeat first | exact List.nil_sublist _ | apply List.Sublist.cons_cons | apply List.Sublist.cons), ?_⟩
    intro w205 H
    refine nc ?_
    replace h := Option.some.inj h
    subst h
    exact ret_inA [.agg #[.int .i64 v103, .int .i64 0, .bool v104, .int .i64 v105, .string (bs ([] : List UInt8))], .int .i64 v105, .bool true] ⟨_, rfl, ⟨rfl, H.frame⟩⟩ (And.intro (Exists.intro _ (And.intro rfl (H.resA (m := 5) 0 rfl (by kernel_rfl) (by kernel_rfl) rfl))) (And.intro rfl (And.intro rfl trivial)))
/-! gemot/term.scan -/
noncomputable def term_scan.b1 (x0 : List UInt8) (v79 : Int) (y643 : Int) (v724 : List D_term_open) (v728 : Int) : Option (((List D_term_open) × Int) ⊕ ((List D_term_open) ⊕ (Int × Int × Int))) := cond ((v724.length : Int) == (0 : Int)) (some (.inr (Sum.inr ((IntKind.i64.wrap (v79 + y643)), v728, (0 : Int))))) ((some (IntKind.i64.wrap ((v724.length : Int) - (1 : Int)))).bind fun j858 => (idxL v724 j858).bind fun y860 => (slcM x0 y860.2.2.2.1 (IntKind.i64.wrap (v79 + y643))).bind fun y866 => cond (cond y860.2.2.1 (strLt y866 y860.2.2.2.2) false) (some (.inr (Sum.inr ((0 : Int), (0 : Int), (2 : Int))))) (cond (decide ((IntKind.i64.wrap (y860.1 - (1 : Int))) > (0 : Int))) (some (.inr (Sum.inl ((((v724.set (j858).toNat ((IntKind.i64.wrap (y860.1 - (1 : Int))), y860.2.1, y860.2.2.1, y860.2.2.2.1, y860.2.2.2.2)).set (j858).toNat ((IntKind.i64.wrap (y860.1 - (1 : Int))), (maxI y860.2.1 v728), y860.2.2.1, y860.2.2.2.1, y860.2.2.2.2)).set (j858).toNat ((IntKind.i64.wrap (y860.1 - (1 : Int))), (maxI y860.2.1 v728), y860.2.2.1, (IntKind.i64.wrap (v79 + y643)), y860.2.2.2.2)).set (j858).toNat ((IntKind.i64.wrap (y860.1 - (1 : Int))), (maxI y860.2.1 v728), y860.2.2.1, (IntKind.i64.wrap (v79 + y643)), y866))))) ((slcM ((((v724.set (j858).toNat ((IntKind.i64.wrap (y860.1 - (1 : Int))), y860.2.1, y860.2.2.1, y860.2.2.2.1, y860.2.2.2.2)).set (j858).toNat ((IntKind.i64.wrap (y860.1 - (1 : Int))), (maxI y860.2.1 v728), y860.2.2.1, y860.2.2.2.1, y860.2.2.2.2)).set (j858).toNat ((IntKind.i64.wrap (y860.1 - (1 : Int))), (maxI y860.2.1 v728), y860.2.2.1, (IntKind.i64.wrap (v79 + y643)), y860.2.2.2.2)).set (j858).toNat ((IntKind.i64.wrap (y860.1 - (1 : Int))), (maxI y860.2.1 v728), y860.2.2.1, (IntKind.i64.wrap (v79 + y643)), y866)) (0 : Int) (IntKind.i64.wrap ((((((v724.set (j858).toNat ((IntKind.i64.wrap (y860.1 - (1 : Int))), y860.2.1, y860.2.2.1, y860.2.2.2.1, y860.2.2.2.2)).set (j858).toNat ((IntKind.i64.wrap (y860.1 - (1 : Int))), (maxI y860.2.1 v728), y860.2.2.1, y860.2.2.2.1, y860.2.2.2.2)).set (j858).toNat ((IntKind.i64.wrap (y860.1 - (1 : Int))), (maxI y860.2.1 v728), y860.2.2.1, (IntKind.i64.wrap (v79 + y643)), y860.2.2.2.2)).set (j858).toNat ((IntKind.i64.wrap (y860.1 - (1 : Int))), (maxI y860.2.1 v728), y860.2.2.1, (IntKind.i64.wrap (v79 + y643)), y866)).length : Int) - (1 : Int)))).bind fun y903 => some (.inl (y903, (IntKind.i64.wrap ((maxI y860.2.1 v728) + (1 : Int))))))))
noncomputable def term_scan.b2 (x0 : List UInt8) (v75 : List D_term_open) (v79 : Int) : Option (((List D_term_open) × Int) ⊕ (Int × Int × Int)) := cond ((v75.length : Int) == (400 : Int)) (some (.inr ((0 : Int), (0 : Int), (4 : Int)))) (cond (decide (v79 ≥ (x0.length : Int))) (some (.inr ((0 : Int), (0 : Int), (2 : Int)))) ((slcM x0 v79 (x0.length : Int)).bind fun y641 => (term_leaf.f y641).bind fun y643 => cond (y643 == (0 : Int)) ((term_begin.f x0 v79).bind fun y650 => cond (!y650.2.2) (some (.inr ((0 : Int), (0 : Int), (2 : Int)))) (roomM 48 (v75.length + 1) (some (.inl ((v75 ++ [(y650.1.1, y650.1.2.1, y650.1.2.2.1, y650.1.2.2.2.1, y650.1.2.2.2.2)]), y650.2.1))))) ((loopM (fun s854 : (List D_term_open) × Int => term_scan.b1 x0 v79 y643 s854.1 s854.2) (v75, (1 : Int))).bind (Sum.elim (fun (o852 : (List D_term_open)) => some (.inl (o852, (IntKind.i64.wrap (v79 + y643))))) (fun (o853 : Int × Int × Int) => some (.inr o853))))))
noncomputable def term_scan.f (x0 : List UInt8) : Option (Int × Int × Int) := (loopM (fun s636 : (List D_term_open) × Int => term_scan.b2 x0 s636.1 s636.2) (([] : List D_term_open), (0 : Int))).bind (fun (o634 : Int × Int × Int) => some o634)
set_option maxHeartbeats 4000000 in
theorem term_scan_ok {ok : Nat → Prop} {w : World} {x0 : List UInt8} {r : Int × Int × Int} (h : term_scan.f x0 = some r) :
    Calls Tryz.prog 127 #[.string (bs x0)] w fun e w' => ∃ v, e = .returned v ∧ (v = .tuple #[.int .i64 r.1, .int .i64 r.2.1, .int .i64 r.2.2] ∧ Bel w.heap.size w w') := by
  have H : Eng.Own ok w w [] := Eng.Own.nil ok w
  unfold term_scan.f at h
  refine enterN (args := [.string (bs x0)]) Tryz.func127 rfl Tryz.ntmps127 rfl rfl ?_
  refine nc_seq ?_
  refine nc ?_
  refine nc_scope ?_
  refine nc_seq ?_
  refine nc ?_
  refine nc_seq ?_
  refine nc ?_
  refine nc_seq ?_
  refine nc ?_
  refine nc_block ?_
  replace H := H.nilRowD t_term_open 219
  obtain ⟨o626, hL627, hO628⟩ := bindS h
  obtain ⟨n629, hL627⟩ := loopS hL627
  refine nc ?_
  refine loop_ruleA (fun k e w633 => ∃ (A76 : Option Addr) (c77 : Nat) (cs78 : List Value) (v75 : List D_term_open) (v79 : Int), iterM (fun s636 : (List D_term_open) × Int => term_scan.b2 x0 s636.1 s636.2) k (v75, v79) = some o626 ∧ e = [(0, .string (bs x0)), (5, .slice A76 v75.length c77), (6, .int .i64 v79)] ∧ Eng.Own ok w w633 [.dat (dRows t_term_open v75 cs78), .row (.slice A76 v75.length c77) 219 5 v75.length cs78]) ⟨none, 0, [], _, _, hL627, rfl, H.pickL [0, 1] rfl⟩ ?_
  rintro k638 _ w637 ⟨A76, c77, cs78, v75, v79, hL627, rfl, H⟩
  obtain ⟨k632, rfl, q630, h, hq631⟩ := iterS hL627
  replace h : term_scan.b2 x0 v75 v79 = some q630 := h
  unfold term_scan.b2 at h
  refine nc_block ?_
  refine nc_seq ?_
  refine nc_seq ?_
  refine nc ?_
  refine nc_cond rfl (fun hc639 => ?_) (fun hc639 => ?_)
  · replace h := condT hc639 h
    refine nc_seq ?_
    refine nc ?_
    refine nc ?_
    cases h
    replace hq631 : ((0 : Int), (0 : Int), (4 : Int)) = o626 := hq631
    subst hq631
    have h := hO628
    try dsimp only [Sum.elim_inl, Sum.elim_inr] at h
    replace h := Option.some.inj h
    subst h
    exact ret_inA [.int .i64 0, .int .i64 0, .int .i64 4] ⟨_, rfl, ⟨rfl, H.frame⟩⟩
  · replace h := condF hc639 h
    refine nc ?_
    refine nc_seq ?_
    refine nc_seq ?_
    refine nc ?_
    refine nc_cond rfl (fun hc640 => ?_) (fun hc640 => ?_)
    · replace h := condT hc640 h
      refine nc_seq ?_
      refine nc ?_
      refine nc ?_
      cases h
      replace hq631 : ((0 : Int), (0 : Int), (2 : Int)) = o626 := hq631
      subst hq631
      have h := hO628
      try dsimp only [Sum.elim_inl, Sum.elim_inr] at h
      replace h := Option.some.inj h
      subst h
      exact ret_inA [.int .i64 0, .int .i64 0, .int .i64 2] ⟨_, rfl, ⟨rfl, H.frame⟩⟩
    · replace h := condF hc640 h
      refine nc ?_
      refine nc_seq ?_
      refine nc ?_
      obtain ⟨y641, hx642, h⟩ := bindS h
      refine txtI_rule v79 (x0.length : Int) (by kernel_rfl) ⟨_, rfl⟩ rfl hx642 ?_
      obtain ⟨y643, hy644, h⟩ := bindS h
      refine call_rule (by kernel_rfl) (term_leaf_ok (ok := fun _ => False) hy644) fun v646 w645 ⟨hv647, hb648⟩ => ?_
      subst hv647
      replace H := H.call hb648
      refine nc_seq ?_
      refine nc_seq ?_
      refine nc ?_
      refine nc_cond rfl (fun hc649 => ?_) (fun hc649 => ?_)
      · replace h := condT hc649 h
        refine nc_seq ?_
        refine nc ?_
        obtain ⟨y650, hy651, h⟩ := bindS h
        refine call_rule (by kernel_rfl) (term_begin_ok (ok := fun _ => False) hy651) fun v653 w652 ⟨hv654, hb655⟩ => ?_
        subst hv654
        replace H := H.call hb655
        refine own_alloc (z := .agg #[.int .i64 0, .int .i64 0, .bool false, .int .i64 0, .string ⟨#[]⟩]) H (by kernel_rfl) [.int .i64 0, .int .i64 0, .bool false, .int .i64 0, .string ⟨#[]⟩] rfl fun g657 w658 H => ?_
        refine own_storeB (m := 5) H 0 rfl (by kernel_rfl) [.int .i64 y650.1.1, .int .i64 y650.1.2.1, .bool y650.1.2.2.1, .int .i64 y650.1.2.2.2.1, .string (bs y650.1.2.2.2.2)] rfl rfl rfl rfl fun w659 H => ?_
        refine nc_seq ?_
        refine nc_seq ?_
        refine nc ?_
        refine nc_cond rfl (fun hc660 => ?_) (fun hc660 => ?_)
        · replace h := condT hc660 h
          refine nc_seq ?_
          refine nc ?_
          refine nc ?_
          cases h
          replace hq631 : ((0 : Int), (0 : Int), (2 : Int)) = o626 := hq631
          subst hq631
          have h := hO628
          try dsimp only [Sum.elim_inl, Sum.elim_inr] at h
          replace h := Option.some.inj h
          subst h
          exact ret_inA [.int .i64 0, .int .i64 0, .int .i64 2] ⟨_, rfl, ⟨rfl, H.frame⟩⟩
        · replace h := condF hc660 h
          refine nc ?_
          refine nc_seq ?_
          refine nc ?_
          refine own_loadA (m := 5) H 0 rfl (by kernel_rfl) (by kernel_rfl) [.int .i64 y650.1.1, .int .i64 y650.1.2.1, .bool y650.1.2.2.1, .int .i64 y650.1.2.2.2.1, .string (bs y650.1.2.2.2.2)] rfl rfl ?_
          refine own_buildSlice (e := 219) (sz := 5) (z := .agg #[.int .i64 0, .int .i64 0, .bool false, .int .i64 0, .string ⟨#[]⟩]) (cs := [.int .i64 y650.1.1, .int .i64 y650.1.2.1, .bool y650.1.2.2.1, .int .i64 y650.1.2.2.2.1, .string (bs y650.1.2.2.2.2)]) H (by kernel_rfl) (by kernel_rfl) (by kernel_rfl) rfl rfl rfl rfl fun g662 w663 H => ?_
          obtain ⟨hr664, h⟩ := roomS h
          refine own_append1 (k := t_term_open) (z := .agg #[.int .i64 0, .int .i64 0, .bool false, .int .i64 0, .string ⟨#[]⟩]) (x := (y650.1.1, y650.1.2.1, y650.1.2.2.1, y650.1.2.2.2.1, y650.1.2.2.2.2)) 48 H 2 1 rfl rfl rfl (term_open_in (x := (y650.1.1, y650.1.2.1, y650.1.2.2.1, y650.1.2.2.2.1, y650.1.2.2.2.2))) (by kernel_rfl) (by kernel_rfl) rfl rfl hr664 rfl fun z665 cs666 w667 H => ?_
          obtain ⟨A668, c669, rfl, _, _⟩ := H.rowSl 2 rfl
          refine nc ?_
          cases h
          exact again_inA ⟨A668, c669, cs666, _, _, hq631, rfl, H.pickL [1, 2] rfl⟩
      · replace h := condF hc649 h
        refine nc ?_
        refine nc_seq ?_
        refine nc ?_
        refine nc_seq ?_
        refine nc ?_
        refine nc_block ?_
        obtain ⟨o844, hL845, hO846⟩ := bindS h
        obtain ⟨n847, hL845⟩ := loopS hL845
        refine nc ?_
        refine loop_ruleA (fun k e w851 => ∃ (A725 : Option Addr) (c726 : Nat) (cs727 : List Value) (v724 : List D_term_open) (v728 : Int), iterM (fun s854 : (List D_term_open) × Int => term_scan.b1 x0 v79 y643 s854.1 s854.2) k (v724, v728) = some o844 ∧ e = [(0, .string (bs x0)), (5, .slice A725 v724.length c726), (6, .int .i64 (IntKind.i64.wrap (v79 + y643))), (11, .int .i64 v728)] ∧ Eng.Own ok w w851 [.dat (dRows t_term_open v724 cs727), .row (.slice A725 v724.length c726) 219 5 v724.length cs727]) ⟨A76, c77, cs78, _, _, hL845, rfl, H.pickL [0, 1] rfl⟩ ?_
        rintro k856 _ w855 ⟨A725, c726, cs727, v724, v728, hL845, rfl, H⟩
        obtain ⟨k850, rfl, q848, h, hq849⟩ := iterS hL845
        replace h : term_scan.b1 x0 v79 y643 v724 v728 = some q848 := h
        unfold term_scan.b1 at h
        refine nc_block ?_
        refine nc_seq ?_
        refine nc_seq ?_
        refine nc ?_
        refine nc_cond rfl (fun hc857 => ?_) (fun hc857 => ?_)
        · replace h := condT hc857 h
          refine nc_seq ?_
          refine nc ?_
          refine nc ?_
          cases h
          replace hq849 : (Sum.inr ((IntKind.i64.wrap (v79 + y643)), v728, (0 : Int))) = o844 := hq849
          subst hq849
          have h := hO846
          try dsimp only [Sum.elim_inl, Sum.elim_inr] at h
          cases h
          replace hq631 : ((IntKind.i64.wrap (v79 + y643)), v728, (0 : Int)) = o626 := hq631
          subst hq631
          have h := hO628
          try dsimp only [Sum.elim_inl, Sum.elim_inr] at h
          replace h := Option.some.inj h
          subst h
          exact ret_inA [.int .i64 (IntKind.i64.wrap (v79 + y643)), .int .i64 v728, .int .i64 0] ⟨_, rfl, ⟨rfl, H.frame⟩⟩
        · replace h := condF hc857 h
          refine nc ?_
          refine nc_seq ?_
          refine nc ?_
          obtain ⟨j858, hJ859, h⟩ := bindS h
          obtain ⟨y860, hx861, h⟩ := bindS h
          obtain ⟨a862, _, rfl, _, _⟩ := H.rowElem (k := t_term_open) 1 0 rfl rfl rfl hx861
          refine idxA_ruleJ (e := 219) 5 _ j858 hJ859 (by kernel_rfl) (by kernel_rfl) (idxL_some hx861).1 (idxL_some hx861).2.1 ?_
          refine nc_seq ?_
          refine nc ?_
          obtain ⟨cs863, hR864, hC865⟩ := H.rowElemJ (k := t_term_open) 1 0 rfl rfl rfl hx861
          replace hR864 : cs863 = [.int .i64 y860.1, .int .i64 y860.2.1, .bool y860.2.2.1, .int .i64 y860.2.2.2.1, .string (bs y860.2.2.2.2)] := by exact term_open_cells hR864
          subst hR864
          refine load_at hC865 3 (by kernel_rfl) rfl ?_
          obtain ⟨y866, hx867, h⟩ := bindS h
          refine txtI_rule y860.2.2.2.1 (IntKind.i64.wrap (v79 + y643)) (by kernel_rfl) ⟨_, rfl⟩ ⟨_, rfl⟩ hx867 ?_
          refine nc_seq ?_
          refine nc_seq ?_
          refine nc ?_
          obtain ⟨cs868, hR869, hC870⟩ := H.rowElemJ (k := t_term_open) 1 0 rfl rfl rfl hx861
          replace hR869 : cs868 = [.int .i64 y860.1, .int .i64 y860.2.1, .bool y860.2.2.1, .int .i64 y860.2.2.2.1, .string (bs y860.2.2.2.2)] := by exact term_open_cells hR869
          subst hR869
          refine load_at hC870 2 (by kernel_rfl) rfl ?_
          obtain ⟨cs871, hR872, hC873⟩ := H.rowElemJ (k := t_term_open) 1 0 rfl rfl rfl hx861
          replace hR872 : cs871 = [.int .i64 y860.1, .int .i64 y860.2.1, .bool y860.2.2.1, .int .i64 y860.2.2.2.1, .string (bs y860.2.2.2.2)] := by exact term_open_cells hR872
          subst hR872
          refine load_at hC873 4 (by kernel_rfl) rfl ?_
          refine nc_cond rfl (fun hc874 => ?_) (fun hc874 => ?_)
          · replace h := condT hc874 h
            refine nc_seq ?_
            refine nc ?_
            refine nc ?_
            cases h
            replace hq849 : (Sum.inr ((0 : Int), (0 : Int), (2 : Int))) = o844 := hq849
            subst hq849
            have h := hO846
            try dsimp only [Sum.elim_inl, Sum.elim_inr] at h
            cases h
            replace hq631 : ((0 : Int), (0 : Int), (2 : Int)) = o626 := hq631
            subst hq631
            have h := hO628
            try dsimp only [Sum.elim_inl, Sum.elim_inr] at h
            replace h := Option.some.inj h
            subst h
            exact ret_inA [.int .i64 0, .int .i64 0, .int .i64 2] ⟨_, rfl, ⟨rfl, H.frame⟩⟩
          · replace h := condF hc874 h
            refine nc ?_
            refine nc_seq ?_
            have hx877 := idxL_set hx861 ((IntKind.i64.wrap (y860.1 - (1 : Int))), y860.2.1, y860.2.2.1, y860.2.2.2.1, y860.2.2.2.2)
            have hx882 := idxL_set hx877 (((IntKind.i64.wrap (y860.1 - (1 : Int))), y860.2.1, y860.2.2.1, y860.2.2.2.1, y860.2.2.2.2).1, (maxI y860.2.1 v728), ((IntKind.i64.wrap (y860.1 - (1 : Int))), y860.2.1, y860.2.2.1, y860.2.2.2.1, y860.2.2.2.2).2.2.1, ((IntKind.i64.wrap (y860.1 - (1 : Int))), y860.2.1, y860.2.2.1, y860.2.2.2.1, y860.2.2.2.2).2.2.2.1, ((IntKind.i64.wrap (y860.1 - (1 : Int))), y860.2.1, y860.2.2.1, y860.2.2.2.1, y860.2.2.2.2).2.2.2.2)
            have hx887 := idxL_set hx882 ((IntKind.i64.wrap (y860.1 - (1 : Int))), (maxI y860.2.1 v728), y860.2.2.1, (IntKind.i64.wrap (v79 + y643)), y860.2.2.2.2)
            have hx892 := idxL_set hx887 ((IntKind.i64.wrap (y860.1 - (1 : Int))), (maxI y860.2.1 v728), y860.2.2.1, (IntKind.i64.wrap (v79 + y643)), y866)
            refine nc ?_
            refine draw_rule [0, 0, 0, 0, 0, 0, 0, 0, 1000, 0, 0, 0, 0, 0, 1000, 0, 0, 0, 0, 0, 0, 0, 0, 0, 0, 0, 0, 0, 0] (by kernel_rfl) (by kernel_rfl) H ?_
            refine c_rowLoad (k := t_term_open) j858 1 0 0 rfl rfl rfl hx861 (by kernel_rfl) (fun _ _ cs hR => (show cs = [.int .i64 y860.1, .int .i64 y860.2.1, .bool y860.2.2.1, .int .i64 y860.2.2.2.1, .string (bs y860.2.2.2.2)] → cs[0]? = some (.int .i64 y860.1) from fun h => by subst h; rfl) (by exact term_open_cells hR)) ?_
            refine c_rowLoad (k := t_term_open) j858 1 0 1 rfl rfl rfl hx861 (by kernel_rfl) (fun _ _ cs hR => (show cs = [.int .i64 y860.1, .int .i64 y860.2.1, .bool y860.2.2.1, .int .i64 y860.2.2.2.1, .string (bs y860.2.2.2.2)] → cs[1]? = some (.int .i64 y860.2.1) from fun h => by subst h; rfl) (by exact term_open_cells hR)) ?_
            refine c_rowStore (k := t_term_open) (m := 1) ((IntKind.i64.wrap (y860.1 - (1 : Int))), y860.2.1, y860.2.2.1, y860.2.2.2.1, y860.2.2.2.2) 1 0 rfl rfl j858 0 rfl hx861 (by kernel_rfl) [.int .i64 (IntKind.i64.wrap (y860.1 - (1 : Int)))] rfl rfl rfl rfl (fun _ _ cs hR => (show cs = [.int .i64 y860.1, .int .i64 y860.2.1, .bool y860.2.2.1, .int .i64 y860.2.2.2.1, .string (bs y860.2.2.2.2)] → (t_term_open).R _ _ ((IntKind.i64.wrap (y860.1 - (1 : Int))), y860.2.1, y860.2.2.1, y860.2.2.2.1, y860.2.2.2.2) (setRange cs 0 [.int .i64 (IntKind.i64.wrap (y860.1 - (1 : Int)))]) from fun h => by subst h; exact term_open_in (x := ((IntKind.i64.wrap (y860.1 - (1 : Int))), y860.2.1, y860.2.2.1, y860.2.2.2.1, y860.2.2.2.2))) (by exact term_open_cells hR)) ?_
            intro cs876
            refine c_rowStore (k := t_term_open) (m := 1) ((IntKind.i64.wrap (y860.1 - (1 : Int))), (maxI y860.2.1 v728), y860.2.2.1, y860.2.2.2.1, y860.2.2.2.2) 1 0 rfl rfl j858 1 (by simp only [List.length_set]) hx877 (by kernel_rfl) [.int .i64 (maxI y860.2.1 v728)] rfl rfl rfl rfl (fun _ _ cs hR => (show cs = [.int .i64 ((IntKind.i64.wrap (y860.1 - (1 : Int)))), .int .i64 (y860.2.1), .bool (y860.2.2.1), .int .i64 (y860.2.2.2.1), .string (bs (y860.2.2.2.2))] → (t_term_open).R _ _ ((IntKind.i64.wrap (y860.1 - (1 : Int))), (maxI y860.2.1 v728), y860.2.2.1, y860.2.2.2.1, y860.2.2.2.2) (setRange cs 1 [.int .i64 (maxI y860.2.1 v728)]) from fun h => by subst h; exact term_open_in (x := ((IntKind.i64.wrap (y860.1 - (1 : Int))), (maxI y860.2.1 v728), y860.2.2.1, y860.2.2.2.1, y860.2.2.2.2))) (by exact term_open_cells hR)) ?_
            intro cs881
            refine c_rowStore (k := t_term_open) (m := 1) ((IntKind.i64.wrap (y860.1 - (1 : Int))), (maxI y860.2.1 v728), y860.2.2.1, (IntKind.i64.wrap (v79 + y643)), y860.2.2.2.2) 1 0 rfl rfl j858 3 (by simp only [List.length_set]) hx882 (by kernel_rfl) [.int .i64 (IntKind.i64.wrap (v79 + y643))] rfl rfl rfl rfl (fun _ _ cs hR => (show cs = [.int .i64 ((IntKind.i64.wrap (y860.1 - (1 : Int)))), .int .i64 ((maxI y860.2.1 v728)), .bool (y860.2.2.1), .int .i64 (y860.2.2.2.1), .string (bs (y860.2.2.2.2))] → (t_term_open).R _ _ ((IntKind.i64.wrap (y860.1 - (1 : Int))), (maxI y860.2.1 v728), y860.2.2.1, (IntKind.i64.wrap (v79 + y643)), y860.2.2.2.2) (setRange cs 3 [.int .i64 (IntKind.i64.wrap (v79 + y643))]) from fun h => by subst h; exact term_open_in (x := ((IntKind.i64.wrap (y860.1 - (1 : Int))), (maxI y860.2.1 v728), y860.2.2.1, (IntKind.i64.wrap (v79 + y643)), y860.2.2.2.2))) (by exact term_open_cells hR)) ?_
            intro cs886
            refine c_rowStore (k := t_term_open) (m := 1) ((IntKind.i64.wrap (y860.1 - (1 : Int))), (maxI y860.2.1 v728), y860.2.2.1, (IntKind.i64.wrap (v79 + y643)), y866) 1 0 rfl rfl j858 4 (by simp only [List.length_set]) hx887 (by kernel_rfl) [.string (bs y866)] rfl rfl rfl rfl (fun _ _ cs hR => (show cs = [.int .i64 ((IntKind.i64.wrap (y860.1 - (1 : Int)))), .int .i64 ((maxI y860.2.1 v728)), .bool (y860.2.2.1), .int .i64 ((IntKind.i64.wrap (v79 + y643))), .string (bs (y860.2.2.2.2))] → (t_term_open).R _ _ ((IntKind.i64.wrap (y860.1 - (1 : Int))), (maxI y860.2.1 v728), y860.2.2.1, (IntKind.i64.wrap (v79 + y643)), y866) (setRange cs 4 [.string (bs y866)]) from fun h => by subst h; exact term_open_in (x := ((IntKind.i64.wrap (y860.1 - (1 : Int))), (maxI y860.2.1 v728), y860.2.2.1, (IntKind.i64.wrap (v79 + y643)), y866))) (by exact term_open_cells hR)) ?_
            intro cs891
            intro w895 H
            rw [show v724.length = ((((v724.set (j858).toNat ((IntKind.i64.wrap (y860.1 - (1 : Int))), y860.2.1, y860.2.2.1, y860.2.2.2.1, y860.2.2.2.2)).set (j858).toNat ((IntKind.i64.wrap (y860.1 - (1 : Int))), (maxI y860.2.1 v728), y860.2.2.1, y860.2.2.2.1, y860.2.2.2.2)).set (j858).toNat ((IntKind.i64.wrap (y860.1 - (1 : Int))), (maxI y860.2.1 v728), y860.2.2.1, (IntKind.i64.wrap (v79 + y643)), y860.2.2.2.2)).set (j858).toNat ((IntKind.i64.wrap (y860.1 - (1 : Int))), (maxI y860.2.1 v728), y860.2.2.1, (IntKind.i64.wrap (v79 + y643)), y866)).length from by simp only [List.length_set]] at H ⊢
            refine nc_seq ?_
            refine nc_seq ?_
            refine nc ?_
            obtain ⟨cs896, hR897, hC898⟩ := H.rowElemJ (k := t_term_open) 1 0 rfl rfl rfl hx892
            replace hR897 : cs896 = [.int .i64 ((IntKind.i64.wrap (y860.1 - (1 : Int)))), .int .i64 ((maxI y860.2.1 v728)), .bool (y860.2.2.1), .int .i64 ((IntKind.i64.wrap (v79 + y643))), .string (bs (y866))] := by exact term_open_cells hR897
            subst hR897
            refine load_at hC898 0 (by kernel_rfl) rfl ?_
            refine nc_cond rfl (fun hc899 => ?_) (fun hc899 => ?_)
            · replace h := condT hc899 h
              refine nc ?_
              cases h
              replace hq849 : (Sum.inl ((((v724.set (j858).toNat ((IntKind.i64.wrap (y860.1 - (1 : Int))), y860.2.1, y860.2.2.1, y860.2.2.2.1, y860.2.2.2.2)).set (j858).toNat ((IntKind.i64.wrap (y860.1 - (1 : Int))), (maxI y860.2.1 v728), y860.2.2.1, y860.2.2.2.1, y860.2.2.2.2)).set (j858).toNat ((IntKind.i64.wrap (y860.1 - (1 : Int))), (maxI y860.2.1 v728), y860.2.2.1, (IntKind.i64.wrap (v79 + y643)), y860.2.2.2.2)).set (j858).toNat ((IntKind.i64.wrap (y860.1 - (1 : Int))), (maxI y860.2.1 v728), y860.2.2.1, (IntKind.i64.wrap (v79 + y643)), y866))) = o844 := hq849
              subst hq849
              have h := hO846
              try dsimp only [Sum.elim_inl, Sum.elim_inr] at h
              cases h
              exact again_inA ⟨some a862, c726, cs891, _, _, hq631, rfl, H.pickL [0, 1] rfl⟩
            · replace h := condF hc899 h
              refine nc ?_
              refine nc_seq ?_
              refine nc ?_
              obtain ⟨cs900, hR901, hC902⟩ := H.rowElemJ (k := t_term_open) 1 0 rfl rfl rfl hx892
              replace hR901 : cs900 = [.int .i64 ((IntKind.i64.wrap (y860.1 - (1 : Int)))), .int .i64 ((maxI y860.2.1 v728)), .bool (y860.2.2.1), .int .i64 ((IntKind.i64.wrap (v79 + y643))), .string (bs (y866))] := by exact term_open_cells hR901
              subst hR901
              refine load_at hC902 1 (by kernel_rfl) rfl ?_
              refine nc ?_
              obtain ⟨y903, hx904, h⟩ := bindS h
              refine own_rowTake (k := t_term_open) (e := 219) (IntKind.i64.wrap ((((((v724.set (j858).toNat ((IntKind.i64.wrap (y860.1 - (1 : Int))), y860.2.1, y860.2.2.1, y860.2.2.2.1, y860.2.2.2.2)).set (j858).toNat ((IntKind.i64.wrap (y860.1 - (1 : Int))), (maxI y860.2.1 v728), y860.2.2.1, y860.2.2.2.1, y860.2.2.2.2)).set (j858).toNat ((IntKind.i64.wrap (y860.1 - (1 : Int))), (maxI y860.2.1 v728), y860.2.2.1, (IntKind.i64.wrap (v79 + y643)), y860.2.2.2.2)).set (j858).toNat ((IntKind.i64.wrap (y860.1 - (1 : Int))), (maxI y860.2.1 v728), y860.2.2.1, (IntKind.i64.wrap (v79 + y643)), y866)).length : Int) - (1 : Int))) H 1 0 rfl rfl rfl (by kernel_rfl) (by kernel_rfl) ⟨_, rfl⟩ hx904 fun A905 c906 cs907 H => ?_
              cases h
              exact again_inA ⟨A905, c906, cs907, _, _, hq849, rfl, H.pickL [0, 1] rfl⟩
/-! gemot/term.Take -/
noncomputable def term_Take.f (x0 : List UInt8) : Option ((List UInt8) × (List UInt8) × Int) := (term_scan.f x0).bind fun y1 => cond (y1.2.2 != (0 : Int)) (some (([] : List UInt8), ([] : List UInt8), y1.2.2)) (cond (decide (y1.1 > (20000 : Int))) (some (([] : List UInt8), ([] : List UInt8), (3 : Int))) ((slcM x0 (0 : Int) y1.1).bind fun y9 => (slcM x0 y1.1 (x0.length : Int)).bind fun y11 => some (y9, y11, (0 : Int))))
set_option maxHeartbeats 4000000 in
theorem term_Take_ok {ok : Nat → Prop} {w : World} {x0 : List UInt8} {r : (List UInt8) × (List UInt8) × Int} (h : term_Take.f x0 = some r) :
    Calls Tryz.prog 101 #[.string (bs x0)] w fun e w' => ∃ v, e = .returned v ∧ (v = .tuple #[.string (bs r.1), .string (bs r.2.1), .int .i64 r.2.2] ∧ Bel w.heap.size w w') := by
  have H : Eng.Own ok w w [] := Eng.Own.nil ok w
  unfold term_Take.f at h
  refine enterN (args := [.string (bs x0)]) Tryz.func101 rfl Tryz.ntmps101 rfl rfl ?_
  refine nc_seq ?_
  refine nc ?_
  refine nc_seq ?_
  refine nc ?_
  obtain ⟨y1, hy2, h⟩ := bindS h
  refine call_rule (by kernel_rfl) (term_scan_ok (ok := fun _ => False) hy2) fun v4 w3 ⟨hv5, hb6⟩ => ?_
  subst hv5
  replace H := H.call hb6
  refine nc_seq ?_
  refine nc_block ?_
  refine nc_seq ?_
  refine nc ?_
  refine nc_cond rfl (fun hc7 => ?_) (fun hc7 => ?_)
  · replace h := condT hc7 h
    refine nc_seq ?_
    refine nc ?_
    refine nc ?_
    replace h := Option.some.inj h
    subst h
    exact ret_inA [.string (bs ([] : List UInt8)), .string (bs ([] : List UInt8)), .int .i64 y1.2.2] ⟨_, rfl, ⟨rfl, H.frame⟩⟩
  · replace h := condF hc7 h
    refine nc_seq ?_
    refine nc ?_
    refine nc_cond rfl (fun hc8 => ?_) (fun hc8 => ?_)
    · replace h := condT hc8 h
      refine nc_seq ?_
      refine nc ?_
      refine nc ?_
      replace h := Option.some.inj h
      subst h
      exact ret_inA [.string (bs ([] : List UInt8)), .string (bs ([] : List UInt8)), .int .i64 3] ⟨_, rfl, ⟨rfl, H.frame⟩⟩
    · replace h := condF hc8 h
      refine nc ?_
      refine nc_seq ?_
      obtain ⟨y9, hx10, h⟩ := bindS h
      obtain ⟨y11, hx12, h⟩ := bindS h
      refine nc ?_
      refine draw_rule [] (by kernel_rfl) (by kernel_rfl) H ?_
      refine c_txtI (0 : Int) y1.1 (by kernel_rfl) rfl ⟨_, rfl⟩ hx10 ?_
      refine c_txtI y1.1 (x0.length : Int) (by kernel_rfl) ⟨_, rfl⟩ rfl hx12 ?_
      intro w13 H
      refine nc ?_
      replace h := Option.some.inj h
      subst h
      exact ret_inA [.string (bs y9), .string (bs y11), .int .i64 0] ⟨_, rfl, ⟨rfl, H.frame⟩⟩
/-! gemot/term.Right -/
noncomputable def term_Right.f (x0 : List UInt8) : Option (Bool) := (term_Take.f x0).bind fun y1 => some (cond (cond (y1.2.2 == (0 : Int)) (strEq y1.2.1 ([] : List UInt8)) false) (strEq y1.1 x0) false)
set_option maxHeartbeats 4000000 in
theorem term_Right_ok {ok : Nat → Prop} {w : World} {x0 : List UInt8} {r : Bool} (h : term_Right.f x0 = some r) :
    Calls Tryz.prog 61 #[.string (bs x0)] w fun e w' => ∃ v, e = .returned v ∧ (v = .bool r ∧ Bel w.heap.size w w') := by
  have H : Eng.Own ok w w [] := Eng.Own.nil ok w
  unfold term_Right.f at h
  refine enterN (args := [.string (bs x0)]) Tryz.func61 rfl Tryz.ntmps61 rfl rfl ?_
  refine nc_seq ?_
  refine nc ?_
  refine nc_seq ?_
  refine nc ?_
  obtain ⟨y1, hy2, h⟩ := bindS h
  refine call_rule (by kernel_rfl) (term_Take_ok (ok := fun _ => False) hy2) fun v4 w3 ⟨hv5, hb6⟩ => ?_
  subst hv5
  replace H := H.call hb6
  refine nc_seq ?_
  refine nc ?_
  refine nc ?_
  replace h := Option.some.inj h
  subst h
  exact ret_inA [.bool (cond (cond (y1.2.2 == (0 : Int)) (strEq y1.2.1 ([] : List UInt8)) false) (strEq y1.1 x0) false)] ⟨_, rfl, ⟨rfl, H.frame⟩⟩
/-! internal/stringslite.HasPrefix -/
noncomputable def internal_stringslite_HasPrefix.k1 (v4 : Bool) : Option (Bool) := some v4
noncomputable def internal_stringslite_HasPrefix.f (x0 : List UInt8) (x1 : List UInt8) : Option (Bool) := cond (decide ((x0.length : Int) ≥ (x1.length : Int))) ((slcM x0 (0 : Int) (x1.length : Int)).bind fun y8 => internal_stringslite_HasPrefix.k1 (cond (decide ((x0.length : Int) ≥ (x1.length : Int))) (strEq y8 x1) false)) (internal_stringslite_HasPrefix.k1 (cond (decide ((x0.length : Int) ≥ (x1.length : Int))) (strEq ([] : List UInt8) x1) false))
set_option maxHeartbeats 4000000 in
theorem internal_stringslite_HasPrefix_ok {ok : Nat → Prop} {w : World} {x0 : List UInt8} {x1 : List UInt8} {r : Bool} (h : internal_stringslite_HasPrefix.f x0 x1 = some r) :
    Calls Tryz.prog 163 #[.string (bs x0), .string (bs x1)] w fun e w' => ∃ v, e = .returned v ∧ (v = .bool r ∧ Bel w.heap.size w w') := by
  have H : Eng.Own ok w w [] := Eng.Own.nil ok w
  unfold internal_stringslite_HasPrefix.f at h
  refine enterN (args := [.string (bs x0), .string (bs x1)]) Tryz.func163 rfl Tryz.ntmps163 rfl rfl ?_
  refine nc_seq ?_
  refine nc ?_
  refine nc_cut (fun e w5 => ∃ (v4 : Bool), internal_stringslite_HasPrefix.k1 v4 = some r ∧ e = [(4, .bool v4)] ∧ Eng.Own ok w w5 []) ?_ ?_
  · skip
    refine nc ?_
    rcases Bool.eq_false_or_eq_true (decide ((x0.length : Int) ≥ (x1.length : Int))) with hg7 | hg7
    · replace h := condT hg7 h
      obtain ⟨y8, hx9, h⟩ := bindS h
      refine txtI_rule (0 : Int) (x1.length : Int) (by kernel_rfl) rfl ⟨_, rfl⟩ hx9 ?_
      exact cut_inA ⟨_, h, rfl, H.pickL [] rfl⟩
    · replace h := condF hg7 h
      refine skipSL (.string (bs ([] : List UInt8))) (gF1 hg7) ?_
      exact cut_inA ⟨_, h, rfl, H.pickL [] rfl⟩
  · rintro _ w10 ⟨v4, h, rfl, H⟩
    unfold internal_stringslite_HasPrefix.k1 at h
    refine nc ?_
    replace h := Option.some.inj h
    subst h
    exact ret_inA [.bool v4] ⟨_, rfl, ⟨rfl, H.frame⟩⟩
/-! strings.HasPrefix -/
noncomputable def strings_HasPrefix.f (x0 : List UInt8) (x1 : List UInt8) : Option (Bool) := (internal_stringslite_HasPrefix.f x0 x1).bind fun y1 => some y1
set_option maxHeartbeats 4000000 in
theorem strings_HasPrefix_ok {ok : Nat → Prop} {w : World} {x0 : List UInt8} {x1 : List UInt8} {r : Bool} (h : strings_HasPrefix.f x0 x1 = some r) :
    Calls Tryz.prog 123 #[.string (bs x0), .string (bs x1)] w fun e w' => ∃ v, e = .returned v ∧ (v = .bool r ∧ Bel w.heap.size w w') := by
  have H : Eng.Own ok w w [] := Eng.Own.nil ok w
  unfold strings_HasPrefix.f at h
  refine enterN (args := [.string (bs x0), .string (bs x1)]) Tryz.func123 rfl Tryz.ntmps123 rfl rfl ?_
  refine nc_seq ?_
  refine nc ?_
  refine nc_seq ?_
  refine nc ?_
  obtain ⟨y1, hy2, h⟩ := bindS h
  refine call_rule (by kernel_rfl) (internal_stringslite_HasPrefix_ok (ok := fun _ => False) hy2) fun v4 w3 ⟨hv5, hb6⟩ => ?_
  subst hv5
  replace H := H.call hb6
  refine nc ?_
  replace h := Option.some.inj h
  subst h
  exact ret_inA [.bool y1] ⟨_, rfl, ⟨rfl, H.frame⟩⟩
/-! gemot/view.Row -/
noncomputable def view_Row.b1 (x0 : List Int) (v67 : Int) (v68 : Int) : Option ((Int × Int) ⊕ (Int ⊕ Bool)) := cond (decide (v68 < (x0.length : Int))) ((idxL x0 v68).bind fun y102 => cond (cond (decide (y102 ≤ v67)) true (decide (y102 > (8 : Int)))) (some (.inr (Sum.inr false))) (some (.inl (y102, (IntKind.i64.wrap (v68 + (1 : Int))))))) (some (.inr (Sum.inl v67)))
noncomputable def view_Row.k2 (v56 : Int) : Option (Bool) := some (decide (v56 > (0 : Int)))
noncomputable def view_Row.f (x0 : List Int) : Option (Bool) := (loopM (fun s98 : Int × Int => view_Row.b1 x0 s98.1 s98.2) ((0 : Int), (0 : Int))).bind (Sum.elim (fun (o96 : Int) => view_Row.k2 o96) (fun (o97 : Bool) => some o97))
set_option maxHeartbeats 4000000 in
theorem view_Row_ok {ok : Nat → Prop} {w : World} {u1 : Value} {x0 : List Int} {r : Bool} (hu2 : slR (tInt .i64) w ok u1 x0) (h : view_Row.f x0 = some r) :
    Calls Tryz.prog 94 #[u1] w fun e w' => ∃ v, e = .returned v ∧ (v = .bool r ∧ Bel w.heap.size w w') := by
  have H : Eng.Own ok w w [] := Eng.Own.nil ok w
  obtain ⟨A3, c4, rfl, H⟩ := H.arg rfl hu2
  unfold view_Row.f at h
  refine enterN (args := [.slice A3 x0.length c4]) Tryz.func94 rfl Tryz.ntmps94 rfl rfl ?_
  refine nc_seq ?_
  refine nc ?_
  refine nc_seq ?_
  refine nc ?_
  refine nc_cut (fun e w57 => ∃ (v56 : Int), view_Row.k2 v56 = some r ∧ e = [(3, .int .i64 v56)] ∧ Eng.Own ok w w57 []) ?_ ?_
  · skip
    refine nc_seq ?_
    refine nc ?_
    refine nc_block ?_
    obtain ⟨o88, hL89, hO90⟩ := bindS h
    obtain ⟨n91, hL89⟩ := loopS hL89
    refine nc ?_
    refine loop_ruleA (fun k e w95 => ∃ (v67 : Int) (v68 : Int), iterM (fun s98 : Int × Int => view_Row.b1 x0 s98.1 s98.2) k (v67, v68) = some o88 ∧ e = [(3, .int .i64 v67), (6, .slice A3 x0.length c4), (7, .int .i64 (x0.length : Int)), (8, .int .i64 v68)] ∧ Eng.Own ok w w95 [.dat (dSl (tInt .i64) (.slice A3 x0.length c4) x0)]) ⟨_, _, hL89, rfl, H.pickL [0] rfl⟩ ?_
    rintro k100 _ w99 ⟨v67, v68, hL89, rfl, H⟩
    obtain ⟨k94, rfl, q92, h, hq93⟩ := iterS hL89
    replace h : view_Row.b1 x0 v67 v68 = some q92 := h
    unfold view_Row.b1 at h
    refine nc_seq ?_
    refine nc ?_
    refine nc_seq ?_
    refine nc_cond rfl (fun hc101 => ?_) (fun hc101 => ?_)
    · replace h := condT hc101 h
      refine nc ?_
      refine nc_seq ?_
      refine nc_block ?_
      refine nc_seq ?_
      refine nc ?_
      obtain ⟨y102, hx103, h⟩ := bindS h
      obtain ⟨a104, cs105, rfl, hR106, H⟩ := H.elemI 0 rfl hx103
      obtain rfl : cs105 = [.int .i64 y102] := hR106
      refine idxA_rule (e := 3) 1 _ (by kernel_rfl) (by kernel_rfl) (idxL_some hx103).1 (idxL_some hx103).2.1 ?_
      refine own_loadD H 0 rfl 0 (by kernel_rfl) rfl ?_
      refine nc_seq ?_
      refine nc_seq ?_
      refine nc ?_
      refine nc_cond rfl (fun hc108 => ?_) (fun hc108 => ?_)
      · replace h := condT hc108 h
        refine nc_seq ?_
        refine nc ?_
        refine nc ?_
        cases h
        replace hq93 : (Sum.inr false) = o88 := hq93
        subst hq93
        have h := hO90
        try dsimp only [Sum.elim_inl, Sum.elim_inr] at h
        replace h := Option.some.inj h
        subst h
        exact ret_inA [.bool false] ⟨_, rfl, ⟨rfl, H.frame⟩⟩
      · replace h := condF hc108 h
        refine nc ?_
        refine nc ?_
        refine nc ?_
        cases h
        exact again_inA ⟨_, _, hq93, rfl, H.pickL [1] rfl⟩
    · replace h := condF hc101 h
      refine nc ?_
      cases h
      replace hq93 : (Sum.inl v67) = o88 := hq93
      subst hq93
      have h := hO90
      try dsimp only [Sum.elim_inl, Sum.elim_inr] at h
      exact cut_inA ⟨_, h, rfl, H.pickL [] rfl⟩
  · rintro _ w109 ⟨v56, h, rfl, H⟩
    unfold view_Row.k2 at h
    refine nc_seq ?_
    refine nc ?_
    refine nc ?_
    replace h := Option.some.inj h
    subst h
    exact ret_inA [.bool (decide (v56 > (0 : Int)))] ⟨_, rfl, ⟨rfl, H.frame⟩⟩
/-! slices.Index(()int,int) -/
noncomputable def slices_Index_int_int.b1 (x0 : List Int) (x1 : Int) (v63 : Int) : Option (Int ⊕ (Unit ⊕ Int)) := cond (decide (v63 < (x0.length : Int))) ((idxL x0 v63).bind fun y95 => cond (x1 == y95) (some (.inr (Sum.inr v63))) (some (.inl (IntKind.i64.wrap (v63 + (1 : Int)))))) (some (.inr (Sum.inl ())))
noncomputable def slices_Index_int_int.k2 : Option (Int) := some (-1)
noncomputable def slices_Index_int_int.f (x0 : List Int) (x1 : Int) : Option (Int) := (loopM (fun s91 : Int => slices_Index_int_int.b1 x0 x1 s91) (0 : Int)).bind (Sum.elim (fun (o89 : Unit) => slices_Index_int_int.k2) (fun (o90 : Int) => some o90))
set_option maxHeartbeats 4000000 in
theorem slices_Index_int_int_ok {ok : Nat → Prop} {w : World} {u1 : Value} {x0 : List Int} {x1 : Int} {r : Int} (hu2 : slR (tInt .i64) w ok u1 x0) (h : slices_Index_int_int.f x0 x1 = some r) :
    Calls Tryz.prog 52 #[u1, .int .i64 x1] w fun e w' => ∃ v, e = .returned v ∧ (v = .int .i64 r ∧ Bel w.heap.size w w') := by
  have H : Eng.Own ok w w [] := Eng.Own.nil ok w
  obtain ⟨A3, c4, rfl, H⟩ := H.arg rfl hu2
  unfold slices_Index_int_int.f at h
  refine enterN (args := [.slice A3 x0.length c4, .int .i64 x1]) Tryz.func52 rfl Tryz.ntmps52 rfl rfl ?_
  refine nc_seq ?_
  refine nc ?_
  refine nc_cut (fun e w53 => slices_Index_int_int.k2 = some r ∧ e = [] ∧ Eng.Own ok w w53 []) ?_ ?_
  · skip
    refine nc_seq ?_
    refine nc ?_
    refine nc_block ?_
    obtain ⟨o81, hL82, hO83⟩ := bindS h
    obtain ⟨n84, hL82⟩ := loopS hL82
    refine nc ?_
    refine loop_ruleA (fun k e w88 => ∃ (v63 : Int), iterM (fun s91 : Int => slices_Index_int_int.b1 x0 x1 s91) k v63 = some o81 ∧ e = [(0, .slice A3 x0.length c4), (1, .int .i64 x1), (7, .int .i64 (x0.length : Int)), (8, .int .i64 v63)] ∧ Eng.Own ok w w88 [.dat (dSl (tInt .i64) (.slice A3 x0.length c4) x0)]) ⟨_, hL82, rfl, H.pickL [0] rfl⟩ ?_
    rintro k93 _ w92 ⟨v63, hL82, rfl, H⟩
    obtain ⟨k87, rfl, q85, h, hq86⟩ := iterS hL82
    replace h : slices_Index_int_int.b1 x0 x1 v63 = some q85 := h
    unfold slices_Index_int_int.b1 at h
    refine nc_seq ?_
    refine nc ?_
    refine nc_seq ?_
    refine nc_cond rfl (fun hc94 => ?_) (fun hc94 => ?_)
    · replace h := condT hc94 h
      refine nc ?_
      refine nc_seq ?_
      refine nc_block ?_
      refine nc_seq ?_
      refine nc ?_
      refine nc_seq ?_
      refine nc ?_
      obtain ⟨y95, hx96, h⟩ := bindS h
      obtain ⟨a97, cs98, rfl, hR99, H⟩ := H.elemI 0 rfl hx96
      obtain rfl : cs98 = [.int .i64 y95] := hR99
      refine idxA_rule (e := 3) 1 _ (by kernel_rfl) (by kernel_rfl) (idxL_some hx96).1 (idxL_some hx96).2.1 ?_
      refine own_loadD H 0 rfl 0 (by kernel_rfl) rfl ?_
      refine nc_cond rfl (fun hc101 => ?_) (fun hc101 => ?_)
      · replace h := condT hc101 h
        refine nc_seq ?_
        refine nc ?_
        refine nc ?_
        cases h
        replace hq86 : (Sum.inr v63) = o81 := hq86
        subst hq86
        have h := hO83
        try dsimp only [Sum.elim_inl, Sum.elim_inr] at h
        replace h := Option.some.inj h
        subst h
        exact ret_inA [.int .i64 v63] ⟨_, rfl, ⟨rfl, H.frame⟩⟩
      · replace h := condF hc101 h
        refine nc ?_
        refine nc ?_
        cases h
        exact again_inA ⟨_, hq86, rfl, H.pickL [1] rfl⟩
    · replace h := condF hc94 h
      refine nc ?_
      cases h
      replace hq86 : (Sum.inl ()) = o81 := hq86
      subst hq86
      have h := hO83
      try dsimp only [Sum.elim_inl, Sum.elim_inr] at h
      exact cut_inA ⟨h, rfl, H.pickL [] rfl⟩
  · rintro _ w102 ⟨h, rfl, H⟩
    unfold slices_Index_int_int.k2 at h
    refine nc_seq ?_
    refine nc ?_
    refine nc ?_
    replace h := Option.some.inj h
    subst h
    exact ret_inA [.int .i64 (-1)] ⟨_, rfl, ⟨rfl, H.frame⟩⟩
/-! slices.Contains(()int,int) -/
noncomputable def slices_Contains_int_int.f (x0 : List Int) (x1 : Int) : Option (Bool) := (slices_Index_int_int.f x0 x1).bind fun y6 => some (decide (y6 ≥ (0 : Int)))
set_option maxHeartbeats 4000000 in
theorem slices_Contains_int_int_ok {ok : Nat → Prop} {w : World} {u1 : Value} {x0 : List Int} {x1 : Int} {r : Bool} (hu2 : slR (tInt .i64) w ok u1 x0) (h : slices_Contains_int_int.f x0 x1 = some r) :
    Calls Tryz.prog 100 #[u1, .int .i64 x1] w fun e w' => ∃ v, e = .returned v ∧ (v = .bool r ∧ Bel w.heap.size w w') := by
  have H : Eng.Own ok w w [] := Eng.Own.nil ok w
  obtain ⟨A3, c4, rfl, H⟩ := H.arg rfl hu2
  unfold slices_Contains_int_int.f at h
  refine enterN (args := [.slice A3 x0.length c4, .int .i64 x1]) Tryz.func100 rfl Tryz.ntmps100 rfl rfl ?_
  refine nc_seq ?_
  refine nc ?_
  refine nc_seq ?_
  refine nc ?_
  obtain ⟨y6, hy7, h⟩ := bindS h
  refine call_rule (by kernel_rfl) (slices_Index_int_int_ok (H.dat 0 rfl) hy7) fun v9 w8 ⟨hv10, hb11⟩ => ?_
  subst hv10
  replace H := H.call hb11
  refine nc ?_
  replace h := Option.some.inj h
  subst h
  exact ret_inA [.bool (decide (y6 ≥ (0 : Int)))] ⟨_, rfl, ⟨rfl, H.frame⟩⟩
/-! gemot/view.Has -/
noncomputable def view_Has.f (x0 : List Int) (x1 : Int) : Option (Bool) := (slices_Contains_int_int.f x0 x1).bind fun y6 => some y6
set_option maxHeartbeats 4000000 in
theorem view_Has_ok {ok : Nat → Prop} {w : World} {u1 : Value} {x0 : List Int} {x1 : Int} {r : Bool} (hu2 : slR (tInt .i64) w ok u1 x0) (h : view_Has.f x0 x1 = some r) :
    Calls Tryz.prog 60 #[u1, .int .i64 x1] w fun e w' => ∃ v, e = .returned v ∧ (v = .bool r ∧ Bel w.heap.size w w') := by
  have H : Eng.Own ok w w [] := Eng.Own.nil ok w
  obtain ⟨A3, c4, rfl, H⟩ := H.arg rfl hu2
  unfold view_Has.f at h
  refine enterN (args := [.slice A3 x0.length c4, .int .i64 x1]) Tryz.func60 rfl Tryz.ntmps60 rfl rfl ?_
  refine nc_seq ?_
  refine nc ?_
  refine nc_seq ?_
  refine nc ?_
  obtain ⟨y6, hy7, h⟩ := bindS h
  refine call_rule (by kernel_rfl) (slices_Contains_int_int_ok (H.dat 0 rfl) hy7) fun v9 w8 ⟨hv10, hb11⟩ => ?_
  subst hv10
  replace H := H.call hb11
  refine nc ?_
  replace h := Option.some.inj h
  subst h
  exact ret_inA [.bool y6] ⟨_, rfl, ⟨rfl, H.frame⟩⟩
/-! gemot/term.element -/
noncomputable def term_element.k1 (v13 : Bool) : Option (Bool) := some v13
noncomputable def term_element.f (x0 : List UInt8) : Option (Bool) := (term_Right.f x0).bind fun y16 => cond y16 ((idxS x0 (0 : Int)).bind fun y23 => cond (y23 == (103 : Int)) (term_element.k1 (cond y16 (cond (y23 == (103 : Int)) true ((0 : Int) == (101 : Int))) false)) ((idxS x0 (0 : Int)).bind fun y26 => term_element.k1 (cond y16 (cond (y23 == (103 : Int)) true (y26 == (101 : Int))) false))) (term_element.k1 (cond y16 (cond ((0 : Int) == (103 : Int)) true ((0 : Int) == (101 : Int))) false))
set_option maxHeartbeats 4000000 in
theorem term_element_ok {ok : Nat → Prop} {w : World} {x0 : List UInt8} {r : Bool} (h : term_element.f x0 = some r) :
    Calls Tryz.prog 79 #[.string (bs x0)] w fun e w' => ∃ v, e = .returned v ∧ (v = .bool r ∧ Bel w.heap.size w w') := by
  have H : Eng.Own ok w w [] := Eng.Own.nil ok w
  unfold term_element.f at h
  refine enterN (args := [.string (bs x0)]) Tryz.func79 rfl Tryz.ntmps79 rfl rfl ?_
  refine nc_seq ?_
  refine nc ?_
  refine nc_cut (fun e w14 => ∃ (v13 : Bool), term_element.k1 v13 = some r ∧ e = [(2, .bool v13)] ∧ Eng.Own ok w w14 []) ?_ ?_
  · skip
    refine nc ?_
    obtain ⟨y16, hy17, h⟩ := bindS h
    refine call_rule (by kernel_rfl) (term_Right_ok (ok := fun _ => False) hy17) fun v19 w18 ⟨hv20, hb21⟩ => ?_
    subst hv20
    replace H := H.call hb21
    rcases Bool.eq_false_or_eq_true y16 with hg22 | hg22
    · replace h := condT hg22 h
      obtain ⟨y23, hx24, h⟩ := bindS h
      refine idxS_rule (by kernel_rfl) hx24 ?_
      rcases Bool.eq_false_or_eq_true (y23 == (103 : Int)) with hg25 | hg25
      · replace h := condT hg25 h
        refine skipIX (.int .u8 0) (gF0 hg25) ?_
        exact cut_inA ⟨_, h, rfl, H.pickL [] rfl⟩
      · replace h := condF hg25 h
        obtain ⟨y26, hx27, h⟩ := bindS h
        refine idxS_rule (by kernel_rfl) hx27 ?_
        exact cut_inA ⟨_, h, rfl, H.pickL [] rfl⟩
    · replace h := condF hg22 h
      refine skipIX (.int .u8 0) (gF1 hg22) ?_
      refine skipIX (.int .u8 0) (by first | exact gFr (gF1 hg22) | exact (gF1 hg22) | rfl) ?_
      exact cut_inA ⟨_, h, rfl, H.pickL [] rfl⟩
  · rintro _ w28 ⟨v13, h, rfl, H⟩
    unfold term_element.k1 at h
    refine nc ?_
    replace h := Option.some.inj h
    subst h
    exact ret_inA [.bool v13] ⟨_, rfl, ⟨rfl, H.frame⟩⟩
/-! gemot/term.whole -/
noncomputable def term_whole.f (x0 : List UInt8) : Option ((List UInt8) × Int) := cond (decide ((x0.length : Int) > (20000 : Int))) (some (([] : List UInt8), (3 : Int))) ((term_Right.f x0).bind fun y2 => cond (!y2) (some (([] : List UInt8), (4 : Int))) (some (x0, (0 : Int))))
set_option maxHeartbeats 4000000 in
theorem term_whole_ok {ok : Nat → Prop} {w : World} {x0 : List UInt8} {r : (List UInt8) × Int} (h : term_whole.f x0 = some r) :
    Calls Tryz.prog 82 #[.string (bs x0)] w fun e w' => ∃ v, e = .returned v ∧ (v = .tuple #[.string (bs r.1), .int .i64 r.2] ∧ Bel w.heap.size w w') := by
  have H : Eng.Own ok w w [] := Eng.Own.nil ok w
  unfold term_whole.f at h
  refine enterN (args := [.string (bs x0)]) Tryz.func82 rfl Tryz.ntmps82 rfl rfl ?_
  refine nc_seq ?_
  refine nc ?_
  refine nc_seq ?_
  refine nc_seq ?_
  refine nc ?_
  refine nc_cond rfl (fun hc1 => ?_) (fun hc1 => ?_)
  · replace h := condT hc1 h
    refine nc_seq ?_
    refine nc ?_
    refine nc ?_
    replace h := Option.some.inj h
    subst h
    exact ret_inA [.string (bs ([] : List UInt8)), .int .i64 3] ⟨_, rfl, ⟨rfl, H.frame⟩⟩
  · replace h := condF hc1 h
    refine nc ?_
    refine nc_seq ?_
    refine nc_seq ?_
    refine nc ?_
    obtain ⟨y2, hy3, h⟩ := bindS h
    refine call_rule (by kernel_rfl) (term_Right_ok (ok := fun _ => False) hy3) fun v5 w4 ⟨hv6, hb7⟩ => ?_
    subst hv6
    replace H := H.call hb7
    refine nc_cond rfl (fun hc8 => ?_) (fun hc8 => ?_)
    · replace h := condT hc8 h
      refine nc_seq ?_
      refine nc ?_
      refine nc ?_
      replace h := Option.some.inj h
      subst h
      exact ret_inA [.string (bs ([] : List UInt8)), .int .i64 4] ⟨_, rfl, ⟨rfl, H.frame⟩⟩
    · replace h := condF hc8 h
      refine nc ?_
      refine nc_seq ?_
      refine nc ?_
      refine nc ?_
      replace h := Option.some.inj h
      subst h
      exact ret_inA [.string (bs x0), .int .i64 0] ⟨_, rfl, ⟨rfl, H.frame⟩⟩
/-! gemot/term.exponents -/
noncomputable def term_exponents.b1 (v133 : List (List UInt8)) (v137 : List UInt8) : Option (((List (List UInt8)) × (List UInt8)) ⊕ (List (List UInt8))) := cond (!(strEq v137 ([] : List UInt8))) ((term_Take.f v137).bind fun y197 => roomM 16 (v133.length + 1) (some (.inl ((v133 ++ [y197.1]), y197.2.1)))) (some (.inr v133))
noncomputable def term_exponents.k2 (v106 : List (List UInt8)) : Option ((List (List UInt8))) := some v106
noncomputable def term_exponents.f (x0 : List UInt8) : Option ((List (List UInt8))) := (idxS x0 (0 : Int)).bind fun y1 => cond (y1 == (103 : Int)) (some ([] : List (List UInt8))) ((slcM x0 (2 : Int) (x0.length : Int)).bind fun y112 => (loopM (fun s193 : (List (List UInt8)) × (List UInt8) => term_exponents.b1 s193.1 s193.2) (([] : List (List UInt8)), y112)).bind (fun (o191 : (List (List UInt8))) => term_exponents.k2 o191))
set_option maxHeartbeats 4000000 in
theorem term_exponents_ok {ok : Nat → Prop} {w : World} {x0 : List UInt8} {r : (List (List UInt8))} (h : term_exponents.f x0 = some r) :
    Calls Tryz.prog 80 #[.string (bs x0)] w fun e w' => ∃ v, e = .returned v ∧ (rowOut w w' ok tStr 9 v r ∧ Bel w.heap.size w w') := by
  have H : Eng.Own ok w w [] := Eng.Own.nil ok w
  unfold term_exponents.f at h
  refine enterN (args := [.string (bs x0)]) Tryz.func80 rfl Tryz.ntmps80 rfl rfl ?_
  refine nc_seq ?_
  refine nc ?_
  refine nc_seq ?_
  refine nc_seq ?_
  refine nc ?_
  obtain ⟨y1, hx2, h⟩ := bindS h
  refine idxS_rule (by kernel_rfl) hx2 ?_
  refine nc_cond rfl (fun hc3 => ?_) (fun hc3 => ?_)
  · replace h := condT hc3 h
    refine nc_seq ?_
    refine nc ?_
    refine nc ?_
    replace h := Option.some.inj h
    subst h
    exact ret_inA [.slice none 0 0] ⟨_, rfl, ⟨rowNil, H.frame⟩⟩
  · replace h := condF hc3 h
    refine nc ?_
    refine nc_seq ?_
    refine nc ?_
    refine nc_cut (fun e w110 => ∃ (A107 : Option Addr) (c108 : Nat) (cs109 : List Value) (v106 : List (List UInt8)), term_exponents.k2 v106 = some r ∧ e = [(3, .slice A107 v106.length c108)] ∧ Eng.Own ok w w110 [.dat (dRows tStr v106 cs109), .row (.slice A107 v106.length c108) 9 1 v106.length cs109]) ?_ ?_
    · skip
      refine nc_seq ?_
      refine nc ?_
      obtain ⟨y112, hx113, h⟩ := bindS h
      refine txtI_rule (2 : Int) (x0.length : Int) (by kernel_rfl) ⟨_, rfl⟩ rfl hx113 ?_
      refine nc_block ?_
      replace H := H.nilRowD tStr 9
      obtain ⟨o183, hL184, hO185⟩ := bindS h
      obtain ⟨n186, hL184⟩ := loopS hL184
      refine nc ?_
      refine loop_ruleA (fun k e w190 => ∃ (A134 : Option Addr) (c135 : Nat) (cs136 : List Value) (v133 : List (List UInt8)) (v137 : List UInt8), iterM (fun s193 : (List (List UInt8)) × (List UInt8) => term_exponents.b1 s193.1 s193.2) k (v133, v137) = some o183 ∧ e = [(3, .slice A134 v133.length c135), (4, .string (bs v137))] ∧ Eng.Own ok w w190 [.dat (dRows tStr v133 cs136), .row (.slice A134 v133.length c135) 9 1 v133.length cs136]) ⟨none, 0, [], _, _, hL184, rfl, H.pickL [0, 1] rfl⟩ ?_
      rintro k195 _ w194 ⟨A134, c135, cs136, v133, v137, hL184, rfl, H⟩
      obtain ⟨k189, rfl, q187, h, hq188⟩ := iterS hL184
      replace h : term_exponents.b1 v133 v137 = some q187 := h
      unfold term_exponents.b1 at h
      refine nc_seq ?_
      refine nc_seq ?_
      refine nc ?_
      refine nc_cond rfl (fun hc196 => ?_) (fun hc196 => ?_)
      · replace h := condT hc196 h
        refine nc ?_
        refine nc_block ?_
        refine nc_seq ?_
        refine nc ?_
        obtain ⟨y197, hy198, h⟩ := bindS h
        refine call_rule (by kernel_rfl) (term_Take_ok (ok := fun _ => False) hy198) fun v200 w199 ⟨hv201, hb202⟩ => ?_
        subst hv201
        replace H := H.call hb202
        refine nc ?_
        refine own_buildSlice (e := 9) (sz := 1) (z := .string ⟨#[]⟩) (cs := [.string (bs y197.1)]) H (by kernel_rfl) (by kernel_rfl) (by kernel_rfl) rfl rfl rfl rfl fun g204 w205 H => ?_
        obtain ⟨hr206, h⟩ := roomS h
        refine own_append1 (k := tStr) (z := .string ⟨#[]⟩) (x := y197.1) 16 H 1 0 rfl rfl rfl rfl (by kernel_rfl) (by kernel_rfl) rfl rfl hr206 rfl fun z207 cs208 w209 H => ?_
        obtain ⟨A210, c211, rfl, _, _⟩ := H.rowSl 1 rfl
        cases h
        exact again_inA ⟨A210, c211, cs208, _, _, hq188, rfl, H.pickL [0, 1] rfl⟩
      · replace h := condF hc196 h
        refine nc ?_
        cases h
        replace hq188 : v133 = o183 := hq188
        subst hq188
        have h := hO185
        try dsimp only [Sum.elim_inl, Sum.elim_inr] at h
        exact cut_inA ⟨A134, c135, cs136, _, h, rfl, H.pickL [0, 1] rfl⟩
    · rintro _ w213 ⟨A107, c108, cs109, v106, h, rfl, H⟩
      unfold term_exponents.k2 at h
      refine nc_seq ?_
      refine nc ?_
      refine nc ?_
      replace h := Option.some.inj h
      subst h
      exact ret_inA [.slice A107 v106.length c108] ⟨_, rfl, ⟨H.outR 1 0 rfl rfl rfl, H.frame⟩⟩
/-! gemot/term.Gen -/
noncomputable def term_Gen.f : Option ((List UInt8)) := some [103]
set_option maxHeartbeats 4000000 in
theorem term_Gen_ok {ok : Nat → Prop} {w : World} {r : (List UInt8)} (h : term_Gen.f = some r) :
    Calls Tryz.prog 42 #[] w fun e w' => ∃ v, e = .returned v ∧ (v = .string (bs r) ∧ Bel w.heap.size w w') := by
  have H : Eng.Own ok w w [] := Eng.Own.nil ok w
  unfold term_Gen.f at h
  refine enterN (args := []) Tryz.func42 rfl Tryz.ntmps42 rfl rfl ?_
  refine nc_seq ?_
  refine nc ?_
  refine nc_seq ?_
  refine nc ?_
  refine nc ?_
  replace h := Option.some.inj h
  subst h
  exact ret_inA [.string (bs [103])] ⟨_, rfl, ⟨rfl, H.frame⟩⟩
/-! gemot/term.Key -/
noncomputable def term_Key.f (x0 : List UInt8) : Option ((List UInt8) × Int) := (term_element.f x0).bind fun y1 => cond (!y1) (some (([] : List UInt8), (1 : Int))) (roomM 1 ([107].length + x0.length) ((term_whole.f ([107] ++ x0)).bind fun y9 => some (y9.1, y9.2)))
set_option maxHeartbeats 4000000 in
theorem term_Key_ok {ok : Nat → Prop} {w : World} {x0 : List UInt8} {r : (List UInt8) × Int} (h : term_Key.f x0 = some r) :
    Calls Tryz.prog 43 #[.string (bs x0)] w fun e w' => ∃ v, e = .returned v ∧ (v = .tuple #[.string (bs r.1), .int .i64 r.2] ∧ Bel w.heap.size w w') := by
  have H : Eng.Own ok w w [] := Eng.Own.nil ok w
  unfold term_Key.f at h
  refine enterN (args := [.string (bs x0)]) Tryz.func43 rfl Tryz.ntmps43 rfl rfl ?_
  refine nc_seq ?_
  refine nc ?_
  refine nc_seq ?_
  refine nc_seq ?_
  refine nc ?_
  obtain ⟨y1, hy2, h⟩ := bindS h
  refine call_rule (by kernel_rfl) (term_element_ok (ok := fun _ => False) hy2) fun v4 w3 ⟨hv5, hb6⟩ => ?_
  subst hv5
  replace H := H.call hb6
  refine nc_cond rfl (fun hc7 => ?_) (fun hc7 => ?_)
  · replace h := condT hc7 h
    refine nc_seq ?_
    refine nc ?_
    refine nc ?_
    replace h := Option.some.inj h
    subst h
    exact ret_inA [.string (bs ([] : List UInt8)), .int .i64 1] ⟨_, rfl, ⟨rfl, H.frame⟩⟩
  · replace h := condF hc7 h
    refine nc ?_
    refine nc_seq ?_
    refine nc ?_
    obtain ⟨hr8, h⟩ := roomS h
    refine catM_rule hr8 ?_
    obtain ⟨y9, hy10, h⟩ := bindS h
    refine call_rule (by kernel_rfl) (term_whole_ok (ok := fun _ => False) hy10) fun v12 w11 ⟨hv13, hb14⟩ => ?_
    subst hv13
    replace H := H.call hb14
    refine nc ?_
    replace h := Option.some.inj h
    subst h
    exact ret_inA [.string (bs y9.1), .int .i64 y9.2] ⟨_, rfl, ⟨rfl, H.frame⟩⟩
end Go.Proofs.YtfapphlhkfddoaaGreatDoor.G
